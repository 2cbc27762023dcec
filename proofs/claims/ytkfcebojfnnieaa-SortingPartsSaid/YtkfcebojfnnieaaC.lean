import Derived.Test.YtkfcebojfnnieaaA
import Derived.Test.YtkfcebojfnnieaaB
import Derived.Test.YtkfcebojfnnieaaZ
import Derived.Test.YtkfcebojfnnieaaRows
import Derived.WalkKit
import Derived.WalkSpells
import Derived.WalkLawsBesides
import Derived.Laws.EntriesVeiled
import Derived.ProofKit
import Derived.OpenShut
import Derived.Lib.Hide
import Derived.BigQuiet
import Derived.Deep.QuietTactic
import Derived.Below
import Derived.Laws.OwnMore
import Derived.Deep.AppendLies
import Derived.Deep.Draws
import Derived.Laws.Rows
import Derived.Maps.AppendAt
import Derived.RegionTactic
import Derived.OwnWalk
import Derived.Deep.RegionHeld3
namespace Go.Proofs.Ytkfcebojfnnieaa
open Go.ChangeShapes Go.WideShapes Go.ChangeAt Go.RowKit
set_option linter.unusedSimpArgs false
set_option linter.unusedVariables false
def pw (P k : Nat) : Nat := P ^ k
theorem pw_zero (P : Nat) : pw P 0 = 1 := Nat.pow_zero P
theorem pw_succ (P j : Nat) : pw P (j + 1) = pw P j * P := Nat.pow_succ P j
theorem pw_le64 {P j : Nat} (hP : P ≤ 64) (hj : j ≤ 4) : pw P j ≤ 16777216 := Nat.le_trans (Nat.pow_le_pow_left hP j) (Nat.le_trans (Nat.pow_le_pow_right (by decide) hj) (by decide))
theorem ret_int {k : IntKind} {a b : Int} (h : a = b) : Ending.returned (.int k a) = .returned (.int k b) := by rw [h]

set_option maxHeartbeats 1000000 in
theorem power_any (P k : Nat) (w : World) (hP : P ≤ 64) (hk : k ≤ 4) (r : Nat) (hr : pw P k = r) :
    Calls Try.prog 30 #[.int .i64 (P : Int), .int .i64 (k : Int)] w fun e w' => e = .returned (.int .i64 (r : Int)) ∧ w = w' := by
  have HR := Lib.hid hr; clear hr
  go_enter Try.func30, Try.ntmps30
  go_wp2
  go_loop [5, 7] (fun v i => ∃ j : Nat, j ≤ k ∧ i = .int .i64 (j : Int) ∧ v = .int .i64 ((pw P j : Nat) : Int)) (fun _ i => k - (intOf i).toNat)
  case atStart => exact ⟨0, by omega, rfl, by rw [pw_zero]; rfl⟩
  case round =>
    obtain ⟨j, hj, rfl, rfl⟩ := hrel
    by_cases hlt : j < k
    · have hb := pw_le64 hP (show j + 1 ≤ 4 by omega)
      have hs := Lib.hid (pw_succ P j)
      rw [pw_succ] at hb
      generalize pw P j = a at *
      have hb2 : (a : Int) * (P : Int) ≤ 16777216 := by rw [← Int.natCast_mul]; omega
      have hb1 : (0 : Int) ≤ (a : Int) * (P : Int) := by exact_mod_cast Nat.zero_le (a * P)
      have hw1 : IntKind.i64.wrap ((a : Int) * (P : Int)) = (a : Int) * (P : Int) := IntWalk.i64_in _ (by omega)
      clear hb
      go_wp2
      clear hb1 hb2 hw1
      go_round
      case rel => exact ⟨j + 1, by omega, by go_num, by rw [hs.out]; congr 1⟩
      case measure => simp [intOf]; omega
    · obtain rfl : j = k := by omega
      go_wp2
      go_ret
      exact ⟨ret_int (by rw [HR.out]), rfl⟩

set_option maxHeartbeats 1000000 in
theorem rpower_any (P k : Nat) (w : World) (hP : P ≤ 64) (hk : k ≤ 4) (r : Nat) (hr : pw P k = r) :
    Calls Try.prog 27 #[.int .i64 (P : Int), .int .i64 (k : Int)] w fun e w' => e = .returned (.int .i64 (r : Int)) ∧ w = w' := by
  have HR := Lib.hid hr; clear hr
  go_enter Try.func27, Try.ntmps27
  go_wp2
  go_loop [5, 6] (fun v i => ∃ j : Nat, j ≤ k ∧ i = .int .i64 (j : Int) ∧ v = .int .i64 ((pw P j : Nat) : Int)) (fun _ i => k - (intOf i).toNat)
  case atStart => exact ⟨0, by omega, rfl, by rw [pw_zero]; rfl⟩
  case round =>
    obtain ⟨j, hj, rfl, rfl⟩ := hrel
    by_cases hlt : j < k
    · have hb := pw_le64 hP (show j + 1 ≤ 4 by omega)
      have hs := Lib.hid (pw_succ P j)
      rw [pw_succ] at hb
      generalize pw P j = a at *
      have hb2 : (a : Int) * (P : Int) ≤ 16777216 := by rw [← Int.natCast_mul]; omega
      have hb1 : (0 : Int) ≤ (a : Int) * (P : Int) := by exact_mod_cast Nat.zero_le (a * P)
      have hw1 : IntKind.i64.wrap ((a : Int) * (P : Int)) = (a : Int) * (P : Int) := IntWalk.i64_in _ (by omega)
      clear hb
      go_wp2
      clear hb1 hb2 hw1
      go_round
      case rel => exact ⟨j + 1, by omega, by go_num, by rw [hs.out]; congr 1⟩
      case measure => simp [intOf]; omega
    · obtain rfl : j = k := by omega
      go_wp2
      go_ret
      exact ⟨ret_int (by rw [HR.out]), rfl⟩

def machB (P : Int) : Bool := decide (2 ≤ P) && decide (P ≤ 64)
set_option maxHeartbeats 400000 in
theorem machine_any (P : Int) (w : World) (r : Bool) (hr : machB P = r) : Calls Try.prog 29 #[.int .i64 P] w fun e w' => e = .returned (.bool r) ∧ w = w' := by
  subst hr
  by_cases h1 : 2 ≤ P
  · by_cases h2 : P ≤ 64
    · have E := Lib.hid (show machB P = true by simp [machB, h1, h2])
      go_enter Try.func29, Try.ntmps29
      go_wp2
      go_ret
      exact ⟨by rw [E.out]; rfl, rfl⟩
    · have E := Lib.hid (show machB P = false by simp [machB, h1, h2])
      have h2' : decide (P ≤ 64) = false := by simpa using h2
      go_enter Try.func29, Try.ntmps29
      go_wp2
      go_ret
      exact ⟨by rw [E.out]; rfl, rfl⟩
  · have E := Lib.hid (show machB P = false by simp [machB, h1])
    have h1' : decide (2 ≤ P) = false := by simpa using h1
    go_enter Try.func29, Try.ntmps29
    go_wp2
    go_ret
    exact ⟨by rw [E.out]; rfl, rfl⟩

set_option maxHeartbeats 400000 in
theorem base_any (a : Int) (w : World) (h0 : 0 ≤ a) (h1 : a ≤ 255) (P : Nat) (hP : 2 + a % 63 = (P : Int)) : Calls Try.prog 23 #[.int .u8 a] w fun e w' => e = .returned (.int .i64 (P : Int)) ∧ w = w' := by
  have HP := Lib.hid hP; clear hP
  go_enter Try.func23, Try.ntmps23
  go_wp2
  go_ret
  exact ⟨ret_int HP.out, rfl⟩

def cntF (l : List Int) (x : Int) : Nat := l.count x
theorem cnt_hit {l : List Int} {k : Nat} {x y : Int} (hx : l[k]? = some y) (h : y = x) : cntF (l.take (k + 1)) x = cntF (l.take k) x + 1 := by
  unfold cntF; rw [List.take_add_one, hx]; simp [h]
theorem cnt_miss {l : List Int} {k : Nat} {x y : Int} (hx : l[k]? = some y) (h : y ≠ x) : cntF (l.take (k + 1)) x = cntF (l.take k) x := by
  unfold cntF; rw [List.take_add_one, hx]; simp [List.count_append, h]
theorem cnt_le (l : List Int) (k : Nat) (x : Int) : cntF (l.take k) x ≤ k := Nat.le_trans List.count_le_length (by simp; omega)
set_option maxHeartbeats 1000000 in
theorem count_any (l : List Int) (A : Option Addr) (n c : Nat) (x : Int) (w : World) (hl : Nums .i64 w w.heap.size A l) (hn : l.length ≤ 1000000000000) (hln : n = l.length) (r : Nat) (hr : cntF l x = r) :
    Calls Try.prog 25 #[.slice A n c, .int .i64 x] w fun e w' => e = .returned (.int .i64 (r : Int)) ∧ Keeps w w' := by
  have HR := Lib.hid hr; clear hr
  rw [← hln] at hn
  have HN := Lib.hid hln; clear hln
  go_enter Try.func25, Try.ntmps25
  go_wp2
  go_loopw [5, 6] (fun v i wr => ∃ k m : Nat, k ≤ n ∧ m ≤ k ∧ i = .int .i64 (k : Int) ∧ v = .int .i64 (m : Int) ∧ Keeps w wr ∧ cntF (l.take k) x = m) (fun _ i _ => n - (intOf i).toNat)
  case atStart => exact ⟨0, 0, by omega, by omega, rfl, rfl, Keeps.refl _, by simp [cntF]⟩
  case round =>
    obtain ⟨k, m, hk, hm, rfl, rfl, hK, hf⟩ := hrel
    have HF := Lib.hid hf; clear hf
    by_cases hkn : k < n
    · have hok : l[k]? = some (l[k]'(by rw [← HN.out]; exact hkn)) := List.getElem?_eq_getElem _
      generalize l[k]'(by rw [← HN.out]; exact hkn) = y at hok
      obtain ⟨b, off, rfl, hb, c0⟩ := (hl.keep hK) k y hok
      have HO := Lib.hid hok; clear hok
      have hki : (k : Int) < (n : Int) := by omega
      have hk0 : (0 : Int) ≤ (k : Int) := by omega
      have hw1 : IntKind.i64.wrap ((k : Int) + 1) = (k : Int) + 1 := IntWalk.i64_in _ (by omega)
      have hw2 : IntKind.i64.wrap ((m : Int) + 1) = (m : Int) + 1 := IntWalk.i64_in _ (by omega)
      by_cases e : y = x
      · have E := Lib.hid (cnt_hit HO.out e)
        have e' : (y == x) = true := by simpa using e
        clear e
        go_wp2
        go_roundw
        case rel => exact ⟨k + 1, m + 1, by omega, by omega, by go_num, by go_num, hK, by rw [E.out, HF.out]⟩
        case measure => simp [intOf]; omega
      · have E := Lib.hid (cnt_miss HO.out e)
        have e' : (y == x) = false := by simpa using e
        clear e
        go_wp2
        go_roundw
        case rel => exact ⟨k + 1, m, by omega, by omega, by go_num, by go_num, hK, by rw [E.out, HF.out]⟩
        case measure => simp [intOf]; omega
    · have E := Lib.hid (show cntF l x = m by rw [← HF.out, List.take_of_length_le (by rw [← HN.out]; omega)])
      go_wp2
      go_ret
      exact ⟨ret_int (by rw [← HR.out, E.out]), hK⟩

def same (a b : List Int) : Bool := a == b
theorem same_true {a b : List Int} (h : same a b = true) : a = b := by simpa [same] using h
theorem same_len {a b : List Int} (h : a.length ≠ b.length) : same a b = false := by
  simp only [same, beq_eq_false_iff_ne]; exact fun e => h (by rw [e])
theorem same_bad {a b : List Int} {k : Nat} {x y : Int} (ha : a[k]? = some x) (hb : b[k]? = some y) (h : x ≠ y) : same a b = false := by
  simp only [same, beq_eq_false_iff_ne]
  rintro rfl
  rw [ha] at hb; exact h (by simpa using hb)
theorem same_all {a b : List Int} {k : Nat} (h : a.take k = b.take k) (ha : a.length ≤ k) (hb : b.length ≤ k) : same a b = true := by
  rw [List.take_of_length_le ha, List.take_of_length_le hb] at h; simp [same, h]
theorem take_hit {a b : List Int} {k : Nat} {x y : Int} (h : a.take k = b.take k) (ha : a[k]? = some x) (hb : b[k]? = some y) (e : x = y) : a.take (k + 1) = b.take (k + 1) := by
  rw [List.take_add_one, List.take_add_one, ha, hb, h, e]
set_option maxHeartbeats 1000000 in
theorem ints_any (l m : List Int) (A B : Option Addr) (n c n' c' : Nat) (w : World) (hl : Nums .i64 w w.heap.size A l) (hm : Nums .i64 w w.heap.size B m) (hn : l.length ≤ 1000000000000) (hn' : m.length ≤ 1000000000000) (hln : n = l.length) (hlm : n' = m.length)
    (r : Bool) (hr : same l m = r) : Calls Try.prog 20 #[.slice A n c, .slice B n' c'] w (BoolPost r w) := by
  have HR := Lib.hid hr; clear hr
  rw [← hln] at hn
  rw [← hlm] at hn'
  have HN := Lib.hid hln; clear hln
  have HM := Lib.hid hlm; clear hlm
  by_cases hnm : n = n'
  · subst hnm
    have hle : (n : Int) = (n : Int) := rfl
    go_enter Try.func20, Try.ntmps20
    go_wp2
    go_loopw [5] (fun i wr => ∃ k : Nat, k ≤ n ∧ i = .int .i64 (k : Int) ∧ Keeps w wr ∧ l.take k = m.take k) (fun i _ => n - (intOf i).toNat)
    case atStart => exact ⟨0, by omega, rfl, Keeps.refl _, by simp⟩
    case round =>
      obtain ⟨k, hk, rfl, hK, hf⟩ := hrel
      have HF := Lib.hid hf; clear hf
      by_cases hkn : k < n
      · have hok : l[k]? = some (l[k]'(by rw [← HN.out]; exact hkn)) := List.getElem?_eq_getElem _
        generalize l[k]'(by rw [← HN.out]; exact hkn) = x at hok
        have hok' : m[k]? = some (m[k]'(by rw [← HM.out]; exact hkn)) := List.getElem?_eq_getElem _
        generalize m[k]'(by rw [← HM.out]; exact hkn) = y at hok'
        obtain ⟨b, off, rfl, hb, c0⟩ := (hl.keep hK) k x hok
        obtain ⟨b', off', rfl, hb', c0'⟩ := (hm.keep hK) k y hok'
        have HO := Lib.hid hok; clear hok
        have HO' := Lib.hid hok'; clear hok'
        have hki : (k : Int) < (n : Int) := by omega
        have hk0 : (0 : Int) ≤ (k : Int) := by omega
        have hw1 : IntKind.i64.wrap ((k : Int) + 1) = (k : Int) + 1 := IntWalk.i64_in _ (by omega)
        by_cases e : x = y
        · have E := Lib.hid (take_hit HF.out HO.out HO'.out e)
          have e' : (x != y) = false := by simpa using e
          have e'' : (x == y) = true := by simpa using e
          clear e
          go_wp2
          go_quiet (fail)
          go_wp2
          go_roundw
          case rel => exact ⟨k + 1, by omega, by go_num, hK.drewN _, E.out⟩
          case measure => simp [intOf]; omega
        · have E := Lib.hid (same_bad HO.out HO'.out e)
          have e' : (x != y) = true := by simpa using e
          have e'' : (x == y) = false := by simpa using e
          clear e
          go_wp2
          go_quiet (fail)
          go_wp2
          go_ret
          exact bool_post (HR.out.symm.trans E.out) (hK.drewN _)
      · have E := Lib.hid (same_all HF.out (by rw [← HN.out]; omega) (by rw [← HM.out]; omega))
        go_wp2
        go_ret
        exact bool_post (HR.out.symm.trans E.out) hK
  · have E := Lib.hid (same_len (a := l) (b := m) (by rw [← HN.out, ← HM.out]; exact hnm))
    have h1 : ((n : Int) != (n' : Int)) = true := by simp; omega
    have h2 : (n == n') = false := by simpa using hnm
    have h3 : (n != n') = true := by simpa using hnm
    go_enter Try.func20, Try.ntmps20
    go_wp2
    go_ret
    exact bool_post (HR.out.symm.trans E.out) (Keeps.refl _)
theorem own_lt {w : World} {base : Nat} {e : TypeId} {size n g : Nat} {v : Value} {xs : List Value} (h : w.ownsRow base e size v n xs) (hg : v.ownBlock = some g) : base ≤ g ∧ g < w.heap.size := by
  rcases h.2 with ⟨rfl, rfl⟩ | ⟨g', cap, cur, rfl, hb, hh, _⟩
  · simp [Value.ownBlock] at hg
  · simp [Value.ownBlock] at hg; subst hg; exact ⟨hb, (Array.getElem?_eq_some_iff.1 hh).1⟩
theorem own_ne {w : World} {base : Nat} {e : TypeId} {size n k : Nat} {v : Value} {xs : List Value} (h : w.ownsRow base e size v n xs) (hk : k < base) : some k ≠ v.ownBlock := by
  intro e
  have := own_lt h e.symm
  omega
theorem some_ne {a b : Nat} (h : a ≠ b) : some a ≠ some b := fun e => h (Option.some.inj e)
theorem own_slice {w : World} {base : Nat} {e : TypeId} {size n : Nat} {v : Value} {xs : List Value} (h : w.ownsRow base e size v n xs) : ∃ A c, v = .slice A n c := by
  rcases h.2 with ⟨rfl, rfl⟩ | ⟨g', cap, cur, rfl, hb, hh, _⟩
  · exact ⟨none, 0, rfl⟩
  · exact ⟨_, _, rfl⟩
theorem grown_keeps {a b c : World} {row : Option Nat} (h : Keeps a b) (hg : b.grownBy c row) (hr : ∀ k, row = some k → a.heap.size ≤ k) : Keeps a c := Below.grown h hg h.size hr
theorem info3a : (Try.prog.info? 3).map (fun i => (i.size, i.bytes, i.zero)) = some (1, 8, some (.int .i64 0)) := by kernel_rfl
theorem info3 : ∃ i, Try.prog.info? 3 = some i ∧ i.zero = some (.int .i64 0) ∧ i.size = 1 ∧ i.bytes = 8 := by
  have h := info3a
  cases hi : Try.prog.info? 3 with
  | none => rw [hi] at h; cases h
  | some i =>
    rw [hi] at h
    simp only [Option.map_some, Option.some.injEq, Prod.mk.injEq] at h
    exact ⟨i, rfl, h.2.2, h.1, h.2.1⟩
/-- A slice that reads as the list l. -/
def ListPost (l : List Int) (w : World) (e : Ending) (w' : World) : Prop := ∃ A c, e = .returned (.slice A l.length c) ∧ Nums .i64 w' w'.heap.size A l ∧ Keeps w w'
theorem list_own {w w' : World} {base : Nat} {n : Nat} {v : Value} {l : List Int} (h : w'.ownsRow base 3 1 v n (intCells .i64 l)) (hk : Keeps w w') : ListPost l w (.returned v) w' := by
  have hn : n = l.length := by have := h.1; simpa [intCells] using this.symm
  obtain ⟨A, c, rfl⟩ := own_slice h
  exact ⟨A, c, by rw [hn], Nums.of_own h hn, hk⟩

def smallF (l : List Int) (n : Nat) : List Int := l.map fun x => x % (n : Int)
theorem small_len (l : List Int) (n : Nat) : (smallF l n).length = l.length := by simp [smallF]
theorem small_take {l : List Int} {n k : Nat} {x : Int} (h : l[k]? = some x) : smallF (l.take (k + 1)) n = smallF (l.take k) n ++ [x % (n : Int)] := by
  rw [List.take_add_one, h]; simp [smallF]
theorem take_all {α : Type} {l : List α} {k : Nat} (h : l.length ≤ k) : l.take k = l := List.take_of_length_le h
set_option maxHeartbeats 1000000 in
theorem small_any (l : List Int) (A : Option Addr) (m c : Nat) (n : Nat) (w : World) (hl : Nums .u16 w w.heap.size A l) (hr : ∀ x ∈ l, 0 ≤ x ∧ x ≤ 65535) (hn : l.length ≤ 1000000000000) (hln : m = l.length) (h1 : 1 ≤ n) (hn2 : n ≤ 1000000) :
    Calls Try.prog 24 #[.slice A m c, .int .i64 (n : Int)] w (ListPost (smallF l n) w) := by
  obtain ⟨i0, hi0, hz0, hz1, hz2⟩ := info3
  rw [← hln] at hn
  have HN := Lib.hid hln; clear hln
  have HR := Lib.hid hr; clear hr
  go_enter Try.func24, Try.ntmps24
  go_wp2
  have hown0 := World.ownsRow_lit (base := w.heap.size) (e := 3) (size := 1) w #[] 0 (Nat.le_refl _) (by unfold maxLen; omega) rfl
  have hk0 : Keeps w (w.alloc (.cells #[] 3)) := (Keeps.refl w).alloc _
  go_loopw [5, 6] (fun v i wr => ∃ k : Nat, k ≤ m ∧ i = .int .i64 (k : Int) ∧ wr.ownsRow w.heap.size 3 1 v k (intCells .i64 (smallF (l.take k) n)) ∧ Keeps w wr) (fun _ i _ => m - (intOf i).toNat)
  case atStart => exact ⟨0, by omega, rfl, hown0, hk0⟩
  case round =>
    clear hown0 hk0
    obtain ⟨k, hk, rfl, hown, hK⟩ := hrel
    by_cases hkn : k < m
    · have hok : l[k]? = some (l[k]'(by rw [← HN.out]; exact hkn)) := List.getElem?_eq_getElem _
      generalize l[k]'(by rw [← HN.out]; exact hkn) = x at hok
      obtain ⟨b, off, rfl, hb, c0⟩ := (hl.keep hK) k x hok
      have hx := HR.out x (List.mem_of_getElem? hok)
      have hx0 := hx.1
      have hx1 := hx.2
      have HO := Lib.hid hok; clear hok hx
      have hki : (k : Int) < (m : Int) := by omega
      have hk00 : (0 : Int) ≤ (k : Int) := by omega
      have hw1 : IntKind.i64.wrap ((k : Int) + 1) = (k : Int) + 1 := IntWalk.i64_in _ (by omega)
      have hw3 : IntKind.i64.wrap x = x := IntWalk.i64_in _ (by omega)
      have hn0 : (1 : Int) ≤ (n : Int) := by omega
      have nn := hown.alloc (.cells #[Value.int .i64 (x % (n : Int))] 3)
      have G1 := Lib.hid (World.news_of_block (cs := #[.int .i64 (x % (n : Int))]) (t := 3) (fr := (0, 0)) (heap_alloc_new wr (.cells #[.int .i64 (x % (n : Int))] 3)))
      have G2 := Lib.hid (show ∀ u ∈ [Value.int .i64 (x % (n : Int))], u.oneCell' = true by simp [Value.oneCell'])
      have g3 : k + 1 ≤ maxLen := by unfold maxLen; omega
      have g4 : (k + 1) * 8 ≤ 140737488355328 := by omega
      have hK4 := hK.alloc (.cells #[Value.int .i64 (x % (n : Int))] 3)
      have G5 := Lib.hid hK4.size
      have HS := Lib.hid (small_take (n := n) HO.out)
      go_wp2_with (at_builtin; refine (wpList_append_own _ rfl (.tmp 14) (.tmp 22) 22 rfl w.heap.size 3 i0 (.int .i64 0) 1 8 Try.underlying22 hi0 hz0 hz1 hz2 rfl (by decide) _ _ _ rfl nn ⟨wr.heap.size, 0, none⟩ 1 1 [.int .i64 (x % (n : Int))] rfl rfl G1.out G2.out g3 g4 G5.out ?_); intro v' w5 hown5 hgrow _)
      have hK5 : Keeps w w5 := grown_keeps hK4 hgrow (fun k hk => (own_lt nn hk).1)
      go_roundw
      case rel => exact ⟨k + 1, by omega, by go_num, by rw [HS.out, intCells_append]; exact hown5, hK5⟩
      case measure => simp [intOf]; omega
    · obtain rfl : k = m := by omega
      have E := Lib.hid (take_all (l := l) (k := k) (by rw [← HN.out]; omega))
      go_wp2
      go_ret
      rw [E.out] at hown
      exact list_own hown hK
/-- The slice with address A holds the lists ls. -/
def NumRows (w : World) (B : Nat) (A : Option Addr) (ls : List (List Int)) : Prop :=
  ∀ (k : Nat) (l : List Int), ls[k]? = some l → ∃ b off A' c', A = some ⟨b, off, none⟩ ∧ b < B ∧ w.cell? ⟨b, off + k, none⟩ = some (.slice A' l.length c') ∧ Nums .i64 w B A' l
section
variable {w w' : World} {B B' : Nat} {A : Option Addr} {ls : List (List Int)}
theorem NumRows.below (h : NumRows w B A ls) (hb : Below B w w') : NumRows w' B A ls := fun k l hk => by
  obtain ⟨b, off, A', c', e, hlt, h0, h1⟩ := h k l hk
  exact ⟨b, off, A', c', e, hlt, (hb.cell (p := ⟨b, _, none⟩) hlt).trans h0, h1.below hb⟩
theorem NumRows.more (h : NumRows w B A ls) (hb : B ≤ B') : NumRows w B' A ls := fun k l hk => by
  obtain ⟨b, off, A', c', e, hlt, h0, h1⟩ := h k l hk
  exact ⟨b, off, A', c', e, by omega, h0, h1.more hb⟩
theorem NumRows.keep (h : NumRows w w.heap.size A ls) (hk : Keeps w w') : NumRows w' w'.heap.size A ls := (NumRows.below h hk).more (Below.size hk)
end
def fewB (ls : List (List Int)) : Bool := (ls.all fun l => decide (l.length ≤ 300)) && decide (ls.length ≤ 8)
theorem few_bad {ls : List (List Int)} {k : Nat} {l : List Int} (hx : ls[k]? = some l) (h : 300 < l.length) : fewB ls = false := by
  have : (ls.all fun l => decide (l.length ≤ 300)) = false := by
    rw [List.all_eq_false]; exact ⟨l, List.mem_of_getElem? hx, by simp; omega⟩
  simp [fewB, this]
theorem few_all {ls : List (List Int)} {k : Nat} (h : (ls.take k).all (fun l => decide (l.length ≤ 300)) = true) (hk : ls.length ≤ k) : fewB ls = decide (ls.length ≤ 8) := by
  rw [List.take_of_length_le hk] at h; simp only [fewB, h, Bool.true_and]
theorem few_take {ls : List (List Int)} {k : Nat} {l : List Int} (h : (ls.take k).all (fun l => decide (l.length ≤ 300)) = true) (hx : ls[k]? = some l) (hl : l.length ≤ 300) :
    (ls.take (k + 1)).all (fun l => decide (l.length ≤ 300)) = true := by
  rw [List.take_add_one, hx, List.all_append, h]; simp [hl]
set_option maxHeartbeats 1000000 in
theorem few_any (ls : List (List Int)) (A : Option Addr) (n c : Nat) (w : World) (hl : NumRows w w.heap.size A ls) (hn : ls.length ≤ 9223372036854775807) (hln : n = ls.length) (r : Bool) (hr : fewB ls = r) :
    Calls Try.prog 12 #[.slice A n c] w (BoolPost r w) := by
  have HR := Lib.hid hr; clear hr
  rw [← hln] at hn
  have HN := Lib.hid hln; clear hln
  go_enter Try.func12, Try.ntmps12
  go_wp2
  go_loopw [3] (fun i wr => ∃ k : Nat, k ≤ n ∧ i = .int .i64 (k : Int) ∧ Keeps w wr ∧ (ls.take k).all (fun l => decide (l.length ≤ 300)) = true) (fun i _ => n - (intOf i).toNat)
  case atStart => exact ⟨0, by omega, rfl, Keeps.refl _, by simp⟩
  case round =>
    obtain ⟨k, hk, rfl, hK, hf⟩ := hrel
    have HF := Lib.hid hf; clear hf
    by_cases hkn : k < n
    · have hok : ls[k]? = some (ls[k]'(by rw [← HN.out]; exact hkn)) := List.getElem?_eq_getElem _
      generalize ls[k]'(by rw [← HN.out]; exact hkn) = x at hok
      obtain ⟨b, off, A', c', rfl, hb, c0, hx⟩ := (hl.keep hK) k x hok
      have HX := Lib.hid hx; clear hx
      have HO := Lib.hid hok; clear hok
      have hki : (k : Int) < (n : Int) := by omega
      have hk0 : (0 : Int) ≤ (k : Int) := by omega
      have hw1 : IntKind.i64.wrap ((k : Int) + 1) = (k : Int) + 1 := IntWalk.i64_in _ (by omega)
      by_cases h0 : 300 < x.length
      · have E := Lib.hid (few_bad HO.out h0)
        go_wp2
        go_ret
        exact bool_post (HR.out.symm.trans E.out) hK
      · have E := Lib.hid (few_take HF.out HO.out (by omega))
        have h0' : decide (300 < x.length) = false := by simpa using h0
        have h0'' : decide (300 < (x.length : Int)) = false := by simp; omega
        go_wp2
        go_roundw
        case rel => exact ⟨k + 1, by omega, by go_num, hK, E.out⟩
        case measure => simp [intOf]; omega
    · have E := Lib.hid (few_all HF.out (by rw [← HN.out]; omega))
      rw [← HN.out] at E
      by_cases h8 : n ≤ 8
      · have h8' : decide (n ≤ 8) = true := by simpa using h8
        have h8'' : decide ((n : Int) ≤ 8) = true := by simp; omega
        rw [h8'] at E
        go_wp2
        go_ret
        exact bool_post (HR.out.symm.trans E.out) hK
      · have h8' : decide (n ≤ 8) = false := by simpa using h8
        have h8'' : decide ((n : Int) ≤ 8) = false := by simp; omega
        rw [h8'] at E
        go_wp2
        go_ret
        exact bool_post (HR.out.symm.trans E.out) hK

def sameRows (a b : List (List Int)) : Bool := a == b
theorem srows_true {a b : List (List Int)} (h : sameRows a b = true) : a = b := by simpa [sameRows] using h
theorem srows_len {a b : List (List Int)} (h : a.length ≠ b.length) : sameRows a b = false := by
  simp only [sameRows, beq_eq_false_iff_ne]; exact fun e => h (by rw [e])
theorem srows_bad {a b : List (List Int)} {k : Nat} {x y : List Int} (ha : a[k]? = some x) (hb : b[k]? = some y) (h : same x y = false) : sameRows a b = false := by
  simp only [sameRows, beq_eq_false_iff_ne]
  rintro rfl
  rw [ha] at hb
  have : x = y := by simpa using hb
  subst this; simp [same] at h
theorem srows_all {a b : List (List Int)} {k : Nat} (h : a.take k = b.take k) (ha : a.length ≤ k) (hb : b.length ≤ k) : sameRows a b = true := by
  rw [List.take_of_length_le ha, List.take_of_length_le hb] at h; simp [sameRows, h]
theorem rtake_hit {a b : List (List Int)} {k : Nat} {x y : List Int} (h : a.take k = b.take k) (ha : a[k]? = some x) (hb : b[k]? = some y) (e : same x y = true) : a.take (k + 1) = b.take (k + 1) := by
  rw [List.take_add_one, List.take_add_one, ha, hb, h, same_true e]
theorem ints_any' (l m : List Int) (A B : Option Addr) (c c' : Nat) (w : World) (hl : Nums .i64 w w.heap.size A l) (hm : Nums .i64 w w.heap.size B m) (hn : l.length ≤ 1000000000000) (hn' : m.length ≤ 1000000000000)
    (r : Bool) (hr : same l m = r) : Calls Try.prog 20 #[.slice A l.length c, .slice B m.length c'] w (BoolPost r w) := ints_any l m A B _ c _ c' w hl hm hn hn' rfl rfl r hr
set_option maxHeartbeats 2000000 in
theorem rows_any (ls ms : List (List Int)) (A B : Option Addr) (n c n' c' : Nat) (w : World) (hl : NumRows w w.heap.size A ls) (hm : NumRows w w.heap.size B ms) (hn : ls.length ≤ 1000000000000) (hn' : ms.length ≤ 1000000000000) (hln : n = ls.length) (hlm : n' = ms.length)
    (hL : ∀ l ∈ ls, l.length ≤ 1000000000000) (hM : ∀ l ∈ ms, l.length ≤ 1000000000000)
    (r : Bool) (hr : sameRows ls ms = r) : Calls Try.prog 19 #[.slice A n c, .slice B n' c'] w (BoolPost r w) := by
  have HR := Lib.hid hr; clear hr
  rw [← hln] at hn
  rw [← hlm] at hn'
  have HN := Lib.hid hln; clear hln
  have HM := Lib.hid hlm; clear hlm
  have HLL := Lib.hid hL; clear hL
  have HMM := Lib.hid hM; clear hM
  by_cases hnm : n = n'
  · subst hnm
    go_enter Try.func19, Try.ntmps19
    go_wp2
    go_loopw [5] (fun i wr => ∃ k : Nat, k ≤ n ∧ i = .int .i64 (k : Int) ∧ Keeps w wr ∧ ls.take k = ms.take k) (fun i _ => n - (intOf i).toNat)
    case atStart => exact ⟨0, by omega, rfl, Keeps.refl _, by simp⟩
    case round =>
      obtain ⟨k, hk, rfl, hK, hf⟩ := hrel
      have HF := Lib.hid hf; clear hf
      by_cases hkn : k < n
      · have hok : ls[k]? = some (ls[k]'(by rw [← HN.out]; exact hkn)) := List.getElem?_eq_getElem _
        generalize ls[k]'(by rw [← HN.out]; exact hkn) = x at hok
        have hok' : ms[k]? = some (ms[k]'(by rw [← HM.out]; exact hkn)) := List.getElem?_eq_getElem _
        generalize ms[k]'(by rw [← HM.out]; exact hkn) = y at hok'
        have lx := HLL.out x (List.mem_of_getElem? hok)
        have ly := HMM.out y (List.mem_of_getElem? hok')
        obtain ⟨b, off, A1, c1, rfl, hb, c0, hx⟩ := (hl.keep hK) k x hok
        obtain ⟨b', off', A2, c2, rfl, hb', c0', hy⟩ := (hm.keep hK) k y hok'
        have HO := Lib.hid hok; clear hok
        have HO' := Lib.hid hok'; clear hok'
        have hki : (k : Int) < (n : Int) := by omega
        have hk0 : (0 : Int) ≤ (k : Int) := by omega
        have hw1 : IntKind.i64.wrap ((k : Int) + 1) = (k : Int) + 1 := IntWalk.i64_in _ (by omega)
        have a0 := After.cell c0 hb
        have a0' := After.cell c0' hb'
        have HX := Lib.hid hx; clear hx
        have HY := Lib.hid hy; clear hy
        clear c0 c0'
        cases e : same x y
        · have E := Lib.hid (srows_bad HO.out HO'.out e)
          have HE := Lib.hid e; clear e
          go_wp2
          refine wp_region_after (by kernel_rfl) (by kernel_rfl) ?_
          repeat (go_big_quiet_step ((go_at_call 20; with_reducible exact after_call (ints_any' _ _ _ _ _ _ _ (HX.out.keep (After.ok _)) (HY.out.keep (After.ok _)) lx ly false HE.out))))
          refine wpQuiet_nil ?_
          intro _ hw'
          obtain ⟨⟨W1, hk1⟩, rfl⟩ := hw'
          go_wp2
          go_ret
          exact bool_post (HR.out.symm.trans E.out) (hK.trans hk1)
        · have E := Lib.hid (rtake_hit HF.out HO.out HO'.out e)
          have HE := Lib.hid e; clear e
          go_wp2
          refine wp_region_after (by kernel_rfl) (by kernel_rfl) ?_
          repeat (go_big_quiet_step ((go_at_call 20; with_reducible exact after_call (ints_any' _ _ _ _ _ _ _ (HX.out.keep (After.ok _)) (HY.out.keep (After.ok _)) lx ly true HE.out))))
          refine wpQuiet_nil ?_
          intro _ hw'
          obtain ⟨⟨W1, hk1⟩, rfl⟩ := hw'
          go_wp2
          go_roundw
          case rel => exact ⟨k + 1, by omega, by go_num, hK.trans hk1, E.out⟩
          case measure => simp [intOf]; omega
      · have E := Lib.hid (srows_all HF.out (by rw [← HN.out]; omega) (by rw [← HM.out]; omega))
        go_wp2
        go_ret
        exact bool_post (HR.out.symm.trans E.out) hK
  · have E := Lib.hid (srows_len (a := ls) (b := ms) (by rw [← HN.out, ← HM.out]; exact hnm))
    have h1 : ((n : Int) != (n' : Int)) = true := by simp; omega
    have h2 : (n == n') = false := by simpa using hnm
    have h3 : (n != n') = true := by simpa using hnm
    go_enter Try.func19, Try.ntmps19
    go_wp2
    go_ret
    exact bool_post (HR.out.symm.trans E.out) (Keeps.refl _)
end Go.Proofs.Ytkfcebojfnnieaa
