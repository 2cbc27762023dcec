import Derived.Test.YtkfcebojfnnieaaE
import Derived.Shelf.Abstract
import Derived.Test.YtkfcebojfnnieaaD
import Derived.Test.YtkfcebojfnnieaaRows
import Derived.WalkKit
import Derived.WalkSpells
import Derived.WalkLawsBesides
import Derived.Laws.EntriesVeiled
import Derived.ProofKit
import Derived.OpenShut
import Derived.Lib.Hide
import Derived.BigQuiet
import Derived.Deep.QuietTactic
import Derived.Below
import Derived.Laws.OwnMore
import Derived.Deep.AppendLies
import Derived.Deep.Draws
import Derived.Laws.Rows
import Derived.Maps.AppendAt
import Derived.RegionTactic
import Derived.OwnWalk
import Derived.Deep.RegionHeld3
namespace Go.Proofs.Ytkfcebojfnnieaa
open Go.ChangeShapes Go.WideShapes Go.ChangeAt Go.RowKit
set_option linter.unusedSimpArgs false
set_option linter.unusedVariables false
theorem rowIs_keeps {w w' : World} {b t n : Nat} {f : Nat → Value} (h : w.rowIs b t n f) (hk : Keeps w w') : w'.rowIs b t n f := h.of_block (hk.block b h.lt)
theorem rowIs_grown {w w' : World} {b t n : Nat} {f : Nat → Value} {row : Option Nat} (h : w.rowIs b t n f) (hg : w.grownBy w' row) (hr : row ≠ some b) : w'.rowIs b t n f := h.of_block (hg.block b h.lt (fun e => hr e.symm))
theorem own_row_ne {w : World} {base : Nat} {e : TypeId} {size n b t m : Nat} {v : Value} {xs : List Value} {f : Nat → Value} (h : w.ownsRow base e size v n xs) (hr : w.rowIs b t m f) (hne : e ≠ t) : v.ownBlock ≠ some b := by
  obtain ⟨c, hb, _, _⟩ := hr
  exact own_blk_ne h (show Blk w b t c from hb) hne
/-- The pockets of a pass over l. -/
structure Bins (w wr : World) (key : Int → Int) (l : List Int) (f : Nat → Value) : Prop where
  row : wr.rowIs w.heap.size 57 64 f
  own : ∀ p, p < 64 → ∃ m, wr.ownsRow (w.heap.size + 1) 3 1 (f p) m (intCells .i64 (l.filter fun x => key x == (p : Int)))
  apart : ∀ p q, p < 64 → q < 64 → p ≠ q → ∀ g, (f p).ownBlock = some g → (f q).ownBlock ≠ some g
  keeps : Keeps w wr
theorem own_setCell {w : World} {base : Nat} {e : TypeId} {size n : Nat} {v : Value} {xs : List Value} (h : w.ownsRow base e size v n xs) {p : Addr} (hp : v.ownBlock ≠ some p.block) (u : Value) : (w.setCell p u).ownsRow base e size v n xs := by
  refine ⟨h.1, ?_⟩
  rcases h.2 with hn | ⟨g, cap, cur, rfl, hb', hgg, rest⟩
  · exact .inl hn
  · refine .inr ⟨g, cap, cur, rfl, hb', ?_, rest⟩
    rw [Below.heap_setCell w p u g (fun e => hp (by simp [Value.ownBlock, e]))]; exact hgg
theorem Bins.step {w wr w1 w5 : World} {key : Int → Int} {l : List Int} {f : Nat → Value} {x : Int} {a m : Nat} {v' : Value} (h : Bins w wr key l f) (hk : Keeps wr w1) (ha : a < 64) (hx : key x = (a : Int))
    (ho : w5.ownsRow (w.heap.size + 1) 3 1 v' m (intCells .i64 (l.filter fun x => key x == (a : Int)) ++ [.int .i64 x]))
    (hg : (w1.alloc (.cells #[.int .i64 x] 3)).grownBy w5 (f a).ownBlock) (hat : v'.ownBlock = (f a).ownBlock ∨ v'.ownBlock = some (w1.alloc (.cells #[.int .i64 x] 3)).heap.size) :
    Bins w (w5.setCell ⟨w.heap.size, a, none⟩ v') key (l ++ [x]) (fun j => if j = a then v' else f j) := by
  have hka : Keeps w1 (w1.alloc (.cells #[.int .i64 x] 3)) := (Keeps.refl w1).alloc _
  have hk1 := hk.trans hka
  generalize w1.alloc (.cells #[.int .i64 x] 3) = w2 at *
  obtain ⟨ma, hoa⟩ := h.own a ha
  have hra : (f a).ownBlock ≠ some w.heap.size := own_row_ne hoa h.row (by decide)
  have hlt2 : wr.heap.size ≤ w2.heap.size := hk1.size
  have hblk : ∀ p, p < 64 → ∀ g, (f p).ownBlock = some g → g < w2.heap.size := fun p hp g hgp => by
    obtain ⟨mp, hop⟩ := h.own p hp
    have := (own_lt hop hgp).2; omega
  have hv : v'.ownBlock ≠ some w.heap.size := by
    have := own_row_ne ho (rowIs_grown (rowIs_keeps h.row hk1) hg hra) (by decide)
    exact this
  have hrow5 := rowIs_grown (rowIs_keeps h.row hk1) hg hra
  refine ⟨hrow5.set a v', fun p hp => ?_, fun p q hp hq hne g h1 h2 => ?_, ?_⟩
  · by_cases e : p = a
    · subst e
      simp only [if_pos, List.filter_append]
      refine ⟨m, own_setCell ?_ hv _⟩
      have : ([x].filter fun x => key x == (p : Int)) = [x] := by simp [hx]
      rw [this, intCells_append]; exact ho
    · obtain ⟨mp, hop⟩ := h.own p hp
      simp only [if_neg e, List.filter_append]
      have hnil : ([x].filter fun x => key x == (p : Int)) = [] := by simp [hx]; omega
      rw [hnil, List.append_nil]
      refine ⟨mp, own_setCell (own_grown (own_keeps hop hk1) hg (fun k h1 h2 => h.apart p a hp ha e k h1 h2)) ?_ _⟩
      exact own_row_ne hop h.row (by decide)
  · by_cases e : p = a <;> by_cases e' : q = a
    · omega
    · subst e
      simp only [if_pos, if_neg e'] at h1 h2
      rcases hat with hat | hat
      · rw [hat] at h1; exact h.apart p q hp hq hne g h1 h2
      · rw [hat] at h1; injection h1 with h1
        have := hblk q hq g h2; omega
    · subst e'
      simp only [if_pos, if_neg e] at h1 h2
      rcases hat with hat | hat
      · rw [hat] at h2; exact h.apart p q hp hq hne g h1 h2
      · rw [hat] at h2; injection h2 with h2
        have := hblk p hp g h1; omega
    · simp only [if_neg e, if_neg e'] at h1 h2
      exact h.apart p q hp hq hne g h1 h2
  · refine Keeps.setCell ?_ (Nat.le_refl _) _
    exact grown_keeps (h.keeps.trans hk1) hg (fun k e => by have := (own_lt hoa e).1; omega)
theorem Bins.start (w : World) (key : Int → Int) {cs : Array Value} (hn : cs.size = 64) (hc : ∀ i, i < 64 → cs[i]? = some (.slice none 0 0)) : Bins w (w.alloc (.cells cs 57)) key [] (fun _ => .slice none 0 0) :=
  ⟨⟨cs, heap_alloc_new w _, hn, hc⟩, fun p _ => ⟨0, World.ownsRow_nil _ _ _ _⟩, fun p q _ _ _ g h1 _ => by simp [Value.ownBlock] at h1, (Keeps.refl w).alloc _⟩
theorem reads_lit (w : World) (v : Value) (t : TypeId) : Reads (w.alloc (.cells #[v] t)) (w.heap.size + 1) 1 (some ⟨w.heap.size, 0, none⟩) 1 [v] := by
  refine ⟨rfl, fun _ => ⟨_, rfl, by simp, fun j u hu => ?_⟩⟩
  match j, hu with
  | 0, hu => simp at hu; subst hu; exact (Blk.new w t #[v]).cell 0
theorem countP_step (key : Int → Int) (p : Nat) : ∀ l : List Int, l.countP (fun x => decide (0 ≤ key x ∧ key x < ((p + 1 : Nat) : Int))) = l.countP (fun x => decide (0 ≤ key x ∧ key x < (p : Int))) + l.countP (fun x => key x == (p : Int))
  | [] => by simp
  | x :: l => by
    have ih := countP_step key p l
    rw [List.countP_cons, List.countP_cons, List.countP_cons, ih]
    by_cases h1 : key x = p
    · have e1 : decide (0 ≤ key x ∧ key x < ((p + 1 : Nat) : Int)) = true := by simp; omega
      have e2 : decide (0 ≤ key x ∧ key x < (p : Int)) = false := by simp; omega
      have e3 : (key x == (p : Int)) = true := by simp [h1]
      rw [e1, e2, e3]; simp; omega
    · have e3 : (key x == (p : Int)) = false := by simp [h1]
      have e1 : decide (0 ≤ key x ∧ key x < ((p + 1 : Nat) : Int)) = decide (0 ≤ key x ∧ key x < (p : Int)) := by
        apply decide_eq_decide.2; constructor <;> intro h <;> omega
      rw [e1, e3]; simp; omega
theorem passF_len (key : Int → Int) (l : List Int) (p : Nat) : (passF p key l).length = l.countP (fun x => decide (0 ≤ key x ∧ key x < (p : Int))) := by
  induction p with
  | zero =>
    have : l.countP (fun x => decide (0 ≤ key x ∧ key x < ((0 : Nat) : Int))) = 0 := by
      rw [List.countP_eq_zero]; intro x _; simp
    rw [this]; simp [passF]
  | succ p ih => rw [passF_append, List.length_append, ih, countP_step, List.countP_eq_length_filter (p := fun x => key x == (p : Int))]
theorem passF_len_le (key : Int → Int) (l : List Int) (p : Nat) : (passF p key l).length ≤ l.length := by rw [passF_len]; exact List.countP_le_length
set_option maxHeartbeats 4000000 in
set_option maxRecDepth 100000 in
theorem pass_any (fn : Nat) (caps : Array Value) (key : Int → Int) (P : Nat) (l : List Int) (A : Option Addr) (n c : Nat) (w : World) (hP1 : 2 ≤ P) (hP2 : P ≤ 64) (hl : Nums .i64 w w.heap.size A l) (hln : n = l.length) (hn : l.length ≤ 5000)
    (hkey : ∀ x ∈ l, 0 ≤ key x ∧ key x < (P : Int))
    (eg : ∀ args w, (callFunc fn args).run Try.prog w = .ok (.enter fn args) w)
    (hf : ∀ w', Keeps w w' → ∀ x ∈ l, Calls Try.prog fn (#[.int .i64 x] ++ caps) w' fun e w'' => e = .returned (.int .i64 (key x)) ∧ Keeps w' w'') :
    Calls Try.prog 32 #[.slice A n c, .int .i64 (P : Int), .func (.func fn) #[] caps] w (ListPost (passF P key l) w) := by
  obtain ⟨i0, hi0, hz0, hz1, hz2⟩ := info3
  rw [← hln] at hn
  have HN := Lib.hid hln; clear hln
  have HK := Lib.hid hkey; clear hkey
  have HF := Lib.hid hf; clear hf
  go_enter Try.func32, Try.ntmps32
  go_wp2_with fail
  have hB0 := Bins.start w key (cs := Array.replicate 64 (.slice none 0 0)) (by simp) (fun i hi => by simp [hi])
  simp only [Array.replicate_succ, Array.replicate_zero, List.push_toArray, List.nil_append, List.cons_append] at hB0
  generalize w.alloc (.cells _ 57) = W0 at *
  go_loopw [9, 10, 15] (fun _ _ i wr => ∃ (k : Nat) (f : Nat → Value), k ≤ n ∧ i = .int .i64 (k : Int) ∧ Bins w wr key (l.take k) f) (fun _ _ i _ => n - (intOf i).toNat)
  case atStart => exact ⟨0, _, by omega, rfl, hB0⟩
  case round =>
    clear hB0
    obtain ⟨k, f, hk, rfl, hB⟩ := hrel
    have HB := Lib.hid hB; clear hB
    by_cases hkn : k < n
    · have hok : l[k]? = some (l[k]'(by rw [← HN.out]; exact hkn)) := List.getElem?_eq_getElem _
      generalize l[k]'(by rw [← HN.out]; exact hkn) = x at hok
      obtain ⟨b, off, rfl, hb, c0⟩ := (hl.keep HB.out.keeps) k x hok
      have hmem := List.mem_of_getElem? hok
      have hkx := HK.out x hmem
      obtain ⟨a, ha⟩ : ∃ a : Nat, key x = (a : Int) := ⟨(key x).toNat, by omega⟩
      have ha64 : a < 64 := by omega
      have hfc := HF.out wr HB.out.keeps x hmem
      rw [ha] at hfc
      have HA := Lib.hid ha; clear ha
      have HC := Lib.hid hfc; clear hfc
      have HM := Lib.hid (show l.take (k + 1) = l.take k ++ [x] by rw [List.take_add_one, hok]; rfl)
      clear hok hmem hkx
      have hki : (k : Int) < (n : Int) := by omega
      have hk0 : (0 : Int) ≤ (k : Int) := by omega
      have hkw : IntKind.i64.wrap ((k : Int) + 1) = (k : Int) + 1 := IntWalk.i64_in _ (by omega)
      go_wp2_with fail
      refine HC.out.mono ?_
      rintro e w1 ⟨rfl, hk1⟩
      have HK1 := Lib.hid hk1
      have hrow1 := rowIs_keeps HB.out.row hk1
      have r0 : w1.cell? ⟨w.heap.size, a, none⟩ = some (f a) := hrow1.cell ha64
      obtain ⟨m, hoa⟩ := HB.out.own a ha64
      have c1 := cell_keep c0 hk1
      have hm : m ≤ n := by
        have h1 := hoa.1
        simp only [intCells, List.length_map, Nat.mul_one] at h1
        rw [← h1]
        exact Nat.le_trans (List.length_filter_le _ _) (by simp; omega)
      have hrw : (f a).ownBlock ≠ some w.heap.size := own_row_ne hoa HB.out.row (by decide)
      have nn := (own_keeps hoa hk1).alloc (.cells #[Value.int .i64 x] 3)
      have hrow2 := hrow1.alloc (.cells #[Value.int .i64 x] 3)
      have G1 := Lib.hid (World.news_of_block (cs := #[.int .i64 x]) (t := 3) (fr := (0, 0)) (heap_alloc_new w1 (.cells #[.int .i64 x] 3)))
      have G2 := Lib.hid (show ∀ u ∈ [Value.int .i64 x], u.oneCell' = true by simp [Value.oneCell'])
      have g3 : m + 1 ≤ maxLen := by unfold maxLen; omega
      have g4 : (m + 1) * 8 ≤ 140737488355328 := by omega
      have hlt0 := HB.out.row.lt
      have G5 := Lib.hid (show w.heap.size + 1 ≤ (w1.alloc (.cells #[Value.int .i64 x] 3)).heap.size by have := hk1.size; simp; omega)
      have HOA := Lib.hid hoa
      have HRW := Lib.hid hrw
      clear c0 hk1 hoa hrw
      have RL := Lib.hid (reads_lit w1 (.int .i64 x) 3)
      go_wp2_with (at_builtin; refine (wpList_append_any _ rfl (.tmp 25) (.tmp 27) 53 rfl (w.heap.size + 1) 3 i0 (.int .i64 0) 1 8 Try.underlying53 hi0 hz0 hz1 hz2 rfl (by decide) (f a) _ _ rfl nn (w1.heap.size + 1) (some ⟨w1.heap.size, 0, none⟩) 1 1 [.int .i64 x] rfl RL.out G2.out g3 g4 G5.out ?_); intro v' w5 hown5 hgrow hat5; have r5 : w5.cell? ⟨w.heap.size, a, none⟩ = some (f a) := (rowIs_grown hrow2 hgrow HRW.out).cell ha64; have r6 : w5.frozen? ⟨w.heap.size, a, none⟩ = false := (rowIs_grown hrow2 hgrow HRW.out).frozen a; have HB5 := Lib.hid (HB.out.step HK1.out ha64 HA.out hown5 hgrow hat5); obtain ⟨A5, c5, hv5⟩ := own_slice hown5; clear hown5 hgrow hat5; subst hv5)
      go_roundw
      case rel => exact ⟨k + 1, _, by omega, by go_num, by rw [HM.out]; exact HB5.out⟩
      case measure => simp [intOf]; omega
    · obtain ⟨wo, rfl⟩ : ∃ wo : World, wo = wr := ⟨_, rfl⟩
      obtain rfl : k = n := by omega
      have HT := Lib.hid (take_all (l := l) (k := k) (by rw [← HN.out]; omega))
      rw [HT.out] at HB
      have hlt0 := HB.out.row.lt
      have K64 : (0 : Int) ≤ (k : Int) := by omega
      have B0 : w.heap.size ≤ wo.heap.size := Nat.le_of_lt hlt0
      go_wp2_with (at_make; refine wpList_make_own _ rfl _ _ 53 rfl wo.heap.size 3 i0 (.int .i64 0) 1 Try.underlying53 hi0 hz0 hz1 .i64 .i64 _ k rfl rfl rfl (by rw [hz2]; omega) (by unfold maxLen; omega) (Nat.le_refl _) ?_; intro w0 hown0 hgrow0)
      have hK0 : Keeps wo w0 := ⟨hgrow0.os, hgrow0.tape, hgrow0.output, hgrow0.size, fun k hk => hgrow0.block k hk (by simp)⟩
      have HK0 := Lib.hid hK0; clear hK0 hgrow0
      go_loopw [11, 12, 35] (fun v _ i wi => ∃ p m : Nat, p ≤ P ∧ m = (passF p key l).length ∧ i = .int .i64 (p : Int) ∧ wi.ownsRow wo.heap.size 3 1 v m (intCells .i64 (passF p key l)) ∧ Keeps wo wi) (fun _ _ i _ => P - (intOf i).toNat)
      case atStart => exact ⟨0, 0, by omega, rfl, rfl, hown0, HK0.out⟩
      case round =>
        clear hown0
        obtain ⟨p, m, hp, hm, rfl, hown, hK⟩ := hrel
        have hpl1 := passF_len_le key l p
        rw [← hm, ← HN.out] at hpl1
        by_cases hpP : p < P
        · have hp64 : p < 64 := by omega
          obtain ⟨m', hob⟩ := HB.out.own p hp64
          have r0 : wr.cell? ⟨w.heap.size, p, none⟩ = some (f p) := (rowIs_keeps HB.out.row hK).cell hp64
          obtain ⟨A', c', hfp⟩ := own_slice hob
          rw [hfp] at r0 hob
          clear hfp
          have hm' : m' = (l.filter fun x => key x == (p : Int)).length := by have := hob.1; simp [intCells] at this; omega
          have hpl2 := passF_len_le key l (p + 1)
          rw [passF_append, List.length_append, ← hm, ← hm', ← HN.out] at hpl2
          have RD := Lib.hid ((Reads.of_own hob).below hK)
          have G2 := Lib.hid (intCells_one (ik := .i64) (l := l.filter fun x => key x == (p : Int)))
          have HM' := Lib.hid hm'; have HMM := Lib.hid hm
          have hpz : (p : Int) < (P : Int) := by omega
          have hpw : IntKind.i64.wrap ((p : Int) + 1) = (p : Int) + 1 := IntWalk.i64_in _ (by omega)
          have g3 : m + m' ≤ maxLen := by unfold maxLen; omega
          have g4 : (m + m') * 8 ≤ 140737488355328 := by omega
          have G5 := Lib.hid hK.size
          have HOW := Lib.hid hown
          have HKW := Lib.hid hK
          clear hm hm' hob hown hK
          have hlt1 : w.heap.size < wr.heap.size := Nat.lt_of_lt_of_le hlt0 G5.out
          go_wp2_with (at_builtin; refine (wpList_append_any _ rfl (.tmp 38) (.tmp 41) 53 rfl wo.heap.size 3 i0 (.int .i64 0) 1 8 Try.underlying53 hi0 hz0 hz1 hz2 rfl (by decide) _ m _ rfl HOW.out wo.heap.size A' m' c' _ rfl RD.out G2.out g3 g4 G5.out ?_); intro v' w5 hown5 hgrow hat5)
          have HK5 := Lib.hid (grown_keeps HKW.out hgrow (fun k hk => (own_lt HOW.out hk).1))
          clear hat5 hgrow
          have HO5 := Lib.hid hown5; clear hown5
          go_roundw
          case rel => exact ⟨p + 1, m + m', by omega, by rw [passF_append, List.length_append, ← HMM.out, ← HM'.out], by go_num, by rw [passF_append, intCells_append]; exact HO5.out, HK5.out⟩
          case measure => simp [intOf]; omega
        · obtain rfl : p = P := by omega
          have HL := Lib.hid (list_own hown (HB.out.keeps.trans hK))
          go_wp2
          go_ret
          exact HL.out
set_option maxHeartbeats 1000000 in
theorem clo36 (pk : List Int) (bp : Nat) (A : Option Addr) (n c : Nat) (item : Int) (w : World) (hb : Blk w bp 22 #[.slice A n c]) (hl : Nums .i64 w w.heap.size A pk) (hln : n = pk.length) (h0 : 0 ≤ item) (h1 : item < (pk.length : Int)) :
    Calls Try.prog 36 #[.int .i64 item, .pointer (some ⟨bp, 0, none⟩)] w fun e w' => e = .returned (.int .i64 (at' pk item)) ∧ Keeps w w' := by
  obtain ⟨k, rfl⟩ : ∃ k : Nat, item = (k : Int) := ⟨item.toNat, by omega⟩
  rw [← hln] at h1
  have hk : k < n := by omega
  have hok : pk[k]? = some (pk[k]'(by omega)) := List.getElem?_eq_getElem _
  generalize pk[k]'(by omega) = x at hok
  obtain ⟨b, off, rfl, hb0, c0⟩ := hl k x hok
  have E := Lib.hid (at_nat hok); clear hok
  have r0 := hb.cell 0
  have r1 : w.cell? ⟨bp, 0, none⟩ = some (.slice (some ⟨b, off, none⟩) n c) := r0
  clear r0
  have HN := Lib.hid hln; clear hln
  go_enter Try.func36, Try.ntmps36
  go_wp2
  go_ret
  exact ⟨ret_int E.out.symm, Keeps.refl _⟩
set_option maxHeartbeats 1000000 in
theorem clo33 (pk dest : List Int) (bp bd : Nat) (A B : Option Addr) (n c n' c' : Nat) (item : Int) (w : World) (hb : Blk w bp 22 #[.slice A n c]) (hd : Blk w bd 22 #[.slice B n' c']) (hl : Nums .i64 w w.heap.size A pk) (hm : Nums .i64 w w.heap.size B dest)
    (hln : n = pk.length) (hlm : n' = dest.length) (h0 : 0 ≤ item) (h1 : item < (dest.length : Int)) (h2 : 0 ≤ at' dest item) (h3 : at' dest item < (pk.length : Int)) :
    Calls Try.prog 33 #[.int .i64 item, .pointer (some ⟨bp, 0, none⟩), .pointer (some ⟨bd, 0, none⟩)] w fun e w' => e = .returned (.int .i64 (keyF pk dest item)) ∧ Keeps w w' := by
  obtain ⟨k, rfl⟩ : ∃ k : Nat, item = (k : Int) := ⟨item.toNat, by omega⟩
  rw [← hlm] at h1
  rw [← hln] at h3
  have hk : k < n' := by omega
  have hok : dest[k]? = some (dest[k]'(by omega)) := List.getElem?_eq_getElem _
  generalize dest[k]'(by omega) = d at hok
  have hat := at_nat hok
  rw [hat] at h2 h3
  obtain ⟨j, rfl⟩ : ∃ j : Nat, d = (j : Int) := ⟨d.toNat, by omega⟩
  have hj : j < n := by omega
  have hok2 : pk[j]? = some (pk[j]'(by omega)) := List.getElem?_eq_getElem _
  generalize pk[j]'(by omega) = x at hok2
  have E := Lib.hid (show keyF pk dest (k : Int) = x by unfold keyF; rw [hat, at_nat hok2])
  obtain ⟨b, off, rfl, hb0, c0⟩ := hl j x hok2
  obtain ⟨b', off', rfl, hb0', c0'⟩ := hm k _ hok
  clear hok hok2 hat
  have r1 : w.cell? ⟨bp, 0, none⟩ = some (.slice (some ⟨b, off, none⟩) n c) := hb.cell 0
  have r2 : w.cell? ⟨bd, 0, none⟩ = some (.slice (some ⟨b', off', none⟩) n' c') := hd.cell 0
  have HN := Lib.hid hln; clear hln
  have HM := Lib.hid hlm; clear hlm
  go_enter Try.func33, Try.ntmps33
  go_wp2
  go_quiet (fail)
  go_wp2
  go_ret
  exact ⟨ret_int E.out.symm, (Keeps.refl _).drewN _⟩
theorem enter36 (args : Array Value) (w : World) : (callFunc 36 args).run Try.prog w = .ok (.enter 36 args) w := enters_of Try.func36 (by kernel_rfl) rfl args w
theorem enter33 (args : Array Value) (w : World) : (callFunc 33 args).run Try.prog w = .ok (.enter 33 args) w := enters_of Try.func33 (by kernel_rfl) rfl args w
end Go.Proofs.Ytkfcebojfnnieaa
