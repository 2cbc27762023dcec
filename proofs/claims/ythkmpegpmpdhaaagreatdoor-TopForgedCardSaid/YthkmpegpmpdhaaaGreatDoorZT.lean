/- Part of the proof of TopOwnItem. Conditions: as stated in each theorem. -/
import Derived.Test.YthkmpegpmpdhaaaGreatDoorZS
import Derived.Test.YthkmpegpmpdhaaaGreatDoorProg
import Derived.WalkMore
import Derived.Maps.OwnIn
import Derived.Deep.LoopGhost
import Derived.RangeFuncNested
import Derived.RangeFuncCalls
import Derived.RangeFuncLeaves
import Derived.RangeFuncWrites
import Derived.Shelf.Abstract
import Derived.Shelf.RegionOpen
import Derived.OwnWalkIn
import Derived.TacticsInMore
import Derived.LoopNIn
import Derived.LoopIn
import Derived.RangeFuncBound
import Derived.Shelf.SlSortCmp.InsertionK
import Derived.Shelf.SlSortCmp.NoneTotal
import Derived.Ground.SlsfProg
import Derived.WalkKit
import Derived.WalkSpells
import Derived.WalkLawsBesides
import Derived.Laws.EntriesVeiled
import Derived.ProofKit
import Derived.OpenShut
import Derived.Lib.Hide
import Derived.BigQuiet
import Derived.Deep.QuietTactic
import Derived.Deep.CutRange
import Derived.StillTailTactics
import Derived.Lib.SliceRun
import Derived.RangeFuncRecord
import Derived.Carry
import Derived.ChangeKeysEq
import Derived.Below
import Derived.Laws.OwnMore
import Derived.Deep.AppendLies
import Derived.Deep.Draws
import Derived.Laws.Rows
import Derived.Maps.AppendAt
import Derived.RegionTactic
import Derived.OwnWalk
import Derived.Deep.RegionHeld3
namespace Go.Proofs.YthkmpegpmpdhaaaGreatDoor
open Go.Shelf Go.ChangeShapes Go.WideShapes Go.ChangeAt Go.RowKit
set_option linter.unusedSimpArgs false
set_option linter.unusedVariables false
open Go.Sort
/-- Memory made, and draws made; nothing else. -/
def Grows (w w' : World) : Prop := ∃ q os', w' = grow (w.drewN q) os'
theorem grow_again (w : World) (q q2 : Nat) (a b : Array Obj) : grow ((grow (w.drewN q) a).drewN q2) b = grow (w.drewN (q + q2)) (a ++ b) := by
  simp [grow, World.drewN, Nat.add_assoc]
theorem Grows.refl (w : World) : Grows w w := ⟨0, #[], by simp [grow, World.drewN]⟩
theorem Grows.trans {a b c : World} (h : Grows a b) (k : Grows b c) : Grows a c := by
  obtain ⟨q, os, rfl⟩ := h
  obtain ⟨q2, os2, rfl⟩ := k
  exact ⟨q + q2, os ++ os2, grow_again _ _ _ _ _⟩
theorem Grows.alloc {a b : World} (h : Grows a b) (o : Obj) : Grows a (b.alloc o) := h.trans ⟨0, #[o], by rw [alloc_eq_grow]; rfl⟩
theorem Grows.drewN {a b : World} (h : Grows a b) (n : Nat) : Grows a (b.drewN n) := h.trans ⟨n, #[], by simp [grow]; rfl⟩
theorem Grows.drew {a b : World} (h : Grows a b) : Grows a b.drew := h.drewN 1
theorem Grows.keeps {a b : World} (h : Grows a b) : Keeps a b := by
  obtain ⟨q, os, rfl⟩ := h
  exact keeps_grow a q os
section
variable {P : Program}
/-- An append to a row that is full makes memory and no more. -/
theorem append_full_grows (w : World) (t ty e : TypeId) (i : TypeInfo) (z : Value) (ht : P.underlying t = some (.slice e)) (hi : P.info? e = some i) (hz : i.zero = some z)
    (g k : Nat) (olds : List Value) (hlo : olds.length = k * i.size) (holds : ∀ j v, olds[j]? = some v → w.cell? ((⟨g, 0, none⟩ : Addr).add j) = some v)
    (A : Option Addr) (n c : Nat) (news : List Value) (hl : news.length = n * i.size) (hnews : ∀ a, A = some a → ∀ j v, news[j]? = some v → w.cell? (a.add j) = some v) (hA : 0 < n → ∃ a, A = some a)
    (h63 : ((k + n : Nat) : Int) ≤ 9223372036854775807) (hfit : (k + n) * i.bytes ≤ 140737488355328) :
    ∃ v' w', (Builtin.append_ #[t, t] ty #[.slice (some ⟨g, 0, none⟩) k k, .slice A n c]).run P w = .ok v' w' ∧ Grows w w' := by
  rcases Nat.eq_zero_or_pos n with rfl | hp
  · have hn : news = [] := List.eq_nil_of_length_eq_zero (by simpa using hl)
    subst hn
    refine ⟨.slice (some ⟨g, 0, none⟩) k k, w, ?_, Grows.refl w⟩
    rcases A with _ | a
    · simp [Builtin.append_, run_underlying ht, sizeOf, typeInfo, hi, Builtin.lenOf, Builtin.firstCells, storeCells]
    · have hf := run_firstCells_some (P := P) w i.size 0 a 0 c [] (by simp) (by simp)
      simp [Builtin.append_, run_underlying ht, sizeOf, typeInfo, hi, Builtin.lenOf, hf, storeCells]
  · obtain ⟨a, rfl⟩ := hA hp
    refine ⟨_, _, run_append_grow (P := P) (w := w) t ty e i z ht hi hz ⟨g, 0, none⟩ k k olds hlo holds a n c news hl (hnews a rfl) (by omega) h63 (growslice_fits (by omega) hfit), ((Grows.refl w).drew).alloc _⟩
variable {α : Type} {R : RowTy α} (ok : RowOk P R)
include ok
theorem wpList_appFull {w0 w : World} {ops : Array Oper} {rest : List Oper} {o : Oper} {a : Act} {Q : Exit → Act → World → Prop} (hgd : o.guard = none) (s x : Operand)
    (ho : o.op = .call { callee := .builtin .append, args := #[s, x], argTypes := #[R.S, R.S] })
    (g : Nat) (l : List α) (hs : a.eval s = .slice (some ⟨g, 0, none⟩) l.length l.length) (hown : OwnR R w0 w (.slice (some ⟨g, 0, none⟩) l.length l.length) l)
    (A : Option Addr) (m c : Nat) (l2 : List α) (hx : a.eval x = .slice A m c) (hr : RecIn R w w.heap.size A l2) (hm : Hid (m = l2.length)) (hle : Hid (l.length + l2.length ≤ 1000000))
    (h : ∀ A' n' c' w', OwnR R w0 w' (.slice A' n' c') (l ++ l2) → Grows w w' → wpList P ops Q rest (a.put o.dst (.slice A' n' c')) w') : wpList P ops Q (o :: rest) a w := by
  obtain ⟨i0, z, hi0, hz0, hz1, hz2, hz3⟩ := ok.info
  have hle' := hle.out
  have hm' := hm.out
  subst hm'
  have hby : (l.length + l2.length) * R.by' ≤ 1000000 * 1000 := Nat.mul_le_mul hle' ok.few
  have hrd := hr.reads ok
  obtain ⟨v2, w2, hrun2, hG⟩ := append_full_grows (P := P) w R.S o.type R.T i0 z ok.und hi0 hz0 g l.length (recCells R l) (by rw [recCells_length ok.len, hz1]) (fun j u hu => by
      have hj := (List.getElem?_eq_some_iff.1 hu).1
      rw [recCells_length ok.len] at hj
      have := hown.1.cellAt j hj
      rw [hu] at this
      by_cases hj0 : j = 0
      · subst hj0; simpa [Addr.add] using this
      · simpa [Addr.add, hj0] using this)
    A l2.length c (recCells R l2) (by rw [recCells_length ok.len, hz1]) (fun ad e j u hu => by
      subst e
      obtain ⟨ad', e, _, hc⟩ := hrd.2 (by
        rcases Nat.eq_zero_or_pos l2.length with h0 | h0
        · have := List.eq_nil_of_length_eq_zero h0
          subst this
          simp [recCells] at hu
        · exact h0)
      injection e with e
      subst e
      exact hc j u hu) (fun h0 => by obtain ⟨ad', e, _⟩ := hrd.2 h0; exact ⟨ad', e⟩) (by omega) (by rw [hz2]; omega)
  obtain ⟨v', w', hrun, h1, h2, _⟩ := run_append_any (P := P) w w0.heap.size R.S o.type R.T i0 z R.k R.by' ok.und hi0 hz0 hz1 hz2 hz3 ok.pos _ l.length (recCells R l) hown.1 w.heap.size A l2.length c (recCells R l2) hrd (recCells_oneCell ok l2) (by unfold maxLen; omega) (by omega) hown.2.size
  rw [hrun] at hrun2
  injection hrun2 with e1 e2
  subst e1 e2
  obtain ⟨A', c', rfl⟩ := own_slice h1
  refine wpList_plain hgd fun _ hK => ?_
  unfold Oper.wp execOp
  simp only [ho, resolve, invoke, builtin, Sem.run_bind, Sem.run_pure, Result.andThen_ok, List.map_toArray, List.map_cons, List.map_nil, hs, hx, hrun]
  refine hK _ _ (h A' _ c' w' ⟨?_, grown_keeps hown.2 h2 (fun k hk => (own_lt hown.1 hk).1)⟩ hG)
  rw [← List.length_append, ← recCells_append] at h1
  rw [← List.length_append]
  exact h1
end
def KeyG (l : List Int) (w : World) (e : Ending) (w' : World) : Prop := ∃ A n c, e = .returned (.slice A n c) ∧ n = l.length ∧ RecIn intR w' w'.heap.size A l ∧ Grows w w'
set_option maxRecDepth 100000 in
theorem key67g (v : Ev) (w : World) (h : EvOk w w.heap.size v) : Calls Tryz.prog 67 #[evA v] w (KeyG (keyF v.say) w) := by
  obtain ⟨off, lo, hi, nd, A, c⟩ := v
  change Calls Tryz.prog 67 #[.agg #[.int .i64 off, .int .i64 lo, .int .i64 hi, .slice A nd.length c]] w (KeyG ([(nd.length : Int), off, lo, hi] ++ nd) w)
  have hlen : nd.length ≤ 1000 := h.len
  obtain ⟨q, hq⟩ : ∃ q, nd.length = q := ⟨_, rfl⟩
  have HQ := Lib.hid hq
  rw [hq] at hlen ⊢
  have k1 := (Keeps.refl w).alloc (.cells #[.int .i64 off, .int .i64 lo, .int .i64 hi, .slice A q c] 43)
  have g1 := Lib.hid (((Grows.refl w).alloc (.cells #[.int .i64 off, .int .i64 lo, .int .i64 hi, .slice A q c] 43)).alloc (.cells #[.int .i64 (q : Int), .int .i64 off, .int .i64 lo, .int .i64 hi] 3))
  have O1 := Lib.hid (show OwnR intR w ((w.alloc (.cells #[.int .i64 off, .int .i64 lo, .int .i64 hi, .slice A q c] 43)).alloc (.cells #[.int .i64 (q : Int), .int .i64 off, .int .i64 lo, .int .i64 hi] 3)) (.slice (some ⟨w.heap.size + 1, 0, none⟩) 4 4) [(q : Int), off, lo, hi] by have := OwnR.litN (R := intR) (fun _ => rfl) k1 [(q : Int), off, lo, hi] #[.int .i64 (q : Int), .int .i64 off, .int .i64 lo, .int .i64 hi] rfl (by simp); rwa [World.size_alloc] at this)
  have X1 := Lib.hid ((h.keep k1).nd.keep ((Keeps.refl _).alloc (.cells #[.int .i64 (q : Int), .int .i64 off, .int .i64 lo, .int .i64 hi] 3)))
  have HL := Lib.hid hq.symm
  have LE := Lib.hid (show [(q : Int), off, lo, hi].length + nd.length ≤ 1000000 by rw [hq]; simp; omega)
  clear h hq k1
  go_enter Tryz.func67, Tryz.ntmps67
  go_wp2_with (at_builtin; refine wpList_appFull intOk (w0 := w) rfl (.tmp 12) (.tmp 14) rfl _ [(q : Int), off, lo, hi] rfl O1.out _ _ _ nd rfl X1.out HL LE ?_; intro A2 n2 c2 w2 ho2 hg2; have O2 := Lib.hid ho2; have G2 := Lib.hid (g1.out.trans hg2); clear ho2 hg2)
  go_ret
  exact ⟨A2, n2, c2, rfl, (O2.out.recs intOk).2, (O2.out.recs intOk).1, G2.out⟩
def cmpI (x y : Int) : Int := if x < y then -1 else if y < x then 1 else 0
theorem cmpI_lt (x y : Int) : cmpI x y < 0 ↔ x < y := by unfold cmpI; split <;> (try split) <;> omega
theorem nan142 (x : Int) (w : World) : Calls Tryz.prog 142 #[.int .i64 x] w fun e w' => e = .returned (.bool false) ∧ w' = w := by
  go_enter Tryz.func142, Tryz.ntmps142
  go_wp2
  go_ret
  exact ⟨rfl, rfl⟩
set_option maxRecDepth 100000 in
theorem cmp96 (x y : Int) (w : World) : Calls Tryz.prog 96 #[.int .i64 x, .int .i64 y] w fun e w' => e = .returned (.int .i64 (cmpI x y)) ∧ w' = w := by
  have h1 := fun w => nan142 x w
  have h2 := fun w => nan142 y w
  by_cases h : x < y
  · have h' : decide (x < y) = true := by simpa using h
    rw [show cmpI x y = -1 by unfold cmpI; rw [if_pos h]]
    go_enter Tryz.func96, Tryz.ntmps96
    go_wp2_with (first | (go_at_call 142; refine (h1 _).mono ?_; rintro e w' ⟨rfl, rfl⟩) | (go_at_call 142; refine (h2 _).mono ?_; rintro e w' ⟨rfl, rfl⟩))
    go_ret
    exact ⟨rfl, rfl⟩
  · have h' : decide (x < y) = false := by simpa using h
    by_cases h3 : y < x
    · have h3' : decide (y < x) = true := by simpa using h3
      rw [show cmpI x y = 1 by unfold cmpI; rw [if_neg h, if_pos h3]]
      go_enter Tryz.func96, Tryz.ntmps96
      go_wp2_with (first | (go_at_call 142; refine (h1 _).mono ?_; rintro e w' ⟨rfl, rfl⟩) | (go_at_call 142; refine (h2 _).mono ?_; rintro e w' ⟨rfl, rfl⟩))
      go_ret
      exact ⟨rfl, rfl⟩
    · have h3' : decide (y < x) = false := by simpa using h3
      rw [show cmpI x y = 0 by unfold cmpI; rw [if_neg h, if_neg h3]]
      go_enter Tryz.func96, Tryz.ntmps96
      go_wp2_with (first | (go_at_call 142; refine (h1 _).mono ?_; rintro e w' ⟨rfl, rfl⟩) | (go_at_call 142; refine (h2 _).mono ?_; rintro e w' ⟨rfl, rfl⟩))
      go_ret
      exact ⟨rfl, rfl⟩
/-- The order of rows: number by number, a row that is out first. -/
def lexI : List Int → List Int → Int
  | [], [] => 0
  | [], _ :: _ => -1
  | _ :: _, [] => 1
  | x :: a, y :: b => if cmpI x y = 0 then lexI a b else cmpI x y
theorem lexI_cons (x y : Int) (a b : List Int) : lexI (x :: a) (y :: b) = if cmpI x y = 0 then lexI a b else cmpI x y := rfl
theorem lexI_nil (b : List Int) : lexI [] b = if 0 < b.length then -1 else 0 := by cases b <;> simp [lexI]
theorem lexI_end (x : Int) (a : List Int) : lexI (x :: a) [] = 1 := rfl
set_option maxHeartbeats 1000000 in
set_option maxRecDepth 100000 in
theorem comp113 (a b : List Int) (A B : Option Addr) (n m c c' : Nat) (w : World) (ha : RecIn intR w w.heap.size A a) (hb : RecIn intR w w.heap.size B b) (hn : n = a.length) (hm : m = b.length) (hl : n ≤ 1000000) (hl2 : m ≤ 1000000) :
    Calls Tryz.prog 113 #[.slice A n c, .slice B m c'] w fun e w' => e = .returned (.int .i64 (lexI a b)) ∧ w' = w := by
  have HA := Lib.hid ha; have HB := Lib.hid hb; have HN := Lib.hid hn; have HM := Lib.hid hm
  clear ha hb hn hm
  go_enter Tryz.func113, Tryz.ntmps113
  go_wp2
  go_loopw [11] (fun i wr => ∃ k : Nat, k ≤ n ∧ k ≤ m ∧ i = .int .i64 (k : Int) ∧ wr = w ∧ lexI a b = lexI (a.drop k) (b.drop k)) (fun i _ => n - (intOf i).toNat)
  case atStart => exact ⟨0, by omega, by omega, rfl, rfl, rfl⟩
  case round =>
    obtain ⟨k, hk, hkm, rfl, rfl, hx⟩ := hrel
    have HX := Lib.hid hx
    clear hx
    have hna := HN.out
    have hmb := HM.out
    by_cases hkn : k < n
    · obtain ⟨x, hxa⟩ : ∃ x, a[k]? = some x := ⟨_, List.getElem?_eq_getElem (by omega)⟩
      obtain ⟨ba, oa, rfl, _, c0⟩ := HA.out.int hxa
      have da : a.drop k = x :: a.drop (k + 1) := by
        obtain ⟨h1, h2⟩ := List.getElem?_eq_some_iff.1 hxa
        rw [← h2]; exact List.drop_eq_getElem_cons h1
      have kn : (k : Int) < (n : Int) := by omega
      have k0 : (0 : Int) ≤ (k : Int) := by omega
      by_cases hk2 : k < m
      · obtain ⟨y, hyb⟩ : ∃ y, b[k]? = some y := ⟨_, List.getElem?_eq_getElem (by omega)⟩
        obtain ⟨bb, ob, rfl, _, c1⟩ := HB.out.int hyb
        have db : b.drop k = y :: b.drop (k + 1) := by
          obtain ⟨h1, h2⟩ := List.getElem?_eq_some_iff.1 hyb
          rw [← h2]; exact List.drop_eq_getElem_cons h1
        have HY := Lib.hid (show lexI a b = if cmpI x y = 0 then lexI (a.drop (k + 1)) (b.drop (k + 1)) else cmpI x y by rw [HX.out, da, db, lexI_cons])
        have km : decide ((m : Int) ≤ (k : Int)) = false := by simp; omega
        have km' : decide (m ≤ k) = false := by simp; omega
        have kmi : (k : Int) < (m : Int) := by omega
        have kw : IntKind.i64.wrap ((k : Int) + 1) = (k : Int) + 1 := wrap_in (by omega) (by omega)
        have HC := Lib.hid (fun W => cmp96 x y W)
        clear hxa hyb da db hna hmb
        obtain ⟨r, hr⟩ : ∃ r, cmpI x y = r := ⟨_, rfl⟩
        rw [hr] at HC HY
        by_cases h0 : r = 0
        · have HY2 := Lib.hid (show lexI a b = lexI (a.drop (k + 1)) (b.drop (k + 1)) by rw [HY.out, if_pos h0])
          subst h0
          go_wp2_with (go_at_call 96; refine (HC.out _).mono ?_; rintro e w' ⟨rfl, rfl⟩)
          go_roundw
          case rel => exact ⟨k + 1, by omega, by omega, by go_num, (by first | rfl | trivial), HY2.out⟩
          case measure => simp [intOf]; omega
        · have hd : decide (r = 0) = false := by simpa using h0
          have hd2 : (r != 0) = true := by simpa using h0
          have HY2 := Lib.hid (show lexI a b = r by rw [HY.out, if_neg h0])
          go_wp2_with (go_at_call 96; refine (HC.out _).mono ?_; rintro e w' ⟨rfl, rfl⟩)
          go_ret
          exact ⟨by rw [HY2.out]; rfl, rfl⟩
      · obtain rfl : k = m := by omega
        have e : lexI a b = 1 := by rw [HX.out, da, show b.drop k = [] from List.drop_eq_nil_of_le (by omega)]; rfl
        have E := Lib.hid e
        clear e
        clear hxa da hna hmb
        go_wp2
        go_ret
        exact ⟨by rw [E.out]; rfl, rfl⟩
    · obtain rfl : k = n := by omega
      have e : lexI a b = if k < m then -1 else 0 := by
        rw [HX.out, show a.drop k = [] from List.drop_eq_nil_of_le (by omega), lexI_nil, List.length_drop, ← hmb]
        by_cases h : k < m
        · rw [if_pos h, if_pos (by omega)]
        · rw [if_neg h, if_neg (by omega)]
      have E := Lib.hid e
      clear hna hmb e
      by_cases h : k < m
      · have hi : (k : Int) < (m : Int) := by omega
        go_wp2
        go_ret
        exact ⟨by rw [E.out, if_pos h]; rfl, rfl⟩
      · obtain rfl : k = m := by omega
        go_wp2
        go_ret
        exact ⟨by rw [E.out, if_neg h]; rfl, rfl⟩
/-- The order of the events: by their keys. -/
def cfE (x y : EvC) : Int := lexI (keyF x) (keyF y)
def FnCell (fb : Nat) (w : World) : Prop := w.cell? ⟨fb, 0, none⟩ = some (.func (.func 67) #[] #[])
set_option maxHeartbeats 1000000 in
set_option maxRecDepth 100000 in
theorem closure112 (x y : Ev) (fb : Nat) (w : World) (hx : EvOk w w.heap.size x) (hy : EvOk w w.heap.size y) (hf : FnCell fb w) :
    Calls Tryz.prog 112 #[evA x, evA y, .pointer (some ⟨fb, 0, none⟩)] w fun e w' => e = .returned (.int .i64 (cfE x.say y.say)) ∧ Grows w w' := by
  have HK1 := Lib.hid (fun X (hk : Keeps w X) => key67g x X (hx.keep hk))
  have HK2 := Lib.hid (fun X (hk : Keeps w X) => key67g y X (hy.keep hk))
  have hl1 : (keyF x.say).length ≤ 1000000 := by have := hx.len; simp [keyF, Ev.say]; omega
  have hl2 : (keyF y.say).length ≤ 1000000 := by have := hy.len; simp [keyF, Ev.say]; omega
  clear hx hy
  change FnCell fb w at hf
  unfold FnCell at hf
  obtain ⟨r, hr⟩ : ∃ r, cfE x.say y.say = r := ⟨_, rfl⟩
  rw [hr]
  have HCM := Lib.hid (show ∀ A B n m c c' W, RecIn intR W W.heap.size A (keyF x.say) → RecIn intR W W.heap.size B (keyF y.say) → n = (keyF x.say).length → m = (keyF y.say).length → Calls Tryz.prog 113 #[.slice A n c, .slice B m c'] W fun e w' => e = .returned (.int .i64 r) ∧ w' = W from fun A B n m c c' W ha hb hn hm => by
    have h := comp113 _ _ A B n m c c' W ha hb hn hm (by omega) (by omega)
    rwa [show lexI (keyF x.say) (keyF y.say) = r from hr] at h)
  clear hr hl1 hl2
  generalize keyF x.say = kx at *
  generalize keyF y.say = ky at *
  obtain ⟨xo, xl, xh, xn, xA, xc⟩ := x
  obtain ⟨yo, yl, yh, yn, yA, yc⟩ := y
  simp only [evA] at HK1 HK2 ⊢
  generalize xn.length = xq at *
  generalize yn.length = yq at *
  have B1 := Lib.hid ((Blk.new w 43 #[.int .i64 xo, .int .i64 xl, .int .i64 xh, .slice xA xq xc]).alloc (.cells #[.int .i64 yo, .int .i64 yl, .int .i64 yh, .slice yA yq yc] 43))
  have B2 := Lib.hid (show Blk ((w.alloc (.cells #[.int .i64 xo, .int .i64 xl, .int .i64 xh, .slice xA xq xc] 43)).alloc (.cells #[.int .i64 yo, .int .i64 yl, .int .i64 yh, .slice yA yq yc] 43)) (w.heap.size + 1) 43 #[.int .i64 yo, .int .i64 yl, .int .i64 yh, .slice yA yq yc] by have := Blk.new (w.alloc (.cells #[.int .i64 xo, .int .i64 xl, .int .i64 xh, .slice xA xq xc] 43)) 43 #[.int .i64 yo, .int .i64 yl, .int .i64 yh, .slice yA yq yc]; rwa [World.size_alloc] at this)
  have G0 := Lib.hid (((Grows.refl w).alloc (.cells #[.int .i64 xo, .int .i64 xl, .int .i64 xh, .slice xA xq xc] 43)).alloc (.cells #[.int .i64 yo, .int .i64 yl, .int .i64 yh, .slice yA yq yc] 43))
  go_enter Tryz.func112, Tryz.ntmps112
  go_wp2_with fail
  have f0 := cell_keep hf G0.out.keeps
  generalize hw2 : (w.alloc (.cells #[.int .i64 xo, .int .i64 xl, .int .i64 xh, .slice xA xq xc] 43)).alloc (.cells #[.int .i64 yo, .int .i64 yl, .int .i64 yh, .slice yA yq yc] 43) = w2 at *
  clear hw2
  have x0 := cell_of_blk B1.out 0 (v := .int .i64 xo) rfl
  have x1 := cell_of_blk B1.out 1 (v := .int .i64 xl) rfl
  have x2 := cell_of_blk B1.out 2 (v := .int .i64 xh) rfl
  have x3 := cell_of_blk B1.out 3 (v := .slice xA xq xc) rfl
  have y0 := cell_of_blk B2.out 0 (v := .int .i64 yo) rfl
  have y1 := cell_of_blk B2.out 1 (v := .int .i64 yl) rfl
  have y2 := cell_of_blk B2.out 2 (v := .int .i64 yh) rfl
  have y3 := cell_of_blk B2.out 3 (v := .slice yA yq yc) rfl
  have SOF := Lib.hid (show ∀ X, Grows w2 X → (fun w' => w'.cell? ⟨fb, 0, none⟩ = some (.func (.func 67) #[] #[]) ∧ w'.cell? ⟨w.heap.size, 0, none⟩ = some (.int .i64 xo) ∧ w'.cell? ⟨w.heap.size, 1, none⟩ = some (.int .i64 xl) ∧ w'.cell? ⟨w.heap.size, 2, none⟩ = some (.int .i64 xh) ∧ w'.cell? ⟨w.heap.size, 3, none⟩ = some (.slice xA xq xc) ∧ w'.cell? ⟨w.heap.size + 1, 0, none⟩ = some (.int .i64 yo) ∧ w'.cell? ⟨w.heap.size + 1, 1, none⟩ = some (.int .i64 yl) ∧ w'.cell? ⟨w.heap.size + 1, 2, none⟩ = some (.int .i64 yh) ∧ w'.cell? ⟨w.heap.size + 1, 3, none⟩ = some (.slice yA yq yc) ∧ Grows w2 w') X from fun X hX => ⟨cell_keep f0 hX.keeps, cell_keep x0 hX.keeps, cell_keep x1 hX.keeps, cell_keep x2 hX.keeps, cell_keep x3 hX.keeps, cell_keep y0 hX.keeps, cell_keep y1 hX.keeps, cell_keep y2 hX.keeps, cell_keep y3 hX.keeps, hX⟩)
  clear hf f0 x0 x1 x2 x3 y0 y1 y2 y3
  go_region_held3 (fun w' => w'.cell? ⟨fb, 0, none⟩ = some (.func (.func 67) #[] #[]) ∧ w'.cell? ⟨w.heap.size, 0, none⟩ = some (.int .i64 xo) ∧ w'.cell? ⟨w.heap.size, 1, none⟩ = some (.int .i64 xl) ∧ w'.cell? ⟨w.heap.size, 2, none⟩ = some (.int .i64 xh) ∧ w'.cell? ⟨w.heap.size, 3, none⟩ = some (.slice xA xq xc) ∧ w'.cell? ⟨w.heap.size + 1, 0, none⟩ = some (.int .i64 yo) ∧ w'.cell? ⟨w.heap.size + 1, 1, none⟩ = some (.int .i64 yl) ∧ w'.cell? ⟨w.heap.size + 1, 2, none⟩ = some (.int .i64 yh) ∧ w'.cell? ⟨w.heap.size + 1, 3, none⟩ = some (.slice yA yq yc) ∧ Grows w2 w') ((refine SOF.out _ ?_; (first | exact Grows.refl _ | exact (Grows.refl _).drew | assumption))) ((first | (go_at_call 67; (with_reducible refine (HK1.out w2.drew (G0.out.drew).keeps).mono ?_); rintro e w4 ⟨A4, n4, c4, rfl, hn4, hr4, hg4'⟩; have hg4 : Grows w2 w4 := ((Grows.refl w2).drew).trans hg4'; have R4 := Lib.hid hr4; have N4 := Lib.hid hn4; have G4 := Lib.hid (G0.out.trans hg4); clear hg4' hr4 hn4) | (go_at_call 67; (with_reducible refine (HK2.out w4 G4.out.keeps).mono ?_); rintro e w5 ⟨A5, n5, c5, rfl, hn5, hr5, hg5'⟩; have hg5 : Grows w2 w5 := hg4.trans hg5'; have R5 := Lib.hid hr5; have N5 := Lib.hid hn5; have R4' := Lib.hid (R4.out.keep hg5'.keeps); clear hg5' hr5 hn5) | (go_at_call 113; (with_reducible refine (HCM.out _ _ _ _ _ _ _ R4'.out R5.out N4.out N5.out).mono ?_); rintro e w6 ⟨rfl, rfl⟩)))
  rename_i hH
  have GH := Lib.hid (G0.out.trans hH.2.2.2.2.2.2.2.2.2)
  clear hH
  go_wp2_with fail
  go_ret
  exact ⟨rfl, GH.out⟩
end Go.Proofs.YthkmpegpmpdhaaaGreatDoor
