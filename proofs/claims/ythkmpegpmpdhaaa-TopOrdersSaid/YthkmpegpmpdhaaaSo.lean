/- Part of the proofs of TopMoney and TopOrders. Conditions: as stated in each theorem. -/
import Derived.Test.YthkmpegpmpdhaaaFu
import Derived.Test.YthkmpegpmpdhaaaC
import Derived.Deep.CutRange
import Derived.StillTailTactics
import Derived.Lib.SliceRun
import Derived.RangeFuncRecord
import Derived.Carry
import Derived.ChangeKeysEq
import Derived.Shelf.SlSortCmp.Insertion1
import Derived.Shelf.Lay
import Derived.Ground.SlsfProg
import Derived.Sort.LotA
import Derived.Test.YthkmpegpmpdhaaaRows
import Derived.WalkKit
import Derived.WalkSpells
import Derived.WalkLawsBesides
import Derived.Laws.EntriesVeiled
import Derived.ProofKit
import Derived.OpenShut
import Derived.Lib.Hide
import Derived.BigQuiet
import Derived.Deep.QuietTactic
import Derived.Below
import Derived.Laws.OwnMore
import Derived.Deep.AppendLies
import Derived.Deep.Draws
import Derived.Laws.Rows
import Derived.Maps.AppendAt
import Derived.RegionTactic
import Derived.OwnWalk
import Derived.Deep.RegionHeld3
namespace Go.Proofs.Ythkmpegpmpdhaaa
open Go.Shelf Go.Sort Go.ChangeShapes Go.WideShapes Go.ChangeAt Go.RowKit
set_option linter.unusedSimpArgs false
set_option linter.unusedVariables false
/-- Memory made, and draws made; nothing else. -/
def Grows (w w' : World) : Prop := ∃ q os', w' = grow (w.drewN q) os'
theorem grow_again (w : World) (q q2 : Nat) (a b : Array Obj) : grow ((grow (w.drewN q) a).drewN q2) b = grow (w.drewN (q + q2)) (a ++ b) := by
  simp [grow, World.drewN, Nat.add_assoc]
theorem Grows.refl (w : World) : Grows w w := ⟨0, #[], by simp [grow, World.drewN]⟩
theorem Grows.trans {a b c : World} (h : Grows a b) (k : Grows b c) : Grows a c := by
  obtain ⟨q, os, rfl⟩ := h
  obtain ⟨q2, os2, rfl⟩ := k
  exact ⟨q + q2, os ++ os2, grow_again _ _ _ _ _⟩
theorem Grows.alloc (w : World) (o : Obj) : Grows w (w.alloc o) := ⟨0, #[o], by rw [alloc_eq_grow]; rfl⟩
theorem Grows.drewN (w : World) (n : Nat) : Grows w (w.drewN n) := ⟨n, #[], by simp [grow]; rfl⟩
def PairG (a b : Int) (w : World) (e : Ending) (w' : World) : Prop := e = .returned (.tuple #[.int .i64 a, .int .i64 b]) ∧ Grows w w'
theorem pair_g {a b c d : Int} {w w' : World} (h1 : a = c) (h2 : b = d) (hk : Grows w w') : PairG a b w (.returned (.tuple #[.int .i64 c, .int .i64 d])) w' := ⟨by rw [h1, h2], hk⟩
theorem clamp_g (o lo hi : Int) (h : Hd) (w : World) : Calls Try.prog 94 #[.agg #[.int .i64 o, .int .i64 lo, .int .i64 hi, hdV h]] w (PairG (clampLo ⟨o, lo, hi⟩) (clampHi ⟨o, lo, hi⟩) w) := by
  have K := Lib.hid (Grows.alloc w (.cells #[.int .i64 o, .int .i64 lo, .int .i64 hi, hdV h] 80))
  go_enter Try.func94, Try.ntmps94
  go_wp2_with fail
  go_quiet (fail)
  go_wp2_with fail
  go_ret2
  exact pair_g (by unfold clampLo; simp only) (by unfold clampHi; simp only) (K.out.trans (Grows.drewN _ _))
theorem window_g (u : UnC) (w : World) : Calls Try.prog 97 #[unA u] w (PairG (clampLo u.2.1) (clampHi u.2.1) w) := by
  obtain ⟨i, ⟨o, lo, hi⟩, h⟩ := u
  unfold unA
  simp only
  have K := Lib.hid (Grows.alloc w (.cells #[.int .i64 (i : Int), .int .i64 o, .int .i64 lo, .int .i64 hi, hdV h] 118))
  go_enter Try.func97, Try.ntmps97
  go_wp2_with (go_at_call 94; (with_reducible refine (clamp_g o lo hi h _).mono ?_); rintro e w1 ⟨rfl, hk1⟩)
  go_ret2
  exact pair_g rfl rfl (K.out.trans hk1)
instance : Inhabited UnC := ⟨(0, ⟨0, 0, 0⟩, (none, 0, 0))⟩
def cmpU (x y : UnC) : Int := cmpI (clampHi x.2.1) (clampHi y.2.1)
theorem closure58 (x y : UnC) (W : World) : Calls Try.prog 58 #[unV x, unV y] W fun e w' => e = .returned (.int .i64 (cmpU x y)) ∧ Grows W w' := by
  have hcon := fun W' => cmp_any (clampHi x.2.1) (clampHi y.2.1) W'
  change ∀ W', Calls Try.prog 25 #[.int .i64 (clampHi x.2.1), .int .i64 (clampHi y.2.1)] W' fun e w' => e = .returned (.int .i64 (cmpU x y)) ∧ w' = W' at hcon
  generalize cmpU x y = r at hcon ⊢
  have HC := Lib.hid hcon
  have mw := meth_window
  unfold unV
  clear hcon
  go_enter Try.func58, Try.ntmps58
  go_wp2_with (first | (go_at_call 97; (with_reducible refine (window_g x _).mono ?_); rintro e w1 ⟨rfl, hk1⟩; have K1 := Lib.hid hk1; clear hk1) | (go_at_call 97; (with_reducible refine (window_g y _).mono ?_); rintro e w2 ⟨rfl, hk2⟩; have K2 := Lib.hid hk2; clear hk2) | (go_at_call 25; (with_reducible refine (HC.out _).mono ?_); rintro e w3 ⟨rfl, rfl⟩))
  go_ret
  exact ⟨rfl, K1.out.trans K2.out⟩
theorem rec_un (l : List UnC) : recCells unR l = l.map unV := by
  induction l with
  | nil => rfl
  | cons x l ih => rw [recCells_cons, ih]; rfl
theorem own_lenU {w0 w : World} {A : Option Addr} {n c : Nat} {l : List UnC} (h : OwnR unR w0 w (.slice A n c) l) : n = l.length := (h.recs unOk).2
theorem holds_un {w0 w : World} {g n cap : Nat} {l : List UnC} (h : OwnR unR w0 w (.slice (some ⟨g, 0, none⟩) n cap) l) : Holds unV w g 0 l.toArray := by
  have hn := own_lenU h
  subst hn
  intro j hj
  have hj' : j < l.length := by simpa using hj
  refine ⟨?_, by rw [Nat.zero_add]; exact h.frozen j⟩
  obtain ⟨b, off, e, _, hc⟩ := (h.recs unOk).1.un (List.getElem?_eq_getElem hj')
  cases e
  rw [hc, getElem!_pos _ j hj]
  rfl
theorem own_sortedU {w0 w : World} {g n cap : Nat} {l : List UnC} (h : OwnR unR w0 w (.slice (some ⟨g, 0, none⟩) n cap) l) (m : Nat) (d : Array UnC) (hd : d.size = l.length) (os : Array Obj) :
    OwnR unR w0 (sortWorld unV w g 0 m d os) (.slice (some ⟨g, 0, none⟩) n cap) d.toList ∧ w.grownBy (sortWorld unV w g 0 m d os) (some g) := by
  have hn := own_lenU h
  subst hn
  obtain ⟨hlen, hh⟩ := h.1
  rcases hh with ⟨e, _⟩ | ⟨g', cap', cur, e, hb, hg, hnc, hcm, hcs, htake⟩
  · cases e
  injection e with e1 e2 e3
  injection e1 with e1
  injection e1 with e1
  subst e1 e3
  have hglt := (Array.getElem?_eq_some_iff.1 hg).1
  have hgrow : w.grownBy (sortWorld unV w g 0 m d os) (some g) := by
    refine ⟨rfl, rfl, rfl, by simp [sortWorld, grow, putRow, mapBlock, ahead], fun k hk hne => ?_⟩
    have : k ≠ g := fun e => hne (by rw [e])
    simp only [sortWorld, grow, putRow, mapBlock, ahead]
    rw [Array.getElem?_append_left (by simpa using hk), Array.getElem?_modify, if_neg (fun e => this e.symm)]
    rfl
  have hlt : w0.heap.size ≤ g := hb
  refine ⟨⟨?_, grown_keeps h.2 hgrow (fun k e => by cases e; exact hlt)⟩, hgrow⟩
  have hdl : d.toList.length = l.length := by simpa using hd
  rw [hdl]
  refine ⟨by rw [recCells_length unOk.len, hdl], .inr ⟨g, cap, putCells unV 0 d cur, rfl, hb, ?_, hnc, hcm, by simp [putCells]; have : cur.size = cap * 1 := hcs; omega, ?_⟩⟩
  · simp only [sortWorld, grow, putRow, mapBlock, ahead]
    rw [Array.getElem?_append_left (by simpa using hglt), Array.getElem?_modify, if_pos rfl]
    show Option.map _ (w.heap[g]?) = _
    rw [hg]
    rfl
  · rw [rec_un]
    have hcs' : l.length ≤ cur.size := by have : cur.size = cap * 1 := hcs; omega
    have hk1 : l.length * unR.k = l.length := Nat.mul_one _
    rw [hk1]
    refine List.ext_getElem? fun t => ?_
    by_cases ht : t < l.length
    · have ht2 : t < d.size := by rw [hd]; exact ht
      rw [List.getElem?_take, if_pos (by omega), Array.getElem?_toList]
      simp only [putCells]
      rw [Array.getElem?_mapIdx, Array.getElem?_eq_getElem (by omega)]
      simp [ht2]
    · rw [List.getElem?_eq_none (by simp; omega), List.getElem?_eq_none (by simp [hd]; omega)]
/-- The units in the order of split: those that end their windows first at the beginning. -/
def sortU (l : List UnC) : List UnC := (Sort.insertionSort (ltOf cmpU) l.toArray 0 l.length).toList
theorem ltU (x y : UnC) : ltOf cmpU x y = decide (clampHi x.2.1 < clampHi y.2.1) := by
  unfold ltOf cmpU
  by_cases h : clampHi x.2.1 < clampHi y.2.1
  · simp [h, (cmpI_lt _ _).2 h]
  · have : ¬ cmpI (clampHi x.2.1) (clampHi y.2.1) < 0 := fun hc => h ((cmpI_lt _ _).1 hc)
    simp [h, this]
theorem swoU : SWO (ltOf cmpU) := ⟨fun x => by simp [ltU], fun x y z h1 h2 => by simp [ltU] at *; omega, fun x y z h1 h2 => by simp [ltU] at *; omega⟩
theorem sortU_is (l : List UnC) : (sortU l).Perm l ∧ (sortU l).length = l.length := by
  obtain ⟨⟨h1, _, h2⟩, h3⟩ := insertionSort_holds (lt := ltOf cmpU) swoU l.toArray 0 l.length (Nat.zero_le _) (by simp)
  unfold sortU
  generalize Sort.insertionSort (ltOf cmpU) l.toArray 0 l.length = d at *
  have hs : d.size = l.length := by simpa using h1
  have e1 : d.extract 0 l.length = d := by rw [← hs]; simp
  have e2 : l.toArray.extract 0 l.length = l.toArray := by simp
  rw [e1, e2] at h2
  exact ⟨h2, by simpa using hs⟩
def Try.insUn_ren : Go.Shelf.Ren := ⟨fun | 20 => 68 | n => n, fun | 24 => 97 | 22 => 86 | 3 => 3 | 25 => 122 | 4 => 4 | 0 => 0 | n => n, fun | n => n⟩
theorem Try.insUn : Go.Proofs.SlLaysF.n20 Try.prog Try.insUn_ren := {
  mixed := by kernel_rfl
  f20 := ⟨Try.f68.name, by decide, Try.func68.trans (congrArg some (by kernel_rfl))⟩
  t0 := Try.underlying0
  a0 := Try.isAgg0
  z0 := Try.sizeOf0
  v0 := Try.zeroValue0
  t3 := Try.underlying3
  a3 := Try.isAgg3
  z3 := Try.sizeOf3
  v3 := Try.zeroValue3
  t4 := Try.underlying4
  a4 := Try.isAgg4
  z4 := Try.sizeOf4
  v4 := Try.zeroValue4
  t22 := Try.underlying86
  a22 := Try.isAgg86
  z22 := Try.sizeOf86
  v22 := Try.zeroValue86
  a24 := Try.isAgg97
  z24 := Try.sizeOf97
  t25 := Try.underlying122
  a25 := Try.isAgg122
  z25 := Try.sizeOf122
  v25 := Try.zeroValue122
}
theorem insU_any (l : List UnC) (g n cap : Nat) (w0 w : World) (hO : OwnR unR w0 w (.slice (some ⟨g, 0, none⟩) n cap) l) (hn : n ≤ 1000) :
    Calls Try.prog 68 #[.slice (some ⟨g, 0, none⟩) n cap, .int .i64 0, .int .i64 (n : Int), .func (.func 58) #[] #[]] w fun e w' => e = .returned (.tuple #[]) ∧ OwnR unR w0 w' (.slice (some ⟨g, 0, none⟩) n cap) (sortU l) ∧ w.grownBy w' (some g) := by
  have hl := own_lenU hO
  have eg : ∀ args w, (callFunc 58 args).run Try.prog w = .ok (.enter 58 args) w := enters_of Try.func58 (by kernel_rfl) rfl
  have hH := holds_un hO
  have hg := (hO.1.lt g rfl).2
  subst hl
  have hcon := Any.insertionSortCmpFunc_s Try.insUn unV cmpU 58 #[] g 0 cap 0 l.length l.toArray l.toArray w w eg (fun _ _ _ _ x y => closure58 x y _) ⟨fun x => rfl, hH, hg⟩ rfl (SW.start hH) (Nat.zero_le _) (by simp) (by simp; omega)
  change Calls Try.prog 68 #[.slice (some ⟨g, 0, none⟩) l.length cap, .int .i64 0, .int .i64 (l.length : Int), .func (.func 58) #[] #[]] w _ at hcon
  refine hcon.mono ?_
  rintro e w' ⟨rfl, m, os, rfl⟩
  have hs : (Sort.insertionSort (ltOf cmpU) l.toArray 0 l.length).size = l.length := by have := (sortU_is l).2; simpa [sortU] using this
  obtain ⟨h1, h2⟩ := own_sortedU hO m _ hs os
  exact ⟨rfl, h1, h2⟩
def SortPU (l : List UnC) (g n cap : Nat) (w0 w : World) (e : Ending) (w' : World) : Prop := e = .returned (.tuple #[]) ∧ OwnR unR w0 w' (.slice (some ⟨g, 0, none⟩) n cap) (sortU l) ∧ w.grownBy w' (some g)
theorem sort_pu {l : List UnC} {g n cap : Nat} {w0 w w' : World} (h : OwnR unR w0 w' (.slice (some ⟨g, 0, none⟩) n cap) (sortU l)) (hg : w.grownBy w' (some g)) : SortPU l g n cap w0 w (.returned (.tuple #[])) w' := ⟨rfl, h, hg⟩
theorem stableU_any (l : List UnC) (g n cap : Nat) (w0 w : World) (hO : OwnR unR w0 w (.slice (some ⟨g, 0, none⟩) n cap) l) (hn : n ≤ 19) :
    Calls Try.prog 64 #[.slice (some ⟨g, 0, none⟩) n cap, .int .i64 (n : Int), .func (.func 58) #[] #[]] w (SortPU l g n cap w0 w) := by
  have hcon := insU_any l g n cap w0 w hO (by omega)
  have HC := Lib.hid hcon
  have h20 : decide ((20 : Int) ≤ (n : Int)) = false := by simp; omega
  have h20' : decide (20 ≤ n) = false := by simp; omega
  have h21 : decide ((20 : Int) < (n : Int)) = false := by simp; omega
  have h21' : decide (20 < n) = false := by simp; omega
  clear hcon hO
  go_enter Try.func64, Try.ntmps64
  go_wp2_with fail
  go_loopw [7, 8] (fun a b wr => a = .int .i64 0 ∧ b = .int .i64 20 ∧ wr = w) (fun _ _ _ => 0)
  case atStart => exact ⟨rfl, rfl, rfl⟩
  case round =>
    obtain ⟨rfl, rfl, rfl⟩ := hrel
    go_wp2_with (go_at_call 68; (with_reducible refine HC.out.mono ?_); rintro e w2 ⟨rfl, ho2, hg2⟩)
    have HO2 := Lib.hid ho2; have HG2 := Lib.hid hg2
    clear ho2 hg2
    go_loopw [6] (fun a wq => a = .int .i64 20 ∧ wq = w2) (fun _ _ => 0)
    case atStart => exact ⟨rfl, rfl⟩
    case round =>
      obtain ⟨rfl, rfl⟩ := hrel
      go_wp2_with fail
      go_end0
      exact sort_pu HO2.out HG2.out
theorem sortfU_any (l : List UnC) (g n cap : Nat) (w0 w : World) (hO : OwnR unR w0 w (.slice (some ⟨g, 0, none⟩) n cap) l) (hn : n ≤ 19) :
    Calls Try.prog 57 #[.slice (some ⟨g, 0, none⟩) n cap, .func (.func 58) #[] #[]] w (SortPU l g n cap w0 w) := by
  have HC := Lib.hid (stableU_any l g n cap w0 w hO hn)
  clear hO
  go_enter Try.func57, Try.ntmps57
  go_wp2_with (go_at_call 64; ((with_reducible refine HC.out.mono ?_); rintro e w2 ⟨rfl, ho2, hg2⟩))
  go_end0
  exact sort_pu ho2 hg2
end Go.Proofs.Ythkmpegpmpdhaaa
