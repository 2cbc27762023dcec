/- Part of the proofs of TopMoney and TopOrders. Conditions: as stated in each theorem. -/
import Derived.Test.YthkmpegpmpdhaaaH
import Derived.Deep.CutRange
import Derived.StillTailTactics
import Derived.Lib.SliceRun
import Derived.RangeFuncRecord
import Derived.Carry
import Derived.ChangeKeysEq
import Derived.Shelf.SlSortCmp.InsertionK
import Derived.Shelf.Lay
import Derived.Ground.SlsfProg
import Derived.Sort.LotA
import Derived.Test.YthkmpegpmpdhaaaRows
import Derived.WalkKit
import Derived.WalkSpells
import Derived.WalkLawsBesides
import Derived.Laws.EntriesVeiled
import Derived.ProofKit
import Derived.OpenShut
import Derived.Lib.Hide
import Derived.BigQuiet
import Derived.Deep.QuietTactic
import Derived.Below
import Derived.Laws.OwnMore
import Derived.Deep.AppendLies
import Derived.Deep.Draws
import Derived.Laws.Rows
import Derived.Maps.AppendAt
import Derived.RegionTactic
import Derived.OwnWalk
import Derived.Deep.RegionHeld3
namespace Go.Proofs.Ythkmpegpmpdhaaa
open Go.Shelf Go.Sort Go.ChangeShapes Go.WideShapes Go.ChangeAt Go.RowKit
set_option linter.unusedSimpArgs false
set_option linter.unusedVariables false
theorem flat_rec {α : Type} [Inhabited α] {R : RowTy α} (hl : ∀ x, (R.enc x).length = R.k) (hk : 0 < R.k) (d : Array α) : (flatK R.enc R.k d).toList = recCells R d.toList := by
  refine List.ext_getElem? fun t => ?_
  by_cases ht : t < d.size * R.k
  · have h1 := Nat.div_add_mod t R.k
    have h2 := Nat.mod_lt t hk
    have h3 : t / R.k < d.size := Nat.div_lt_of_lt_mul (by rw [Nat.mul_comm]; exact ht)
    have hx : d.toList[t / R.k]? = some d[t / R.k]! := by rw [getElem!_pos d _ h3]; simp [h3]
    have hi : t % R.k < (R.enc d[t / R.k]!).length := by rw [hl]; exact h2
    have := recCells_at (R := R) hl d.toList _ _ _ _ hx (List.getElem?_eq_getElem hi)
    rw [Nat.mul_comm, h1] at this
    rw [this]
    have hs : t < (flatK R.enc R.k d).size := by simpa using ht
    have hg := get_flatK R.enc R.k d t ht
    rw [getElem!_pos _ t hs] at hg
    rw [Array.getElem?_toList, Array.getElem?_eq_getElem hs, hg, getElem!_pos (R.enc d[t / R.k]!) (t % R.k) hi]
  · rw [List.getElem?_eq_none (by simp; omega), List.getElem?_eq_none (by rw [recCells_length hl]; simp; omega)]
theorem own_len {α : Type} {R : RowTy α} {w0 w : World} {A : Option Addr} {n c : Nat} {l : List α} (h : OwnR R w0 w (.slice A n c) l) : n = l.length := by
  rcases h.1.2 with ⟨e, h0⟩ | ⟨g, cap, cur, e, _⟩
  · injection e with e1 e2 e3; omega
  · injection e
theorem holds_own {α : Type} [Inhabited α] {R : RowTy α} {P : Program} (ok : RowOk P R) {w0 w : World} {g n cap : Nat} {l : List α} (h : OwnR R w0 w (.slice (some ⟨g, 0, none⟩) n cap) l) : HoldsK R.enc R.k w g 0 l.toArray := by
  have hn := own_len h
  subst hn
  intro j hj
  have hj' : j < l.length * R.k := by simpa using hj
  refine ⟨?_, by rw [Nat.zero_add]; exact h.frozen j⟩
  rw [Nat.zero_add, h.1.cellAt j hj', ← flat_rec ok.len ok.pos l.toArray, Array.getElem?_toList, Array.getElem?_eq_getElem hj, getElem!_pos _ j hj]
  rfl
theorem own_sorted {α : Type} [Inhabited α] {R : RowTy α} {P : Program} (ok : RowOk P R) {w0 w : World} {g n cap : Nat} {l : List α} (h : OwnR R w0 w (.slice (some ⟨g, 0, none⟩) n cap) l) (m : Nat) (d : Array α) (hd : d.size = l.length) (os : Array Obj) :
    OwnR R w0 (sortWorldK R.enc R.k w g 0 m d os) (.slice (some ⟨g, 0, none⟩) n cap) d.toList ∧ w.grownBy (sortWorldK R.enc R.k w g 0 m d os) (some g) := by
  have hn := own_len h
  subst hn
  obtain ⟨hlen, hh⟩ := h.1
  rcases hh with ⟨e, _⟩ | ⟨g', cap', cur, e, hb, hg, hnc, hcm, hcs, htake⟩
  · cases e
  injection e with e1 e2 e3
  injection e1 with e1
  injection e1 with e1
  subst e1 e3
  have hglt := (Array.getElem?_eq_some_iff.1 hg).1
  have hgrow : w.grownBy (sortWorldK R.enc R.k w g 0 m d os) (some g) := by
    refine ⟨rfl, rfl, rfl, by simp [sortWorldK, grow, putRowK, putRow, mapBlock, ahead], fun k hk hne => ?_⟩
    have : k ≠ g := fun e => hne (by rw [e])
    simp only [sortWorldK, grow, putRowK, putRow, mapBlock, ahead]
    rw [Array.getElem?_append_left (by simpa using hk), Array.getElem?_modify, if_neg (fun e => this e.symm)]
    rfl
  have hlt : w0.heap.size ≤ g := hb
  refine ⟨⟨?_, grown_keeps h.2 hgrow (fun k e => by cases e; exact hlt)⟩, hgrow⟩
  have hdl : d.toList.length = l.length := by simpa using hd
  rw [hdl]
  refine ⟨by rw [recCells_length ok.len, hdl], .inr ⟨g, cap, putCells id 0 (flatK R.enc R.k d) cur, rfl, hb, ?_, hnc, hcm, by simp [putCells]; exact hcs, ?_⟩⟩
  · simp only [sortWorldK, grow, putRowK, putRow, mapBlock, ahead]
    rw [Array.getElem?_append_left (by simpa using hglt), Array.getElem?_modify, if_pos rfl]
    show Option.map _ (w.heap[g]?) = _
    rw [hg]
    rfl
  · rw [← flat_rec ok.len ok.pos d]
    have hle : l.length * R.k ≤ cur.size := by rw [hcs]; exact Nat.mul_le_mul_right _ hnc
    refine List.ext_getElem? fun t => ?_
    by_cases ht : t < l.length * R.k
    · have ht2 : t < (flatK R.enc R.k d).size := by rw [size_flatK, hd]; exact ht
      rw [List.getElem?_take, if_pos ht, Array.getElem?_toList, Array.getElem?_toList, Array.getElem?_eq_getElem ht2]
      simp only [putCells]
      rw [Array.getElem?_mapIdx, Array.getElem?_eq_getElem (by omega)]
      simp only [Option.map_some, Nat.zero_le, Nat.zero_add, ht2, and_self, if_true, Nat.sub_zero, id]
      rw [getElem!_pos _ t ht2]
    · rw [List.getElem?_eq_none (by simp; omega), List.getElem?_eq_none (by simp [hd]; omega)]
/-- The remainders in the order of Split: the greatest first, equal ones in their order. -/
def cfR (x y : Nat × Int) : Int := cmpI y.2 x.2
def sortR (l : List (Nat × Int)) : List (Nat × Int) := (Sort.insertionSort (ltOf cfR) l.toArray 0 l.length).toList
theorem ltR (x y : Nat × Int) : ltOf cfR x y = decide (y.2 < x.2) := by
  unfold ltOf cfR
  by_cases h : y.2 < x.2
  · simp [h, (cmpI_lt y.2 x.2).2 h]
  · have : ¬ cmpI y.2 x.2 < 0 := fun hc => h ((cmpI_lt _ _).1 hc)
    simp [h, this]
theorem swoR : SWO (ltOf cfR) := ⟨fun x => by simp [ltR], fun x y z h1 h2 => by simp [ltR] at *; omega, fun x y z h1 h2 => by simp [ltR] at *; omega⟩
theorem sortR_is (l : List (Nat × Int)) : (sortR l).Perm l ∧ (sortR l).Pairwise (fun a b => b.2 ≤ a.2) ∧ (sortR l).length = l.length := by
  obtain ⟨⟨h1, _, h2⟩, h3⟩ := insertionSort_holds (lt := ltOf cfR) swoR l.toArray 0 l.length (Nat.zero_le _) (by simp)
  unfold sortR
  generalize Sort.insertionSort (ltOf cfR) l.toArray 0 l.length = d at *
  have hs : d.size = l.length := by simpa using h1
  have e1 : d.extract 0 l.length = d := by rw [← hs]; simp
  have e2 : l.toArray.extract 0 l.length = l.toArray := by simp
  rw [e1, e2] at h2
  refine ⟨h2, ?_, by simpa using hs⟩
  rw [List.pairwise_iff_getElem]
  intro i j hi hj hij
  have := h3 i j (Nat.zero_le _) hij (by rw [← hs]; simpa using hj)
  rw [ltR, getElem!_pos d j (by simpa using hj), getElem!_pos d i (by simpa using hi)] at this
  simp at this
  simpa using this
def Try.insRm_ren : Go.Shelf.Ren := ⟨fun | 20 => 66 | n => n, fun | 24 => 64 | 22 => 62 | 3 => 3 | 25 => 67 | 4 => 4 | 0 => 0 | n => n, fun | n => n⟩
theorem Try.insRm : Go.Proofs.SlLaysF0.n20 Try.prog Try.insRm_ren := {
  mixed := by kernel_rfl
  f20 := ⟨Try.f66.name, by decide, Try.func66.trans (congrArg some (by kernel_rfl))⟩
  t0 := Try.underlying0
  a0 := Try.isAgg0
  z0 := Try.sizeOf0
  v0 := Try.zeroValue0
  t3 := Try.underlying3
  a3 := Try.isAgg3
  z3 := Try.sizeOf3
  v3 := Try.zeroValue3
  t4 := Try.underlying4
  a4 := Try.isAgg4
  z4 := Try.sizeOf4
  v4 := Try.zeroValue4
  t22 := Try.underlying62
  a22 := Try.isAgg62
  z22 := Try.sizeOf62
  v22 := Try.zeroValue62
  t25 := Try.underlying67
  a25 := Try.isAgg67
  z25 := Try.sizeOf67
  v25 := Try.zeroValue67
}
theorem closure24 (x y : Nat × Int) (W : World) : Calls Try.prog 24 #[.agg #[.int .i64 (x.1 : Int), .int .i64 x.2], .agg #[.int .i64 (y.1 : Int), .int .i64 y.2]] W fun e w' => e = .returned (.int .i64 (cfR x y)) ∧ ∃ q os', w' = grow (W.drewN q) os' := by
  have hcon := fun W' => cmp_any y.2 x.2 W'
  change ∀ W', Calls Try.prog 25 #[.int .i64 y.2, .int .i64 x.2] W' fun e w' => e = .returned (.int .i64 (cfR x y)) ∧ w' = W' at hcon
  generalize cfR x y = r at hcon ⊢
  go_enter Try.func24, Try.ntmps24
  go_wp2_with (go_at_call 25; refine (hcon _).mono ?_; rintro e w' ⟨rfl, rfl⟩)
  go_ret
  exact ⟨rfl, 0, _, by rw [alloc_eq_grow, alloc_eq_grow, grow_grow]; rfl⟩
theorem cmpLays24 (blk off size : Nat) (w : World) : CmpLays Try.prog 24 #[] rmR.enc 2 cfR blk off size w := fun _ _ _ _ x y => closure24 x y _
theorem ins_any (l : List (Nat × Int)) (g n cap : Nat) (w0 w : World) (hO : OwnR rmR w0 w (.slice (some ⟨g, 0, none⟩) n cap) l) (hn : n ≤ 1000) :
    Calls Try.prog 66 #[.slice (some ⟨g, 0, none⟩) n cap, .int .i64 0, .int .i64 (n : Int), .func (.func 24) #[] #[]] w fun e w' => e = .returned (.tuple #[]) ∧ OwnR rmR w0 w' (.slice (some ⟨g, 0, none⟩) n cap) (sortR l) ∧ w.grownBy w' (some g) := by
  have hl := own_len hO
  have eg : ∀ args w, (callFunc 24 args).run Try.prog w = .ok (.enter 24 args) w := enters_of Try.func24 (by kernel_rfl) rfl
  have hH := holds_own rmOk hO
  have hg := (hO.1.lt g rfl).2
  subst hl
  have hcon := AnyQ.insertionSortCmpFunc Try.insRm 2 Try.isAgg64 Try.sizeOf64 rmR.enc (fun _ => rfl) rmOk.one cfR 24 #[] g 0 cap 0 l.length l.toArray w eg (cmpLays24 g 0 l.toArray.size w) hH hg (Nat.zero_le _) (by simp) (by simp; omega)
  change Calls Try.prog 66 #[.slice (some ⟨g, 0, none⟩) l.length cap, .int .i64 0, .int .i64 (l.length : Int), .func (.func 24) #[] #[]] w _ at hcon
  refine hcon.mono ?_
  rintro e w' ⟨rfl, m, os, rfl⟩
  have hs : (Sort.insertionSort (ltOf cfR) l.toArray 0 l.length).size = l.length := by have := (sortR_is l).2.2; simpa [sortR] using this
  obtain ⟨h1, h2⟩ := own_sorted rmOk hO m _ hs os
  exact ⟨rfl, h1, h2⟩
def SortPost (l : List (Nat × Int)) (g n cap : Nat) (w0 w : World) (e : Ending) (w' : World) : Prop := e = .returned (.tuple #[]) ∧ OwnR rmR w0 w' (.slice (some ⟨g, 0, none⟩) n cap) (sortR l) ∧ w.grownBy w' (some g)
theorem sort_post {l : List (Nat × Int)} {g n cap : Nat} {w0 w w' : World} (h : OwnR rmR w0 w' (.slice (some ⟨g, 0, none⟩) n cap) (sortR l)) (hg : w.grownBy w' (some g)) : SortPost l g n cap w0 w (.returned (.tuple #[])) w' := ⟨rfl, h, hg⟩
theorem stable_any (l : List (Nat × Int)) (g n cap : Nat) (w0 w : World) (hO : OwnR rmR w0 w (.slice (some ⟨g, 0, none⟩) n cap) l) (hn : n ≤ 19) :
    Calls Try.prog 63 #[.slice (some ⟨g, 0, none⟩) n cap, .int .i64 (n : Int), .func (.func 24) #[] #[]] w (SortPost l g n cap w0 w) := by
  have hcon := ins_any l g n cap w0 w hO (by omega)
  have HC := Lib.hid hcon
  have h20 : decide ((20 : Int) ≤ (n : Int)) = false := by simp; omega
  have h20' : decide (20 ≤ n) = false := by simp; omega
  have h21 : decide ((20 : Int) < (n : Int)) = false := by simp; omega
  have h21' : decide (20 < n) = false := by simp; omega
  clear hcon hO
  go_enter Try.func63, Try.ntmps63
  go_wp2_with fail
  go_loopw [7, 8] (fun a b wr => a = .int .i64 0 ∧ b = .int .i64 20 ∧ wr = w) (fun _ _ _ => 0)
  case atStart => exact ⟨rfl, rfl, rfl⟩
  case round =>
    obtain ⟨rfl, rfl, rfl⟩ := hrel
    go_wp2_with (go_at_call 66; (with_reducible refine HC.out.mono ?_); rintro e w2 ⟨rfl, ho2, hg2⟩)
    have HO2 := Lib.hid ho2; have HG2 := Lib.hid hg2
    clear ho2 hg2
    go_loopw [6] (fun a wq => a = .int .i64 20 ∧ wq = w2) (fun _ _ => 0)
    case atStart => exact ⟨rfl, rfl⟩
    case round =>
      obtain ⟨rfl, rfl⟩ := hrel
      go_wp2_with fail
      go_end0
      exact sort_post HO2.out HG2.out
theorem sortf_any (l : List (Nat × Int)) (g n cap : Nat) (w0 w : World) (hO : OwnR rmR w0 w (.slice (some ⟨g, 0, none⟩) n cap) l) (hn : n ≤ 19) :
    Calls Try.prog 50 #[.slice (some ⟨g, 0, none⟩) n cap, .func (.func 24) #[] #[]] w (SortPost l g n cap w0 w) := by
  have HC := Lib.hid (stable_any l g n cap w0 w hO hn)
  clear hO
  go_enter Try.func50, Try.ntmps50
  go_wp2_with (go_at_call 63; ((with_reducible refine HC.out.mono ?_); rintro e w2 ⟨rfl, ho2, hg2⟩))
  go_end0
  exact sort_post ho2 hg2
set_option maxRecDepth 100000 in
theorem clone_rm (l : List (Nat × Int)) (A : Option Addr) (n c : Nat) (w : World) (hl : RecIn rmR w w.heap.size A l) (hln : Hid (n = l.length)) (hn : n ≤ 100000) (hA : ∃ ad, A = some ad) :
    Calls Try.prog 49 #[.slice A n c] w fun e w' => ∃ A' c', e = .returned (.slice A' n c') ∧ OwnR rmR w w' (.slice A' n c') l := by
  obtain ⟨ad, rfl⟩ := hA
  have q62 : ∀ (w : World) (a : Option Addr) (n c n' c' : Nat), (binOp .eql 62 (.slice a n c) (.slice none n' c')).run Try.prog w = .ok (.bool a.isNone) w := fun w a n c n' c' => Lib.run_eql_slice_nil w _ _ a n c n' c' Try.underlying62
  have O0 := Lib.hid (OwnR.lit (R := rmR) (Keeps.refl w))
  have OL := Lib.hid (hl.keep O0.out.2)
  have L0 := Lib.hid (show ([] : List (Nat × Int)).length + l.length ≤ 1000000 by have := hln.out; simp; omega)
  clear hl
  go_enter Try.func49, Try.ntmps49
  go_wp2_with (at_builtin; refine wpList_appR rmOk rfl (.tmp 5) (.tmp 6) rfl _ [] rfl O0.out _ n c l rfl OL.out hln L0 ?_; intro A' n' c' w6 ho6 hg6; clear hg6; replace ho6 : OwnR rmR w w6 (.slice A' n' c') l := ho6; have H6 := Lib.hid ho6; clear ho6)
  go_ret
  have hn := (H6.out.recs rmOk).2
  have e : n' = n := by have := hln.out; omega
  subst e
  exact ⟨_, _, rfl, H6.out⟩
theorem sorted_any (l : List (Nat × Int)) (A : Option Addr) (n c : Nat) (w : World) (hl : RecIn rmR w w.heap.size A l) (hln : Hid (n = l.length)) (hn1 : 1 ≤ n) (hn : n ≤ 19) :
    Calls Try.prog 23 #[.slice A n c, .func (.func 24) #[] #[]] w fun e w' => ∃ A' c', e = .returned (.slice A' n c') ∧ OwnR rmR w w' (.slice A' n c') (sortR l) := by
  obtain ⟨ad, rfl⟩ : ∃ ad, A = some ad := by
    obtain ⟨b, off, e, _⟩ := hl 0 _ (List.getElem?_eq_getElem (by have := hln.out; omega))
    exact ⟨_, e⟩
  have HL := Lib.hid hl
  clear hl
  go_enter Try.func23, Try.ntmps23
  go_upto_region 2 with (go_at_call 49; (with_reducible refine (clone_rm l (some ad) n c _ HL.out hln (by omega) ⟨_, rfl⟩).mono ?_); rintro e w4 ⟨A4, c4, rfl, ho4⟩)
  obtain ⟨g, cap, e, hg1, hg2⟩ := ho4.form (by have := hln.out; omega)
  injection e with e1 e2 e3
  subst e1 e3
  have HO4 := Lib.hid ho4
  clear ho4 e2
  go_wp2_with (go_at_call 50; ((with_reducible refine (sortf_any l g n c4 w w4 HO4.out hn).mono ?_); rintro e w5 ⟨rfl, ho5, hg5⟩))
  go_ret
  exact ⟨_, _, rfl, ho5⟩
end Go.Proofs.Ythkmpegpmpdhaaa
