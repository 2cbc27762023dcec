/- Part of the proof of TopOwnItem. Conditions: as stated in each theorem. -/
import Derived.Test.YthkmpegpmpdhaaaGreatDoorZT
import Derived.Test.YthkmpegpmpdhaaaGreatDoorProg
import Derived.WalkMore
import Derived.Maps.OwnIn
import Derived.Deep.LoopGhost
import Derived.RangeFuncNested
import Derived.RangeFuncCalls
import Derived.RangeFuncLeaves
import Derived.RangeFuncWrites
import Derived.Shelf.Abstract
import Derived.Shelf.RegionOpen
import Derived.OwnWalkIn
import Derived.TacticsInMore
import Derived.LoopNIn
import Derived.LoopIn
import Derived.RangeFuncBound
import Derived.Shelf.Lay
import Derived.WalkKit
import Derived.WalkSpells
import Derived.WalkLawsBesides
import Derived.Laws.EntriesVeiled
import Derived.ProofKit
import Derived.OpenShut
import Derived.Lib.Hide
import Derived.BigQuiet
import Derived.Deep.QuietTactic
import Derived.Deep.CutRange
import Derived.StillTailTactics
import Derived.Lib.SliceRun
import Derived.RangeFuncRecord
import Derived.Carry
import Derived.ChangeKeysEq
import Derived.Below
import Derived.Laws.OwnMore
import Derived.Deep.AppendLies
import Derived.Deep.Draws
import Derived.Laws.Rows
import Derived.Maps.AppendAt
import Derived.RegionTactic
import Derived.OwnWalk
import Derived.Deep.RegionHeld3
namespace Go.Proofs.YthkmpegpmpdhaaaGreatDoor
open Go.Shelf Go.ChangeShapes Go.WideShapes Go.ChangeAt Go.RowKit
set_option linter.unusedSimpArgs false
set_option linter.unusedVariables false
open Go.Sort
theorem own_lenR {α : Type} {R : RowTy α} {w0 w : World} {A : Option Addr} {n c : Nat} {l : List α} (h : OwnR R w0 w (.slice A n c) l) : n = l.length := by
  rcases h.1.2 with ⟨e, h0⟩ | ⟨g, cap, cur, e, _⟩
  · injection e with e1 e2 e3; omega
  · injection e
theorem flat_rec {α : Type} [Inhabited α] {R : RowTy α} (hl : ∀ x, (R.enc x).length = R.k) (hk : 0 < R.k) (d : Array α) : (flatK R.enc R.k d).toList = recCells R d.toList := by
  refine List.ext_getElem? fun t => ?_
  by_cases ht : t < d.size * R.k
  · have h1 := Nat.div_add_mod t R.k
    have h2 := Nat.mod_lt t hk
    have h3 : t / R.k < d.size := Nat.div_lt_of_lt_mul (by rw [Nat.mul_comm]; exact ht)
    have hx : d.toList[t / R.k]? = some d[t / R.k]! := by rw [getElem!_pos d _ h3]; simp [h3]
    have hi : t % R.k < (R.enc d[t / R.k]!).length := by rw [hl]; exact h2
    have := recCells_at (R := R) hl d.toList _ _ _ _ hx (List.getElem?_eq_getElem hi)
    rw [Nat.mul_comm, h1] at this
    rw [this]
    have hs : t < (flatK R.enc R.k d).size := by simpa using ht
    have hg := get_flatK R.enc R.k d t ht
    rw [getElem!_pos _ t hs] at hg
    rw [Array.getElem?_toList, Array.getElem?_eq_getElem hs, hg, getElem!_pos (R.enc d[t / R.k]!) (t % R.k) hi]
  · rw [List.getElem?_eq_none (by simp; omega), List.getElem?_eq_none (by rw [recCells_length hl]; simp; omega)]
theorem holds_own {α : Type} [Inhabited α] {R : RowTy α} {P : Program} (ok : RowOk P R) {w0 w : World} {g n cap : Nat} {l : List α} (h : OwnR R w0 w (.slice (some ⟨g, 0, none⟩) n cap) l) : HoldsK R.enc R.k w g 0 l.toArray := by
  have hn := own_lenR h
  subst hn
  intro j hj
  have hj' : j < l.length * R.k := by simpa using hj
  refine ⟨?_, by rw [Nat.zero_add]; exact h.frozen j⟩
  rw [Nat.zero_add, h.1.cellAt j hj', ← flat_rec ok.len ok.pos l.toArray, Array.getElem?_toList, Array.getElem?_eq_getElem hj, getElem!_pos _ j hj]
  rfl
theorem own_sorted {α : Type} [Inhabited α] {R : RowTy α} {P : Program} (ok : RowOk P R) {w0 w : World} {g n cap : Nat} {l : List α} (h : OwnR R w0 w (.slice (some ⟨g, 0, none⟩) n cap) l) (m : Nat) (d : Array α) (hd : d.size = l.length) (os : Array Obj) :
    OwnR R w0 (sortWorldK R.enc R.k w g 0 m d os) (.slice (some ⟨g, 0, none⟩) n cap) d.toList ∧ w.grownBy (sortWorldK R.enc R.k w g 0 m d os) (some g) := by
  have hn := own_lenR h
  subst hn
  obtain ⟨hlen, hh⟩ := h.1
  rcases hh with ⟨e, _⟩ | ⟨g', cap', cur, e, hb, hg, hnc, hcm, hcs, htake⟩
  · cases e
  injection e with e1 e2 e3
  injection e1 with e1
  injection e1 with e1
  subst e1 e3
  have hglt := (Array.getElem?_eq_some_iff.1 hg).1
  have hgrow : w.grownBy (sortWorldK R.enc R.k w g 0 m d os) (some g) := by
    refine ⟨rfl, rfl, rfl, by simp [sortWorldK, grow, putRowK, putRow, mapBlock, ahead], fun k hk hne => ?_⟩
    have : k ≠ g := fun e => hne (by rw [e])
    simp only [sortWorldK, grow, putRowK, putRow, mapBlock, ahead]
    rw [Array.getElem?_append_left (by simpa using hk), Array.getElem?_modify, if_neg (fun e => this e.symm)]
    rfl
  have hlt : w0.heap.size ≤ g := hb
  refine ⟨⟨?_, grown_keeps h.2 hgrow (fun k e => by cases e; exact hlt)⟩, hgrow⟩
  have hdl : d.toList.length = l.length := by simpa using hd
  rw [hdl]
  refine ⟨by rw [recCells_length ok.len, hdl], .inr ⟨g, cap, putCells id 0 (flatK R.enc R.k d) cur, rfl, hb, ?_, hnc, hcm, by simp [putCells]; exact hcs, ?_⟩⟩
  · simp only [sortWorldK, grow, putRowK, putRow, mapBlock, ahead]
    rw [Array.getElem?_append_left (by simpa using hglt), Array.getElem?_modify, if_pos rfl]
    show Option.map _ (w.heap[g]?) = _
    rw [hg]
    rfl
  · rw [← flat_rec ok.len ok.pos d]
    have hle : l.length * R.k ≤ cur.size := by rw [hcs]; exact Nat.mul_le_mul_right _ hnc
    refine List.ext_getElem? fun t => ?_
    by_cases ht : t < l.length * R.k
    · have ht2 : t < (flatK R.enc R.k d).size := by rw [size_flatK, hd]; exact ht
      rw [List.getElem?_take, if_pos ht, Array.getElem?_toList, Array.getElem?_toList, Array.getElem?_eq_getElem ht2]
      simp only [putCells]
      rw [Array.getElem?_mapIdx, Array.getElem?_eq_getElem (by omega)]
      simp only [Option.map_some, Nat.zero_le, Nat.zero_add, ht2, and_self, if_true, Nat.sub_zero, id]
      rw [getElem!_pos _ t ht2]
    · rw [List.getElem?_eq_none (by simp; omega), List.getElem?_eq_none (by simp [hd]; omega)]
theorem cmpI_self (x : Int) : cmpI x x = 0 := by unfold cmpI; simp
theorem cmpI_zero {x y : Int} (h : cmpI x y = 0) : x = y := by unfold cmpI at h; split at h <;> (try split at h) <;> omega
theorem lexI_self : ∀ a : List Int, lexI a a = 0
  | [] => rfl
  | x :: a => by rw [lexI_cons, if_pos (cmpI_self x)]; exact lexI_self a
theorem lexI_zero : ∀ {a b : List Int}, lexI a b = 0 → a = b
  | [], [], _ => rfl
  | [], _ :: _, h => by simp [lexI] at h
  | _ :: _, [], h => by simp [lexI] at h
  | x :: a, y :: b, h => by
    rw [lexI_cons] at h
    split at h
    · next h0 => rw [cmpI_zero h0, lexI_zero h]
    · next h0 => exact absurd h h0
theorem lexI_swap : ∀ {a b : List Int}, lexI a b < 0 ↔ 0 < lexI b a
  | [], [] => by simp [lexI]
  | [], _ :: _ => by simp [lexI]
  | _ :: _, [] => by simp [lexI]
  | x :: a, y :: b => by
    rw [lexI_cons, lexI_cons]
    have h1 := lexI_swap (a := a) (b := b)
    unfold cmpI
    by_cases h : x < y
    · rw [if_pos h, if_neg (by omega), if_neg (show ¬ y < x by omega), if_pos h, if_neg (by omega)]; omega
    · by_cases h' : y < x
      · rw [if_neg h, if_pos h', if_pos h', if_neg (by omega), if_neg (by omega)]; omega
      · rw [if_neg h, if_neg h', if_pos rfl, if_neg h', if_neg h, if_pos rfl]; exact h1
theorem lexI_trans : ∀ {a b c : List Int}, lexI a b < 0 → lexI b c < 0 → lexI a c < 0
  | [], [], _, h, _ => by simp [lexI] at h
  | [], _ :: _, [], _, h => by simp [lexI] at h
  | [], _ :: _, _ :: _, _, _ => by simp [lexI]
  | _ :: _, [], _, h, _ => by simp [lexI] at h
  | _ :: _, _ :: _, [], _, h => by simp [lexI] at h
  | x :: a, y :: b, z :: c, h, k => by
    have ih := lexI_trans (a := a) (b := b) (c := c)
    rw [lexI_cons] at h k ⊢
    unfold cmpI at *
    split at h <;> split at k <;> split <;> rename_i h1 h2 h3 <;> (repeat' split at h1) <;> (repeat' split at h2) <;> (repeat' split at h3) <;> first | omega | exact ih h k | skip
theorem ltE (x y : EvC) : ltOf cfE x y = decide (lexI (keyF x) (keyF y) < 0) := rfl
theorem keyF_inj {x y : EvC} (h : keyF x = keyF y) : x = y := by
  obtain ⟨a, b, c, d⟩ := x
  obtain ⟨a', b', c', d'⟩ := y
  simp [keyF] at h
  obtain ⟨_, h1, h2, h3, h4⟩ := h
  rw [h1, h2, h3, h4]
theorem totE (x y : EvC) (h1 : ltOf cfE x y = false) (h2 : ltOf cfE y x = false) : x = y := by
  rw [ltE, decide_eq_false_iff_not] at h1 h2
  refine keyF_inj (lexI_zero ?_)
  have := lexI_swap (a := keyF y) (b := keyF x)
  omega
theorem swoE : SWO (ltOf cfE) := ⟨fun x => by rw [ltE, lexI_self]; rfl, fun x y z h1 h2 => by
    rw [ltE, decide_eq_true_iff] at *
    exact lexI_trans h1 h2, fun x y z h1 h2 => by
    by_cases hx : ltOf cfE x z = true
    · exfalso
      by_cases hxy : ltOf cfE y x = true
      · have : ltOf cfE y z = true := by
          rw [ltE, decide_eq_true_iff] at *
          exact lexI_trans hxy hx
        rw [this] at h2; cases h2
      · have := totE x y h1 (by simpa using hxy)
        subst this
        rw [hx] at h2; cases h2
    · simpa using hx⟩
/-- The events in their order. -/
def sortE (S : List EvC) : List EvC := S.mergeSort fun x y => !(ltOf cfE) y x
/-- An event that can be read in w. -/
abbrev EvAt (w : World) := {v : Ev // EvOk w w.heap.size v}
instance (w : World) : Inhabited (EvAt w) := ⟨⟨⟨0, 0, 0, [], none, 0⟩, ⟨fun j x h => by simp at h, by simp, by simp [keyF, Ev.say]⟩⟩⟩
def evS (w : World) : RowTy (EvAt w) := { evR with enc := fun v => evR.enc v.1 }
theorem evS_ok (w : World) : RowOk Tryz.prog (evS w) := ⟨fun x => evOk.len x.1, fun x => evOk.one x.1, evOk.und, evOk.info, evOk.pos, evOk.few⟩
theorem recS {w : World} (l : List (EvAt w)) : recCells (evS w) l = recCells evR (l.map (·.1)) := by
  induction l with
  | nil => rfl
  | cons x l ih => rw [List.map_cons, recCells_cons, recCells_cons, ih]; rfl
theorem own_evS {w0 w : World} {v : Value} {l : List (EvAt w0)} (h : OwnR evR w0 w v (l.map (·.1))) : OwnR (evS w0) w0 w v l := by
  refine ⟨?_, h.2⟩
  have h1 := h.1
  rw [← recS, List.length_map] at h1
  exact h1
theorem own_evR {w0 w : World} {v : Value} {l : List (EvAt w0)} (h : OwnR (evS w0) w0 w v l) : OwnR evR w0 w v (l.map (·.1)) := by
  refine ⟨?_, h.2⟩
  have h1 := h.1
  rw [recS, ← List.length_map (f := (·.1))] at h1
  exact h1
def Tryz.sort153_ren : Go.Shelf.Ren := ⟨fun | 6 => 153 | 15 => 119 | 14 => 191 | 28 => 162 | 29 => 163 | 20 => 230 | 21 => 231 | 22 => 232 | 23 => 233 | 24 => 234 | 25 => 235 | 26 => 236 | 27 => 237 | 46 => 271 | 47 => 193 | 48 => 194 | 49 => 272 | 50 => 273 | 57 => 282 | n => n, fun | 22 => 31 | 24 => 43 | 25 => 76 | 3 => 3 | 39 => 214 | 0 => 0 | 53 => 255 | 55 => 257 | 4 => 4 | 46 => 249 | 45 => 248 | 50 => 113 | 5 => 5 | 9 => 9 | 66 => 281 | 70 => 285 | 76 => 318 | 77 => 319 | n => n, fun | n => n⟩
theorem Tryz.sort153 : Go.Proofs.SlLaysF0.n6 Tryz.prog Tryz.sort153_ren := {
  mixed := by kernel_rfl
  f6 := ⟨Tryz.f153.name, by decide, Tryz.func153.trans (congrArg some (by kernel_rfl))⟩
  f14 := ⟨Tryz.f191.name, by decide, Tryz.func191.trans (congrArg some (by kernel_rfl))⟩
  f15 := Tryz.func119.trans (congrArg some (by kernel_rfl))
  f20 := ⟨Tryz.f230.name, by decide, Tryz.func230.trans (congrArg some (by kernel_rfl))⟩
  f21 := ⟨Tryz.f231.name, by decide, Tryz.func231.trans (congrArg some (by kernel_rfl))⟩
  f22 := ⟨Tryz.f232.name, by decide, Tryz.func232.trans (congrArg some (by kernel_rfl))⟩
  f23 := ⟨Tryz.f233.name, by decide, Tryz.func233.trans (congrArg some (by kernel_rfl))⟩
  f24 := ⟨Tryz.f234.name, by decide, Tryz.func234.trans (congrArg some (by kernel_rfl))⟩
  f25 := ⟨Tryz.f235.name, by decide, Tryz.func235.trans (congrArg some (by kernel_rfl))⟩
  f26 := ⟨Tryz.f236.name, by decide, Tryz.func236.trans (congrArg some (by kernel_rfl))⟩
  f27 := ⟨Tryz.f237.name, by decide, Tryz.func237.trans (congrArg some (by kernel_rfl))⟩
  f28 := Tryz.func162.trans (congrArg some (by kernel_rfl))
  f29 := Tryz.func163.trans (congrArg some (by kernel_rfl))
  f46 := ⟨Tryz.f271.name, by decide, Tryz.func271.trans (congrArg some (by kernel_rfl))⟩
  f47 := Tryz.func193.trans (congrArg some (by kernel_rfl))
  f48 := Tryz.func194.trans (congrArg some (by kernel_rfl))
  f49 := ⟨Tryz.f272.name, by decide, Tryz.func272.trans (congrArg some (by kernel_rfl))⟩
  f50 := ⟨Tryz.f273.name, by decide, Tryz.func273.trans (congrArg some (by kernel_rfl))⟩
  f57 := ⟨Tryz.f282.name, by decide, Tryz.func282.trans (congrArg some (by kernel_rfl))⟩
  t0 := Tryz.underlying0
  a0 := Tryz.isAgg0
  z0 := Tryz.sizeOf0
  v0 := Tryz.zeroValue0
  t3 := Tryz.underlying3
  a3 := Tryz.isAgg3
  z3 := Tryz.sizeOf3
  v3 := Tryz.zeroValue3
  t4 := Tryz.underlying4
  a4 := Tryz.isAgg4
  z4 := Tryz.sizeOf4
  v4 := Tryz.zeroValue4
  t5 := Tryz.underlying5
  a5 := Tryz.isAgg5
  z5 := Tryz.sizeOf5
  v5 := Tryz.zeroValue5
  t9 := Tryz.underlying9
  a9 := Tryz.isAgg9
  z9 := Tryz.sizeOf9
  v9 := Tryz.zeroValue9
  t22 := Tryz.underlying31
  a22 := Tryz.isAgg31
  z22 := Tryz.sizeOf31
  v22 := Tryz.zeroValue31
  t25 := Tryz.underlying76
  a25 := Tryz.isAgg76
  z25 := Tryz.sizeOf76
  v25 := Tryz.zeroValue76
  t39 := Tryz.underlying214
  a39 := Tryz.isAgg214
  z39 := Tryz.sizeOf214
  v39 := Tryz.zeroValue214
  t45 := Tryz.underlying248
  a45 := Tryz.isAgg248
  z45 := Tryz.sizeOf248
  v45 := Tryz.zeroValue248
  t46 := Tryz.underlying249
  a46 := Tryz.isAgg249
  z46 := Tryz.sizeOf249
  v46 := Tryz.zeroValue249
  t50 := Tryz.underlying113
  a50 := Tryz.isAgg113
  z50 := Tryz.sizeOf113
  v50 := Tryz.zeroValue113
  t53 := Tryz.underlying255
  a53 := Tryz.isAgg255
  z53 := Tryz.sizeOf255
  v53 := Tryz.zeroValue255
  t55 := Tryz.underlying257
  a55 := Tryz.isAgg257
  z55 := Tryz.sizeOf257
  v55 := Tryz.zeroValue257
  t66 := Tryz.underlying281
  a66 := Tryz.isAgg281
  z66 := Tryz.sizeOf281
  v66 := Tryz.zeroValue281
  t70 := Tryz.underlying285
  a70 := Tryz.isAgg285
  z70 := Tryz.sizeOf285
  v70 := Tryz.zeroValue285
  t76 := Tryz.underlying318
  a76 := Tryz.isAgg318
  z76 := Tryz.sizeOf318
  v76 := Tryz.zeroValue318
  t77 := Tryz.underlying319
  a77 := Tryz.isAgg319
  z77 := Tryz.sizeOf319
  v77 := Tryz.zeroValue319
}
def SortPE (l : List Ev) (A : Option Addr) (n c : Nat) (w0 : World) (e : Ending) (w' : World) : Prop :=
  e = .returned (.tuple #[]) ∧ ∃ l', OwnR evR w0 w' (.slice A n c) l' ∧ l'.Perm l ∧ l'.map Ev.say = sortE (l.map Ev.say)
theorem sort153 (l : List Ev) (A : Option Addr) (n c : Nat) (fb : Nat) (w0 w : World) (hO : OwnR evR w0 w (.slice A n c) l) (hl : ∀ v ∈ l, EvOk w0 w0.heap.size v) (hf : FnCell fb w0) (hn : n ≤ 10000000000) :
    Calls Tryz.prog 153 #[.slice A n c, .func (.func 112) #[] #[.pointer (some ⟨fb, 0, none⟩)]] w (SortPE l A n c w0) := by
  have hnl := own_lenR hO
  rcases Nat.eq_zero_or_pos n with h0 | hp
  · subst h0
    have hnil : l = [] := List.eq_nil_of_length_eq_zero hnl.symm
    subst hnil
    have hcon := AnyF.slices_SortFunc_none Tryz.sort153 A c (.func (.func 112) #[] #[.pointer (some ⟨fb, 0, none⟩)]) w
    change Calls Tryz.prog 153 _ _ _ at hcon
    refine hcon.mono ?_
    rintro e w' ⟨rfl, rfl⟩
    exact ⟨rfl, [], hO, List.Perm.refl _, by simp [sortE]⟩
  · obtain ⟨g, cap, e, hg1, hg2⟩ := hO.form (by omega)
    injection e with e1 e2 e3
    subst e1 e3
    have eg : ∀ args w, (callFunc 112 args).run Tryz.prog w = .ok (.enter 112 args) w := enters_of Tryz.func112 (by kernel_rfl) rfl
    have hS : OwnR (evS w0) w0 w (.slice (some ⟨g, 0, none⟩) n c) (l.attach.map fun x => ⟨x.1, hl x.1 x.2⟩) := own_evS (by rw [List.map_map]; simpa using hO)
    have hlen : (l.attach.map fun x => (⟨x.1, hl x.1 x.2⟩ : EvAt w0)).length = n := by rw [hnl]; simp
    have hback : (l.attach.map fun x => (⟨x.1, hl x.1 x.2⟩ : EvAt w0)).map (·.1) = l := by rw [List.map_map]; simp
    generalize (l.attach.map fun x => (⟨x.1, hl x.1 x.2⟩ : EvAt w0)) = ls at hS hlen hback
    subst hlen
    have hH := holds_own (evS_ok w0) hS
    have hcmp : CmpLays Tryz.prog 112 #[.pointer (some ⟨fb, 0, none⟩)] (evS w0).enc 4 (fun x y => cfE x.1.say y.1.say) g 0 ls.toArray.size w := fun m os dk hdk x y => by
      have hK := (own_sorted (evS_ok w0) hS m dk (by simpa using hdk) os).1.2
      exact (closure112 x.1 y.1 fb _ (x.2.keep hK) (y.2.keep hK) (cell_keep hf hK)).mono fun _ _ h => h
    have hcon := AnyQ.slices_SortFunc Tryz.sort153 4 Tryz.isAgg43 Tryz.sizeOf43 (evS w0).enc (evS_ok w0).len (evS_ok w0).one (fun x y => cfE x.1.say y.1.say) ⟨fun x => swoE.irrefl x.1.say, fun x y z => swoE.trans x.1.say y.1.say z.1.say, fun x y z => swoE.ntrans x.1.say y.1.say z.1.say⟩ 112 #[.pointer (some ⟨fb, 0, none⟩)] g 0 c ls.toArray w eg hcmp hH hg2 (by simp; omega)
    change Calls Tryz.prog 153 #[.slice (some ⟨g, 0, none⟩) ls.length c, _] w _ at hcon
    refine hcon.mono ?_
    rintro e w' ⟨rfl, d', m, os, hp', hs', rfl⟩
    have hd' : d'.size = ls.length := by simpa using hp'.1
    obtain ⟨h1, _⟩ := own_sorted (evS_ok w0) hS m d' hd' os
    have hperm : d'.toList.Perm ls := by
      obtain ⟨_, _, h⟩ := hp'
      have e1 : d'.extract 0 ls.toArray.size = d' := by
        have : ls.toArray.size = d'.size := by simp [hd']
        rw [this]; exact Array.extract_size
      rw [e1, Array.extract_size] at h
      exact h
    refine ⟨rfl, _, own_evR h1, ?_, ?_⟩
    · rw [← hback]; exact hperm.map _
    · rw [← hback]
      unfold sortE
      refine List.Perm.eq_of_pairwise (le := fun x y => (!(ltOf cfE) y x) = true) ?_ ?_ ?_ (((hperm.map (·.1)).map Ev.say).trans (List.mergeSort_perm _ _).symm)
      · intro a b _ _ q1 q2
        simp only [Bool.not_eq_true'] at q1 q2
        exact totE a b q2 q1
      · rw [List.map_map, List.pairwise_map, List.pairwise_iff_getElem]
        intro i j hi hj hij
        have hj' : j < d'.size := by simpa using hj
        have := hs' i j (Nat.zero_le _) hij (by simpa [← hd'] using hj')
        rw [getElem!_pos d' i (by omega), getElem!_pos d' j hj'] at this
        simpa [ltOf] using this
      · refine List.pairwise_mergeSort (le := fun x y => !(ltOf cfE) y x) (fun a b c q1 q2 => ?_) (fun a b => ?_) _
        · simp only [Bool.not_eq_true'] at *
          exact swoE.ntrans _ _ _ q2 q1
        · simp only [Bool.or_eq_true, Bool.not_eq_true']
          by_cases h : ltOf cfE b a = true
          · right
            by_cases h2 : ltOf cfE a b = true
            · have := swoE.trans _ _ _ h h2
              rw [swoE.irrefl] at this; cases this
            · simpa using h2
          · left; simpa using h
end Go.Proofs.YthkmpegpmpdhaaaGreatDoor
