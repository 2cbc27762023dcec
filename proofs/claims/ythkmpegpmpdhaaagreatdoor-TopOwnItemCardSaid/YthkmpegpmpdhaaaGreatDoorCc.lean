/- Part of the proof of TopOwnItem. Conditions: as stated in each theorem. -/
import Derived.Test.YthkmpegpmpdhaaaGreatDoorCb
import Derived.WalkMore
import Derived.Maps.OwnIn
import Derived.Deep.LoopGhost
import Derived.RangeFuncNested
import Derived.RangeFuncCalls
import Derived.RangeFuncLeaves
import Derived.RangeFuncWrites
import Derived.Shelf.Abstract
import Derived.Shelf.RegionOpen
import Derived.OwnWalkIn
import Derived.TacticsInMore
import Derived.LoopNIn
import Derived.LoopIn
import Derived.RangeFuncBound
import Derived.Shelf.Lay
import Derived.Test.YthkmpegpmpdhaaaGreatDoorProg
import Derived.WalkKit
import Derived.WalkSpells
import Derived.WalkLawsBesides
import Derived.Laws.EntriesVeiled
import Derived.ProofKit
import Derived.OpenShut
import Derived.Lib.Hide
import Derived.BigQuiet
import Derived.Deep.QuietTactic
import Derived.Deep.CutRange
import Derived.StillTailTactics
import Derived.Lib.SliceRun
import Derived.RangeFuncRecord
import Derived.Carry
import Derived.ChangeKeysEq
import Derived.Below
import Derived.Laws.OwnMore
import Derived.Deep.AppendLies
import Derived.Deep.Draws
import Derived.Laws.Rows
import Derived.Maps.AppendAt
import Derived.RegionTactic
import Derived.OwnWalk
import Derived.Deep.RegionHeld3
namespace Go.Proofs.YthkmpegpmpdhaaaGreatDoor
open Go.Shelf Go.ChangeShapes Go.WideShapes Go.ChangeAt Go.RowKit
set_option linter.unusedSimpArgs false
set_option linter.unusedVariables false
open Go.Sort
/-- The order of the sights. -/
def cfS (x y : Si) : Int := orI (orI (cmpI x.off y.off) (cmpI x.lo y.lo)) (cmpI x.hi y.hi)
instance : Inhabited Si := ⟨⟨0, 0, 0⟩⟩
theorem ltS (x y : Si) : ltOf cfS x y = decide (x.off < y.off ∨ x.off = y.off ∧ (x.lo < y.lo ∨ x.lo = y.lo ∧ x.hi < y.hi)) := by
  have : (cfS x y < 0) ↔ (x.off < y.off ∨ x.off = y.off ∧ (x.lo < y.lo ∨ x.lo = y.lo ∧ x.hi < y.hi)) := by
    unfold cfS orI cmpI
    repeat' split
    all_goals omega
  show decide (cfS x y < 0) = _
  simp only [this]
theorem swoS : SWO (ltOf cfS) := ⟨fun x => by rw [ltS, decide_eq_false_iff_not]; omega, fun x y z h1 h2 => by
    rw [ltS, decide_eq_true_iff] at *
    omega, fun x y z h1 h2 => by
    rw [ltS, decide_eq_false_iff_not] at *
    omega⟩
theorem totS (x y : Si) (h1 : ltOf cfS x y = false) (h2 : ltOf cfS y x = false) : x = y := by
  rw [ltS, decide_eq_false_iff_not] at *
  obtain ⟨a, b, c⟩ := x
  obtain ⟨a', b', c'⟩ := y
  simp only at h1 h2
  obtain rfl : a = a' := by omega
  obtain rfl : b = b' := by omega
  obtain rfl : c = c' := by omega
  rfl
/-- The sights in their order. -/
def sortS (l : List Si) : List Si := l.mergeSort fun x y => !(ltOf cfS) y x
theorem sortS_perm {S T : List Si} (h : S.Perm T) : sortS S = sortS T := by
  unfold sortS
  have hpw : ∀ l : List Si, (l.mergeSort fun x y => !(ltOf cfS) y x).Pairwise fun x y => (!(ltOf cfS) y x) = true := fun l =>
    List.pairwise_mergeSort (le := fun x y => !(ltOf cfS) y x) (fun a b c q1 q2 => by
      simp only [Bool.not_eq_true'] at *
      exact swoS.ntrans _ _ _ q2 q1) (fun a b => by
      simp only [Bool.or_eq_true, Bool.not_eq_true', ltS, decide_eq_false_iff_not]
      omega) l
  refine List.Perm.eq_of_pairwise (le := fun x y => (!(ltOf cfS) y x) = true) ?_ (hpw S) (hpw T) (((List.mergeSort_perm _ _).trans h).trans (List.mergeSort_perm _ _).symm)
  intro a b _ _ q1 q2
  simp only [Bool.not_eq_true'] at q1 q2
  exact totS a b q2 q1
/-- The functions of the order, in memory. -/
structure OrdAt (w : World) (p q p1 q1 a b c : Nat) : Prop where
  hp : w.cell? ⟨p, 0, none⟩ = some (fv116 p1 q1)
  hq : w.cell? ⟨q, 0, none⟩ = some (fv115 c)
  hp1 : w.cell? ⟨p1, 0, none⟩ = some (fv115 a)
  hq1 : w.cell? ⟨q1, 0, none⟩ = some (fv115 b)
  ha : w.cell? ⟨a, 0, none⟩ = some (.func (.func 69) #[] #[])
  hb : w.cell? ⟨b, 0, none⟩ = some (.func (.func 71) #[] #[])
  hc : w.cell? ⟨c, 0, none⟩ = some (.func (.func 72) #[] #[])
theorem OrdAt.keep {w w' : World} {p q p1 q1 a b c : Nat} (h : OrdAt w p q p1 q1 a b c) (hk : Keeps w w') : OrdAt w' p q p1 q1 a b c :=
  ⟨cell_keep h.hp hk, cell_keep h.hq hk, cell_keep h.hp1 hk, cell_keep h.hq1 hk, cell_keep h.ha hk, cell_keep h.hb hk, cell_keep h.hc hk⟩
def Tryz.sort73l_ren : Go.Shelf.Ren := ⟨fun | 6 => 73 | 15 => 119 | 14 => 118 | 28 => 162 | 29 => 163 | 20 => 154 | 21 => 155 | 22 => 156 | 23 => 157 | 24 => 158 | 25 => 159 | 26 => 160 | 27 => 161 | 46 => 192 | 47 => 193 | 48 => 194 | 49 => 195 | 50 => 196 | 57 => 238 | n => n, fun | 22 => 36 | 24 => 45 | 25 => 146 | 3 => 3 | 39 => 214 | 0 => 0 | 53 => 255 | 55 => 257 | 4 => 4 | 46 => 249 | 45 => 248 | 50 => 113 | 5 => 5 | 9 => 9 | 66 => 281 | 70 => 285 | 76 => 318 | 77 => 319 | n => n, fun | n => n⟩
theorem Tryz.sort73l : Go.Proofs.SlLaysF0.n6 Tryz.prog Tryz.sort73l_ren := {
  mixed := by kernel_rfl
  f6 := ⟨Tryz.f73.name, by decide, Tryz.func73.trans (congrArg some (by kernel_rfl))⟩
  f14 := ⟨Tryz.f118.name, by decide, Tryz.func118.trans (congrArg some (by kernel_rfl))⟩
  f15 := Tryz.func119.trans (congrArg some (by kernel_rfl))
  f20 := ⟨Tryz.f154.name, by decide, Tryz.func154.trans (congrArg some (by kernel_rfl))⟩
  f21 := ⟨Tryz.f155.name, by decide, Tryz.func155.trans (congrArg some (by kernel_rfl))⟩
  f22 := ⟨Tryz.f156.name, by decide, Tryz.func156.trans (congrArg some (by kernel_rfl))⟩
  f23 := ⟨Tryz.f157.name, by decide, Tryz.func157.trans (congrArg some (by kernel_rfl))⟩
  f24 := ⟨Tryz.f158.name, by decide, Tryz.func158.trans (congrArg some (by kernel_rfl))⟩
  f25 := ⟨Tryz.f159.name, by decide, Tryz.func159.trans (congrArg some (by kernel_rfl))⟩
  f26 := ⟨Tryz.f160.name, by decide, Tryz.func160.trans (congrArg some (by kernel_rfl))⟩
  f27 := ⟨Tryz.f161.name, by decide, Tryz.func161.trans (congrArg some (by kernel_rfl))⟩
  f28 := Tryz.func162.trans (congrArg some (by kernel_rfl))
  f29 := Tryz.func163.trans (congrArg some (by kernel_rfl))
  f46 := ⟨Tryz.f192.name, by decide, Tryz.func192.trans (congrArg some (by kernel_rfl))⟩
  f47 := Tryz.func193.trans (congrArg some (by kernel_rfl))
  f48 := Tryz.func194.trans (congrArg some (by kernel_rfl))
  f49 := ⟨Tryz.f195.name, by decide, Tryz.func195.trans (congrArg some (by kernel_rfl))⟩
  f50 := ⟨Tryz.f196.name, by decide, Tryz.func196.trans (congrArg some (by kernel_rfl))⟩
  f57 := ⟨Tryz.f238.name, by decide, Tryz.func238.trans (congrArg some (by kernel_rfl))⟩
  t0 := Tryz.underlying0
  a0 := Tryz.isAgg0
  z0 := Tryz.sizeOf0
  v0 := Tryz.zeroValue0
  t3 := Tryz.underlying3
  a3 := Tryz.isAgg3
  z3 := Tryz.sizeOf3
  v3 := Tryz.zeroValue3
  t4 := Tryz.underlying4
  a4 := Tryz.isAgg4
  z4 := Tryz.sizeOf4
  v4 := Tryz.zeroValue4
  t5 := Tryz.underlying5
  a5 := Tryz.isAgg5
  z5 := Tryz.sizeOf5
  v5 := Tryz.zeroValue5
  t9 := Tryz.underlying9
  a9 := Tryz.isAgg9
  z9 := Tryz.sizeOf9
  v9 := Tryz.zeroValue9
  t22 := Tryz.underlying36
  a22 := Tryz.isAgg36
  z22 := Tryz.sizeOf36
  v22 := Tryz.zeroValue36
  t25 := Tryz.underlying146
  a25 := Tryz.isAgg146
  z25 := Tryz.sizeOf146
  v25 := Tryz.zeroValue146
  t39 := Tryz.underlying214
  a39 := Tryz.isAgg214
  z39 := Tryz.sizeOf214
  v39 := Tryz.zeroValue214
  t45 := Tryz.underlying248
  a45 := Tryz.isAgg248
  z45 := Tryz.sizeOf248
  v45 := Tryz.zeroValue248
  t46 := Tryz.underlying249
  a46 := Tryz.isAgg249
  z46 := Tryz.sizeOf249
  v46 := Tryz.zeroValue249
  t50 := Tryz.underlying113
  a50 := Tryz.isAgg113
  z50 := Tryz.sizeOf113
  v50 := Tryz.zeroValue113
  t53 := Tryz.underlying255
  a53 := Tryz.isAgg255
  z53 := Tryz.sizeOf255
  v53 := Tryz.zeroValue255
  t55 := Tryz.underlying257
  a55 := Tryz.isAgg257
  z55 := Tryz.sizeOf257
  v55 := Tryz.zeroValue257
  t66 := Tryz.underlying281
  a66 := Tryz.isAgg281
  z66 := Tryz.sizeOf281
  v66 := Tryz.zeroValue281
  t70 := Tryz.underlying285
  a70 := Tryz.isAgg285
  z70 := Tryz.sizeOf285
  v70 := Tryz.zeroValue285
  t76 := Tryz.underlying318
  a76 := Tryz.isAgg318
  z76 := Tryz.sizeOf318
  v76 := Tryz.zeroValue318
  t77 := Tryz.underlying319
  a77 := Tryz.isAgg319
  z77 := Tryz.sizeOf319
  v77 := Tryz.zeroValue319
}
def SortPS (l : List Si) (A : Option Addr) (n c : Nat) (w0 : World) (e : Ending) (w' : World) : Prop := e = .returned (.tuple #[]) ∧ OwnR siR w0 w' (.slice A n c) (sortS l)
theorem sort73 (l : List Si) (A : Option Addr) (n cp : Nat) (p q p1 q1 a b c : Nat) (w0 w : World) (hO : OwnR siR w0 w (.slice A n cp) l) (hf : OrdAt w0 p q p1 q1 a b c) (hn : n ≤ 1000000) :
    Calls Tryz.prog 73 #[.slice A n cp, .func (.func 116) #[] #[.pointer (some ⟨p, 0, none⟩), .pointer (some ⟨q, 0, none⟩)]] w (SortPS l A n cp w0) := by
  have hnl := own_lenR hO
  rcases Nat.eq_zero_or_pos n with h0 | hp
  · subst h0
    have hnil : l = [] := List.eq_nil_of_length_eq_zero hnl.symm
    subst hnil
    have hcon := AnyF.slices_SortFunc_none Tryz.sort73l A cp (.func (.func 116) #[] #[.pointer (some ⟨p, 0, none⟩), .pointer (some ⟨q, 0, none⟩)]) w
    change Calls Tryz.prog 73 _ _ _ at hcon
    refine hcon.mono ?_
    rintro e w' ⟨rfl, rfl⟩
    exact ⟨rfl, by simpa [sortS] using hO⟩
  · obtain ⟨g, cap, e, hg1, hg2⟩ := hO.form (by omega)
    injection e with e1 e2 e3
    subst e1 e3
    have eg : ∀ args w, (callFunc 116 args).run Tryz.prog w = .ok (.enter 116 args) w := enters_of Tryz.func116 (by kernel_rfl) rfl
    subst hnl
    have hH := holds_own siOk hO
    have hcmp : CmpLays Tryz.prog 116 #[.pointer (some ⟨p, 0, none⟩), .pointer (some ⟨q, 0, none⟩)] siR.enc 3 cfS g 0 l.toArray.size w := fun m os dk hdk x y => by
      have hK := (own_sorted siOk hO m dk (by simpa using hdk) os).1.2
      have h := hf.keep hK
      exact (then116_b x y p q p1 q1 a b c _ h.hp h.hq h.hp1 h.hq1 h.ha h.hb h.hc).mono fun _ _ h => h
    have hcon := AnyQ.slices_SortFunc_total Tryz.sort73l 3 Tryz.isAgg45 Tryz.sizeOf45 siR.enc siOk.len siOk.one cfS swoS 116 #[.pointer (some ⟨p, 0, none⟩), .pointer (some ⟨q, 0, none⟩)] g 0 cp l.toArray w eg hcmp hH hg2 (by simp; omega) totS
    change Calls Tryz.prog 73 #[.slice (some ⟨g, 0, none⟩) l.length cp, _] w _ at hcon
    refine hcon.mono ?_
    rintro e w' ⟨rfl, m, os, rfl⟩
    obtain ⟨h1, _⟩ := own_sorted siOk hO m (sortS l).toArray (by simp [sortS]) os
    exact ⟨rfl, h1⟩
end Go.Proofs.YthkmpegpmpdhaaaGreatDoor
