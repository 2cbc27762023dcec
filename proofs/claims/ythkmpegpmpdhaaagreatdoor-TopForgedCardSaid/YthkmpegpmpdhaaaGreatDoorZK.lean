/- Part of the proof of x. Conditions: as stated in each theorem. -/
import Derived.Test.YthkmpegpmpdhaaaGreatDoorZA
import Derived.Test.YthkmpegpmpdhaaaGreatDoorProg
import Derived.Shelf.SortM.Plain
import Derived.Shelf.SortM.SortNone
import Derived.Shelf.SlicesG.CompactI
import Derived.Ground.SlgmProg
import Derived.Ground.SlgnProg
import Derived.Shelf.Lay
import Derived.Shelf.SlGeneric
import Derived.WalkKit
import Derived.WalkSpells
import Derived.WalkLawsBesides
import Derived.Laws.EntriesVeiled
import Derived.ProofKit
import Derived.OpenShut
import Derived.Lib.Hide
import Derived.BigQuiet
import Derived.Deep.QuietTactic
import Derived.Deep.CutRange
import Derived.StillTailTactics
import Derived.Lib.SliceRun
import Derived.RangeFuncRecord
import Derived.Carry
import Derived.ChangeKeysEq
import Derived.Below
import Derived.Laws.OwnMore
import Derived.Deep.AppendLies
import Derived.Deep.Draws
import Derived.Laws.Rows
import Derived.Maps.AppendAt
import Derived.RegionTactic
import Derived.OwnWalk
import Derived.Deep.RegionHeld3
namespace Go.Proofs.YthkmpegpmpdhaaaGreatDoor
open Go.ChangeShapes Go.WideShapes Go.ChangeAt Go.RowKit
set_option linter.unusedSimpArgs false
set_option linter.unusedVariables false
open Go.Shelf Go.Sort
def Tryz.sort107_ren : Go.Shelf.Ren := ⟨fun | 5 => 107 | 8 => 119 | 7 => 147 | 19 => 162 | 20 => 163 | 10 => 179 | 11 => 180 | 12 => 181 | 13 => 182 | 14 => 183 | 15 => 184 | 16 => 169 | 17 => 185 | 18 => 186 | 30 => 221 | 31 => 193 | 32 => 194 | 33 => 222 | 34 => 223 | 35 => 142 | 40 => 266 | n => n, fun | 23 => 41 | 25 => 3 | 3 => 3 | 32 => 214 | 22 => 41 | 0 => 0 | 44 => 255 | 46 => 257 | 4 => 4 | 36 => 249 | 35 => 248 | 41 => 113 | 5 => 5 | 9 => 9 | 53 => 281 | 57 => 285 | 63 => 318 | 64 => 319 | n => n, fun | n => n⟩
theorem Tryz.sort107 : Go.Proofs.SlLaysM.n5 Tryz.prog Tryz.sort107_ren := {
  mixed := by kernel_rfl
  f5 := ⟨Tryz.f107.name, by decide, Tryz.func107.trans (congrArg some (by kernel_rfl))⟩
  f7 := ⟨Tryz.f147.name, by decide, Tryz.func147.trans (congrArg some (by kernel_rfl))⟩
  f8 := Tryz.func119.trans (congrArg some (by kernel_rfl))
  f10 := ⟨Tryz.f179.name, by decide, Tryz.func179.trans (congrArg some (by kernel_rfl))⟩
  f11 := ⟨Tryz.f180.name, by decide, Tryz.func180.trans (congrArg some (by kernel_rfl))⟩
  f12 := ⟨Tryz.f181.name, by decide, Tryz.func181.trans (congrArg some (by kernel_rfl))⟩
  f13 := ⟨Tryz.f182.name, by decide, Tryz.func182.trans (congrArg some (by kernel_rfl))⟩
  f14 := ⟨Tryz.f183.name, by decide, Tryz.func183.trans (congrArg some (by kernel_rfl))⟩
  f15 := ⟨Tryz.f184.name, by decide, Tryz.func184.trans (congrArg some (by kernel_rfl))⟩
  f16 := ⟨Tryz.f169.name, by decide, Tryz.func169.trans (congrArg some (by kernel_rfl))⟩
  f17 := ⟨Tryz.f185.name, by decide, Tryz.func185.trans (congrArg some (by kernel_rfl))⟩
  f18 := ⟨Tryz.f186.name, by decide, Tryz.func186.trans (congrArg some (by kernel_rfl))⟩
  f19 := Tryz.func162.trans (congrArg some (by kernel_rfl))
  f20 := Tryz.func163.trans (congrArg some (by kernel_rfl))
  f30 := ⟨Tryz.f221.name, by decide, Tryz.func221.trans (congrArg some (by kernel_rfl))⟩
  f31 := Tryz.func193.trans (congrArg some (by kernel_rfl))
  f32 := Tryz.func194.trans (congrArg some (by kernel_rfl))
  f33 := ⟨Tryz.f222.name, by decide, Tryz.func222.trans (congrArg some (by kernel_rfl))⟩
  f34 := ⟨Tryz.f223.name, by decide, Tryz.func223.trans (congrArg some (by kernel_rfl))⟩
  f35 := ⟨Tryz.f142.name, by decide, Tryz.func142.trans (congrArg some (by kernel_rfl))⟩
  f40 := ⟨Tryz.f266.name, by decide, Tryz.func266.trans (congrArg some (by kernel_rfl))⟩
  t0 := Tryz.underlying0
  a0 := Tryz.isAgg0
  z0 := Tryz.sizeOf0
  v0 := Tryz.zeroValue0
  t3 := Tryz.underlying3
  a3 := Tryz.isAgg3
  z3 := Tryz.sizeOf3
  v3 := Tryz.zeroValue3
  t4 := Tryz.underlying4
  a4 := Tryz.isAgg4
  z4 := Tryz.sizeOf4
  v4 := Tryz.zeroValue4
  t5 := Tryz.underlying5
  a5 := Tryz.isAgg5
  z5 := Tryz.sizeOf5
  v5 := Tryz.zeroValue5
  t9 := Tryz.underlying9
  a9 := Tryz.isAgg9
  z9 := Tryz.sizeOf9
  v9 := Tryz.zeroValue9
  t22 := Tryz.underlying41
  a22 := Tryz.isAgg41
  z22 := Tryz.sizeOf41
  v22 := Tryz.zeroValue41
  t23 := Tryz.underlying41
  a23 := Tryz.isAgg41
  z23 := Tryz.sizeOf41
  v23 := Tryz.zeroValue41
  t25 := Tryz.underlying3
  a25 := Tryz.isAgg3
  z25 := Tryz.sizeOf3
  v25 := Tryz.zeroValue3
  t32 := Tryz.underlying214
  a32 := Tryz.isAgg214
  z32 := Tryz.sizeOf214
  v32 := Tryz.zeroValue214
  t35 := Tryz.underlying248
  a35 := Tryz.isAgg248
  z35 := Tryz.sizeOf248
  v35 := Tryz.zeroValue248
  t36 := Tryz.underlying249
  a36 := Tryz.isAgg249
  z36 := Tryz.sizeOf249
  v36 := Tryz.zeroValue249
  t41 := Tryz.underlying113
  a41 := Tryz.isAgg113
  z41 := Tryz.sizeOf113
  v41 := Tryz.zeroValue113
  t44 := Tryz.underlying255
  a44 := Tryz.isAgg255
  z44 := Tryz.sizeOf255
  v44 := Tryz.zeroValue255
  t46 := Tryz.underlying257
  a46 := Tryz.isAgg257
  z46 := Tryz.sizeOf257
  v46 := Tryz.zeroValue257
  t53 := Tryz.underlying281
  a53 := Tryz.isAgg281
  z53 := Tryz.sizeOf281
  v53 := Tryz.zeroValue281
  t57 := Tryz.underlying285
  a57 := Tryz.isAgg285
  z57 := Tryz.sizeOf285
  v57 := Tryz.zeroValue285
  t63 := Tryz.underlying318
  a63 := Tryz.isAgg318
  z63 := Tryz.sizeOf318
  v63 := Tryz.zeroValue318
  t64 := Tryz.underlying319
  a64 := Tryz.isAgg319
  z64 := Tryz.sizeOf319
  v64 := Tryz.zeroValue319
}
def Tryz.comp108_ren : Go.Shelf.Ren := ⟨fun | 43 => 108 | n => n, fun | 22 => 41 | 23 => 3 | 3 => 3 | 4 => 4 | 0 => 0 | n => n, fun | n => n⟩
theorem Tryz.comp108 : Go.Proofs.SlLaysN.n43 Tryz.prog Tryz.comp108_ren := {
  mixed := by kernel_rfl
  f43 := ⟨Tryz.f108.name, by decide, Tryz.func108.trans (congrArg some (by kernel_rfl))⟩
  t0 := Tryz.underlying0
  a0 := Tryz.isAgg0
  z0 := Tryz.sizeOf0
  v0 := Tryz.zeroValue0
  t3 := Tryz.underlying3
  a3 := Tryz.isAgg3
  z3 := Tryz.sizeOf3
  v3 := Tryz.zeroValue3
  t4 := Tryz.underlying4
  a4 := Tryz.isAgg4
  z4 := Tryz.sizeOf4
  v4 := Tryz.zeroValue4
  t22 := Tryz.underlying41
  a22 := Tryz.isAgg41
  z22 := Tryz.sizeOf41
  v22 := Tryz.zeroValue41
  t23 := Tryz.underlying3
  a23 := Tryz.isAgg3
  z23 := Tryz.sizeOf3
  v23 := Tryz.zeroValue3
  i23 := by kernel_rfl
}
theorem own_len {w0 w : World} {A : Option Addr} {n c : Nat} {l : List Int} (h : OwnR intR w0 w (.slice A n c) l) : n = l.length := (h.recs intOk).2
theorem rec_int (l : List Int) : recCells intR l = l.map (Value.int .i64) := by
  induction l with
  | nil => rfl
  | cons x l ih => rw [recCells_cons, ih]; rfl
theorem holds_int {w0 w : World} {g n cap : Nat} {l : List Int} (h : OwnR intR w0 w (.slice (some ⟨g, 0, none⟩) n cap) l) : Holds (Value.int .i64) w g 0 l.toArray := by
  have hn := own_len h
  subst hn
  intro j hj
  have hj' : j < l.length := by simpa using hj
  refine ⟨?_, by rw [Nat.zero_add]; exact h.frozen j⟩
  obtain ⟨b, off, e, _, hc⟩ := (h.recs intOk).1.int (List.getElem?_eq_getElem hj')
  cases e
  rw [hc, getElem!_pos _ j hj]
  rfl
/-- A row of numbers with other numbers laid in. -/
theorem own_put {w0 w : World} {g n cap : Nat} {l : List Int} (h : OwnR intR w0 w (.slice (some ⟨g, 0, none⟩) n cap) l) (m : Nat) (d : Array Int) (hd : d.size = l.length) (os : Array Obj) :
    OwnR intR w0 (grow (putRow (Value.int .i64) (Sort.ahead w m) g 0 d) os) (.slice (some ⟨g, 0, none⟩) n cap) d.toList ∧ w.grownBy (grow (putRow (Value.int .i64) (Sort.ahead w m) g 0 d) os) (some g) := by
  have hn := own_len h
  subst hn
  obtain ⟨hlen, hh⟩ := h.1
  rcases hh with ⟨e, _⟩ | ⟨g', cap', cur, e, hb, hg, hnc, hcm, hcs, htake⟩
  · cases e
  injection e with e1 e2 e3
  injection e1 with e1
  injection e1 with e1
  subst e1 e3
  have hglt := (Array.getElem?_eq_some_iff.1 hg).1
  have hgrow : w.grownBy (grow (putRow (Value.int .i64) (Sort.ahead w m) g 0 d) os) (some g) := by
    refine ⟨rfl, rfl, rfl, by simp [grow, putRow, mapBlock, Sort.ahead], fun k hk hne => ?_⟩
    have : k ≠ g := fun e => hne (by rw [e])
    simp only [grow, putRow, mapBlock, Sort.ahead]
    rw [Array.getElem?_append_left (by simpa using hk), Array.getElem?_modify, if_neg (fun e => this e.symm)]
  have hlt : w0.heap.size ≤ g := hb
  refine ⟨⟨?_, grown_keeps h.2 hgrow (fun k e => by cases e; exact hlt)⟩, hgrow⟩
  have hdl : d.toList.length = l.length := by simpa using hd
  rw [hdl]
  refine ⟨by rw [recCells_length intOk.len, hdl], .inr ⟨g, cap, putCells (Value.int .i64) 0 d cur, rfl, hb, ?_, hnc, hcm, by simp [putCells]; have : cur.size = cap * 1 := hcs; omega, ?_⟩⟩
  · simp only [grow, putRow, mapBlock, Sort.ahead]
    rw [Array.getElem?_append_left (by simpa using hglt), Array.getElem?_modify, if_pos rfl]
    show Option.map _ (w.heap[g]?) = _
    rw [hg]
    rfl
  · rw [rec_int]
    have hcs' : l.length ≤ cur.size := by have : cur.size = cap * 1 := hcs; omega
    have hk1 : l.length * intR.k = l.length := Nat.mul_one _
    rw [hk1]
    refine List.ext_getElem? fun t => ?_
    by_cases ht : t < l.length
    · have ht2 : t < d.size := by rw [hd]; exact ht
      rw [List.getElem?_take, if_pos (by omega), Array.getElem?_toList]
      simp only [putCells]
      rw [Array.getElem?_mapIdx, Array.getElem?_eq_getElem (by omega)]
      simp [ht2]
    · rw [List.getElem?_eq_none (by simp; omega), List.getElem?_eq_none (by simp [hd]; omega)]
theorem own_cap {w0 w : World} {g n cap : Nat} {l : List Int} (h : OwnR intR w0 w (.slice (some ⟨g, 0, none⟩) n cap) l) : n ≤ cap := by
  have hn := own_len h
  subst hn
  rcases h.1.2 with ⟨e, _⟩ | ⟨g', cap', cur, e, hb, hg, hnc, _⟩
  · cases e
  · injection e with e1 e2 e3
    subst e3
    exact hnc
def srt (l : List Int) : List Int := l.mergeSort fun x y => decide (x ≤ y)
theorem srt_len (l : List Int) : (srt l).length = l.length := List.length_mergeSort l
def SortP (l : List Int) (g n cap : Nat) (w0 w : World) (e : Ending) (w' : World) : Prop := e = .returned (.tuple #[]) ∧ OwnR intR w0 w' (.slice (some ⟨g, 0, none⟩) n cap) (srt l) ∧ w.grownBy w' (some g)
theorem sort_any (l : List Int) (g n cap : Nat) (w0 w : World) (h : OwnR intR w0 w (.slice (some ⟨g, 0, none⟩) n cap) l) (hn : n ≤ 1000000) :
    Calls Tryz.prog 107 #[.slice (some ⟨g, 0, none⟩) n cap] w (SortP l g n cap w0 w) := by
  have hl := own_len h
  subst hl
  have hcon := AnyM.slices_Sort_int Tryz.sort107 g 0 cap l w (holds_int h) (h.1.lt g rfl).2 (by omega)
  change Calls Tryz.prog 107 _ _ _ at hcon
  refine hcon.mono ?_
  rintro e w' ⟨rfl, m, os, rfl⟩
  obtain ⟨h1, h2⟩ := own_put h m (l.mergeSort fun x y => decide (x ≤ y)).toArray (by simp) os
  exact ⟨rfl, h1, h2⟩
def CompP (l : List Int) (g cap : Nat) (w : World) (e : Ending) (w' : World) : Prop := e = .returned (.slice (some ⟨g, 0, none⟩) (Lib.compact l).length cap) ∧ RecIn intR w' w'.heap.size (some ⟨g, 0, none⟩) (Lib.compact l) ∧ w.grownBy w' (some g)
theorem comp_any (l : List Int) (g n cap : Nat) (w0 w : World) (h : OwnR intR w0 w (.slice (some ⟨g, 0, none⟩) n cap) l) (hn : n ≤ 1000000) :
    Calls Tryz.prog 108 #[.slice (some ⟨g, 0, none⟩) n cap] w (CompP l g cap w) := by
  have hl := own_len h
  have hc := own_cap h
  subst hl
  have hcon := AnyG.slices_Compact_int Tryz.comp108 g 0 cap l w (holds_int h) (by omega) hc
  change Calls Tryz.prog 108 _ _ _ at hcon
  refine hcon.mono ?_
  rintro e w' ⟨rfl, q, rfl⟩
  have hle : (Lib.compact l).length ≤ l.length := by
    unfold Lib.compact Lib.compactUpTo
    rw [List.length_map]
    exact Nat.le_trans (List.length_filter_le _ _) (by simp)
  obtain ⟨h1, h2⟩ := own_put h q (Lib.compact l ++ List.replicate (l.length - (Lib.compact l).length) 0).toArray (by simp; omega) #[]
  have e0 : ∀ W : World, grow W #[] = W := fun W => by simp [grow]
  rw [e0] at h1 h2
  refine ⟨rfl, ?_, h2⟩
  have := (h1.recs intOk).1.take (Lib.compact l).length
  simpa using this
end Go.Proofs.YthkmpegpmpdhaaaGreatDoor
