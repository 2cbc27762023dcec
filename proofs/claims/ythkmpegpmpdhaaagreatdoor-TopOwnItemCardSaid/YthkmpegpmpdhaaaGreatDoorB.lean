/- Part of the proof of TopOwnItem. Conditions: as stated in each theorem. -/
import Derived.Test.YthkmpegpmpdhaaaGreatDoorA
import Derived.Test.YthkmpegpmpdhaaaGreatDoorProg
import Derived.WalkKit
import Derived.WalkSpells
import Derived.WalkLawsBesides
import Derived.Laws.EntriesVeiled
import Derived.ProofKit
import Derived.OpenShut
import Derived.Lib.Hide
import Derived.BigQuiet
import Derived.Deep.QuietTactic
import Derived.Deep.CutRange
import Derived.StillTailTactics
import Derived.Lib.SliceRun
import Derived.RangeFuncRecord
import Derived.Carry
import Derived.ChangeKeysEq
import Derived.Below
import Derived.Laws.OwnMore
import Derived.Deep.AppendLies
import Derived.Deep.Draws
import Derived.Laws.Rows
import Derived.Maps.AppendAt
import Derived.RegionTactic
import Derived.OwnWalk
import Derived.Deep.RegionHeld3
namespace Go.Proofs.YthkmpegpmpdhaaaGreatDoor
open Go.ChangeShapes Go.WideShapes Go.ChangeAt Go.RowKit
set_option linter.unusedSimpArgs false
set_option linter.unusedVariables false
/-- Whole numbers. -/
abbrev intR : RowTy Int := { T := 3, S := 41, k := 1, by' := 8, enc := fun x => [.int .i64 x] }
theorem intOk : RowOk Tryz.prog intR := ⟨fun _ => rfl, fun x u hu => by simp at hu; subst hu; rfl, Tryz.underlying41, info_of (z := .int .i64 0) (by kernel_rfl) rfl, by decide, by decide⟩
/-- Texts. -/
abbrev strR : RowTy ByteArray := { T := 9, S := 24, k := 1, by' := 16, enc := fun x => [.string x] }
theorem strOk : RowOk Tryz.prog strR := ⟨fun _ => rfl, fun x u hu => by simp at hu; subst hu; rfl, Tryz.underlying24, info_of (z := .string ByteArray.empty) (by kernel_rfl) rfl, by decide, by decide⟩
/-- A scanner. -/
structure Scn where
  op : Int
  off : Int
  er : Int
abbrev scR : RowTy Scn := { T := 72, S := 22, k := 3, by' := 24, enc := fun x => [.int .i64 x.op, .int .i64 x.off, .int .i64 x.er] }
theorem scOk : RowOk Tryz.prog scR := ⟨fun _ => rfl, fun x u hu => by simp at hu; rcases hu with rfl | rfl | rfl <;> rfl, Tryz.underlying22, info_of (z := .agg #[.int .i64 0, .int .i64 0, .int .i64 0]) (by kernel_rfl) rfl, by decide, by decide⟩
/-- A record, and where the header of its contents leads. -/
structure Rec where
  sc : Int
  nu : Int
  ki : Int
  ti : Int
  lab : ByteArray
  con : List ByteArray
  A : Option Addr
  c : Nat
def Rec.hd (x : Rec) : Value := .slice x.A x.con.length x.c
abbrev rcR : RowTy Rec := { T := 26, S := 23, k := 6, by' := 72, enc := fun x => [.int .i64 x.sc, .int .i64 x.nu, .int .i64 x.ki, .int .i64 x.ti, .string x.lab, .slice x.A x.con.length x.c] }
theorem rcOk : RowOk Tryz.prog rcR := ⟨fun _ => rfl, fun x u hu => by simp at hu; rcases hu with rfl | rfl | rfl | rfl | rfl | rfl <;> rfl, Tryz.underlying23, info_of (z := .agg #[.int .i64 0, .int .i64 0, .int .i64 0, .int .i64 0, .string ByteArray.empty, .slice none 0 0]) (by kernel_rfl) rfl, by decide, by decide⟩
/-- An event, and where the header of its needs leads. -/
structure Ev where
  off : Int
  lo : Int
  hi : Int
  nd : List Int
  A : Option Addr
  c : Nat
abbrev evR : RowTy Ev := { T := 43, S := 31, k := 4, by' := 48, enc := fun x => [.int .i64 x.off, .int .i64 x.lo, .int .i64 x.hi, .slice x.A x.nd.length x.c] }
theorem evOk : RowOk Tryz.prog evR := ⟨fun _ => rfl, fun x u hu => by simp at hu; rcases hu with rfl | rfl | rfl | rfl <;> rfl, Tryz.underlying31, info_of (z := .agg #[.int .i64 0, .int .i64 0, .int .i64 0, .slice none 0 0]) (by kernel_rfl) rfl, by decide, by decide⟩
/-- A sight. -/
structure Si where
  off : Int
  lo : Int
  hi : Int
abbrev siR : RowTy Si := { T := 45, S := 36, k := 3, by' := 24, enc := fun x => [.int .i64 x.off, .int .i64 x.lo, .int .i64 x.hi] }
theorem siOk : RowOk Tryz.prog siR := ⟨fun _ => rfl, fun x u hu => by simp at hu; rcases hu with rfl | rfl | rfl <;> rfl, Tryz.underlying36, info_of (z := .agg #[.int .i64 0, .int .i64 0, .int .i64 0]) (by kernel_rfl) rfl, by decide, by decide⟩
/-- A list of numbers, and where its header leads. -/
structure Rw where
  l : List Int
  A : Option Addr
  c : Nat
abbrev rwR : RowTy Rw := { T := 41, S := 27, k := 1, by' := 24, enc := fun x => [.slice x.A x.l.length x.c] }
theorem rwOk : RowOk Tryz.prog rwR := ⟨fun _ => rfl, fun x u hu => by simp at hu; subst hu; rfl, Tryz.underlying27, info_of (z := .slice none 0 0) (by kernel_rfl) rfl, by decide, by decide⟩
section
variable {w : World} {B : Nat} {A : Option Addr}
theorem RecIn.int {l : List Int} (h : RecIn intR w B A l) {j : Nat} {x : Int} (hj : l[j]? = some x) : ∃ b off, A = some ⟨b, off, none⟩ ∧ b < B ∧ w.cell? ⟨b, off + j, none⟩ = some (.int .i64 x) := by
  obtain ⟨b, off, e, hb, hc⟩ := h j x hj
  refine ⟨b, off, e, hb, ?_⟩
  have := hc 0 _ rfl
  simpa using this
theorem RecIn.str {l : List ByteArray} (h : RecIn strR w B A l) {j : Nat} {x : ByteArray} (hj : l[j]? = some x) : ∃ b off, A = some ⟨b, off, none⟩ ∧ b < B ∧ w.cell? ⟨b, off + j, none⟩ = some (.string x) := by
  obtain ⟨b, off, e, hb, hc⟩ := h j x hj
  refine ⟨b, off, e, hb, ?_⟩
  have := hc 0 _ rfl
  simpa using this
theorem RecIn.rw_ {l : List Rw} (h : RecIn rwR w B A l) {j : Nat} {x : Rw} (hj : l[j]? = some x) : ∃ b off, A = some ⟨b, off, none⟩ ∧ b < B ∧ w.cell? ⟨b, off + j, none⟩ = some (.slice x.A x.l.length x.c) := by
  obtain ⟨b, off, e, hb, hc⟩ := h j x hj
  refine ⟨b, off, e, hb, ?_⟩
  have := hc 0 _ rfl
  simpa using this
theorem RecIn.sc {l : List Scn} (h : RecIn scR w B A l) {j : Nat} {x : Scn} (hj : l[j]? = some x) : ∃ b off, A = some ⟨b, off, none⟩ ∧ b < B ∧ w.cell? ⟨b, off + j * 3, none⟩ = some (.int .i64 x.op) ∧ w.cell? ⟨b, off + j * 3 + 1, none⟩ = some (.int .i64 x.off) ∧ w.cell? ⟨b, off + j * 3 + 2, none⟩ = some (.int .i64 x.er) := by
  obtain ⟨b, off, e, hb, hc⟩ := h j x hj
  exact ⟨b, off, e, hb, hc 0 _ rfl, hc 1 _ rfl, hc 2 _ rfl⟩
theorem RecIn.si {l : List Si} (h : RecIn siR w B A l) {j : Nat} {x : Si} (hj : l[j]? = some x) : ∃ b off, A = some ⟨b, off, none⟩ ∧ b < B ∧ w.cell? ⟨b, off + j * 3, none⟩ = some (.int .i64 x.off) ∧ w.cell? ⟨b, off + j * 3 + 1, none⟩ = some (.int .i64 x.lo) ∧ w.cell? ⟨b, off + j * 3 + 2, none⟩ = some (.int .i64 x.hi) := by
  obtain ⟨b, off, e, hb, hc⟩ := h j x hj
  exact ⟨b, off, e, hb, hc 0 _ rfl, hc 1 _ rfl, hc 2 _ rfl⟩
theorem RecIn.ev {l : List Ev} (h : RecIn evR w B A l) {j : Nat} {x : Ev} (hj : l[j]? = some x) : ∃ b off, A = some ⟨b, off, none⟩ ∧ b < B ∧ w.cell? ⟨b, off + j * 4, none⟩ = some (.int .i64 x.off) ∧ w.cell? ⟨b, off + j * 4 + 1, none⟩ = some (.int .i64 x.lo) ∧ w.cell? ⟨b, off + j * 4 + 2, none⟩ = some (.int .i64 x.hi) ∧ w.cell? ⟨b, off + j * 4 + 3, none⟩ = some (.slice x.A x.nd.length x.c) := by
  obtain ⟨b, off, e, hb, hc⟩ := h j x hj
  exact ⟨b, off, e, hb, hc 0 _ rfl, hc 1 _ rfl, hc 2 _ rfl, hc 3 _ rfl⟩
theorem RecIn.rc {l : List Rec} (h : RecIn rcR w B A l) {j : Nat} {x : Rec} (hj : l[j]? = some x) : ∃ b off, A = some ⟨b, off, none⟩ ∧ b < B ∧ w.cell? ⟨b, off + j * 6, none⟩ = some (.int .i64 x.sc) ∧ w.cell? ⟨b, off + j * 6 + 1, none⟩ = some (.int .i64 x.nu) ∧ w.cell? ⟨b, off + j * 6 + 2, none⟩ = some (.int .i64 x.ki) ∧ w.cell? ⟨b, off + j * 6 + 3, none⟩ = some (.int .i64 x.ti) ∧ w.cell? ⟨b, off + j * 6 + 4, none⟩ = some (.string x.lab) ∧ w.cell? ⟨b, off + j * 6 + 5, none⟩ = some (.slice x.A x.con.length x.c) := by
  obtain ⟨b, off, e, hb, hc⟩ := h j x hj
  exact ⟨b, off, e, hb, hc 0 _ rfl, hc 1 _ rfl, hc 2 _ rfl, hc 3 _ rfl, hc 4 _ rfl, hc 5 _ rfl⟩
end
end Go.Proofs.YthkmpegpmpdhaaaGreatDoor
