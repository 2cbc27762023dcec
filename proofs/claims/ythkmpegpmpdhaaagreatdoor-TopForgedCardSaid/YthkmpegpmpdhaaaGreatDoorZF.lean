/- Part of the proof of TopOwnItem. Conditions: as stated in each theorem. -/
import Derived.Test.YthkmpegpmpdhaaaGreatDoorZL
import Derived.Test.YthkmpegpmpdhaaaGreatDoorZA
import Derived.Test.YthkmpegpmpdhaaaGreatDoorProg
import Derived.WalkKit
import Derived.WalkSpells
import Derived.WalkLawsBesides
import Derived.Laws.EntriesVeiled
import Derived.ProofKit
import Derived.OpenShut
import Derived.Lib.Hide
import Derived.BigQuiet
import Derived.Deep.QuietTactic
import Derived.Deep.CutRange
import Derived.StillTailTactics
import Derived.Lib.SliceRun
import Derived.RangeFuncRecord
import Derived.Carry
import Derived.ChangeKeysEq
import Derived.Below
import Derived.Laws.OwnMore
import Derived.Deep.AppendLies
import Derived.Deep.Draws
import Derived.Laws.Rows
import Derived.Maps.AppendAt
import Derived.RegionTactic
import Derived.OwnWalk
import Derived.Deep.RegionHeld3
namespace Go.Proofs.YthkmpegpmpdhaaaGreatDoor
open Go.ChangeShapes Go.WideShapes Go.ChangeAt Go.RowKit
set_option linter.unusedSimpArgs false
set_option linter.unusedVariables false
theorem ba_beq (a b : ByteArray) : (a == b) = true ↔ a = b := by
  cases a; cases b
  show ByteArray.beq _ _ = true ↔ _
  unfold ByteArray.beq
  simp
instance : LawfulBEq ByteArray where
  eq_of_beq {a b} h := (ba_beq a b).1 h
  rfl {a} := (ba_beq a a).2 rfl
theorem ba_ne {a b : ByteArray} (h : a ≠ b) : (a == b) = false := by
  cases hb : a == b
  · rfl
  · exact absurd ((ba_beq a b).1 hb) h
section
variable {P : Program} {K : TypeId}
theorem findNow_str (x : ByteArray) : ∀ (es : List MapEntry) (l : List (ByteArray × Value)) (i : Nat), es.map (fun e => (e.key, e.val)) = l.map (fun e => (Value.string e.1, e.2)) →
    Instr.findNow .string (.string x) es i = some (lookF (fun a b => a == b) x l i)
  | [], [], i, _ => rfl
  | e :: es, a :: l, i, h => by
    simp only [List.map_cons, List.cons.injEq, Prod.mk.injEq] at h
    obtain ⟨⟨h1, h2⟩, h3⟩ := h
    have ih := findNow_str x es l (i + 1) h3
    cases hb : x == a.1
    · simp only [Instr.findNow, Instr.sameNow, h1, lookF, hb, ih]
      simp
    · simp [Instr.findNow, Instr.sameNow, h1, h2, lookF, hb]
  | [], a :: l, i, h => by simp at h
  | e :: es, [], i, h => by simp at h
theorem check_str (hK : P.underlying K = some .string) (e : Bool) (n : Nat) (x : ByteArray) (W : World) : (Instr.checkKey e (n + 1) K (.string x)).run P W = .ok () W := by
  simp only [Instr.checkKey, Sem.run_bind, run_underlying hK, Result.andThen_ok, Sem.run_pure]
theorem strKeys (hK : P.underlying K = some .string) : KeyLaws P K (fun x : ByteArray => Value.string x) (fun a b => a == b) where
  find := fun x W es l h => by
    simp only [Instr.findKey, Sem.run_bind, run_underlying hK, Result.andThen_ok, findNow_str x es l 0 h, Sem.run_pure]
  check := fun e x W => check_str hK e 9999 x W
  stays := fun x y h => by
    have : x = y := (ba_beq x y).1 h
    subst this
    exact ⟨rfl, by simp [Instr.sameBits]⟩
end
abbrev sv : ByteArray → Value := fun x => Value.string x
abbrev sEq : ByteArray → ByteArray → Bool := fun a b => a == b
/-- Block r is the set of the texts S. -/
def SetIs (W : World) (r : Nat) (S : List ByteArray) : Prop := MapTo sv sEq W r (fun k => if k ∈ S then some (.bool true) else none)
theorem SetIs.has {W : World} {r : Nat} {S : List ByteArray} (h : SetIs W r S) (s : ByteArray) : (Instr.lookup 217 (.map (some r)) (.string s) false).run Tryz.prog W = .ok (.bool (decide (s ∈ S))) W := by
  have := MapTo.look (strKeys Tryz.underlying9) Tryz.underlying217 false h (.bool false) (by kernel_rfl) s
  rw [this]
  by_cases hs : s ∈ S <;> simp [hs]
theorem SetIs.put {W : World} {r : Nat} {S : List ByteArray} (h : SetIs W r S) (s : ByteArray) : ∃ W', (Instr.mapUpdate 217 (.map (some r)) (.string s) (.bool true)).run Tryz.prog W = .ok () W' ∧ SetIs W' r (s :: S) ∧ W.grownBy W' (some r) := by
  obtain ⟨W', h1, h2, h3⟩ := MapTo.put (strKeys Tryz.underlying9) ba_beq Tryz.underlying217 h s (.bool true)
  refine ⟨W', h1, MapTo.congr h2 (fun k => ?_), h3⟩
  by_cases e : k = s
  · simp [e]
  · simp [e]
theorem SetIs.keep {W W' : World} {r : Nat} {S : List ByteArray} (h : SetIs W r S) (hk : Keeps W W') : SetIs W' r S := MapTo.keep h hk
theorem SetIs.lt {W : World} {r : Nat} {S : List ByteArray} (h : SetIs W r S) : r < W.heap.size := MapTo.lt h
theorem SetIs.made (W : World) : SetIs (W.alloc (.map #[] 0)) W.heap.size [] := MapTo.congr (MapTo.made W) (fun k => by simp)
theorem grown_trans {a b c : World} {row : Option Nat} (h : a.grownBy b row) (k : b.grownBy c row) : a.grownBy c row :=
  ⟨k.os.trans h.os, k.tape.trans h.tape, k.output.trans h.output, Nat.le_trans h.size k.size, fun i hi hne => (k.block i (Nat.lt_of_lt_of_le hi h.size) hne).trans (h.block i hi hne)⟩
theorem blk_map_ne {W : World} {b r : Nat} {v : Value} {off : Nat} (hb : W.cell? ⟨b, off, none⟩ = some v) {es : Array MapEntry} {cl : Nat} (hr : W.heap[r]? = some (.map es cl)) : b ≠ r := by
  rintro rfl
  simp [World.cell?, hr] at hb
theorem SetIs.ne {W : World} {b r off : Nat} {v : Value} {S : List ByteArray} (h : SetIs W r S) (hb : W.cell? ⟨b, off, none⟩ = some v) : b ≠ r := by
  obtain ⟨L, ⟨es, cl, hr, _⟩, _⟩ := h
  exact blk_map_ne hb hr
/-- What the test of one more label leaves. -/
def OnePost (S : List ByteArray) (s : ByteArray) (r : Nat) (W : World) (e : Ending) (W' : World) : Prop :=
  ∃ b, e = .returned (.bool b) ∧ b = (!labelF s || decide (s ∈ S)) ∧ W.grownBy W' (some r) ∧ (b = false → SetIs W' r (s :: S))
theorem one_post {S : List ByteArray} {s : ByteArray} {r : Nat} {W W' : World} {b : Bool} (h1 : b = (!labelF s || decide (s ∈ S))) (h2 : W.grownBy W' (some r)) (h3 : b = false → SetIs W' r (s :: S)) : OnePost S s r W (.returned (.bool b)) W' := ⟨b, rfl, h1, h2, h3⟩
set_option maxRecDepth 100000 in
theorem closure178 (s : ByteArray) (S : List ByteArray) (b r : Nat) (W : World) (hb : W.cell? ⟨b, 0, none⟩ = some (.map (some r))) (hS : SetIs W r S) (hs : s.size ≤ 9223372036854775807) :
    Calls Tryz.prog 178 #[.string s, .pointer (some ⟨b, 0, none⟩)] W (OnePost S s r W) := by
  have HS := Lib.hid hS
  have HBc := Lib.hid hb
  have HL := Lib.hid (label145 s W hs)
  clear hS hb
  obtain ⟨lb, hlb⟩ : ∃ x, labelF s = x := ⟨_, rfl⟩
  rw [hlb] at HL
  have HLB := Lib.hid hlb
  clear hlb
  cases lb
  · go_enter Tryz.func178, Tryz.ntmps178
    go_wp2_with (go_at_call 145; (with_reducible refine HL.out.mono ?_); rintro e w' ⟨rfl, hk⟩; have HK := Lib.hid hk; clear hk)
    go_ret
    exact one_post (by rw [HLB.out]; rfl) (grown_of_keeps HK.out _) (fun h => by cases h)
  · by_cases hm : s ∈ S
    · have hd : decide (s ∈ S) = true := by simpa using hm
      have HD := Lib.hid hd
      clear hd
      go_enter Tryz.func178, Tryz.ntmps178
      go_wp2_with (go_at_call 145; (with_reducible refine HL.out.mono ?_); rintro e w' ⟨rfl, hk⟩; have HK := Lib.hid hk; have c0 := cell_keep HBc.out hk; have lk := (HS.out.keep hk).has s; rw [HD.out] at lk; clear hk)
      go_ret
      exact one_post (by rw [HD.out]; simp) (grown_of_keeps HK.out _) (fun h => by cases h)
    · have hd : decide (s ∈ S) = false := by simpa using hm
      have HD := Lib.hid hd
      clear hd
      go_enter Tryz.func178, Tryz.ntmps178
      go_wp2_with (go_at_call 145; (with_reducible refine HL.out.mono ?_); rintro e w' ⟨rfl, hk⟩; have HK := Lib.hid hk; have c0 := cell_keep HBc.out hk; have S1 := HS.out.keep hk; have lk := S1.has s; rw [HD.out] at lk; obtain ⟨W2, hp, hs2, hg⟩ := S1.put s; have HS2 := Lib.hid hs2; have HG := Lib.hid hg; clear hk S1 hs2 hg)
      go_ret
      exact one_post (by rw [HD.out, HLB.out]; rfl) (grown_only HK.out HG.out) (fun _ => HS2.out)
end Go.Proofs.YthkmpegpmpdhaaaGreatDoor
