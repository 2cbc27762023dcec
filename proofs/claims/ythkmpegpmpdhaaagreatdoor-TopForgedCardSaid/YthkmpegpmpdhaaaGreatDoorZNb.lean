/- Part of the proof of TopOwnItem. Conditions: as stated in each theorem. -/
import Derived.Test.YthkmpegpmpdhaaaGreatDoorZW
import Derived.Test.YthkmpegpmpdhaaaGreatDoorProg
import Derived.WalkMore
import Derived.LoopN
import Derived.Lib.ConvBytes
import Derived.Maps.OwnIn
import Derived.Deep.LoopGhost
import Derived.RangeFuncNested
import Derived.RangeFuncCalls
import Derived.RangeFuncLeaves
import Derived.RangeFuncWrites
import Derived.Shelf.Abstract
import Derived.Shelf.RegionOpen
import Derived.OwnWalkIn
import Derived.TacticsInMore
import Derived.LoopNIn
import Derived.LoopIn
import Derived.RangeFuncBound
import Derived.WalkKit
import Derived.WalkSpells
import Derived.WalkLawsBesides
import Derived.Laws.EntriesVeiled
import Derived.ProofKit
import Derived.OpenShut
import Derived.Lib.Hide
import Derived.BigQuiet
import Derived.Deep.QuietTactic
import Derived.Deep.CutRange
import Derived.StillTailTactics
import Derived.Lib.SliceRun
import Derived.RangeFuncRecord
import Derived.Carry
import Derived.ChangeKeysEq
import Derived.Below
import Derived.Laws.OwnMore
import Derived.Deep.AppendLies
import Derived.Deep.Draws
import Derived.Laws.Rows
import Derived.Maps.AppendAt
import Derived.RegionTactic
import Derived.OwnWalk
import Derived.Deep.RegionHeld3
namespace Go.Proofs.YthkmpegpmpdhaaaGreatDoor
open Go.Shelf Go.ChangeShapes Go.WideShapes Go.ChangeAt Go.RowKit
set_option linter.unusedSimpArgs false
set_option linter.unusedVariables false
/-- The words that are no names. -/
def kwL : List ByteArray := [⟨#[99, 97, 108, 101, 110, 100, 97, 114]⟩, ⟨#[111, 112, 101, 114, 97, 116, 111, 114]⟩, ⟨#[111, 102, 102, 105, 99, 101]⟩, ⟨#[108, 105, 110, 101]⟩, ⟨#[99, 108, 97, 115, 115]⟩, ⟨#[122, 111, 110, 101]⟩, ⟨#[119, 101, 101, 107]⟩, ⟨#[104, 111, 108, 105, 100, 97, 121]⟩, ⟨#[112, 111, 99, 107, 101, 116, 115]⟩, ⟨#[112, 97, 115, 115, 101, 115]⟩, ⟨#[109, 105, 110, 117, 116, 101, 115]⟩, ⟨#[99, 111, 100, 101, 115]⟩, ⟨#[97, 116]⟩, ⟨#[116, 114, 97, 118, 101, 108]⟩, ⟨#[108, 111, 97, 100]⟩, ⟨#[99, 117, 116]⟩, ⟨#[100, 101, 108, 105, 118, 101, 114]⟩]
/-- The table of these words. -/
def Kw (w : World) : Prop := ∀ i s, kwL[i]? = some s → w.cell? ⟨2, i, none⟩ = some (.string s)
theorem Kw.keep {w w' : World} (h : Kw w) (hk : Keeps w w') : Kw w' := fun i s hi => cell_keep (h i s hi) hk
theorem under342 : Tryz.prog.underlying 342 = some (.array 17 9) := by kernel_rfl
theorem index_arr (cs : Array Value) (i : Nat) (s : ByteArray) (w : World) (hi : i < 17) (hc : cs[i]? = some (.string s)) (hn : cs.size = 17) : (Instr.index 342 (.agg cs) (.int .i64 (i : Int))).run Tryz.prog w = .ok (.string s) w := by
  have h1 : (0 : Int) ≤ (i : Int) ∧ (i : Int) < 17 := by omega
  have h2 : ∃ x, cs[i]? = some x ∧ x = .string s := ⟨_, hc, rfl⟩
  simp [Instr.index, run_underlying under342, asIntOf, h1, go_sem, Tryz.sizeOf9, part, Tryz.isAgg9, hc]
  intro h; omega
/-- The bytes of a text, in a row of their own. -/
theorem bytes_of (w : World) (s : ByteArray) : ∃ c W, (convert 9 236 (.string s)).run Tryz.prog w = .ok (.slice (some ⟨w.heap.size, 0, none⟩) s.size c) W ∧ Keeps w W ∧ ∀ j b, s.data[j]? = some b → W.cell? ⟨w.heap.size, j, none⟩ = some (.int .u8 (b.toNat : Int)) := by
  refine ⟨_, _, Lib.run_convert_string_bytes w 9 236 5 s Tryz.underlying9 Tryz.underlying236 Tryz.underlying5, ⟨rfl, rfl, rfl, by rw [Lib.bytesWorld_size]; omega, fun k hk => Lib.bytesWorld_at_old w 5 s k hk⟩, fun j b hj => ?_⟩
  have hlt := (Array.getElem?_eq_some_iff.1 hj).1
  rw [Lib.bytesWorld_cell w 5 s j hlt]
  have : s.data.toList.getD j 0 = b := by simp [List.getD, hj]
  rw [this]
theorem small274 (c : Int) (w : World) (h : 97 ≤ c ∧ c ≤ 122) : Calls Tryz.prog 274 #[.int .u8 c] w fun e w' => e = .returned (.bool true) ∧ w' = w := by
  have h1 := h.1
  have h2 := h.2
  go_enter Tryz.func274, Tryz.ntmps274
  go_wp2_with fail
  go_ret
  exact ⟨rfl, rfl⟩
def kwA : Array Value := #[.string ⟨#[99, 97, 108, 101, 110, 100, 97, 114]⟩, .string ⟨#[111, 112, 101, 114, 97, 116, 111, 114]⟩, .string ⟨#[111, 102, 102, 105, 99, 101]⟩, .string ⟨#[108, 105, 110, 101]⟩, .string ⟨#[99, 108, 97, 115, 115]⟩, .string ⟨#[122, 111, 110, 101]⟩, .string ⟨#[119, 101, 101, 107]⟩, .string ⟨#[104, 111, 108, 105, 100, 97, 121]⟩, .string ⟨#[112, 111, 99, 107, 101, 116, 115]⟩, .string ⟨#[112, 97, 115, 115, 101, 115]⟩, .string ⟨#[109, 105, 110, 117, 116, 101, 115]⟩, .string ⟨#[99, 111, 100, 101, 115]⟩, .string ⟨#[97, 116]⟩, .string ⟨#[116, 114, 97, 118, 101, 108]⟩, .string ⟨#[108, 111, 97, 100]⟩, .string ⟨#[99, 117, 116]⟩, .string ⟨#[100, 101, 108, 105, 118, 101, 114]⟩]
theorem kw_at (i : Nat) (s : ByteArray) (hs : kwL[i]? = some s) (w : World) : (Instr.index 342 (.agg kwA) (.int .i64 (i : Int))).run Tryz.prog w = .ok (.string s) w := by
  have hlt : i < 17 := (List.getElem?_eq_some_iff.1 hs).1
  refine index_arr kwA i s w hlt ?_ rfl
  have e : kwA = (kwL.map Value.string).toArray := rfl
  rw [e]
  simp [hs]
set_option maxRecDepth 100000 in
set_option maxHeartbeats 8000000 in
theorem isName240 (b : UInt8) (w : World) (hk : Kw w) (h : 97 ≤ b.toNat ∧ b.toNat ≤ 122) : Calls Tryz.prog 240 #[.string ⟨#[b]⟩] w (BoolPost true w) := by
  obtain ⟨c, W, hconv, hK, hcell⟩ := bytes_of w ⟨#[b]⟩
  have c0 := hcell 0 b rfl
  have e0 : ((⟨#[b]⟩ : ByteArray)[0]'(by show 0 < 1; decide)).toNat = b.toNat := rfl
  have hz : (⟨#[b]⟩ : ByteArray).size = 1 := rfl
  rw [hz] at hconv
  have hkW := hk.keep hK
  have k0 := hkW 0 _ rfl
  have k1 := hkW 1 _ rfl
  have k2 := hkW 2 _ rfl
  have k3 := hkW 3 _ rfl
  have k4 := hkW 4 _ rfl
  have k5 := hkW 5 _ rfl
  have k6 := hkW 6 _ rfl
  have k7 := hkW 7 _ rfl
  have k8 := hkW 8 _ rfl
  have k9 := hkW 9 _ rfl
  have k10 := hkW 10 _ rfl
  have k11 := hkW 11 _ rfl
  have k12 := hkW 12 _ rfl
  have k13 := hkW 13 _ rfl
  have k14 := hkW 14 _ rfl
  have k15 := hkW 15 _ rfl
  have k16 := hkW 16 _ rfl
  have HK := Lib.hid hK
  have HS := Lib.hid (fun X => small274 (b.toNat : Int) X (by omega))
  have HNE := Lib.hid (show ∀ (k : Nat) (s : ByteArray), kwL[k]? = some s → ((⟨#[b]⟩ : ByteArray) == s) = false from fun k s hs => by
    have h1 : ∀ s ∈ kwL, s.size ≠ 1 := by decide
    have h2 := h1 s (List.mem_of_getElem? hs)
    by_cases e : ((⟨#[b]⟩ : ByteArray) == s) = true
    · have e2 := (ba_beq _ _).1 e
      rw [← e2] at h2
      exact absurd rfl h2
    · simpa using e)
  clear hk hkW hK hcell
  go_enter Tryz.func240, Tryz.ntmps240
  go_wp2_with (go_at_call 274; (with_reducible refine (HS.out _).mono ?_); rintro e w1 ⟨rfl, rfl⟩)
  refine wp_loop_rounds 2 ?_
  rw [rounds_succ]
  go_wp2_with (go_at_call 274; (with_reducible refine (HS.out _).mono ?_); rintro e w1 ⟨rfl, rfl⟩)
  rw [rounds_succ]
  go_wp2_with fail
  generalize hA : (#[.string ⟨#[99, 97, 108, 101, 110, 100, 97, 114]⟩, .string ⟨#[111, 112, 101, 114, 97, 116, 111, 114]⟩, .string ⟨#[111, 102, 102, 105, 99, 101]⟩, .string ⟨#[108, 105, 110, 101]⟩, .string ⟨#[99, 108, 97, 115, 115]⟩, .string ⟨#[122, 111, 110, 101]⟩, .string ⟨#[119, 101, 101, 107]⟩, .string ⟨#[104, 111, 108, 105, 100, 97, 121]⟩, .string ⟨#[112, 111, 99, 107, 101, 116, 115]⟩, .string ⟨#[112, 97, 115, 115, 101, 115]⟩, .string ⟨#[109, 105, 110, 117, 116, 101, 115]⟩, .string ⟨#[99, 111, 100, 101, 115]⟩, .string ⟨#[97, 116]⟩, .string ⟨#[116, 114, 97, 118, 101, 108]⟩, .string ⟨#[108, 111, 97, 100]⟩, .string ⟨#[99, 117, 116]⟩, .string ⟨#[100, 101, 108, 105, 118, 101, 114]⟩] : Array Value) = KA
  have HA := Lib.hid (show KA = kwA from hA.symm)
  clear hA k0 k1 k2 k3 k4 k5 k6 k7 k8 k9 k10 k11 k12 k13 k14 k15 k16
  go_loopw [42] (fun i wx => ∃ k : Nat, k ≤ 17 ∧ i = .int .i64 (k : Int) ∧ wx = w1) (fun i _ => 17 - (intOf i).toNat)
  case atStart => exact ⟨0, by omega, rfl, rfl⟩
  case round =>
    obtain ⟨k, hk, rfl, rfl⟩ := hrel
    by_cases hk17 : k < 17
    · obtain ⟨s, hs⟩ : ∃ s, kwL[k]? = some s := ⟨_, List.getElem?_eq_getElem (by show k < 17; exact hk17)⟩
      have hx := fun X => kw_at k s hs X
      rw [← HA.out] at hx
      have hne : ([b] == s.toList) = false := by
        have h3 : ∀ s ∈ kwL, s.size ≠ 1 := by decide
        have h4 := h3 s (List.mem_of_getElem? hs)
        rw [ByteArray.toList_eq]
        by_cases e : [b] = s.data.toList
        · have h5 := congrArg List.length e
          simp only [List.length_cons, List.length_nil, Array.length_toList] at h5
          exact absurd h5.symm h4
        · simpa using e
      have hz1 : (k : Int) < 17 := by omega
      clear hs
      go_wp2_with fail
      go_roundw
      case rel => exact ⟨k + 1, by omega, by go_num, (by first | rfl | trivial)⟩
      case measure => simp [intOf]; omega
    · have hz1 : ¬ ((k : Int) < 17) := by omega
      go_wp2_with fail
      go_ret
      exact bool_post rfl HK.out
end Go.Proofs.YthkmpegpmpdhaaaGreatDoor
