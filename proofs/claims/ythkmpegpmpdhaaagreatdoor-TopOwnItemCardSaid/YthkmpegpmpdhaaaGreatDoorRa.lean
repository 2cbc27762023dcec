/- Part of the proof of TopOwnItem. Conditions: as stated in each theorem. -/
import Derived.Test.YthkmpegpmpdhaaaGreatDoorCf
import Derived.WalkMore
import Derived.Maps.OwnIn
import Derived.Deep.LoopGhost
import Derived.RangeFuncNested
import Derived.RangeFuncCalls
import Derived.RangeFuncLeaves
import Derived.RangeFuncWrites
import Derived.Shelf.Abstract
import Derived.Shelf.RegionOpen
import Derived.OwnWalkIn
import Derived.TacticsInMore
import Derived.LoopNIn
import Derived.LoopIn
import Derived.RangeFuncBound
import Derived.Test.YthkmpegpmpdhaaaGreatDoorProg
import Derived.WalkKit
import Derived.WalkSpells
import Derived.WalkLawsBesides
import Derived.Laws.EntriesVeiled
import Derived.ProofKit
import Derived.OpenShut
import Derived.Lib.Hide
import Derived.BigQuiet
import Derived.Deep.QuietTactic
import Derived.Deep.CutRange
import Derived.StillTailTactics
import Derived.Lib.SliceRun
import Derived.RangeFuncRecord
import Derived.Carry
import Derived.ChangeKeysEq
import Derived.Below
import Derived.Laws.OwnMore
import Derived.Deep.AppendLies
import Derived.Deep.Draws
import Derived.Laws.Rows
import Derived.Maps.AppendAt
import Derived.RegionTactic
import Derived.OwnWalk
import Derived.Deep.RegionHeld3
namespace Go.Proofs.YthkmpegpmpdhaaaGreatDoor
open Go.Shelf Go.ChangeShapes Go.WideShapes Go.ChangeAt Go.RowKit
set_option linter.unusedSimpArgs false
set_option linter.unusedVariables false
theorem mansF_snoc {rs : List Rec} {i : Nat} {x : Rec} (h : rs[i]? = some x) : mansF (rs.take (i + 1)) = mansF (rs.take i) + (if x.ki == 2 then 1 else 0) := by
  unfold mansF
  rw [take_snoc' h, List.filter_append, List.length_append]
  congr 1
  by_cases hk : x.ki == 2 <;> simp [hk]
theorem mansF_le (rs : List Rec) : mansF rs ≤ rs.length := by unfold mansF; exact List.length_filter_le _ _
structure FewP (l : List Scn) (rs : List Rec) : Prop where
  nl : l.length ≤ 30
  nr : rs.length ≤ 30
  mans : mansF rs ≤ 12
  con : ∀ x ∈ rs, x.con.length ≤ 45
  lab : ∀ x ∈ rs, x.lab.size ≤ 40
def FewPost (l : List Scn) (rs : List Rec) (w : World) (e : Ending) (w' : World) : Prop := (∃ b, e = .returned (.bool b) ∧ (b = true ↔ FewP l rs)) ∧ w' = w
set_option maxHeartbeats 1000000 in
set_option maxRecDepth 100000 in
theorem few26 (l : List Scn) (rs : List Rec) (lA rA : Option Addr) (n lc m rc : Nat) (w : World) (hn : Hid (n = l.length)) (hr : RecIn rcR w w.heap.size rA rs) (hm : Hid (m = rs.length)) (hmx : m ≤ 9223372036854775807) :
    Calls Tryz.prog 6 #[.slice lA n lc, .slice rA m rc] w (FewPost l rs w) := by
  have HR := Lib.hid hr
  clear hr
  go_enter Tryz.func6, Tryz.ntmps6
  go_wp2
  go_loopw [5, 6] (fun c i wx => ∃ k : Nat, k ≤ m ∧ i = .int .i64 (k : Int) ∧ c = .int .i64 (mansF (rs.take k) : Int) ∧ wx = w ∧ ∀ x ∈ rs.take k, x.con.length ≤ 45 ∧ x.lab.size ≤ 40) (fun c i _ => m - (intOf i).toNat)
  case atStart => exact ⟨0, by omega, rfl, rfl, rfl, fun x hx => by simp at hx⟩
  case round =>
    obtain ⟨k, hk, rfl, rfl, rfl, hall⟩ := hrel
    have hml := hm.out
    by_cases hkm : k < m
    · obtain ⟨x, hx⟩ : ∃ x, rs[k]? = some x := ⟨_, List.getElem?_eq_getElem (by omega)⟩
      have HMS := Lib.hid (mansF_snoc hx)
      have HMM := Lib.hid (List.mem_of_getElem? hx)
      have HTK := Lib.hid (take_snoc' hx)
      have hmk : mansF (rs.take k) ≤ k := Nat.le_trans (mansF_le _) (by rw [List.length_take]; exact Nat.min_le_left _ _)
      obtain ⟨b, o, rfl, hb, a0, a1, a2, a3, a4, a5⟩ := HR.out.rc hx
      obtain ⟨sc, nu, ki, ti, lab, con, xA, xc⟩ := x
      change World.cell? _ _ = some (.int .i64 ki) at a2
      change World.cell? _ _ = some (.string lab) at a4
      change World.cell? _ _ = some (.slice xA con.length xc) at a5
      clear a0 a1 a3
      obtain ⟨c, hc⟩ : ∃ c, mansF (rs.take k) = c := ⟨_, rfl⟩
      rw [hc] at hmk ⊢
      have HC := Lib.hid hc
      have km : (k : Int) < (m : Int) := by omega
      have k0 : (0 : Int) ≤ (k : Int) := by omega
      have kw : IntKind.i64.wrap ((k : Int) + 1) = (k : Int) + 1 := wrap_in (by omega) (by omega)
      have cw : IntKind.i64.wrap ((c : Int) + 1) = (c : Int) + 1 := wrap_in (by omega) (by omega)
      obtain ⟨q, hq⟩ : ∃ q, con.length = q := ⟨_, rfl⟩
      obtain ⟨s, hs⟩ : ∃ s, lab.size = s := ⟨_, rfl⟩
      have HQ := Lib.hid hq
      have HS := Lib.hid hs
      rw [hq] at a5
      have HALL := Lib.hid hall
      clear hx hc hq hall hml
      by_cases h45 : q ≤ 45
      · have d45 : decide ((45 : Int) < (q : Int)) = false := by simp; omega
        have d45' : decide (45 < q) = false := by simp; omega
        by_cases h40 : s ≤ 40
        · have d40 : decide ((40 : Int) < (s : Int)) = false := by simp; omega
          have d40' : decide (40 < s) = false := by simp; omega
          by_cases hk2 : ki = 2
          · subst hk2
            go_wp2_with fail
            go_roundw
            case rel =>
              refine ⟨k + 1, by omega, by go_num, ?_, (by first | rfl | trivial), fun y hy => ?_⟩
              · rw [HMS.out, HC.out]
                simp
              · rw [HTK.out] at hy
                rcases List.mem_append.1 hy with hy | hy
                · exact HALL.out y hy
                · rw [List.mem_singleton] at hy
                  subst hy
                  exact ⟨by rw [HQ.out]; exact h45, by rw [HS.out]; exact h40⟩
            case measure => simp [intOf]; omega
          · have hk2' : (ki == 2) = false := by simpa using hk2
            go_wp2_with fail
            go_roundw
            case rel =>
              refine ⟨k + 1, by omega, by go_num, ?_, (by first | rfl | trivial), fun y hy => ?_⟩
              · rw [HMS.out, HC.out]
                simp [hk2]
              · rw [HTK.out] at hy
                rcases List.mem_append.1 hy with hy | hy
                · exact HALL.out y hy
                · rw [List.mem_singleton] at hy
                  subst hy
                  exact ⟨by rw [HQ.out]; exact h45, by rw [HS.out]; exact h40⟩
            case measure => simp [intOf]; omega
        · have d40 : (40 : Int) < (s : Int) := by omega
          by_cases hk2 : ki = 2
          · subst hk2
            go_wp2_with fail
            go_ret
            exact ⟨⟨false, rfl, fun e => (by cases e), fun h => absurd (h.lab _ HMM.out) (by show ¬ lab.size ≤ 40; rw [HS.out]; exact h40)⟩, rfl⟩
          · have hk2' : (ki == 2) = false := by simpa using hk2
            go_wp2_with fail
            go_ret
            exact ⟨⟨false, rfl, fun e => (by cases e), fun h => absurd (h.lab _ HMM.out) (by show ¬ lab.size ≤ 40; rw [HS.out]; exact h40)⟩, rfl⟩
      · have d45 : (45 : Int) < (q : Int) := by omega
        by_cases hk2 : ki = 2
        · subst hk2
          go_wp2_with fail
          go_ret
          exact ⟨⟨false, rfl, fun e => (by cases e), fun h => absurd (h.con _ HMM.out) (by show ¬ con.length ≤ 45; rw [HQ.out]; exact h45)⟩, rfl⟩
        · have hk2' : (ki == 2) = false := by simpa using hk2
          go_wp2_with fail
          go_ret
          exact ⟨⟨false, rfl, fun e => (by cases e), fun h => absurd (h.con _ HMM.out) (by show ¬ con.length ≤ 45; rw [HQ.out]; exact h45)⟩, rfl⟩
    · have hall2 : rs.take k = rs := List.take_of_length_le (by omega)
      rw [hall2] at hall ⊢
      have HALL := Lib.hid hall
      obtain ⟨c, hc⟩ : ∃ c, mansF rs = c := ⟨_, rfl⟩
      rw [hc]
      have HC := Lib.hid hc
      have hkm' : ¬ ((k : Int) < (m : Int)) := by omega
      clear hall hc hall2 hml
      by_cases h1 : n ≤ 30
      · have d1 : (n : Int) ≤ 30 := by omega
        by_cases h2 : m ≤ 30
        · have d2 : (m : Int) ≤ 30 := by omega
          by_cases h3 : c ≤ 12
          · have d3 : (c : Int) ≤ 12 := by omega
            go_wp2_with fail
            go_ret
            exact ⟨⟨true, rfl, fun _ => ⟨by rw [← hn.out]; exact h1, by rw [← hm.out]; exact h2, by rw [HC.out]; exact h3, fun x hx => (HALL.out x hx).1, fun x hx => (HALL.out x hx).2⟩, fun _ => rfl⟩, rfl⟩
          · have d3 : decide ((c : Int) ≤ 12) = false := by simp; omega
            have d3' : decide (c ≤ 12) = false := by simp; omega
            go_wp2_with fail
            go_ret
            exact ⟨⟨false, rfl, fun e => (by cases e), fun h => absurd h.mans (by rw [HC.out]; exact h3)⟩, rfl⟩
        · have d2 : decide ((m : Int) ≤ 30) = false := by simp; omega
          have d2' : decide (m ≤ 30) = false := by simp; omega
          go_wp2_with fail
          go_ret
          exact ⟨⟨false, rfl, fun e => (by cases e), fun h => absurd h.nr (by rw [← hm.out]; exact h2)⟩, rfl⟩
      · have d1 : decide ((n : Int) ≤ 30) = false := by simp; omega
        have d1' : decide (n ≤ 30) = false := by simp; omega
        go_wp2_with fail
        go_ret
        exact ⟨⟨false, rfl, fun e => (by cases e), fun h => absurd h.nl (by rw [← hn.out]; exact h1)⟩, rfl⟩
theorem few26_yes (l : List Scn) (rs : List Rec) (lA rA : Option Addr) (n lc m rc : Nat) (w : World) (hn : Hid (n = l.length)) (hr : RecIn rcR w w.heap.size rA rs) (hm : Hid (m = rs.length)) (hmx : m ≤ 9223372036854775807) (h : FewP l rs) :
    Calls Tryz.prog 6 #[.slice lA n lc, .slice rA m rc] w fun e w' => e = .returned (.bool true) ∧ w = w' := by
  refine (few26 l rs lA rA n lc m rc w hn hr hm hmx).mono ?_
  rintro e w' ⟨⟨b, rfl, hb⟩, rfl⟩
  rw [hb.2 h]
  exact ⟨rfl, rfl⟩
theorem few26_no (l : List Scn) (rs : List Rec) (lA rA : Option Addr) (n lc m rc : Nat) (w : World) (hn : Hid (n = l.length)) (hr : RecIn rcR w w.heap.size rA rs) (hm : Hid (m = rs.length)) (hmx : m ≤ 9223372036854775807) (h : ¬ FewP l rs) :
    Calls Tryz.prog 6 #[.slice lA n lc, .slice rA m rc] w fun e w' => e = .returned (.bool false) ∧ w = w' := by
  refine (few26 l rs lA rA n lc m rc w hn hr hm hmx).mono ?_
  rintro e w' ⟨⟨b, rfl, hb⟩, rfl⟩
  cases b
  · exact ⟨rfl, rfl⟩
  · exact absurd (hb.1 rfl) h
theorem ba_tl (a b : ByteArray) : (a.toList == b.toList) = true ↔ a = b := by
  rw [beq_iff_eq]
  constructor
  · intro h
    rw [ByteArray.toList_eq, ByteArray.toList_eq] at h
    cases a; cases b
    simp only [ByteArray.mk.injEq]
    exact Array.ext' h
  · rintro rfl; rfl
theorem ba_ntl {a b : ByteArray} (h : a ≠ b) : (a.toList == b.toList) = false := by
  cases hb : a.toList == b.toList
  · rfl
  · exact absurd ((ba_tl a b).1 hb) h
def SealPost (rs : List Rec) (lab : ByteArray) (w : World) (e : Ending) (w' : World) : Prop := (∃ b, e = .returned (.bool b) ∧ (b = false ↔ ∀ y ∈ rs, ¬ (y.ki = 2 ∧ y.lab = lab))) ∧ w' = w
set_option maxHeartbeats 1000000 in
set_option maxRecDepth 100000 in
theorem sealing7 (rs : List Rec) (lab : ByteArray) (rA : Option Addr) (m rc : Nat) (w : World) (hr : RecIn rcR w w.heap.size rA rs) (hm : Hid (m = rs.length)) (hmx : m ≤ 9223372036854775807) :
    Calls Tryz.prog 7 #[.slice rA m rc, .string lab] w (SealPost rs lab w) := by
  have HR := Lib.hid hr
  clear hr
  go_enter Tryz.func7, Tryz.ntmps7
  go_wp2
  go_loopw [5] (fun i wx => ∃ k : Nat, k ≤ m ∧ i = .int .i64 (k : Int) ∧ wx = w ∧ ∀ y ∈ rs.take k, ¬ (y.ki = 2 ∧ y.lab = lab)) (fun i _ => m - (intOf i).toNat)
  case atStart => exact ⟨0, by omega, rfl, rfl, fun x hx => by simp at hx⟩
  case round =>
    obtain ⟨k, hk, rfl, rfl, hall⟩ := hrel
    have hml := hm.out
    by_cases hkm : k < m
    · obtain ⟨x, hx⟩ : ∃ x, rs[k]? = some x := ⟨_, List.getElem?_eq_getElem (by omega)⟩
      have HTK := Lib.hid (take_snoc' hx)
      have HMM := Lib.hid (List.mem_of_getElem? hx)
      obtain ⟨b, o, rfl, hb, a0, a1, a2, a3, a4, a5⟩ := HR.out.rc hx
      obtain ⟨sc, nu, ki, ti, xl, con, xA, xc⟩ := x
      change World.cell? _ _ = some (.int .i64 ki) at a2
      change World.cell? _ _ = some (.string xl) at a4
      clear a0 a1 a3 a5
      have km : (k : Int) < (m : Int) := by omega
      have k0 : (0 : Int) ≤ (k : Int) := by omega
      have kw : IntKind.i64.wrap ((k : Int) + 1) = (k : Int) + 1 := wrap_in (by omega) (by omega)
      have HALL := Lib.hid hall
      clear hx hall hml
      by_cases hk2 : ki = 2
      · subst hk2
        by_cases hl : xl = lab
        · subst hl
          have hl1 : (xl.toList == xl.toList) = true := (ba_tl _ _).2 rfl
          go_wp2_with fail
          go_ret
          exact ⟨⟨true, rfl, fun e => (by cases e), fun h => absurd ⟨rfl, rfl⟩ (h _ HMM.out)⟩, rfl⟩
        · have hl1 : (xl.toList == lab.toList) = false := ba_ntl hl
          go_wp2_with fail
          go_roundw
          case rel =>
            refine ⟨k + 1, by omega, by go_num, (by first | rfl | trivial), fun y hy => ?_⟩
            rw [HTK.out] at hy
            rcases List.mem_append.1 hy with hy | hy
            · exact HALL.out y hy
            · rw [List.mem_singleton] at hy
              subst hy
              exact fun h => hl h.2
          case measure => simp [intOf]; omega
      · have hk2' : (ki == 2) = false := by simpa using hk2
        have hk2'' : decide (ki = 2) = false := by simpa using hk2
        go_wp2_with fail
        go_roundw
        case rel =>
          refine ⟨k + 1, by omega, by go_num, (by first | rfl | trivial), fun y hy => ?_⟩
          rw [HTK.out] at hy
          rcases List.mem_append.1 hy with hy | hy
          · exact HALL.out y hy
          · rw [List.mem_singleton] at hy
            subst hy
            exact fun h => hk2 h.1
        case measure => simp [intOf]; omega
    · have hall2 : rs.take k = rs := List.take_of_length_le (by omega)
      rw [hall2] at hall
      have HALL := Lib.hid hall
      have hkm' : ¬ ((k : Int) < (m : Int)) := by omega
      clear hall hall2 hml
      go_wp2_with fail
      go_ret
      exact ⟨⟨false, rfl, fun _ => HALL.out, fun _ => rfl⟩, rfl⟩
structure FewE (evs : List Ev) (rows : List Rw) : Prop where
  nd : ∀ v ∈ evs, v.nd.length ≤ 8
  rl : ∀ r ∈ rows, r.l.length ≤ 8
  ne : evs.length ≤ 16
  nr : rows.length ≤ 20
def FewEPost (evs : List Ev) (rows : List Rw) (w : World) (e : Ending) (w' : World) : Prop := (∃ b, e = .returned (.bool b) ∧ (b = true ↔ FewE evs rows)) ∧ w' = w
set_option maxHeartbeats 1000000 in
set_option maxRecDepth 100000 in
theorem few10 (evs : List Ev) (rows : List Rw) (EA WA : Option Addr) (n ec m wc : Nat) (w : World) (he : RecIn evR w w.heap.size EA evs) (hn : Hid (n = evs.length)) (hr : RecIn rwR w w.heap.size WA rows) (hm : Hid (m = rows.length)) (hnx : n ≤ 9223372036854775807) (hmx : m ≤ 9223372036854775807) :
    Calls Tryz.prog 10 #[.slice EA n ec, .slice WA m wc] w (FewEPost evs rows w) := by
  have HE := Lib.hid he
  have HR := Lib.hid hr
  clear he hr
  go_enter Tryz.func10, Tryz.ntmps10
  go_wp2
  go_loopw [5] (fun i wx => ∃ k : Nat, k ≤ n ∧ i = .int .i64 (k : Int) ∧ wx = w ∧ ∀ v ∈ evs.take k, v.nd.length ≤ 8) (fun i _ => n - (intOf i).toNat)
  case atStart => exact ⟨0, by omega, rfl, rfl, fun x hx => by simp at hx⟩
  case round =>
    obtain ⟨k, hk, rfl, rfl, hall⟩ := hrel
    have hml := hn.out
    by_cases hkm : k < n
    · obtain ⟨x, hx⟩ : ∃ x, evs[k]? = some x := ⟨_, List.getElem?_eq_getElem (by omega)⟩
      have HTK := Lib.hid (take_snoc' hx)
      have HMM := Lib.hid (List.mem_of_getElem? hx)
      obtain ⟨b, o, rfl, hb, a0, a1, a2, a3⟩ := HE.out.ev hx
      obtain ⟨vo, vl, vh, nd, nA, nc⟩ := x
      change World.cell? _ _ = some (.slice nA nd.length nc) at a3
      clear a0 a1 a2
      have km : (k : Int) < (n : Int) := by omega
      have k0 : (0 : Int) ≤ (k : Int) := by omega
      have kw : IntKind.i64.wrap ((k : Int) + 1) = (k : Int) + 1 := wrap_in (by omega) (by omega)
      obtain ⟨q, hq⟩ : ∃ q, nd.length = q := ⟨_, rfl⟩
      have HQ := Lib.hid hq
      rw [hq] at a3
      have HALL := Lib.hid hall
      clear hx hall hml hq
      by_cases h8 : q ≤ 8
      · have d8 : decide ((8 : Int) < (q : Int)) = false := by simp; omega
        have d8' : decide (8 < q) = false := by simp; omega
        go_wp2_with fail
        go_roundw
        case rel =>
          refine ⟨k + 1, by omega, by go_num, (by first | rfl | trivial), fun y hy => ?_⟩
          rw [HTK.out] at hy
          rcases List.mem_append.1 hy with hy | hy
          · exact HALL.out y hy
          · rw [List.mem_singleton] at hy
            subst hy
            rw [HQ.out]
            exact h8
        case measure => simp [intOf]; omega
      · have d8 : (8 : Int) < (q : Int) := by omega
        go_wp2_with fail
        go_ret
        exact ⟨⟨false, rfl, fun e => (by cases e), fun h => absurd (h.nd _ HMM.out) (by show ¬ nd.length ≤ 8; rw [HQ.out]; exact h8)⟩, rfl⟩
    · have hall2 : evs.take k = evs := List.take_of_length_le (by omega)
      rw [hall2] at hall
      have HALL := Lib.hid hall
      have hkm' : ¬ ((k : Int) < (n : Int)) := by omega
      clear hall hall2 hml
      go_wp2_with fail
      go_loopw [6] (fun i wx => ∃ k : Nat, k ≤ m ∧ i = .int .i64 (k : Int) ∧ wx = wr ∧ ∀ v ∈ rows.take k, v.l.length ≤ 8) (fun i _ => m - (intOf i).toNat)
      case atStart => exact ⟨0, by omega, rfl, rfl, fun x hx => by simp at hx⟩
      case round =>
        obtain ⟨k, hk, rfl, rfl, hall⟩ := hrel
        have hml := hm.out
        by_cases hkm : k < m
        · obtain ⟨x, hx⟩ : ∃ x, rows[k]? = some x := ⟨_, List.getElem?_eq_getElem (by omega)⟩
          have HTK := Lib.hid (take_snoc' hx)
          have HMM := Lib.hid (List.mem_of_getElem? hx)
          obtain ⟨b, o, rfl, hb, a0⟩ := HR.out.rw_ hx
          obtain ⟨rl, rA, rcc⟩ := x
          change World.cell? _ _ = some (.slice rA rl.length rcc) at a0
          have km : (k : Int) < (m : Int) := by omega
          have k0 : (0 : Int) ≤ (k : Int) := by omega
          have kw : IntKind.i64.wrap ((k : Int) + 1) = (k : Int) + 1 := wrap_in (by omega) (by omega)
          obtain ⟨q, hq⟩ : ∃ q, rl.length = q := ⟨_, rfl⟩
          have HQ := Lib.hid hq
          rw [hq] at a0
          have HALL2 := Lib.hid hall
          clear hx hall hml hq
          by_cases h8 : q ≤ 8
          · have d8 : decide ((8 : Int) < (q : Int)) = false := by simp; omega
            have d8' : decide (8 < q) = false := by simp; omega
            go_wp2_with fail
            go_roundw
            case rel =>
              refine ⟨k + 1, by omega, by go_num, (by first | rfl | trivial), fun y hy => ?_⟩
              rw [HTK.out] at hy
              rcases List.mem_append.1 hy with hy | hy
              · exact HALL2.out y hy
              · rw [List.mem_singleton] at hy
                subst hy
                show rl.length ≤ 8
                rw [HQ.out]
                exact h8
            case measure => simp [intOf]; omega
          · have d8 : (8 : Int) < (q : Int) := by omega
            go_wp2_with fail
            go_ret
            exact ⟨⟨false, rfl, fun e => (by cases e), fun h => absurd (h.rl _ HMM.out) (by show ¬ rl.length ≤ 8; rw [HQ.out]; exact h8)⟩, rfl⟩
        · have hall2 : rows.take k = rows := List.take_of_length_le (by omega)
          rw [hall2] at hall
          have HALL2 := Lib.hid hall
          have hkm' : ¬ ((k : Int) < (m : Int)) := by omega
          clear hall hall2 hml
          by_cases h1 : n ≤ 16
          · have d1 : (n : Int) ≤ 16 := by omega
            by_cases h2 : m ≤ 20
            · have d2 : (m : Int) ≤ 20 := by omega
              go_wp2_with fail
              go_ret
              exact ⟨⟨true, rfl, fun _ => ⟨HALL.out, HALL2.out, by rw [← hn.out]; exact h1, by rw [← hm.out]; exact h2⟩, fun _ => rfl⟩, rfl⟩
            · have d2 : decide ((m : Int) ≤ 20) = false := by simp; omega
              have d2' : decide (m ≤ 20) = false := by simp; omega
              go_wp2_with fail
              go_ret
              exact ⟨⟨false, rfl, fun e => (by cases e), fun h => absurd h.nr (by rw [← hm.out]; exact h2)⟩, rfl⟩
          · have d1 : decide ((n : Int) ≤ 16) = false := by simp; omega
            have d1' : decide (n ≤ 16) = false := by simp; omega
            go_wp2_with fail
            go_ret
            exact ⟨⟨false, rfl, fun e => (by cases e), fun h => absurd h.ne (by rw [← hn.out]; exact h1)⟩, rfl⟩
theorem few10_yes (evs : List Ev) (rows : List Rw) (EA WA : Option Addr) (n ec m wc : Nat) (w : World) (he : RecIn evR w w.heap.size EA evs) (hn : Hid (n = evs.length)) (hr : RecIn rwR w w.heap.size WA rows) (hm : Hid (m = rows.length)) (hnx : n ≤ 9223372036854775807) (hmx : m ≤ 9223372036854775807) (h : FewE evs rows) :
    Calls Tryz.prog 10 #[.slice EA n ec, .slice WA m wc] w fun e w' => e = .returned (.bool true) ∧ w = w' := by
  refine (few10 evs rows EA WA n ec m wc w he hn hr hm hnx hmx).mono ?_
  rintro e w' ⟨⟨b, rfl, hb⟩, rfl⟩
  rw [hb.2 h]
  exact ⟨rfl, rfl⟩
theorem few10_no (evs : List Ev) (rows : List Rw) (EA WA : Option Addr) (n ec m wc : Nat) (w : World) (he : RecIn evR w w.heap.size EA evs) (hn : Hid (n = evs.length)) (hr : RecIn rwR w w.heap.size WA rows) (hm : Hid (m = rows.length)) (hnx : n ≤ 9223372036854775807) (hmx : m ≤ 9223372036854775807) (h : ¬ FewE evs rows) :
    Calls Tryz.prog 10 #[.slice EA n ec, .slice WA m wc] w fun e w' => e = .returned (.bool false) ∧ w = w' := by
  refine (few10 evs rows EA WA n ec m wc w he hn hr hm hnx hmx).mono ?_
  rintro e w' ⟨⟨b, rfl, hb⟩, rfl⟩
  cases b
  · exact ⟨rfl, rfl⟩
  · exact absurd (hb.1 rfl) h
theorem sealing7_no (rs : List Rec) (lab : ByteArray) (rA : Option Addr) (m rc : Nat) (w : World) (hr : RecIn rcR w w.heap.size rA rs) (hm : Hid (m = rs.length)) (hmx : m ≤ 9223372036854775807) (h : ∀ y ∈ rs, ¬ (y.ki = 2 ∧ y.lab = lab)) :
    Calls Tryz.prog 7 #[.slice rA m rc, .string lab] w fun e w' => e = .returned (.bool false) ∧ w = w' := by
  refine (sealing7 rs lab rA m rc w hr hm hmx).mono ?_
  rintro e w' ⟨⟨b, rfl, hb⟩, rfl⟩
  rw [hb.2 h]
  exact ⟨rfl, rfl⟩
theorem sealing7_yes (rs : List Rec) (lab : ByteArray) (rA : Option Addr) (m rc : Nat) (w : World) (hr : RecIn rcR w w.heap.size rA rs) (hm : Hid (m = rs.length)) (hmx : m ≤ 9223372036854775807) (h : ¬ ∀ y ∈ rs, ¬ (y.ki = 2 ∧ y.lab = lab)) :
    Calls Tryz.prog 7 #[.slice rA m rc, .string lab] w fun e w' => e = .returned (.bool true) ∧ w = w' := by
  refine (sealing7 rs lab rA m rc w hr hm hmx).mono ?_
  rintro e w' ⟨⟨b, rfl, hb⟩, rfl⟩
  cases b
  · exact absurd (hb.1 rfl) h
  · exact ⟨rfl, rfl⟩
set_option maxHeartbeats 2000000 in
set_option maxRecDepth 100000 in
theorem cmp26 (off lo hi : Int) (nd : List Int) (A B : Option Addr) (q c d : Nat) (w : World) (ha : RecIn intR w w.heap.size A nd) (hb : RecIn intR w w.heap.size B nd) (hq : Hid (q = nd.length)) (hlen : q ≤ 1000) :
    Calls Tryz.prog 26 #[.agg #[.int .i64 off, .int .i64 lo, .int .i64 hi, .slice A q c], .agg #[.int .i64 off, .int .i64 lo, .int .i64 hi, .slice B q d]] w fun e w' => e = .returned (.int .i64 0) ∧ Keeps w w' := by
  have HA := Lib.hid ha; have HB := Lib.hid hb
  have LE := Lib.hid (show [(q : Int), off, lo, hi].length + nd.length ≤ 1000000 by have := hq.out; simp; omega)
  have K2 := Lib.hid (((Keeps.refl w).alloc (.cells #[.int .i64 off, .int .i64 lo, .int .i64 hi, .slice A q c] 43)).alloc (.cells #[.int .i64 off, .int .i64 lo, .int .i64 hi, .slice B q d] 43))
  have B1 := Lib.hid ((Blk.new w 43 #[.int .i64 off, .int .i64 lo, .int .i64 hi, .slice A q c]).alloc (.cells #[.int .i64 off, .int .i64 lo, .int .i64 hi, .slice B q d] 43))
  have B2 := Lib.hid (show Blk ((w.alloc (.cells #[.int .i64 off, .int .i64 lo, .int .i64 hi, .slice A q c] 43)).alloc (.cells #[.int .i64 off, .int .i64 lo, .int .i64 hi, .slice B q d] 43)) (w.heap.size + 1) 43 #[.int .i64 off, .int .i64 lo, .int .i64 hi, .slice B q d] by have := Blk.new (w.alloc (.cells #[.int .i64 off, .int .i64 lo, .int .i64 hi, .slice A q c] 43)) 43 #[.int .i64 off, .int .i64 lo, .int .i64 hi, .slice B q d]; rwa [World.size_alloc] at this)
  clear ha hb
  go_enter Tryz.func26, Tryz.ntmps26
  go_upto_region 1 with fail
  generalize hw2 : (w.alloc (.cells #[.int .i64 off, .int .i64 lo, .int .i64 hi, .slice A q c] 43)).alloc (.cells #[.int .i64 off, .int .i64 lo, .int .i64 hi, .slice B q d] 43) = w2 at *
  clear hw2
  have x0 := cell_of_blk B1.out 0 (v := .int .i64 off) rfl
  have x1 := cell_of_blk B1.out 1 (v := .int .i64 lo) rfl
  have x2 := cell_of_blk B1.out 2 (v := .int .i64 hi) rfl
  have x3 := cell_of_blk B1.out 3 (v := .slice A q c) rfl
  have h1lt := B1.out.lt
  have O3 := Lib.hid (OwnR.litN (R := intR) (fun _ => rfl) (Keeps.refl w2) [(q : Int), off, lo, hi] #[.int .i64 (q : Int), .int .i64 off, .int .i64 lo, .int .i64 hi] rfl (by simp))
  have X3 := Lib.hid (HA.out.keep (K2.out.alloc (.cells #[.int .i64 (q : Int), .int .i64 off, .int .i64 lo, .int .i64 hi] 3)))
  go_upto_region 2 with (at_builtin; refine wpList_appR intOk (w0 := w2) rfl (.tmp 17) (.tmp 19) rfl _ [(q : Int), off, lo, hi] rfl O3.out _ _ _ nd rfl X3.out hq LE ?_; intro A4 n4 c4 w4 ho4 hg4; clear hg4; have O4 := Lib.hid ho4; clear ho4 O3 X3 x0 x1 x2 x3)
  have y0 := cell_keep (cell_of_blk B2.out 0 (v := .int .i64 off) rfl) O4.out.2
  have y1 := cell_keep (cell_of_blk B2.out 1 (v := .int .i64 lo) rfl) O4.out.2
  have y2 := cell_keep (cell_of_blk B2.out 2 (v := .int .i64 hi) rfl) O4.out.2
  have y3 := cell_keep (cell_of_blk B2.out 3 (v := .slice B q d) rfl) O4.out.2
  have h2lt : w.heap.size + 1 < w4.heap.size := Nat.lt_of_lt_of_le B2.out.lt O4.out.2.size
  have O5 := Lib.hid (OwnR.litN (R := intR) (fun _ => rfl) (Keeps.refl w4) [(q : Int), off, lo, hi] #[.int .i64 (q : Int), .int .i64 off, .int .i64 lo, .int .i64 hi] rfl (by simp))
  have X5 := Lib.hid (HB.out.keep ((K2.out.trans O4.out.2).alloc (.cells #[.int .i64 (q : Int), .int .i64 off, .int .i64 lo, .int .i64 hi] 3)))
  go_upto_region 3 with (at_builtin; refine wpList_appR intOk (w0 := w4) rfl (.tmp 30) (.tmp 32) rfl _ [(q : Int), off, lo, hi] rfl O5.out _ _ _ nd rfl X5.out hq LE ?_; intro A6 n6 c6 w6 ho6 hg6; clear hg6; have O6 := Lib.hid ho6; clear ho6 O5 X5 y0 y1 y2 y3)
  have n46 : n6 = n4 := by rw [own_lenR O6.out, own_lenR O4.out]
  subst n46
  have HN := Lib.hid (own_lenR O6.out)
  have R4 := Lib.hid ((O4.out.recs intOk).1.keep O6.out.2)
  have R6 := Lib.hid (O6.out.recs intOk).1
  have KK := Lib.hid (K2.out.trans (O4.out.2.trans O6.out.2))
  have hn6 : n6 ≤ 2000 := by have := HN.out; have := hq.out; simp at *; omega
  clear h1lt h2lt
  generalize hK : [(q : Int), off, lo, hi] ++ nd = kx at *
  clear hK
  go_wp2_with fail
  go_loopw [7] (fun i wx => ∃ k : Nat, k ≤ n6 ∧ i = .int .i64 (k : Int) ∧ Keeps w6 wx) (fun i _ => n6 - (intOf i).toNat)
  case atStart => exact ⟨0, by omega, rfl, Keeps.refl w6⟩
  case round =>
    obtain ⟨k, hk, rfl, hK⟩ := hrel
    have HK := Lib.hid hK
    clear hK
    have hnl := HN.out
    by_cases hkn : k < n6
    · obtain ⟨x, hx⟩ : ∃ x, kx[k]? = some x := ⟨_, List.getElem?_eq_getElem (by omega)⟩
      obtain ⟨b1, o1, rfl, hb1, c1⟩ := (R4.out.keep HK.out).int hx
      obtain ⟨b2, o2, rfl, hb2, c2⟩ := (R6.out.keep HK.out).int hx
      have kn : (k : Int) < (n6 : Int) := by omega
      have k0 : (0 : Int) ≤ (k : Int) := by omega
      have kw : IntKind.i64.wrap ((k : Int) + 1) = (k : Int) + 1 := wrap_in (by omega) (by omega)
      have hxx : decide (x < x) = false := by simp
      clear hx hnl
      go_upto_region 6 with fail
      go_quiet (fail)
      go_upto_region 8 with fail
      go_quiet (fail)
      go_wp2_with fail
      go_roundw
      case rel => exact ⟨k + 1, by omega, by go_num, HK.out.trans ((Keeps.refl wr).drewN _)⟩
      case measure => simp [intOf]; omega
    · have hkn' : ¬ ((k : Int) < (n6 : Int)) := by omega
      clear hnl
      go_wp2_with fail
      go_ret
      exact ⟨rfl, KK.out.trans HK.out⟩
set_option maxHeartbeats 2000000 in
set_option maxRecDepth 100000 in
theorem same9 (xs ys : List Ev) (A B : Option Addr) (n c d : Nat) (w : World) (hx : RecIn evR w w.heap.size A xs) (hy : RecIn evR w w.heap.size B ys) (hn : Hid (n = xs.length)) (hs : xs.map Ev.say = ys.map Ev.say)
    (ox : ∀ v ∈ xs, EvOk w w.heap.size v) (oy : ∀ v ∈ ys, EvOk w w.heap.size v) (hnx : n ≤ 9223372036854775807) :
    Calls Tryz.prog 9 #[.slice A n c, .slice B n d] w (BoolPost true w) := by
  have HX := Lib.hid hx; have HY := Lib.hid hy; have HS := Lib.hid hs; have OX := Lib.hid ox; have OY := Lib.hid oy
  clear hx hy hs ox oy
  go_enter Tryz.func9, Tryz.ntmps9
  go_wp2
  go_loopw [5] (fun i wx => ∃ k : Nat, k ≤ n ∧ i = .int .i64 (k : Int) ∧ Keeps w wx) (fun i _ => n - (intOf i).toNat)
  case atStart => exact ⟨0, by omega, rfl, Keeps.refl w⟩
  case round =>
    obtain ⟨k, hk, rfl, hK⟩ := hrel
    have HK := Lib.hid hK
    clear hK
    have hnl := hn.out
    by_cases hkn : k < n
    · obtain ⟨x, hx⟩ : ∃ x, xs[k]? = some x := ⟨_, List.getElem?_eq_getElem (by omega)⟩
      have hl : xs.length = ys.length := by have := congrArg List.length HS.out; simpa using this
      obtain ⟨y, hy⟩ : ∃ y, ys[k]? = some y := ⟨_, List.getElem?_eq_getElem (by omega)⟩
      have hxy : x.say = y.say := by
        have := congrArg (fun l => l[k]?) HS.out
        simpa [hx, hy] using this
      have EX := (OX.out x (List.mem_of_getElem? hx)).keep HK.out
      have EY := (OY.out y (List.mem_of_getElem? hy)).keep HK.out
      obtain ⟨xb, xo, rfl, hxb, a0, a1, a2, a3⟩ := (HX.out.keep HK.out).ev hx
      obtain ⟨yb, yo, rfl, hyb, b0, b1, b2, b3⟩ := (HY.out.keep HK.out).ev hy
      obtain ⟨vo, vl, vh, nd, nA, nc⟩ := x
      obtain ⟨uo, ul, uh, ud, uA, uc⟩ := y
      obtain ⟨rfl, rfl, rfl, rfl⟩ : vo = uo ∧ vl = ul ∧ vh = uh ∧ nd = ud := by
        unfold Ev.say at hxy
        injection hxy with e1 e2 e3 e4
        exact ⟨e1, e2, e3, e4⟩
      change World.cell? _ _ = some (.int .i64 vo) at a0
      change World.cell? _ _ = some (.int .i64 vl) at a1
      change World.cell? _ _ = some (.int .i64 vh) at a2
      change World.cell? _ _ = some (.slice nA nd.length nc) at a3
      change World.cell? _ _ = some (.int .i64 vo) at b0
      change World.cell? _ _ = some (.int .i64 vl) at b1
      change World.cell? _ _ = some (.int .i64 vh) at b2
      change World.cell? _ _ = some (.slice uA nd.length uc) at b3
      obtain ⟨q, hq⟩ : ∃ q, nd.length = q := ⟨_, rfl⟩
      have HQ := Lib.hid hq.symm
      have hq1 : q ≤ 1000 := by rw [← hq]; exact EX.len
      have HC := Lib.hid (fun X (hX : Keeps wr X) => cmp26 vo vl vh nd nA uA q nc uc X (EX.nd.keep hX) (EY.nd.keep hX) HQ hq1)
      rw [hq] at a3 b3
      have kn : (k : Int) < (n : Int) := by omega
      have k0 : (0 : Int) ≤ (k : Int) := by omega
      have kw : IntKind.i64.wrap ((k : Int) + 1) = (k : Int) + 1 := wrap_in (by omega) (by omega)
      clear hx hy hxy hq hnl hl EX EY
      have SOF := Lib.hid (show ∀ X, Keeps wr X → (fun w' => w'.cell? ⟨xb, xo + k * 4, none⟩ = some (.int .i64 vo) ∧ w'.cell? ⟨xb, xo + k * 4 + 1, none⟩ = some (.int .i64 vl) ∧ w'.cell? ⟨xb, xo + k * 4 + 2, none⟩ = some (.int .i64 vh) ∧ w'.cell? ⟨xb, xo + k * 4 + 3, none⟩ = some (.slice nA q nc) ∧ w'.cell? ⟨yb, yo + k * 4, none⟩ = some (.int .i64 vo) ∧ w'.cell? ⟨yb, yo + k * 4 + 1, none⟩ = some (.int .i64 vl) ∧ w'.cell? ⟨yb, yo + k * 4 + 2, none⟩ = some (.int .i64 vh) ∧ w'.cell? ⟨yb, yo + k * 4 + 3, none⟩ = some (.slice uA q uc) ∧ Keeps wr w') X from fun X hX => ⟨cell_keep a0 hX, cell_keep a1 hX, cell_keep a2 hX, cell_keep a3 hX, cell_keep b0 hX, cell_keep b1 hX, cell_keep b2 hX, cell_keep b3 hX, hX⟩)
      go_upto_region 6 with fail
      clear a0 a1 a2 a3 b0 b1 b2 b3
      go_region_held3 (fun w' => w'.cell? ⟨xb, xo + k * 4, none⟩ = some (.int .i64 vo) ∧ w'.cell? ⟨xb, xo + k * 4 + 1, none⟩ = some (.int .i64 vl) ∧ w'.cell? ⟨xb, xo + k * 4 + 2, none⟩ = some (.int .i64 vh) ∧ w'.cell? ⟨xb, xo + k * 4 + 3, none⟩ = some (.slice nA q nc) ∧ w'.cell? ⟨yb, yo + k * 4, none⟩ = some (.int .i64 vo) ∧ w'.cell? ⟨yb, yo + k * 4 + 1, none⟩ = some (.int .i64 vl) ∧ w'.cell? ⟨yb, yo + k * 4 + 2, none⟩ = some (.int .i64 vh) ∧ w'.cell? ⟨yb, yo + k * 4 + 3, none⟩ = some (.slice uA q uc) ∧ Keeps wr w') ((refine SOF.out _ ?_; (first | exact Keeps.refl _ | exact (Keeps.refl _).drew | assumption))) ((go_at_call 26; (with_reducible refine (HC.out wr.drew (Keeps.refl _).drew).mono ?_); rintro e w4 ⟨rfl, hk4'⟩; have hk4 : Keeps wr w4 := ((Keeps.refl wr).drew).trans hk4'; clear hk4'))
      rename_i hH
      have GH := Lib.hid (HK.out.trans hH.2.2.2.2.2.2.2.2)
      clear hH SOF HC
      go_wp2_with fail
      go_roundw
      case rel => exact ⟨k + 1, by omega, by go_num, GH.out⟩
      case measure => simp [intOf]; omega
    · have hkn' : ¬ ((k : Int) < (n : Int)) := by omega
      clear hnl
      go_wp2_with fail
      go_ret
      exact ⟨rfl, HK.out⟩
set_option maxHeartbeats 2000000 in
set_option maxRecDepth 100000 in
theorem same13 (xs : List Si) (A B : Option Addr) (n c d : Nat) (w : World) (hx : RecIn siR w w.heap.size A xs) (hy : RecIn siR w w.heap.size B xs) (hn : Hid (n = xs.length)) (hnx : n ≤ 9223372036854775807) :
    Calls Tryz.prog 13 #[.slice A n c, .slice B n d] w (BoolPost true w) := by
  have HX := Lib.hid hx; have HY := Lib.hid hy
  clear hx hy
  go_enter Tryz.func13, Tryz.ntmps13
  go_wp2
  go_loopw [5] (fun i wx => ∃ k : Nat, k ≤ n ∧ i = .int .i64 (k : Int) ∧ Keeps w wx) (fun i _ => n - (intOf i).toNat)
  case atStart => exact ⟨0, by omega, rfl, Keeps.refl w⟩
  case round =>
    obtain ⟨k, hk, rfl, hK⟩ := hrel
    have HK := Lib.hid hK
    clear hK
    have hnl := hn.out
    by_cases hkn : k < n
    · obtain ⟨x, hx⟩ : ∃ x, xs[k]? = some x := ⟨_, List.getElem?_eq_getElem (by omega)⟩
      obtain ⟨xb, xo, rfl, hxb, a0, a1, a2⟩ := (HX.out.keep HK.out).si hx
      obtain ⟨yb, yo, rfl, hyb, b0, b1, b2⟩ := (HY.out.keep HK.out).si hx
      obtain ⟨vo, vl, vh⟩ := x
      change World.cell? _ _ = some (.int .i64 vo) at a0
      change World.cell? _ _ = some (.int .i64 vl) at a1
      change World.cell? _ _ = some (.int .i64 vh) at a2
      change World.cell? _ _ = some (.int .i64 vo) at b0
      change World.cell? _ _ = some (.int .i64 vl) at b1
      change World.cell? _ _ = some (.int .i64 vh) at b2
      have heq : ∀ W, (Op.equalIn 10000 45 (.agg #[.int .i64 vo, .int .i64 vl, .int .i64 vh]) (.agg #[.int .i64 vo, .int .i64 vl, .int .i64 vh])).run Tryz.prog W = .ok true W := fun W => by rw [run_eq_si]; simp
      have kn : (k : Int) < (n : Int) := by omega
      have k0 : (0 : Int) ≤ (k : Int) := by omega
      have kw : IntKind.i64.wrap ((k : Int) + 1) = (k : Int) + 1 := wrap_in (by omega) (by omega)
      clear hx hnl
      go_upto_region 6 with fail
      go_quiet (fail)
      go_wp2_with fail
      go_roundw
      case rel => exact ⟨k + 1, by omega, by go_num, HK.out.trans ((Keeps.refl wr).drewN _)⟩
      case measure => simp [intOf]; omega
    · have hkn' : ¬ ((k : Int) < (n : Int)) := by omega
      clear hnl
      go_wp2_with fail
      go_ret
      exact ⟨rfl, HK.out⟩
end Go.Proofs.YthkmpegpmpdhaaaGreatDoor
