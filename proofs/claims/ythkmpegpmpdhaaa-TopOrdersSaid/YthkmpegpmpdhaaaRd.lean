/- Part of the proofs of TopMoney and TopOrders. Conditions: as stated in each theorem. -/
import Derived.Test.YthkmpegpmpdhaaaFi
import Derived.Deep.CutRange
import Derived.StillTailTactics
import Derived.Lib.SliceRun
import Derived.RangeFuncRecord
import Derived.Carry
import Derived.ChangeKeysEq
import Derived.Shelf.SlSortCmp.Insertion1
import Derived.Shelf.Lay
import Derived.Ground.SlsfProg
import Derived.Sort.LotA
import Derived.Test.YthkmpegpmpdhaaaRows
import Derived.WalkKit
import Derived.WalkSpells
import Derived.WalkLawsBesides
import Derived.Laws.EntriesVeiled
import Derived.ProofKit
import Derived.OpenShut
import Derived.Lib.Hide
import Derived.BigQuiet
import Derived.Deep.QuietTactic
import Derived.Below
import Derived.Laws.OwnMore
import Derived.Deep.AppendLies
import Derived.Deep.Draws
import Derived.Laws.Rows
import Derived.Maps.AppendAt
import Derived.RegionTactic
import Derived.OwnWalk
import Derived.Deep.RegionHeld3
namespace Go.Proofs.Ythkmpegpmpdhaaa
open Go.Shelf Go.Sort Go.ChangeShapes Go.WideShapes Go.ChangeAt Go.RowKit
set_option linter.unusedSimpArgs false
set_option linter.unusedVariables false
theorem rows_atS {w : World} {B : Nat} {A : Option Addr} {d : List (List Int)} (h : NumRows w B A d) (hsq : ∀ r ∈ d, r.length = d.length) {i j : Nat} (hi : i < d.length) (hj : j < d.length) :
    ∃ b off A' c' b2 off2, A = some ⟨b, off, none⟩ ∧ b < B ∧ w.cell? ⟨b, off + i, none⟩ = some (.slice A' d.length (d.length + c')) ∧ A' = some ⟨b2, off2, none⟩ ∧ b2 < B ∧ w.cell? ⟨b2, off2 + j, none⟩ = some (.int .i64 (dist d (i : Int) (j : Int))) := by
  have hx := List.getElem?_eq_getElem hi
  obtain ⟨b, off, A', c', e, hlt, h0, h1⟩ := h _ _ hx
  have hl : d[i].length = d.length := hsq _ (List.getElem_mem hi)
  have hjn : j < d[i].length := by omega
  obtain ⟨b2, off2, e2, hlt2, h2⟩ := h1 _ _ (List.getElem?_eq_getElem hjn)
  rw [hl] at h0
  refine ⟨b, off, A', c', b2, off2, e, hlt, h0, e2, hlt2, ?_⟩
  have : dist d (i : Int) (j : Int) = d[i][j] := by
    unfold dist at0
    simp [List.getD_eq_getElem?_getD, hi, hjn]
  rw [this]; exact h2
theorem wallS (d : List (List Int)) {w : World} {B : Nat} {A : Option Addr} (h : NumRows w B A d) (hsq : ∀ r ∈ d, r.length = d.length) (hN : 0 < d.length) :
    ∃ (b o : Nat) (Zb Zo zc : Nat → Nat), A = some ⟨b, o, none⟩ ∧ ∀ W, Keeps w W → ∀ i, i < d.length → W.cell? ⟨b, o + i, none⟩ = some (.slice (some ⟨Zb i, Zo i, none⟩) d.length (d.length + zc i)) ∧ ∀ j, j < d.length → W.cell? ⟨Zb i, Zo i + j, none⟩ = some (.int .i64 (dist d (i : Int) (j : Int))) := by
  obtain ⟨b, o, _, _, _, _, rfl, hb, _⟩ := rows_atS h hsq hN hN
  have hex : ∀ i, ∃ p : Nat × Nat × Nat, i < d.length → w.cell? ⟨b, o + i, none⟩ = some (.slice (some ⟨p.1, p.2.1, none⟩) d.length (d.length + p.2.2)) ∧ ∀ j, j < d.length → w.cell? ⟨p.1, p.2.1 + j, none⟩ = some (.int .i64 (dist d (i : Int) (j : Int))) := by
    intro i
    by_cases hi : i < d.length
    · obtain ⟨b', o', A', c', b2, o2, e, hb', hc, hA, hb2, _⟩ := rows_atS h hsq hi hN
      cases e
      subst hA
      refine ⟨(b2, o2, c'), fun _ => ⟨hc, fun j hj => ?_⟩⟩
      obtain ⟨b'', o'', A'', c'', b3, o3, e, _, hc'', hA'', _, hx⟩ := rows_atS h hsq hi hj
      cases e
      subst hA''
      rw [hc''] at hc
      injection hc with hc
      injection hc with h1 h2 h3
      injection h1 with h1
      injection h1 with h1 h4
      subst h1 h4
      exact hx
    · exact ⟨(0, 0, 0), fun h => absurd h hi⟩
  obtain ⟨f, hf⟩ := Classical.axiomOfChoice hex
  exact ⟨b, o, fun i => (f i).1, fun i => (f i).2.1, fun i => (f i).2.2, rfl, fun W hk i hi => ⟨cell_keep (hf i hi).1 hk, fun j hj => cell_keep ((hf i hi).2 j hj) hk⟩⟩
/-- What the reference asks of one row, and of three offices. -/
def rowOk (d : List (List Int)) (i : Nat) : Prop := (∃ r, d[i]? = some r ∧ r.length = d.length) ∧ dist d (i : Int) (i : Int) = 0
def entOk (d : List (List Int)) (i k : Nat) : Prop := -1 ≤ dist d (i : Int) (k : Int) ∧ dist d (i : Int) (k : Int) ≤ 1000000
def triOk (d : List (List Int)) (i j k : Nat) : Prop := 0 ≤ dist d (i : Int) (k : Int) → 0 ≤ dist d (k : Int) (j : Int) → 0 ≤ dist d (i : Int) (j : Int) ∧ dist d (i : Int) (j : Int) ≤ dist d (i : Int) (k : Int) + dist d (k : Int) (j : Int)
theorem dist_of {d : List (List Int)} (h1 : ∀ i, i < d.length → rowOk d i ∧ ∀ k, k < d.length → entOk d i k) (h2 : ∀ i j k, i < d.length → j < d.length → k < d.length → triOk d i j k) : DistOk d := by
  have hn : ∀ {i : Int}, isOff d i → ∃ n : Nat, i = (n : Int) ∧ n < d.length := fun {i} h => ⟨i.toNat, by have := h.1; omega, by have := h.1; have := h.2; omega⟩
  refine ⟨fun r hr => ?_, fun i hi => ?_, fun i j hi hj => ?_, fun i k j hi hk hj a b => ?_⟩
  · obtain ⟨i, hi⟩ := List.getElem?_of_mem hr
    obtain ⟨⟨r', e, hl⟩, _⟩ := (h1 i (List.getElem?_eq_some_iff.1 hi).1).1
    rw [hi] at e
    cases e
    exact hl
  · obtain ⟨n, rfl, hl⟩ := hn hi
    exact (h1 n hl).1.2
  · obtain ⟨n, rfl, hl⟩ := hn hi
    obtain ⟨m, rfl, hm⟩ := hn hj
    exact (h1 n hl).2 m hm
  · obtain ⟨n, rfl, hl⟩ := hn hi
    obtain ⟨m, rfl, hm⟩ := hn hj
    obtain ⟨q, rfl, hq⟩ := hn hk
    exact h2 n m q hl hm hq a b
/-- A loop's counter, in an unchanged world, with what has been seen. -/
def CntP (N : Nat) (w : World) (Q : Nat → Prop) (c : Value) (wr : World) : Prop := ∃ i : Nat, i ≤ N ∧ c = .int .i64 (i : Int) ∧ wr = w ∧ ∀ p, p < i → Q p
def CntK (N : Nat) (w : World) (Q : Nat → Prop) (c : Value) (wr : World) : Prop := ∃ i : Nat, i ≤ N ∧ c = .int .i64 (i : Int) ∧ Keeps w wr ∧ ∀ p, p < i → Q p
theorem cnt_next {Q : Nat → Prop} {i : Nat} (h : ∀ p, p < i → Q p) (hi : Q i) : ∀ p, p < i + 1 → Q p := fun p hp => by
  rcases Nat.lt_or_ge p i with h2 | h2
  · exact h p h2
  · obtain rfl : p = i := by omega
    exact hi
def RDPost (d : List (List Int)) (w : World) (e : Ending) (w' : World) : Prop := ∃ b, e = .returned (.bool b) ∧ Keeps w w' ∧ (b = true → DistOk d)
theorem rd_no {d : List (List Int)} {w w' : World} (hk : Keeps w w') : RDPost d w (.returned (.bool false)) w' := ⟨false, rfl, hk, fun h => by cases h⟩
theorem rd_yes {d : List (List Int)} {w w' : World} (h : DistOk d) (hk : Keeps w w') : RDPost d w (.returned (.bool true)) w' := ⟨true, rfl, hk, fun _ => h⟩
set_option maxRecDepth 100000 in
set_option maxHeartbeats 8000000 in
theorem refDist_any (d : List (List Int)) (dA : Option Addr) (N dc : Nat) (w : World) (h : NumRows w w.heap.size dA d) (hN : Hid (N = d.length)) (hNm : N ≤ 1000000) :
    Calls Try.prog 35 #[.slice dA N dc] w (RDPost d w) := by
  have HD := Lib.hid h
  clear h
  by_cases h12 : 12 < N
  · have t1 : decide ((12 : Int) < (N : Int)) = true := by simp; omega
    have t1' : decide (12 < N) = true := by simp; omega
    go_enter Try.func35, Try.ntmps35
    go_wp2_with fail
    go_ret
    exact rd_no (Keeps.refl _)
  have t1 : decide ((12 : Int) < (N : Int)) = false := by simp; omega
  have t1' : decide (12 < N) = false := by simp; omega
  by_cases hN0 : N = 0
  · subst hN0
    have E := Lib.hid (dist_of (d := d) (fun i hi => absurd hi (by rw [← hN.out]; omega)) (fun i j k hi => absurd hi (by rw [← hN.out]; omega)))
    go_enter Try.func35, Try.ntmps35
    go_wp2_with fail
    go_loopw [4] (fun c wr => c = .int .i64 0 ∧ wr = w) (fun _ _ => 0)
    case atStart => exact ⟨rfl, rfl⟩
    case round =>
      obtain ⟨rfl, rfl⟩ := hrel
      go_wp2_with fail
      go_loopw [6] (fun c wq => c = .int .i64 0 ∧ wq = wr) (fun _ _ => 0)
      case atStart => exact ⟨rfl, rfl⟩
      case round =>
        obtain ⟨rfl, rfl⟩ := hrel
        go_wp2_with fail
        go_ret
        exact rd_yes E.out (Keeps.refl _)
  obtain ⟨b0, o0, _, _, rfl, _⟩ := HD.out 0 _ (List.getElem?_eq_getElem (by have := hN.out; omega))
  go_enter Try.func35, Try.ntmps35
  go_wp2_with fail
  go_loopw [4] (fun c wr => CntP N w (fun p => rowOk d p ∧ ∀ k, k < N → entOk d p k) c wr) (fun c _ => N - (intOf c).toNat)
  case atStart => exact ⟨0, by omega, rfl, rfl, fun p hp => absurd hp (by omega)⟩
  case round =>
    obtain ⟨i, hi, rfl, rfl, hq⟩ := hrel
    have HQ := Lib.hid hq
    clear hq
    by_cases hin : i < N
    · have hil : i < d.length := by have := hN.out; omega
      obtain ⟨r, hr⟩ : ∃ r, d[i]? = some r := ⟨_, List.getElem?_eq_getElem hil⟩
      obtain ⟨b, o, A', c', e, hb, c0, hnr⟩ := HD.out i r hr
      injection e with e
      injection e with e1 e2 e3
      subst e1 e2
      have ii : (i : Int) < (N : Int) := by omega
      have i0 : (0 : Int) ≤ (i : Int) := by omega
      have iw : IntKind.i64.wrap ((i : Int) + 1) = (i : Int) + 1 := wrap_in (by omega) (by omega)
      have HR := Lib.hid hr
      have hdd : ∀ (k : Nat) (x : Int), r[k]? = some x → dist d (i : Int) (k : Int) = x := fun k x hx => by
        unfold dist at0
        simp [List.getD_eq_getElem?_getD, hr, hx]
      have HDD := Lib.hid hdd
      clear hr hdd
      by_cases hl : r.length = N
      · rw [hl] at c0
        have t2 : ((N : Int) != (N : Int)) = false := by simp
        obtain ⟨x, hx⟩ : ∃ x, r[i]? = some x := ⟨_, List.getElem?_eq_getElem (by omega)⟩
        obtain ⟨b2, o2, rfl, hb2, ci⟩ := hnr i x hx
        have i01 : (0 : Int) ≤ (i : Int) ∧ (i : Int) < (N : Int) := ⟨i0, ii⟩
        have HX := Lib.hid (HDD.out i x hx)
        have HL := Lib.hid hl
        have HNR := Lib.hid hnr
        clear hnr hx hl
        by_cases hx0 : x = 0
        · have t3 : (x != 0) = false := by simp [hx0]
          have RO := Lib.hid (show rowOk d i from ⟨⟨r, HR.out, HL.out.trans hN.out⟩, HX.out.trans hx0⟩)
          clear hx0
          go_wp2_with fail
          go_loopw [5] (fun c wq => CntP N wr (fun k => entOk d i k) c wq) (fun c _ => N - (intOf c).toNat)
          case atStart => exact ⟨0, by omega, rfl, rfl, fun p hp => absurd hp (by omega)⟩
          case round =>
            obtain ⟨k, hk, rfl, rfl, hq2⟩ := hrel
            have HQ2 := Lib.hid hq2
            clear hq2
            by_cases hkn : k < N
            · obtain ⟨y, hy⟩ : ∃ y, r[k]? = some y := ⟨_, List.getElem?_eq_getElem (by rw [HL.out]; exact hkn)⟩
              obtain ⟨b3, o3, e, _, ck⟩ := HNR.out k y hy
              cases e
              have HY := Lib.hid (HDD.out k y hy)
              have ki : (k : Int) < (N : Int) := by omega
              have k0 : (0 : Int) ≤ (k : Int) := by omega
              have kw : IntKind.i64.wrap ((k : Int) + 1) = (k : Int) + 1 := wrap_in (by omega) (by omega)
              clear hy
              by_cases h1 : y < -1
              · have t4 : decide (y < -1) = true := by simpa using h1
                go_wp2_with fail
                go_ret
                exact rd_no (Keeps.refl _)
              · have t4 : decide (y < -1) = false := by simpa using h1
                by_cases h2 : 1000000 < y
                · have t5 : decide (1000000 < y) = true := by simpa using h2
                  go_wp2_with fail
                  go_ret
                  exact rd_no (Keeps.refl _)
                · have t5 : decide (1000000 < y) = false := by simpa using h2
                  have EK := Lib.hid (show entOk d i k by unfold entOk; rw [HY.out]; omega)
                  go_wp2_with fail
                  go_roundw
                  case rel => first | exact ⟨k + 1, by omega, by go_num, rfl, cnt_next HQ2.out EK.out⟩ | ((repeat apply Exists.intro); refine ⟨?_, ?_⟩; rotate_left; rfl; exact ⟨k + 1, by omega, by go_num, rfl, cnt_next HQ2.out EK.out⟩)
                  case measure => simp [intOf]; omega
            · have hke : k = N := by omega
              have AL := Lib.hid (show ∀ p, p < N → entOk d i p from fun p hp => HQ2.out p (by omega))
              go_wp2_with fail
              go_roundw
              case rel => first | exact ⟨i + 1, by omega, by go_num, rfl, cnt_next HQ.out ⟨RO.out, AL.out⟩⟩ | ((repeat apply Exists.intro); refine ⟨?_, ?_⟩; rotate_left; rfl; exact ⟨i + 1, by omega, by go_num, rfl, cnt_next HQ.out ⟨RO.out, AL.out⟩⟩)
              case measure => simp [intOf]; omega
        · have t3 : (x != 0) = true := by simpa using hx0
          go_wp2_with fail
          go_ret
          exact rd_no (Keeps.refl _)
      · have t2 : ((r.length : Int) != (N : Int)) = true := by simp; omega
        obtain ⟨q, hq⟩ : ∃ q, r.length = q := ⟨_, rfl⟩
        rw [hq] at c0 t2
        clear hq hnr hl
        go_wp2_with fail
        go_ret
        exact rd_no (Keeps.refl _)
    · have hie : i = N := by omega
      have hall : ∀ p, p < d.length → rowOk d p ∧ ∀ k, k < d.length → entOk d p k := fun p hp => by
        have h := HQ.out p (by have := hN.out; omega)
        rw [hN.out] at h
        exact h
      have HALL := Lib.hid hall
      have hsq : ∀ r ∈ d, r.length = d.length := fun r hr => by
        obtain ⟨p, hp⟩ := List.getElem?_of_mem hr
        obtain ⟨⟨r', e, hl⟩, _⟩ := (hall p (List.getElem?_eq_some_iff.1 hp).1).1
        rw [hp] at e
        cases e
        exact hl
      obtain ⟨b, o, Zb, Zo, zc, e, hrd⟩ := wallS d HD.out hsq (by have := hN.out; omega)
      injection e with e
      injection e with e1 e2 e3
      subst e1 e2
      rw [← hN.out] at hrd
      have HBD := Lib.hid (show ∀ i j : Nat, i < N → j < N → -1 ≤ dist d (i : Int) (j : Int) ∧ dist d (i : Int) (j : Int) ≤ 1000000 from fun i j hi hj => (hall i (by have := hN.out; omega)).2 j (by have := hN.out; omega))
      obtain ⟨D, hDD⟩ : ∃ D : Nat → Nat → Int, ∀ i j : Nat, dist d (i : Int) (j : Int) = D i j := ⟨fun i j => dist d (i : Int) (j : Int), fun _ _ => rfl⟩
      have HDD := Lib.hid hDD
      simp only [hDD] at hrd HBD
      have HRD := Lib.hid hrd
      clear hrd hall hsq hDD HQ hin
      go_wp2_with fail
      go_loopw [6] (fun c wq => CntK N wr (fun i => ∀ j k, j < N → k < N → triOk d i j k) c wq) (fun c _ => N - (intOf c).toNat)
      case atStart => exact ⟨0, by omega, rfl, Keeps.refl _, fun p hp => absurd hp (by omega)⟩
      case round =>
        obtain ⟨p, hp, rfl, hK, hq⟩ := hrel
        have HQ := Lib.hid hq; have K := Lib.hid hK
        clear hq hK
        by_cases hpn : p < N
        · have pi : (p : Int) < (N : Int) := by omega
          have p0 : (0 : Int) ≤ (p : Int) := by omega
          have p01 : (0 : Int) ≤ (p : Int) ∧ (p : Int) < (N : Int) := ⟨p0, pi⟩
          have pw : IntKind.i64.wrap ((p : Int) + 1) = (p : Int) + 1 := wrap_in (by omega) (by omega)
          go_wp2_with fail
          go_loopw [7] (fun c wq => CntK N _ (fun j => ∀ k, k < N → triOk d p j k) c wq) (fun c _ => N - (intOf c).toNat)
          case atStart => exact ⟨0, by omega, rfl, K.out, fun p hp => absurd hp (by omega)⟩
          case round =>
            clear K
            obtain ⟨j, hj, rfl, hK, hq⟩ := hrel
            have HQ2 := Lib.hid hq; have K := Lib.hid hK
            clear hq hK
            by_cases hjn : j < N
            · have ji : (j : Int) < (N : Int) := by omega
              have j0 : (0 : Int) ≤ (j : Int) := by omega
              have j01 : (0 : Int) ≤ (j : Int) ∧ (j : Int) < (N : Int) := ⟨j0, ji⟩
              have jw : IntKind.i64.wrap ((j : Int) + 1) = (j : Int) + 1 := wrap_in (by omega) (by omega)
              go_wp2_with fail
              go_loopw [8] (fun c wq => CntK N _ (fun k => triOk d p j k) c wq) (fun c _ => N - (intOf c).toNat)
              case atStart => exact ⟨0, by omega, rfl, K.out, fun p hp => absurd hp (by omega)⟩
              case round =>
                clear K
                obtain ⟨k, hk, rfl, hK, hq⟩ := hrel
                have HQ3 := Lib.hid hq; have K := Lib.hid hK
                clear hq
                by_cases hkn : k < N
                · have ki : (k : Int) < (N : Int) := by omega
                  have k0 : (0 : Int) ≤ (k : Int) := by omega
                  have k01 : (0 : Int) ≤ (k : Int) ∧ (k : Int) < (N : Int) := ⟨k0, ki⟩
                  have kw : IntKind.i64.wrap ((k : Int) + 1) = (k : Int) + 1 := wrap_in (by omega) (by omega)
                  obtain ⟨r0, hp1⟩ := HRD.out _ hK p hpn
                  have cpk := hp1 k hkn
                  have cpj := hp1 j hjn
                  obtain ⟨rk, hk1⟩ := HRD.out _ hK k hkn
                  have ckj := hk1 j hjn
                  clear hk1 hp1 hK
                  have b1 := HBD.out p k hpn hkn
                  have b2 := HBD.out k j hkn hjn
                  have hsw : IntKind.i64.wrap (D p k + D k j) = D p k + D k j := wrap_in (by omega) (by omega)
                  have HTR := Lib.hid (show triOk d p j k ↔ (0 ≤ D p k → 0 ≤ D k j → 0 ≤ D p j ∧ D p j ≤ D p k + D k j) by unfold triOk; rw [HDD.out, HDD.out, HDD.out])
                  clear b1 b2
                  by_cases h1 : 0 ≤ D p k
                  · have t4 : decide (0 ≤ D p k) = true := by simpa using h1
                    by_cases h2 : 0 ≤ D k j
                    · have t5 : decide (0 ≤ D k j) = true := by simpa using h2
                      by_cases h3 : D p j < 0
                      · have t6 : decide (D p j < 0) = true := by simpa using h3
                        go_wp2_with fail
                        go_quiet (fail)
                        go_wp2_with fail
                        go_ret
                        exact rd_no (K.out.drewN _)
                      · have t6 : decide (D p j < 0) = false := by simpa using h3
                        by_cases h4 : D p k + D k j < D p j
                        · have t7 : decide (D p k + D k j < D p j) = true := by simpa using h4
                          go_wp2_with fail
                          go_quiet (fail)
                          go_wp2_with fail
                          go_ret
                          exact rd_no (K.out.drewN _)
                        · have t7 : decide (D p k + D k j < D p j) = false := by simpa using h4
                          have TK := Lib.hid (HTR.out.2 (fun _ _ => ⟨by omega, by omega⟩))
                          go_wp2_with fail
                          go_quiet (fail)
                          go_wp2_with fail
                          go_roundw
                          case rel => first | exact ⟨k + 1, by omega, by go_num, K.out.drewN _, cnt_next HQ3.out TK.out⟩ | ((repeat apply Exists.intro); refine ⟨?_, ?_⟩; rotate_left; rfl; exact ⟨k + 1, by omega, by go_num, K.out.drewN _, cnt_next HQ3.out TK.out⟩)
                          case measure => simp [intOf]; omega
                    · have t5 : decide (0 ≤ D k j) = false := by simpa using h2
                      have TK := Lib.hid (HTR.out.2 (fun _ h => absurd h h2))
                      go_wp2_with fail
                      go_quiet (fail)
                      go_wp2_with fail
                      go_roundw
                      case rel => first | exact ⟨k + 1, by omega, by go_num, K.out.drewN _, cnt_next HQ3.out TK.out⟩ | ((repeat apply Exists.intro); refine ⟨?_, ?_⟩; rotate_left; rfl; exact ⟨k + 1, by omega, by go_num, K.out.drewN _, cnt_next HQ3.out TK.out⟩)
                      case measure => simp [intOf]; omega
                  · have t4 : decide (0 ≤ D p k) = false := by simpa using h1
                    have TK := Lib.hid (HTR.out.2 (fun h _ => absurd h h1))
                    go_wp2_with fail
                    go_quiet (fail)
                    go_wp2_with fail
                    go_roundw
                    case rel => first | exact ⟨k + 1, by omega, by go_num, K.out.drewN _, cnt_next HQ3.out TK.out⟩ | ((repeat apply Exists.intro); refine ⟨?_, ?_⟩; rotate_left; rfl; exact ⟨k + 1, by omega, by go_num, K.out.drewN _, cnt_next HQ3.out TK.out⟩)
                    case measure => simp [intOf]; omega
                · have AL := Lib.hid (show ∀ k', k' < N → triOk d p j k' from fun k' hk' => HQ3.out k' (by omega))
                  clear hK
                  go_wp2_with fail
                  go_roundw
                  case rel => first | exact ⟨j + 1, by omega, by go_num, K.out, cnt_next HQ2.out AL.out⟩ | ((repeat apply Exists.intro); refine ⟨?_, ?_⟩; rotate_left; rfl; exact ⟨j + 1, by omega, by go_num, K.out, cnt_next HQ2.out AL.out⟩)
                  case measure => simp [intOf]; omega
            · have AL := Lib.hid (show ∀ j' k', j' < N → k' < N → triOk d p j' k' from fun j' k' hj' hk' => HQ2.out j' (by omega) k' hk')
              go_wp2_with fail
              go_roundw
              case rel => first | exact ⟨p + 1, by omega, by go_num, K.out, cnt_next HQ.out AL.out⟩ | ((repeat apply Exists.intro); refine ⟨?_, ?_⟩; rotate_left; rfl; exact ⟨p + 1, by omega, by go_num, K.out, cnt_next HQ.out AL.out⟩)
              case measure => simp [intOf]; omega
        · have E := Lib.hid (dist_of HALL.out (fun i j k hi hj hk => HQ.out i (by have := hN.out; omega) j k (by have := hN.out; omega) (by have := hN.out; omega)))
          go_wp2_with fail
          go_ret
          exact rd_yes E.out K.out
end Go.Proofs.Ythkmpegpmpdhaaa
