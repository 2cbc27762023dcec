/- Part of the proofs of TopMoney and TopOrders. Conditions: as stated in each theorem. -/
import Derived.Test.YthkmpegpmpdhaaaSp
import Derived.Deep.CutRange
import Derived.StillTailTactics
import Derived.Lib.SliceRun
import Derived.RangeFuncRecord
import Derived.Carry
import Derived.ChangeKeysEq
import Derived.Shelf.SlSortCmp.Insertion1
import Derived.Shelf.Lay
import Derived.Ground.SlsfProg
import Derived.Sort.LotA
import Derived.Test.YthkmpegpmpdhaaaRows
import Derived.WalkKit
import Derived.WalkSpells
import Derived.WalkLawsBesides
import Derived.Laws.EntriesVeiled
import Derived.ProofKit
import Derived.OpenShut
import Derived.Lib.Hide
import Derived.BigQuiet
import Derived.Deep.QuietTactic
import Derived.Below
import Derived.Laws.OwnMore
import Derived.Deep.AppendLies
import Derived.Deep.Draws
import Derived.Laws.Rows
import Derived.Maps.AppendAt
import Derived.RegionTactic
import Derived.OwnWalk
import Derived.Deep.RegionHeld3
namespace Go.Proofs.Ythkmpegpmpdhaaa
open Go.Shelf Go.Sort Go.ChangeShapes Go.WideShapes Go.ChangeAt Go.RowKit
set_option linter.unusedSimpArgs false
set_option linter.unusedVariables false
theorem wall (d : List (List Int)) {w : World} {B : Nat} {A : Option Addr} (h : NumRows w B A d) (hd : DistOk d) (hN : 0 < d.length) :
    ∃ (b o : Nat) (Zb Zo zc : Nat → Nat), A = some ⟨b, o, none⟩ ∧ b < B ∧ (∀ i, i < d.length → Zb i < B) ∧ ∀ W, Below B w W → ∀ i, i < d.length → W.cell? ⟨b, o + i, none⟩ = some (.slice (some ⟨Zb i, Zo i, none⟩) d.length (d.length + zc i)) ∧ ∀ j, j < d.length → W.cell? ⟨Zb i, Zo i + j, none⟩ = some (.int .i64 (dist d (i : Int) (j : Int))) := by
  have ho : ∀ i : Nat, i < d.length → isOff d (i : Int) := fun i hi => ⟨by omega, by omega⟩
  obtain ⟨b, o, _, _, _, _, rfl, hb, _⟩ := rows_at h hd (ho 0 hN) (ho 0 hN)
  have hex : ∀ i, ∃ p : Nat × Nat × Nat, i < d.length → p.1 < B ∧ w.cell? ⟨b, o + i, none⟩ = some (.slice (some ⟨p.1, p.2.1, none⟩) d.length (d.length + p.2.2)) ∧ ∀ j, j < d.length → w.cell? ⟨p.1, p.2.1 + j, none⟩ = some (.int .i64 (dist d (i : Int) (j : Int))) := by
    intro i
    by_cases hi : i < d.length
    · obtain ⟨b', o', A', c', b2, o2, e, hb', hc, hA, hb2, _⟩ := rows_at h hd (ho i hi) (ho 0 hN)
      cases e
      subst hA
      refine ⟨(b2, o2, c'), fun _ => ⟨hb2, hc, fun j hj => ?_⟩⟩
      obtain ⟨b'', o'', A'', c'', b3, o3, e, _, hc'', hA'', _, hx⟩ := rows_at h hd (ho i hi) (ho j hj)
      cases e
      subst hA''
      rw [hc''] at hc
      injection hc with hc
      injection hc with h1 h2 h3
      injection h1 with h1
      injection h1 with h1 h4
      subst h1 h4
      exact hx
    · exact ⟨(0, 0, 0), fun h => absurd h hi⟩
  obtain ⟨f, hf⟩ := Classical.axiomOfChoice hex
  exact ⟨b, o, fun i => (f i).1, fun i => (f i).2.1, fun i => (f i).2.2, rfl, hb, fun i hi => (hf i hi).1, fun W hk i hi => ⟨(Below.cell hk hb).trans (hf i hi).2.1, fun j hj => (Below.cell hk (hf i hi).1).trans ((hf i hi).2.2 j hj)⟩⟩
/-- A loop's counter, in an unchanged world. -/
def CntR (N : Nat) (w : World) (c : Value) (wr : World) : Prop := ∃ i : Nat, i ≤ N ∧ c = .int .i64 (i : Int) ∧ wr = w
theorem triN {d : List (List Int)} (hd : DistOk d) {i k j : Nat} (hi : i < d.length) (hk : k < d.length) (hj : j < d.length) (h1 : dist d (i : Int) (k : Int) ≠ -1) (h2 : dist d (k : Int) (j : Int) ≠ -1) : dist d (i : Int) (j : Int) ≠ -1 ∧ dist d (i : Int) (j : Int) ≤ dist d (i : Int) (k : Int) + dist d (k : Int) (j : Int) := by
  have oi : isOff d (i : Int) := ⟨by omega, by omega⟩
  have ok : isOff d (k : Int) := ⟨by omega, by omega⟩
  have oj : isOff d (j : Int) := ⟨by omega, by omega⟩
  have b1 := hd.bnd _ _ oi ok
  have b2 := hd.bnd _ _ ok oj
  have := hd.tri _ _ _ oi ok oj (by omega) (by omega)
  exact ⟨by omega, this.2⟩
set_option maxRecDepth 100000 in
set_option maxHeartbeats 4000000 in
theorem distances_any (d : List (List Int)) (dA : Option Addr) (N dc : Nat) (w : World) (h : NumRows w w.heap.size dA d) (hd : DistOk d) (hN : d.length = N) (hd12 : N ≤ 12) :
    Calls Try.prog 55 #[.slice dA N dc] w fun e w' => e = .returned (.bool true) ∧ w' = w := by
  have hF : 0 < N → ∃ (b o : Nat) (Zb Zo zc : Nat → Nat), dA = some ⟨b, o, none⟩ ∧ ∀ i, i < N → w.cell? ⟨b, o + i, none⟩ = some (.slice (some ⟨Zb i, Zo i, none⟩) N (N + zc i)) ∧ ∀ j, j < N → w.cell? ⟨Zb i, Zo i + j, none⟩ = some (.int .i64 (dist d (i : Int) (j : Int))) := fun hp => by
    obtain ⟨b, o, Zb, Zo, zc, e, _, _, hr⟩ := wall d h hd (by omega)
    rw [hN] at hr
    exact ⟨b, o, Zb, Zo, zc, e, hr w (Below.refl _ _)⟩
  have HB := Lib.hid (show ∀ i j : Nat, i < N → j < N → -1 ≤ dist d (i : Int) (j : Int) ∧ dist d (i : Int) (j : Int) ≤ 1000000 from fun i j hi hj => hd.bnd _ _ ⟨by omega, by omega⟩ ⟨by omega, by omega⟩)
  have HS := Lib.hid (show ∀ i : Nat, i < N → dist d (i : Int) (i : Int) = 0 from fun i hi => hd.self _ ⟨by omega, by omega⟩)
  have HT := Lib.hid (show ∀ i k j : Nat, i < N → k < N → j < N → dist d (i : Int) (k : Int) ≠ -1 → dist d (k : Int) (j : Int) ≠ -1 → dist d (i : Int) (j : Int) ≠ -1 ∧ dist d (i : Int) (j : Int) ≤ dist d (i : Int) (k : Int) + dist d (k : Int) (j : Int) from fun i k j hi hk hj => triN hd (by omega) (by omega) (by omega))
  generalize hDD : (fun i j : Nat => dist d (i : Int) (j : Int)) = D
  have e1 : ∀ i j : Nat, dist d (i : Int) (j : Int) = D i j := fun i j => by rw [← hDD]
  simp only [e1] at hF HB HS HT
  have HF := Lib.hid hF
  have nn : ((N : Int) != (N : Int)) = false := by simp
  clear hDD e1 h hd hN hF
  by_cases hN0 : N = 0
  · subst hN0
    go_enter Try.func55, Try.ntmps55
    go_wp2_with fail
    go_loopw [18] (fun c wr => c = .int .i64 0 ∧ wr = w) (fun _ _ => 0)
    case atStart => exact ⟨rfl, rfl⟩
    case round =>
      obtain ⟨rfl, rfl⟩ := hrel
      go_wp2_with fail
      go_loopw [51] (fun c wq => c = .int .i64 0 ∧ wq = wr) (fun _ _ => 0)
      case atStart => exact ⟨rfl, rfl⟩
      case round =>
        obtain ⟨rfl, rfl⟩ := hrel
        go_wp2_with fail
        go_ret
        exact ⟨rfl, rfl⟩
  obtain ⟨b, o, Zb, Zo, zc, rfl, hr⟩ := HF.out (by omega)
  have HR := Lib.hid hr
  clear hr HF
  go_enter Try.func55, Try.ntmps55
  go_wp2_with fail
  go_loopw [3, 4, 18] (fun _ _ c wr => CntR N w c wr) (fun _ _ c _ => N - (intOf c).toNat)
  case atStart => exact ⟨0, by omega, rfl, rfl⟩
  case round =>
    obtain ⟨i, hi, rfl, rfl⟩ := hrel
    by_cases hin : i < N
    · obtain ⟨c0, c1⟩ := HR.out i hin
      have ci := c1 i hin
      have b0 := HS.out i hin
      rw [b0] at ci
      have ii : (i : Int) < (N : Int) := by omega
      have i0 : (0 : Int) ≤ (i : Int) := by omega
      have i01 : (0 : Int) ≤ (i : Int) ∧ (i : Int) < (N : Int) := ⟨i0, ii⟩
      have iw : IntKind.i64.wrap ((i : Int) + 1) = (i : Int) + 1 := wrap_in (by omega) (by omega)
      have C1 := Lib.hid c1
      clear c1 b0
      go_wp2_with fail
      go_loopw [6, 37] (fun _ c wq => CntR N wr c wq) (fun _ c _ => N - (intOf c).toNat)
      case atStart => exact ⟨0, by omega, rfl, rfl⟩
      case round =>
        obtain ⟨j, hj, rfl, rfl⟩ := hrel
        by_cases hjn : j < N
        · have cj := C1.out j hjn
          have bj := HB.out i j hin hjn
          have ji : (j : Int) < (N : Int) := by omega
          have j0 : (0 : Int) ≤ (j : Int) := by omega
          have jw : IntKind.i64.wrap ((j : Int) + 1) = (j : Int) + 1 := wrap_in (by omega) (by omega)
          have t1 : decide (D i j < -1) = false := by simp; omega
          have t2 : decide (1000000 < D i j) = false := by simp; omega
          go_wp2_with fail
          go_roundw
          case rel => first | exact ⟨j + 1, by omega, by go_num, rfl⟩ | ((repeat apply Exists.intro); refine ⟨?_, ?_⟩; rotate_left; rfl; exact ⟨j + 1, by omega, by go_num, rfl⟩)
          case measure => simp [intOf]; omega
        · have hje : j = N := by omega
          subst hje
          go_wp2_with fail
          go_roundw
          case rel => first | exact ⟨i + 1, by omega, by go_num, rfl⟩ | ((repeat apply Exists.intro); refine ⟨?_, ?_⟩; rotate_left; rfl; exact ⟨i + 1, by omega, by go_num, rfl⟩)
          case measure => simp [intOf]; omega
    · have hie : i = N := by omega
      subst hie
      go_wp2_with fail
      go_loopw [7, 8, 51] (fun _ _ c wq => CntR i wr c wq) (fun _ _ c _ => i - (intOf c).toNat)
      case atStart => exact ⟨0, by omega, rfl, rfl⟩
      case round =>
        obtain ⟨p, hp, rfl, rfl⟩ := hrel
        by_cases hpn : p < i
        · obtain ⟨c0, c1⟩ := HR.out p hpn
          have ii : (p : Int) < (i : Int) := by omega
          have i0 : (0 : Int) ≤ (p : Int) := by omega
          have iw : IntKind.i64.wrap ((p : Int) + 1) = (p : Int) + 1 := wrap_in (by omega) (by omega)
          have C1 := Lib.hid c1
          clear c1
          go_wp2_with fail
          go_loopw [9, 10, 58] (fun _ _ c wq => CntR i wr c wq) (fun _ _ c _ => i - (intOf c).toNat)
          case atStart => exact ⟨0, by omega, rfl, rfl⟩
          case round =>
            obtain ⟨q, hq, rfl, rfl⟩ := hrel
            by_cases hqn : q < i
            · have cq := C1.out q hqn
              have qi : (q : Int) < (i : Int) := by omega
              have q0 : (0 : Int) ≤ (q : Int) := by omega
              have q01 : (0 : Int) ≤ (q : Int) ∧ (q : Int) < (i : Int) := ⟨q0, qi⟩
              have qw : IntKind.i64.wrap ((q : Int) + 1) = (q : Int) + 1 := wrap_in (by omega) (by omega)
              have bq := HB.out p q hpn hqn
              by_cases h1 : D p q = -1
              · have t1 : (D p q == -1) = true := by simp [h1]
                clear h1
                go_wp2_with fail
                go_roundw
                case rel => first | exact ⟨q + 1, by omega, by go_num, rfl⟩ | ((repeat apply Exists.intro); refine ⟨?_, ?_⟩; rotate_left; rfl; exact ⟨q + 1, by omega, by go_num, rfl⟩)
                case measure => simp [intOf]; omega
              · have t1 : (D p q == -1) = false := by simpa using h1
                by_cases h2 : p = q
                · have t2 : ((p : Int) == (q : Int)) = true := by simp [h2]
                  clear h2
                  go_wp2_with fail
                  go_roundw
                  case rel => first | exact ⟨q + 1, by omega, by go_num, rfl⟩ | ((repeat apply Exists.intro); refine ⟨?_, ?_⟩; rotate_left; rfl; exact ⟨q + 1, by omega, by go_num, rfl⟩)
                  case measure => simp [intOf]; omega
                · have t2 : ((p : Int) == (q : Int)) = false := by simp; omega
                  obtain ⟨k0, k1⟩ := HR.out q hqn
                  have C2 := Lib.hid k1
                  clear k1
                  go_wp2_with fail
                  go_loopw [11, 12, 75] (fun _ _ c wq => CntR i wr c wq) (fun _ _ c _ => i - (intOf c).toNat)
                  case atStart => exact ⟨0, by omega, rfl, rfl⟩
                  case round =>
                    obtain ⟨j, hj, rfl, rfl⟩ := hrel
                    by_cases hjn : j < i
                    · have cj := C2.out j hjn
                      have cpj := C1.out j hjn
                      have ji : (j : Int) < (i : Int) := by omega
                      have j0 : (0 : Int) ≤ (j : Int) := by omega
                      have j01 : (0 : Int) ≤ (j : Int) ∧ (j : Int) < (i : Int) := ⟨j0, ji⟩
                      have jw : IntKind.i64.wrap ((j : Int) + 1) = (j : Int) + 1 := wrap_in (by omega) (by omega)
                      have bj := HB.out q j hqn hjn
                      have hsw : IntKind.i64.wrap (D p q + D q j) = D p q + D q j := wrap_in (by omega) (by omega)
                      by_cases h3 : D q j = -1
                      · have t3 : (D q j != -1) = false := by simp [h3]
                        clear h3
                        go_wp2_with fail
                        go_roundw
                        case rel => first | exact ⟨j + 1, by omega, by go_num, rfl⟩ | ((repeat apply Exists.intro); refine ⟨?_, ?_⟩; rotate_left; rfl; exact ⟨j + 1, by omega, by go_num, rfl⟩)
                        case measure => simp [intOf]; omega
                      · have t3 : (D q j != -1) = true := by simpa using h3
                        obtain ⟨h4, h5⟩ := HT.out p q j hpn hqn hjn h1 h3
                        have t4 : (D p j == -1) = false := by simpa using h4
                        have t5 : decide (D p q + D q j < D p j) = false := by simp; omega
                        go_wp2_with fail
                        go_roundw
                        case rel => first | exact ⟨j + 1, by omega, by go_num, rfl⟩ | ((repeat apply Exists.intro); refine ⟨?_, ?_⟩; rotate_left; rfl; exact ⟨j + 1, by omega, by go_num, rfl⟩)
                        case measure => simp [intOf]; omega
                    · go_wp2_with fail
                      go_roundw
                      case rel => first | exact ⟨q + 1, by omega, by go_num, rfl⟩ | ((repeat apply Exists.intro); refine ⟨?_, ?_⟩; rotate_left; rfl; exact ⟨q + 1, by omega, by go_num, rfl⟩)
                      case measure => simp [intOf]; omega
            · go_wp2_with fail
              go_roundw
              case rel => first | exact ⟨p + 1, by omega, by go_num, rfl⟩ | ((repeat apply Exists.intro); refine ⟨?_, ?_⟩; rotate_left; rfl; exact ⟨p + 1, by omega, by go_num, rfl⟩)
              case measure => simp [intOf]; omega
        · go_wp2_with fail
          go_ret
          exact ⟨rfl, rfl⟩
end Go.Proofs.Ythkmpegpmpdhaaa
