/- Part of the proofs of TopMoney and TopOrders. Conditions: as stated in each theorem. -/
import Derived.Test.YthkmpegpmpdhaaaR
import Derived.Test.YthkmpegpmpdhaaaJ
import Derived.Deep.LoopGhost
import Derived.Deep.CutRange
import Derived.StillTailTactics
import Derived.Lib.SliceRun
import Derived.RangeFuncRecord
import Derived.Carry
import Derived.ChangeKeysEq
import Derived.RangeFuncNested
import Derived.RangeFuncCalls
import Derived.RangeFuncLeaves
import Derived.RangeFuncWrites
import Derived.Shelf.Abstract
import Derived.Shelf.RegionOpen
import Derived.OwnWalkIn
import Derived.TacticsInMore
import Derived.LoopNIn
import Derived.LoopIn
import Derived.RangeFuncBound
import Derived.Test.YthkmpegpmpdhaaaRows
import Derived.WalkKit
import Derived.WalkSpells
import Derived.WalkLawsBesides
import Derived.Laws.EntriesVeiled
import Derived.ProofKit
import Derived.OpenShut
import Derived.Lib.Hide
import Derived.BigQuiet
import Derived.Deep.QuietTactic
import Derived.Below
import Derived.Laws.OwnMore
import Derived.Deep.AppendLies
import Derived.Deep.Draws
import Derived.Laws.Rows
import Derived.Maps.AppendAt
import Derived.RegionTactic
import Derived.OwnWalk
import Derived.Deep.RegionHeld3
namespace Go.Proofs.Ythkmpegpmpdhaaa
open Go.Shelf Go.ChangeShapes Go.WideShapes Go.ChangeAt Go.RowKit
set_option linter.unusedSimpArgs false
set_option linter.unusedVariables false
theorem recCells_int (l : List Int) : recCells intR l = l.map (Value.int .i64) := by
  induction l with
  | nil => rfl
  | cons x l ih => rw [recCells_cons, ih]; rfl
def intArr (l : List Int) : Array Value := (l.map (Value.int .i64)).toArray
theorem intArr_at {l : List Int} {i : Nat} (h : i < l.length) : (intArr l)[i]? = some (.int .i64 (at0 l i)) := by
  unfold intArr
  rw [List.getElem?_toArray, List.getElem?_map, get_at0 h]; rfl
theorem intArr_set (l : List Int) (i : Nat) (y : Int) : (intArr l).setIfInBounds i (.int .i64 y) = intArr (l.set i y) := by
  unfold intArr
  rw [List.setIfInBounds_toArray, List.map_set]
theorem blk_of_own {w0 w : World} {g n : Nat} {l : List Int} (h : OwnR intR w0 w (.slice (some ⟨g, 0, none⟩) n n) l) : Blk w g 3 (intArr l) := by
  have hn := own_len h
  subst hn
  obtain ⟨hlen, hh⟩ := h.1
  rcases hh with ⟨e, _⟩ | ⟨g', cap', cur, e, hb, hg, hnc, hcm, hcs, htake⟩
  · cases e
  injection e with e1 e2 e3
  injection e1 with e1
  injection e1 with e1
  subst e1 e3
  have hc : cur = intArr l := by
    rw [List.take_of_length_le (by simp [hcs])] at htake
    rw [recCells_int] at htake
    rw [← Array.toList_inj, htake]; simp [intArr]
  rw [← hc]
  exact hg
set_option maxRecDepth 100000 in
set_option maxHeartbeats 4000000 in
theorem settle_in (n : Nat) (d0 : List Int) (N dv b1 b2 : Nat) (M : Int) (ref : ByteArray) (w : World) (hd : Blk w dv 3 (intArr d0)) (hN : Hid (N = d0.length)) (hN1 : 1 ≤ N) (hN2 : N ≤ 1000) (h1 : Blk w b1 28 #[.slice (some ⟨dv, 0, none⟩) N N]) (h2 : Blk w b2 9 #[.string ref]) (hs : sumL d0 = 0) (hM : 0 ≤ M ∧ M ≤ 1000000000) (hb : ∀ k, k < d0.length → -M ≤ at0 d0 k ∧ at0 d0 k ≤ M) :
    SeqR Fence.wide n Try.prog 54 #[.pointer (some ⟨b1, 0, none⟩), .pointer (some ⟨b2, 0, none⟩)] (fun p : Mv => #[.agg #[.int .i64 (p.f : Int), .int .i64 (p.t : Int), .int .i64 p.a, .string ref]]) dv (fun k => k = dv ∨ k = b1 ∨ k = b2)
      (fun p => p.f < N ∧ p.t < N ∧ p.f ≠ p.t ∧ 1 ≤ p.a ∧ p.a ≤ M) (fun ts => NetIs d0 ts M) 1000 w := by
  intro lo J W hW hJ hY h0
  have e1 : dv ≠ b1 := hd.ne_ h1 (by decide)
  have e2 : dv ≠ b2 := hd.ne_ h2 (by decide)
  have e3 : b1 ≠ b2 := h1.ne_ h2 (by decide)
  have hd' := hd.below hW hd.lt
  have h1' := h1.below hW h1.lt
  have h2' := h2.below hW h2.lt
  refine callsIn_of_wp Try.func54 rfl trivial ?_ rfl
  simp only [Try.ntmps54, List.size_toArray, List.length_cons, List.length_nil, Nat.reduceAdd, Nat.reduceSub, Array.replicate_succ, Array.replicate_zero, List.push_toArray, List.append_toArray, List.nil_append, List.cons_append]
  gi_wp2
  obtain ⟨R, hR⟩ : ∃ R : Nat → Value → Value → World → Prop, R = fun m a b wr => ∃ (i j : Nat) (cur : List Int) (ps : List Mv), a = .int .i64 (i : Int) ∧ b = .int .i64 (j : Int) ∧ i ≤ N ∧ j ≤ N ∧ (∀ k, k < i → 0 ≤ at0 cur k) ∧ (∀ k, k < j → at0 cur k ≤ 0) ∧ Run d0 cur ps M ∧ m = nz cur ∧ J ps wr ∧ Blk wr dv 3 (intArr cur) ∧ Blk wr b1 28 #[.slice (some ⟨dv, 0, none⟩) N N] ∧ Blk wr b2 9 #[.string ref] := ⟨_, rfl⟩
  have HR0 := Lib.hid (show ∃ m, R m (.int .i64 0) (.int .i64 0) W by
    rw [hR]; exact ⟨_, 0, 0, d0, [], rfl, rfl, by omega, by omega, fun k hk => by omega, fun k hk => by omega, Run.start hs hb (by have := hN.out; omega), rfl, h0, hd', h1', h2'⟩)
  gi_loopw [4, 5] (fun a b wr => ∃ m, R m a b wr) (fun a b wr => leastOf (fun m => R m a b wr))
  case atStart => exact HR0.out
  case round =>
    clear HR0
    have hm := (leastOf_spec hrel).1
    generalize hml : leastOf _ = m at hm
    have HML := Lib.hid hml; clear hml hrel
    rw [hR] at hm
    obtain ⟨i, j, cur, ps, rfl, rfl, hi, hj, hpi, hpj, hrun, hmz, hJw, hbd, hb1, hb2⟩ := hm
    have HRUN := Lib.hid hrun; have HJW := Lib.hid hJw; have HBD := Lib.hid hbd; have HB1 := Lib.hid hb1; have HB2 := Lib.hid hb2; have HPI := Lib.hid hpi; have HPJ := Lib.hid hpj; have HMZ := Lib.hid hmz
    have hcl : cur.length = N := by rw [hrun.len]; exact hN.out.symm
    have y1 : wr.cell? ⟨b1, 0, none⟩ = some (.slice (some ⟨dv, 0, none⟩) N N) := cell_of_blk hb1 0 rfl
    clear hrun hJw hbd hb1 hb2 hpi hpj hmz hd' h1' h2' h0 hb
    gi_wp2
    gi_loopw [4] (fun a wq => ∃ i' : Nat, i' ≤ N ∧ a = .int .i64 (i' : Int) ∧ (∀ k, k < i' → 0 ≤ at0 cur k) ∧ wq = wr) (fun a _ => N - (intOf a).toNat)
    case atStart => exact ⟨i, hi, rfl, HPI.out, rfl⟩
    case round =>
      clear HPI
      obtain ⟨i', hi', rfl, hpi, rfl⟩ := hrel
      have HPI := Lib.hid hpi
      clear hpi
      by_cases hin : i' < N
      · have z0 : wr.cell? ⟨dv, i', none⟩ = some (.int .i64 (at0 cur i')) := (HBD.out.cell i').trans (intArr_at (by omega))
        have hii : (i' : Int) < (N : Int) := by omega
        have hi0 : (0 : Int) ≤ (i' : Int) := by omega
        have hiw : IntKind.i64.wrap ((i' : Int) + 1) = (i' : Int) + 1 := IntWalk.i64_in _ (by omega)
        have hine : ((i' : Int) == (N : Int)) = false := by simp; omega
        obtain ⟨x, hx⟩ : ∃ x, at0 cur i' = x := ⟨_, rfl⟩
        rw [hx] at z0
        have HXX := Lib.hid hx
        clear hx
        by_cases hx0 : 0 ≤ x
        · have hx0' : decide (0 ≤ x) = true := by simpa using hx0
          have HPI2 := Lib.hid (show ∀ k, k < i' + 1 → 0 ≤ at0 cur k from fun k hk => by
            by_cases e : k = i'
            · rw [e, HXX.out]; exact hx0
            · exact HPI.out k (by omega))
          clear hx0
          gi_wp2
          go_roundw
          case rel => first | exact ⟨i' + 1, by omega, by go_num, HPI2.out, (by first | rfl | trivial)⟩ | ((repeat apply Exists.intro); exact ⟨⟨i' + 1, by omega, by go_num, HPI2.out, (by first | rfl | trivial)⟩, rfl⟩)
          case measure => simp [intOf]; omega
        · have hx0' : decide (0 ≤ x) = false := by simpa using hx0
          gi_wp2
          gi_loopw [5] (fun b wq => ∃ j' : Nat, j' ≤ N ∧ b = .int .i64 (j' : Int) ∧ (∀ k, k < j' → at0 cur k ≤ 0) ∧ wq = wr) (fun b _ => N - (intOf b).toNat)
          case atStart => exact ⟨j, hj, rfl, HPJ.out, rfl⟩
          case round =>
            clear HPJ
            obtain ⟨j', hj', rfl, hpj, rfl⟩ := hrel
            have HPJ := Lib.hid hpj
            clear hpj
            by_cases hjn : j' < N
            · have z1 : wr.cell? ⟨dv, j', none⟩ = some (.int .i64 (at0 cur j')) := (HBD.out.cell j').trans (intArr_at (by omega))
              have hji : (j' : Int) < (N : Int) := by omega
              have hj0 : (0 : Int) ≤ (j' : Int) := by omega
              have hjw : IntKind.i64.wrap ((j' : Int) + 1) = (j' : Int) + 1 := IntWalk.i64_in _ (by omega)
              obtain ⟨y, hy⟩ : ∃ y, at0 cur j' = y := ⟨_, rfl⟩
              rw [hy] at z1
              have HYY := Lib.hid hy
              clear hy
              by_cases hy0 : y ≤ 0
              · have hy0' : decide (y ≤ 0) = true := by simpa using hy0
                have HPJ2 := Lib.hid (show ∀ k, k < j' + 1 → at0 cur k ≤ 0 from fun k hk => by
                  by_cases e : k = j'
                  · rw [e, HYY.out]; exact hy0
                  · exact HPJ.out k (by omega))
                clear hy0
                gi_wp2
                go_roundw
                case rel => first | exact ⟨j' + 1, by omega, by go_num, HPJ2.out, (by first | rfl | trivial)⟩ | ((repeat apply Exists.intro); exact ⟨⟨j' + 1, by omega, by go_num, HPJ2.out, (by first | rfl | trivial)⟩, rfl⟩)
                case measure => simp [intOf]; omega
              · have hy0' : decide (y ≤ 0) = false := by simpa using hy0
                have hjne : ((j' : Int) == (N : Int)) = false := by simp; omega
                have hxb := HRUN.out.bnd i' (by have := hN.out; omega)
                have hyb := HRUN.out.bnd j' (by have := hN.out; omega)
                rw [HXX.out] at hxb
                rw [HYY.out] at hyb
                have hxn : x < 0 := by omega
                have hyp : 0 < y := by omega
                obtain ⟨a, ha⟩ : ∃ a, min (-x) y = a := ⟨_, rfl⟩
                have ha' := ha
                have hbest : Best cur ⟨i', j', a⟩ := ⟨by show i' < cur.length; omega, by show j' < cur.length; omega, by show at0 cur i' < 0; rw [HXX.out]; exact hxn, by show 0 < at0 cur j'; rw [HYY.out]; exact hyp, by show a = min (- at0 cur i') (at0 cur j'); rw [HXX.out, HYY.out, ha']⟩
                have hstep := HRUN.out.step hbest
                obtain ⟨hnz, _⟩ := mvL_nz hbest
                have HS := Lib.hid hstep; have HBS := Lib.hid hbest; have HNZ := Lib.hid hnz
                have hab : 1 ≤ a ∧ a ≤ M := by omega
                have hxw : IntKind.i64.wrap (-x) = -x := IntWalk.i64_in _ (by omega)
                clear hstep hbest hnz ha' hx0 hy0
                gi_wp2
                gi_region
                (try simp only [ha])
                have J5 : J ps wr.drew := hJ.drew HJW.out
                have BD5 := HBD.out.drew
                have B15 := HB1.out.drew
                have B25 := HB2.out.drew
                clear y1 z0 z1 HJW HBD HB1 HB2
                generalize wr.drew = W5 at *
                have HMM := Lib.hid (HML.out.trans HMZ.out)
                have xaw : IntKind.i64.wrap (x + a) = x + a := IntWalk.i64_in _ (by omega)
                have yaw : IntKind.i64.wrap (y - a) = y - a := IntWalk.i64_in _ (by omega)
                have hijn : i' ≠ j' := HBS.out.ne
                have y1 : W5.cell? ⟨b1, 0, none⟩ = some (.slice (some ⟨dv, 0, none⟩) N N) := cell_of_blk B15 0 rfl
                have z0 : W5.cell? ⟨dv, i', none⟩ = some (.int .i64 x) := (BD5.cell i').trans (by rw [intArr_at (by omega), HXX.out])
                have f0 := BD5.frozen i'
                have BD6 := BD5.set_ i' (.int .i64 (x + a))
                rw [intArr_set] at BD6
                have B16 := B15.far (p := ⟨dv, i', none⟩) e1.symm (.int .i64 (x + a))
                have B26 := B25.far (p := ⟨dv, i', none⟩) e2.symm (.int .i64 (x + a))
                have J6 := hJ.own J5 (grown_set (World.grownBy.refl W5 _) i' (.int .i64 (x + a)))
                have y6 := cell_of_blk B16 0 rfl
                have z6 : (W5.setCell ⟨dv, i', none⟩ (.int .i64 (x + a))).cell? ⟨dv, j', none⟩ = some (.int .i64 y) := (BD6.cell j').trans (by rw [intArr_at (by simp; omega), at0_set _ (by omega), if_neg (fun e => hijn e.symm), HYY.out])
                have f6 := BD6.frozen j'
                have BD7 := BD6.set_ j' (.int .i64 (y - a))
                rw [intArr_set] at BD7
                have B17 := B16.far (p := ⟨dv, j', none⟩) e1.symm (.int .i64 (y - a))
                have B27 := B26.far (p := ⟨dv, j', none⟩) e2.symm (.int .i64 (y - a))
                have J7 := hJ.own J6 (grown_set (World.grownBy.refl _ _) j' (.int .i64 (y - a)))
                have r7 := cell_of_blk B27 0 rfl
                have hmv : (cur.set i' (x + a)).set j' (y - a) = mvL cur ⟨i', j', a⟩ := by
                  unfold mvL
                  (try dsimp only)
                  rw [at0_set _ (by omega), if_neg (fun e => hijn e.symm), HXX.out, HYY.out]
                rw [hmv] at BD7
                have BD7h := Lib.hid BD7; have B17h := Lib.hid B17; have B27h := Lib.hid B27
                obtain ⟨fn, tmps, assign, body, hy, hRd⟩ := hY ps ⟨i', j', a⟩ _ J7 ⟨hin, hjn, hijn, hab.1, hab.2⟩ (by have := HRUN.out.few; have := hN.out; omega)
                (try dsimp only at hy)
                clear BD5 BD6 BD7 B15 B16 B17 B25 B26 B27 J5 J6 hmv
                gi_wp2
                refine ⟨fun h => by simp [Fence.wide] at h, hRd.mono ?_⟩
                rintro e W8 ⟨rfl, hJ8, hk8⟩
                have BD8 : Blk W8 dv 3 (intArr (mvL cur ⟨i', j', a⟩)) := (hk8.2 dv (.inl rfl) BD7h.out.lt).trans BD7h.out
                have B18 : Blk W8 b1 28 #[.slice (some ⟨dv, 0, none⟩) N N] := (hk8.2 b1 (.inr (.inl rfl)) B17h.out.lt).trans B17h.out
                have B28 : Blk W8 b2 9 #[.string ref] := (hk8.2 b2 (.inr (.inr rfl)) B27h.out.lt).trans B27h.out
                have hR8 : R (nz (mvL cur ⟨i', j', a⟩)) (.int .i64 (i' : Int)) (.int .i64 (j' : Int)) W8 := by
                  rw [hR]
                  refine ⟨i', j', mvL cur ⟨i', j', a⟩, ps ++ [⟨i', j', a⟩], rfl, rfl, by omega, by omega, fun k hk => ?_, fun k hk => ?_, HS.out, rfl, hJ8, BD8, B18, B28⟩
                  · rw [mvL_at HBS.out.f HBS.out.t]
                    have := HPI.out k hk
                    unfold eff1
                    (try dsimp only)
                    rw [if_neg (show ¬ k = i' by omega)]
                    by_cases e : k = j'
                    · subst e; rw [if_pos rfl, HYY.out]; omega
                    · rw [if_neg e]; omega
                  · rw [mvL_at HBS.out.f HBS.out.t]
                    have := HPJ.out k hk
                    unfold eff1
                    (try dsimp only)
                    rw [if_neg (show ¬ k = j' by omega)]
                    by_cases e : k = i'
                    · subst e; rw [if_pos rfl, HXX.out]; omega
                    · rw [if_neg e]; omega
                have HR8 := Lib.hid hR8
                have hms := (leastOf_spec (p := fun m => R m (.int .i64 (i' : Int)) (.int .i64 (j' : Int)) W8) ⟨_, hR8⟩).2 _ hR8
                have HMS := Lib.hid hms
                clear hms hR8 BD8 B18 B28 hk8 hJ8 BD7h B17h B27h
                gi_wp2
                go_roundw
                case rel => exact ⟨_, HR8.out⟩
                case measure => exact Nat.lt_of_le_of_lt HMS.out (by have := HMM.out; have := HNZ.out; omega)
            · obtain rfl : N = j' := by omega
              have hz := nonpos_zero HRUN.out.sum (fun k hk => HPJ.out k (by omega))
              have HE := Lib.hid (HRUN.out.ends hz)
              clear hz
              gi_wp2
              (refine bodyPost_ret (results_none rfl _ _ _) rfl ?_)
              exact ⟨⟨_, rfl⟩, ps, HE.out, HJW.out⟩
      · obtain rfl : N = i' := by omega
        have hz := nonneg_zero HRUN.out.sum (fun k hk => HPI.out k (by omega))
        have HEI := Lib.hid (HRUN.out.ends hz)
        clear hz
        gi_wp2
        gi_loopw [5] (fun b wq => ∃ j' : Nat, j' ≤ N ∧ b = .int .i64 (j' : Int) ∧ (∀ k, k < j' → at0 cur k ≤ 0) ∧ wq = wr) (fun b _ => N - (intOf b).toNat)
        case atStart => exact ⟨j, hj, rfl, HPJ.out, rfl⟩
        case round =>
          clear HPJ
          obtain ⟨j', hj', rfl, hpj, rfl⟩ := hrel
          have HPJ := Lib.hid hpj
          clear hpj
          by_cases hjn : j' < N
          · have z1 : wr.cell? ⟨dv, j', none⟩ = some (.int .i64 (at0 cur j')) := (HBD.out.cell j').trans (intArr_at (by omega))
            have hji : (j' : Int) < (N : Int) := by omega
            have hj0 : (0 : Int) ≤ (j' : Int) := by omega
            have hjw : IntKind.i64.wrap ((j' : Int) + 1) = (j' : Int) + 1 := IntWalk.i64_in _ (by omega)
            obtain ⟨y, hy⟩ : ∃ y, at0 cur j' = y := ⟨_, rfl⟩
            rw [hy] at z1
            have HYY := Lib.hid hy
            clear hy
            by_cases hy0 : y ≤ 0
            · have hy0' : decide (y ≤ 0) = true := by simpa using hy0
              have HPJ2 := Lib.hid (show ∀ k, k < j' + 1 → at0 cur k ≤ 0 from fun k hk => by
                by_cases e : k = j'
                · rw [e, HYY.out]; exact hy0
                · exact HPJ.out k (by omega))
              clear hy0
              gi_wp2
              go_roundw
              case rel => first | exact ⟨j' + 1, by omega, by go_num, HPJ2.out, (by first | rfl | trivial)⟩ | ((repeat apply Exists.intro); exact ⟨⟨j' + 1, by omega, by go_num, HPJ2.out, (by first | rfl | trivial)⟩, rfl⟩)
              case measure => simp [intOf]; omega
            · have hy0' : decide (y ≤ 0) = false := by simpa using hy0
              gi_wp2
              (refine bodyPost_ret (results_none rfl _ _ _) rfl ?_)
              exact ⟨⟨_, rfl⟩, ps, HEI.out, HJW.out⟩
          · obtain rfl : N = j' := by omega
            gi_wp2
            (refine bodyPost_ret (results_none rfl _ _ _) rfl ?_)
            exact ⟨⟨_, rfl⟩, ps, HEI.out, HJW.out⟩
end Go.Proofs.Ythkmpegpmpdhaaa
