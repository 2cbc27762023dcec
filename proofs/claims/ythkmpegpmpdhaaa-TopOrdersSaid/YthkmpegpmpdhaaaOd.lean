/- Part of the proofs of TopMoney and TopOrders. Conditions: as stated in each theorem. -/
import Derived.Test.YthkmpegpmpdhaaaPl
import Derived.Deep.CutRange
import Derived.StillTailTactics
import Derived.Lib.SliceRun
import Derived.RangeFuncRecord
import Derived.Carry
import Derived.ChangeKeysEq
import Derived.Shelf.SlSortCmp.Insertion1
import Derived.Shelf.Lay
import Derived.Ground.SlsfProg
import Derived.Sort.LotA
import Derived.Test.YthkmpegpmpdhaaaRows
import Derived.WalkKit
import Derived.WalkSpells
import Derived.WalkLawsBesides
import Derived.Laws.EntriesVeiled
import Derived.ProofKit
import Derived.OpenShut
import Derived.Lib.Hide
import Derived.BigQuiet
import Derived.Deep.QuietTactic
import Derived.Below
import Derived.Laws.OwnMore
import Derived.Deep.AppendLies
import Derived.Deep.Draws
import Derived.Laws.Rows
import Derived.Maps.AppendAt
import Derived.RegionTactic
import Derived.OwnWalk
import Derived.Deep.RegionHeld3
namespace Go.Proofs.Ythkmpegpmpdhaaa
open Go.Shelf Go.Sort Go.ChangeShapes Go.WideShapes Go.ChangeAt Go.RowKit
set_option linter.unusedSimpArgs false
set_option linter.unusedVariables false
def d0 : List (List Int) := [[0, 10], [-1, 0]]
def l0 : List EvC := [(⟨0, 0, 5⟩, (none, 0, 0)), (⟨1, 0, 12⟩, (none, 0, 0))]
theorem off0 {i : Int} (h : isOff d0 i) : i = 0 ∨ i = 1 := by
  have h1 := h.1
  have h2 : i < (2 : Int) := h.2
  omega
theorem dist0 : DistOk d0 where
  sq := by decide
  self := fun i h => by rcases off0 h with rfl | rfl <;> decide
  bnd := fun i j hi hj => by rcases off0 hi with rfl | rfl <;> rcases off0 hj with rfl | rfl <;> decide
  tri := fun i k j hi hk hj => by rcases off0 hi with rfl | rfl <;> rcases off0 hk with rfl | rfl <;> rcases off0 hj with rfl | rfl <;> decide
theorem ho0 : ∀ e ∈ l0, isOff d0 e.1.o := by
  intro e he
  simp only [l0, List.mem_cons, List.not_mem_nil, or_false] at he
  rcases he with rfl | rfl
  · exact ⟨by decide, by decide⟩
  · exact ⟨by decide, by decide⟩
theorem win0 : winB (unitsC l0) = true := by kernel_rfl
theorem times0 : ∃ f, precJ d0 (plainU (sortU (unitsC l0))) l0.length = some f ∧ quickK d0 (plainU (sortU (unitsC l0))) f l0.length = some [0, 1] := ⟨[0, 1], by kernel_rfl, by kernel_rfl⟩
theorem times1 : timesF d0 (plainU (sortU (unitsC l0))) l0.length [0, 1] = [0, 10] := by kernel_rfl
theorem seq0 {out : List Nat} (h : SeqI d0 (l0.map (·.1)) [0, 10] out) (hl : out.length = 2) : out = [0, 1] := by
  match out, hl with
  | [a, b], _ =>
    have ha := h.lt a (by simp)
    have hb := h.lt b (by simp)
    have hn := h.nd
    have hp := pw_at h.pw (i := 0) (x := a) (y := b) rfl rfl
    have ha' : a < 2 := ha
    have hb' : b < 2 := hb
    have hne : a ≠ b := by simp at hn; exact hn
    have hc : (a = 0 ∧ b = 1) ∨ (a = 1 ∧ b = 0) := by omega
    rcases hc with ⟨rfl, rfl⟩ | ⟨rfl, rfl⟩
    · rfl
    · exact absurd hp.1 (by decide)
def b0 : List Df.Bd := [⟨0, 1, 5⟩, ⟨1, 0, 0⟩, ⟨0, 2, 12⟩, ⟨2, 0, 0⟩, ⟨2, 1, -10⟩]
theorem bds0 : bdsL d0 (l0.map (·.1)) [0, 1] = b0 := by kernel_rfl
theorem valid0 : Df.validB ((3 : Nat) : Int) b0 = true := by kernel_rfl
theorem least0 : Df.leastB 3 (Df.startF (b0 ++ Df.extraL 3 1000000)) = true := by kernel_rfl
theorem row0_ : Df.row0 3 (Df.solveM 3 1000000 b0) = [0, 2, 12] := by kernel_rfl
theorem d0_rows (w : World) : NumRows (((w.alloc (.cells #[.int .i64 0, .int .i64 10] 3)).alloc (.cells #[.int .i64 (-1), .int .i64 0] 3)).alloc (.cells #[.slice (some ⟨w.heap.size, 0, none⟩) 2 2, .slice (some ⟨w.heap.size + 1, 0, none⟩) 2 2] 28)) (w.heap.size + 1 + 1 + 1) (some ⟨w.heap.size + 1 + 1, 0, none⟩) d0 := by
  have B1 := Blk.new w 3 #[.int .i64 0, .int .i64 10]
  have B2 := Blk.new (w.alloc (.cells #[.int .i64 0, .int .i64 10] 3)) 3 #[.int .i64 (-1), .int .i64 0]
  have B3 := Blk.new ((w.alloc (.cells #[.int .i64 0, .int .i64 10] 3)).alloc (.cells #[.int .i64 (-1), .int .i64 0] 3)) 28 #[.slice (some ⟨w.heap.size, 0, none⟩) 2 2, .slice (some ⟨w.heap.size + 1, 0, none⟩) 2 2]
  have C1 := (B1.alloc (.cells #[.int .i64 (-1), .int .i64 0] 3)).alloc (.cells #[.slice (some ⟨w.heap.size, 0, none⟩) 2 2, .slice (some ⟨w.heap.size + 1, 0, none⟩) 2 2] 28)
  have C2 := B2.alloc (.cells #[.slice (some ⟨w.heap.size, 0, none⟩) 2 2, .slice (some ⟨w.heap.size + 1, 0, none⟩) 2 2] 28)
  rw [show (w.alloc (.cells #[.int .i64 0, .int .i64 10] 3)).heap.size = w.heap.size + 1 by simp] at C2
  rw [show ((w.alloc (.cells #[.int .i64 0, .int .i64 10] 3)).alloc (.cells #[.int .i64 (-1), .int .i64 0] 3)).heap.size = w.heap.size + 1 + 1 by simp] at B3
  intro k l hk
  match k, hk with
  | 0, hk =>
    cases hk
    exact ⟨_, _, _, 0, rfl, by omega, (B3.cell 0).trans rfl, Nums.of_blk C1 rfl (by omega)⟩
  | 1, hk =>
    cases hk
    exact ⟨_, _, _, 0, rfl, by omega, (B3.cell 1).trans rfl, Nums.of_blk C2 rfl (by omega)⟩
theorem bnds_of {w : World} {B : Nat} {A : Option Addr} {l : List Df.Bd} (h : RecIn bdR w B A l) : Df.Bnds w B A l := fun k o hk => by
  obtain ⟨b, off, e, hb, hc⟩ := h k o hk
  exact ⟨b, off, e, hb, hc 0 _ rfl, hc 1 _ rfl, hc 2 _ rfl⟩
theorem ints_of {w : World} {B : Nat} {A : Option Addr} {l : List Int} (h : Df.Nums .i64 w B A l) : RecIn intR w B A l := fun j x hj => by
  obtain ⟨b, off, e, hb, hc⟩ := h j x hj
  refine ⟨b, off, e, hb, fun i u hu => ?_⟩
  have hi := (List.getElem?_eq_some_iff.1 hu).1
  obtain rfl : i = 0 := by simp at hi; exact hi
  cases hu
  rw [show off + j * intR.k + 0 = off + j from by show off + j * 1 + 0 = off + j; omega]
  exact hc
theorem nums_of {w : World} {B : Nat} {A : Option Addr} {l : List Int} (h : RecIn intR w B A l) : Df.Nums .i64 w B A l := fun j x hj => h.int hj
theorem fit0_any (dA eA : Option Addr) (dc ec : Nat) (w : World) (h : NumRows w w.heap.size dA d0) (he : RecIn evR w w.heap.size eA l0) :
    Calls Try.prog 15 #[.slice dA 2 dc, .slice eA 2 ec, .slice none 0 0] w fun e w' => ∃ A c, e = .returned (.tuple #[.slice A 2 c, .bool true]) ∧ RecIn intR w' w'.heap.size A [0, 10] ∧ Keeps w w' := by
  refine (fit_any d0 l0 dA eA 2 dc 2 ec w h dist0 (Lib.hid rfl) (by omega) he (Lib.hid rfl) (by omega) ho0).mono ?_
  intro e w' hp
  obtain ⟨f, h1, h2⟩ := times0
  rcases hp with ⟨A, n, c, he, hk, hno⟩ | ⟨s, A, n, c, he, hn, hr, hk, hw, ho, hs, hx⟩
  · exact absurd h2 (fun h2 => hno f _ win0 h1 h2)
  · have hs := hx f _ h1 h2
    subst hs
    rw [times1] at hr
    have hn' : n = 2 := hn.out
    subst hn'
    exact ⟨A, c, he, hr, hk⟩
theorem holds0 : HoldsP d0 (l0.map (·.1)) [0, 10] where
  len := rfl
  win := fun i e he => by
    match i, he with
    | 0, he => cases he; decide
    | 1, he => cases he; decide
    | i + 2, he => simp [l0] at he
  far := fun i j hij hj => by
    have hj' : j < 2 := hj
    obtain rfl : i = 0 := by omega
    obtain rfl : j = 1 := by omega
    exact .inl ⟨by decide, by decide⟩
theorem seq0_any (dA eA tA : Option Addr) (dc ec tc : Nat) (w : World) (h : NumRows w w.heap.size dA d0) (he : RecIn evR w w.heap.size eA l0) (ht : RecIn intR w w.heap.size tA [0, 10]) :
    Calls Try.prog 17 #[.slice dA 2 dc, .slice eA 2 ec, .slice tA 2 tc] w fun e w' => ∃ A c, e = .returned (.slice A 2 c) ∧ RecIn natR w' w'.heap.size A [0, 1] ∧ Keeps w w' := by
  refine (seq_any d0 l0 [0, 10] dA eA tA 2 dc 2 ec tc w h dist0 (Lib.hid rfl) he (Lib.hid rfl) (by omega) ho0 ht (Lib.hid rfl) holds0).mono ?_
  intro e w' hp
  obtain ⟨A, n, c, out, he, hn, hr, hl, hs, hk⟩ := hp
  have := seq0 hs hl
  subst this
  have hn' : n = 2 := hn.out
  subst hn'
  exact ⟨A, c, he, hr, hk⟩
theorem bounds0_any (dA eA oA : Option Addr) (dc ec oc : Nat) (w : World) (h : NumRows w w.heap.size dA d0) (he : RecIn evR w w.heap.size eA l0) (hs : RecIn natR w w.heap.size oA [0, 1]) :
    Calls Try.prog 18 #[.slice dA 2 dc, .slice eA 2 ec, .slice oA 2 oc] w fun e w' => ∃ A c, e = .returned (.slice A 5 c) ∧ RecIn bdR w' w'.heap.size A b0 ∧ Keeps w w' := by
  refine (bounds_any d0 l0 [0, 1] [0, 10] dA eA oA 2 dc 2 ec oc w h dist0 (Lib.hid rfl) he (Lib.hid rfl) (by omega) ho0 hs (Lib.hid rfl) (by decide) holds0).mono ?_
  intro e w' hp
  obtain ⟨A, n, c, he, hn, hr, hk⟩ := hp
  rw [bds0] at hr hn
  have hn' : n = 5 := hn.out
  subst hn'
  exact ⟨A, c, he, hr, hk⟩
theorem solve0_any (A : Option Addr) (c : Nat) (w : World) (h : RecIn bdR w w.heap.size A b0) :
    Calls Try.prog 20 #[.int .i64 3, .int .i64 1000000, .slice A 5 c] w fun e w' => ∃ A c, e = .returned (.tuple #[.slice A 3 c, .int .i64 0]) ∧ RecIn intR w' w'.heap.size A [0, 2, 12] ∧ Keeps w w' := by
  have h1 := Df.solve_ok 3 1000000 b0 A 5 c w (bnds_of h) (by decide) (Lib.hid rfl) valid0 (by decide) (by omega) (by omega)
  rw [if_pos least0, row0_] at h1
  refine h1.mono ?_
  rintro e w' ⟨A', c', he, hn, hk⟩
  exact ⟨A', _, he, ints_of hn, hk⟩
set_option maxRecDepth 100000 in
set_option maxHeartbeats 8000000 in
theorem ordered_any (w : World) : Calls Try.prog 12 #[] w (BoolPost true w) := by
  have R0 := Lib.hid (d0_rows w)
  go_enter Try.func12, Try.ntmps12
  go_upto_region 3 with fail
  have E1 := Lib.hid (RecIn.lit evOk (((w.alloc (.cells #[.int .i64 0, .int .i64 10] 3)).alloc (.cells #[.int .i64 (-1), .int .i64 0] 3)).alloc (.cells #[.slice (some ⟨w.heap.size, 0, none⟩) 2 2, .slice (some ⟨w.heap.size + 1, 0, none⟩) 2 2] 28)) l0 #[.int .i64 0, .int .i64 0, .int .i64 5, .slice none 0 0, .int .i64 1, .int .i64 0, .int .i64 12, .slice none 0 0] rfl)
  have R1 := Lib.hid (NumRows.keep (w' := (((w.alloc (.cells #[.int .i64 0, .int .i64 10] 3)).alloc (.cells #[.int .i64 (-1), .int .i64 0] 3)).alloc (.cells #[.slice (some ⟨w.heap.size, 0, none⟩) 2 2, .slice (some ⟨w.heap.size + 1, 0, none⟩) 2 2] 28)).alloc (.cells #[.int .i64 0, .int .i64 0, .int .i64 5, .slice none 0 0, .int .i64 1, .int .i64 0, .int .i64 12, .slice none 0 0] 80)) (by rw [show (((w.alloc (.cells #[.int .i64 0, .int .i64 10] 3)).alloc (.cells #[.int .i64 (-1), .int .i64 0] 3)).alloc (.cells #[.slice (some ⟨w.heap.size, 0, none⟩) 2 2, .slice (some ⟨w.heap.size + 1, 0, none⟩) 2 2] 28)).heap.size = w.heap.size + 1 + 1 + 1 by simp]; exact R0.out) ((Keeps.refl _).alloc _))
  have K1 := Lib.hid (((((Keeps.refl w).alloc (.cells #[.int .i64 0, .int .i64 10] 3)).alloc (.cells #[.int .i64 (-1), .int .i64 0] 3)).alloc (.cells #[.slice (some ⟨w.heap.size, 0, none⟩) 2 2, .slice (some ⟨w.heap.size + 1, 0, none⟩) 2 2] 28)).alloc (.cells #[.int .i64 0, .int .i64 0, .int .i64 5, .slice none 0 0, .int .i64 1, .int .i64 0, .int .i64 12, .slice none 0 0] 80))
  have hsz : (((w.alloc (.cells #[.int .i64 0, .int .i64 10] 3)).alloc (.cells #[.int .i64 (-1), .int .i64 0] 3)).alloc (.cells #[.slice (some ⟨w.heap.size, 0, none⟩) 2 2, .slice (some ⟨w.heap.size + 1, 0, none⟩) 2 2] 28)).heap.size = w.heap.size + 1 + 1 + 1 := by simp
  rw [hsz] at E1
  clear hsz R0
  obtain ⟨w1, hw1⟩ : ∃ w1, (((w.alloc (.cells #[.int .i64 0, .int .i64 10] 3)).alloc (.cells #[.int .i64 (-1), .int .i64 0] 3)).alloc (.cells #[.slice (some ⟨w.heap.size, 0, none⟩) 2 2, .slice (some ⟨w.heap.size + 1, 0, none⟩) 2 2] 28)).alloc (.cells #[.int .i64 0, .int .i64 0, .int .i64 5, .slice none 0 0, .int .i64 1, .int .i64 0, .int .i64 12, .slice none 0 0] 80) = w1 := ⟨_, rfl⟩
  rw [hw1] at R1 K1 ⊢
  rw [show evR.T = 80 from rfl, hw1] at E1
  clear hw1
  go_upto_region 8 with (first | (go_at_call 15; (with_reducible refine (fit0_any _ _ _ _ _ R1.out E1.out).mono ?_); rintro e w2 ⟨A2, c2, rfl, ht, hk⟩; have T2 := Lib.hid ht; have K2 := Lib.hid (K1.out.trans hk); have R2 := Lib.hid (R1.out.keep hk); have E2 := Lib.hid (E1.out.keep hk); clear ht hk R1 E1) | (go_at_call 17; (with_reducible refine (seq0_any _ _ _ _ _ _ _ R2.out E2.out T2.out).mono ?_); rintro e w3 ⟨A3, c3, rfl, ht, hk⟩; have T3 := Lib.hid ht; have K3 := Lib.hid (K2.out.trans hk); have R3 := Lib.hid (R2.out.keep hk); have E3 := Lib.hid (E2.out.keep hk); clear ht hk R2 E2) | (go_at_call 18; (with_reducible refine (bounds0_any _ _ _ _ _ _ _ R3.out E3.out T3.out).mono ?_); rintro e w4 ⟨A4, c4, rfl, ht, hk⟩; have T4 := Lib.hid ht; have K4 := Lib.hid (K3.out.trans hk); clear ht hk) | (go_at_call 20; (with_reducible refine (solve0_any _ _ _ T4.out).mono ?_); rintro e w5 ⟨A5, c5, rfl, ht, hk⟩; have T5 := Lib.hid ht; have K5 := Lib.hid (K4.out.trans hk); clear ht hk))
  obtain ⟨yb, yf, hA, hb, y1⟩ := T5.out.int (j := 1) rfl
  subst hA
  obtain ⟨yb', yf', e, hb', y2⟩ := T5.out.int (j := 2) rfl
  cases e
  go_wp2_with fail
  go_ret
  exact bool_post rfl K5.out
end Go.Proofs.Ythkmpegpmpdhaaa
