/- Part of the proofs of TopMoney and TopOrders. Conditions: as stated in each theorem. -/
import Derived.Test.YthkmpegpmpdhaaaV
import Derived.Deep.CutRange
import Derived.StillTailTactics
import Derived.Lib.SliceRun
import Derived.RangeFuncRecord
import Derived.Carry
import Derived.ChangeKeysEq
import Derived.Test.YthkmpegpmpdhaaaRows
import Derived.WalkKit
import Derived.WalkSpells
import Derived.WalkLawsBesides
import Derived.Laws.EntriesVeiled
import Derived.ProofKit
import Derived.OpenShut
import Derived.Lib.Hide
import Derived.BigQuiet
import Derived.Deep.QuietTactic
import Derived.Below
import Derived.Laws.OwnMore
import Derived.Deep.AppendLies
import Derived.Deep.Draws
import Derived.Laws.Rows
import Derived.Maps.AppendAt
import Derived.RegionTactic
import Derived.OwnWalk
import Derived.Deep.RegionHeld3
namespace Go.Proofs.Ythkmpegpmpdhaaa
open Go.ChangeShapes Go.WideShapes Go.ChangeAt Go.RowKit
set_option linter.unusedSimpArgs false
set_option linter.unusedVariables false
/-- Bits, as the walk spells them. -/
def orN (m u : Nat) : Nat := m ||| 2 ^ u
theorem wrap_u32 {x : Int} (h0 : 0 ≤ x) (h1 : x < 4294967296) : IntKind.u32.wrap x = x := by rw [IntKind.wrap_u32]; omega
theorem nat_u32 {p : Nat} (h : p < 65536) : IntKind.u32.wrap (p : Int) = (p : Int) := wrap_u32 (by omega) (by omega)
theorem pow_u32 {u : Nat} (h : u < 16) : IntKind.u32.wrap (2 ^ u) = ((2 ^ u : Nat) : Int) := by
  have h1 : 2 ^ u < 65536 := pow_lt16 h
  have h2 : ((2 ^ u : Nat) : Int) = (2 : Int) ^ u := by simp
  rw [← h2]
  exact nat_u32 h1
theorem wraps_16 (n : Int) (h0 : 0 ≤ n) (h1 : n < 2 ^ 16) : IntKind.u32.wrap n = n := wrap_u32 h0 (by omega)
theorem or_u32 {m u : Nat} (hm : m < 2 ^ 16) (hu : u < 16) : bits .or .u32 (m : Int) (IntKind.u32.wrap (2 ^ u)) = ((orN m u : Nat) : Int) := by
  rw [pow_u32 hu]
  exact (bits_nat .u32 16 (by decide) wraps_16 m (2 ^ u) hm (pow_lt16 hu)).2
def AfterPost (m : Nat) (o : Int) (w : World) (e : Ending) (w' : World) : Prop := e = .returned (.agg #[.int .u32 (m : Int), .int .i64 o]) ∧ Keeps w w'
theorem after_post {m : Nat} {o : Int} {w w' : World} (hk : Keeps w w') : AfterPost m o w (.returned (.agg #[.int .u32 (m : Int), .int .i64 o])) w' := ⟨rfl, hk⟩
set_option maxRecDepth 100000 in
theorem after_any (d : List (List Int)) (us : List UnC) (g : Nat) (dA uA : Option Addr) (dc uc : Nat) (fv : Value) (w : World) (hs : SrIn d us w g dA uA dc uc fv) (x : UnC) (u : Nat) (hx : us[u]? = some x)
    (m : Nat) (now : Int) (hm : m < 2 ^ 16) (hu16 : u < 16) :
    Calls Try.prog 42 #[.pointer (some ⟨g, 0, none⟩), .agg #[.int .u32 (m : Int), .int .i64 now], .int .i64 (u : Int)] w (AfterPost (orN m u) x.2.1.o w) := by
  obtain ⟨ub, uo, rfl, hub, hg, hu, F⟩ := hs.reads hx
  have me := meth_ends
  have b0 := Lib.hid ((Blk.new w 94 #[.int .u32 (m : Int), .int .i64 now]).alloc (.cells #[.int .u32 0, .int .i64 0] 94))
  have z0 := Lib.hid (Blk.new (w.alloc (.cells #[.int .u32 (m : Int), .int .i64 now] 94)) 94 #[.int .u32 0, .int .i64 0])
  have K0 := Lib.hid (((Keeps.refl w).alloc (.cells #[.int .u32 (m : Int), .int .i64 now] 94)).alloc (.cells #[.int .u32 0, .int .i64 0] 94))
  obtain ⟨c0, c1, _, cu⟩ := F _ K0.out
  have hu0 : (0 : Int) ≤ (u : Int) ∧ (u : Int) < (us.length : Int) := ⟨by omega, by omega⟩
  clear hs F hx
  go_enter Try.func42, Try.ntmps42
  go_upto_region 2 with (go_at_call 95; (with_reducible refine (ends_any x _).mono ?_); rintro e w2 ⟨rfl, hk2⟩; have b2 := Lib.hid (b0.out.below hk2 b0.out.lt); have z2 := Lib.hid (z0.out.below hk2 z0.out.lt); have K2 := Lib.hid (K0.out.trans hk2); clear hk2)
  have e0 : w2.cell? ⟨w.heap.size, 0, none⟩ = some (.int .u32 (m : Int)) := b2.out.cell 0
  have f6 := z2.out.frozen
  have y0 := z2.out.cell 0
  have y1 := z2.out.cell 1
  rw [World.size_alloc] at f6 y0 y1
  replace y0 : w2.cell? ⟨w.heap.size + 1, 0, none⟩ = some (.int .u32 0) := y0
  replace y1 : w2.cell? ⟨w.heap.size + 1, 1, none⟩ = some (.int .i64 0) := y1
  have q1 := or_u32 hm hu16
  go_still_tail 7, (by kernel_rfl)
  change wpList _ _ _ _ _ w2.drew
  clear q1
  go_wp2_with fail
  have z3 := (z2.out.set_ 0 (.int .u32 ((orN m u : Nat) : Int))).set_ 1 (.int .i64 x.2.1.o)
  rw [World.size_alloc] at z3
  have r0 := z3.drew.cell 0
  have r1 := z3.drew.cell 1
  have K3 : Keeps w ((w2.setCell ⟨w.heap.size + 1, 0, none⟩ (.int .u32 ((orN m u : Nat) : Int))).setCell ⟨w.heap.size + 1, 1, none⟩ (.int .i64 x.2.1.o)).drew := ((K2.out.setCell (by simp) _).setCell (by simp) _).drew
  generalize ((w2.setCell ⟨w.heap.size + 1, 0, none⟩ (.int .u32 ((orN m u : Nat) : Int))).setCell ⟨w.heap.size + 1, 1, none⟩ (.int .i64 x.2.1.o)).drew = w9 at *
  replace r0 : w9.cell? ⟨w.heap.size + 1, 0, none⟩ = some (.int .u32 ((orN m u : Nat) : Int)) := r0
  replace r1 : w9.cell? ⟨w.heap.size + 1, 1, none⟩ = some (.int .i64 x.2.1.o) := r1
  refine bodyPost_ret (v := .agg #[.int .u32 ((orN m u : Nat) : Int), .int .i64 x.2.1.o]) (by simp [results, Try.results42, go_sem, r0, r1]) rfl (after_post K3)
set_option maxRecDepth 100000 in
theorem free_any (d : List (List Int)) (us : List UnC) (g : Nat) (dA uA : Option Addr) (dc uc : Nat) (fv : Value) (w : World) (hs : SrIn d us w g dA uA dc uc fv) (hd : DistOk d) (x : UnC) (u : Nat) (hx : us[u]? = some x) (hox : isOff d x.2.1.o)
    (m : Nat) (now time : Int) (hn : now = -1 ∨ isOff d now) (h0 : -1 ≤ time) (h1 : time ≤ 1000001) (r : Bool) (hr : Hid (((x.2.1.o == now) && (beginF d now time x.2.1 == time)) = r)) :
    Calls Try.prog 65 #[.pointer (some ⟨g, 0, none⟩), .agg #[.int .u32 (m : Int), .int .i64 now], .int .i64 time, .int .i64 (u : Int)] w (BoolPost r w) := by
  obtain ⟨ub, uo, rfl, hub, hg, hu, F⟩ := hs.reads hx
  have HS := Lib.hid hs
  have me := meth_ends
  have ms := meth_span
  have b0 := Lib.hid (Blk.new w 94 #[.int .u32 (m : Int), .int .i64 now])
  have K0 := Lib.hid ((Keeps.refl w).alloc (.cells #[.int .u32 (m : Int), .int .i64 now] 94))
  obtain ⟨c0, c1, _, cu⟩ := F w (Keeps.refl w)
  have HF := Lib.hid F
  have hu0 : (0 : Int) ≤ (u : Int) ∧ (u : Int) < (us.length : Int) := ⟨by omega, by omega⟩
  have HX := Lib.hid hx
  clear hs F hx
  by_cases he : x.2.1.o = now
  · have HE := Lib.hid he
    have e1 : (x.2.1.o == now) = true := by simpa using he
    have hre : Hid ((beginF d now time x.2.1 == time) = r) := Lib.hid (by have := hr.out; rw [e1] at this; simpa using this)
    go_enter Try.func65, Try.ntmps65
    go_wp2_with (first | (go_at_call 95; (with_reducible refine (ends_any x _).mono ?_); rintro e w1 ⟨rfl, hk1⟩; have b1 := Lib.hid (b0.out.below hk1 b0.out.lt); have K1 := Lib.hid (K0.out.trans hk1); obtain ⟨c01, c11, _, cu1⟩ := HF.out w1 K1.out; have d11 := b1.out.cell 1; replace d11 : w1.cell? ⟨w.heap.size, 1, none⟩ = some (.int .i64 now) := d11; clear hk1) | (go_at_call 96; (with_reducible refine (span_any x _).mono ?_); rintro e w2 ⟨rfl, hk2⟩; have b2 := Lib.hid (b1.out.below hk2 b1.out.lt); have K2 := Lib.hid (K1.out.trans hk2); have d20 := b2.out.cell 0; have d21 := b2.out.cell 1; replace d20 : w2.cell? ⟨w.heap.size, 0, none⟩ = some (.int .u32 (m : Int)) := d20; replace d21 : w2.cell? ⟨w.heap.size, 1, none⟩ = some (.int .i64 now) := d21; clear hk2) | (go_at_call 41; (with_reducible refine (begin_any d us g dA _ dc uc fv _ (HS.out.keep K2.out) hd x u HX.out hox m now time hn h0 h1 _ (Lib.hid rfl)).mono ?_); rintro e w3 ⟨rfl, hk3⟩; have K3 := Lib.hid (K2.out.trans hk3); clear hk3))
    go_ret
    exact bool_post (by rw [← hre.out]) K3.out
  · have e1 : (x.2.1.o == now) = false := by simpa using he
    have hre : Hid (false = r) := Lib.hid (by have := hr.out; rw [e1] at this; simpa using this)
    go_enter Try.func65, Try.ntmps65
    go_wp2_with (go_at_call 95; (with_reducible refine (ends_any x _).mono ?_); rintro e w1 ⟨rfl, hk1⟩; have b1 := Lib.hid (b0.out.below hk1 b0.out.lt); have K1 := Lib.hid (K0.out.trans hk1); obtain ⟨c01, c11, _, cu1⟩ := HF.out w1 K1.out; have d11 := b1.out.cell 1; replace d11 : w1.cell? ⟨w.heap.size, 1, none⟩ = some (.int .i64 now) := d11; clear hk1)
    go_ret
    exact bool_post (by rw [← hre.out]) K1.out
theorem begin_zero (d : List (List Int)) (us : List UnC) (g : Nat) (dA uA : Option Addr) (dc uc : Nat) (fv : Value) (w : World) (hs : SrIn d us w g dA uA dc uc fv) (hd : DistOk d) (x : UnC) (u : Nat) (hx : us[u]? = some x) (hox : isOff d x.2.1.o)
    (now time : Int) (hn : now = -1 ∨ isOff d now) (h0 : -1 ≤ time) (h1 : time ≤ 1000001) (r : Int) (hr : Hid (beginF d now time x.2.1 = r)) :
    Calls Try.prog 41 #[.pointer (some ⟨g, 0, none⟩), .agg #[.int .u32 0, .int .i64 now], .int .i64 time, .int .i64 (u : Int)] w (IntPost r w) :=
  begin_any d us g dA uA dc uc fv w hs hd x u hx hox 0 now time hn h0 h1 r hr
set_option maxRecDepth 100000 in
theorem fits_any (d : List (List Int)) (us : List UnC) (g : Nat) (dA uA : Option Addr) (dc uc : Nat) (fv : Value) (w : World) (hs : SrIn d us w g dA uA dc uc fv) (hd : DistOk d) (x y : UnC) (i j : Nat) (hx : us[i]? = some x) (hy : us[j]? = some y)
    (hox : isOff d x.2.1.o) (hoy : isOff d y.2.1.o) (r : Bool) (hr : Hid (decide (0 ≤ beginF d x.2.1.o (clampLo x.2.1) y.2.1) = r)) :
    Calls Try.prog 59 #[.pointer (some ⟨g, 0, none⟩), .int .i64 (i : Int), .int .i64 (j : Int)] w (BoolPost r w) := by
  obtain ⟨ub, uo, rfl, hub, hg, hu, F⟩ := hs.reads hx
  have HS := Lib.hid hs
  have mw := meth_window
  have me := meth_ends
  have ms := meth_span
  obtain ⟨c0, c1, _, cu⟩ := F w (Keeps.refl w)
  have HF := Lib.hid F
  have hu0 : (0 : Int) ≤ (i : Int) ∧ (i : Int) < (us.length : Int) := ⟨by omega, by omega⟩
  have HY := Lib.hid hy
  have hcl := clamp_bnd x.2.1
  have hlw : IntKind.i64.wrap (clampLo x.2.1) = clampLo x.2.1 := wrap_in (by omega) (by omega)
  have hb0 := Lib.hid (show -1 ≤ clampLo x.2.1 by omega)
  have hb1 := Lib.hid (show clampLo x.2.1 ≤ 1000001 by omega)
  have hn := Lib.hid (show x.2.1.o = -1 ∨ isOff d x.2.1.o from .inr hox)
  clear hs F hx hy hcl
  go_enter Try.func59, Try.ntmps59
  go_wp2_with (first | (go_at_call 97; (with_reducible refine (window_any x _).mono ?_); rintro e w1 ⟨rfl, hk1⟩; have K1 := Lib.hid hk1; obtain ⟨c01, c11, _, cu1⟩ := HF.out w1 K1.out; clear hk1) | (go_at_call 95; (with_reducible refine (ends_any x _).mono ?_); rintro e w2 ⟨rfl, hk2⟩; have K2 := Lib.hid (K1.out.trans hk2); obtain ⟨c02, c12, _, cu2⟩ := HF.out w2 K2.out; clear hk2) | (go_at_call 96; (with_reducible refine (span_any x _).mono ?_); rintro e w3 ⟨rfl, hk3⟩; have K3 := Lib.hid (K2.out.trans hk3); clear hk3) | (go_at_call 41; (with_reducible refine (begin_zero d us g dA _ dc uc fv _ (HS.out.keep K3.out) hd y j HY.out hoy x.2.1.o _ hn.out hb0.out hb1.out _ (Lib.hid rfl)).mono ?_); rintro e w4 ⟨rfl, hk4⟩; have K4 := Lib.hid (K3.out.trans hk4); clear hk4))
  go_ret
  exact bool_post (by rw [← hr.out]) K4.out
end Go.Proofs.Ythkmpegpmpdhaaa
