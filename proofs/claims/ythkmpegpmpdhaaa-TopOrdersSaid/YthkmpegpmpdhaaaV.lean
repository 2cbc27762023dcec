/- Part of the proofs of TopMoney and TopOrders. Conditions: as stated in each theorem. -/
import Derived.Test.YthkmpegpmpdhaaaU
import Derived.Test.YthkmpegpmpdhaaaB
import Derived.Deep.CutRange
import Derived.StillTailTactics
import Derived.Lib.SliceRun
import Derived.RangeFuncRecord
import Derived.Carry
import Derived.ChangeKeysEq
import Derived.Test.YthkmpegpmpdhaaaRows
import Derived.WalkKit
import Derived.WalkSpells
import Derived.WalkLawsBesides
import Derived.Laws.EntriesVeiled
import Derived.ProofKit
import Derived.OpenShut
import Derived.Lib.Hide
import Derived.BigQuiet
import Derived.Deep.QuietTactic
import Derived.Below
import Derived.Laws.OwnMore
import Derived.Deep.AppendLies
import Derived.Deep.Draws
import Derived.Laws.Rows
import Derived.Maps.AppendAt
import Derived.RegionTactic
import Derived.OwnWalk
import Derived.Deep.RegionHeld3
namespace Go.Proofs.Ythkmpegpmpdhaaa
open Go.ChangeShapes Go.WideShapes Go.ChangeAt Go.RowKit
set_option linter.unusedSimpArgs false
set_option linter.unusedVariables false
/-- A slice's header, not looked into. -/
abbrev Hd := Option Addr × Nat × Nat
def hdV (h : Hd) : Value := .slice h.1 h.2.1 h.2.2
abbrev EvC := Ev × Hd
abbrev UnC := Nat × Ev × Hd
abbrev evR : RowTy EvC := { T := 80, S := 47, k := 4, by' := 48, enc := fun e => [.int .i64 e.1.o, .int .i64 e.1.lo, .int .i64 e.1.hi, hdV e.2] }
theorem evOk : RowOk Try.prog evR := ⟨fun _ => rfl, fun x u hu => by simp at hu; rcases hu with rfl | rfl | rfl | rfl <;> rfl, Try.underlying47, info_of (z := .agg #[.int .i64 0, .int .i64 0, .int .i64 0, .slice none 0 0]) (by kernel_rfl) rfl, by decide, by decide⟩
def unA (u : UnC) : Value := .agg #[.int .i64 (u.1 : Int), .int .i64 u.2.1.o, .int .i64 u.2.1.lo, .int .i64 u.2.1.hi, hdV u.2.2]
def unV (u : UnC) : Value := .iface 118 (unA u)
abbrev unR : RowTy UnC := { T := 97, S := 86, k := 1, by' := 16, enc := fun u => [unV u] }
theorem unOk : RowOk Try.prog unR := ⟨fun _ => rfl, fun x u hu => by simp at hu; subst hu; rfl, Try.underlying86, info_of (z := .nilIface) (by kernel_rfl) rfl, by decide, by decide⟩
/-- Masks. -/
abbrev mkR : RowTy Nat := { T := 27, S := 22, k := 1, by' := 4, enc := fun x => [.int .u32 (x : Int)] }
theorem mkOk : RowOk Try.prog mkR := ⟨fun _ => rfl, fun x u hu => by simp at hu; subst hu; rfl, Try.underlying22, info_of (z := .int .u32 0) (by kernel_rfl) rfl, by decide, by decide⟩
/-- States. -/
abbrev ksR : RowTy Ks := { T := 94, S := 127, k := 2, by' := 16, enc := fun x => [.int .u32 (x.1 : Int), .int .i64 x.2] }
theorem ksOk : RowOk Try.prog ksR := ⟨fun _ => rfl, fun x u hu => by simp at hu; rcases hu with rfl | rfl <;> rfl, Try.underlying127, info_of (z := .agg #[.int .u32 0, .int .i64 0]) (by kernel_rfl) rfl, by decide, by decide⟩
/-- A pair of numbers, with nothing turned. -/
def PairPost (a b : Int) (w : World) (e : Ending) (w' : World) : Prop := e = .returned (.tuple #[.int .i64 a, .int .i64 b]) ∧ Keeps w w'
theorem pair_post {a b c d : Int} {w w' : World} (h1 : a = c) (h2 : b = d) (hk : Keeps w w') : PairPost a b w (.returned (.tuple #[.int .i64 c, .int .i64 d])) w' := ⟨by rw [h1, h2], hk⟩
theorem clamp_any (o lo hi : Int) (h : Hd) (w : World) : Calls Try.prog 94 #[.agg #[.int .i64 o, .int .i64 lo, .int .i64 hi, hdV h]] w (PairPost (clampLo ⟨o, lo, hi⟩) (clampHi ⟨o, lo, hi⟩) w) := by
  have K := Lib.hid ((Keeps.refl w).alloc (.cells #[.int .i64 o, .int .i64 lo, .int .i64 hi, hdV h] 80))
  go_enter Try.func94, Try.ntmps94
  go_wp2_with fail
  go_quiet (fail)
  generalize hA : (if 1000001 < if lo < 0 then 0 else lo then 1000001 else if lo < 0 then 0 else lo) = A
  generalize hB : (if (if 1000000 < hi then 1000000 else hi) < -1 then -1 else if 1000000 < hi then 1000000 else hi) = B
  generalize (if lo < 0 then 0 else lo) = A1
  generalize (if 1000000 < hi then 1000000 else hi) = B1
  have EA := Lib.hid hA
  have EB := Lib.hid hB
  clear hA hB
  go_wp2_with fail
  go_ret2
  exact pair_post (by rw [← EA.out]; unfold clampLo; simp only; omega) (by rw [← EB.out]; unfold clampHi; simp only; omega) (K.out.drewN _)
theorem window_any (u : UnC) (w : World) : Calls Try.prog 97 #[unA u] w (PairPost (clampLo u.2.1) (clampHi u.2.1) w) := by
  obtain ⟨i, ⟨o, lo, hi⟩, h⟩ := u
  unfold unA
  simp only
  have K := Lib.hid ((Keeps.refl w).alloc (.cells #[.int .i64 (i : Int), .int .i64 o, .int .i64 lo, .int .i64 hi, hdV h] 118))
  go_enter Try.func97, Try.ntmps97
  go_wp2_with (go_at_call 94; (with_reducible refine (clamp_any o lo hi h _).mono ?_); rintro e w1 ⟨rfl, hk1⟩)
  go_ret2
  exact pair_post rfl rfl (K.out.trans hk1)
theorem ends_any (u : UnC) (w : World) : Calls Try.prog 95 #[unA u] w (PairPost u.2.1.o u.2.1.o w) := by
  obtain ⟨i, ⟨o, lo, hi⟩, h⟩ := u
  unfold unA
  simp only
  have K := Lib.hid ((Keeps.refl w).alloc (.cells #[.int .i64 (i : Int), .int .i64 o, .int .i64 lo, .int .i64 hi, hdV h] 118))
  go_enter Try.func95, Try.ntmps95
  go_wp2_with fail
  go_quiet (fail)
  go_wp2_with fail
  go_ret2
  exact pair_post rfl rfl (K.out.drewN _)
theorem span_any (u : UnC) (w : World) : Calls Try.prog 96 #[unA u] w fun e w' => e = .returned (.int .i64 0) ∧ Keeps w w' := by
  obtain ⟨i, ⟨o, lo, hi⟩, h⟩ := u
  unfold unA
  simp only
  have K := Lib.hid ((Keeps.refl w).alloc (.cells #[.int .i64 (i : Int), .int .i64 o, .int .i64 lo, .int .i64 hi, hdV h] 118))
  go_enter Try.func96, Try.ntmps96
  go_wp2_with fail
  go_ret
  exact ⟨rfl, K.out⟩
/-- Lists of lists. -/
def NumRows (w : World) (B : Nat) (A : Option Addr) (ls : List (List Int)) : Prop :=
  ∀ (k : Nat) (l : List Int), ls[k]? = some l → ∃ b off A' c', A = some ⟨b, off, none⟩ ∧ b < B ∧ w.cell? ⟨b, off + k, none⟩ = some (.slice A' l.length (l.length + c')) ∧ Nums .i64 w B A' l
section
variable {w w' : World} {B B' : Nat} {A : Option Addr} {ls : List (List Int)}
theorem NumRows.below (h : NumRows w B A ls) (hb : Below B w w') : NumRows w' B A ls := fun k l hk => by
  obtain ⟨b, off, A', c', e, hlt, h0, h1⟩ := h k l hk
  exact ⟨b, off, A', c', e, hlt, (hb.cell (p := ⟨b, _, none⟩) hlt).trans h0, h1.below hb⟩
theorem NumRows.more (h : NumRows w B A ls) (hb : B ≤ B') : NumRows w B' A ls := fun k l hk => by
  obtain ⟨b, off, A', c', e, hlt, h0, h1⟩ := h k l hk
  exact ⟨b, off, A', c', e, by omega, h0, h1.more hb⟩
theorem NumRows.keep (h : NumRows w w.heap.size A ls) (hk : Keeps w w') : NumRows w' w'.heap.size A ls := (NumRows.below h hk).more (Below.size hk)
theorem NumRows.grown {row : Option Nat} (h : NumRows w B A ls) (hg : w.grownBy w' row) (hB : B ≤ w.heap.size) (hr : ∀ g, row = some g → B ≤ g) : NumRows w' B A ls := h.below (by
  exact ⟨hg.os, hg.tape, hg.output, hg.size, fun i hi => hg.block i (by omega) (fun e => by have := hr i e.symm; omega)⟩)
end
/-- The distance read. -/
theorem rows_at {w : World} {B : Nat} {A : Option Addr} {d : List (List Int)} (h : NumRows w B A d) (hd : DistOk d) {i j : Int} (hi : isOff d i) (hj : isOff d j) :
    ∃ b off A' c' b2 off2, A = some ⟨b, off, none⟩ ∧ b < B ∧ w.cell? ⟨b, off + i.toNat, none⟩ = some (.slice A' d.length (d.length + c')) ∧ A' = some ⟨b2, off2, none⟩ ∧ b2 < B ∧ w.cell? ⟨b2, off2 + j.toNat, none⟩ = some (.int .i64 (dist d i j)) := by
  have hin : i.toNat < d.length := by have := hi.1; have := hi.2; omega
  have hx := List.getElem?_eq_getElem hin
  obtain ⟨b, off, A', c', e, hlt, h0, h1⟩ := h _ _ hx
  have hl : d[i.toNat].length = d.length := hd.sq _ (List.getElem_mem hin)
  have hjn : j.toNat < d[i.toNat].length := by have := hj.1; have := hj.2; omega
  obtain ⟨b2, off2, e2, hlt2, h2⟩ := h1 _ _ (List.getElem?_eq_getElem hjn)
  rw [hl] at h0
  refine ⟨b, off, A', c', b2, off2, e, hlt, h0, e2, hlt2, ?_⟩
  have : dist d i j = d[i.toNat][j.toNat] := by
    unfold dist at0
    simp [List.getD_eq_getElem?_getD, hin, hjn]
  rw [this]; exact h2
def plainU (us : List UnC) : List Un := us.map fun u => (u.1, u.2.1)
theorem plainU_at {us : List UnC} {k : Nat} {u : UnC} (h : us[k]? = some u) : evU (plainU us) k = u.2.1 ∧ ixU (plainU us) k = u.1 ∧ (plainU us)[k]? = some (u.1, u.2.1) := by
  have e : (plainU us)[k]? = some (u.1, u.2.1) := by simp [plainU, h]
  exact ⟨(evU_of e).1, (evU_of e).2, e⟩
theorem plainU_len (us : List UnC) : (plainU us).length = us.length := by simp [plainU]
/-- The search struct in memory. -/
structure SrIn (d : List (List Int)) (us : List UnC) (w : World) (g : Nat) (dA uA : Option Addr) (dc uc : Nat) (fv : Value) : Prop where
  blk : Blk w g 91 #[.slice dA d.length dc, .slice uA us.length uc, fv]
  rows : NumRows w w.heap.size dA d
  uns : RecIn unR w w.heap.size uA us
theorem SrIn.keep {d : List (List Int)} {us : List UnC} {w w' : World} {g : Nat} {dA uA : Option Addr} {dc uc : Nat} {fv : Value} (h : SrIn d us w g dA uA dc uc fv) (hk : Keeps w w') : SrIn d us w' g dA uA dc uc fv :=
  ⟨h.blk.below hk h.blk.lt, h.rows.keep hk, h.uns.keep hk⟩
theorem RecIn.un {us : List UnC} {w : World} {B : Nat} {A : Option Addr} (h : RecIn unR w B A us) {j : Nat} {x : UnC} (hj : us[j]? = some x) : ∃ b off, A = some ⟨b, off, none⟩ ∧ b < B ∧ w.cell? ⟨b, off + j, none⟩ = some (unV x) := by
  obtain ⟨b, off, e, hb, hc⟩ := h j x hj
  refine ⟨b, off, e, hb, ?_⟩
  have := hc 0 (unV x) rfl
  simpa using this
/-- A number, with nothing turned. -/
def IntPost (a : Int) (w : World) (e : Ending) (w' : World) : Prop := e = .returned (.int .i64 a) ∧ Keeps w w'
theorem int_post {a b : Int} {w w' : World} (h1 : a = b) (hk : Keeps w w') : IntPost a w (.returned (.int .i64 b)) w' := ⟨by rw [h1], hk⟩
/-- The units are at offices, and possible each. -/
structure UnOk (d : List (List Int)) (us : List UnC) : Prop where
  off : ∀ u ∈ us, isOff d u.2.1.o
  win : ∀ u ∈ us, clampLo u.2.1 ≤ clampHi u.2.1
theorem clamp_bnd (e : Ev) : 0 ≤ clampLo e ∧ clampLo e ≤ 1000001 ∧ -1 ≤ clampHi e ∧ clampHi e ≤ 1000000 := by
  unfold clampLo clampHi; omega
theorem meth_window (x : Value) (w : World) : (method 256 118 x "postilion/order.window").run Try.prog w = .ok (97, x) w := by kernel_rfl
theorem meth_ends (x : Value) (w : World) : (method 256 118 x "postilion/order.ends").run Try.prog w = .ok (95, x) w := by kernel_rfl
theorem meth_span (x : Value) (w : World) : (method 256 118 x "postilion/order.span").run Try.prog w = .ok (96, x) w := by kernel_rfl
theorem meth_write (x : Value) (w : World) : (method 256 118 x "postilion/order.write").run Try.prog w = .ok (98, x) w := by kernel_rfl
theorem wrap_in {x : Int} (h1 : -9000000000000000000 ≤ x) (h2 : x ≤ 9000000000000000000) : IntKind.i64.wrap x = x := IntWalk.i64_in _ (by omega)
/-- What the search reads, in all later worlds. -/
theorem SrIn.reads {d : List (List Int)} {us : List UnC} {w : World} {g : Nat} {dA uA : Option Addr} {dc uc : Nat} {fv : Value} (hs : SrIn d us w g dA uA dc uc fv) {u : Nat} {x : UnC} (hx : us[u]? = some x) :
    ∃ ub uo, uA = some ⟨ub, uo, none⟩ ∧ ub < w.heap.size ∧ g < w.heap.size ∧ u < us.length ∧ ∀ W, Keeps w W → W.cell? ⟨g, 0, none⟩ = some (.slice dA d.length dc) ∧ W.cell? ⟨g, 1, none⟩ = some (.slice (some ⟨ub, uo, none⟩) us.length uc) ∧ W.cell? ⟨g, 2, none⟩ = some fv ∧ W.cell? ⟨ub, uo + u, none⟩ = some (.iface 118 (unA x)) := by
  obtain ⟨ub, uo, rfl, hub, cu⟩ := hs.uns.un hx
  refine ⟨ub, uo, rfl, hub, hs.blk.lt, (List.getElem?_eq_some_iff.1 hx).1, fun W hk => ⟨?_, ?_, ?_, ?_⟩⟩
  · exact cell_keep (hs.blk.cell 0) hk
  · exact cell_keep (hs.blk.cell 1) hk
  · exact cell_keep (hs.blk.cell 2) hk
  · exact cell_keep cu hk
set_option maxRecDepth 100000 in
set_option maxHeartbeats 1000000 in
theorem begin_any (d : List (List Int)) (us : List UnC) (g : Nat) (dA uA : Option Addr) (dc uc : Nat) (fv : Value) (w : World) (hs : SrIn d us w g dA uA dc uc fv) (hd : DistOk d) (x : UnC) (u : Nat) (hx : us[u]? = some x) (hox : isOff d x.2.1.o)
    (m : Nat) (now time : Int) (hn : now = -1 ∨ isOff d now) (h0 : -1 ≤ time) (h1 : time ≤ 1000001) (r : Int) (hr : Hid (beginF d now time x.2.1 = r)) :
    Calls Try.prog 41 #[.pointer (some ⟨g, 0, none⟩), .agg #[.int .u32 (m : Int), .int .i64 now], .int .i64 time, .int .i64 (u : Int)] w (IntPost r w) := by
  obtain ⟨ub, uo, rfl, hub, hg, hu, F⟩ := hs.reads hx
  have HS := Lib.hid hs
  have mw := meth_window
  have me := meth_ends
  have b0 := Lib.hid (Blk.new w 94 #[.int .u32 (m : Int), .int .i64 now])
  have K0 := Lib.hid ((Keeps.refl w).alloc (.cells #[.int .u32 (m : Int), .int .i64 now] 94))
  obtain ⟨c0, c1, _, cu⟩ := F w (Keeps.refl w)
  have HF := Lib.hid F
  have hu0 : (0 : Int) ≤ (u : Int) ∧ (u : Int) < (us.length : Int) := ⟨by omega, by omega⟩
  have hcl := Lib.hid (clamp_bnd x.2.1)
  have HX := Lib.hid hx
  clear hs F hx
  go_enter Try.func41, Try.ntmps41
  go_upto_region 4 with (first | (go_at_call 97; (with_reducible refine (window_any x _).mono ?_); rintro e w1 ⟨rfl, hk1⟩; have b1 := Lib.hid (b0.out.below hk1 b0.out.lt); have K1 := Lib.hid (K0.out.trans hk1); obtain ⟨c01, c11, _, cu1⟩ := HF.out w1 K1.out; clear hk1) | (go_at_call 95; (with_reducible refine (ends_any x _).mono ?_); rintro e w2 ⟨rfl, hk2⟩; have b2 := Lib.hid (b1.out.below hk2 b1.out.lt); have K2 := Lib.hid (K1.out.trans hk2); obtain ⟨c02, c12, _, cu2⟩ := HF.out w2 K2.out; clear hk2))
  have d2 : w2.cell? ⟨w.heap.size, 1, none⟩ = some (.int .i64 now) := b2.out.cell 1
  generalize hlo : clampLo x.2.1 = lo at *
  generalize hhi : clampHi x.2.1 = hi at *
  have hcl' := hcl.out
  obtain ⟨hl0, hl1, hh0, hh1⟩ := hcl'
  have HLO := Lib.hid hlo
  have HHI := Lib.hid hhi
  clear hlo hhi hcl
  have hmx : ∀ (a b : Int), (if b < a then a else b) = max a b := fun a b => by omega
  rcases hn with rfl | hn
  · have q1 : ((-1 : Int) != -1) = false := rfl
    have q2 : ((0 : Int) == -1) = false := rfl
    have hw0 : IntKind.i64.wrap time = time := wrap_in (by omega) (by omega)
    by_cases hc : hi < time
    · have E := Lib.hid (show beginF d (-1) time x.2.1 = -1 by unfold beginF; rw [HHI.out]; simp; omega)
      go_wp2_with fail
      go_ret
      exact int_post (by rw [← hr.out, E.out]) K2.out
    · have E := Lib.hid (show beginF d (-1) time x.2.1 = max time lo by unfold beginF; rw [HHI.out, HLO.out]; simp; omega)
      go_wp2_with fail
      go_ret
      exact int_post (by rw [← hr.out, E.out]) K2.out
  · have q1 : (now != (-1 : Int)) = true := by have := hn.1; simp; omega
    have hnn := hn.1
    obtain ⟨db, dof, A', c', b2', of2, rfl, hdb, cr, rfl, hb2, cc⟩ := rows_at (HS.out.keep K2.out).rows hd hn hox
    have hbn := hd.bnd now x.2.1.o hn hox
    have i1 : (0 : Int) ≤ now ∧ now < (d.length : Int) := hn
    have i2 : (0 : Int) ≤ x.2.1.o ∧ x.2.1.o < (d.length : Int) := hox
    have j1 : ((now.toNat : Nat) : Int) = now := by omega
    generalize hfar : dist d now x.2.1.o = far at *
    have HFAR := Lib.hid hfar
    have hbe : beginF d now time x.2.1 = if far = -1 ∨ hi < time + far then -1 else max lo (time + far) := by
      have hne : ¬ now = -1 := by omega
      unfold beginF
      simp only [hne, if_false]
      rw [HHI.out, HLO.out, HFAR.out]
    have HBE := Lib.hid hbe
    clear hfar hbe
    have hwf : IntKind.i64.wrap (time + far) = time + far := wrap_in (by omega) (by omega)
    go_wp2_with fail
    go_quiet (fail)
    by_cases hf : far = -1
    · subst hf
      have E := Lib.hid (show beginF d now time x.2.1 = -1 by rw [HBE.out]; simp)
      go_wp2_with fail
      go_ret
      exact int_post (by rw [← hr.out, E.out]) (K2.out.drewN _)
    · have q2 : (far == (-1 : Int)) = false := by simpa using hf
      by_cases hc : hi < time + far
      · have E := Lib.hid (show beginF d now time x.2.1 = -1 by rw [HBE.out, if_pos (.inr hc)])
        go_wp2_with fail
        go_ret
        exact int_post (by rw [← hr.out, E.out]) (K2.out.drewN _)
      · have E := Lib.hid (show beginF d now time x.2.1 = max (time + far) lo by rw [HBE.out, if_neg (by omega)]; omega)
        go_wp2_with fail
        go_ret
        exact int_post (by rw [← hr.out, E.out]) (K2.out.drewN _)
end Go.Proofs.Ythkmpegpmpdhaaa
