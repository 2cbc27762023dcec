/- Part of the proof of TopOwnItem. Conditions: as stated in each theorem. -/
import Derived.Test.YthkmpegpmpdhaaaGreatDoorZNh
import Derived.Test.YthkmpegpmpdhaaaGreatDoorZNj
import Derived.Test.YthkmpegpmpdhaaaGreatDoorProg
import Derived.WalkMore
import Derived.LoopN
import Derived.Lib.ConvBytes
import Derived.Maps.OwnIn
import Derived.Deep.LoopGhost
import Derived.RangeFuncNested
import Derived.RangeFuncCalls
import Derived.RangeFuncLeaves
import Derived.RangeFuncWrites
import Derived.Shelf.Abstract
import Derived.Shelf.RegionOpen
import Derived.OwnWalkIn
import Derived.TacticsInMore
import Derived.LoopNIn
import Derived.LoopIn
import Derived.RangeFuncBound
import Derived.Laws.IdiomCopy
import Derived.WalkKit
import Derived.WalkSpells
import Derived.WalkLawsBesides
import Derived.Laws.EntriesVeiled
import Derived.ProofKit
import Derived.OpenShut
import Derived.Lib.Hide
import Derived.BigQuiet
import Derived.Deep.QuietTactic
import Derived.Deep.CutRange
import Derived.StillTailTactics
import Derived.Lib.SliceRun
import Derived.RangeFuncRecord
import Derived.Carry
import Derived.ChangeKeysEq
import Derived.Below
import Derived.Laws.OwnMore
import Derived.Deep.AppendLies
import Derived.Deep.Draws
import Derived.Laws.Rows
import Derived.Maps.AppendAt
import Derived.RegionTactic
import Derived.OwnWalk
import Derived.Deep.RegionHeld3
namespace Go.Proofs.YthkmpegpmpdhaaaGreatDoor
section
open Go.Shelf Go.ChangeShapes Go.WideShapes Go.ChangeAt Go.RowKit
set_option linter.unusedSimpArgs false
set_option linter.unusedVariables false
/-- The cells of an item. -/
abbrev itC (c : UInt8) (st se : Value) (ib lb : Nat) (ho li le : Int) : Array Value := #[.string ⟨#[c]⟩, .int .i64 0, .int .i64 1, .int .i64 0, .int .i64 100, st, .bool false, .slice (some ⟨ib, 0, none⟩) 1 1, .slice (some ⟨lb, 0, none⟩) 1 1, se, .int .i64 ho, .int .i64 li, .int .i64 le]
/-- The five methods. -/
abbrev actL (hb : Nat) : List (Int × Value) := [(1, .func (.func 127) #[.pointer (some ⟨hb, 0, none⟩)] #[]), (2, .func (.func 128) #[.pointer (some ⟨hb, 0, none⟩)] #[]), (3, .func (.func 129) #[.pointer (some ⟨hb, 0, none⟩)] #[]), (4, .func (.func 130) #[.pointer (some ⟨hb, 0, none⟩)] #[]), (5, .func (.func 131) #[.pointer (some ⟨hb, 0, none⟩)] #[])]
set_option maxHeartbeats 4000000 in
theorem actions77 (hb : Nat) (w : World) : Calls Tryz.prog 77 #[.pointer (some ⟨hb, 0, none⟩)] w fun e w' => ∃ r, e = .returned (.map (some r)) ∧ w.heap.size ≤ r ∧ MapIs ivK w' r (actL hb) ∧ Keeps w w' := by
  have hmk := @run_makeMap Tryz.prog
  have m0 := MapIs.made (kv := ivK) w
  obtain ⟨X1, X2, X3, X4, X5, e1, e2, e3, e4, e5, mr, g1, g2, g3, g4, g5⟩ := ins5 Tryz.underlying171 _ _ m0 (.func (.func 127) #[.pointer (some ⟨hb, 0, none⟩)] #[]) (.func (.func 128) #[.pointer (some ⟨hb, 0, none⟩)] #[]) (.func (.func 129) #[.pointer (some ⟨hb, 0, none⟩)] #[]) (.func (.func 130) #[.pointer (some ⟨hb, 0, none⟩)] #[]) (.func (.func 131) #[.pointer (some ⟨hb, 0, none⟩)] #[])
  have kX := (Keeps.refl w).alloc (.map #[] 0)
  have K5 := Lib.hid (grown_keepsr (grown_keepsr (grown_keepsr (grown_keepsr (grown_keepsr kX g1 (Nat.le_refl _)) g2 (Nat.le_refl _)) g3 (Nat.le_refl _)) g4 (Nat.le_refl _)) g5 (Nat.le_refl _))
  have M5 := Lib.hid mr
  clear m0 g1 g2 g3 g4 g5 kX mr
  go_enter Tryz.func77, Tryz.ntmps77
  go_wp2_with fail
  go_ret
  exact ⟨_, rfl, Nat.le_refl _, M5.out, K5.out⟩
set_option maxHeartbeats 4000000 in
theorem last133 (i sb n cc : Nat) (w : World) (hc : w.cell? ⟨i, 5, none⟩ = some (.slice (some ⟨sb, 0, none⟩) n cc)) (hn : n = 1 ∨ n = 2) : Calls Tryz.prog 133 #[.pointer (some ⟨i, 0, none⟩)] w fun e w' => e = .returned (.pointer (some ⟨sb, (n - 1) * 4, none⟩)) ∧ ∃ m, w' = w.drewN m := by
  rcases hn with rfl | rfl
  · go_enter Tryz.func133, Tryz.ntmps133
    go_wp2_with (go_quiet (fail))
    go_ret
    exact ⟨rfl, _, rfl⟩
  · go_enter Tryz.func133, Tryz.ntmps133
    go_wp2_with (go_quiet (fail))
    go_ret
    exact ⟨rfl, _, rfl⟩
set_option maxHeartbeats 4000000 in
theorem carried167 (i lb : Nat) (s : ByteArray) (w : World) (hc : w.cell? ⟨i, 8, none⟩ = some (.slice (some ⟨lb, 0, none⟩) 1 1)) (hl : w.cell? ⟨lb, 0, none⟩ = some (.string s)) : Calls Tryz.prog 167 #[.pointer (some ⟨i, 0, none⟩)] w fun e w' => e = .returned (.string s) ∧ ∃ m, w' = w.drewN m := by
  go_enter Tryz.func167, Tryz.ntmps167
  go_wp2_with (go_quiet (fail))
  go_ret
  exact ⟨rfl, _, rfl⟩
/-- Where the example lies. -/
structure Ad where
  bw : Nat
  bc : Nat
  bn : Nat
  bo : Nat
  bf : Nat
  bl : Nat
  bk : Nat
  nx : Nat
  r0 : Nat
  r1 : Nat
  hb : Nat
  mm : Nat
  cm : Nat
/-- The cells of the history. -/
abbrev hiC (A : Ad) (its : Value) : Array Value := #[.slice (some ⟨A.bc, 0, none⟩) 1 1, .slice (some ⟨A.bn, 0, none⟩) 1 1, .slice (some ⟨A.bo, 0, none⟩) 2 2, .slice (some ⟨A.bf, 0, none⟩) 2 2, .slice (some ⟨A.bl, 0, none⟩) 2 2, .slice (some ⟨A.bk, 0, none⟩) 1 1, .slice (some ⟨A.nx, 0, none⟩) 2 2, its, .map (some A.mm), .map (some A.cm)]
/-- The history, its network and its plan. -/
structure HiS (w0 : World) (A : Ad) (its : Value) (l : List (ByteArray × Value)) (W : World) : Prop where
  k : Keeps w0 W
  net : Net w0 A.bw A.bc A.bn A.bo A.bf A.bl A.bk
  kw : Kw w0
  pl : Pln w0 A.nx A.r0 A.r1
  hb : Blk W A.hb 170 (hiC A its)
  mm : MapIs strK W A.mm l
  cm : MapIs ivK W A.cm []
  hl : w0.heap.size ≤ A.hb
theorem HiS.keep {w0 W W' : World} {A : Ad} {its : Value} {l : List (ByteArray × Value)} (h : HiS w0 A its l W) (hk : Keeps W W') : HiS w0 A its l W' := ⟨h.k.trans hk, h.net, h.kw, h.pl, h.hb.kp hk, h.mm.kp hk, h.cm.kp hk, h.hl⟩
theorem Blk.ne_map {κ : Type} {kv : κ → Value} {W : World} {g r : Nat} {t : TypeId} {cs : Array Value} {l : List (κ × Value)} (h : Blk W g t cs) (m : MapIs kv W r l) : r ≠ g := fun e => by
  obtain ⟨es, cl, hr, -⟩ := m
  unfold Blk at h
  rw [e, h] at hr
  cases hr
theorem HiS.grow {w0 W W' : World} {A : Ad} {its : Value} {l : List (ByteArray × Value)} {i : Nat} {t : TypeId} {cs : Array Value} (h : HiS w0 A its l W) (hg : W.grownBy W' (some i)) (hi : Blk W i t cs) (ht : t ≠ 170) (hlo : w0.heap.size ≤ i) : HiS w0 A its l W' :=
  ⟨grown_keepsr h.k hg hlo, h.net, h.kw, h.pl, h.hb.grown hg (fun e => by cases e; exact h.hb.ne_ hi (fun e2 => ht e2.symm) rfl), h.mm.same (hg.block _ h.mm.lt (fun e => by cases e; exact hi.ne_map h.mm rfl)), h.cm.same (hg.block _ h.cm.lt (fun e => by cases e; exact hi.ne_map h.cm rfl)), h.hl⟩
theorem HiS.cells {w0 W : World} {A : Ad} {its : Value} {l : List (ByteArray × Value)} (h : HiS w0 A its l W) :
    W.cell? ⟨A.hb, 0, none⟩ = some (.slice (some ⟨A.bc, 0, none⟩) 1 1) ∧ W.cell? ⟨A.hb, 1, none⟩ = some (.slice (some ⟨A.bn, 0, none⟩) 1 1) ∧ W.cell? ⟨A.hb, 2, none⟩ = some (.slice (some ⟨A.bo, 0, none⟩) 2 2) ∧ W.cell? ⟨A.hb, 3, none⟩ = some (.slice (some ⟨A.bf, 0, none⟩) 2 2) ∧ W.cell? ⟨A.hb, 4, none⟩ = some (.slice (some ⟨A.bl, 0, none⟩) 2 2) ∧ W.cell? ⟨A.hb, 5, none⟩ = some (.slice (some ⟨A.bk, 0, none⟩) 1 1) ∧ W.cell? ⟨A.hb, 6, none⟩ = some (.slice (some ⟨A.nx, 0, none⟩) 2 2) ∧ W.cell? ⟨A.hb, 7, none⟩ = some its ∧ W.cell? ⟨A.hb, 8, none⟩ = some (.map (some A.mm)) ∧ W.cell? ⟨A.hb, 9, none⟩ = some (.map (some A.cm)) :=
  ⟨h.hb.cell 0, h.hb.cell 1, h.hb.cell 2, h.hb.cell 3, h.hb.cell 4, h.hb.cell 5, h.hb.cell 6, h.hb.cell 7, h.hb.cell 8, h.hb.cell 9⟩
theorem HiS.find {w0 W : World} {A : Ad} {its : Value} {l : List (ByteArray × Value)} (h : HiS w0 A its l W) {c : UInt8} {p : Nat × Value} (hl : lookF strE ⟨#[c]⟩ l 0 = some p) : (Instr.lookup 167 (.map (some A.mm)) (.string ⟨#[c]⟩) false).run Tryz.prog W = .ok p.2 W := by
  have := run_lookup_is (strKeys (P := Tryz.prog) (K := 9) Tryz.underlying9) Tryz.underlying167 false ⟨#[c]⟩ W A.mm l h.mm (.pointer none) (by kernel_rfl)
  have hl' : lookF (fun a b : ByteArray => a == b) ⟨#[c]⟩ l 0 = some p := hl
  rw [hl'] at this
  simpa using this
theorem HiS.free {w0 W : World} {A : Ad} {its : Value} {l : List (ByteArray × Value)} (h : HiS w0 A its l W) (x : Int) : (Instr.lookup 79 (.map (some A.cm)) (.int .i64 x) false).run Tryz.prog W = .ok (.bool false) W := by
  have := run_lookup_is (intKeys (P := Tryz.prog) (K := 3) (q := .i64) (k := .i64) Tryz.underlying3) Tryz.underlying79 false x W A.cm [] h.cm (.bool false) (by kernel_rfl)
  simpa [lookF] using this
/-- An item and its small rows. -/
structure ItS (c : UInt8) (i ib lb sb n sc : Nat) (se : Value) (ho li le : Int) (W : World) : Prop where
  it : Blk W i 176 (itC c (.slice (some ⟨sb, 0, none⟩) n sc) se ib lb ho li le)
  ib : Blk W ib 3 #[.int .i64 100]
  lb : Blk W lb 9 #[.string ⟨#[c]⟩]
theorem ItS.keep {c : UInt8} {i ib lb sb n sc : Nat} {se : Value} {ho li le : Int} {W W' : World} (h : ItS c i ib lb sb n sc se ho li le W) (hk : Keeps W W') : ItS c i ib lb sb n sc se ho li le W' := ⟨h.it.kp hk, h.ib.kp hk, h.lb.kp hk⟩
theorem ItS.grow {c : UInt8} {i ib lb sb n sc sb' n' sc' : Nat} {se se' : Value} {ho li le ho' li' le' : Int} {W W' : World} (h : ItS c i ib lb sb n sc se ho li le W) (hg : W.grownBy W' (some i)) (hi : Blk W' i 176 (itC c (.slice (some ⟨sb', 0, none⟩) n' sc') se' ib lb ho' li' le')) : ItS c i ib lb sb' n' sc' se' ho' li' le' W' :=
  ⟨hi, h.ib.grown hg (fun e => by cases e; exact h.ib.ne_ h.it (by decide) rfl), h.lb.grown hg (fun e => by cases e; exact h.lb.ne_ h.it (by decide) rfl)⟩
theorem ItS.cells {c : UInt8} {i ib lb sb n sc : Nat} {se : Value} {ho li le : Int} {W : World} (h : ItS c i ib lb sb n sc se ho li le W) :
    W.cell? ⟨i, 2, none⟩ = some (.int .i64 1) ∧ W.cell? ⟨i, 5, none⟩ = some (.slice (some ⟨sb, 0, none⟩) n sc) ∧ W.cell? ⟨i, 6, none⟩ = some (.bool false) ∧ W.cell? ⟨i, 7, none⟩ = some (.slice (some ⟨ib, 0, none⟩) 1 1) ∧ W.cell? ⟨i, 8, none⟩ = some (.slice (some ⟨lb, 0, none⟩) 1 1) ∧ W.cell? ⟨i, 9, none⟩ = some se ∧ W.cell? ⟨i, 10, none⟩ = some (.int .i64 ho) ∧ W.cell? ⟨i, 11, none⟩ = some (.int .i64 li) ∧ W.cell? ⟨i, 12, none⟩ = some (.int .i64 le) ∧ W.cell? ⟨ib, 0, none⟩ = some (.int .i64 100) ∧ W.cell? ⟨lb, 0, none⟩ = some (.string ⟨#[c]⟩) ∧ W.frozen? ⟨i, 5, none⟩ = false ∧ W.frozen? ⟨i, 9, none⟩ = false ∧ W.frozen? ⟨i, 10, none⟩ = false ∧ W.frozen? ⟨i, 11, none⟩ = false ∧ W.frozen? ⟨i, 12, none⟩ = false :=
  ⟨h.it.cell 2, h.it.cell 5, h.it.cell 6, h.it.cell 7, h.it.cell 8, h.it.cell 9, h.it.cell 10, h.it.cell 11, h.it.cell 12, h.ib.cell 0, h.lb.cell 0, h.it.frozen 5, h.it.frozen 9, h.it.frozen 10, h.it.frozen 11, h.it.frozen 12⟩
theorem grown_set (W : World) (i k : Nat) (v : Value) : W.grownBy (W.setCell ⟨i, k, none⟩ v) (some i) :=
  ⟨rfl, rfl, rfl, by simp, fun j hj hne => Below.heap_setCell W _ _ j (fun e => hne (by rw [e]))⟩
theorem ItS.line {c : UInt8} {i ib lb sb n sc : Nat} {se : Value} {ho li le : Int} {W : World} (h : ItS c i ib lb sb n sc se ho li le W) (x : Int) : ItS c i ib lb sb n sc se ho x le (W.setCell ⟨i, 11, none⟩ (.int .i64 x)) :=
  h.grow (grown_set W i 11 _) (by simpa using h.it.set_ 11 (.int .i64 x))
theorem ItS.leave {c : UInt8} {i ib lb sb n sc : Nat} {se : Value} {ho li le : Int} {W : World} (h : ItS c i ib lb sb n sc se ho li le W) (x : Int) : ItS c i ib lb sb n sc se ho li x (W.setCell ⟨i, 12, none⟩ (.int .i64 x)) :=
  h.grow (grown_set W i 12 _) (by simpa using h.it.set_ 12 (.int .i64 x))
theorem HiS.findN {w0 W : World} {A : Ad} {its : Value} {l : List (ByteArray × Value)} (h : HiS w0 A its l W) {c : UInt8} {p : Nat × Value} (hl : lookF strE ⟨#[c]⟩ l 0 = some p) (n : Nat) : (Instr.lookup 167 (.map (some A.mm)) (.string ⟨#[c]⟩) false).run Tryz.prog (W.drewN n) = .ok p.2 (W.drewN n) := (h.keep ((Keeps.refl W).drewN n)).find hl
theorem HiS.freeN {w0 W : World} {A : Ad} {its : Value} {l : List (ByteArray × Value)} (h : HiS w0 A its l W) (x : Int) (n : Nat) : (Instr.lookup 79 (.map (some A.cm)) (.int .i64 x) false).run Tryz.prog (W.drewN n) = .ok (.bool false) (W.drewN n) := (h.keep ((Keeps.refl W).drewN n)).free x
theorem HiS.more {w0 W : World} {A : Ad} {its : Value} {l : List (ByteArray × Value)} (h : HiS w0 A its l W) : W.cell? ⟨A.nx, 0, none⟩ = some (.slice (some ⟨A.r0, 0, none⟩) 2 2) ∧ W.cell? ⟨A.r0, 1, none⟩ = some (.int .i64 0) ∧ W.cell? ⟨A.bf, 0, none⟩ = some (.string ⟨#[97]⟩) ∧ W.cell? ⟨A.bf, 1, none⟩ = some (.int .i64 0) ∧ W.cell? ⟨A.bf, 2, none⟩ = some (.int .i64 0) ∧ W.cell? ⟨A.bf, 3, none⟩ = some (.int .i64 2) ∧ W.cell? ⟨A.bf, 4, none⟩ = some (.int .i64 1) ∧ W.cell? ⟨A.bf, 5, none⟩ = some (.int .i64 10) ∧ W.cell? ⟨A.bf, 6, none⟩ = some (.slice none 0 0) :=
  ⟨(h.pl.nx.kp h.k).cell 0, (h.pl.r0.kp h.k).cell 1, (h.net.of_.kp h.k).cell 0, (h.net.of_.kp h.k).cell 1, (h.net.of_.kp h.k).cell 2, (h.net.of_.kp h.k).cell 3, (h.net.of_.kp h.k).cell 4, (h.net.of_.kp h.k).cell 5, (h.net.of_.kp h.k).cell 6⟩
section
attribute [local go_sem] Oper.semAt_some
set_option maxRecDepth 100000 in
set_option maxHeartbeats 8000000 in
theorem decide_go (w0 : World) (A : Ad) (its : Value) (l : List (ByteArray × Value)) (c : UInt8) (i ib lb sb sc k : Nat) (se : Value) (li le : Int) (w : World) (H : HiS w0 A its l w) (hI : ItS c i ib lb sb 1 sc se 0 li le w) (hs : Blk w sb 192 #[.int .i64 0, .int .i64 100, .int .i64 (-1), .int .i64 (-1)])
    (hf : lookF strE ⟨#[c]⟩ l 0 = some (k, .pointer (some ⟨i, 0, none⟩))) (hlo : w0.heap.size ≤ i) :
    Calls Tryz.prog 134 #[.pointer (some ⟨A.hb, 0, none⟩), .pointer (some ⟨i, 0, none⟩)] w fun e w' => (∃ v, e = .returned v) ∧ HiS w0 A its l w' ∧ ItS c i ib lb sb 1 sc se 0 0 480 w' ∧ w.grownBy w' (some i) := by
  have hsi : sb ≠ i := hs.ne_ hI.it (by decide)
  have G1 := grown_set w i 11 (.int .i64 (-1))
  have H1 := Lib.hid (H.grow G1 hI.it (by decide) hlo)
  have I1 := Lib.hid (hI.line (-1))
  have S1 := Lib.hid (hs.grown G1 (fun e => by cases e; exact hsi rfl))
  have HG := Lib.hid G1
  have C2 := Lib.hid (fun X (hX : HiS w0 A its l X) => depart166 A.bw A.bc A.bn A.bo A.bf A.bl A.bk X (hX.net.keep hX.k) (hX.kw.keep hX.k))
  have q11 := hI.it.cell 11
  have f11 := hI.it.frozen 11
  simp only [itC] at q11
  clear G1 H hI hs
  go_enter Tryz.func134, Tryz.ntmps134
  go_upto_region 1 with fail
  clear q11 f11
  generalize w.setCell ⟨i, 11, none⟩ (.int .i64 (-1)) = W1 at *
  obtain ⟨i2, i5, i6, i7, i8, i9, i10, i11, i12, i13, i14, g5, g9, g10, g11, g12⟩ := I1.out.cells
  go_upto_region 2 with (go_at_call 133; (with_reducible refine (last133 i sb 1 sc W1 i5 (.inl rfl)).mono ?_); rintro e w2 ⟨rfl, m, rfl⟩)
  have K2 := (Keeps.refl W1).drewN m
  have H2 := Lib.hid (H1.out.keep K2)
  have I2 := Lib.hid (I1.out.keep K2)
  have S2 := Lib.hid (S1.out.kp K2)
  have G2 := Lib.hid (HG.out.trans (grown_of_keeps K2 (some i)))
  clear K2 H1 I1 S1 HG i2 i5 i6 i7 i8 i9 i10 i11 i12 i13 i14 g5 g9 g10 g11 g12
  generalize W1.drewN m = W2 at *
  clear m W1
  obtain ⟨i2, i5, i6, i7, i8, i9, i10, i11, i12, i13, i14, g5, g9, g10, g11, g12⟩ := I2.out.cells
  obtain ⟨h0, h1, h2, h3, h4, h5, h6, h7, h8, h9⟩ := H2.out.cells
  obtain ⟨p0, p1, o0, o1, o2, o3, o4, o5, o6⟩ := H2.out.more
  have s0 : W2.cell? ⟨sb, 0, none⟩ = some (.int .i64 0) := S2.out.cell 0
  have s1 : W2.cell? ⟨sb, 1, none⟩ = some (.int .i64 100) := S2.out.cell 1
  have fN := H2.out.findN hf
  have eN := fun n => H2.out.freeN 0 n
  have C1 := Lib.hid (fun n => carried167 i lb ⟨#[c]⟩ (W2.drewN n) i8 i14)
  simp only at fN
  go_quiet ((go_at_call 167; exact Calls.quiet_of (C1.out _)))
  generalize nq = nq1
  clear nq
  go_upto_region 6 with (go_quiet (fail))
  have K3 := (Keeps.refl W2).drewN (nq1 + nq)
  have H3 := Lib.hid (H2.out.keep K3)
  have I3 := Lib.hid (I2.out.keep K3)
  have S3 := Lib.hid (S2.out.kp K3)
  have G3 := Lib.hid (G2.out.trans (grown_of_keeps K3 (some i)))
  clear K3 H2 I2 S2 G2 i2 i5 i6 i7 i8 i9 i10 i11 i12 i13 i14 g5 g9 g10 g11 g12 h0 h1 h2 h3 h4 h5 h6 h7 h8 h9 p0 p1 o0 o1 o2 o3 o4 o5 o6 s0 s1 fN eN C1
  generalize W2.drewN (nq1 + nq) = W3 at *
  clear nq1 nq W2
  have h3 := H3.out.cells.2.2.2.1
  obtain ⟨p0, p1, o0, o1, o2, o3, o4, o5, o6⟩ := H3.out.more
  have s0 : W3.cell? ⟨sb, 0, none⟩ = some (.int .i64 0) := S3.out.cell 0
  clear p0 p1
  have kz := (Keeps.refl W3).alloc (.cells #[.string ⟨#[]⟩, .int .i64 0, .int .i64 0, .int .i64 0, .int .i64 0, .int .i64 0, .slice none 0 0] 158)
  have BZ := Blk.new W3 158 #[.string ⟨#[]⟩, .int .i64 0, .int .i64 0, .int .i64 0, .int .i64 0, .int .i64 0, .slice none 0 0]
  have HZ := H3.out.keep kz
  have SZ := S3.out.kp kz
  have KZ := Lib.hid kz
  have BBZ := Lib.hid BZ
  have z0 := BZ.cell 0; have z1 := BZ.cell 1; have z2 := BZ.cell 2; have z3 := BZ.cell 3; have z4 := BZ.cell 4; have z5 := BZ.cell 5; have z6 := BZ.cell 6
  have y0 := BZ.frozen 0; have y1 := BZ.frozen 1; have y2 := BZ.frozen 2; have y3 := BZ.frozen 3; have y4 := BZ.frozen 4; have y5 := BZ.frozen 5; have y6 := BZ.frozen 6
  have zh3 := HZ.cells.2.2.2.1
  obtain ⟨p0, p1, zo0, zo1, zo2, zo3, zo4, zo5, zo6⟩ := HZ.more
  have zs0 := SZ.cell 0
  clear p0 p1 kz BZ HZ SZ
  go_region
  go_upto_region 7 with fail
  have K4 := ((Keeps.refl W3).alloc (.cells #[.string ⟨#[97]⟩, .int .i64 0, .int .i64 0, .int .i64 2, .int .i64 1, .int .i64 10, .slice none 0 0] 158)).drew
  have B4 := (Blk.new W3 158 #[.string ⟨#[97]⟩, .int .i64 0, .int .i64 0, .int .i64 2, .int .i64 1, .int .i64 10, .slice none 0 0]).drew
  have H4 := Lib.hid (H3.out.keep K4)
  have I4 := Lib.hid (I3.out.keep K4)
  have S4 := Lib.hid (S3.out.kp K4)
  have G4 := Lib.hid (G3.out.trans (grown_of_keeps K4 (some i)))
  clear K4 H3 I3 S3 G3 KZ BBZ z0 z1 z2 z3 z4 z5 z6 y0 y1 y2 y3 y4 y5 y6 zh3 zo0 zo1 zo2 zo3 zo4 zo5 zo6 zs0 h3 o0 o1 o2 o3 o4 o5 o6 s0
  generalize (W3.alloc (.cells #[.string ⟨#[97]⟩, .int .i64 0, .int .i64 0, .int .i64 2, .int .i64 1, .int .i64 10, .slice none 0 0] 158)).drew = W4 at *
  generalize W3.heap.size = O at *
  have o4 : W4.cell? ⟨O, 4, none⟩ = some (.int .i64 1) := B4.cell 4
  have o5 : W4.cell? ⟨O, 5, none⟩ = some (.int .i64 10) := B4.cell 5
  have o3 : W4.cell? ⟨O, 3, none⟩ = some (.int .i64 2) := B4.cell 3
  have s1 : W4.cell? ⟨sb, 1, none⟩ = some (.int .i64 100) := S4.out.cell 1
  obtain ⟨i2, i5, i6, i7, i8, i9, i10, i11, i12, i13, i14, g5, g9, g10, g11, g12⟩ := I4.out.cells
  go_quiet (fail)
  go_wp2_with fail
  have K5 := (Keeps.refl W4).drewN nq
  have H5 := Lib.hid (H4.out.keep K5)
  have I5 := Lib.hid (I4.out.keep K5)
  have G5 := Lib.hid (G4.out.trans (grown_of_keeps K5 (some i)))
  clear K5 H4 I4 S4 G4 B4 o3 o4 o5 s1 i2 i5 i6 i7 i8 i9 i10 i11 i12 i13 i14 g5 g9 g10 g11 g12
  generalize W4.drewN nq = W5 at *
  clear nq W4
  obtain ⟨h0, h1, h2, h3, h4, h5, h6, h7, h8, h9⟩ := H5.out.cells
  refine wp_loop_rounds 2 ?_
  rw [rounds_succ]
  go_upto_region 12 with (go_at_call 166; (with_reducible refine (C2.out _ H5.out).mono ?_); rintro e W6 ⟨rfl, hk6⟩; have K6 := Lib.hid hk6; clear hk6)
  have H6 := Lib.hid (H5.out.keep K6.out)
  have I6 := Lib.hid (I5.out.keep K6.out)
  have G6 := Lib.hid (G5.out.trans (grown_of_keeps K6.out (some i)))
  clear H5 I5 G5 K6 C2 h0 h1 h2 h3 h4 h5 h6 h7 h8 h9
  have i11 := I6.out.it.cell 11
  have i12 := I6.out.it.cell 12
  have g11 := I6.out.it.frozen 11
  have g12 := I6.out.it.frozen 12
  simp only [itC] at i11 i12
  go_wp2_with fail
  rw [rounds_succ]
  go_wp2_with fail
  refine bodyPost_end (results_none rfl _ _ _) rfl ⟨⟨_, rfl⟩, ?_⟩
  have ga := grown_set W6 i 12 (.int .i64 480)
  have gb := grown_set (W6.setCell ⟨i, 12, none⟩ (.int .i64 480)) i 11 (.int .i64 0)
  have Ia := I6.out.leave 480
  have Ib := Ia.line 0
  exact ⟨(H6.out.grow ga I6.out.it (by decide) hlo).grow gb Ia.it (by decide) hlo, Ib, (G6.out.trans ga).trans gb⟩
end
end
section
open Go.Shelf Go.ChangeShapes Go.WideShapes Go.ChangeAt Go.RowKit
set_option linter.unusedSimpArgs false
set_option linter.unusedVariables false
section
open Go.RowKit
variable {P : Program}
/-- A round that goes on. -/
def listP (w0 : World) (R : World → Prop) (W : World) : Exit → Act → World → Prop
  | .normal, _, W' => R W' ∧ W.heap.size ≤ W'.heap.size ∧ ∀ k, w0.heap.size ≤ k → k < W.heap.size → W'.heap[k]? = W.heap[k]?
  | _, _, _ => False
/-- An iterator that hands over a number of elements, whatever holds between the rounds. -/
def ListOn (P : Program) (g : Nat) (lb : Array Value) (N : Nat) (encs : Nat → Array Value) (I : Nat → World → Prop) : Prop :=
  ∀ (l : Nat) (J : Nat → World → Prop) (W : World), (∀ j W, J j W → I j W) → (∀ j W n, J j W → J j (W.drewN n)) →
    (∀ j, j < N → ∀ m W1, J j W1 → YieldAt Fence.wide m P l (encs j) W1 fun e W' => e = .returned (.bool true) ∧ J (j + 1) W') → J 0 W →
    Calls P g (#[.func (.yield l) #[] #[]] ++ lb) W fun e W' => (∃ v, e = .returned v) ∧ J N W'
theorem range_list {n : Nat} {g : Operand} {ps : Array Tmp} {assign body : Code} {Q : Exit → Act → World → Prop} {a : Act} {w : World}
    (h1 : 1 ≤ n) {gf : Nat} {lb : Array Value} (hg : a.eval g = .func (.func gf) #[] lb) (eg : ∀ args w, (callFunc gf args).run P w = .ok (.enter gf args) w)
    {N : Nat} {encs : Nat → Array Value} (I : Nat → World → Prop) (hseq : ListOn P gf lb N encs I) (hps : ∀ j, (encs j).size = ps.size)
    (hd : ∀ j W n, I j W → I j (W.drewN n)) (hp : ∀ j W l r o, w.heap.size ≤ l → W.heap[l]? = some (.loop r) → I j W → I j (W.putObj l o)) (ha : ∀ W o, I 0 W → I 0 (W.alloc o)) (h0 : I 0 w) (a₁ : Nat → Act)
    (hassign : ∀ (j l m : Nat) (W : World) (K : Act → World → Prop), j < N → K (a₁ j) W →
      assign.wpIn (Fence.wide.inRound l) m P (Exit.then K (fun _ _ _ => False)) { tmps := (ps.zip (encs j)).foldl (fun t (p, v) => t.setIfInBounds p v) a.tmps, defers := [] } W)
    (hbody : ∀ (j l m : Nat) (W : World), j < N → w.heap.size ≤ W.heap.size → I j W → body.wpIn (Fence.wide.inRound l) m P (listP w (I (j + 1)) W) (a₁ j) W)
    (hdone : ∀ (D : Nat) (W : World), w.heap.size ≤ D → I N W → W.heap[D]? = some (.deferred (some [])) → Q .normal { a with defers := { target := .collected D, args := #[] } :: a.defers } W) :
    (Code.rangeFunc g ps assign body).wpIn Fence.wide n P Q a w := by
  refine wpIn_rangeFunc fun fn hfn => ?_
  rw [show Fence.wide.round = none from rfl]
  obtain ⟨rec, hrec⟩ : ∃ rec : LoopState → Option Code → Loop, rec = fun st pe => { state := st, pending := pe, fn, tmps := a.tmps, params := ps, assign, body, defers := w.heap.size } := ⟨_, rfl⟩
  have hparams : ∀ st pe, (rec st pe).params = ps := fun st pe => by rw [hrec]
  have hA := World.alloc_heap_new w (.deferred (some []))
  have hB := World.alloc_heap_new (w.alloc (.deferred (some []))) (.loop (rec .ready none))
  rw [World.size_alloc] at hB
  have hA2 : ((w.alloc (.deferred (some []))).alloc (.loop (rec .ready none))).heap[w.heap.size]? = some (.deferred (some [])) := (Below.heap_alloc _ _ _ (by simp)).trans hA
  have hI2 : I 0 ((w.alloc (.deferred (some []))).alloc (.loop (rec .ready none))) := ha _ _ (ha _ _ h0)
  have hent : (Instr.enterLoop fn a.tmps ps assign body none).run P w = .ok (w.heap.size + 1, [{ target := .collected w.heap.size, args := #[] }]) ((w.alloc (.deferred (some []))).alloc (.loop (rec .ready none))) := by
    rw [hrec]; exact run_enterLoop_outer _ _ _ _ _
  generalize (w.alloc (.deferred (some []))).alloc (.loop (rec .ready none)) = W1 at *
  refine ⟨w.heap.size + 1, _, W1, { target := .fn (.func gf) lb, args := #[.func (.yield (w.heap.size + 1)) #[] #[]] }, W1, gf, #[.func (.yield (w.heap.size + 1)) #[] #[]] ++ lb, W1, hent, ?_, ?_, ?_, fun _ => h1, ?_⟩
  · simp only [resolve, hg]
    simp [go_sem]
  · intro f' hf'
    simp [Target.leads] at hf'
    trivial
  · simp [invoke, go_sem, eg]
  · refine (callsIn_wide.2 (hseq (w.heap.size + 1)
      (fun j W => I j W ∧ W.heap[w.heap.size + 1]? = some (.loop (rec .ready none)) ∧ W.heap[w.heap.size]? = some (.deferred (some [])))
      W1 (fun j W h => h.1) (fun j W n h => ⟨hd j W n h.1, h.2⟩) ?_ ⟨hI2, hB, hA2⟩)).mono ?_
    · rintro j hj m W ⟨hi, hl, hk⟩
      have hy := run_yield (P := P) (args := encs j) hl (by rw [hparams]; exact hps j)
      have hlt : w.heap.size + 1 < W.heap.size := (Array.getElem?_eq_some_iff.1 hl).1
      rw [hrec] at hy
      refine ⟨fn, _, assign, body, hy, roundIn_of_wpIn hfn (hassign j _ _ W _ hj ?_)⟩
      refine ⟨_, run_beginRound hl (by rw [hrec]), ?_⟩
      have hl2 : (W.putObj (w.heap.size + 1) (.loop { rec .ready none with state := .busy })).heap[w.heap.size + 1]? = some (.loop { rec .ready none with state := .busy }) := World.putObj_heap_same (by omega)
      have hk2 : (W.putObj (w.heap.size + 1) (.loop { rec .ready none with state := .busy })).heap[w.heap.size]? = some (.deferred (some [])) := (World.putObj_heap_other (by omega)).trans hk
      have hi2 : I j (W.putObj (w.heap.size + 1) (.loop { rec .ready none with state := .busy })) := hp j _ _ _ _ (by omega) hl hi
      have hz2 : (W.putObj (w.heap.size + 1) (.loop { rec .ready none with state := .busy })).heap.size = W.heap.size := by simp
      generalize W.putObj (w.heap.size + 1) (.loop { rec .ready none with state := .busy }) = U at *
      refine wpIn_mono (hbody j _ _ U hj (by omega) hi2) ?_
      intro e a3 W3 hp3
      cases e with
      | normal =>
        obtain ⟨hi3, hst1, hst2⟩ := hp3
        have hl3 : W3.heap[w.heap.size + 1]? = some (.loop { rec .ready none with state := .busy }) := (hst2 _ (by omega) (by omega)).trans hl2
        have hd3 : W3.heap[w.heap.size]? = some (.deferred (some [])) := (hst2 _ (by omega) (by omega)).trans hk2
        have hr := run_endRound (P := P) none hl3
        have hr' : (Instr.endRound (w.heap.size + 1) none).run P W3 = .ok (.bool true) (W3.putObj (w.heap.size + 1) (.loop (rec .ready none))) := by rw [hr, hrec]; rfl
        exact ⟨_, _, hr', rfl, hp _ _ _ _ _ (by omega) hl3 hi3, World.putObj_heap_same (Array.getElem?_eq_some_iff.1 hl3).1, (World.putObj_heap_other (by omega)).trans hd3⟩
      | exit i => exact hp3.elim
      | ret => exact hp3.elim
      | goto t => exact hp3.elim
      | panic ch => exact hp3.elim
      | outgrown => exact hp3.elim
    · rintro e W2 ⟨⟨v, rfl⟩, hi, hl, hk⟩
      have he := run_endLoop (P := P) hl (by rw [hrec]; simp)
      rw [hrec] at he
      exact ⟨none, _, he, hdone _ _ (Nat.le_refl _) (hp _ _ _ _ _ (by omega) hl hi) ((World.putObj_heap_other (by omega)).trans hk)⟩
end
theorem departures132 (hb : Nat) (before : Int) (w : World) : Calls Tryz.prog 132 #[.pointer (some ⟨hb, 0, none⟩), .int .i64 before] w fun e w' => ∃ N, e = .returned (.func (.func 168) #[] #[.pointer (some ⟨N, 0, none⟩), .pointer (some ⟨N + 1, 0, none⟩)]) ∧ w.heap.size = N ∧ Blk w' N 166 #[.pointer (some ⟨hb, 0, none⟩)] ∧ Blk w' (N + 1) 3 #[.int .i64 before] ∧ Keeps w w' ∧ w'.heap.size = N + 2 := by
  have K1 := Lib.hid (((Keeps.refl w).alloc (.cells #[.pointer (some ⟨hb, 0, none⟩)] 166)).alloc (.cells #[.int .i64 before] 3))
  have B1 := Lib.hid ((Blk.new w 166 #[.pointer (some ⟨hb, 0, none⟩)]).alloc (.cells #[.int .i64 before] 3))
  have B2 := Lib.hid (Blk.new (w.alloc (.cells #[.pointer (some ⟨hb, 0, none⟩)] 166)) 3 #[.int .i64 before])
  go_enter Tryz.func132, Tryz.ntmps132
  go_wp2_with fail
  go_ret
  exact ⟨_, rfl, rfl, B1.out, by simpa using B2.out, K1.out, by simp⟩
/-- What the iterator reads when it has handed over j items. -/
structure DpF (A : Ad) (t : Nat) (before : Int) (p c : Nat) (is : List Nat) (j : Nat) (W : World) : Prop where
  b1 : W.cell? ⟨t, 0, none⟩ = some (.pointer (some ⟨A.hb, 0, none⟩))
  b2 : W.cell? ⟨t + 1, 0, none⟩ = some (.int .i64 before)
  h7 : W.cell? ⟨A.hb, 7, none⟩ = some (.slice (some ⟨p, 0, none⟩) is.length c)
  row : ∀ k i, is[k]? = some i → W.cell? ⟨p, k, none⟩ = some (.pointer (some ⟨i, 0, none⟩))
  low : ∀ k i, is[k]? = some i → k < j → W.cell? ⟨i, 11, none⟩ = some (.int .i64 (-1))
  hig : ∀ k i, is[k]? = some i → j ≤ k → W.cell? ⟨i, 11, none⟩ = some (.int .i64 0) ∧ W.cell? ⟨i, 12, none⟩ = some (.int .i64 480)
section
attribute [local go_sem] Oper.semAt_some
set_option maxRecDepth 100000 in
set_option maxHeartbeats 4000000 in
theorem dep168_0 (A : Ad) (t : Nat) (before : Int) (encs : Nat → Array Value) (I : Nat → World → Prop) (hI : ∀ W, I 0 W → W.cell? ⟨t, 0, none⟩ = some (.pointer (some ⟨A.hb, 0, none⟩)) ∧ W.cell? ⟨A.hb, 7, none⟩ = some (.slice none 0 0)) : ListOn Tryz.prog 168 #[.pointer (some ⟨t, 0, none⟩), .pointer (some ⟨t + 1, 0, none⟩)] 0 encs I := by
  intro l J W hJ hd hY h0
  obtain ⟨c1, c7⟩ := hI W (hJ 0 W h0)
  have H0 := Lib.hid h0
  clear hI hJ hd hY h0
  refine (callsIn_wide (n := 3)).1 ?_
  refine callsIn_of_wp Tryz.func168 rfl trivial ?_ rfl
  simp only [Tryz.ntmps168, List.size_toArray, List.length_cons, List.length_nil, Nat.reduceAdd, Nat.reduceSub, Array.replicate_succ, Array.replicate_zero, List.push_toArray, List.append_toArray, List.nil_append, List.cons_append]
  gi_wp2
  refine wpIn_loop_rounds 1 ?_
  rw [roundsIn_succ]
  gi_wp2
  go_end0
  exact ⟨⟨_, rfl⟩, H0.out⟩
set_option maxRecDepth 100000 in
set_option maxHeartbeats 4000000 in
theorem dep168_1 (A : Ad) (t p c i : Nat) (encs : Nat → Array Value) (I : Nat → World → Prop) (hI : ∀ W, I 0 W → DpF A t 100 p c [i] 0 W) : ListOn Tryz.prog 168 #[.pointer (some ⟨t, 0, none⟩), .pointer (some ⟨t + 1, 0, none⟩)] 0 encs I := by
  intro l J W hJ hd hY h0
  have D := hI W (hJ 0 W h0)
  have c1 := D.b1
  have c2 := D.b2
  have c7 := D.h7
  have c8 := D.row 0 i rfl
  obtain ⟨c9, c10⟩ := D.hig 0 i rfl (Nat.le_refl _)
  have H0 := Lib.hid (fun n => hd 0 W n h0)
  clear hI hJ hd hY h0 D
  refine (callsIn_wide (n := 3)).1 ?_
  refine callsIn_of_wp Tryz.func168 rfl trivial ?_ rfl
  simp only [Tryz.ntmps168, List.size_toArray, List.length_cons, List.length_nil, Nat.reduceAdd, Nat.reduceSub, Array.replicate_succ, Array.replicate_zero, List.push_toArray, List.append_toArray, List.nil_append, List.cons_append]
  gi_wp2
  refine wpIn_loop_rounds 2 ?_
  rw [roundsIn_succ]
  gi_wp2
  refine wpIn_loop_rounds 1 ?_
  rw [roundsIn_succ]
  gi_wp2
  refine wpIn_wide.2 ?_
  go_quiet (fail)
  gi_wp2
  rw [roundsIn_succ]
  gi_wp2
  go_end0
  exact ⟨⟨_, rfl⟩, H0.out _⟩
set_option maxRecDepth 100000 in
set_option maxHeartbeats 8000000 in
theorem dep168_2 (A : Ad) (t p c i1 i2 : Nat) (I : Nat → World → Prop) (hI : ∀ j W, I j W → DpF A t 9223372036854775807 p c [i1, i2] j W) :
    ListOn Tryz.prog 168 #[.pointer (some ⟨t, 0, none⟩), .pointer (some ⟨t + 1, 0, none⟩)] 2 (fun j => #[.pointer (some ⟨if j = 0 then i1 else i2, 0, none⟩)]) I := by
  intro l J W hJ hd hY h0
  have D := hI 0 W (hJ 0 W h0)
  have c1 := D.b1
  have c2 := D.b2
  have c7 : W.cell? ⟨A.hb, 7, none⟩ = some (.slice (some ⟨p, 0, none⟩) 2 c) := D.h7
  have c8 := D.row 0 i1 rfl
  obtain ⟨c9, c10⟩ := D.hig 0 i1 rfl (Nat.le_refl _)
  have H0 := Lib.hid (fun n => hd 0 W n h0)
  have HJ := Lib.hid hJ
  have HD := Lib.hid hd
  have HY := Lib.hid hY
  have HI := Lib.hid hI
  clear hI hJ hd hY h0 D
  refine (callsIn_wide (n := 3)).1 ?_
  refine callsIn_of_wp Tryz.func168 rfl trivial ?_ rfl
  simp only [Tryz.ntmps168, List.size_toArray, List.length_cons, List.length_nil, Nat.reduceAdd, Nat.reduceSub, Array.replicate_succ, Array.replicate_zero, List.push_toArray, List.append_toArray, List.nil_append, List.cons_append]
  gi_wp2
  refine wpIn_loop_rounds 3 ?_
  rw [roundsIn_succ]
  gi_wp2
  refine wpIn_loop_rounds 2 ?_
  rw [roundsIn_succ]
  gi_wp2
  refine wpIn_wide.2 ?_
  go_quiet (fail)
  gi_wp2
  obtain ⟨fn, tmps, assign, body, hy, hRd⟩ := HY.out 0 (by decide) 2 _ (H0.out nq)
  simp only [if_true] at hy
  clear c1 c2 c7 c8 c9 c10 H0
  rw [hy, Oper.uponIn_round]
  refine ⟨fun h => (by simp [Fence.wide] at h), hRd.mono ?_⟩
  rintro e W4 ⟨rfl, hj4⟩
  have D := HI.out 1 W4 (HJ.out 1 W4 hj4)
  have c1 := D.b1
  have c2 := D.b2
  have c8 : W4.cell? ⟨p, 1, none⟩ = some (.pointer (some ⟨i2, 0, none⟩)) := D.row 1 i2 rfl
  have c9 := D.low 0 i1 rfl (by decide)
  obtain ⟨c11, c12⟩ := D.hig 1 i2 rfl (Nat.le_refl _)
  have H1 := Lib.hid (fun n => HD.out 1 W4 n hj4)
  clear hj4 hRd hy D
  gi_wp2
  rw [roundsIn_succ]
  gi_wp2
  refine wpIn_wide.2 ?_
  go_quiet (fail)
  generalize nq = n1
  gi_wp2
  rw [roundsIn_succ]
  gi_wp2
  refine wpIn_loop_rounds 2 ?_
  rw [roundsIn_succ]
  gi_wp2
  refine wpIn_wide.2 ?_
  go_quiet (fail)
  gi_wp2
  obtain ⟨fn, tmps, assign, body, hy, hRd⟩ := HY.out 1 (by decide) 2 _ (H1.out (n1 + nq))
  simp only [Nat.one_ne_zero, if_false] at hy
  clear c1 c2 c8 c9 c11 c12 H1
  rw [hy, Oper.uponIn_round]
  refine ⟨fun h => (by simp [Fence.wide] at h), hRd.mono ?_⟩
  rintro e W5 ⟨rfl, hj5⟩
  have D := HI.out 2 W5 (HJ.out 2 W5 hj5)
  have c2 := D.b2
  have c9 := D.low 1 i2 rfl (by decide)
  have H2 := Lib.hid (fun n => HD.out 2 W5 n hj5)
  clear hj5 hRd hy D
  gi_wp2
  rw [roundsIn_succ]
  gi_wp2
  refine wpIn_wide.2 ?_
  go_quiet (fail)
  gi_wp2
  rw [roundsIn_succ]
  gi_wp2
  go_end0
  exact ⟨⟨_, rfl⟩, H2.out _⟩
end
end
section
open Go.Shelf Go.ChangeShapes Go.WideShapes Go.ChangeAt Go.RowKit
set_option linter.unusedSimpArgs false
set_option linter.unusedVariables false
section
attribute [local go_sem] Oper.semAt_some
set_option maxRecDepth 100000 in
set_option maxHeartbeats 8000000 in
theorem decide_stay (w0 : World) (A : Ad) (its : Value) (l : List (ByteArray × Value)) (c : UInt8) (i ib lb sb sc k : Nat) (se : Value) (li le : Int) (w : World) (H : HiS w0 A its l w) (hI : ItS c i ib lb sb 2 sc se 0 li le w) (hs : w.cell? ⟨sb, 4, none⟩ = some (.int .i64 1)) (hsi : sb ≠ i)
    (hf : lookF strE ⟨#[c]⟩ l 0 = some (k, .pointer (some ⟨i, 0, none⟩))) (hlo : w0.heap.size ≤ i) :
    Calls Tryz.prog 134 #[.pointer (some ⟨A.hb, 0, none⟩), .pointer (some ⟨i, 0, none⟩)] w fun e w' => (∃ v, e = .returned v) ∧ HiS w0 A its l w' ∧ ItS c i ib lb sb 2 sc se 0 (-1) le w' ∧ w.grownBy w' (some i) := by
  have G1 := grown_set w i 11 (.int .i64 (-1))
  have H1 := Lib.hid (H.grow G1 hI.it (by decide) hlo)
  have I1 := Lib.hid (hI.line (-1))
  have S1 : (w.setCell ⟨i, 11, none⟩ (.int .i64 (-1))).cell? ⟨sb, 4, none⟩ = some (.int .i64 1) := by rw [World.cell?_setCell_other _ _ _ _ (by simp)]; exact hs
  have HG := Lib.hid G1
  have q11 := hI.it.cell 11
  have f11 := hI.it.frozen 11
  simp only [itC] at q11
  clear G1 H hI hs
  go_enter Tryz.func134, Tryz.ntmps134
  go_upto_region 1 with fail
  clear q11 f11
  generalize w.setCell ⟨i, 11, none⟩ (.int .i64 (-1)) = W1 at *
  obtain ⟨i2, i5, i6, i7, i8, i9, i10, i11, i12, i13, i14, g5, g9, g10, g11, g12⟩ := I1.out.cells
  go_upto_region 2 with (go_at_call 133; (with_reducible refine (last133 i sb 2 sc W1 i5 (.inr rfl)).mono ?_); rintro e w2 ⟨rfl, m, rfl⟩)
  have K2 := (Keeps.refl W1).drewN m
  have H2 := Lib.hid (H1.out.keep K2)
  have I2 := Lib.hid (I1.out.keep K2)
  have S2 : (W1.drewN m).cell? ⟨sb, 4, none⟩ = some (.int .i64 1) := S1
  have G2 := Lib.hid (HG.out.trans (grown_of_keeps K2 (some i)))
  clear K2 H1 I1 S1 HG i2 i5 i6 i7 i8 i9 i10 i11 i12 i13 i14 g5 g9 g10 g11 g12
  generalize W1.drewN m = W2 at *
  clear m W1
  obtain ⟨i2, i5, i6, i7, i8, i9, i10, i11, i12, i13, i14, g5, g9, g10, g11, g12⟩ := I2.out.cells
  obtain ⟨h0, h1, h2, h3, h4, h5, h6, h7, h8, h9⟩ := H2.out.cells
  have fN := H2.out.findN hf
  have C1 := Lib.hid (fun n => carried167 i lb ⟨#[c]⟩ (W2.drewN n) i8 i14)
  simp only at fN
  go_quiet ((go_at_call 167; exact Calls.quiet_of (C1.out _)))
  go_wp2_with fail
  refine bodyPost_ret (results_none rfl _ _ _) rfl ⟨⟨_, rfl⟩, ?_⟩
  have K3 := (Keeps.refl W2).drewN nq
  exact ⟨H2.out.keep K3, I2.out.keep K3, G2.out.trans (grown_of_keeps K3 (some i))⟩
end
/-- The items, by where they lie. -/
abbrev ptR : RowTy Nat := { T := 174, S := 168, k := 1, by' := 8, enc := fun i => [.pointer (some ⟨i, 0, none⟩)] }
theorem ptOk : RowOk Tryz.prog ptR := ⟨fun _ => rfl, fun x u hu => by simp at hu; subst hu; rfl, Tryz.underlying168, info_of (z := .pointer none) (by kernel_rfl) rfl, by decide, by decide⟩
theorem own_blkR {α : Type} {R : RowTy α} {w0 w : World} {v : Value} {l : List α} (h : OwnR R w0 w v l) {g : Nat} (hg : v.ownBlock = some g) : ∃ cs, Blk w g R.T cs := by
  rcases h.1.2 with ⟨rfl, -⟩ | ⟨g', cap, cur, rfl, hb, hh, _⟩
  · simp [Value.ownBlock] at hg
  · simp [Value.ownBlock] at hg; subst hg; exact ⟨cur, hh⟩
theorem own_other {α : Type} {R : RowTy α} {w0 w : World} {v : Value} {l : List α} (h : OwnR R w0 w v l) {g : Nat} {t : TypeId} {cs : Array Value} (hb : Blk w g t cs) (ht : t ≠ R.T) : some g ≠ v.ownBlock := fun e => by
  obtain ⟨cs', hc⟩ := own_blkR h e.symm
  exact hb.ne_ hc ht rfl
theorem own_nomap {α κ : Type} {R : RowTy α} {kv : κ → Value} {w0 w : World} {v : Value} {l : List α} {m : List (κ × Value)} {r : Nat} (h : OwnR R w0 w v l) (hm : MapIs kv w r m) : some r ≠ v.ownBlock := fun e => by
  obtain ⟨cs', hc⟩ := own_blkR h e.symm
  exact hc.ne_map hm rfl
/-- What is in memory once the item is laid. -/
structure Po (w0 : World) (A : Ad) (its : Value) (is : List Nat) (l : List (ByteArray × Value)) (c : UInt8) (N : Nat) (V : World) : Prop where
  h : HiS w0 A its l V
  o : OwnR ptR w0 V its is
  d : Blk V N 93 (dedC c)
  s : Blk V (N + 1) 192 #[.int .i64 0, .int .i64 100, .int .i64 (-1), .int .i64 (-1)]
  i : ItS c (N + 4) (N + 2) (N + 3) (N + 1) 1 1 (.slice none 0 0) 0 0 0 V
theorem Po.keep {w0 : World} {A : Ad} {its : Value} {is : List Nat} {l : List (ByteArray × Value)} {c : UInt8} {N : Nat} {V V' : World} (h : Po w0 A its is l c N V) (hk : Keeps V V') : Po w0 A its is l c N V' := ⟨h.h.keep hk, h.o.keep hk, h.d.kp hk, h.s.kp hk, h.i.keep hk⟩
/-- What the frame of post says: other blocks are as they were. -/
def PoF (A : Ad) (its : Value) (w w' : World) : Prop := w.heap.size ≤ w'.heap.size ∧ ∀ k, k < w.heap.size → k ≠ A.hb → k ≠ A.mm → some k ≠ its.ownBlock → w'.heap[k]? = w.heap[k]?
theorem PoF.refl (A : Ad) (its : Value) (w : World) : PoF A its w w := ⟨Nat.le_refl _, fun _ _ _ _ _ => rfl⟩
theorem PoF.keeps {A : Ad} {its : Value} {w X X' : World} (h : PoF A its w X) (hk : Keeps X X') : PoF A its w X' := ⟨Nat.le_trans h.1 hk.size, fun k h1 h2 h3 h4 => (hk.block k (Nat.lt_of_lt_of_le h1 h.1)).trans (h.2 k h1 h2 h3 h4)⟩
theorem PoF.grow {A : Ad} {its : Value} {w X X' : World} {row : Option Nat} (h : PoF A its w X) (hg : X.grownBy X' row) (hr : ∀ k, row = some k → w.heap.size ≤ k ∨ k = A.hb ∨ k = A.mm ∨ some k = its.ownBlock) : PoF A its w X' :=
  ⟨Nat.le_trans h.1 hg.size, fun k h1 h2 h3 h4 => (hg.block k (Nat.lt_of_lt_of_le h1 h.1) (fun e => by
    rcases hr k e.symm with e2 | e2 | e2 | e2
    · omega
    · exact h2 e2
    · exact h3 e2
    · exact h4 e2)).trans (h.2 k h1 h2 h3 h4)⟩
theorem HiS.app {w0 W W' : World} {A : Ad} {its : Value} {is : List Nat} {l : List (ByteArray × Value)} (h : HiS w0 A its l W) (o : OwnR ptR w0 W its is) (hg : W.grownBy W' its.ownBlock) : HiS w0 A its l W' :=
  ⟨grown_keeps h.k hg (fun k hk => (own_lt o.1 hk).1), h.net, h.kw, h.pl, h.hb.grown hg (own_other o h.hb (by decide)), h.mm.same (hg.block _ h.mm.lt (own_nomap o h.mm)), h.cm.same (hg.block _ h.cm.lt (own_nomap o h.cm)), h.hl⟩
theorem HiS.put {w0 W : World} {A : Ad} {its : Value} {l : List (ByteArray × Value)} (h : HiS w0 A its l W) (v : Value) : HiS w0 A v l (W.setCell ⟨A.hb, 7, none⟩ v) := by
  have hg := grown_set W A.hb 7 v
  exact ⟨grown_keepsr h.k hg h.hl, h.net, h.kw, h.pl, by simpa using h.hb.set_ 7 v, h.mm.same (hg.block _ h.mm.lt (fun e => h.hb.ne_map h.mm (Option.some.inj e))), h.cm.same (hg.block _ h.cm.lt (fun e => h.hb.ne_map h.cm (Option.some.inj e))), h.hl⟩
theorem HiS.name {w0 W : World} {A : Ad} {its : Value} {l : List (ByteArray × Value)} (h : HiS w0 A its l W) (hcc : A.cm ≠ A.mm) (hlm : w0.heap.size ≤ A.mm) {c : UInt8} (hno : lookF strE ⟨#[c]⟩ l 0 = none) (v : Value) :
    ∃ X, (Instr.mapUpdate 167 (.map (some A.mm)) (.string ⟨#[c]⟩) v).run Tryz.prog W = .ok () X ∧ HiS w0 A its (l ++ [(⟨#[c]⟩, v)]) X ∧ W.grownBy X (some A.mm) := by
  obtain ⟨X, e, m, g⟩ := run_update_any (strKeys (P := Tryz.prog) (K := 9) Tryz.underlying9) Tryz.underlying167 ⟨#[c]⟩ v W A.mm l h.mm
  have hno' : lookF (fun a b : ByteArray => a == b) ⟨#[c]⟩ l 0 = none := hno
  rw [look_set_none hno'] at m
  exact ⟨X, e, ⟨grown_keepsr h.k g hlm, h.net, h.kw, h.pl, h.hb.grown g (fun e => h.hb.ne_map h.mm (Option.some.inj e).symm), m, h.cm.same (g.block _ h.cm.lt (fun e => hcc (Option.some.inj e))), h.hl⟩, g⟩
theorem ItS.other {c : UInt8} {i ib lb sb n sc : Nat} {se : Value} {ho li le : Int} {W W' : World} {row : Option Nat} (h : ItS c i ib lb sb n sc se ho li le W) (hg : W.grownBy W' row) (h1 : some i ≠ row) (h2 : some ib ≠ row) (h3 : some lb ≠ row) : ItS c i ib lb sb n sc se ho li le W' :=
  ⟨h.it.grown hg h1, h.ib.grown hg h2, h.lb.grown hg h3⟩
theorem look_app {x : ByteArray} {v : Value} : ∀ (l : List (ByteArray × Value)) (i : Nat), lookF strE x l i = none → ∃ k, lookF strE x (l ++ [(x, v)]) i = some (k, v)
  | [], i, _ => ⟨i, by have : strE x x = true := (ba_beq x x).2 rfl
                       simp only [List.nil_append, lookF]
                       rw [if_pos this]⟩
  | e :: es, i, h => by
    rw [lookF] at h
    split at h
    · cases h
    · rename_i hne
      obtain ⟨k, hk⟩ := look_app es (i + 1) h
      exact ⟨k, by rw [List.cons_append, lookF, if_neg hne]; exact hk⟩
theorem OwnR.far {α : Type} {R : RowTy α} {w0 W W' : World} {v : Value} {l : List α} {g : Nat} (h : OwnR R w0 W v l) (hg : W.grownBy W' (some g)) (hne : v.ownBlock ≠ some g) (hlo : w0.heap.size ≤ g) : OwnR R w0 W' v l := ⟨h.1.kept hg (.inr hne), grown_keepsr h.2 hg hlo⟩
theorem Blk.cell7 {W : World} {A : Ad} {its : Value} (h : Blk W A.hb 170 (hiC A its)) : W.cell? ⟨A.hb, 7, none⟩ = some its := h.cell 7
set_option maxRecDepth 100000 in
set_option maxHeartbeats 8000000 in
theorem post127 (w0 : World) (A : Ad) (its : Value) (is : List Nat) (l : List (ByteArray × Value)) (c : UInt8) (w : World) (H : HiS w0 A its l w) (O : OwnR ptR w0 w its is) (hn : is.length ≤ 2) (hno : lookF strE ⟨#[c]⟩ l 0 = none) (hcc : A.cm ≠ A.mm) (hlm : w0.heap.size ≤ A.mm) :
    Calls Tryz.prog 127 #[.pointer (some ⟨A.hb, 0, none⟩), .agg (dedC c)] w fun e w' => (∃ v, e = .returned v) ∧ ∃ N A' n' c', w.heap.size = N ∧ HiS w0 A (.slice A' n' c') (l ++ [(⟨#[c]⟩, .pointer (some ⟨N + 4, 0, none⟩))]) w' ∧ OwnR ptR w0 w' (.slice A' n' c') (is ++ [N + 4]) ∧ ItS c (N + 4) (N + 2) (N + 3) (N + 1) 1 1 (.slice none 0 0) 0 0 480 w' ∧ Blk w' (N + 1) 192 #[.int .i64 0, .int .i64 100, .int .i64 (-1), .int .i64 (-1)] ∧ PoF A its w w' := by
  obtain ⟨N, hN⟩ : ∃ N, w.heap.size = N := ⟨_, rfl⟩
  have HA := Lib.hid (show ∀ V, V = ((((w.alloc (.cells (dedC c) 93)).alloc (.cells #[.int .i64 0, .int .i64 100, .int .i64 (-1), .int .i64 (-1)] 192)).alloc (.cells #[.int .i64 100] 3)).alloc (.cells #[.string ⟨#[c]⟩] 9)).alloc (.cells (itC c (.slice (some ⟨N + 1, 0, none⟩) 1 1) (.slice none 0 0) (N + 2) (N + 3) 0 0 0) 176) → Po w0 A its is l c N V ∧ V.heap.size = N + 5 ∧ Keeps w V from fun V hV => by
    have kV : Keeps w V := by rw [hV]; exact (((((Keeps.refl w).alloc _).alloc _).alloc _).alloc _).alloc _
    refine ⟨⟨H.keep kV, O.keep kV, ?_, ?_, ⟨?_, ?_, ?_⟩⟩, by rw [hV]; simp [hN], kV⟩
    · rw [hV]; exact ((((blk_at (w := w) w hN).alloc _).alloc _).alloc _).alloc _
    · rw [hV]; exact (((blk_at (w := w) _ (by simp [hN])).alloc _).alloc _).alloc _
    · rw [hV]; exact blk_at (w := w) _ (by simp [hN])
    · rw [hV]; exact ((blk_at (w := w) _ (by simp [hN])).alloc _).alloc _
    · rw [hV]; exact (blk_at (w := w) _ (by simp [hN])).alloc _)
  have HL := Lib.hid hn
  have ONE := Lib.hid (show 1 = [N + 4].length from rfl)
  have LE := Lib.hid (show is.length + [N + 4].length ≤ 1000000 by simp; omega)
  have HK0 := Lib.hid (show w0.heap.size ≤ N by have := H.k.size; omega)
  clear H O
  go_enter Tryz.func127, Tryz.ntmps127
  go_upto_region 2 with fail
  simp only [Nat.add_assoc, Nat.reduceAdd]
  generalize hV : ((((w.alloc (.cells (dedC c) 93)).alloc (.cells #[.int .i64 0, .int .i64 100, .int .i64 (-1), .int .i64 (-1)] 192)).alloc (.cells #[.int .i64 100] 3)).alloc (.cells #[.string ⟨#[c]⟩] 9)).alloc (.cells #[.string ⟨#[c]⟩, .int .i64 0, .int .i64 1, .int .i64 0, .int .i64 100, .slice (some ⟨N + 1, 0, none⟩) 1 1, .bool false, .slice (some ⟨N + 2, 0, none⟩) 1 1, .slice (some ⟨N + 3, 0, none⟩) 1 1, .slice none 0 0, .int .i64 0, .int .i64 0, .int .i64 0] 176) = V
  obtain ⟨P0, hz, kV⟩ := HA.out V hV.symm
  have F0 := Lib.hid ((PoF.refl A its w).keeps kV)
  clear HA hV kV
  have HNN := Lib.hid hN
  clear hN
  have q7 := P0.h.hb.cell7
  have k1 := (Keeps.refl V).alloc (.cells #[.pointer (some ⟨N + 4, 0, none⟩)] 174)
  have B1 := Blk.new V 174 #[.pointer (some ⟨N + 4, 0, none⟩)]
  have P1 := Lib.hid (P0.keep k1)
  have F1 := Lib.hid (F0.out.keeps k1)
  have X1 := Lib.hid (show RecIn ptR (V.alloc (.cells #[.pointer (some ⟨N + 4, 0, none⟩)] 174)) (V.alloc (.cells #[.pointer (some ⟨N + 4, 0, none⟩)] 174)).heap.size (some ⟨V.heap.size, 0, none⟩) [N + 4] from RecIn.of_blk (fun _ => rfl) B1 rfl (by simp))
  rw [hz] at X1
  clear P0 k1 B1 F0
  go_upto_region 3 with (at_builtin; refine wpList_appR ptOk (w0 := w0) rfl (.tmp 30) (.tmp 32) rfl _ is rfl P1.out.o _ _ _ [N + 4] rfl X1.out ONE LE ?_; intro A2 n2 c2 W2 ho2 hg2; have O2 := Lib.hid ho2; have H2 := Lib.hid (P1.out.h.app P1.out.o hg2); have G2 := Lib.hid (show (V.alloc (.cells #[.pointer (some ⟨N + 4, 0, none⟩)] 174)).grownBy W2 its.ownBlock from hg2); have p7 := H2.out.hb.cell7; have pf := H2.out.hb.frozen 7; clear ho2 hg2)
  have g3 := grown_set W2 A.hb 7 (.slice A2 n2 c2)
  have hlb := H2.out.hl
  have F2 := F1.out.grow G2.out (fun k hk => .inr (.inr (.inr hk.symm)))
  have F3 := Lib.hid (F2.grow g3 (fun k hk => .inr (.inl (Option.some.inj hk).symm)))
  have H3 := Lib.hid (H2.out.put (.slice A2 n2 c2))
  have O3 := Lib.hid (O2.out.far g3 (own_other O2.out H2.out.hb (by decide)).symm hlb)
  have I2 := P1.out.i.other G2.out (own_other P1.out.o P1.out.i.it (by decide)) (own_other P1.out.o P1.out.i.ib (by decide)) (own_other P1.out.o P1.out.i.lb (by decide))
  have I3 := Lib.hid (I2.other g3 (fun e => I2.it.ne_ H2.out.hb (by decide) (Option.some.inj e)) (fun e => I2.ib.ne_ H2.out.hb (by decide) (Option.some.inj e)) (fun e => I2.lb.ne_ H2.out.hb (by decide) (Option.some.inj e)))
  have s2 := P1.out.s.grown G2.out (own_other P1.out.o P1.out.s (by decide))
  have S3 := Lib.hid (s2.grown g3 (fun e => s2.ne_ H2.out.hb (by decide) (Option.some.inj e)))
  have d2 := P1.out.d.grown G2.out (own_other P1.out.o P1.out.d (by decide))
  have D3 := d2.grown g3 (fun e => d2.ne_ H2.out.hb (by decide) (Option.some.inj e))
  clear g3 F2 I2 s2 d2 P1 F1 G2 H2 O2 X1 p7 pf q7 hz
  generalize W2.setCell ⟨A.hb, 7, none⟩ (.slice A2 n2 c2) = W3 at *
  have d3 : W3.drew.cell? ⟨N, 2, none⟩ = some (.string ⟨#[c]⟩) := D3.cell 2
  have h8 := (H3.out.keep (Keeps.refl W3).drew).cells.2.2.2.2.2.2.2.2.1
  obtain ⟨X4, e4, H4, g4⟩ := (H3.out.keep (Keeps.refl W3).drew).name hcc hlm hno (.pointer (some ⟨N + 4, 0, none⟩))
  have K3 := (Keeps.refl W3).drew
  have F4 := Lib.hid ((F3.out.keeps K3).grow g4 (fun k hk => .inr (.inr (.inl (Option.some.inj hk).symm))))
  have HH4 := Lib.hid H4
  have O4 := Lib.hid ((O3.out.keep K3).far g4 (own_nomap (O3.out.keep K3) (H3.out.keep K3).mm).symm hlm)
  have i3 := I3.out.keep K3
  have I4 := Lib.hid (i3.other g4 (fun e => i3.it.ne_map (H3.out.keep K3).mm (Option.some.inj e).symm) (fun e => i3.ib.ne_map (H3.out.keep K3).mm (Option.some.inj e).symm) (fun e => i3.lb.ne_map (H3.out.keep K3).mm (Option.some.inj e).symm))
  have S4 := Lib.hid ((S3.out.kp K3).grown g4 (fun e => (S3.out.kp K3).ne_map (H3.out.keep K3).mm (Option.some.inj e).symm))
  clear H4 g4 K3 i3 D3 H3 O3 I3 S3 F3
  go_region
  clear d3 h8 e4
  have hN0 : w0.heap.size ≤ N + 4 := by have := HH4.out.k.size; have := HNN.out; have := HL.out; have := HK0.out; omega
  obtain ⟨k, hk⟩ := look_app (v := .pointer (some ⟨N + 4, 0, none⟩)) l 0 hno
  have HD := Lib.hid (decide_go w0 A _ _ c (N + 4) (N + 2) (N + 3) (N + 1) 1 k (.slice none 0 0) 0 0 X4 HH4.out I4.out S4.out hk hN0)
  go_wp2_with (go_at_call 134; (with_reducible refine HD.out.mono ?_); rintro e W5 ⟨⟨ve, rfl⟩, h5, i5, g5⟩; have H5 := Lib.hid h5; have I5 := Lib.hid i5; have G5 := Lib.hid g5; clear h5 i5 g5)
  refine bodyPost_end (results_none rfl _ _ _) rfl ⟨⟨_, rfl⟩, N, _, _, _, HNN.out, H5.out, ?_, I5.out, ?_, ?_⟩
  · exact O4.out.far G5.out (own_other O4.out I4.out.it (by decide)).symm hN0
  · exact S4.out.grown G5.out (fun e => S4.out.ne_ I4.out.it (by decide) (Option.some.inj e))
  · exact F4.out.grow G5.out (fun k hk => .inl (by have := Option.some.inj hk; have := HNN.out; omega))
end
section
open Go.Shelf Go.ChangeShapes Go.WideShapes Go.ChangeAt Go.RowKit
set_option linter.unusedSimpArgs false
set_option linter.unusedVariables false
section
attribute [local go_sem] Oper.semAt_some
set_option maxRecDepth 100000 in
set_option maxHeartbeats 8000000 in
theorem proceed_none (hb : Nat) (before : Int) (encs : Nat → Array Value) (hps : ∀ j, (encs j).size = 1) (w : World)
    (HL : ∀ t W, Blk W t 166 #[.pointer (some ⟨hb, 0, none⟩)] → Blk W (t + 1) 3 #[.int .i64 before] → Keeps w W → ListOn Tryz.prog 168 #[.pointer (some ⟨t, 0, none⟩), .pointer (some ⟨t + 1, 0, none⟩)] 0 encs (fun _ X => Keeps W X)) :
    Calls Tryz.prog 78 #[.pointer (some ⟨hb, 0, none⟩), .int .i64 before] w fun e w' => e = .returned (.bool true) ∧ Keeps w w' := by
  obtain ⟨N, hN⟩ : ∃ N, w.heap.size = N := ⟨_, rfl⟩
  have k1 := ((Keeps.refl w).alloc (.cells #[.pointer (some ⟨hb, 0, none⟩)] 166)).alloc (.cells #[.bool false] 4)
  have b1 : Blk ((w.alloc (.cells #[.pointer (some ⟨hb, 0, none⟩)] 166)).alloc (.cells #[.bool false] 4)) N 166 #[.pointer (some ⟨hb, 0, none⟩)] := (blk_at (w := w) w hN).alloc _
  have b2 : Blk ((w.alloc (.cells #[.pointer (some ⟨hb, 0, none⟩)] 166)).alloc (.cells #[.bool false] 4)) (N + 1) 4 #[.bool false] := blk_at (w := w) _ (by simp [hN])
  have z1 : ((w.alloc (.cells #[.pointer (some ⟨hb, 0, none⟩)] 166)).alloc (.cells #[.bool false] 4)).heap.size = N + 2 := by simp [hN]
  have K1 := Lib.hid k1
  have B2 := Lib.hid b2
  have Z1 := Lib.hid z1
  have HN := Lib.hid hN
  have HH := Lib.hid HL
  have c1 := b1.cell 0
  clear HL k1 b1 b2 z1
  refine (callsIn_wide (n := 3)).1 ?_
  refine callsIn_of_wp_marks Tryz.func78 rfl trivial ?_ rfl
  refine wpIn_wide.2 ?_
  simp only [Tryz.ntmps78, List.size_toArray, List.length_cons, List.length_nil, Nat.reduceAdd, Nat.reduceSub, Array.replicate_succ, Array.replicate_zero, List.push_toArray, List.append_toArray, List.nil_append, List.cons_append]
  go_upto_region 1 with fail
  generalize (w.alloc (.cells #[.pointer (some ⟨hb, 0, none⟩)] 166)).alloc (.cells #[.bool false] 4) = V at *
  go_wp2_with (go_at_call 132; (with_reducible refine (departures132 hb before V).mono ?_); rintro e w2 ⟨t, rfl, hz, t1, t2, hk, hz2⟩; have T1 := Lib.hid t1; have T2 := Lib.hid t2; have K2 := Lib.hid hk; have HZ2 := Lib.hid hz2; have HZ := Lib.hid hz; clear t1 t2 hk hz hz2)
  refine (wpIn_wide (n := 3)).1 ?_
  refine range_list (n := 3) (gf := 168) (lb := #[.pointer (some ⟨t, 0, none⟩), .pointer (some ⟨t + 1, 0, none⟩)]) (by omega) rfl (enters_of Tryz.func168 (by kernel_rfl) rfl)
    (fun _ X => Keeps w2 X) (HH.out t w2 T1.out T2.out (K1.out.trans K2.out)) hps (fun j W n h => h.drewN n) (fun j W l r o hl _ h => h.putO o hl) (fun W o h => h.alloc o) (Keeps.refl w2) (fun _ => { tmps := #[], defers := [] })
    (fun j l m W K hj => absurd hj (Nat.not_lt_zero j)) (fun j l m W hj => absurd hj (Nat.not_lt_zero j)) ?done
  case done =>
    intro D W hD hk hKD
    have hkV := K2.out.trans hk
    have hD0 : w.heap.size ≤ D := Nat.le_trans (K1.out.trans K2.out).size hD
    have hDN : N + 1 < D := by have := Z1.out; have := K2.out.size; omega
    have b3 := B2.out.kp hkV
    have q0 := b3.cell 0
    have qf := b3.frozen 0
    have b4 : Blk (W.setCell ⟨N + 1, 0, none⟩ (.bool true)) (N + 1) 4 #[.bool true] := by simpa using b3.set_ 0 (.bool true)
    have b5 : Blk ((W.setCell ⟨N + 1, 0, none⟩ (.bool true)).putObj D (.deferred none)) (N + 1) 4 #[.bool true] := (World.putObj_heap_other (by omega)).trans b4
    have hKD' : (W.setCell ⟨N + 1, 0, none⟩ (.bool true)).heap[D]? = some (.deferred (some [])) := (Below.heap_setCell W _ _ D (by simp; omega)).trans hKD
    have hE := Lib.hid (((K1.out.trans hkV).setCell (p := ⟨N + 1, 0, none⟩) (by have := HN.out; simp; omega) (.bool true)).putO (.deferred none) hD0)
    have HKD := Lib.hid hKD'
    have c9 := b5.cell 0
    clear b3 b4 b5 hKD hKD' hkV hk
    go_wp2
    refine ⟨by simp, .inl ⟨_, _, rfl, run_takeDeferred (by exact HKD.out), ?_⟩⟩
    clear HKD
    generalize (W.setCell ⟨N + 1, 0, none⟩ (.bool true)).putObj D (.deferred none) = W9 at *
    exact ⟨.bool true, by simp [results, Tryz.results78, go_sem, c9], rfl, hE.out⟩
end
end
end Go.Proofs.YthkmpegpmpdhaaaGreatDoor
