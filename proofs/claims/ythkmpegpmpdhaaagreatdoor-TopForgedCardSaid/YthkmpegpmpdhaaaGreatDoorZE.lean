/- Part of the proof of TopOwnItem. Conditions: as stated in each theorem. -/
import Derived.Test.YthkmpegpmpdhaaaGreatDoorZG
import Derived.Test.YthkmpegpmpdhaaaGreatDoorZA
import Derived.Test.YthkmpegpmpdhaaaGreatDoorZK
import Derived.Test.YthkmpegpmpdhaaaGreatDoorProg
import Derived.Lib.SlicesCompact
import Derived.WalkKit
import Derived.WalkSpells
import Derived.WalkLawsBesides
import Derived.Laws.EntriesVeiled
import Derived.ProofKit
import Derived.OpenShut
import Derived.Lib.Hide
import Derived.BigQuiet
import Derived.Deep.QuietTactic
import Derived.Deep.CutRange
import Derived.StillTailTactics
import Derived.Lib.SliceRun
import Derived.RangeFuncRecord
import Derived.Carry
import Derived.ChangeKeysEq
import Derived.Below
import Derived.Laws.OwnMore
import Derived.Deep.AppendLies
import Derived.Deep.Draws
import Derived.Laws.Rows
import Derived.Maps.AppendAt
import Derived.RegionTactic
import Derived.OwnWalk
import Derived.Deep.RegionHeld3
namespace Go.Proofs.YthkmpegpmpdhaaaGreatDoor
open Go.ChangeShapes Go.WideShapes Go.ChangeAt Go.RowKit
set_option linter.unusedSimpArgs false
set_option linter.unusedVariables false
/-- What an event says. -/
structure EvC where
  off : Int
  lo : Int
  hi : Int
  nd : List Int
def scOf (l : List Scn) (x : Rec) : Scn := (l[x.sc.toNat]?).getD ⟨0, 0, 0⟩
def recOf (rs : List Rec) (i : Nat) : Rec := (rs[i]?).getD ⟨0, 0, 0, 0, ByteArray.empty, [], none, 0⟩
def needsF (ch : List Int) (i : Nat) : List Int := Lib.compact (srt (ch ++ [(i : Int)]))
def evF (l : List Scn) (rs : List Rec) (ch : List Int) (i : Nat) : EvC := ⟨(scOf l (recOf rs i)).off, (recOf rs i).ti - (scOf l (recOf rs i)).er, (recOf rs i).ti + (scOf l (recOf rs i)).er, needsF ch i⟩
theorem needsF_len (ch : List Int) (i : Nat) : (needsF ch i).length ≤ ch.length + 1 := by
  have : (Lib.compact (srt (ch ++ [(i : Int)]))).length ≤ (srt (ch ++ [(i : Int)])).length := by
    unfold Lib.compact Lib.compactUpTo
    rw [List.length_map]
    exact Nat.le_trans (List.length_filter_le _ _) (by simp)
  unfold needsF
  rw [srt_len] at this
  simpa using this
theorem valid_sc {l : List Scn} {x : Rec} (h : validF l x = true) : 0 ≤ x.sc ∧ x.sc < l.length ∧ ∃ s, l[x.sc.toNat]? = some s ∧ 0 ≤ s.er ∧ s.er ≤ 10000 ∧ 0 ≤ x.ti ∧ x.ti ≤ 1000000 := by
  unfold validF at h
  split at h
  · cases h
  split at h
  · cases h
  rename_i h24 h0
  cases hs : l[x.sc.toNat]? with
  | none => rw [hs] at h; cases h
  | some s =>
    rw [hs] at h
    have hlt := (List.getElem?_eq_some_iff.1 hs).1
    simp only [Bool.and_eq_true, scOkF, completeF, fromB, decide_eq_true_eq] at h
    exact ⟨by omega, by omega, s, rfl, h.1.2.2.1, h.1.2.2.2, h.2.2.2.1.1, h.2.2.2.1.2⟩
theorem valid_kind {l : List Scn} {x : Rec} (h : validF l x = true) : x.con = [] ∨ x.ki = 2 := by
  unfold validF at h
  split at h
  · cases h
  split at h
  · cases h
  cases hs : l[x.sc.toNat]? with
  | none => rw [hs] at h; cases h
  | some s =>
    rw [hs] at h
    simp only [Bool.and_eq_true, completeF] at h
    have hk := h.2.2.2.2.2
    unfold kindF at hk
    split at hk
    · left
      have := of_decide_eq_true hk
      exact List.eq_nil_of_length_eq_zero this
    · split at hk
      · rename_i h2; exact .inr h2
      · cases hk
def EvPost (v : EvC) (w : World) (e : Ending) (w' : World) : Prop :=
  ∃ A c, e = .returned (.agg #[.int .i64 v.off, .int .i64 v.lo, .int .i64 v.hi, .slice A v.nd.length c]) ∧ RecIn intR w' w'.heap.size A v.nd ∧ Keeps w w' ∧ ∀ b o t, A = some ⟨b, o, t⟩ → w.heap.size ≤ b
set_option maxRecDepth 100000 in
set_option maxHeartbeats 8000000 in
theorem event62 (l : List Scn) (rs : List Rec) (lA rA : Option Addr) (n lc m rc h N sb : Nat) (F : Bool → ByteArray → Option Gr) (ch : List Int) (A : Option Addr) (cn cc i : Nat) (w : World) (x : Rec)
    (H : SrcIs l rs lA n lc rA m rc h F N w sb) (hN : N ≤ w.heap.size) (hm : m ≤ 1000) (hx : rs[i]? = some x) (hv : validF l x = true) (hc : RecIn intR w w.heap.size A ch) (hcn : Hid (cn = ch.length)) (hcl : cn ≤ 100) :
    Calls Tryz.prog 62 #[.pointer (some ⟨sb, 0, none⟩), .int .i64 (i : Int), .slice A cn cc] w (EvPost (evF l rs ch i) w) := by
  obtain ⟨s0, s1, s, hs, e0, e1, t0, t1⟩ := valid_sc hv
  have hro : recOf rs i = x := by unfold recOf; rw [hx]; rfl
  have hso : scOf l x = s := by unfold scOf; rw [hs]; rfl
  obtain ⟨sc, nu, ki, ti, lab, con, xA, xc⟩ := x
  obtain ⟨op, off, er⟩ := s
  have HEV := Lib.hid (show evF l rs ch i = ⟨off, ti - er, ti + er, needsF ch i⟩ by unfold evF; rw [hro, hso])
  obtain ⟨k, rfl⟩ : ∃ k : Nat, sc = (k : Int) := ⟨sc.toNat, by have : (0 : Int) ≤ sc := s0; omega⟩
  have hkl : k < l.length := by have : ((k : Nat) : Int) < l.length := s1; omega
  rw [show ((k : Nat) : Int).toNat = k from Int.toNat_natCast k] at hs
  have hnl := H.hn
  have hml := H.hm
  have him : i < rs.length := (List.getElem?_eq_some_iff.1 hx).1
  obtain ⟨rb, ro, rfl, hrb, a0, a1, a2, a3, a4, a5⟩ := H.rc.rc hx
  obtain ⟨lb, lo, rfl, hlb, b0, b1, b2⟩ := H.sc.sc hs
  change World.cell? _ _ = some (.int .i64 (k : Int)) at a0
  change World.cell? _ _ = some (.int .i64 nu) at a1
  change World.cell? _ _ = some (.int .i64 ki) at a2
  change World.cell? _ _ = some (.int .i64 ti) at a3
  change World.cell? _ _ = some (.string lab) at a4
  change World.cell? _ _ = some (.slice xA con.length xc) at a5
  change World.cell? _ _ = some (.int .i64 op) at b0
  change World.cell? _ _ = some (.int .i64 off) at b1
  change World.cell? _ _ = some (.int .i64 er) at b2
  obtain ⟨q, hq⟩ : ∃ q, con.length = q := ⟨_, rfl⟩
  rw [hq] at a5
  have c0 := H.c0
  have c1 := H.c1
  have HC := Lib.hid hc
  have iim : i < m := by omega
  have ii : (i : Int) < (m : Int) := by omega
  have i0 : (0 : Int) ≤ (i : Int) := by omega
  have kn : k < n := by omega
  have kk : (k : Int) < (n : Int) := by omega
  have k0 : (0 : Int) ≤ (k : Int) := by omega
  have hsb : sb < w.heap.size := Nat.lt_of_lt_of_le H.lt hN
  have hrb' : rb < w.heap.size := Nat.lt_of_lt_of_le hrb hN
  have hlb' : lb < w.heap.size := Nat.lt_of_lt_of_le hlb hN
  clear hx hv hs hro hso s0 s1 hkl hnl hml him hq hc H
  have K2 := Lib.hid (((Keeps.refl w).alloc (.cells #[.int .i64 0, .int .i64 0, .int .i64 0, .slice none 0 0] 43)).alloc (.cells #[.int .i64 (k : Int), .int .i64 nu, .int .i64 ki, .int .i64 ti, .string lab, .slice xA q xc] 26))
  have BE := Lib.hid ((Blk.new w 43 #[.int .i64 0, .int .i64 0, .int .i64 0, .slice none 0 0]).alloc (.cells #[.int .i64 (k : Int), .int .i64 nu, .int .i64 ki, .int .i64 ti, .string lab, .slice xA q xc] 26))
  have BR := Lib.hid (show Blk ((w.alloc (.cells #[.int .i64 0, .int .i64 0, .int .i64 0, .slice none 0 0] 43)).alloc (.cells #[.int .i64 (k : Int), .int .i64 nu, .int .i64 ki, .int .i64 ti, .string lab, .slice xA q xc] 26)) (w.heap.size + 1) 26 #[.int .i64 (k : Int), .int .i64 nu, .int .i64 ki, .int .i64 ti, .string lab, .slice xA q xc] by have := Blk.new (w.alloc (.cells #[.int .i64 0, .int .i64 0, .int .i64 0, .slice none 0 0] 43)) 26 #[.int .i64 (k : Int), .int .i64 nu, .int .i64 ki, .int .i64 ti, .string lab, .slice xA q xc]; rwa [World.size_alloc] at this)
  go_enter Tryz.func62, Tryz.ntmps62
  go_wp2_with fail
  generalize hw2 : (w.alloc (.cells #[.int .i64 0, .int .i64 0, .int .i64 0, .slice none 0 0] 43)).alloc (.cells #[.int .i64 (k : Int), .int .i64 nu, .int .i64 ki, .int .i64 ti, .string lab, .slice xA q xc] 26) = w2 at K2 BE BR ⊢
  clear hw2
  have C0 := cell_keep c0 K2.out
  have D0 := cell_keep b0 K2.out
  have D1 := cell_keep b1 K2.out
  have D2 := cell_keep b2 K2.out
  have R0 := cell_of_blk BR.out 0 (v := .int .i64 (k : Int)) rfl
  have SOF := Lib.hid (show ∀ X, Keeps w2 X → (fun w' => w'.cell? ⟨sb, 0, none⟩ = some (.slice (some ⟨lb, lo, none⟩) n lc) ∧ w'.cell? ⟨lb, lo + k * 3, none⟩ = some (.int .i64 op) ∧ w'.cell? ⟨lb, lo + k * 3 + 1, none⟩ = some (.int .i64 off) ∧ w'.cell? ⟨lb, lo + k * 3 + 2, none⟩ = some (.int .i64 er) ∧ w'.cell? ⟨w.heap.size + 1, 0, none⟩ = some (.int .i64 (k : Int)) ∧ Keeps w2 w') X from fun X hX => ⟨cell_keep C0 hX, cell_keep D0 hX, cell_keep D1 hX, cell_keep D2 hX, cell_keep R0 hX, hX⟩)
  clear a0 a1 a2 a3 a4 a5 c1 c0 b0 b1 b2
  go_region_held3 (fun w' => w'.cell? ⟨sb, 0, none⟩ = some (.slice (some ⟨lb, lo, none⟩) n lc) ∧ w'.cell? ⟨lb, lo + k * 3, none⟩ = some (.int .i64 op) ∧ w'.cell? ⟨lb, lo + k * 3 + 1, none⟩ = some (.int .i64 off) ∧ w'.cell? ⟨lb, lo + k * 3 + 2, none⟩ = some (.int .i64 er) ∧ w'.cell? ⟨w.heap.size + 1, 0, none⟩ = some (.int .i64 (k : Int)) ∧ Keeps w2 w') ((refine SOF.out _ ?_; (repeat (first | exact Keeps.refl _ | assumption | apply Keeps.drew | apply Keeps.alloc | (refine Keeps.setCell ?_ (by simp) _))); done)) (fail)
  rename_i hH
  clear hH
  have hne := BE.out.lt
  have K3 := Lib.hid (K2.out.trans (((Keeps.refl w2).alloc (.cells #[.int .i64 op, .int .i64 off, .int .i64 er] 72)).drew))
  have BE3 := Lib.hid ((BE.out.alloc (.cells #[.int .i64 op, .int .i64 off, .int .i64 er] 72)).drew)
  have BR3 := Lib.hid ((BR.out.alloc (.cells #[.int .i64 op, .int .i64 off, .int .i64 er] 72)).drew)
  have BS3 := Lib.hid ((Blk.new w2 72 #[.int .i64 op, .int .i64 off, .int .i64 er]).drew)
  generalize hw3 : (w2.alloc (.cells #[.int .i64 op, .int .i64 off, .int .i64 er] 72)).drew = w3 at K3 BE3 BR3 BS3 ⊢
  clear hw3 SOF C0 D0 D1 D2 R0 K2 BE BR
  have HCL := Lib.hid (clone64 ch A cn cc w3 (HC.out.keep K3.out) hcn (by omega))
  have ONE := Lib.hid (show (1 : Nat) = [(i : Int)].length from rfl)
  have LE := Lib.hid (show ch.length + [(i : Int)].length ≤ 1000000 by have := hcn.out; simp; omega)
  have HL5 := Lib.hid (show (ch ++ [(i : Int)]).length ≤ 1000000 by have := hcn.out; simp; omega)
  go_upto_region 4 with (first | (go_at_call 64; (with_reducible refine HCL.out.mono ?_); rintro e w4 ⟨A4, c4, rfl, ho4⟩; have O4 := Lib.hid (ho4.keep ((Keeps.refl w4).alloc (.cells #[.int .i64 (i : Int)] 3))); have X4 := Lib.hid (RecIn.lit intOk w4 [(i : Int)] #[.int .i64 (i : Int)] rfl); clear ho4) | (at_builtin; refine wpList_appR intOk (w0 := w3) rfl (.tmp 26) (.tmp 28) rfl _ ch rfl O4.out _ _ _ [(i : Int)] rfl X4.out ONE LE ?_; intro A5 n5 c5 w5 ho5 hg5; clear hg5; have O5 := Lib.hid ho5; clear ho5))
  obtain ⟨g, cap, hv5, hg3, hg5⟩ := O5.out.form (by simp)
  have e5 : n5 = (ch ++ [(i : Int)]).length ∧ A5 = some ⟨g, 0, none⟩ := by injection hv5 with q1 q2 q3; exact ⟨q2, q1⟩
  obtain ⟨e5a, rfl⟩ := e5
  have hn5 : n5 ≤ 1000000 := by rw [e5a]; exact HL5.out
  have HSRT := Lib.hid (sort_any (ch ++ [(i : Int)]) g n5 c5 w3 w5 O5.out hn5)
  clear hv5 e5a hg5
  go_upto_region 5 with (go_at_call 107; (with_reducible refine HSRT.out.mono ?_); rintro e w6 ⟨rfl, ho6, hg6⟩; have O6 := Lib.hid ho6; clear ho6 hg6)
  have HCM := Lib.hid (comp_any (srt (ch ++ [(i : Int)])) g n5 c5 w3 w6.drew (O6.out.keep (Keeps.refl w6).drew) hn5)
  have F1 := cell_keep (cell_of_blk BS3.out 1 (v := .int .i64 off) rfl) O6.out.2
  have F2 := cell_keep (cell_of_blk BS3.out 2 (v := .int .i64 er) rfl) O6.out.2
  have F3 := cell_keep (cell_of_blk BR3.out 3 (v := .int .i64 ti) rfl) O6.out.2
  have KK := Lib.hid O6.out.2
  have wsub : IntKind.i64.wrap (ti - er) = ti - er := wrap_in (by omega) (by omega)
  have wadd : IntKind.i64.wrap (ti + er) = ti + er := wrap_in (by omega) (by omega)
  have SOF := Lib.hid (show ∀ X, Keeps w3 X → (fun w' => w'.cell? ⟨w2.heap.size, 1, none⟩ = some (.int .i64 off) ∧ w'.cell? ⟨w2.heap.size, 2, none⟩ = some (.int .i64 er) ∧ w'.cell? ⟨w.heap.size + 1, 3, none⟩ = some (.int .i64 ti) ∧ Keeps w w') X from fun X hX => ⟨cell_keep (cell_of_blk BS3.out 1 rfl) hX, cell_keep (cell_of_blk BS3.out 2 rfl) hX, cell_keep (cell_of_blk BR3.out 3 rfl) hX, K3.out.trans hX⟩)
  have SOF2 := Lib.hid (show ∀ X o v, (fun w' => w'.cell? ⟨w2.heap.size, 1, none⟩ = some (.int .i64 off) ∧ w'.cell? ⟨w2.heap.size, 2, none⟩ = some (.int .i64 er) ∧ w'.cell? ⟨w.heap.size + 1, 3, none⟩ = some (.int .i64 ti) ∧ Keeps w w') X → (fun w' => w'.cell? ⟨w2.heap.size, 1, none⟩ = some (.int .i64 off) ∧ w'.cell? ⟨w2.heap.size, 2, none⟩ = some (.int .i64 er) ∧ w'.cell? ⟨w.heap.size + 1, 3, none⟩ = some (.int .i64 ti) ∧ Keeps w w') (X.setCell ⟨w.heap.size, o, none⟩ v) from fun X o v hX =>
    ⟨(World.cell?_setCell_other X _ _ v (fun e => by have : w.heap.size = w2.heap.size := congrArg Addr.block e; omega)).trans hX.1, (World.cell?_setCell_other X _ _ v (fun e => by have : w.heap.size = w2.heap.size := congrArg Addr.block e; omega)).trans hX.2.1, (World.cell?_setCell_other X _ _ v (fun e => by have : w.heap.size = w.heap.size + 1 := congrArg Addr.block e; omega)).trans hX.2.2.1, hX.2.2.2.setCell (Nat.le_refl _) v⟩)
  have HG3 := Lib.hid hg3
  clear hg3
  go_region_held3 (fun w' => w'.cell? ⟨w2.heap.size, 1, none⟩ = some (.int .i64 off) ∧ w'.cell? ⟨w2.heap.size, 2, none⟩ = some (.int .i64 er) ∧ w'.cell? ⟨w.heap.size + 1, 3, none⟩ = some (.int .i64 ti) ∧ Keeps w w') (((repeat (refine SOF2.out _ _ _ ?_)); refine SOF.out _ ?_; (repeat (first | exact KK.out | assumption | apply Keeps.drew | apply Keeps.alloc)); done)) ((go_at_call 108; (with_reducible refine HCM.out.mono ?_); rintro e w7 ⟨rfl, hr7, hg7⟩; have hk7 : Keeps w3 w7 := grown_keeps KK.out.drew hg7 (fun x e => by cases e; exact HG3.out); have R7 := Lib.hid hr7; have BE7 := BE3.out.below hk7 BE3.out.lt; have z0 := cell_of_blk BE7 0 (v := .int .i64 0) rfl; have z1 := cell_of_blk BE7 1 (v := .int .i64 0) rfl; have z2 := cell_of_blk BE7 2 (v := .int .i64 0) rfl; have z3 := cell_of_blk BE7 3 (v := .slice none 0 0) rfl; have y0 := BE7.frozen 0; have y1 := BE7.frozen 1; have y2 := BE7.frozen 2; have y3 := BE7.frozen 3; have HB7 := Lib.hid BE7; clear hr7 hg7 BE7))
  rename_i hH
  have KF := Lib.hid hH.2.2.2
  clear hH SOF SOF2 F1 F2 F3 HCM
  have RF := Lib.hid (show RecIn intR ((((w7.setCell ⟨w.heap.size, 0, none⟩ (.int .i64 off)).setCell ⟨w.heap.size, 1, none⟩ (.int .i64 (ti - er))).setCell ⟨w.heap.size, 2, none⟩ (.int .i64 (ti + er))).setCell ⟨w.heap.size, 3, none⟩ (.slice (some ⟨g, 0, none⟩) (Lib.compact (srt (ch ++ [(i : Int)]))).length c5)) w7.heap.size (some ⟨g, 0, none⟩) (Lib.compact (srt (ch ++ [(i : Int)]))) from by
    have hgw : w.heap.size ≠ g := by have := HG3.out; have := BE3.out.lt; omega
    intro j y hj
    obtain ⟨b, o, e, hb, hc⟩ := R7.out j y hj
    cases e
    refine ⟨g, 0, rfl, hb, fun t u hu => ?_⟩
    have far : ∀ (X : World) (o' o2 : Nat) (v : Value), (X.setCell ⟨w.heap.size, o', none⟩ v).cell? ⟨g, o2, none⟩ = X.cell? ⟨g, o2, none⟩ := fun X o' o2 v => World.cell?_setCell_other X _ _ v (fun e => hgw (congrArg Addr.block e))
    rw [far, far, far, far]
    exact hc t u hu)
  have B8 := (((HB7.out.set_ 0 (.int .i64 off)).set_ 1 (.int .i64 (ti - er))).set_ 2 (.int .i64 (ti + er))).set_ 3 (.slice (some ⟨g, 0, none⟩) (Lib.compact (srt (ch ++ [(i : Int)]))).length c5)
  have KS := Lib.hid (show w7.heap.size ≤ ((((w7.setCell ⟨w.heap.size, 0, none⟩ (.int .i64 off)).setCell ⟨w.heap.size, 1, none⟩ (.int .i64 (ti - er))).setCell ⟨w.heap.size, 2, none⟩ (.int .i64 (ti + er))).setCell ⟨w.heap.size, 3, none⟩ (.slice (some ⟨g, 0, none⟩) (Lib.compact (srt (ch ++ [(i : Int)]))).length c5)).heap.size by simp)
  generalize hw8 : (((w7.setCell ⟨w.heap.size, 0, none⟩ (.int .i64 off)).setCell ⟨w.heap.size, 1, none⟩ (.int .i64 (ti - er))).setCell ⟨w.heap.size, 2, none⟩ (.int .i64 (ti + er))).setCell ⟨w.heap.size, 3, none⟩ (.slice (some ⟨g, 0, none⟩) (Lib.compact (srt (ch ++ [(i : Int)]))).length c5) = w8 at KF RF B8 KS ⊢
  clear hw8 z0 z1 z2 z3 y0 y1 y2 y3
  have z0 := cell_of_blk B8 0 (v := .int .i64 off) rfl
  have z1 := cell_of_blk B8 1 (v := .int .i64 (ti - er)) rfl
  have z2 := cell_of_blk B8 2 (v := .int .i64 (ti + er)) rfl
  have z3 := cell_of_blk B8 3 (v := .slice (some ⟨g, 0, none⟩) (Lib.compact (srt (ch ++ [(i : Int)]))).length c5) rfl
  clear B8
  go_wp2_with fail
  have HE := HEV.out
  refine bodyPost_ret (v := .agg #[.int .i64 off, .int .i64 (ti - er), .int .i64 (ti + er), .slice (some ⟨g, 0, none⟩) (Lib.compact (srt (ch ++ [(i : Int)]))).length c5]) (by simp [results, Tryz.results62, go_sem, z0, z1, z2, z3]) rfl ?_
  rw [HE]
  exact ⟨some ⟨g, 0, none⟩, c5, rfl, RF.out.more KS.out, KF.out, fun b o t e => by cases e; have := HG3.out; have := K3.out.size; omega⟩
end Go.Proofs.YthkmpegpmpdhaaaGreatDoor
