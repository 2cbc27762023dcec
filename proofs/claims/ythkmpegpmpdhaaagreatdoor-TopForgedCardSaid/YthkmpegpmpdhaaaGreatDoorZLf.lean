/- Part of the proof of TopOwnItem. Conditions: as stated in each theorem. -/
import Derived.Test.YthkmpegpmpdhaaaGreatDoorZNv
import Derived.Test.YthkmpegpmpdhaaaGreatDoorZGt
import Derived.Test.YthkmpegpmpdhaaaGreatDoorProg
import Derived.WalkMore
import Derived.LoopN
import Derived.Lib.ConvBytes
import Derived.Maps.OwnIn
import Derived.Deep.LoopGhost
import Derived.RangeFuncNested
import Derived.RangeFuncCalls
import Derived.RangeFuncLeaves
import Derived.RangeFuncWrites
import Derived.Shelf.Abstract
import Derived.Shelf.RegionOpen
import Derived.OwnWalkIn
import Derived.TacticsInMore
import Derived.LoopNIn
import Derived.LoopIn
import Derived.RangeFuncBound
import Derived.Laws.IdiomCopy
import Derived.WalkKit
import Derived.WalkSpells
import Derived.WalkLawsBesides
import Derived.Laws.EntriesVeiled
import Derived.ProofKit
import Derived.OpenShut
import Derived.Lib.Hide
import Derived.BigQuiet
import Derived.Deep.QuietTactic
import Derived.Deep.CutRange
import Derived.StillTailTactics
import Derived.Lib.SliceRun
import Derived.RangeFuncRecord
import Derived.Carry
import Derived.ChangeKeysEq
import Derived.Below
import Derived.Laws.OwnMore
import Derived.Deep.AppendLies
import Derived.Deep.Draws
import Derived.Laws.Rows
import Derived.Maps.AppendAt
import Derived.RegionTactic
import Derived.OwnWalk
import Derived.Deep.RegionHeld3
namespace Go.Proofs.YthkmpegpmpdhaaaGreatDoor
open Go.Shelf Go.ChangeShapes Go.WideShapes Go.ChangeAt Go.RowKit
set_option linter.unusedSimpArgs false
set_option linter.unusedVariables false
section
attribute [local go_sem] Oper.semAt_some
set_option maxRecDepth 100000 in
set_option maxHeartbeats 16000000 in
theorem law_forged (l : List Scn) (lA : Option Addr) (n lc : Nat) (ts : List Trk) (tA : Option Addr) (m tc : Nat) (ks : List Int) (kA : Option Addr) (k kc : Nat) (fr tw wh : Int) (lab : ByteArray) (ix : Int) (path : List Int) (pA : Option Addr) (p pc : Nat) (w : World)
    (hl : RecIn scR w w.heap.size lA l) (hn : Hid (n = l.length)) (hT : RecIn tkR w w.heap.size tA ts) (hm : Hid (m = ts.length)) (hin : ∀ t ∈ ts, TrkIn w t) (hk : RecIn intR w w.heap.size kA ks) (hkn : Hid (k = ks.length)) (hp : RecIn intR w w.heap.size pA path) (hpn : Hid (p = path.length))
    (hfr : 0 ≤ fr ∧ fr ≤ 255) (htw : 0 ≤ tw ∧ tw ≤ 255) (hwh : 0 ≤ wh ∧ wh ≤ 255) (hix : ix ≤ 9223372036854775807) (hnx : n ≤ 9223372036854775807) (hmx : m ≤ 9223372036854775807) (hkx : k ≤ 9223372036854775807) (hpx : p ≤ 9223372036854775807) (hlx : lab.size ≤ 9223372036854775807) (ht : Tab w) (hkw : Kw w) :
    Calls Tryz.prog 4 #[.slice lA n lc, .slice tA m tc, .slice kA k kc, .int .u8 fr, .int .u8 tw, .int .u8 wh, .string lab, .agg #[.int .i64 ix, .slice pA p pc]] w (BoolPost true w) := by
  have K0 := Lib.hid ((Keeps.refl w).alloc (.cells #[.int .i64 ix, .slice pA p pc] 49))
  have B0 := Lib.hid (Blk.new w 49 #[.int .i64 ix, .slice pA p pc])
  have HL := Lib.hid hl; have HT := Lib.hid hT; have HIN := Lib.hid hin; have HK := Lib.hid hk; have HP := Lib.hid hp; have TB := Lib.hid ht; have KW := Lib.hid hkw
  clear hl hT hin hk hp ht hkw
  go_enter Tryz.func4, Tryz.ntmps4
  go_upto_region 1 with fail
  generalize hw1 : w.alloc (.cells #[.int .i64 ix, .slice pA p pc] 49) = w1 at *
  clear hw1
  have H14 := Lib.hid (handed14 w1 (KW.out.keep K0.out) (TB.out.keep K0.out))
  go_upto_region 2 with (go_at_call 14; (with_reducible refine H14.out.mono ?_); rintro e w2 ⟨rfl, hk2⟩; have G2 := Lib.hid hk2; clear hk2)
  have K2 := Lib.hid (K0.out.trans G2.out)
  have z0 : w2.cell? ⟨w.heap.size, 0, none⟩ = some (.int .i64 ix) := cell_keep (B0.out.cell 0) G2.out
  have z1 : w2.cell? ⟨w.heap.size, 1, none⟩ = some (.slice pA p pc) := cell_keep (B0.out.cell 1) G2.out
  have hbp : w.heap.size < w2.heap.size := Nat.lt_of_lt_of_le B0.out.lt G2.out.size
  clear H14 G2 B0 K0
  by_cases hF : FewT n ts
  rotate_left
  · have C15 := Lib.hid (few_no ts lA tA n lc m tc w2 (HT.out.keep K2.out) hm hmx hF)
    go_wp2_with (go_at_call 15; (with_reducible refine C15.out.mono ?_); rintro e w3 ⟨rfl, rfl⟩)
    go_ret
    exact bool_post rfl K2.out
  have C15 := Lib.hid (few_yes ts lA tA n lc m tc w2 (HT.out.keep K2.out) hm hmx hF)
  have m8 : m ≤ 8 := by have := hF.nt; have := hm.out; omega
  have n30 : n ≤ 30 := hF.sc
  have FS := Lib.hid hF
  clear hF
  have d8 : decide ((8 : Int) < (m : Int)) = false := by simp; omega
  have d8' : decide (8 < m) = false := by simp; omega
  by_cases hK : KeysOk ks
  rotate_left
  · have C16 := Lib.hid (keys_no ks kA k kc w2 (HK.out.keep K2.out) hkn hkx hK)
    go_wp2_with (first | (go_at_call 15; (with_reducible refine C15.out.mono ?_); rintro e w3 ⟨rfl, rfl⟩) | (go_at_call 16; (with_reducible refine C16.out.mono ?_); rintro e w3 ⟨rfl, rfl⟩))
    go_ret
    exact bool_post rfl K2.out
  have C16 := Lib.hid (keys_yes ks kA k kc w2 (HK.out.keep K2.out) hkn hkx hK)
  have k6 : k ≤ 6 := by have := hK.2.2; have := hkn.out; omega
  have k1 : 1 ≤ k := by have := hK.2.1; have := hkn.out; omega
  clear hK
  obtain ⟨ls, hls⟩ : ∃ s, lab.size = s := ⟨_, rfl⟩
  have LS := Lib.hid hls
  by_cases hl4 : ls ≤ 40
  rotate_left
  · have d40 : (40 : Int) < (ls : Int) := by omega
    have d40' : 40 < ls := by omega
    go_wp2_with (first | (go_at_call 15; (with_reducible refine C15.out.mono ?_); rintro e w3 ⟨rfl, rfl⟩) | (go_at_call 16; (with_reducible refine C16.out.mono ?_); rintro e w3 ⟨rfl, rfl⟩))
    go_ret
    exact bool_post rfl K2.out
  have d40 : decide ((40 : Int) < (ls : Int)) = false := by simp; omega
  have d40' : decide (40 < ls) = false := by simp; omega
  by_cases hp3 : p ≤ 30
  rotate_left
  · have d30 : (30 : Int) < (p : Int) := by omega
    have d30' : 30 < p := by omega
    go_wp2_with (first | (go_at_call 15; (with_reducible refine C15.out.mono ?_); rintro e w3 ⟨rfl, rfl⟩) | (go_at_call 16; (with_reducible refine C16.out.mono ?_); rintro e w3 ⟨rfl, rfl⟩))
    go_ret
    exact bool_post rfl K2.out
  have d30 : decide ((30 : Int) < (p : Int)) = false := by simp; omega
  have d30' : decide (30 < p) = false := by simp; omega
  go_upto_region 4 with (first | (go_at_call 15; (with_reducible refine C15.out.mono ?_); rintro e w3 ⟨rfl, rfl⟩) | (go_at_call 16; (with_reducible refine C16.out.mono ?_); rintro e w3 ⟨rfl, rfl⟩))
  have ME := Lib.hid hm.out
  have C17 := Lib.hid (recs_any l ts lA tA n lc m tc w2 (HL.out.keep K2.out) hn (by omega) (HT.out.keep K2.out) hm m8 ⟨fun t h => (HIN.out t h).ok.keep K2.out, fun t h => Nat.le_trans (FS.out.st t h) (by omega), fun t h => Nat.le_trans (FS.out.se t h) (by omega), fun t h => Nat.le_trans (FS.out.si t h) (by omega), fun t h => Nat.le_trans (FS.out.lb t h) (by omega)⟩ FS.out.st)
  clear C15 C16 d8 d8' d40 d40' d30 d30'
  go_upto_region 5 with (go_at_call 17; (with_reducible refine C17.out.mono ?_); rintro e w3 ⟨A3, n3, c3, L, rfl, hk3, hn3, hR3, hx3⟩; have G3 := Lib.hid hk3; have N3 := Lib.hid hn3; have R3 := Lib.hid hR3; have X3 := Lib.hid hx3; clear hk3 hn3 hR3 hx3)
  have K3 := Lib.hid (K2.out.trans G3.out)
  have y0 := cell_keep z0 G3.out
  have y1 := cell_keep z1 G3.out
  clear z0 z1 C17
  by_cases h0 : n3 = 0
  · subst h0
    go_wp2_with fail
    go_ret
    exact bool_post rfl K3.out
  have e0 : ((n3 : Int) == 0) = false := by simp; omega
  have e0' : decide ((n3 : Int) = 0) = false := by simp; omega
  have e0'' : (n3 == 0) = false := by simp; omega
  go_upto_region 7 with fail
  obtain ⟨q, hq, hqn⟩ : ∃ q : Nat, wh.tmod (n3 : Int) = (q : Int) ∧ q < n3 := by
    refine ⟨(wh.tmod (n3 : Int)).toNat, ?_, ?_⟩
    · rw [Int.tmod_eq_emod_of_nonneg hwh.1]
      have := Int.emod_nonneg wh (show (n3 : Int) ≠ 0 by omega)
      omega
    · rw [Int.tmod_eq_emod_of_nonneg hwh.1]
      have := Int.emod_nonneg wh (show (n3 : Int) ≠ 0 by omega)
      have := Int.emod_lt_of_pos wh (show (0 : Int) < n3 by omega)
      omega
  have hq2 : wh % (n3 : Int) = (q : Int) := by rw [← Int.tmod_eq_emod_of_nonneg hwh.1]; exact hq
  have hww : IntKind.i64.wrap wh = wh := wrap_in (by omega) (by omega)
  have qn : (q : Int) < (n3 : Int) := by omega
  have q0 : (0 : Int) ≤ (q : Int) := by omega
  obtain ⟨x, hx⟩ : ∃ x, L[q]? = some x := ⟨_, List.getElem?_eq_getElem (by have := N3.out; omega)⟩
  obtain ⟨b, o, rfl, hb, hcell⟩ := R3.out q x hx
  have XX := Lib.hid (X3.out x (List.mem_of_getElem? hx))
  clear hx X3 R3
  obtain ⟨sc, nu, ki, ti, xl, con, xA, xc⟩ := x
  have c0 : w3.cell? ⟨b, o + q * 6, none⟩ = some (.int .i64 sc) := hcell 0 _ rfl
  have c1 : w3.cell? ⟨b, o + q * 6 + 1, none⟩ = some (.int .i64 nu) := hcell 1 _ rfl
  have c2 : w3.cell? ⟨b, o + q * 6 + 2, none⟩ = some (.int .i64 ki) := hcell 2 _ rfl
  have c3' : w3.cell? ⟨b, o + q * 6 + 3, none⟩ = some (.int .i64 ti) := hcell 3 _ rfl
  have c4 : w3.cell? ⟨b, o + q * 6 + 4, none⟩ = some (.string xl) := hcell 4 _ rfl
  have c5 : w3.cell? ⟨b, o + q * 6 + 5, none⟩ = some (.slice xA con.length xc) := hcell 5 _ rfl
  obtain ⟨cn, hcn⟩ : ∃ cn, con.length = cn := ⟨_, rfl⟩
  rw [hcn] at c5
  have CN := Lib.hid hcn
  clear hcell hcn
  go_upto_region 8 with fail
  have k4 := (Keeps.refl w3).alloc (.cells #[.int .i64 sc, .int .i64 nu, .int .i64 ki, .int .i64 ti, .string xl, .slice xA cn xc] 26)
  have B4 := Lib.hid (Blk.new w3 26 #[.int .i64 sc, .int .i64 nu, .int .i64 ki, .int .i64 ti, .string xl, .slice xA cn xc])
  have K4 := Lib.hid (K3.out.trans k4)
  have v0 := cell_keep y0 k4
  have v1 := cell_keep y1 k4
  have XC := Lib.hid (XX.out.1.keep k4)
  clear hb c0 c1 c2 c3' c4 c5 qn q0 hq hq2 hqn hww e0 e0' e0'' h0 y0 y1
  generalize hw4 : w3.alloc (.cells #[.int .i64 sc, .int .i64 nu, .int .i64 ki, .int .i64 ti, .string xl, .slice xA cn xc] 26) = w4 at *
  generalize hxb : w3.heap.size = xb at *
  clear hw4 k4 hxb
  have x2 : w4.cell? ⟨xb, 2, none⟩ = some (.int .i64 ki) := B4.out.cell 2
  by_cases hki : ki = 2
  rotate_left
  · have e2 : (ki == 2) = false := by simpa using hki
    have e2' : decide (ki = 2) = false := by simpa using hki
    go_wp2_with fail
    go_ret
    exact bool_post rfl K4.out
  subst hki
  go_upto_region 10 with fail
  have x3 : w4.cell? ⟨xb, 3, none⟩ = some (.int .i64 ti) := B4.out.cell 3
  have x4 : w4.cell? ⟨xb, 4, none⟩ = some (.string xl) := B4.out.cell 4
  have x5 : w4.cell? ⟨xb, 5, none⟩ = some (.slice xA cn xc) := B4.out.cell 5
  obtain ⟨fi, hfi⟩ : ∃ fi, fr.tmod (k : Int) = fi := ⟨_, rfl⟩
  obtain ⟨gi, hgi⟩ : ∃ gi, tw.tmod (k : Int) = gi := ⟨_, rfl⟩
  have hfi2 : fr % (k : Int) = fi := by rw [← Int.tmod_eq_emod_of_nonneg hfr.1]; exact hfi
  have hgi2 : tw % (k : Int) = gi := by rw [← Int.tmod_eq_emod_of_nonneg htw.1]; exact hgi
  have hfw : IntKind.i64.wrap fr = fr := wrap_in (by omega) (by omega)
  have hgw : IntKind.i64.wrap tw = tw := wrap_in (by omega) (by omega)
  have kne : ¬ (k : Int) = 0 := by omega
  have kne' : ((k : Int) == 0) = false := by simp; omega
  have kne2 : ¬ k = 0 := by omega
  have cn40 : cn ≤ 40 := by have := XX.out.2.1; have := CN.out; simp only at *; omega
  have CN2 := Lib.hid CN.out.symm
  have SZ : ∀ s ∈ con, ∃ t ∈ ts, xl ∈ t.se ∧ labR ti t.si t.lb = s := XX.out.2.2.2 rfl
  have CW := Lib.hid (fun X (hX : Keeps w4 X) => write_any ks fi gi xl ti con kA k kc xA cn xc X (HK.out.keep (K4.out.trans hX)) hkn (by omega) (fun hne => by
      obtain ⟨s, hs⟩ := List.exists_mem_of_ne_nil _ hne
      obtain ⟨t, ht, h1, _⟩ := SZ s hs
      exact (HIN.out t ht).se _ h1) (XC.out.keep hX) CN2 (by omega) (fun s hs => by
      obtain ⟨t, ht, _, h2⟩ := SZ s hs
      rw [← h2]
      rcases labR_mem ti t.si t.lb with e | e
      · rw [e]; decide
      · exact (HIN.out t ht).lb _ e) (TB.out.keep (K4.out.trans hX)))
  have SOF := Lib.hid (show ∀ X, Keeps w4 X → (fun w' : World => w'.cell? ⟨xb, 3, none⟩ = some (.int .i64 ti) ∧ w'.cell? ⟨xb, 4, none⟩ = some (.string xl) ∧ w'.cell? ⟨xb, 5, none⟩ = some (.slice xA cn xc) ∧ Keeps w4 w') X from fun X hX => ⟨cell_keep x3 hX, cell_keep x4 hX, cell_keep x5 hX, hX⟩)
  have HSZ := Lib.hid SZ
  clear SZ x2 x3 x4 x5
  go_cut [20, 21] from 72 to 92 (fun a b wx => WDoc ks con (doc0 fi gi xl ti con) w4 a b wx)
  case first =>
    have kz := Keeps.refl w4
    have ka : Keeps w4 ((w4.alloc (.cells #[.string ⟨#[]⟩, .int .i64 0, .int .i64 0, .int .i64 0, .int .i64 0, .int .i64 0, .int .i64 0, .int .i64 0] 54)).drew) := ((Keeps.refl w4).alloc _).drew
    have ba : Blk ((w4.alloc (.cells #[.string ⟨#[]⟩, .int .i64 0, .int .i64 0, .int .i64 0, .int .i64 0, .int .i64 0, .int .i64 0, .int .i64 0] 54)).drew) w4.heap.size 54 #[.string ⟨#[]⟩, .int .i64 0, .int .i64 0, .int .i64 0, .int .i64 0, .int .i64 0, .int .i64 0, .int .i64 0] := (Blk.new w4 54 #[.string ⟨#[]⟩, .int .i64 0, .int .i64 0, .int .i64 0, .int .i64 0, .int .i64 0, .int .i64 0, .int .i64 0]).drew
    have CWA := Lib.hid (CW.out _ ka)
    have CWB := Lib.hid (CW.out _ (Keeps.refl w4).drew)
    go_region_held3 (fun w' : World => w'.cell? ⟨xb, 3, none⟩ = some (.int .i64 ti) ∧ w'.cell? ⟨xb, 4, none⟩ = some (.string xl) ∧ w'.cell? ⟨xb, 5, none⟩ = some (.slice xA cn xc) ∧ Keeps w4 w') ((with_reducible refine SOF.out _ ?_; (repeat (first | with_reducible exact kz | with_reducible exact hk5 | (with_reducible refine Keeps.setCell ?_ (Nat.le_refl _) _) | (with_reducible apply Keeps.drew) | (with_reducible apply Keeps.alloc))); done)) ((first | (go_at_call 18; (with_reducible refine CWA.out.mono ?_); rintro e w5 ⟨⟨d, er, rfl, hd⟩, hk5'⟩; obtain ⟨sl, dfr, dtw, dti, dct, drt, dgv, dtk⟩ := d; have HD := Lib.hid hd; have hk5 : Keeps w4 w5 := ka.trans hk5'; have bb := ba.below hk5' ba.lt; have q0 := bb.cell 0; have q1 := bb.cell 1; have q2 := bb.cell 2; have q3 := bb.cell 3; have q4 := bb.cell 4; have q5 := bb.cell 5; have q6 := bb.cell 6; have q7 := bb.cell 7; simp at q0 q1 q2 q3 q4 q5 q6 q7; have f0 := bb.frozen 0; have f1 := bb.frozen 1; have f2 := bb.frozen 2; have f3 := bb.frozen 3; have f4 := bb.frozen 4; have f5 := bb.frozen 5; have f6 := bb.frozen 6; have f7 := bb.frozen 7; have BB := Lib.hid bb; have HSEL := Lib.hid (Nat.le_refl w4.heap.size); clear hd bb hk5') | (go_at_call 18; (with_reducible refine CWB.out.mono ?_); rintro e w5 ⟨⟨d, er, rfl, hd⟩, hk5'⟩; obtain ⟨sl, dfr, dtw, dti, dct, drt, dgv, dtk⟩ := d; have HD := Lib.hid hd; have hk5 : Keeps w4 w5 := ((Keeps.refl w4).drew).trans hk5'; clear hd hk5')))
    all_goals (rename_i hH; clear hH)
    · have WD := Lib.hid (show WDoc ks con (doc0 fi gi xl ti con) w4 (.pointer (some ⟨w5.heap.size, 0, none⟩)) (.int .i64 er) (w5.alloc (.cells #[.string sl, .int .i64 dfr, .int .i64 dtw, .int .i64 dti, .int .i64 dct, .int .i64 drt, .int .i64 dgv, .int .i64 dtk] 54)) from ⟨_, _, _, _, _, _, _, _, _, _, rfl, rfl, hk5.alloc _, Blk.new _ _ _, HD.out⟩)
      clear hk5
      go_wp2_with fail
      go_meet
      exact WD.out
    · have WD := Lib.hid (show WDoc ks con (doc0 fi gi xl ti con) w4 (.pointer (some ⟨w4.heap.size, 0, none⟩)) (.int .i64 er) ((((((((w5.setCell ⟨w4.heap.size, 0, none⟩ (.string sl)).setCell ⟨w4.heap.size, 1, none⟩ (.int .i64 dfr)).setCell ⟨w4.heap.size, 2, none⟩ (.int .i64 dtw)).setCell ⟨w4.heap.size, 3, none⟩ (.int .i64 dti)).setCell ⟨w4.heap.size, 4, none⟩ (.int .i64 dct)).setCell ⟨w4.heap.size, 5, none⟩ (.int .i64 drt)).setCell ⟨w4.heap.size, 6, none⟩ (.int .i64 dgv)).setCell ⟨w4.heap.size, 7, none⟩ (.int .i64 dtk)) from ⟨_, _, _, _, _, _, _, _, _, _, rfl, rfl, ((((((((hk5.setCell (Nat.le_refl _) _).setCell (Nat.le_refl _) _).setCell (Nat.le_refl _) _).setCell (Nat.le_refl _) _).setCell (Nat.le_refl _) _).setCell (Nat.le_refl _) _).setCell (Nat.le_refl _) _).setCell (Nat.le_refl _) _), ((((((((BB.out.set_ 0 (.string sl)).set_ 1 (.int .i64 dfr)).set_ 2 (.int .i64 dtw)).set_ 3 (.int .i64 dti)).set_ 4 (.int .i64 dct)).set_ 5 (.int .i64 drt)).set_ 6 (.int .i64 dgv)).set_ 7 (.int .i64 dtk)), HD.out⟩)
      clear hk5 q0 q1 q2 q3 q4 q5 q6 q7 f0 f1 f2 f3 f4 f5 f6 f7
      go_wp2_with fail
      go_meet
      exact WD.out
  case rest =>
    obtain ⟨db, sl, dfr, dtw, dti, dct, drt, dgv, dtk, er, rfl, rfl, hk6, hb6, hd6⟩ := hcut
    have K6 := Lib.hid (K4.out.trans hk6)
    have G6 := Lib.hid hk6
    have XB6 := Lib.hid (B4.out.below hk6 B4.out.lt)
    have u0 := cell_keep v0 hk6
    have u1 := cell_keep v1 hk6
    have XC6 := Lib.hid (XC.out.keep hk6)
    have d0 : wc.cell? ⟨db, 0, none⟩ = some (.string sl) := hb6.cell 0
    have d1 : wc.cell? ⟨db, 1, none⟩ = some (.int .i64 dfr) := hb6.cell 1
    have d2 : wc.cell? ⟨db, 2, none⟩ = some (.int .i64 dtw) := hb6.cell 2
    have d3 : wc.cell? ⟨db, 3, none⟩ = some (.int .i64 dti) := hb6.cell 3
    have d4 : wc.cell? ⟨db, 4, none⟩ = some (.int .i64 dct) := hb6.cell 4
    have d5 : wc.cell? ⟨db, 5, none⟩ = some (.int .i64 drt) := hb6.cell 5
    have d6 : wc.cell? ⟨db, 6, none⟩ = some (.int .i64 dgv) := hb6.cell 6
    have d7 : wc.cell? ⟨db, 7, none⟩ = some (.int .i64 dtk) := hb6.cell 7
    clear hk6 hb6 v0 v1 hfi hgi hfi2 hgi2 hfw hgw kne kne' kne2 CW SOF
    by_cases her : er = 0
    rotate_left
    · have e1 : (er == 0) = false := by simpa using her
      have e1' : decide (er = 0) = false := by simpa using her
      go_wp2_with fail
      go_ret
      exact bool_post rfl K6.out
    subst her
    obtain ⟨hok, hm0, hdd⟩ := hd6 rfl
    have HOK := Lib.hid hok
    have ect : dct = (con.length : Int) := congrArg Dc.ct hdd
    have ert : drt = rootF con := congrArg Dc.rt hdd
    have CV := Lib.hid (verify19 ⟨sl, dfr, dtw, dti, dct, drt, dgv, dtk⟩ ks kA k kc lab ix path pA p pc wc (HK.out.keep K6.out) hkn (by omega) (by
      rw [hdd]
      have := label_small (malF_range hm0).1
      exact Nat.le_trans this (by omega)) (TB.out.keep K6.out) (HP.out.keep K6.out) hpn (by omega) (by omega) hix (by rw [hdd]; exact malF_doc2 hm0) (by rw [hdd]; rfl) (by rw [hdd]; rfl))
    simp only at CV
    obtain ⟨vv, hvv⟩ : ∃ vv, verE lab ix path dct drt = vv := ⟨_, rfl⟩
    rw [hvv] at CV
    rw [ect, ert] at hvv
    have HVV := Lib.hid hvv
    clear hok hm0 hdd ect ert hd6 hvv
    by_cases hv : vv = 0
    rotate_left
    · have e1 : (vv == 0) = false := by simpa using hv
      have e1' : decide (vv = 0) = false := by simpa using hv
      go_wp2_with (go_at_call 19; (with_reducible refine CV.out.mono ?_); rintro e w7 ⟨rfl, hk7⟩; have K7 := Lib.hid (K6.out.trans hk7); clear hk7)
      go_ret
      exact bool_post rfl K7.out
    subst hv
    go_upto_region 14 with (go_at_call 19; (with_reducible refine CV.out.mono ?_); rintro e w7 ⟨rfl, hk7⟩; have G7 := Lib.hid hk7; clear hk7)
    have K7 := Lib.hid (K6.out.trans G7.out)
    have XB7 := Lib.hid (XB6.out.below G7.out XB6.out.lt)
    have XC7 := Lib.hid (XC6.out.keep G7.out)
    have t0 := cell_keep u0 G7.out
    have t1 := cell_keep u1 G7.out
    have XW := Lib.hid (show ∀ t ∈ ts, WfT t from XX.out.2.2.1)
    clear d0 d1 d2 d3 d4 d5 d6 d7 CV G7 K6 XB6 XC6 u0 u1 K4 B4 XC G6 XX
    go_loopw [22, 23] (fun i _ wx => LawJ m ti xl lab ts w7 i wx) (fun i _ _ => m - (intOf i).toNat)
    case atStart => exact ⟨0, by omega, rfl, Keeps.refl _, fun x hx => by simp at hx⟩
    case round =>
      obtain ⟨j, hj, rfl, hkx, hall⟩ := hrel
      have HALL := Lib.hid hall
      clear hall
      by_cases hjm : j < m
      · obtain ⟨t, ht⟩ : ∃ t, ts[j]? = some t := ⟨_, List.getElem?_eq_getElem (by have := ME.out; omega)⟩
        have HTK := Lib.hid (take_snoc' ht)
        have HMM := List.mem_of_getElem? ht
        have TOK := Lib.hid ((HIN.out t HMM).ok.keep K7.out)
        have WF := Lib.hid (XW.out t HMM)
        have FSI := FS.out.si t HMM
        have FSE := FS.out.se t HMM
        obtain ⟨tb, to_, rfl, htb, a0, a1, a2, a3, a4, a5, a6, a7, a8, a9⟩ := (HT.out.keep K7.out).trk ht
        clear ht HMM
        have CL0 := Lib.hid (fun X (hX : Keeps w7 X) => label20 t ti X (TOK.out.keep hX) (wfT_lab WF.out) (by omega))
        obtain ⟨pl, pf, pt, pcc, pa, st, stA, stc, lost, si, siA, sic, lb, lbA, lbc, se, seA, sec⟩ := t
        obtain ⟨p1, hp1⟩ : ∃ q, st.length = q := ⟨_, rfl⟩
        obtain ⟨p2, hp2⟩ : ∃ q, si.length = q := ⟨_, rfl⟩
        obtain ⟨p3, hp3'⟩ : ∃ q, lb.length = q := ⟨_, rfl⟩
        obtain ⟨p4, hp4⟩ : ∃ q, se.length = q := ⟨_, rfl⟩
        obtain ⟨rr, hrr⟩ : ∃ r, labR ti si lb = r := ⟨_, rfl⟩
        simp only at a0 a1 a2 a3 a4 a5 a6 a7 a8 a9 FSE
        rw [hp1] at a5
        rw [hp2] at a7
        rw [hp3'] at a8
        rw [hp4] at a9 FSE
        have SOF := Lib.hid (show ∀ X, Keeps w7 X → X.cell? ⟨tb, to_ + j * 10, none⟩ = some (.string pl) ∧ X.cell? ⟨tb, to_ + j * 10 + 1, none⟩ = some (.int .i64 pf) ∧ X.cell? ⟨tb, to_ + j * 10 + 2, none⟩ = some (.int .i64 pt) ∧ X.cell? ⟨tb, to_ + j * 10 + 3, none⟩ = some (.int .i64 pcc) ∧ X.cell? ⟨tb, to_ + j * 10 + 4, none⟩ = some (.int .i64 pa) ∧ X.cell? ⟨tb, to_ + j * 10 + 5, none⟩ = some (.slice stA p1 stc) ∧ X.cell? ⟨tb, to_ + j * 10 + 6, none⟩ = some (.bool lost) ∧ X.cell? ⟨tb, to_ + j * 10 + 7, none⟩ = some (.slice siA p2 sic) ∧ X.cell? ⟨tb, to_ + j * 10 + 8, none⟩ = some (.slice lbA p3 lbc) ∧ X.cell? ⟨tb, to_ + j * 10 + 9, none⟩ = some (.slice seA p4 sec) from fun X hX => ⟨cell_keep a0 hX, cell_keep a1 hX, cell_keep a2 hX, cell_keep a3 hX, cell_keep a4 hX, cell_keep a5 hX, cell_keep a6 hX, cell_keep a7 hX, cell_keep a8 hX, cell_keep a9 hX⟩)
        have CL := Lib.hid (show ∀ X, Keeps w7 X → Calls Tryz.prog 20 #[.agg #[.string pl, .int .i64 pf, .int .i64 pt, .int .i64 pcc, .int .i64 pa, .slice stA p1 stc, .bool lost, .slice siA p2 sic, .slice lbA p3 lbc, .slice seA p4 sec], .int .i64 ti] X fun e w' => e = .returned (.string rr) ∧ Keeps X w' from fun X hX => by
          have h := CL0.out X hX
          unfold tkA at h
          simp only at h
          rw [hp1, hp2, hp3', hp4, hrr] at h
          exact h)
        have SEC := Lib.hid TOK.out.se
        have HP4 := Lib.hid hp4
        have HRR := Lib.hid hrr
        have jm : (j : Int) < (m : Int) := by omega
        have j0 : (0 : Int) ≤ (j : Int) := by omega
        have jw : IntKind.i64.wrap ((j : Int) + 1) = (j : Int) + 1 := wrap_in (by omega) (by omega)
        clear a0 a1 a2 a3 a4 a5 a6 a7 a8 a9 CL0 TOK WF FSI hp1 hp2 hp3' hp4 hrr
        go_upto_region 17 with fail
        go_loopw [23] (fun i wx => LawR p4 rr xl lab se w7 i wx) (fun i _ => p4 - (intOf i).toNat)
        case atStart => exact ⟨0, by omega, rfl, hkx, fun x hx => by simp at hx⟩
        case round =>
          obtain ⟨r, hr, rfl, hkx2, hse⟩ := hrel
          have HSE := Lib.hid hse
          clear hse
          have KX2 := Lib.hid hkx2
          have kz := hkx2
          have x3 : wr.cell? ⟨xb, 3, none⟩ = some (.int .i64 ti) := cell_keep (XB7.out.cell 3) hkx2
          have x4 : wr.cell? ⟨xb, 4, none⟩ = some (.string xl) := cell_keep (XB7.out.cell 4) hkx2
          obtain ⟨b0, b1, b2, b3, b4, b5, b6, b7, b8, b9⟩ := SOF.out _ hkx2
          by_cases hrp : r < p4
          · have rp : (r : Int) < (p4 : Int) := by omega
            have r0 : (0 : Int) ≤ (r : Int) := by omega
            have rw_ : IntKind.i64.wrap ((r : Int) + 1) = (r : Int) + 1 := wrap_in (by omega) (by omega)
            obtain ⟨s, hs⟩ : ∃ s, se[r]? = some s := ⟨_, List.getElem?_eq_getElem (by have := HP4.out; omega)⟩
            have HSK := Lib.hid (take_snoc' hs)
            obtain ⟨sb, so, rfl, hsb, s0⟩ := SEC.out.str hs
            have g0 := cell_keep s0 hkx2
            clear hs
            by_cases hsx : s = xl
            · subst hsx
              have SOF2 := Lib.hid (show ∀ X, Keeps w7 X → (fun w' : World => w'.cell? ⟨tb, to_ + j * 10, none⟩ = some (.string pl) ∧ w'.cell? ⟨tb, to_ + j * 10 + 1, none⟩ = some (.int .i64 pf) ∧ w'.cell? ⟨tb, to_ + j * 10 + 2, none⟩ = some (.int .i64 pt) ∧ w'.cell? ⟨tb, to_ + j * 10 + 3, none⟩ = some (.int .i64 pcc) ∧ w'.cell? ⟨tb, to_ + j * 10 + 4, none⟩ = some (.int .i64 pa) ∧ w'.cell? ⟨tb, to_ + j * 10 + 5, none⟩ = some (.slice stA p1 stc) ∧ w'.cell? ⟨tb, to_ + j * 10 + 6, none⟩ = some (.bool lost) ∧ w'.cell? ⟨tb, to_ + j * 10 + 7, none⟩ = some (.slice siA p2 sic) ∧ w'.cell? ⟨tb, to_ + j * 10 + 8, none⟩ = some (.slice lbA p3 lbc) ∧ w'.cell? ⟨tb, to_ + j * 10 + 9, none⟩ = some (.slice (some ⟨sb, so, none⟩) p4 sec) ∧ w'.cell? ⟨sb, so + r, none⟩ = some (.string s) ∧ w'.cell? ⟨xb, 3, none⟩ = some (.int .i64 ti) ∧ w'.cell? ⟨xb, 4, none⟩ = some (.string s) ∧ Keeps w7 w') X from fun X hX => by
                obtain ⟨b0, b1, b2, b3, b4, b5, b6, b7, b8, b9⟩ := SOF.out X hX
                exact ⟨b0, b1, b2, b3, b4, b5, b6, b7, b8, b9, cell_keep s0 hX, cell_keep (XB7.out.cell 3) hX, cell_keep (XB7.out.cell 4) hX, hX⟩)
              by_cases hrl : rr = lab
              · subst hrl
                go_upto_region 19 with fail
                go_region_held3 (fun w' : World => w'.cell? ⟨tb, to_ + j * 10, none⟩ = some (.string pl) ∧ w'.cell? ⟨tb, to_ + j * 10 + 1, none⟩ = some (.int .i64 pf) ∧ w'.cell? ⟨tb, to_ + j * 10 + 2, none⟩ = some (.int .i64 pt) ∧ w'.cell? ⟨tb, to_ + j * 10 + 3, none⟩ = some (.int .i64 pcc) ∧ w'.cell? ⟨tb, to_ + j * 10 + 4, none⟩ = some (.int .i64 pa) ∧ w'.cell? ⟨tb, to_ + j * 10 + 5, none⟩ = some (.slice stA p1 stc) ∧ w'.cell? ⟨tb, to_ + j * 10 + 6, none⟩ = some (.bool lost) ∧ w'.cell? ⟨tb, to_ + j * 10 + 7, none⟩ = some (.slice siA p2 sic) ∧ w'.cell? ⟨tb, to_ + j * 10 + 8, none⟩ = some (.slice lbA p3 lbc) ∧ w'.cell? ⟨tb, to_ + j * 10 + 9, none⟩ = some (.slice (some ⟨sb, so, none⟩) p4 sec) ∧ w'.cell? ⟨sb, so + r, none⟩ = some (.string s) ∧ w'.cell? ⟨xb, 3, none⟩ = some (.int .i64 ti) ∧ w'.cell? ⟨xb, 4, none⟩ = some (.string s) ∧ Keeps w7 w') ((with_reducible refine SOF2.out _ ?_; (repeat (first | with_reducible exact kz | with_reducible exact hk8 | (with_reducible apply Keeps.drew) | (with_reducible apply Keeps.alloc))); done)) ((go_at_call 20; (with_reducible refine (CL.out _ (by repeat (first | with_reducible exact kz | (with_reducible apply Keeps.drew)))).mono ?_); rintro e w8 ⟨rfl, hk8'⟩; have hk8 := Keeps.trans kz.drew hk8'; clear hk8'))
                rename_i hH
                clear hH
                have K8 := Lib.hid (K7.out.trans hk8)
                clear hk8
                go_wp2_with fail
                go_ret
                exact bool_post rfl K8.out
              · have e1 : (rr == lab) = false := by simpa using hrl
                have e1' : decide (rr = lab) = false := by simpa using hrl
                have e2 : (rr.toList == lab.toList) = false := Bool.eq_false_iff.2 fun hb => hrl ((ba_tl2 _ _).1 hb)
                go_upto_region 19 with fail
                go_region_held3 (fun w' : World => w'.cell? ⟨tb, to_ + j * 10, none⟩ = some (.string pl) ∧ w'.cell? ⟨tb, to_ + j * 10 + 1, none⟩ = some (.int .i64 pf) ∧ w'.cell? ⟨tb, to_ + j * 10 + 2, none⟩ = some (.int .i64 pt) ∧ w'.cell? ⟨tb, to_ + j * 10 + 3, none⟩ = some (.int .i64 pcc) ∧ w'.cell? ⟨tb, to_ + j * 10 + 4, none⟩ = some (.int .i64 pa) ∧ w'.cell? ⟨tb, to_ + j * 10 + 5, none⟩ = some (.slice stA p1 stc) ∧ w'.cell? ⟨tb, to_ + j * 10 + 6, none⟩ = some (.bool lost) ∧ w'.cell? ⟨tb, to_ + j * 10 + 7, none⟩ = some (.slice siA p2 sic) ∧ w'.cell? ⟨tb, to_ + j * 10 + 8, none⟩ = some (.slice lbA p3 lbc) ∧ w'.cell? ⟨tb, to_ + j * 10 + 9, none⟩ = some (.slice (some ⟨sb, so, none⟩) p4 sec) ∧ w'.cell? ⟨sb, so + r, none⟩ = some (.string s) ∧ w'.cell? ⟨xb, 3, none⟩ = some (.int .i64 ti) ∧ w'.cell? ⟨xb, 4, none⟩ = some (.string s) ∧ Keeps w7 w') ((with_reducible refine SOF2.out _ ?_; (repeat (first | with_reducible exact kz | with_reducible exact hk8 | (with_reducible apply Keeps.drew) | (with_reducible apply Keeps.alloc))); done)) ((go_at_call 20; (with_reducible refine (CL.out _ (by repeat (first | with_reducible exact kz | (with_reducible apply Keeps.drew)))).mono ?_); rintro e w8 ⟨rfl, hk8'⟩; have hk8 := Keeps.trans kz.drew hk8'; clear hk8'))
                rename_i hH
                clear hH
                have K8 := Lib.hid hk8
                have R := Lib.hid (show LawR p4 rr s lab se w7 (.int .i64 ((r : Int) + 1)) w8 from ⟨r + 1, by omega, by simp, hk8, fun y hy hys => hrl⟩)
                clear hk8
                go_wp2_with fail
                go_roundw
                case rel => first | exact R.out | ((repeat apply Exists.intro); refine ⟨?_, ?_⟩; rotate_left; (first | rfl | exact ⟨rfl, rfl⟩ | exact ⟨rfl, rfl, rfl⟩); exact R.out)
                case measure => simp [intOf]; omega
            · have e1 : (s == xl) = false := by simpa using hsx
              have e1' : decide (s = xl) = false := by simpa using hsx
              have e2 : (s.toList == xl.toList) = false := Bool.eq_false_iff.2 fun hb => hsx ((ba_tl2 _ _).1 hb)
              have R := Lib.hid (show ∀ n, LawR p4 rr xl lab se w7 (.int .i64 ((r : Int) + 1)) (wr.drewN n) from fun n => ⟨r + 1, by omega, by simp, KX2.out.drewN n, fun y hy hys => by
                rw [HSK.out] at hy
                rcases List.mem_append.1 hy with hy | hy
                · exact HSE.out y hy hys
                · rw [List.mem_singleton] at hy
                  exact absurd (hy.symm.trans hys) hsx⟩)
              go_upto_region 19 with fail
              go_quiet (fail)
              go_wp2_with fail
              go_roundw
              case rel => first | exact (R.out _) | ((repeat apply Exists.intro); refine ⟨?_, ?_⟩; rotate_left; (first | rfl | exact ⟨rfl, rfl⟩ | exact ⟨rfl, rfl, rfl⟩); exact (R.out _))
              case measure => simp [intOf]; omega
          · have e : r = p4 := by omega
            have hrn : ¬ ((r : Int) < (p4 : Int)) := by omega
            have R := Lib.hid (show LawJ m ti xl lab ts w7 (.int .i64 ((j : Int) + 1)) wr from ⟨j + 1, by omega, by simp, KX2.out, fun y hy hx => by
              rw [HTK.out] at hy
              rcases List.mem_append.1 hy with hy | hy
              · exact HALL.out y hy hx
              · rw [List.mem_singleton] at hy
                subst hy
                have hx2 : xl ∈ se := hx
                have h2 := HSE.out xl (by rw [List.take_of_length_le (by have := HP4.out; omega)]; exact hx2) rfl
                rw [← HRR.out] at h2
                exact h2⟩)
            go_wp2_with fail
            go_roundw
            case rel => first | exact R.out | ((repeat apply Exists.intro); refine ⟨?_, ?_⟩; rotate_left; (first | rfl | exact ⟨rfl, rfl⟩ | exact ⟨rfl, rfl, rfl⟩); exact R.out)
            case measure => simp [intOf]; omega
      · have hjn : ¬ ((j : Int) < (m : Int)) := by omega
        have NO := Lib.hid (show NoTs ti xl lab ts by
          have h := HALL.out
          rwa [List.take_of_length_le (by have := ME.out; omega)] at h)
        have KRR := Lib.hid (K7.out.trans hkx)
        have s0 := cell_keep t0 hkx
        have s1 := cell_keep t1 hkx
        have CC := Lib.hid (climb21 lab ix path pA p pc wr (HP.out.keep KRR.out) hpn (by omega) (by omega) hix)
        obtain ⟨cr, hcr⟩ : ∃ cr, climbF lab ix path = cr := ⟨_, rfl⟩
        rw [hcr] at CC
        have HCR := Lib.hid hcr
        clear hcr
        go_upto_region 22 with (go_at_call 21; (with_reducible refine CC.out.mono ?_); rintro e w8 ⟨A8, n8, c8, rows8, rfl, hn8, hm8, hr8, hnr8, hk8⟩; have N8 := Lib.hid hn8; have M8 := Lib.hid hm8; have R8 := Lib.hid hr8; have NR8 := Lib.hid hnr8; have G8 := Lib.hid (hkx.trans hk8); clear hn8 hm8 hr8 hnr8 hk8)
        have x5 : w8.cell? ⟨xb, 5, none⟩ = some (.slice xA cn xc) := cell_keep (XB7.out.cell 5) G8.out
        have K8 := Lib.hid (K7.out.trans G8.out)
        have XC8 := Lib.hid (XC7.out.keep G8.out)
        have hne : con ≠ [] := fun e => by
          have h := HOK.out
          rw [e] at h
          exact absurd h (by decide)
        have hsz : ∀ s ∈ con, s.size ≤ 20 := fun s hs => by
          have h := HOK.out
          simp only [areContF, Bool.and_eq_true, List.all_eq_true] at h
          exact label_small (h.2.2 s hs)
        have cn0 : cn ≠ 0 := fun e => hne (List.eq_nil_of_length_eq_zero (by rw [CN.out, e]))
        have hno : lab ∉ con := fun h => by
          obtain ⟨t, ht, h1, h2⟩ := HSZ.out lab h
          exact NO.out t ht h1 h2
        have COL := Lib.hid (show ∃ x ∈ cr.2 ++ listsF con, ∃ y ∈ cr.2 ++ listsF con, dgF x = dgF y ∧ x ≠ y by
          have h := forged_coll hne HVV.out hno
          rwa [HCR.out] at h)
        have hcs := climbF_sz lab ix path
        rw [HCR.out] at hcs
        have hls2 := listsF_sz con (by rw [CN.out]; exact cn40) hsz
        have SZL := Lib.hid (show (cr.2 ++ listsF con).length ≤ 1000000 by
          rw [List.length_append]
          have h1 := hcs.1
          have h2 := hls2.1
          have h3 := hpn.out
          omega)
        have SZR := Lib.hid (show ∀ r ∈ cr.2 ++ listsF con, r.length ≤ 1000000 from fun r hr => by
          rcases List.mem_append.1 hr with hr | hr
          · have := hcs.2 r hr; omega
          · have := hls2.2 r hr; omega)
        have LE1 := Lib.hid (show ([] : List Rw).length + rows8.length ≤ 1000000 by
          have h1 := congrArg List.length M8.out
          rw [List.length_map] at h1
          have h2 := hcs.1
          have h3 := hpn.out
          simp only [List.length_nil]
          omega)
        have LEN := Lib.hid (show ∀ rl : List Rw, rl.map Rw.l = listsF con → (([] : List Rw) ++ rows8).length + rl.length ≤ 1000000 from fun rl hml => by
          have h1 := congrArg List.length M8.out
          have h4 := congrArg List.length hml
          rw [List.length_map] at h1 h4
          have h2 := hcs.1
          have h3 := hpn.out
          have h5 := hls2.1
          simp only [List.nil_append]
          omega)
        have MAP := Lib.hid (show ∀ rl : List Rw, rl.map Rw.l = listsF con → ((([] : List Rw) ++ rows8) ++ rl).map Rw.l = cr.2 ++ listsF con from fun rl hml => by
          rw [List.nil_append, List.map_append, M8.out, hml])
        have CL3 := Lib.hid (fun X (hX : Keeps w8 X) => lists23 con xA cn xc X (XC8.out.keep hX) CN2 cn0 cn40 (fun s hs => Nat.le_trans (hsz s hs) (by omega)))
        have kz := Keeps.refl w8
        have kd8 : Keeps w8 w8.drew := kz.drew
        have kda : Keeps w8 ((w8.alloc (.cells #[] 41)).drew) := (kz.alloc _).drew
        have OWNA := Lib.hid ((OwnR.lit (R := rwR) kz).keep (Keeps.refl _).drew)
        have R8A := Lib.hid (R8.out.keep kda)
        have SOF2 := Lib.hid (show ∀ X, Keeps w8 X → (fun w' : World => w'.cell? ⟨xb, 5, none⟩ = some (.slice xA cn xc) ∧ Keeps w8 w') X from fun X hX => ⟨cell_keep x5 hX, hX⟩)
        clear hne hsz cn0 hno hcs hls2 s0 s1 CC KRR
        go_region_held3 (fun w' : World => w'.cell? ⟨xb, 5, none⟩ = some (.slice xA cn xc) ∧ Keeps w8 w') ((with_reducible refine SOF2.out _ ?_; (repeat (first | with_reducible exact kz | with_reducible assumption | (with_reducible apply Keeps.drew) | (with_reducible apply Keeps.alloc))); done)) ((first | (go_at_call 22; (with_reducible refine C22.out.mono ?_); rintro e wf ⟨rfl, hkf'⟩; have hkf : Keeps w8 wf := hk6.trans hkf') | (go_at_call 23; (with_reducible refine (CL3.out _ kd8).mono ?_); rintro e wl ⟨Al, nl, cl, rl, rfl, hnl, hrl, hml, hnrl, hkl'⟩; have hkl : Keeps w8 wl := kd8.trans hkl'; have HNL := Lib.hid hnl; clear hnl; have LE2 := Lib.hid (LEN.out rl hml); have P1B := Lib.hid (OwnR.lit (R := rwR) hkl); have P1R := Lib.hid (R8.out.keep (hkl.alloc (.cells #[] 41)))) | (go_at_call 23; (with_reducible refine (CL3.out _ kda).mono ?_); rintro e wl ⟨Al, nl, cl, rl, rfl, hnl, hrl, hml, hnrl, hkl'⟩; have hkl : Keeps w8 wl := kda.trans hkl'; have HNL := Lib.hid hnl; clear hnl; have LE2 := Lib.hid (LEN.out rl hml); have P1B := Lib.hid (OWNA.out.keep hkl'); have P1R := Lib.hid (R8.out.keep hkl); have EMP := Lib.hid ((Blk.new w8 41 #[]).drew.below hkl' (Blk.new w8 41 #[]).drew.lt)) | (go_at_call 23; (with_reducible refine (CL3.out _ hk5).mono ?_); rintro e wl ⟨Al, nl, cl, rl, rfl, hnl, hrl, hml, hnrl, hkl'⟩; have hkl : Keeps w8 wl := hk5.trans hkl'; have HNL := Lib.hid hnl; clear hnl; have LE2 := Lib.hid (LEN.out rl hml); have O5L := Lib.hid (ho5.keep hkl'); have NR5L := Lib.hid (show ∀ r ∈ [] ++ rows8, NRow wl r from fun r hr => (NR5.out r hr).keep hkl')) | (refine step_appRw rwOk (w0 := w8) ?_ (.tmp 157) (.tmp 160) ?_ _ ([] ++ rows8) ?_ O5L.out Al nl cl rl ?_ hrl HNL LE2 ?_; rfl; rfl; rfl; rfl; intro A6 n6 c6 w6 ho6 hg6; have hk6 : Keeps w8 w6 := ho6.2; have C22 := Lib.hid (coll_end _ A6 n6 c6 (cr.2 ++ listsF con) ho6 (nrows_app O5L.out NR5L.out hnrl hg6) (MAP.out rl hml) SZL.out SZR.out COL.out)) | (refine step_appRw rwOk (w0 := w8) ?_ (.tmp 157) (.tmp 160) ?_ _ ([] ++ rows8) ?_ ho5 Al nl cl rl ?_ RL5.out HNL LE2 ?_; rfl; rfl; rfl; rfl; intro A6 n6 c6 w6 ho6 hg6; have hk6 : Keeps w8 w6 := ho6.2; have C22 := Lib.hid (coll_end _ A6 n6 c6 (cr.2 ++ listsF con) ho6 (nrows_app ho5 NR5.out NRL.out hg6) (MAP.out rl hml) SZL.out SZR.out COL.out)) | (refine step_appRw rwOk (w0 := w8) ?_ (.tmp 155) (.tmp 156) ?_ _ [] ?_ P1B.out A8 n8 c8 rows8 ?_ P1R.out N8 LE1 ?_; rfl; rfl; rfl; rfl; intro A5 n5 c5 w5 ho5 hg5; have hk5 : Keeps w8 w5 := ho5.2; have NR5 := Lib.hid (nrows_app P1B.out (fun r hr => by cases hr) (fun r hr => (NR8.out r hr).keep (hkl.alloc (.cells #[] 41))) hg5); have NRL := Lib.hid (nrows_grown P1B.out (fun r hr => (hnrl r hr).keep ((Keeps.refl wl).alloc (.cells #[] 41))) hg5); have RL5 := Lib.hid ((hrl.keep ((Keeps.refl wl).alloc (.cells #[] 41))).grownN hg5 (rec_lt hrl))) | (refine step_appRw rwOk (w0 := w8) ?_ (.tmp 155) (.tmp 156) ?_ _ [] ?_ P1B.out A8 n8 c8 rows8 ?_ P1R.out N8 LE1 ?_; rfl; rfl; rfl; rfl; intro A5 n5 c5 w5 ho5 hg5; have hk5 : Keeps w8 w5 := ho5.2; have NR5 := Lib.hid (nrows_app P1B.out (fun r hr => by cases hr) (fun r hr => (NR8.out r hr).keep hkl) hg5); have NRL := Lib.hid (nrows_grown P1B.out hnrl hg5); have RL5 := Lib.hid (hrl.grownN hg5 (rec_far rwOk hrl EMP.out))) | (refine step_appRw rwOk (w0 := w8) ?_ (.tmp 155) (.tmp 156) ?_ _ [] ?_ OWNA.out A8 n8 c8 rows8 ?_ R8A.out N8 LE1 ?_; rfl; rfl; rfl; rfl; intro A5 n5 c5 w5 ho5 hg5; have hk5 : Keeps w8 w5 := ho5.2; have NR5 := Lib.hid (nrows_app OWNA.out (fun r hr => by cases hr) (fun r hr => (NR8.out r hr).keep kda) hg5))))
        all_goals (rename_i hH; clear hH; have KF := Lib.hid (K8.out.trans hkf); clear hkf hkf'; go_wp2_with fail; go_ret; exact bool_post rfl KF.out)
end
end Go.Proofs.YthkmpegpmpdhaaaGreatDoor
