/- Part of the proof of TopOwnItem. Conditions: as stated in each theorem. -/
import Derived.Test.YthkmpegpmpdhaaaGreatDoorZFh
import Derived.Test.YthkmpegpmpdhaaaGreatDoorProg
import Derived.WalkMore
import Derived.Maps.OwnIn
import Derived.Deep.LoopGhost
import Derived.RangeFuncNested
import Derived.RangeFuncCalls
import Derived.RangeFuncLeaves
import Derived.RangeFuncWrites
import Derived.Shelf.Abstract
import Derived.Shelf.RegionOpen
import Derived.OwnWalkIn
import Derived.TacticsInMore
import Derived.LoopNIn
import Derived.LoopIn
import Derived.RangeFuncBound
import Derived.WalkKit
import Derived.WalkSpells
import Derived.WalkLawsBesides
import Derived.Laws.EntriesVeiled
import Derived.ProofKit
import Derived.OpenShut
import Derived.Lib.Hide
import Derived.BigQuiet
import Derived.Deep.QuietTactic
import Derived.Deep.CutRange
import Derived.StillTailTactics
import Derived.Lib.SliceRun
import Derived.RangeFuncRecord
import Derived.Carry
import Derived.ChangeKeysEq
import Derived.Below
import Derived.Laws.OwnMore
import Derived.Deep.AppendLies
import Derived.Deep.Draws
import Derived.Laws.Rows
import Derived.Maps.AppendAt
import Derived.RegionTactic
import Derived.OwnWalk
import Derived.Deep.RegionHeld3
namespace Go.Proofs.YthkmpegpmpdhaaaGreatDoor
section
open Go.Shelf Go.ChangeShapes Go.WideShapes Go.ChangeAt Go.RowKit
set_option linter.unusedSimpArgs false
set_option linter.unusedVariables false
/-- A document. -/
structure Dc where
  sl : ByteArray
  fr : Int
  tw : Int
  ti : Int
  ct : Int
  rt : Int
  gv : Int
  tk : Int
abbrev docA (d : Dc) : Value := .agg #[.string d.sl, .int .i64 d.fr, .int .i64 d.tw, .int .i64 d.ti, .int .i64 d.ct, .int .i64 d.rt, .int .i64 d.gv, .int .i64 d.tk]
abbrev docC (d : Dc) (v : Value) : Array Value := #[.string d.sl, .int .i64 d.fr, .int .i64 d.tw, .int .i64 d.ti, .int .i64 d.ct, .int .i64 d.rt, .int .i64 d.gv, .int .i64 d.tk, v]
abbrev sgA (d : Dc) (v : Value) : Value := .agg (docC d v)
def kAt (ks : List Int) (i : Int) : Int := ks.getD i.toNat 0
def firstF (ks : List Int) (d : Dc) : List Int := [kAt ks d.fr, dgF (codes d.sl), d.fr, d.tw, d.ti, d.ct, d.rt]
def secondF (ks : List Int) (d : Dc) : List Int := [kAt ks d.tw, d.gv]
theorem sum27 (l : List Int) (A : Option Addr) (n c : Nat) (w : World) (h : RecIn intR w w.heap.size A l) (hn : Hid (n = l.length)) (hnm : n ≤ 9223372036854775807) :
    Calls Tryz.prog 27 #[.slice A n c] w fun e w' => e = .returned (.int .i64 (dgF l)) ∧ Keeps w w' := by
  have HC := Lib.hid (dg_keeps l A n c w h hn hnm)
  generalize dgF l = D at HC ⊢
  clear h
  go_enter Tryz.func27, Tryz.ntmps27
  go_wp2_with (go_at_call 52; (with_reducible refine HC.out.mono ?_); rintro e w2 ⟨rfl, hk⟩; have HK := Lib.hid hk; clear hk)
  go_ret
  exact ⟨rfl, HK.out⟩
def RowPost (l : List Int) (w : World) (e : Ending) (w' : World) : Prop := ∃ A n c, e = .returned (.slice A n c) ∧ OwnR intR w w' (.slice A n c) l
theorem kAt_some {ks : List Int} {i : Int} {k : Nat} (hi : i = (k : Int)) (hk : k < ks.length) : ks[k]? = some (kAt ks i) := by
  subst hi
  simp [kAt, List.getElem?_eq_getElem hk]
set_option maxRecDepth 100000 in
set_option maxHeartbeats 2000000 in
theorem first44 (d : Dc) (ks : List Int) (A : Option Addr) (n c : Nat) (w : World) (h : RecIn intR w w.heap.size A ks) (hn : Hid (n = ks.length)) (hnm : n ≤ 1000000) (hs : d.sl.size ≤ 1000000) (h0 : 0 ≤ d.fr) (h1 : d.fr < n) :
    Calls Tryz.prog 44 #[sgA d (.slice A n c)] w (RowPost (firstF ks d) w) := by
  obtain ⟨sl, fr, tw, ti, ct, rt, gv, tk⟩ := d
  obtain ⟨k, rfl⟩ : ∃ k : Nat, fr = (k : Int) := ⟨fr.toNat, (Int.toNat_of_nonneg h0).symm⟩
  have hnl := hn.out
  have hkn : k < n := by
    have h1 : (k : Int) < (n : Int) := h1
    omega
  have hx : ks[k]? = some (kAt ks (k : Int)) := kAt_some rfl (by omega)
  change Calls Tryz.prog 44 #[.agg #[.string sl, .int .i64 (k : Int), .int .i64 tw, .int .i64 ti, .int .i64 ct, .int .i64 rt, .int .i64 gv, .int .i64 tk, .slice A n c]] w (RowPost [kAt ks (k : Int), dgF (codes sl), (k : Int), tw, ti, ct, rt] w)
  generalize kAt ks (k : Int) = key at hx ⊢
  have k1 := (Keeps.refl w).alloc (.cells #[.string sl, .int .i64 (k : Int), .int .i64 tw, .int .i64 ti, .int .i64 ct, .int .i64 rt, .int .i64 gv, .int .i64 tk, .slice A n c] 119)
  have HB := Blk.new w 119 #[.string sl, .int .i64 (k : Int), .int .i64 tw, .int .i64 ti, .int .i64 ct, .int .i64 rt, .int .i64 gv, .int .i64 tk, .slice A n c]
  obtain ⟨b, o, rfl, hbl, c0⟩ := (h.keep k1).int hx
  have K1 := Lib.hid k1
  have kn : (k : Int) < (n : Int) := by omega
  have k0 : (0 : Int) ≤ (k : Int) := by omega
  have SOF := Lib.hid (show ∀ X, Keeps (w.alloc (.cells #[.string sl, .int .i64 (k : Int), .int .i64 tw, .int .i64 ti, .int .i64 ct, .int .i64 rt, .int .i64 gv, .int .i64 tk, .slice (some ⟨b, o, none⟩) n c] 119)) X → (fun w' => w'.cell? ⟨w.heap.size, 0, none⟩ = some (.string sl) ∧ w'.cell? ⟨w.heap.size, 1, none⟩ = some (.int .i64 (k : Int)) ∧ w'.cell? ⟨w.heap.size, 2, none⟩ = some (.int .i64 tw) ∧ w'.cell? ⟨w.heap.size, 3, none⟩ = some (.int .i64 ti) ∧ w'.cell? ⟨w.heap.size, 4, none⟩ = some (.int .i64 ct) ∧ w'.cell? ⟨w.heap.size, 5, none⟩ = some (.int .i64 rt) ∧ w'.cell? ⟨w.heap.size, 8, none⟩ = some (.slice (some ⟨b, o, none⟩) n c) ∧ w'.cell? ⟨b, o + k, none⟩ = some (.int .i64 key) ∧ Keeps w w') X from fun X hX => ⟨cell_keep (HB.cell 0) hX, cell_keep (HB.cell 1) hX, cell_keep (HB.cell 2) hX, cell_keep (HB.cell 3) hX, cell_keep (HB.cell 4) hX, cell_keep (HB.cell 5) hX, cell_keep (HB.cell 8) hX, cell_keep c0 hX, K1.out.trans hX⟩)
  have HI := Lib.hid (show ∀ X, Keeps w X → Calls Tryz.prog 102 #[.string sl] X fun e w' => e = .returned (.int .i64 (dgF (codes sl))) ∧ Keeps X w' from fun X hX => label102 sl X hs)
  generalize dgF (codes sl) = lc at HI ⊢
  clear hnl hx c0 HB k1 hbl h hs h0 h1
  go_enter Tryz.func44, Tryz.ntmps44
  go_upto_region 1 with fail
  have kz := Keeps.refl (w.alloc (.cells #[.string sl, .int .i64 (k : Int), .int .i64 tw, .int .i64 ti, .int .i64 ct, .int .i64 rt, .int .i64 gv, .int .i64 tk, .slice (some ⟨b, o, none⟩) n c] 119))
  have kz2 := K1.out
  go_region_held3 (fun w' => w'.cell? ⟨w.heap.size, 0, none⟩ = some (.string sl) ∧ w'.cell? ⟨w.heap.size, 1, none⟩ = some (.int .i64 (k : Int)) ∧ w'.cell? ⟨w.heap.size, 2, none⟩ = some (.int .i64 tw) ∧ w'.cell? ⟨w.heap.size, 3, none⟩ = some (.int .i64 ti) ∧ w'.cell? ⟨w.heap.size, 4, none⟩ = some (.int .i64 ct) ∧ w'.cell? ⟨w.heap.size, 5, none⟩ = some (.int .i64 rt) ∧ w'.cell? ⟨w.heap.size, 8, none⟩ = some (.slice (some ⟨b, o, none⟩) n c) ∧ w'.cell? ⟨b, o + k, none⟩ = some (.int .i64 key) ∧ Keeps w w') ((refine SOF.out _ ?_; (repeat (first | exact kz | assumption | apply Keeps.drew | apply Keeps.alloc)); done)) ((first | (go_at_call 102; (with_reducible refine (HI.out _ (by repeat (first | exact kz2 | assumption | apply Keeps.drew | apply Keeps.alloc))).mono ?_); rintro e w4 ⟨rfl, hk4'⟩; have hk4 := Keeps.trans (by (repeat (first | exact kz | assumption | apply Keeps.drew | apply Keeps.alloc))) hk4'; clear hk4')))
  rename_i hH
  have hw4 : Keeps w w4 := K1.out.trans hk4
  have O4 := Lib.hid (OwnR.litN (R := intR) (fun _ => rfl) hw4 [key, lc, (k : Int), tw, ti, ct, rt] #[.int .i64 key, .int .i64 lc, .int .i64 (k : Int), .int .i64 tw, .int .i64 ti, .int .i64 ct, .int .i64 rt] rfl (by simp))
  clear hH hk4 kz kz2 hw4 SOF HI
  go_wp2_with fail
  go_ret
  exact ⟨_, _, _, rfl, O4.out⟩
set_option maxRecDepth 100000 in
set_option maxHeartbeats 2000000 in
theorem second45 (d : Dc) (ks : List Int) (A : Option Addr) (n c : Nat) (w : World) (h : RecIn intR w w.heap.size A ks) (hn : Hid (n = ks.length)) (hnm : n ≤ 1000000) (h0 : 0 ≤ d.tw) (h1 : d.tw < n) :
    Calls Tryz.prog 45 #[sgA d (.slice A n c)] w (RowPost (secondF ks d) w) := by
  obtain ⟨sl, fr, tw, ti, ct, rt, gv, tk⟩ := d
  obtain ⟨k, rfl⟩ : ∃ k : Nat, tw = (k : Int) := ⟨tw.toNat, (Int.toNat_of_nonneg h0).symm⟩
  have hnl := hn.out
  have hkn : k < n := by
    have h1 : (k : Int) < (n : Int) := h1
    omega
  have hx : ks[k]? = some (kAt ks (k : Int)) := kAt_some rfl (by omega)
  change Calls Tryz.prog 45 #[.agg #[.string sl, .int .i64 fr, .int .i64 (k : Int), .int .i64 ti, .int .i64 ct, .int .i64 rt, .int .i64 gv, .int .i64 tk, .slice A n c]] w (RowPost [kAt ks (k : Int), gv] w)
  generalize kAt ks (k : Int) = key at hx ⊢
  have k1 := (Keeps.refl w).alloc (.cells #[.string sl, .int .i64 fr, .int .i64 (k : Int), .int .i64 ti, .int .i64 ct, .int .i64 rt, .int .i64 gv, .int .i64 tk, .slice A n c] 119)
  have HB := Blk.new w 119 #[.string sl, .int .i64 fr, .int .i64 (k : Int), .int .i64 ti, .int .i64 ct, .int .i64 rt, .int .i64 gv, .int .i64 tk, .slice A n c]
  obtain ⟨b, o, rfl, hbl, c0⟩ := (h.keep k1).int hx
  have K1 := Lib.hid k1
  have kn : (k : Int) < (n : Int) := by omega
  have k0 : (0 : Int) ≤ (k : Int) := by omega
  have SOF := Lib.hid (show ∀ X, Keeps (w.alloc (.cells #[.string sl, .int .i64 fr, .int .i64 (k : Int), .int .i64 ti, .int .i64 ct, .int .i64 rt, .int .i64 gv, .int .i64 tk, .slice (some ⟨b, o, none⟩) n c] 119)) X → (fun w' => w'.cell? ⟨w.heap.size, 2, none⟩ = some (.int .i64 (k : Int)) ∧ w'.cell? ⟨w.heap.size, 6, none⟩ = some (.int .i64 gv) ∧ w'.cell? ⟨w.heap.size, 8, none⟩ = some (.slice (some ⟨b, o, none⟩) n c) ∧ w'.cell? ⟨b, o + k, none⟩ = some (.int .i64 key) ∧ Keeps w w') X from fun X hX => ⟨cell_keep (HB.cell 2) hX, cell_keep (HB.cell 6) hX, cell_keep (HB.cell 8) hX, cell_keep c0 hX, K1.out.trans hX⟩)
  clear hnl hx c0 HB k1 hbl h h0 h1
  go_enter Tryz.func45, Tryz.ntmps45
  go_upto_region 1 with fail
  have kz := Keeps.refl (w.alloc (.cells #[.string sl, .int .i64 fr, .int .i64 (k : Int), .int .i64 ti, .int .i64 ct, .int .i64 rt, .int .i64 gv, .int .i64 tk, .slice (some ⟨b, o, none⟩) n c] 119))
  have kz2 := K1.out
  go_region_held3 (fun w' => w'.cell? ⟨w.heap.size, 2, none⟩ = some (.int .i64 (k : Int)) ∧ w'.cell? ⟨w.heap.size, 6, none⟩ = some (.int .i64 gv) ∧ w'.cell? ⟨w.heap.size, 8, none⟩ = some (.slice (some ⟨b, o, none⟩) n c) ∧ w'.cell? ⟨b, o + k, none⟩ = some (.int .i64 key) ∧ Keeps w w') ((refine SOF.out _ ?_; (repeat (first | exact kz | assumption | apply Keeps.drew | apply Keeps.alloc)); done)) ((first | fail))
  rename_i hH
  have O4 := Lib.hid (show OwnR intR w ((w.alloc (.cells #[.string sl, .int .i64 fr, .int .i64 (k : Int), .int .i64 ti, .int .i64 ct, .int .i64 rt, .int .i64 gv, .int .i64 tk, .slice (some ⟨b, o, none⟩) n c] 119)).alloc (.cells #[.int .i64 key, .int .i64 gv] 3)).drew (.slice (some ⟨w.heap.size + 1, 0, none⟩) 2 2) [key, gv] by have := (OwnR.litN (R := intR) (fun _ => rfl) K1.out [key, gv] #[.int .i64 key, .int .i64 gv] rfl (by simp)).keep (Keeps.refl _).drew; rwa [World.size_alloc] at this)
  clear hH kz kz2 SOF
  go_wp2_with fail
  go_ret
  exact ⟨_, _, _, rfl, O4.out⟩
set_option maxRecDepth 100000 in
set_option maxHeartbeats 2000000 in
theorem forged46 (d : Dc) (ks : List Int) (A : Option Addr) (n c : Nat) (w : World) (h : RecIn intR w w.heap.size A ks) (hn : Hid (n = ks.length)) (hnm : n ≤ 1000000) (hs : d.sl.size ≤ 1000000) (h0 : 0 ≤ d.fr) (h1 : d.fr < n) (h2 : 0 ≤ d.tw) (h3 : d.tw < n)
    (hg : d.gv = dgF (firstF ks d)) (ht : d.tk = dgF (secondF ks d)) :
    Calls Tryz.prog 46 #[sgA d (.slice A n c)] w (BoolPost false w) := by
  have k1 := (Keeps.refl w).alloc (.cells (docC d (.slice A n c)) 119)
  have HF := Lib.hid (show ∀ X, Keeps (w.alloc (.cells (docC d (.slice A n c)) 119)) X → Calls Tryz.prog 44 #[sgA d (.slice A n c)] X (RowPost (firstF ks d) X) from fun X hX => first44 d ks A n c X (h.keep (k1.trans hX)) hn hnm hs h0 h1)
  have HS := Lib.hid (show ∀ X, Keeps (w.alloc (.cells (docC d (.slice A n c)) 119)) X → Calls Tryz.prog 45 #[sgA d (.slice A n c)] X (RowPost (secondF ks d) X) from fun X hX => second45 d ks A n c X (h.keep (k1.trans hX)) hn hnm h2 h3)
  have L1 := Lib.hid (show (firstF ks d).length = 7 from rfl)
  have L2 := Lib.hid (show (secondF ks d).length = 2 from rfl)
  have HB := Blk.new w 119 (docC d (.slice A n c))
  generalize firstF ks d = l1 at *
  generalize secondF ks d = l2 at *
  obtain ⟨sl, fr, tw, ti, ct, rt, gv, tk⟩ := d
  change gv = dgF l1 at hg
  change tk = dgF l2 at ht
  subst hg ht
  change Calls Tryz.prog 46 #[.agg #[.string sl, .int .i64 fr, .int .i64 tw, .int .i64 ti, .int .i64 ct, .int .i64 rt, .int .i64 (dgF l1), .int .i64 (dgF l2), .slice A n c]] w _
  have HS1 := Lib.hid (show ∀ X A n c, OwnR intR X X (.slice A n c) l1 → True from fun _ _ _ _ _ => trivial)
  have SG := Lib.hid (show ∀ (l : List Int) X A n c Y, l.length ≤ 7 → OwnR intR Y X (.slice A n c) l → Calls Tryz.prog 27 #[.slice A n c] X fun e w' => e = .returned (.int .i64 (dgF l)) ∧ Keeps X w' from fun l X A n c Y hl hO => sum27 l A n c X (hO.recs intOk).1 (Lib.hid (own_lenR hO)) (by have := own_lenR hO; omega))
  have K1 := Lib.hid k1
  clear h hs h0 h1 h2 h3 k1 hn hnm
  change Blk (w.alloc (.cells #[.string sl, .int .i64 fr, .int .i64 tw, .int .i64 ti, .int .i64 ct, .int .i64 rt, .int .i64 (dgF l1), .int .i64 (dgF l2), .slice A n c] 119)) w.heap.size 119 #[.string sl, .int .i64 fr, .int .i64 tw, .int .i64 ti, .int .i64 ct, .int .i64 rt, .int .i64 (dgF l1), .int .i64 (dgF l2), .slice A n c] at HB
  replace HF := Lib.hid (show ∀ X, Keeps (w.alloc (.cells #[.string sl, .int .i64 fr, .int .i64 tw, .int .i64 ti, .int .i64 ct, .int .i64 rt, .int .i64 (dgF l1), .int .i64 (dgF l2), .slice A n c] 119)) X → Calls Tryz.prog 44 #[.agg #[.string sl, .int .i64 fr, .int .i64 tw, .int .i64 ti, .int .i64 ct, .int .i64 rt, .int .i64 (dgF l1), .int .i64 (dgF l2), .slice A n c]] X (RowPost l1 X) from HF.out)
  replace HS := Lib.hid (show ∀ X, Keeps (w.alloc (.cells #[.string sl, .int .i64 fr, .int .i64 tw, .int .i64 ti, .int .i64 ct, .int .i64 rt, .int .i64 (dgF l1), .int .i64 (dgF l2), .slice A n c] 119)) X → Calls Tryz.prog 45 #[.agg #[.string sl, .int .i64 fr, .int .i64 tw, .int .i64 ti, .int .i64 ct, .int .i64 rt, .int .i64 (dgF l1), .int .i64 (dgF l2), .slice A n c]] X (RowPost l2 X) from HS.out)
  replace K1 := Lib.hid (show Keeps w (w.alloc (.cells #[.string sl, .int .i64 fr, .int .i64 tw, .int .i64 ti, .int .i64 ct, .int .i64 rt, .int .i64 (dgF l1), .int .i64 (dgF l2), .slice A n c] 119)) from K1.out)
  generalize hg1 : dgF l1 = g1 at *
  generalize hg2 : dgF l2 = g2 at *
  have HG1 := Lib.hid hg1; have HG2 := Lib.hid hg2
  clear hg1 hg2 HS1
  have SOF := Lib.hid (show ∀ X, Keeps (w.alloc (.cells #[.string sl, .int .i64 fr, .int .i64 tw, .int .i64 ti, .int .i64 ct, .int .i64 rt, .int .i64 g1, .int .i64 g2, .slice A n c] 119)) X → (fun w' => w'.cell? ⟨w.heap.size, 0, none⟩ = some (.string sl) ∧ w'.cell? ⟨w.heap.size, 1, none⟩ = some (.int .i64 fr) ∧ w'.cell? ⟨w.heap.size, 2, none⟩ = some (.int .i64 tw) ∧ w'.cell? ⟨w.heap.size, 3, none⟩ = some (.int .i64 ti) ∧ w'.cell? ⟨w.heap.size, 4, none⟩ = some (.int .i64 ct) ∧ w'.cell? ⟨w.heap.size, 5, none⟩ = some (.int .i64 rt) ∧ w'.cell? ⟨w.heap.size, 6, none⟩ = some (.int .i64 g1) ∧ w'.cell? ⟨w.heap.size, 7, none⟩ = some (.int .i64 g2) ∧ w'.cell? ⟨w.heap.size, 8, none⟩ = some (.slice A n c) ∧ Keeps w w') X from fun X hX => ⟨cell_keep (HB.cell 0) hX, cell_keep (HB.cell 1) hX, cell_keep (HB.cell 2) hX, cell_keep (HB.cell 3) hX, cell_keep (HB.cell 4) hX, cell_keep (HB.cell 5) hX, cell_keep (HB.cell 6) hX, cell_keep (HB.cell 7) hX, cell_keep (HB.cell 8) hX, K1.out.trans hX⟩)
  clear HB
  have q1 : (g1 != g1) = false := by simp
  have q2 : (g2 != g2) = false := by simp
  go_enter Tryz.func46, Tryz.ntmps46
  go_upto_region 1 with fail
  have kz := Keeps.refl (w.alloc (.cells #[.string sl, .int .i64 fr, .int .i64 tw, .int .i64 ti, .int .i64 ct, .int .i64 rt, .int .i64 g1, .int .i64 g2, .slice A n c] 119))
  go_region_held3 (fun w' => w'.cell? ⟨w.heap.size, 0, none⟩ = some (.string sl) ∧ w'.cell? ⟨w.heap.size, 1, none⟩ = some (.int .i64 fr) ∧ w'.cell? ⟨w.heap.size, 2, none⟩ = some (.int .i64 tw) ∧ w'.cell? ⟨w.heap.size, 3, none⟩ = some (.int .i64 ti) ∧ w'.cell? ⟨w.heap.size, 4, none⟩ = some (.int .i64 ct) ∧ w'.cell? ⟨w.heap.size, 5, none⟩ = some (.int .i64 rt) ∧ w'.cell? ⟨w.heap.size, 6, none⟩ = some (.int .i64 g1) ∧ w'.cell? ⟨w.heap.size, 7, none⟩ = some (.int .i64 g2) ∧ w'.cell? ⟨w.heap.size, 8, none⟩ = some (.slice A n c) ∧ Keeps w w') ((refine SOF.out _ ?_; (repeat (first | exact kz | assumption | apply Keeps.drew | apply Keeps.alloc)); done)) ((first | (go_at_call 44; (with_reducible refine (HF.out _ (by repeat (first | exact kz | assumption | apply Keeps.drew | apply Keeps.alloc))).mono ?_); rintro e w4 ⟨A4, n4, c4, rfl, ho4⟩; have O4 := Lib.hid ho4; have hk4 := Keeps.trans (by (repeat (first | exact kz | assumption | apply Keeps.drew | apply Keeps.alloc))) ho4.2; clear ho4) | (go_at_call 45; (with_reducible refine (HS.out _ (by repeat (first | exact kz | assumption | apply Keeps.drew | apply Keeps.alloc))).mono ?_); rintro e w6 ⟨A6, n6, c6, rfl, ho6⟩; have O6 := Lib.hid ho6; have hk6 := Keeps.trans (by (repeat (first | exact kz | assumption | apply Keeps.drew | apply Keeps.alloc))) ho6.2; clear ho6) | (go_at_call 27; (with_reducible refine (SG.out l1 _ _ _ _ _ (by rw [L1.out]; omega) O4.out).mono ?_); rintro e w5 ⟨rfl, hk5'⟩; rw [HG1.out]; have hk5 := Keeps.trans (by (repeat (first | exact kz | assumption | apply Keeps.drew | apply Keeps.alloc))) hk5'; clear hk5') | (go_at_call 27; (with_reducible refine (SG.out l2 _ _ _ _ _ (by rw [L2.out]; omega) O6.out).mono ?_); rintro e w7 ⟨rfl, hk7'⟩; rw [HG2.out]; have hk7 := Keeps.trans (by (repeat (first | exact kz | assumption | apply Keeps.drew | apply Keeps.alloc))) hk7'; clear hk7')))
  rename_i hH
  have HKK := Lib.hid hH.2.2.2.2.2.2.2.2.2
  clear hH hk7 hk6 hk5 hk4 kz SOF HF HS
  go_wp2_with fail
  go_ret
  exact bool_post rfl HKK.out
end
section
open Go.Shelf Go.ChangeShapes Go.WideShapes Go.ChangeAt Go.RowKit
set_option linter.unusedSimpArgs false
set_option linter.unusedVariables false
def malF (ks : List Int) (d : Dc) : Bool := !(areKeysF ks && (labelF d.sl && (belowF d.fr ks.length && (belowF d.tw ks.length && (belowF d.ti 1000001 && (!decide (d.ct < 1) && (!decide (40 < d.ct) && [d.rt, d.gv, d.tk].all remF)))))))
set_option maxRecDepth 100000 in
set_option maxHeartbeats 4000000 in
theorem malformed43 (d : Dc) (ks : List Int) (A : Option Addr) (n c : Nat) (w : World) (h : RecIn intR w w.heap.size A ks) (hn : Hid (n = ks.length)) (hnm : n ≤ 1000000) (hs : d.sl.size ≤ 9223372036854775807) (ht : Tab w) :
    Calls Tryz.prog 43 #[sgA d (.slice A n c)] w (BoolPost (malF ks d) w) := by
  have k1 := (Keeps.refl w).alloc (.cells (docC d (.slice A n c)) 119)
  have HB := Blk.new w 119 (docC d (.slice A n c))
  obtain ⟨r, hr⟩ : ∃ r, malF ks d = r := ⟨_, rfl⟩
  rw [hr]
  obtain ⟨sl, fr, tw, ti, ct, rt, gv, tk⟩ := d
  change (!(areKeysF ks && (labelF sl && (belowF fr ks.length && (belowF tw ks.length && (belowF ti 1000001 && (!decide (ct < 1) && (!decide (40 < ct) && [rt, gv, tk].all remF)))))))) = r at hr
  rw [← hn.out] at hr
  have HR := Lib.hid hr
  change Calls Tryz.prog 43 #[.agg #[.string sl, .int .i64 fr, .int .i64 tw, .int .i64 ti, .int .i64 ct, .int .i64 rt, .int .i64 gv, .int .i64 tk, .slice A n c]] w _
  change Blk (w.alloc (.cells #[.string sl, .int .i64 fr, .int .i64 tw, .int .i64 ti, .int .i64 ct, .int .i64 rt, .int .i64 gv, .int .i64 tk, .slice A n c] 119)) w.heap.size 119 #[.string sl, .int .i64 fr, .int .i64 tw, .int .i64 ti, .int .i64 ct, .int .i64 rt, .int .i64 gv, .int .i64 tk, .slice A n c] at HB
  change Keeps w (w.alloc (.cells #[.string sl, .int .i64 fr, .int .i64 tw, .int .i64 ti, .int .i64 ct, .int .i64 rt, .int .i64 gv, .int .i64 tk, .slice A n c] 119)) at k1
  have hs2 : sl.size ≤ 9223372036854775807 := hs
  have K1 := Lib.hid k1
  have HC1 := Lib.hid (areKeys99 ks A n c (w.alloc (.cells #[.string sl, .int .i64 fr, .int .i64 tw, .int .i64 ti, .int .i64 ct, .int .i64 rt, .int .i64 gv, .int .i64 tk, .slice A n c] 119)) (h.keep k1) hn (by omega))
  have HC2 := Lib.hid (isLabel98 sl (w.alloc (.cells #[.string sl, .int .i64 fr, .int .i64 tw, .int .i64 ti, .int .i64 ct, .int .i64 rt, .int .i64 gv, .int .i64 tk, .slice A n c] 119)) hs2 (ht.keep k1))
  have HC3 := Lib.hid (fun (x m : Int) (w : World) => below79 x m w)
  have HC8 := Lib.hid (fun (w : World) => all100 [rt, gv, tk] (some ⟨w.heap.size, 0, none⟩) 3 3 (w.alloc (.cells #[.int .i64 rt, .int .i64 gv, .int .i64 tk] 3)) (RecIn.lit intOk w [rt, gv, tk] #[.int .i64 rt, .int .i64 gv, .int .i64 tk] rfl) (Lib.hid rfl) (by omega))
  have SOF := Lib.hid (show ∀ X, Keeps (w.alloc (.cells #[.string sl, .int .i64 fr, .int .i64 tw, .int .i64 ti, .int .i64 ct, .int .i64 rt, .int .i64 gv, .int .i64 tk, .slice A n c] 119)) X → X.cell? ⟨w.heap.size, 0, none⟩ = some (.string sl) ∧ X.cell? ⟨w.heap.size, 1, none⟩ = some (.int .i64 fr) ∧ X.cell? ⟨w.heap.size, 2, none⟩ = some (.int .i64 tw) ∧ X.cell? ⟨w.heap.size, 3, none⟩ = some (.int .i64 ti) ∧ X.cell? ⟨w.heap.size, 4, none⟩ = some (.int .i64 ct) ∧ X.cell? ⟨w.heap.size, 5, none⟩ = some (.int .i64 rt) ∧ X.cell? ⟨w.heap.size, 6, none⟩ = some (.int .i64 gv) ∧ X.cell? ⟨w.heap.size, 7, none⟩ = some (.int .i64 tk) ∧ X.cell? ⟨w.heap.size, 8, none⟩ = some (.slice A n c) from fun X hX => ⟨cell_keep (HB.cell 0) hX, cell_keep (HB.cell 1) hX, cell_keep (HB.cell 2) hX, cell_keep (HB.cell 3) hX, cell_keep (HB.cell 4) hX, cell_keep (HB.cell 5) hX, cell_keep (HB.cell 6) hX, cell_keep (HB.cell 7) hX, cell_keep (HB.cell 8) hX⟩)
  clear h hs hs2 ht k1 hr HB
  cases q0 : areKeysF ks
  · have HQ0 := Lib.hid q0
    clear q0
    have HF := Lib.hid (show r = true by rw [← HR.out]; simp only [HQ0.out]; try rfl)
    go_enter Tryz.func43, Tryz.ntmps43
    simp only [List.append]
    go_wp2_with (first | (go_at_call 99; (with_reducible refine HC1.out.mono ?_); rintro e w' ⟨rfl, rfl⟩; rw [HQ0.out]))
    go_ret
    exact bool_post HF.out K1.out
  · have HQ0 := Lib.hid q0
    clear q0
    cases q1 : labelF sl
    · have HQ1 := Lib.hid q1
      clear q1
      have HF := Lib.hid (show r = true by rw [← HR.out]; simp only [HQ0.out, HQ1.out]; try rfl)
      go_enter Tryz.func43, Tryz.ntmps43
      simp only [List.append]
      go_wp2_with (first | (go_at_call 99; (with_reducible refine HC1.out.mono ?_); rintro e w' ⟨rfl, rfl⟩; rw [HQ0.out]) | (go_at_call 98; (with_reducible refine HC2.out.mono ?_); rintro e w2 ⟨rfl, hk2⟩; rw [HQ1.out]; obtain ⟨d0, d1, d2, d3, d4, d5, d6, d7, d8⟩ := SOF.out _ hk2; have K2 := Lib.hid (K1.out.trans hk2); clear hk2))
      go_ret
      exact bool_post HF.out K2.out
    · have HQ1 := Lib.hid q1
      clear q1
      cases q2 : belowF fr (n : Int)
      · have HQ2 := Lib.hid q2
        clear q2
        have HF := Lib.hid (show r = true by rw [← HR.out]; simp only [HQ0.out, HQ1.out, HQ2.out]; try rfl)
        go_enter Tryz.func43, Tryz.ntmps43
        simp only [List.append]
        go_wp2_with (first | (go_at_call 99; (with_reducible refine HC1.out.mono ?_); rintro e w' ⟨rfl, rfl⟩; rw [HQ0.out]) | (go_at_call 98; (with_reducible refine HC2.out.mono ?_); rintro e w2 ⟨rfl, hk2⟩; rw [HQ1.out]; obtain ⟨d0, d1, d2, d3, d4, d5, d6, d7, d8⟩ := SOF.out _ hk2; have K2 := Lib.hid (K1.out.trans hk2); clear hk2) | (go_at_call 79; (with_reducible refine (HC3.out fr (n : Int) _).mono ?_); rintro e w' ⟨rfl, rfl⟩; rw [HQ2.out]))
        go_ret
        exact bool_post HF.out K2.out
      · have HQ2 := Lib.hid q2
        clear q2
        cases q3 : belowF tw (n : Int)
        · have HQ3 := Lib.hid q3
          clear q3
          have HF := Lib.hid (show r = true by rw [← HR.out]; simp only [HQ0.out, HQ1.out, HQ2.out, HQ3.out]; try rfl)
          go_enter Tryz.func43, Tryz.ntmps43
          simp only [List.append]
          go_wp2_with (first | (go_at_call 99; (with_reducible refine HC1.out.mono ?_); rintro e w' ⟨rfl, rfl⟩; rw [HQ0.out]) | (go_at_call 98; (with_reducible refine HC2.out.mono ?_); rintro e w2 ⟨rfl, hk2⟩; rw [HQ1.out]; obtain ⟨d0, d1, d2, d3, d4, d5, d6, d7, d8⟩ := SOF.out _ hk2; have K2 := Lib.hid (K1.out.trans hk2); clear hk2) | (go_at_call 79; (with_reducible refine (HC3.out fr (n : Int) _).mono ?_); rintro e w' ⟨rfl, rfl⟩; rw [HQ2.out]) | (go_at_call 79; (with_reducible refine (HC3.out tw (n : Int) _).mono ?_); rintro e w' ⟨rfl, rfl⟩; rw [HQ3.out]))
          go_ret
          exact bool_post HF.out K2.out
        · have HQ3 := Lib.hid q3
          clear q3
          cases q4 : belowF ti 1000001
          · have HQ4 := Lib.hid q4
            clear q4
            have HF := Lib.hid (show r = true by rw [← HR.out]; simp only [HQ0.out, HQ1.out, HQ2.out, HQ3.out, HQ4.out]; try rfl)
            go_enter Tryz.func43, Tryz.ntmps43
            simp only [List.append]
            go_wp2_with (first | (go_at_call 99; (with_reducible refine HC1.out.mono ?_); rintro e w' ⟨rfl, rfl⟩; rw [HQ0.out]) | (go_at_call 98; (with_reducible refine HC2.out.mono ?_); rintro e w2 ⟨rfl, hk2⟩; rw [HQ1.out]; obtain ⟨d0, d1, d2, d3, d4, d5, d6, d7, d8⟩ := SOF.out _ hk2; have K2 := Lib.hid (K1.out.trans hk2); clear hk2) | (go_at_call 79; (with_reducible refine (HC3.out fr (n : Int) _).mono ?_); rintro e w' ⟨rfl, rfl⟩; rw [HQ2.out]) | (go_at_call 79; (with_reducible refine (HC3.out tw (n : Int) _).mono ?_); rintro e w' ⟨rfl, rfl⟩; rw [HQ3.out]) | (go_at_call 79; (with_reducible refine (HC3.out ti 1000001 _).mono ?_); rintro e w' ⟨rfl, rfl⟩; rw [HQ4.out]))
            go_ret
            exact bool_post HF.out K2.out
          · have HQ4 := Lib.hid q4
            clear q4
            cases q5 : decide (ct < 1)
            · have HQ5 := Lib.hid q5
              clear q5
              cases q6 : decide (40 < ct)
              · have HQ6 := Lib.hid q6
                clear q6
                cases q7 : [rt, gv, tk].all remF
                · have HQ7 := Lib.hid q7
                  clear q7
                  have HF := Lib.hid (show r = true by rw [← HR.out]; simp only [HQ0.out, HQ1.out, HQ2.out, HQ3.out, HQ4.out, HQ5.out, HQ6.out, HQ7.out]; try rfl)
                  go_enter Tryz.func43, Tryz.ntmps43
                  simp only [List.append]
                  have d5' : ¬ ct < 1 := of_decide_eq_false HQ5.out
                  have d5b : decide (ct < 1) = false := HQ5.out
                  have d6' : ¬ 40 < ct := of_decide_eq_false HQ6.out
                  have d6b : decide (40 < ct) = false := HQ6.out
                  go_wp2_with (first | (go_at_call 99; (with_reducible refine HC1.out.mono ?_); rintro e w' ⟨rfl, rfl⟩; rw [HQ0.out]) | (go_at_call 98; (with_reducible refine HC2.out.mono ?_); rintro e w2 ⟨rfl, hk2⟩; rw [HQ1.out]; obtain ⟨d0, d1, d2, d3, d4, d5, d6, d7, d8⟩ := SOF.out _ hk2; have K2 := Lib.hid (K1.out.trans hk2); clear hk2) | (go_at_call 79; (with_reducible refine (HC3.out fr (n : Int) _).mono ?_); rintro e w' ⟨rfl, rfl⟩; rw [HQ2.out]) | (go_at_call 79; (with_reducible refine (HC3.out tw (n : Int) _).mono ?_); rintro e w' ⟨rfl, rfl⟩; rw [HQ3.out]) | (go_at_call 79; (with_reducible refine (HC3.out ti 1000001 _).mono ?_); rintro e w' ⟨rfl, rfl⟩; rw [HQ4.out]) | (go_at_call 100; (with_reducible refine (HC8.out _).mono ?_); rintro e w' ⟨rfl, rfl⟩; rw [HQ7.out]))
                  go_ret
                  exact bool_post HF.out (K2.out.trans ((Keeps.refl _).alloc _))
                · have HQ7 := Lib.hid q7
                  clear q7
                  have HF := Lib.hid (show r = false by rw [← HR.out]; simp only [HQ0.out, HQ1.out, HQ2.out, HQ3.out, HQ4.out, HQ5.out, HQ6.out, HQ7.out]; try rfl)
                  go_enter Tryz.func43, Tryz.ntmps43
                  simp only [List.append]
                  have d5' : ¬ ct < 1 := of_decide_eq_false HQ5.out
                  have d5b : decide (ct < 1) = false := HQ5.out
                  have d6' : ¬ 40 < ct := of_decide_eq_false HQ6.out
                  have d6b : decide (40 < ct) = false := HQ6.out
                  go_wp2_with (first | (go_at_call 99; (with_reducible refine HC1.out.mono ?_); rintro e w' ⟨rfl, rfl⟩; rw [HQ0.out]) | (go_at_call 98; (with_reducible refine HC2.out.mono ?_); rintro e w2 ⟨rfl, hk2⟩; rw [HQ1.out]; obtain ⟨d0, d1, d2, d3, d4, d5, d6, d7, d8⟩ := SOF.out _ hk2; have K2 := Lib.hid (K1.out.trans hk2); clear hk2) | (go_at_call 79; (with_reducible refine (HC3.out fr (n : Int) _).mono ?_); rintro e w' ⟨rfl, rfl⟩; rw [HQ2.out]) | (go_at_call 79; (with_reducible refine (HC3.out tw (n : Int) _).mono ?_); rintro e w' ⟨rfl, rfl⟩; rw [HQ3.out]) | (go_at_call 79; (with_reducible refine (HC3.out ti 1000001 _).mono ?_); rintro e w' ⟨rfl, rfl⟩; rw [HQ4.out]) | (go_at_call 100; (with_reducible refine (HC8.out _).mono ?_); rintro e w' ⟨rfl, rfl⟩; rw [HQ7.out]))
                  go_ret
                  exact bool_post HF.out (K2.out.trans ((Keeps.refl _).alloc _))
              · have HQ6 := Lib.hid q6
                clear q6
                have HF := Lib.hid (show r = true by rw [← HR.out]; simp only [HQ0.out, HQ1.out, HQ2.out, HQ3.out, HQ4.out, HQ5.out, HQ6.out]; try rfl)
                go_enter Tryz.func43, Tryz.ntmps43
                simp only [List.append]
                have d5' : ¬ ct < 1 := of_decide_eq_false HQ5.out
                have d5b : decide (ct < 1) = false := HQ5.out
                have d6' : 40 < ct := of_decide_eq_true HQ6.out
                go_wp2_with (first | (go_at_call 99; (with_reducible refine HC1.out.mono ?_); rintro e w' ⟨rfl, rfl⟩; rw [HQ0.out]) | (go_at_call 98; (with_reducible refine HC2.out.mono ?_); rintro e w2 ⟨rfl, hk2⟩; rw [HQ1.out]; obtain ⟨d0, d1, d2, d3, d4, d5, d6, d7, d8⟩ := SOF.out _ hk2; have K2 := Lib.hid (K1.out.trans hk2); clear hk2) | (go_at_call 79; (with_reducible refine (HC3.out fr (n : Int) _).mono ?_); rintro e w' ⟨rfl, rfl⟩; rw [HQ2.out]) | (go_at_call 79; (with_reducible refine (HC3.out tw (n : Int) _).mono ?_); rintro e w' ⟨rfl, rfl⟩; rw [HQ3.out]) | (go_at_call 79; (with_reducible refine (HC3.out ti 1000001 _).mono ?_); rintro e w' ⟨rfl, rfl⟩; rw [HQ4.out]))
                go_ret
                exact bool_post HF.out K2.out
            · have HQ5 := Lib.hid q5
              clear q5
              have HF := Lib.hid (show r = true by rw [← HR.out]; simp only [HQ0.out, HQ1.out, HQ2.out, HQ3.out, HQ4.out, HQ5.out]; try rfl)
              go_enter Tryz.func43, Tryz.ntmps43
              simp only [List.append]
              have d5' : ct < 1 := of_decide_eq_true HQ5.out
              go_wp2_with (first | (go_at_call 99; (with_reducible refine HC1.out.mono ?_); rintro e w' ⟨rfl, rfl⟩; rw [HQ0.out]) | (go_at_call 98; (with_reducible refine HC2.out.mono ?_); rintro e w2 ⟨rfl, hk2⟩; rw [HQ1.out]; obtain ⟨d0, d1, d2, d3, d4, d5, d6, d7, d8⟩ := SOF.out _ hk2; have K2 := Lib.hid (K1.out.trans hk2); clear hk2) | (go_at_call 79; (with_reducible refine (HC3.out fr (n : Int) _).mono ?_); rintro e w' ⟨rfl, rfl⟩; rw [HQ2.out]) | (go_at_call 79; (with_reducible refine (HC3.out tw (n : Int) _).mono ?_); rintro e w' ⟨rfl, rfl⟩; rw [HQ3.out]) | (go_at_call 79; (with_reducible refine (HC3.out ti 1000001 _).mono ?_); rintro e w' ⟨rfl, rfl⟩; rw [HQ4.out]))
              go_ret
              exact bool_post HF.out K2.out
abbrev shC (d : Dc) (v : Value) (lab : ByteArray) (ix : Int) (pv : Value) : Array Value := #[.string d.sl, .int .i64 d.fr, .int .i64 d.tw, .int .i64 d.ti, .int .i64 d.ct, .int .i64 d.rt, .int .i64 d.gv, .int .i64 d.tk, v, .string lab, .int .i64 ix, pv]
abbrev shA (d : Dc) (v : Value) (lab : ByteArray) (ix : Int) (pv : Value) : Value := .agg (shC d v lab ix pv)
def misF (lab : ByteArray) (ix ct : Int) : Bool := !(labelF lab && belowF ix ct)
set_option maxRecDepth 100000 in
theorem misplaced47 (d : Dc) (v : Value) (lab : ByteArray) (ix : Int) (pv : Value) (w : World) (hs : lab.size ≤ 9223372036854775807) (ht : Tab w) :
    Calls Tryz.prog 47 #[shA d v lab ix pv] w (BoolPost (misF lab ix d.ct) w) := by
  have k1 := (Keeps.refl w).alloc (.cells (shC d v lab ix pv) 125)
  have HB := Blk.new w 125 (shC d v lab ix pv)
  obtain ⟨r, hr⟩ : ∃ r, misF lab ix d.ct = r := ⟨_, rfl⟩
  rw [hr]
  have HC2 := Lib.hid (isLabel98 lab _ hs (ht.keep k1))
  have HC3 := Lib.hid (fun (w : World) => below79 ix d.ct w)
  unfold misF at hr
  obtain ⟨sl, fr, tw, ti, ct, rt, gv, tk⟩ := d
  change (!(labelF lab && belowF ix ct)) = r at hr
  have HR := Lib.hid hr
  change Calls Tryz.prog 47 #[.agg #[.string sl, .int .i64 fr, .int .i64 tw, .int .i64 ti, .int .i64 ct, .int .i64 rt, .int .i64 gv, .int .i64 tk, v, .string lab, .int .i64 ix, pv]] w _
  change Blk (w.alloc (.cells #[.string sl, .int .i64 fr, .int .i64 tw, .int .i64 ti, .int .i64 ct, .int .i64 rt, .int .i64 gv, .int .i64 tk, v, .string lab, .int .i64 ix, pv] 125)) w.heap.size 125 #[.string sl, .int .i64 fr, .int .i64 tw, .int .i64 ti, .int .i64 ct, .int .i64 rt, .int .i64 gv, .int .i64 tk, v, .string lab, .int .i64 ix, pv] at HB
  have K1 := Lib.hid (show Keeps w (w.alloc (.cells #[.string sl, .int .i64 fr, .int .i64 tw, .int .i64 ti, .int .i64 ct, .int .i64 rt, .int .i64 gv, .int .i64 tk, v, .string lab, .int .i64 ix, pv] 125)) from k1)
  have SOF := Lib.hid (show ∀ X, Keeps (w.alloc (.cells #[.string sl, .int .i64 fr, .int .i64 tw, .int .i64 ti, .int .i64 ct, .int .i64 rt, .int .i64 gv, .int .i64 tk, v, .string lab, .int .i64 ix, pv] 125)) X → X.cell? ⟨w.heap.size, 4, none⟩ = some (.int .i64 ct) ∧ X.cell? ⟨w.heap.size, 10, none⟩ = some (.int .i64 ix) from fun X hX => ⟨cell_keep (HB.cell 4) hX, cell_keep (HB.cell 10) hX⟩)
  clear hs ht k1 hr HB
  cases q1 : labelF lab
  · have HQ1 := Lib.hid q1
    clear q1
    have HF := Lib.hid (show r = true by rw [← HR.out]; simp only [HQ1.out]; try rfl)
    go_enter Tryz.func47, Tryz.ntmps47
    go_wp2_with (first | (go_at_call 98; (with_reducible refine HC2.out.mono ?_); rintro e w2 ⟨rfl, hk2⟩; rw [HQ1.out]; have K2 := Lib.hid (K1.out.trans hk2); clear hk2))
    go_ret
    exact bool_post HF.out K2.out
  · have HQ1 := Lib.hid q1
    clear q1
    cases q2 : belowF ix ct
    · have HQ2 := Lib.hid q2
      clear q2
      have HF := Lib.hid (show r = true by rw [← HR.out]; simp only [HQ1.out, HQ2.out]; try rfl)
      go_enter Tryz.func47, Tryz.ntmps47
      go_wp2_with (first | (go_at_call 98; (with_reducible refine HC2.out.mono ?_); rintro e w2 ⟨rfl, hk2⟩; rw [HQ1.out]; obtain ⟨d4, d10⟩ := SOF.out _ hk2; have K2 := Lib.hid (K1.out.trans hk2); clear hk2) | (go_at_call 79; (with_reducible refine (HC3.out _).mono ?_); rintro e w' ⟨rfl, rfl⟩; rw [HQ2.out]))
      go_ret
      exact bool_post HF.out K2.out
    · have HQ2 := Lib.hid q2
      clear q2
      have HF := Lib.hid (show r = false by rw [← HR.out]; simp only [HQ1.out, HQ2.out]; try rfl)
      go_enter Tryz.func47, Tryz.ntmps47
      go_wp2_with (first | (go_at_call 98; (with_reducible refine HC2.out.mono ?_); rintro e w2 ⟨rfl, hk2⟩; rw [HQ1.out]; obtain ⟨d4, d10⟩ := SOF.out _ hk2; have K2 := Lib.hid (K1.out.trans hk2); clear hk2) | (go_at_call 79; (with_reducible refine (HC3.out _).mono ?_); rintro e w' ⟨rfl, rfl⟩; rw [HQ2.out]))
      go_ret
      exact bool_post HF.out K2.out
def unF (lab : ByteArray) (ix : Int) (path : List Int) (rt : Int) : Bool := decide ((climbF lab ix path).2.length = 0) || !decide ((climbF lab ix path).1 = rt)
set_option maxRecDepth 100000 in
set_option maxHeartbeats 2000000 in
theorem unproved48 (d : Dc) (v : Value) (lab : ByteArray) (ix : Int) (path : List Int) (PA : Option Addr) (p pc : Nat) (w : World) (hp : RecIn intR w w.heap.size PA path) (hn : Hid (p = path.length)) (hpx : p ≤ 1000000) (hl : lab.size ≤ 1000000) (hi : ix ≤ 9223372036854775807) :
    Calls Tryz.prog 48 #[shA d v lab ix (.slice PA p pc)] w (BoolPost (unF lab ix path d.rt) w) := by
  have k1 := (Keeps.refl w).alloc (.cells (shC d v lab ix (.slice PA p pc)) 125)
  have HB := Blk.new w 125 (shC d v lab ix (.slice PA p pc))
  have HC := Lib.hid (climb21 lab ix path PA p pc _ (hp.keep k1) hn hpx hl hi)
  obtain ⟨r, hr⟩ : ∃ r, unF lab ix path d.rt = r := ⟨_, rfl⟩
  rw [hr]
  obtain ⟨sl, fr, tw, ti, ct, rt, gv, tk⟩ := d
  change (decide ((climbF lab ix path).2.length = 0) || !decide ((climbF lab ix path).1 = rt)) = r at hr
  have HR := Lib.hid hr
  clear hr hp hn
  generalize climbF lab ix path = res at *
  obtain ⟨root, ls⟩ := res
  change Calls Tryz.prog 48 #[.agg #[.string sl, .int .i64 fr, .int .i64 tw, .int .i64 ti, .int .i64 ct, .int .i64 rt, .int .i64 gv, .int .i64 tk, v, .string lab, .int .i64 ix, .slice PA p pc]] w _
  change Blk (w.alloc (.cells #[.string sl, .int .i64 fr, .int .i64 tw, .int .i64 ti, .int .i64 ct, .int .i64 rt, .int .i64 gv, .int .i64 tk, v, .string lab, .int .i64 ix, .slice PA p pc] 125)) w.heap.size 125 #[.string sl, .int .i64 fr, .int .i64 tw, .int .i64 ti, .int .i64 ct, .int .i64 rt, .int .i64 gv, .int .i64 tk, v, .string lab, .int .i64 ix, .slice PA p pc] at HB
  have K1 := Lib.hid (show Keeps w (w.alloc (.cells #[.string sl, .int .i64 fr, .int .i64 tw, .int .i64 ti, .int .i64 ct, .int .i64 rt, .int .i64 gv, .int .i64 tk, v, .string lab, .int .i64 ix, .slice PA p pc] 125)) from k1)
  have SOF := Lib.hid (show ∀ X, Keeps (w.alloc (.cells #[.string sl, .int .i64 fr, .int .i64 tw, .int .i64 ti, .int .i64 ct, .int .i64 rt, .int .i64 gv, .int .i64 tk, v, .string lab, .int .i64 ix, .slice PA p pc] 125)) X → X.cell? ⟨w.heap.size, 5, none⟩ = some (.int .i64 rt) from fun X hX => cell_keep (HB.cell 5) hX)
  clear k1 HB
  by_cases h0 : ls.length = 0
  · have HF := Lib.hid (show r = true by rw [← HR.out]; simp [h0])
    have H0 := Lib.hid h0
    clear h0
    go_enter Tryz.func48, Tryz.ntmps48
    go_wp2_with (first | (go_at_call 21; (with_reducible refine HC.out.mono ?_); rintro e w2 ⟨A, n, c, rows, rfl, hn2, hmap, hrec, hrows, hk2⟩; have n0 : n = 0 := (by have h5 : rows.length = ls.length := (by have := congrArg List.length hmap; simpa using this); have h6 := H0.out; omega); subst n0; have K2 := Lib.hid (K1.out.trans hk2); clear hk2 hrec hrows hmap hn2))
    go_ret
    exact bool_post HF.out K2.out
  · have H0 := Lib.hid h0
    clear h0
    by_cases hq : root = rt
    · subst hq
      have HF := Lib.hid (show r = false by rw [← HR.out]; simp [H0.out])
      have q1 : (root != root) = false := by simp
      go_enter Tryz.func48, Tryz.ntmps48
      go_wp2_with (first | (go_at_call 21; (with_reducible refine HC.out.mono ?_); rintro e w2 ⟨A, n, c, rows, rfl, hn2, hmap, hrec, hrows, hk2⟩; have n0 : ¬ n = 0 := (by have h5 : rows.length = ls.length := (by have := congrArg List.length hmap; simpa using this); have h6 := H0.out; omega); have n1 : ((n : Int) == 0) = false := (by simp; omega); have d5 := SOF.out _ hk2; have K2 := Lib.hid (K1.out.trans hk2); clear hk2 hrec hrows hmap hn2))
      go_ret
      exact bool_post HF.out K2.out
    · have HF := Lib.hid (show r = true by rw [← HR.out]; simp [hq])
      have q1 : (root != rt) = true := by simpa using hq
      go_enter Tryz.func48, Tryz.ntmps48
      go_wp2_with (first | (go_at_call 21; (with_reducible refine HC.out.mono ?_); rintro e w2 ⟨A, n, c, rows, rfl, hn2, hmap, hrec, hrows, hk2⟩; have n0 : ¬ n = 0 := (by have h5 : rows.length = ls.length := (by have := congrArg List.length hmap; simpa using this); have h6 := H0.out; omega); have n1 : ((n : Int) == 0) = false := (by simp; omega); have d5 := SOF.out _ hk2; have K2 := Lib.hid (K1.out.trans hk2); clear hk2 hrec hrows hmap hn2))
      go_ret
      exact bool_post HF.out K2.out
end
end Go.Proofs.YthkmpegpmpdhaaaGreatDoor
