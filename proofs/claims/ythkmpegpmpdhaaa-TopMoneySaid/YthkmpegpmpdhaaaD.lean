/- Part of the proofs of TopMoney and TopOrders. Conditions: as stated in each theorem. -/
import Derived.Test.YthkmpegpmpdhaaaC
import Derived.Deep.CutRange
import Derived.StillTailTactics
import Derived.Lib.SliceRun
import Derived.Test.YthkmpegpmpdhaaaRows
import Derived.WalkKit
import Derived.WalkSpells
import Derived.WalkLawsBesides
import Derived.Laws.EntriesVeiled
import Derived.ProofKit
import Derived.OpenShut
import Derived.Lib.Hide
import Derived.BigQuiet
import Derived.Deep.QuietTactic
import Derived.Below
import Derived.Laws.OwnMore
import Derived.Deep.AppendLies
import Derived.Deep.Draws
import Derived.Laws.Rows
import Derived.Maps.AppendAt
import Derived.RegionTactic
import Derived.OwnWalk
import Derived.Deep.RegionHeld3
namespace Go.Proofs.Ythkmpegpmpdhaaa
open Go.ChangeShapes Go.WideShapes Go.ChangeAt Go.RowKit
set_option linter.unusedSimpArgs false
set_option linter.unusedVariables false
theorem own_set {w0 w : World} {g n cap : Nat} {l : List Int} (h : OwnR intR w0 w (.slice (some ⟨g, 0, none⟩) n cap) l) {j : Nat} (y : Int) (hj : j < l.length) : OwnR intR w0 (w.setCell ⟨g, j, none⟩ (.int .i64 y)) (.slice (some ⟨g, 0, none⟩) n cap) (l.set j y) := by
  have := OwnR.put (R := intR) (fun _ => rfl) h (j := j) (i := 0) (x := at0 l j) (x' := y) (u := .int .i64 y) (get_at0 hj) (by decide) rfl
  simpa using this
theorem own_cell {w0 w : World} {g n cap : Nat} {l : List Int} (h : OwnR intR w0 w (.slice (some ⟨g, 0, none⟩) n cap) l) {j : Nat} (hj : j < l.length) : w.cell? ⟨g, j, none⟩ = some (.int .i64 (at0 l j)) := by
  obtain ⟨b, off, e, _, hc⟩ := (h.recs intOk).1.int (get_at0 hj)
  cases e
  simpa using hc
theorem OwnR.drew {α : Type} {R : RowTy α} {w0 w : World} {v : Value} {l : List α} (h : OwnR R w0 w v l) : OwnR R w0 w.drew v l := h.keep (Keeps.refl w).drew
theorem grown_drew {a b : World} {row : Option Nat} (h : a.grownBy b row) : a.grownBy b.drew row := ⟨h.os, h.tape, h.output, h.size, h.block⟩
theorem grown_alloc {a b : World} {row : Option Nat} (h : a.grownBy b row) (o : Obj) : a.grownBy (b.alloc o) row := ⟨(World.grownBy_alloc b o row).os.trans h.os, (World.grownBy_alloc b o row).tape.trans h.tape, (World.grownBy_alloc b o row).output.trans h.output, Nat.le_trans h.size (World.grownBy_alloc b o row).size, fun k hk hne => (Below.heap_alloc b o k (Nat.lt_of_lt_of_le hk h.size)).trans (h.block k hk hne)⟩
theorem grown_set {a b : World} {g : Nat} (h : a.grownBy b (some g)) (i : Nat) (v : Value) : a.grownBy (b.setCell ⟨g, i, none⟩ v) (some g) := ⟨h.os, h.tape, h.output, by simpa [World.setCell] using h.size, fun k hk hne => (Below.heap_setCell b ⟨g, i, none⟩ v k (fun e => hne (by rw [e]))).trans (h.block k hk hne)⟩
/-- Payments that can be made one after the other. -/
def CanPay (l : List Int) (ps : List Mv) : Prop := (∀ p ∈ ps, p.f < l.length ∧ p.t < l.length ∧ p.f ≠ p.t) ∧ ∀ k i, k ≤ ps.length → -1000000000000 ≤ at0 ((ps.take k).foldl mvL l) i ∧ at0 ((ps.take k).foldl mvL l) i ≤ 1000000000000
set_option maxHeartbeats 4000000 in
set_option maxRecDepth 100000 in
theorem pay_any (l : List Int) (ps : List Mv) (g n cap : Nat) (B : Option Addr) (m c : Nat) (w0 w : World) (hO : OwnR intR w0 w (.slice (some ⟨g, 0, none⟩) n cap) l) (hP : RecIn mvR w w.heap.size B ps) (hm : Hid (m = ps.length)) (hmb : m ≤ 1000000) (hne : Hid (∀ b off, 0 < ps.length → B = some ⟨b, off, none⟩ → b ≠ g)) (hc : Hid (CanPay l ps)) :
    Calls Try.prog 32 #[.slice (some ⟨g, 0, none⟩) n cap, .slice B m c] w fun e w' => e = .returned (.tuple #[]) ∧ OwnR intR w0 w' (.slice (some ⟨g, 0, none⟩) n cap) (ps.foldl mvL l) ∧ w.grownBy w' (some g) := by
  have HO := Lib.hid hO; have HP := Lib.hid hP
  have HN := Lib.hid (hO.recs intOk).2
  clear hO hP
  go_enter Try.func32, Try.ntmps32
  go_wp2
  go_loopw [8] (fun i wr => ∃ k : Nat, k ≤ m ∧ i = .int .i64 (k : Int) ∧ OwnR intR w0 wr (.slice (some ⟨g, 0, none⟩) n cap) ((ps.take k).foldl mvL l) ∧ w.grownBy wr (some g)) (fun i _ => m - (intOf i).toNat)
  case atStart => exact ⟨0, by omega, rfl, HO.out, World.grownBy.refl w _⟩
  case round =>
    obtain ⟨k, hk, rfl, hO, hG⟩ := hrel
    have HO2 := Lib.hid hO; have HG := Lib.hid hG
    clear hO hG
    by_cases hkm : k < m
    · have hok : ps[k]? = some (ps[k]'(by rw [← hm.out]; exact hkm)) := List.getElem?_eq_getElem _
      generalize ps[k]'(by rw [← hm.out]; exact hkm) = p at hok
      obtain ⟨hpf, hpt0, hpn⟩ := hc.out.1 p (List.mem_of_getElem? hok)
      obtain ⟨b, off, rfl, hb, c0, c1, c2⟩ := HP.out.mv hok
      have hbg := hne.out b off (by have := hm.out; omega) rfl
      have c0' := HG.out.cell c0 (by simpa using hbg)
      have c1' := HG.out.cell c1 (by simpa using hbg)
      have c2' := HG.out.cell c2 (by simpa using hbg)
      have hnext : (ps.take (k + 1)).foldl mvL l = mvL ((ps.take k).foldl mvL l) p := by rw [List.take_add_one, hok]; simp [List.foldl_append]
      have b0 := hc.out.2 (k + 1) p.f (by have := hm.out; omega)
      have b1 := hc.out.2 (k + 1) p.t (by have := hm.out; omega)
      have hlen : ((ps.take k).foldl mvL l).length = n := by rw [runL_len]; exact HN.out.symm
      have HX := Lib.hid hnext
      rw [hnext] at b0 b1
      rw [mvL_at (by rw [hlen]; have := HN.out; omega) (by rw [hlen]; have := HN.out; omega)] at b0 b1
      generalize (ps.take k).foldl mvL l = cur at *
      have pfn : p.f < n := by have := HN.out; omega
      have ptn : p.t < n := by have := HN.out; omega
      have d0 := own_cell HO2.out (j := p.f) (by omega)
      have f0 := HO2.out.frozen p.f
      obtain ⟨pf, pt, pa⟩ := p
      (try dsimp only at *)
      unfold eff1 at b0 b1
      (try dsimp only at b0 b1)
      rw [if_pos rfl, if_neg hpn] at b0
      rw [if_neg (fun e => hpn e.symm), if_pos rfl] at b1
      have x0 : IntKind.i64.wrap (at0 cur pf + pa) = at0 cur pf + pa := IntWalk.i64_in _ (by omega)
      have x1 : IntKind.i64.wrap (at0 cur pt - pa) = at0 cur pt - pa := IntWalk.i64_in _ (by omega)
      have i0 : (pf : Int) < (n : Int) := by omega
      have i1 : (pt : Int) < (n : Int) := by omega
      have i2 : (0 : Int) ≤ (pf : Int) := by omega
      have i3 : (0 : Int) ≤ (pt : Int) := by omega
      have hki : (k : Int) < (m : Int) := by omega
      have hk0 : (0 : Int) ≤ (k : Int) := by omega
      have hkw : IntKind.i64.wrap ((k : Int) + 1) = (k : Int) + 1 := IntWalk.i64_in _ (by omega)
      have hpt : at0 (cur.set pf (at0 cur pf + pa)) pt = at0 cur pt := by rw [at0_set _ (by omega), if_neg (fun e => hpn e.symm)]
      have b3 := Blk.new wr 44 #[.int .i64 (pf : Int), .int .i64 (pt : Int), .int .i64 pa]
      have e0 := cell_of_blk b3 0 rfl
      have e1 := cell_of_blk b3 1 rfl
      have e2 := cell_of_blk b3 2 rfl
      have O1 := Lib.hid (HO2.out.keep ((Keeps.refl wr).alloc (.cells #[.int .i64 (pf : Int), .int .i64 (pt : Int), .int .i64 pa] 44)))
      have G1 := Lib.hid (grown_alloc HG.out (.cells #[.int .i64 (pf : Int), .int .i64 (pt : Int), .int .i64 pa] 44))
      have hbs : g < wr.heap.size := (HO2.out.1.lt g rfl).2
      have hbz : wr.heap.size ≠ g := by omega
      clear c0 c1 c2 hok b0 b1 hpn b3
      go_upto_region 3 with fail
      clear c0' c1' c2' d0 f0 HO2 HG
      generalize wr.alloc (.cells #[.int .i64 (pf : Int), .int .i64 (pt : Int), .int .i64 pa] 44) = W1 at *
      have d0 := own_cell O1.out (j := pf) (by omega)
      have f0 := O1.out.frozen pf
      go_still_tail 9, (by kernel_rfl)
      change wpList _ _ _ _ _ W1.drew
      go_upto_region 4 with fail
      change Code.wp _ _ _ _ (W1.drew.setCell ⟨g, pf, none⟩ (.int .i64 (at0 cur pf + pa)))
      have O2 := Lib.hid (own_set O1.out.drew (at0 cur pf + pa) (by omega : pf < cur.length))
      have G2 := Lib.hid (grown_set (grown_drew G1.out) pf (.int .i64 (at0 cur pf + pa)))
      have e1' : (W1.drew.setCell ⟨g, pf, none⟩ (.int .i64 (at0 cur pf + pa))).cell? ⟨wr.heap.size, 1, none⟩ = some (.int .i64 (pt : Int)) := (World.cell?_setCell_other _ _ _ _ (by simp [hbz])).trans e1
      have e2' : (W1.drew.setCell ⟨g, pf, none⟩ (.int .i64 (at0 cur pf + pa))).cell? ⟨wr.heap.size, 2, none⟩ = some (.int .i64 pa) := (World.cell?_setCell_other _ _ _ _ (by simp [hbz])).trans e2
      clear d0 f0 O1 G1 e0 e1 e2
      generalize W1.drew.setCell ⟨g, pf, none⟩ (.int .i64 (at0 cur pf + pa)) = W2 at *
      have hl2 : (cur.set pf (at0 cur pf + pa)).length = n := by simpa using hlen
      have d0 := own_cell O2.out (j := pt) (by omega)
      have f0 := O2.out.frozen pt
      rw [hpt] at d0
      have HX2 := Lib.hid (show (ps.take (k + 1)).foldl mvL l = (cur.set pf (at0 cur pf + pa)).set pt (at0 cur pt - pa) by rw [HX.out]; unfold mvL; (try dsimp only); rw [hpt])
      clear HX hnext
      go_still_tail 9, (by kernel_rfl)
      change wpList _ _ _ _ _ W2.drew
      go_wp2_with fail
      have O3 := Lib.hid (own_set O2.out.drew (at0 cur pt - pa) (by omega : pt < (cur.set pf (at0 cur pf + pa)).length))
      have G3 := Lib.hid (grown_set (grown_drew G2.out) pt (.int .i64 (at0 cur pt - pa)))
      rw [← HX2.out] at O3
      go_roundw
      case rel => first | exact ⟨k + 1, by omega, by go_num, O3.out, G3.out⟩ | ((repeat apply Exists.intro); exact ⟨⟨k + 1, by omega, by go_num, O3.out, G3.out⟩, rfl⟩)
      case measure => simp [intOf]; omega
    · have e : ps.take k = ps := List.take_of_length_le (by have := hm.out; omega)
      rw [e] at HO2
      go_wp2_with fail
      go_end0
      exact ⟨rfl, HO2.out, HG.out⟩
end Go.Proofs.Ythkmpegpmpdhaaa
