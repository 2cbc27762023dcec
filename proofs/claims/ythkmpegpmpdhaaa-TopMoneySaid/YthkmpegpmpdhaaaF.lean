/- Part of the proofs of TopMoney and TopOrders. Conditions: as stated in each theorem. -/
import Derived.Test.YthkmpegpmpdhaaaE
import Derived.Deep.CutRange
import Derived.StillTailTactics
import Derived.Lib.SliceRun
import Derived.Test.YthkmpegpmpdhaaaRows
import Derived.WalkKit
import Derived.WalkSpells
import Derived.WalkLawsBesides
import Derived.Laws.EntriesVeiled
import Derived.ProofKit
import Derived.OpenShut
import Derived.Lib.Hide
import Derived.BigQuiet
import Derived.Deep.QuietTactic
import Derived.Below
import Derived.Laws.OwnMore
import Derived.Deep.AppendLies
import Derived.Deep.Draws
import Derived.Laws.Rows
import Derived.Maps.AppendAt
import Derived.RegionTactic
import Derived.OwnWalk
import Derived.Deep.RegionHeld3
namespace Go.Proofs.Ythkmpegpmpdhaaa
open Go.ChangeShapes Go.WideShapes Go.ChangeAt Go.RowKit
set_option linter.unusedSimpArgs false
set_option linter.unusedVariables false
def PayPost (r : List Int) (w : World) (e : Ending) (w' : World) : Prop := ∃ A c, e = .returned (.slice A r.length c) ∧ RecIn intR w' w'.heap.size A r ∧ Keeps w w'
theorem effL_bnd (ps : List Mv) (M : Int) (h : ∀ p ∈ ps, 0 ≤ p.a ∧ p.a ≤ M) (k : Nat) : -(M * (ps.length : Int)) ≤ effL ps k ∧ effL ps k ≤ M * (ps.length : Int) := by
  induction ps with
  | nil => simp [effL]
  | cons p ps ih =>
    have h1 := h p (by simp)
    have h2 := ih (fun q hq => h q (by simp [hq]))
    have e : M * ((p :: ps).length : Int) = M + M * (ps.length : Int) := by simp only [List.length_cons, Int.natCast_add, Int.mul_add]; simp; omega
    rw [e]
    simp only [effL, eff1]
    split <;> split <;> omega
theorem can_pay {b : List Int} {t : List Mv} {M : Int} (h : NetIs b t M) (hM : M ≤ 1000000000) (hn : b.length ≤ 40) (hb : ∀ k, k < b.length → -M ≤ at0 b k ∧ at0 b k ≤ M) : CanPay b t := by
  refine ⟨fun p hp => ⟨(h.ok p hp).1, (h.ok p hp).2.1, (h.ok p hp).2.2.1⟩, fun k i hk => ?_⟩
  have hsub : ∀ p ∈ t.take k, p ∈ t := fun p hp => List.mem_of_mem_take hp
  rw [runL_at (t.take k) b (fun p hp => ⟨(h.ok p (hsub p hp)).1, (h.ok p (hsub p hp)).2.1⟩)]
  have h1 := effL_bnd (t.take k) 1000000000 (fun p hp => by have := (h.ok p (hsub p hp)).2.2.2; omega) i
  have h2 := h.few
  rw [List.length_take] at h1
  have h3 : -1000000000 ≤ at0 b i ∧ at0 b i ≤ 1000000000 := by
    by_cases hi : i < b.length
    · have := hb i hi; omega
    · rw [at0_out (by omega)]; omega
  omega
set_option maxHeartbeats 4000000 in
set_option maxRecDepth 100000 in
theorem payall_any (b : List Int) (t : List Mv) (A : Option Addr) (n c : Nat) (B : Option Addr) (m c' : Nat) (M : Int) (w : World) (hl : RecIn intR w w.heap.size A b) (hln : Hid (n = b.length)) (hn1 : 1 ≤ n) (hn : n ≤ 40) (hP : RecIn mvR w w.heap.size B t) (hm : Hid (m = t.length))
    (hN : Hid (NetIs b t M)) (hM : 0 ≤ M ∧ M ≤ 1000000000) (hb : Hid (∀ k, k < b.length → -M ≤ at0 b k ∧ at0 b k ≤ M)) :
    Calls Try.prog 11 #[.slice A n c, .slice B m c'] w (PayPost (t.foldl mvL b) w) := by
  have HL := Lib.hid hl; have HP := Lib.hid hP
  obtain ⟨ad, rfl⟩ : ∃ ad, A = some ad := by
    obtain ⟨b, off, e, _⟩ := hl 0 _ (List.getElem?_eq_getElem (by have := hln.out; omega))
    exact ⟨_, e⟩
  clear hl hP
  have hall : ∀ x ∈ b, -1000000000000 ≤ x ∧ x ≤ 1000000000000 := fun x hx => by
    obtain ⟨i, hi⟩ := List.getElem?_of_mem hx
    have := hb.out i (List.getElem?_eq_some_iff.1 hi).1
    rw [at0_get hi] at this; omega
  have HALL := Lib.hid hall
  have HCP := Lib.hid (can_pay hN.out hM.2 (by have := hln.out; omega) hb.out)
  have hm40 : m ≤ 40 := by have := hm.out; have := hN.out.few; have := hln.out; omega
  have HM0 := Lib.hid (show (0 : Int) ≤ 1000000000000 ∧ (1000000000000 : Int) ≤ 1000000000000 by omega)
  have HB0 : Hid ((w.alloc (.cells #[.int .i64 1000000000000] 3)).cell? ⟨w.heap.size, 0, none⟩ = some (.int .i64 1000000000000)) := cell_of_blk (Blk.new w 3 #[.int .i64 1000000000000]) 0 rfl
  have K0 := Lib.hid (show Keeps w (w.alloc (.cells #[.int .i64 1000000000000] 3)) from (Keeps.refl w).alloc _)
  have hm1 : decide (1000 < m) = false := by simp; omega
  have hm1' : decide ((1000 : Int) < (m : Int)) = false := by simp; omega
  clear hall
  go_enter Try.func11, Try.ntmps11
  go_wp2_with (first | (go_at_call 28; (with_reducible refine (wrong_make 1000000000000 _).mono ?_); rintro e w1 ⟨rfl, rfl⟩) | (go_at_call 27; (with_reducible refine (contains_no b 1000000000000 _ (some ad) n c _ (HL.out.keep K0.out) hln (by omega) HB0 HALL HM0).mono ?_); rintro e w2 ⟨rfl, hk2⟩))
  have K2 := Lib.hid (K0.out.trans hk2)
  have HB2 := Lib.hid (cell_keep HB0.out hk2)
  clear hk2 K0 HB0
  go_loopw [20] (fun i wr => ∃ (k : Nat), k ≤ m ∧ i = .int .i64 (k : Int) ∧ Keeps w2 wr) (fun i _ => m - (intOf i).toNat)
  case atStart => exact ⟨0, by omega, rfl, Keeps.refl _⟩
  case round =>
    obtain ⟨k, hk, rfl, hK⟩ := hrel
    by_cases hkm : k < m
    · have hok : t[k]? = some (t[k]'(by rw [← hm.out]; exact hkm)) := List.getElem?_eq_getElem _
      generalize t[k]'(by rw [← hm.out]; exact hkm) = p at hok
      have hp := hN.out.ok p (List.mem_of_getElem? hok)
      obtain ⟨bb, off, rfl, hb1, c0, c1, c2⟩ := (HP.out.keep (K2.out.trans hK)).mv hok
      obtain ⟨pf, pt, pa⟩ := p
      (try dsimp only at hp c0 c1 c2)
      obtain ⟨p1, p2, p3, p4, p5⟩ := hp
      have p1' : decide ((pf : Int) < 0) = false := by simp
      have p1'' : decide ((n : Int) ≤ (pf : Int)) = false := by have := hln.out; simp; omega
      have p2' : decide ((pt : Int) < 0) = false := by simp
      have p2'' : decide ((n : Int) ≤ (pt : Int)) = false := by have := hln.out; simp; omega
      have p2n : decide (n ≤ pf) = false := by have := hln.out; simp; omega
      have p2m : decide (n ≤ pt) = false := by have := hln.out; simp; omega
      have HX := Lib.hid (show -1000000000000 ≤ pa ∧ pa ≤ 1000000000000 by omega)
      have K3 := Lib.hid (hK.alloc (.cells #[.int .i64 (pf : Int), .int .i64 (pt : Int), .int .i64 pa] 44))
      have HB3 := Lib.hid (cell_keep HB2.out K3.out)
      have hki : (k : Int) < (m : Int) := by omega
      have hk0 : (0 : Int) ≤ (k : Int) := by omega
      have hkw : IntKind.i64.wrap ((k : Int) + 1) = (k : Int) + 1 := IntWalk.i64_in _ (by omega)
      clear hok p1 p2 p3 p4 p5
      go_wp2_with (go_at_call 53; (with_reducible refine (wrong_no pa 1000000000000 _ _ HB3.out HX HM0).mono ?_); rintro e w4 ⟨rfl, rfl⟩)
      go_roundw
      case rel => first | exact ⟨k + 1, by omega, by go_num, K3.out⟩ | ((repeat apply Exists.intro); exact ⟨⟨k + 1, by omega, by go_num, K3.out⟩, rfl⟩)
      case measure => simp [intOf]; omega
    · have K3 := Lib.hid (K2.out.trans hK)
      clear hK K2 HB2
      go_upto_region 11 with (go_at_call 29; (with_reducible refine (clone_ints b (some ad) n c _ (HL.out.keep K3.out) hln (by omega) ⟨_, rfl⟩).mono ?_); rintro e w4 ⟨A4, c4, rfl, ho4⟩)
      obtain ⟨g, cap, e, hg1, hg2⟩ := ho4.form (by have := hln.out; omega)
      injection e with e1 e2 e3
      subst e1 e3
      have HO4 := Lib.hid ho4
      have HP4 := Lib.hid ((HP.out.keep K3.out).keep ho4.2)
      have HNE : Hid (∀ b off, 0 < t.length → B = some ⟨b, off, none⟩ → b ≠ g) := fun bb off hx e => by
        obtain ⟨b', off', e', hlt, _⟩ := HP.out.mv (List.getElem?_eq_getElem hx)
        rw [e] at e'; cases e'
        have := K3.out.size; omega
      clear ho4 e2
      go_wp2_with (go_at_call 32; (with_reducible refine (pay_any b t g n c4 B m c' wr w4 HO4.out HP4.out hm (by omega) HNE HCP).mono ?_); rintro e w8 ⟨rfl, ho8, hg8⟩)
      go_ret
      have hlen := (ho8.recs intOk).2
      exact ⟨_, c4, by rw [← hlen]; rfl, (ho8.recs intOk).1, K3.out.trans ho8.2⟩
end Go.Proofs.Ythkmpegpmpdhaaa
