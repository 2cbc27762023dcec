/- Part of the proofs of TopMoney and TopOrders. Conditions: as stated in each theorem. -/
import Derived.Test.YthkmpegpmpdhaaaD
import Derived.Deep.CutRange
import Derived.StillTailTactics
import Derived.Lib.SliceRun
import Derived.Test.YthkmpegpmpdhaaaRows
import Derived.WalkKit
import Derived.WalkSpells
import Derived.WalkLawsBesides
import Derived.Laws.EntriesVeiled
import Derived.ProofKit
import Derived.OpenShut
import Derived.Lib.Hide
import Derived.BigQuiet
import Derived.Deep.QuietTactic
import Derived.Below
import Derived.Laws.OwnMore
import Derived.Deep.AppendLies
import Derived.Deep.Draws
import Derived.Laws.Rows
import Derived.Maps.AppendAt
import Derived.RegionTactic
import Derived.OwnWalk
import Derived.Deep.RegionHeld3
namespace Go.Proofs.Ythkmpegpmpdhaaa
open Go.ChangeShapes Go.WideShapes Go.ChangeAt Go.RowKit
set_option linter.unusedSimpArgs false
set_option linter.unusedVariables false
theorem netF_step {f : Nat} {l : List Int} (h : ¬ (at0 l (leastI l) = 0 ∧ at0 l (mostI l) = 0)) : netF (f + 1) l = netP l :: netF f (mvL l (netP l)) := by simp only [netF]; rw [if_neg h]
theorem netF_end {f : Nat} {l : List Int} (h : at0 l (leastI l) = 0 ∧ at0 l (mostI l) = 0) : netF f l = [] := by
  cases f with
  | zero => rfl
  | succ f => simp only [netF]; rw [if_pos h]
/-- Two lists of the call's own with elements of different types lie apart. -/
theorem own_apart {α β : Type} {R : RowTy α} {S : RowTy β} {w0 w1 w : World} {v u : Value} {l : List α} {m : List β} (h : OwnR R w0 w v l) (k : OwnR S w1 w u m) (hne : R.T ≠ S.T) (hv : v.ownBlock ≠ none) : v.ownBlock ≠ u.ownBlock := by
  intro e
  rcases h.1.2 with ⟨rfl, _⟩ | ⟨g, cap, cur, rfl, _, hg, _⟩
  · exact hv rfl
  · rcases k.1.2 with ⟨rfl, _⟩ | ⟨g', cap', cur', rfl, _, hg', _⟩
    · cases e
    · simp [Value.ownBlock] at e
      subst e
      rw [hg] at hg'
      injection hg' with hg'
      injection hg' with _ ht
      exact hne ht
theorem OwnR.grown {α : Type} {R : RowTy α} {w0 w w' : World} {v : Value} {l : List α} {row : Option Nat} (h : OwnR R w0 w v l) (hg : w.grownBy w' row) (hne : v.ownBlock = none ∨ v.ownBlock ≠ row) (hr : ∀ k, row = some k → w0.heap.size ≤ k) : OwnR R w0 w' v l := ⟨h.1.kept hg hne, grown_keeps h.2 hg hr⟩
/-- What Net answers, for balances that are not too great. -/
def NetPost (l : List Int) (M : Int) (w : World) (e : Ending) (w' : World) : Prop := ∃ A c t, e = .returned (.tuple #[.slice A t.length c, .int .i64 0]) ∧ RecIn mvR w' w'.heap.size A t ∧ NetIs l t M ∧ netF l.length l = t ∧ Keeps w w'
def slenV : Value → Nat | .slice _ n _ => n | _ => 0
theorem can_one {l cur : List Int} {ps : List Mv} {p : Mv} {M : Int} (hM : M ≤ 1000000000) (h : Run l cur ps M) (hs : Run l (mvL cur p) (ps ++ [p]) M) (hb : Best cur p) : CanPay cur [p] := by
  refine ⟨fun q hq => ?_, fun k i hk => ?_⟩
  · simp at hq; subst hq; exact ⟨hb.f, hb.t, hb.ne⟩
  · have hx : ∀ (c : List Int) (qs : List Mv), Run l c qs M → -1000000000000 ≤ at0 c i ∧ at0 c i ≤ 1000000000000 := fun c qs hr => by
      by_cases hi : i < l.length
      · have := hr.bnd i hi; omega
      · rw [at0_out (by rw [hr.len]; omega)]; omega
    rcases k with _ | k
    · exact hx cur ps h
    · have e : ([p] : List Mv).take (k + 1) = [p] := by simp
      rw [e]; exact hx _ _ hs
theorem own_other {α β : Type} {R : RowTy α} {S : RowTy β} {w0 w1 w : World} {g n cap : Nat} {u : Value} {l : List α} {m : List β} (h : OwnR R w0 w (.slice (some ⟨g, 0, none⟩) n cap) l) (k : OwnR S w1 w u m) (hne : R.T ≠ S.T) : u.ownBlock = none ∨ u.ownBlock ≠ some g := by
  right
  have := own_apart h k hne (by simp [Value.ownBlock])
  exact fun e => this (by rw [e]; rfl)
theorem own_back {α β : Type} {R : RowTy α} {S : RowTy β} {w0 w1 w : World} {g n cap : Nat} {u : Value} {l : List α} {m : List β} (h : OwnR R w0 w (.slice (some ⟨g, 0, none⟩) n cap) l) (k : OwnR S w1 w u m) (hne : R.T ≠ S.T) : (Value.slice (some ⟨g, 0, none⟩) n cap).ownBlock = none ∨ (Value.slice (some ⟨g, 0, none⟩) n cap).ownBlock ≠ u.ownBlock := .inr (own_apart h k hne (by simp [Value.ownBlock]))
theorem sum_bnd (l : List Int) (h : ∀ x ∈ l, -1000000000000 ≤ x ∧ x ≤ 1000000000000) : -(1000000000000 * (l.length : Int)) ≤ sumL l ∧ sumL l ≤ 1000000000000 * (l.length : Int) := by
  induction l with
  | nil => simp [sumL]
  | cons x l ih =>
    have h1 := h x (by simp)
    have h2 := ih (fun y hy => h y (by simp [hy]))
    simp only [sumL, List.length_cons]; omega
set_option maxHeartbeats 4000000 in
set_option maxRecDepth 100000 in
theorem net_any (l : List Int) (A : Option Addr) (n c : Nat) (M : Int) (w : World) (hl : RecIn intR w w.heap.size A l) (hln : Hid (n = l.length)) (hn1 : 1 ≤ n) (hn : n ≤ 40) (hs : Hid (sumL l = 0)) (hM : 0 ≤ M ∧ M ≤ 1000000000) (hb : Hid (∀ k, k < l.length → -M ≤ at0 l k ∧ at0 l k ≤ M)) :
    Calls Try.prog 8 #[.slice A n c] w (NetPost l M w) := by
  have HL := Lib.hid hl
  obtain ⟨ad, rfl⟩ : ∃ ad, A = some ad := by
    obtain ⟨b, off, e, _⟩ := hl 0 _ (List.getElem?_eq_getElem (by have := hln.out; omega))
    exact ⟨_, e⟩
  clear hl
  have hall : ∀ x ∈ l, -1000000000000 ≤ x ∧ x ≤ 1000000000000 := fun x hx => by
    obtain ⟨i, hi⟩ := List.getElem?_of_mem hx
    have := hb.out i (List.getElem?_eq_some_iff.1 hi).1
    rw [at0_get hi] at this; omega
  have HALL := Lib.hid hall
  have HM0 := Lib.hid (show (0 : Int) ≤ 1000000000000 ∧ (1000000000000 : Int) ≤ 1000000000000 by omega)
  have HB0 : Hid ((w.alloc (.cells #[.int .i64 1000000000000] 3)).cell? ⟨w.heap.size, 0, none⟩ = some (.int .i64 1000000000000)) := cell_of_blk (Blk.new w 3 #[.int .i64 1000000000000]) 0 rfl
  have K0 := Lib.hid (show Keeps w (w.alloc (.cells #[.int .i64 1000000000000] 3)) from (Keeps.refl w).alloc _)
  have hn40 : decide (40 < n) = false := by simp; omega
  have hn40' : decide ((40 : Int) < (n : Int)) = false := by simp; omega
  clear hall
  go_enter Try.func8, Try.ntmps8
  go_wp2_with (first | (go_at_call 28; (with_reducible refine (wrong_make 1000000000000 _).mono ?_); rintro e w1 ⟨rfl, rfl⟩) | (go_at_call 27; (with_reducible refine (contains_no l 1000000000000 _ (some ad) n c _ (HL.out.keep K0.out) hln (by omega) HB0 HALL HM0).mono ?_); rintro e w2 ⟨rfl, hk2⟩))
  have K2 := Lib.hid (K0.out.trans hk2)
  have HL2 := Lib.hid (HL.out.keep K2.out)
  clear hk2 K0 HB0
  go_loopw [4, 22] (fun s i wr => ∃ (k : Nat), k ≤ n ∧ i = .int .i64 (k : Int) ∧ s = .int .i64 (sumL (l.take k)) ∧ Keeps w2 wr) (fun _ i _ => n - (intOf i).toNat)
  case atStart => exact ⟨0, by omega, rfl, rfl, Keeps.refl _⟩
  case round =>
    obtain ⟨k, hk, rfl, rfl, hK⟩ := hrel
    by_cases hkn : k < n
    · have hkl : k < l.length := by rw [← hln.out]; exact hkn
      obtain ⟨b, off, e, hb1, c0⟩ := (HL2.out.keep hK).int (get_at0 hkl)
      cases e
      have hnx : sumL (l.take (k + 1)) = sumL (l.take k) + at0 l k := by rw [List.take_add_one, get_at0 hkl, sumL_append]; simp [sumL]
      have hbd := sum_bnd (l.take k) (fun x hx => HALL.out x (List.mem_of_mem_take hx))
      have hx := HALL.out (at0 l k) (List.mem_of_getElem? (get_at0 hkl))
      rw [List.length_take] at hbd
      have hw : IntKind.i64.wrap (sumL (l.take k) + at0 l k) = sumL (l.take k) + at0 l k := IntWalk.i64_in _ (by omega)
      have HX := Lib.hid hnx
      generalize sumL (l.take k) = s at *
      generalize at0 l k = x at *
      have hki : (k : Int) < (n : Int) := by omega
      have hk0 : (0 : Int) ≤ (k : Int) := by omega
      have hkw : IntKind.i64.wrap ((k : Int) + 1) = (k : Int) + 1 := IntWalk.i64_in _ (by omega)
      clear hkl hnx hbd hx
      go_wp2
      go_roundw
      case rel => first | exact ⟨k + 1, by omega, by go_num, by rw [HX.out], hK⟩ | ((repeat apply Exists.intro); exact ⟨⟨k + 1, by omega, by go_num, by rw [HX.out], hK⟩, rfl⟩)
      case measure => simp [intOf]; omega
    · have e0 : sumL (l.take k) = 0 := by rw [List.take_of_length_le (by have := hln.out; omega)]; exact hs.out
      rw [e0]
      have hnz : ((n : Int) == 0) = false := by simp; omega
      have K3 := Lib.hid (K2.out.trans hK)
      clear hK K2 HL2 e0
      generalize wr = w3 at *
      go_wp2_with (go_at_call 29; (with_reducible refine (clone_ints l (some ad) n c _ (HL.out.keep K3.out) hln (by omega) ⟨_, rfl⟩).mono ?_); rintro e w4 ⟨A4, c4, rfl, ho4⟩)
      obtain ⟨g, cap, e, hg1, hg2⟩ := ho4.form (by have := hln.out; omega)
      injection e with e1 e2 e3
      subst e1 e3
      have HO4 := Lib.hid ho4
      have HR4 := Lib.hid (Run.start hs.out hb.out (by have := hln.out; omega))
      clear ho4 e2
      go_loopw [7] (fun v wr => ∃ (cur : List Int) (ps : List Mv), slenV v = ps.length ∧ OwnR intR w3 wr (.slice (some ⟨g, 0, none⟩) n c4) cur ∧ OwnR mvR w3 wr v ps ∧ Run l cur ps M ∧ netF l.length l = ps ++ netF (l.length - ps.length) cur) (fun v _ => n - slenV v)
      case atStart => exact ⟨l, [], rfl, HO4.out, (OwnR.nil w3).keep HO4.out.2, HR4.out, by simp⟩
      case round =>
        clear HO4 HR4
        obtain ⟨cur, ps, hsl, hO, hP, hR, hF⟩ := hrel
        have HO := Lib.hid hO; have HP := Lib.hid hP; have HR := Lib.hid hR; have HF := Lib.hid hF
        have hcl : cur.length = n := by rw [hR.len]; exact hln.out.symm
        have HCN := Lib.hid hcl.symm
        have HI := Lib.hid (hO.recs intOk).1
        obtain ⟨d, hd⟩ : ∃ d, leastI cur = d := ⟨_, rfl⟩
        obtain ⟨c', hc'⟩ : ∃ c', mostI cur = c' := ⟨_, rfl⟩
        have hdn : d < n := by rw [← hd, ← hcl]; exact firstB_lt _ cur _ _ (Nat.le_refl _) (by omega)
        have hcn : c' < n := by rw [← hc', ← hcl]; exact firstB_lt _ cur _ _ (Nat.le_refl _) (by omega)
        have HD := Lib.hid hd; have HC := Lib.hid hc'
        obtain ⟨A7, c7, rfl⟩ := own_slice hP.1
        have hfew := hR.few
        have hbd := hR.bnd d (by have := hln.out; omega)
        have hbc := hR.bnd c' (by have := hln.out; omega)
        have hdi : (d : Int) < (n : Int) := by omega
        have hd0 : (0 : Int) ≤ (d : Int) := by omega
        have hci : (c' : Int) < (n : Int) := by omega
        have hc0 : (0 : Int) ≤ (c' : Int) := by omega
        have HDF : Hid (firstB (fun a b => decide (a < b)) cur cur.length = d) := hd
        have HCF : Hid (firstB (fun a b => decide (b < a)) cur cur.length = c') := hc'
        clear hO hP hR hF hsl hd hc' hcl
        go_upto_region 17 with (first | (go_at_call 30; (with_reducible refine (first_25 cur _ n c4 _ HI.out HCN (by omega) d HDF).mono ?_); rintro e w5 ⟨rfl, hk5⟩) | (go_at_call 30; (with_reducible refine (first_31 cur _ n c4 _ (HI.out.keep hk5) HCN (by omega) c' HCF).mono ?_); rintro e w6 ⟨rfl, hk6⟩))
        have O6 := Lib.hid (HO.out.keep (hk5.trans hk6)); have P6 := Lib.hid (HP.out.keep (hk5.trans hk6))
        have d0 := own_cell O6.out (j := d) (by have := HCN.out; omega)
        have d1 := own_cell O6.out (j := c') (by have := HCN.out; omega)
        clear HO HP HI hk5 hk6
        by_cases hz : at0 cur d = 0 ∧ at0 cur c' = 0
        · have HZ := Lib.hid hz
          have hz1 : (at0 cur d == 0) = true := by simp [hz.1]
          have hz2 : (at0 cur c' == 0) = true := by simp [hz.2]
          clear hz
          go_wp2_with fail
          go_ret2
          refine ⟨A7, c7, ps, ?_, (P6.out.recs mvOk).1, HR.out.ends (net_end (by rw [HD.out]; exact HZ.out.1) (by rw [HC.out]; exact HZ.out.2)), ?_, K3.out.trans P6.out.2⟩
          · rfl
          · rw [HF.out, netF_end (by rw [HD.out, HC.out]; exact HZ.out), List.append_nil]
        · have hbest := net_best HR.out.sum (by have := HCN.out; omega) (by rw [HD.out, HC.out]; exact hz)
          have hstep := HR.out.step hbest
          have hnf := netF_step (f := l.length - ps.length - 1) (by rw [HD.out, HC.out]; exact hz)
          have hnp : netP cur = ⟨d, c', min (- at0 cur d) (at0 cur c')⟩ := by unfold netP; rw [HD.out, HC.out]
          rw [hnp] at hbest hstep hnf
          have h1 := hbest.neg
          have h2 := hbest.pos
          (try dsimp only at h1 h2)
          have hz1 : (at0 cur d == 0) = false := by simp; omega
          have hxw : IntKind.i64.wrap (-(at0 cur d)) = -(at0 cur d) := IntWalk.i64_in _ (by omega)
          obtain ⟨a, ha⟩ : ∃ a, (if at0 cur c' < -(at0 cur d) then at0 cur c' else -(at0 cur d)) = a := ⟨_, rfl⟩
          have ha' : min (-(at0 cur d)) (at0 cur c') = a := by rw [← ha]; split <;> omega
          rw [ha'] at hbest hstep hnf
          clear ha'
          have HS := Lib.hid hstep; have HBS := Lib.hid hbest; have HNF := Lib.hid hnf
          clear hstep hbest hnf hnp hz
          have SOF := Lib.hid (show ∀ X, Keeps w6 X → (fun w' => w'.cell? ⟨g, d, none⟩ = some (.int .i64 (at0 cur d)) ∧ w'.cell? ⟨g, c', none⟩ = some (.int .i64 (at0 cur c')) ∧ Keeps w6 w') X from fun X hX => ⟨cell_keep d0 hX, cell_keep d1 hX, hX⟩)
          go_wp2_with fail
          go_region_held3 (fun w' => w'.cell? ⟨g, d, none⟩ = some (.int .i64 (at0 cur d)) ∧ w'.cell? ⟨g, c', none⟩ = some (.int .i64 (at0 cur c')) ∧ Keeps w6 w') ((refine SOF.out _ ?_; (repeat (first | exact Keeps.refl _ | assumption | apply Keeps.drew | apply Keeps.alloc)); done)) (fail)
          all_goals (
            (try simp only [ha])
            have kA : Keeps w6 (w6.alloc (.cells #[.int .i64 (d : Int), .int .i64 (c' : Int), .int .i64 a] 44)).drew := ((Keeps.refl w6).alloc _).drew
            have bA : Blk (w6.alloc (.cells #[.int .i64 (d : Int), .int .i64 (c' : Int), .int .i64 a] 44)).drew w6.heap.size 44 #[.int .i64 (d : Int), .int .i64 (c' : Int), .int .i64 a] := Blk.new w6 44 _
            have sA : w6.heap.size < (w6.alloc (.cells #[.int .i64 (d : Int), .int .i64 (c' : Int), .int .i64 a] 44)).drew.heap.size := by simp [World.drew]
            clear SOF
            generalize (w6.alloc (.cells #[.int .i64 (d : Int), .int .i64 (c' : Int), .int .i64 a] 44)).drew = W7 at *
            have O7 := Lib.hid ((O6.out.keep kA).keep ((Keeps.refl W7).alloc (.cells #[.int .i64 (d : Int), .int .i64 (c' : Int), .int .i64 a] 44)))
            have P7 := Lib.hid ((P6.out.keep kA).keep ((Keeps.refl W7).alloc (.cells #[.int .i64 (d : Int), .int .i64 (c' : Int), .int .i64 a] 44)))
            have hgl : g < W7.heap.size := Nat.lt_of_lt_of_le (O6.out.1.lt g rfl).2 kA.size
            have hg6 : g < w6.heap.size := (O6.out.1.lt g rfl).2
            have X7 := Lib.hid (RecIn.lit mvOk W7 [(⟨d, c', a⟩ : Mv)] #[.int .i64 (d : Int), .int .i64 (c' : Int), .int .i64 a] rfl)
            have ONE := Lib.hid (show 1 = [(⟨d, c', a⟩ : Mv)].length from rfl)
            have HNE : Hid (∀ b off, 0 < [(⟨d, c', a⟩ : Mv)].length → (some ⟨W7.heap.size, 0, none⟩ : Option Addr) = some ⟨b, off, none⟩ → b ≠ g) := fun b off _ e => by cases e; omega
            have HCP := Lib.hid (can_one hM.2 HR.out HS.out HBS.out)
            have e0 := cell_of_blk bA 0 rfl
            have e1 := cell_of_blk bA 1 rfl
            have e2 := cell_of_blk bA 2 rfl
            have BA := Lib.hid (bA.alloc (.cells #[.int .i64 (d : Int), .int .i64 (c' : Int), .int .i64 a] 44))
            clear d0 d1 kA bA O6 P6
            have L1 := Lib.hid (show ps.length + [(⟨d, c', a⟩ : Mv)].length ≤ 1000000 by have := hln.out; simp; omega)
            have hwz : ∀ k : Nat, (some g : Option Nat) = some k → w3.heap.size ≤ k := fun k e => by cases e; exact (O7.out.1.lt g rfl).1
            go_upto_region 21 with (go_at_call 32; (with_reducible refine (pay_any cur [(⟨d, c', a⟩ : Mv)] g n c4 (some ⟨W7.heap.size, 0, none⟩) 1 1 w3 _ O7.out X7.out ONE (by omega) HNE HCP).mono ?_); rintro e w8 ⟨rfl, ho8, hg8⟩)
            have P8 := Lib.hid (P7.out.grown hg8 (own_other O7.out P7.out (by decide)) hwz)
            have O8 := Lib.hid (show OwnR intR w3 w8 (.slice (some ⟨g, 0, none⟩) n c4) (mvL cur ⟨d, c', a⟩) from ho8)
            have BA8 := BA.out.grown hg8 (show (some w6.heap.size : Option Nat) ≠ some g by simp; omega)
            have e0 := cell_of_blk BA8 0 rfl
            have e1 := cell_of_blk BA8 1 rfl
            have e2 := cell_of_blk BA8 2 rfl
            clear BA BA8 O7 P7 X7 HNE HCP ho8 hg8
            have O9 := Lib.hid (O8.out.keep ((Keeps.refl w8).alloc (.cells #[.int .i64 (d : Int), .int .i64 (c' : Int), .int .i64 a] 44)))
            have P9 := Lib.hid (P8.out.keep ((Keeps.refl w8).alloc (.cells #[.int .i64 (d : Int), .int .i64 (c' : Int), .int .i64 a] 44)))
            have X9 := Lib.hid (RecIn.lit mvOk w8 [(⟨d, c', a⟩ : Mv)] #[.int .i64 (d : Int), .int .i64 (c' : Int), .int .i64 a] rfl)
            clear O8 P8
            go_wp2_with (at_builtin; refine wpList_appR mvOk rfl (.tmp 71) (.tmp 73) rfl (.slice A7 ps.length c7) ps rfl P9.out _ _ _ [(⟨d, c', a⟩ : Mv)] rfl X9.out ONE L1 ?_; intro A10 n10 c10 w10 ho10 hg10; have O10 := Lib.hid (O9.out.grown hg10 (own_back O9.out P9.out (by decide)) (fun k hk => (P9.out.1.lt k hk).1)); have P10 := Lib.hid ho10; clear ho10 hg10 P9 O9 X9)
            go_roundw
            case rel =>
              refine ⟨mvL cur ⟨d, c', a⟩, ps ++ [⟨d, c', a⟩], ?_, O10.out, P10.out, HS.out, ?_⟩
              · exact (P10.out.recs mvOk).2
              · rw [HF.out, show l.length - ps.length = l.length - ps.length - 1 + 1 by have := hln.out; omega, HNF.out, List.append_assoc]
                rw [List.length_append, List.length_singleton, Nat.sub_add_eq]; rfl
            case measure =>
              have := (P10.out.recs mvOk).2
              have hf := HS.out.few
              have hl := hln.out
              rw [List.length_append, List.length_singleton] at this hf
              simp [slenV]; omega)
end Go.Proofs.Ythkmpegpmpdhaaa
