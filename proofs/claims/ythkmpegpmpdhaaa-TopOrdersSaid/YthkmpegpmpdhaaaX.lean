/- Part of the proofs of TopMoney and TopOrders. Conditions: as stated in each theorem. -/
import Derived.Test.YthkmpegpmpdhaaaW
import Derived.Deep.CutRange
import Derived.StillTailTactics
import Derived.Lib.SliceRun
import Derived.RangeFuncRecord
import Derived.Carry
import Derived.ChangeKeysEq
import Derived.Test.YthkmpegpmpdhaaaRows
import Derived.WalkKit
import Derived.WalkSpells
import Derived.WalkLawsBesides
import Derived.Laws.EntriesVeiled
import Derived.ProofKit
import Derived.OpenShut
import Derived.Lib.Hide
import Derived.BigQuiet
import Derived.Deep.QuietTactic
import Derived.Below
import Derived.Laws.OwnMore
import Derived.Deep.AppendLies
import Derived.Deep.Draws
import Derived.Laws.Rows
import Derived.Maps.AppendAt
import Derived.RegionTactic
import Derived.OwnWalk
import Derived.Deep.RegionHeld3
namespace Go.Proofs.Ythkmpegpmpdhaaa
open Go.ChangeShapes Go.WideShapes Go.ChangeAt Go.RowKit
set_option linter.unusedSimpArgs false
set_option linter.unusedVariables false
/-- Numbers that are natural. -/
abbrev natR : RowTy Nat := { T := 3, S := 28, k := 1, by' := 8, enc := fun x => [.int .i64 (x : Int)] }
theorem natOk : RowOk Try.prog natR := ⟨fun _ => rfl, fun x u hu => by simp at hu; subst hu; rfl, Try.underlying28, info_of (z := .int .i64 0) (by kernel_rfl) rfl, by decide, by decide⟩
theorem RecIn.nat {l : List Nat} {w : World} {B : Nat} {A : Option Addr} (h : RecIn natR w B A l) {j : Nat} {x : Nat} (hj : l[j]? = some x) : ∃ b off, A = some ⟨b, off, none⟩ ∧ b < B ∧ w.cell? ⟨b, off + j, none⟩ = some (.int .i64 (x : Int)) := by
  obtain ⟨b, off, e, hb, hc⟩ := h j x hj
  refine ⟨b, off, e, hb, ?_⟩
  have := hc 0 (.int .i64 (x : Int)) rfl
  simpa using this
theorem RecIn.mk_ {l : List Nat} {w : World} {B : Nat} {A : Option Addr} (h : RecIn mkR w B A l) {j : Nat} {x : Nat} (hj : l[j]? = some x) : ∃ b off, A = some ⟨b, off, none⟩ ∧ b < B ∧ w.cell? ⟨b, off + j, none⟩ = some (.int .u32 (x : Int)) := by
  obtain ⟨b, off, e, hb, hc⟩ := h j x hj
  refine ⟨b, off, e, hb, ?_⟩
  have := hc 0 (.int .u32 (x : Int)) rfl
  simpa using this
def andN (m u : Nat) : Nat := m &&& 2 ^ u
theorem and_u32 {m u : Nat} (hm : m < 2 ^ 16) (hu : u < 16) : bits .and .u32 (m : Int) (IntKind.u32.wrap (2 ^ u)) = ((andN m u : Nat) : Int) := by
  rw [pow_u32 hu]
  exact (bits_nat .u32 16 (by decide) wraps_16 m (2 ^ u) hm (pow_lt16 hu)).1
theorem and_u32' {m u : Nat} (hm : m < 2 ^ 16) (hu : u < 16) : bits .and .u32 (m : Int) (2 ^ u % 4294967296) = ((andN m u : Nat) : Int) := by
  have := and_u32 hm hu
  rwa [IntKind.wrap_u32] at this
theorem andNot_u32 {a b : Nat} (ha : a < 2 ^ 16) (hb : b < 2 ^ 16) : bits .andNot .u32 (a : Int) (b : Int) = ((andn a b : Nat) : Int) := by
  rw [u32_andNot_nat a b (by omega) (by omega)]
  congr 1
  refine Nat.eq_of_testBit_eq fun i => ?_
  rw [show (4294967295 - b : Nat) = 2 ^ 32 - (b + 1) by omega]
  simp only [andn, Nat.testBit_and, Nat.testBit_xor]
  rw [Nat.testBit_two_pow_sub_succ (by omega)]
  by_cases h : i < 32
  · simp only [h, decide_true, Bool.true_and]
    cases a.testBit i <;> cases b.testBit i <;> rfl
  · have : a.testBit i = false := Nat.testBit_lt_two_pow (Nat.lt_of_lt_of_le ha (Nat.pow_le_pow_right (by decide) (by omega)))
    rw [this]; rfl
theorem has_yes {m u : Nat} (h : hasB m u = true) : ((((andN m u : Nat) : Int) != 0) : Bool) = true := by
  unfold hasB at h
  unfold andN
  simp at h ⊢
  omega
theorem has_no {m u : Nat} (h : hasB m u = false) : ((((andN m u : Nat) : Int) != 0) : Bool) = false := by
  unfold hasB at h
  unfold andN
  simp at h ⊢
  omega
theorem andn_lt {a b : Nat} (ha : a < 2 ^ 16) : andn a b < 2 ^ 16 := by
  unfold andn
  exact Nat.xor_lt_two_pow ha (Nat.lt_of_le_of_lt Nat.and_le_left ha)
/-- A list of numbers of the call's own. -/
def NatsPost (l : List Nat) (w : World) (e : Ending) (w' : World) : Prop := ∃ A n c, e = .returned (.slice A n c) ∧ Hid (n = l.length) ∧ RecIn natR w' w'.heap.size A l ∧ Keeps w w' ∧ ∀ b off, A = some ⟨b, off, none⟩ → w.heap.size ≤ b
theorem nats_post {l : List Nat} {w w' : World} {A : Option Addr} {n c : Nat} (h : OwnR natR w w' (.slice A n c) l) : NatsPost l w (.returned (.slice A n c)) w' := by
  obtain ⟨h1, h2⟩ := h.recs natOk
  refine ⟨A, n, c, rfl, Lib.hid h2, h1, h.2, fun b off e => ?_⟩
  subst e
  rcases h.1.2 with ⟨e, _⟩ | ⟨g, cap, cur, e, hb, _⟩
  · cases e
  · cases e; exact hb
theorem nats_nil {w w' : World} (h : Keeps w w') : NatsPost [] w (.returned (.slice none 0 0)) w' := ⟨none, 0, 0, rfl, Lib.hid rfl, RecIn.nil _, h, fun b off e => by cases e⟩
def StOk (d : List (List Int)) (s : St) : Prop := s.1 < 2 ^ 16 ∧ (s.2.1 = -1 ∨ isOff d s.2.1) ∧ -1 ≤ s.2.2 ∧ s.2.2 ≤ 1000001
theorem begin_le {d : List (List Int)} {now time : Int} {e : Ev} : -1 ≤ beginF d now time e ∧ beginF d now time e ≤ 1000001 := by
  have hc := clamp_bnd e
  unfold beginF
  simp only
  generalize (if now = -1 then (0 : Int) else dist d now e.o) = far
  split <;> omega
theorem stepU_ok {d : List (List Int)} {us : List Un} {s : St} {u : Nat} (hs : StOk d s) (hu : u < 16) (ho : isOff d (evU us u).o) : StOk d (stepU d us s u) :=
  ⟨Nat.or_lt_two_pow hs.1 (pow_lt16 hu), .inr ho, begin_le.1, begin_le.2⟩
theorem st0_ok (d : List (List Int)) : StOk d st0 := ⟨by decide, .inl rfl, by decide, by decide⟩
set_option maxRecDepth 100000 in
set_option maxHeartbeats 4000000 in
theorem choices_any (d : List (List Int)) (us : List UnC) (f : List Nat) (g : Nat) (dA uA fA : Option Addr) (dc uc fc : Nat) (w : World) (hs : SrIn d us w g dA uA dc uc (.slice fA us.length fc)) (hf : RecIn mkR w w.heap.size fA f) (hM : MasksOk us.length f)
    (hn16 : us.length < 16) (hd : DistOk d) (ho : ∀ u ∈ us, isOff d u.2.1.o) (s : St) (hst : StOk d s) (r : List Nat) (hr : Hid (choF d (plainU us) f s = r)) :
    Calls Try.prog 60 #[.pointer (some ⟨g, 0, none⟩), .agg #[.int .u32 (s.1 : Int), .int .i64 s.2.1], .int .i64 s.2.2] w (NatsPost r w) := by
  obtain ⟨m, now, time⟩ := s
  obtain ⟨hm, hnow, ht0, ht1⟩ := hst
  simp only at hm hnow ht0 ht1 ⊢
  have HS := Lib.hid hs
  have HFI := Lib.hid hf
  have B0 := Lib.hid (Blk.new w 94 #[.int .u32 (m : Int), .int .i64 now])
  have K0 := Lib.hid ((Keeps.refl w).alloc (.cells #[.int .u32 (m : Int), .int .i64 now] 94))
  have O0 := Lib.hid ((OwnR.nil (R := natR) w).keep ((Keeps.refl w).alloc (.cells #[.int .u32 (m : Int), .int .i64 now] 94)))
  have c1 : w.cell? ⟨g, 1, none⟩ = some (.slice uA us.length uc) := hs.blk.cell 1
  have hg := hs.blk.lt
  have PL := Lib.hid (plainU_len us)
  obtain ⟨n, hn⟩ : ∃ n, us.length = n := ⟨_, rfl⟩
  have HN := Lib.hid hn
  have HMK := Lib.hid hM
  have HNOW := Lib.hid hnow
  clear hs hf hM hnow
  rw [hn] at hn16 c1
  clear hn
  go_enter Try.func60, Try.ntmps60
  go_wp2_with fail
  go_loopw [7, 8, 9, 15] (fun v fr _ i wr => ∃ (k : Nat) (l : List Nat) (A : Option Addr) (n1 cc : Nat), k ≤ n ∧ i = .int .i64 (k : Int) ∧ v = .slice A n1 cc ∧ OwnR natR w wr (.slice A n1 cc) l ∧ (choK d (plainU us) f (m, now, time) k).1 = l ∧ fr = .int .i64 (choK d (plainU us) f (m, now, time) k).2 ∧ stuckB d (plainU us) (m, now, time) k = false ∧ Blk wr w.heap.size 94 #[.int .u32 (m : Int), .int .i64 now]) (fun _ _ _ i _ => n - (intOf i).toNat)
  case atStart => exact ⟨0, [], none, 0, 0, by omega, rfl, rfl, O0.out, rfl, rfl, rfl, B0.out⟩
  case round =>
    obtain ⟨k, l, A, n1, cc, hk, rfl, rfl, hO, hl, rfl, hstk, hB⟩ := hrel
    have HO := Lib.hid hO; have HL := Lib.hid hl; have HST := Lib.hid hstk; have HB := Lib.hid hB
    by_cases hkn : k < n
    · have hku : k < us.length := by rw [HN.out]; exact hkn
      obtain ⟨x, hx⟩ : ∃ x, us[k]? = some x := ⟨_, List.getElem?_eq_getElem hku⟩
      have HX := Lib.hid hx
      have HOX := Lib.hid (ho x (List.mem_of_getElem? hx))
      have hev := (plainU_at hx).1
      have HEV := Lib.hid hev
      have hwr : Keeps w wr := hO.2
      have d0 : wr.cell? ⟨w.heap.size, 0, none⟩ = some (.int .u32 (m : Int)) := hB.cell 0
      have d1 : wr.cell? ⟨w.heap.size, 1, none⟩ = some (.int .i64 now) := hB.cell 1
      have hki : (k : Int) < (n : Int) := by omega
      have hk0 : (0 : Int) ≤ (k : Int) := by omega
      have hk16 : k < 16 := by omega
      have hkw : IntKind.i64.wrap ((k : Int) + 1) = (k : Int) + 1 := wrap_in (by omega) (by omega)
      have q1 := and_u32' hm hk16
      have hstep : ∀ R : Prop, True := fun _ => trivial
      have HKW := Lib.hid hwr
      clear hO hl hstk hwr hx hev hstep
      cases hb : hasB m k
      · have q2 := has_no hb
        have HBB := Lib.hid hb
        clear hb
        obtain ⟨bg, hbg⟩ : ∃ bg, beginF d now time x.2.1 = bg := ⟨_, rfl⟩
        have HBG := Lib.hid hbg
        clear hbg
        go_wp2_with fail
        go_quiet (fail)
        (try simp only [q1, q2])
        have HBW := Lib.hid (HB.out.drewN nq)
        have HOW := Lib.hid (HO.out.keep ((Keeps.refl wr).drewN nq))
        have HKW := Lib.hid (HKW.out.drewN nq)
        clear q1 q2
        generalize wr.drewN nq = wq at *
        have d0 : wq.cell? ⟨w.heap.size, 0, none⟩ = some (.int .u32 (m : Int)) := HBW.out.cell 0
        have d1 : wq.cell? ⟨w.heap.size, 1, none⟩ = some (.int .i64 now) := HBW.out.cell 1
        by_cases hneg : bg < 0
        · have E := Lib.hid (show choF d (plainU us) f (m, now, time) = [] by unfold choF; rw [stuck_yes (k := k) (by rw [PL.out]; exact hku) HBB.out (by rw [HEV.out]; show beginF d now time x.2.1 < 0; rw [HBG.out]; exact hneg)]; rfl)
          have t1 : decide (bg < 0) = true := by simpa using hneg
          go_wp2_with (go_at_call 41; (with_reducible refine (begin_any d us g dA _ dc uc _ _ (HS.out.keep HKW.out) hd x k HX.out HOX.out m now time HNOW.out ht0 ht1 _ HBG).mono ?_); rintro e w2 ⟨rfl, hk2⟩; have K2 := Lib.hid (HKW.out.trans hk2); have B2 := Lib.hid (HBW.out.below hk2 HBW.out.lt); have O2 := Lib.hid (HOW.out.keep hk2); clear hk2)
          go_ret
          have hr' := hr.out
          rw [E.out] at hr'
          subst hr'
          exact nats_nil K2.out
        · have t1 : decide (bg < 0) = false := by simpa using hneg
          have HS2 := Lib.hid (stuck_next HST.out (.inr (by rw [HEV.out]; show 0 ≤ beginF d now time x.2.1; rw [HBG.out]; omega)))
          go_wp2_with (go_at_call 41; (with_reducible refine (begin_any d us g dA _ dc uc _ _ (HS.out.keep HKW.out) hd x k HX.out HOX.out m now time HNOW.out ht0 ht1 _ HBG).mono ?_); rintro e w2 ⟨rfl, hk2⟩; have K2 := Lib.hid (HKW.out.trans hk2); have B2 := Lib.hid (HBW.out.below hk2 HBW.out.lt); have O2 := Lib.hid (HOW.out.keep hk2); clear hk2)
          have hfl : k < f.length := by rw [HMK.out.len]; exact hku
          have hfk := List.getElem?_eq_getElem hfl
          generalize f[k] = fk at hfk
          obtain ⟨fb, fo, hfA, hfb, cf⟩ := (HFI.out.keep K2.out).mk_ hfk
          have hfd : f.getD k 0 = fk := by simp [List.getD_eq_getElem?_getD, hfk]
          have c2 : w2.cell? ⟨g, 2, none⟩ = some (.slice fA n fc) := by have := (HS.out.keep K2.out).blk.cell 2; rw [HN.out] at this; exact this
          rw [hfA] at c2
          have d20 : w2.cell? ⟨w.heap.size, 0, none⟩ = some (.int .u32 (m : Int)) := B2.out.cell 0
          have q3 := andNot_u32 (show fk < 2 ^ 16 from hfd ▸ HMK.out.at_ k) hm
          have hki2 : (0 : Int) ≤ (k : Int) ∧ (k : Int) < (n : Int) := ⟨hk0, hki⟩
          have HFD := Lib.hid hfd
          clear hfd hfk
          by_cases hz : andn fk m = 0
          · have q4 : ((((andn fk m : Nat) : Int) == 0) : Bool) = true := by rw [hz]; rfl
            have HZ := Lib.hid hz
            clear hz
            go_quiet (fail)
            (try simp only [q3, q4])
            have B3 := Lib.hid ((B2.out.drewN nq).alloc (.cells #[.int .i64 (k : Int)] 3))
            have O3 := Lib.hid (O2.out.keep (((Keeps.refl w2).drewN nq).alloc (.cells #[.int .i64 (k : Int)] 3)))
            have X3 := Lib.hid (RecIn.lit natOk (w2.drewN nq) [k] #[.int .i64 (k : Int)] rfl)
            have ONE := Lib.hid (show 1 = [k].length from rfl)
            have L1 := Lib.hid (show l.length + [k].length ≤ 1000000 by have := choK_len d (plainU us) f (m, now, time) k; rw [HL.out] at this; simp; omega)
            clear q3 q4 c2 cf d20
            obtain ⟨fz, hfz⟩ : ∃ fz, (choK d (plainU us) f (m, now, time) k).2 = fz := ⟨_, rfl⟩
            rw [hfz]
            obtain ⟨fr1, hfr1⟩ : ∃ fr1, ((x.2.1.o == now) && (beginF d now time x.2.1 == time)) = fr1 := ⟨_, rfl⟩
            have HFR := Lib.hid hfr1
            have hfreeF : freeF d (plainU us) (m, now, time) k = fr1 := by unfold freeF; rw [HEV.out]; exact hfr1
            have hch : choK d (plainU us) f (m, now, time) (k + 1) = (l ++ [k], if fz < 0 ∧ fr1 = true then (k : Int) else fz) := by
              simp only [choK]
              rw [if_neg (by show ¬ hasB m k = true; rw [HBB.out]; simp), HFD.out, if_pos HZ.out, HL.out, hfz, hfreeF]
            have HCH := Lib.hid hch
            clear hfr1 hfreeF hch hfz
            have HC1 := Lib.hid (show (choK d (plainU us) f (m, now, time) (k + 1)).1 = l ++ [k] by rw [HCH.out])
            by_cases hfz0 : fz < 0
            · have t2 : decide (fz < 0) = true := by simpa using hfz0
              cases hfr : fr1
              · rw [hfr] at HCH HFR
                have HC2 := Lib.hid (show (choK d (plainU us) f (m, now, time) (k + 1)).2 = fz by rw [HCH.out]; simp)
                go_wp2_with (first | (at_builtin; refine wpList_appR natOk rfl (.tmp 41) (.tmp 43) rfl (.slice A n1 cc) l rfl O3.out _ _ _ [k] rfl X3.out ONE L1 ?_; intro A4 n4 c4 w4 ho4 hg4; have O4 := Lib.hid ho4; have B4 := Lib.hid (B3.out.grown hg4 (fun e => own_blk_ne O3.out.1 B3.out (by decide) e.symm)); have K4 := Lib.hid ho4.2; have d40 : w4.cell? ⟨w.heap.size, 0, none⟩ = some (.int .u32 (m : Int)) := B4.out.cell 0; have d41 : w4.cell? ⟨w.heap.size, 1, none⟩ = some (.int .i64 now) := B4.out.cell 1; clear ho4 hg4) | (go_at_call 65; (with_reducible refine (free_any d us g dA _ dc uc _ _ (HS.out.keep K4.out) hd x k HX.out HOX.out m now time HNOW.out ht0 ht1 false HFR).mono ?_); rintro e w5 ⟨rfl, hk5⟩; have O5 := Lib.hid (O4.out.keep hk5); have B5 := Lib.hid (B4.out.below hk5 B4.out.lt); clear hk5))
                go_roundw
                case rel => first | exact ⟨k + 1, _, _, _, _, by omega, by go_num, rfl, O5.out, HC1.out, by rw [HC2.out], HS2.out, B5.out⟩ | ((repeat apply Exists.intro); exact ⟨⟨k + 1, _, _, _, _, by omega, by go_num, rfl, O5.out, HC1.out, by rw [HC2.out], HS2.out, B5.out⟩, rfl⟩)
                case measure => simp [intOf]; omega
              · rw [hfr] at HCH HFR
                have HC2 := Lib.hid (show (choK d (plainU us) f (m, now, time) (k + 1)).2 = (k : Int) by rw [HCH.out]; simp [hfz0])
                go_wp2_with (first | (at_builtin; refine wpList_appR natOk rfl (.tmp 41) (.tmp 43) rfl (.slice A n1 cc) l rfl O3.out _ _ _ [k] rfl X3.out ONE L1 ?_; intro A4 n4 c4 w4 ho4 hg4; have O4 := Lib.hid ho4; have B4 := Lib.hid (B3.out.grown hg4 (fun e => own_blk_ne O3.out.1 B3.out (by decide) e.symm)); have K4 := Lib.hid ho4.2; have d40 : w4.cell? ⟨w.heap.size, 0, none⟩ = some (.int .u32 (m : Int)) := B4.out.cell 0; have d41 : w4.cell? ⟨w.heap.size, 1, none⟩ = some (.int .i64 now) := B4.out.cell 1; clear ho4 hg4) | (go_at_call 65; (with_reducible refine (free_any d us g dA _ dc uc _ _ (HS.out.keep K4.out) hd x k HX.out HOX.out m now time HNOW.out ht0 ht1 true HFR).mono ?_); rintro e w5 ⟨rfl, hk5⟩; have O5 := Lib.hid (O4.out.keep hk5); have B5 := Lib.hid (B4.out.below hk5 B4.out.lt); clear hk5))
                go_roundw
                case rel => first | exact ⟨k + 1, _, _, _, _, by omega, by go_num, rfl, O5.out, HC1.out, by rw [HC2.out], HS2.out, B5.out⟩ | ((repeat apply Exists.intro); exact ⟨⟨k + 1, _, _, _, _, by omega, by go_num, rfl, O5.out, HC1.out, by rw [HC2.out], HS2.out, B5.out⟩, rfl⟩)
                case measure => simp [intOf]; omega
            · have t2 : decide (fz < 0) = false := by simpa using hfz0
              have HC2 := Lib.hid (show (choK d (plainU us) f (m, now, time) (k + 1)).2 = fz by rw [HCH.out]; simp [hfz0])
              go_wp2_with (at_builtin; refine wpList_appR natOk rfl (.tmp 41) (.tmp 43) rfl (.slice A n1 cc) l rfl O3.out _ _ _ [k] rfl X3.out ONE L1 ?_; intro A4 n4 c4 w4 ho4 hg4; have O4 := Lib.hid ho4; have B4 := Lib.hid (B3.out.grown hg4 (fun e => own_blk_ne O3.out.1 B3.out (by decide) e.symm)); have K4 := Lib.hid ho4.2; have d40 : w4.cell? ⟨w.heap.size, 0, none⟩ = some (.int .u32 (m : Int)) := B4.out.cell 0; have d41 : w4.cell? ⟨w.heap.size, 1, none⟩ = some (.int .i64 now) := B4.out.cell 1; clear ho4 hg4)
              go_roundw
              case rel => first | exact ⟨k + 1, _, _, _, _, by omega, by go_num, rfl, O4.out, HC1.out, by rw [HC2.out], HS2.out, B4.out⟩ | ((repeat apply Exists.intro); exact ⟨⟨k + 1, _, _, _, _, by omega, by go_num, rfl, O4.out, HC1.out, by rw [HC2.out], HS2.out, B4.out⟩, rfl⟩)
              case measure => simp [intOf]; omega
          · have q4 : ((((andn fk m : Nat) : Int) == 0) : Bool) = false := by simp; omega
            have hch : choK d (plainU us) f (m, now, time) (k + 1) = choK d (plainU us) f (m, now, time) k := by
              simp only [choK]
              rw [if_neg (by show ¬ hasB m k = true; rw [HBB.out]; simp), HFD.out, if_neg hz]
            have HC1 := Lib.hid (show (choK d (plainU us) f (m, now, time) (k + 1)).1 = l by rw [hch, HL.out])
            have HC2 := Lib.hid (show (choK d (plainU us) f (m, now, time) (k + 1)).2 = (choK d (plainU us) f (m, now, time) k).2 by rw [hch])
            clear hch hz
            go_quiet (fail)
            (try simp only [q3, q4])
            have B3 := Lib.hid (B2.out.drewN nq)
            have O3 := Lib.hid (O2.out.keep ((Keeps.refl w2).drewN nq))
            clear q3 q4 c2 cf d20
            go_wp2_with fail
            go_roundw
            case rel => first | exact ⟨k + 1, _, _, _, _, by omega, by go_num, rfl, O3.out, HC1.out, by rw [HC2.out], HS2.out, B3.out⟩ | ((repeat apply Exists.intro); exact ⟨⟨k + 1, _, _, _, _, by omega, by go_num, rfl, O3.out, HC1.out, by rw [HC2.out], HS2.out, B3.out⟩, rfl⟩)
            case measure => simp [intOf]; omega
      · have q2 := has_yes hb
        have HBB := Lib.hid hb
        have hch : choK d (plainU us) f (m, now, time) (k + 1) = choK d (plainU us) f (m, now, time) k := by
          simp only [choK]
          rw [if_pos (show hasB m k = true from hb)]
        have HC1 := Lib.hid (show (choK d (plainU us) f (m, now, time) (k + 1)).1 = l by rw [hch, HL.out])
        have HC2 := Lib.hid (show (choK d (plainU us) f (m, now, time) (k + 1)).2 = (choK d (plainU us) f (m, now, time) k).2 by rw [hch])
        have HS2 := Lib.hid (stuck_next HST.out (.inl hb))
        clear hb hch
        go_wp2_with fail
        go_quiet (fail)
        (try simp only [q1, q2])
        have HBW := Lib.hid (HB.out.drewN nq)
        have HOW := Lib.hid (HO.out.keep ((Keeps.refl wr).drewN nq))
        clear q1 q2
        go_wp2_with fail
        go_roundw
        case rel => first | exact ⟨k + 1, _, _, _, _, by omega, by go_num, rfl, HOW.out, HC1.out, by rw [HC2.out], HS2.out, HBW.out⟩ | ((repeat apply Exists.intro); exact ⟨⟨k + 1, _, _, _, _, by omega, by go_num, rfl, HOW.out, HC1.out, by rw [HC2.out], HS2.out, HBW.out⟩, rfl⟩)
        case measure => simp [intOf]; omega
    · have hkn' : k = n := by omega
      have hstk' : stuckB d (plainU us) (m, now, time) (plainU us).length = false := by rw [PL.out, HN.out, ← hkn']; exact HST.out
      obtain ⟨fz, hfz⟩ : ∃ fz, (choK d (plainU us) f (m, now, time) k).2 = fz := ⟨_, rfl⟩
      have hch : choF d (plainU us) f (m, now, time) = if 0 ≤ fz then [fz.toNat] else l := by
        unfold choF
        rw [hstk', PL.out, HN.out, ← hkn']
        simp only [hfz, HL.out]
        simp
      rw [hfz]
      have HCH := Lib.hid (hr.out.symm.trans hch)
      clear hch hstk' hfz hB hO hl hstk
      by_cases h0 : 0 ≤ fz
      · have t3 : decide (0 ≤ fz) = true := by simpa using h0
        have hfn : ((fz.toNat : Nat) : Int) = fz := by omega
        have X3 := Lib.hid (RecIn.lit natOk wr [fz.toNat] #[.int .i64 fz] (by simp [recCells, hfn]))
        go_wp2_with fail
        go_ret
        rw [HCH.out, if_pos h0]
        exact ⟨_, _, _, rfl, Lib.hid rfl, X3.out, HO.out.2.alloc _, fun b off e => by cases e; exact HO.out.2.size⟩
      · have t3 : decide (0 ≤ fz) = false := by simpa using h0
        go_wp2_with fail
        go_ret
        rw [HCH.out, if_neg (by omega)]
        exact nats_post HO.out
end Go.Proofs.Ythkmpegpmpdhaaa
