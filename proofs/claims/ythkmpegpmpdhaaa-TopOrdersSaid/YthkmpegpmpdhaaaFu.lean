/- Part of the proofs of TopMoney and TopOrders. Conditions: as stated in each theorem. -/
import Derived.Test.YthkmpegpmpdhaaaFb
import Derived.Deep.CutRange
import Derived.StillTailTactics
import Derived.Lib.SliceRun
import Derived.RangeFuncRecord
import Derived.Carry
import Derived.ChangeKeysEq
import Derived.Test.YthkmpegpmpdhaaaRows
import Derived.WalkKit
import Derived.WalkSpells
import Derived.WalkLawsBesides
import Derived.Laws.EntriesVeiled
import Derived.ProofKit
import Derived.OpenShut
import Derived.Lib.Hide
import Derived.BigQuiet
import Derived.Deep.QuietTactic
import Derived.Below
import Derived.Laws.OwnMore
import Derived.Deep.AppendLies
import Derived.Deep.Draws
import Derived.Laws.Rows
import Derived.Maps.AppendAt
import Derived.RegionTactic
import Derived.OwnWalk
import Derived.Deep.RegionHeld3
namespace Go.Proofs.Ythkmpegpmpdhaaa
open Go.ChangeShapes Go.WideShapes Go.ChangeAt Go.RowKit
set_option linter.unusedSimpArgs false
set_option linter.unusedVariables false
def anN (m u : Nat) : Nat := andn m (2 ^ u)
theorem andNot_pow {m u : Nat} (hm : m < 2 ^ 16) (hu : u < 16) : bits .andNot .u32 (m : Int) (IntKind.u32.wrap (2 ^ u)) = ((anN m u : Nat) : Int) := by
  rw [pow_u32 hu]
  exact andNot_u32 hm (pow_lt16 hu)
theorem set_drop {l : List Nat} {j u : Nat} (h : j < l.length) : (l.set j u).drop j = [u] ++ l.drop (j + 1) := by
  rw [List.drop_eq_getElem_cons (by simpa using h), List.drop_set_of_lt (by omega)]
  simp
theorem OwnR.putNat {w0 w : World} {g n cap : Nat} {l : List Nat} (h : OwnR natR w0 w (.slice (some ⟨g, 0, none⟩) n cap) l) {j y : Nat} (hj : j < l.length) : OwnR natR w0 (w.setCell ⟨g, j, none⟩ (.int .i64 (y : Int))) (.slice (some ⟨g, 0, none⟩) n cap) (l.set j y) := by
  have := OwnR.put (R := natR) (fun _ => rfl) h (j := j) (i := 0) (x := l[j]) (x' := y) (u := .int .i64 (y : Int)) (List.getElem?_eq_getElem hj) (by decide) rfl
  simpa using this
theorem OwnR.cellNat {w0 w : World} {g n cap : Nat} {l : List Nat} (h : OwnR natR w0 w (.slice (some ⟨g, 0, none⟩) n cap) l) {j : Nat} (hj : j < l.length) : w.cell? ⟨g, j, none⟩ = some (.int .i64 ((l.getD j 0 : Nat) : Int)) := by
  obtain ⟨b, off, e, _, hc⟩ := (h.recs natOk).1.nat (List.getElem?_eq_getElem hj)
  cases e
  rw [Nat.zero_add] at hc
  simpa [List.getD_eq_getElem?_getD, hj] using hc
theorem RowG.base_le {α : Type} {R : RowTy α} {base base' : Nat} {w : World} {v : Value} {l : List α} (h : RowG R base w v l) (hb : base' ≤ base) : RowG R base' w v l := by
  refine ⟨h.1, ?_⟩
  rcases h.2 with h2 | ⟨g, cap, cur, e, hbg, hr⟩
  · exact .inl h2
  · exact .inr ⟨g, cap, cur, e, Nat.le_trans hb hbg, hr⟩
theorem field_125 (a b c : Int) (W : World) : (Instr.field 125 (.agg #[.int .i64 a, .int .i64 b, .int .i64 c]) 0).run Try.prog W = .ok (.int .i64 a) W := by kernel_rfl
/-- An order of the units, or none. -/
def FullPost (d : List (List Int)) (us : List UnC) (w : World) (e : Ending) (w' : World) : Prop :=
  ∃ o, FindPost o w e w' ∧ ∀ l, o = some l → okP d (plainU us) l ∧ l.length = us.length
set_option maxRecDepth 100000 in
set_option maxHeartbeats 8000000 in
theorem full_any (d : List (List Int)) (us : List UnC) (f : List Nat) (g : Nat) (dA uA fA : Option Addr) (dc uc fc : Nat) (w : World) (hs : SrIn d us w g dA uA dc uc (.slice fA us.length fc)) (hf : RecIn mkR w w.heap.size fA f) (hM : MasksOk us.length f)
    (hn16 : us.length < 16) (hd : DistOk d) (hd12 : d.length ≤ 12) (ho : ∀ u ∈ us, isOff d u.2.1.o) :
    Calls Try.prog 40 #[.pointer (some ⟨g, 0, none⟩)] w (FullPost d us w) := by
  have c1 : w.cell? ⟨g, 1, none⟩ = some (.slice uA us.length uc) := hs.blk.cell 1
  have hg := hs.blk.lt
  have HS := Lib.hid hs
  have HFI := Lib.hid hf
  have HMK := Lib.hid hM
  have HO1 := Lib.hid ho
  have PL := Lib.hid (plainU_len us)
  have ms := meth_span
  have hfd := field_125
  have hmm := @run_makeMap Try.prog
  have B0 := Lib.hid (Blk.new w 94 #[.int .u32 0, .int .i64 (-1)])
  have M0 := Lib.hid (BestIs.made (w.alloc (.cells #[.int .u32 0, .int .i64 (-1)] 94)))
  have K0 := Lib.hid (((Keeps.refl w).alloc (.cells #[.int .u32 0, .int .i64 (-1)] 94)).alloc (.map #[] 0))
  obtain ⟨n, hn⟩ : ∃ n, us.length = n := ⟨_, rfl⟩
  have HN := Lib.hid hn
  have HN16 := Lib.hid hn16
  clear hs hf hM ho
  rw [hn] at c1 hn16
  clear hn
  obtain ⟨W1, hp1, hm1, hg1⟩ := M0.out.put 0 (-1) 0 0 0
  rw [World.size_alloc] at hp1 hm1 hg1
  replace hp1 : (Instr.mapUpdate 126 (.map (some (w.heap.size + 1))) (.agg #[.int .u32 0, .int .i64 (-1)]) (.agg #[.int .i64 0, .int .i64 0, .int .i64 0])).run Try.prog ((w.alloc (.cells #[.int .u32 0, .int .i64 (-1)] 94)).alloc (.map #[] 0)) = .ok () W1 := hp1
  have hB1 := (B0.out.alloc (.map #[] 0)).grown hg1 (by simp)
  have hK1 : Keeps w W1 := grown_keeps K0.out hg1 (fun k e => by cases e; omega)
  have d0 : W1.cell? ⟨w.heap.size, 0, none⟩ = some (.int .u32 0) := hB1.cell 0
  have d1 : W1.cell? ⟨w.heap.size, 1, none⟩ = some (.int .i64 (-1)) := hB1.cell 1
  have HP1 := Lib.hid hm1; have K1 := Lib.hid hK1
  clear hm1 hg1 hB1 hK1
  have hgW : g < W1.heap.size := Nat.lt_of_lt_of_le hg K1.out.size
  have hcell1 : W1.cell? ⟨g, 1, none⟩ = some (.slice uA n uc) := cell_keep c1 K1.out
  go_enter Try.func40, Try.ntmps40
  go_upto_region 5 with fail
  have X2 := Lib.hid (RowG.lit (R := ksR) (base := w.heap.size) K1.out.size [((0, -1) : Ks)] #[.int .u32 0, .int .i64 (-1)] rfl (fun _ => rfl) (by unfold maxLen; simp))
  have K2 := Lib.hid (K1.out.alloc (.cells #[.int .u32 0, .int .i64 (-1)] 94))
  have P2 := Lib.hid (HP1.out.keep ((Keeps.refl W1).alloc (.cells #[.int .u32 0, .int .i64 (-1)] 94)))
  clear hmm d0 d1 hp1 B0 M0 K0 HP1 K1 hcell1
  generalize hW2 : W1.alloc (.cells #[.int .u32 0, .int .i64 (-1)] 94) = W2 at *
  clear hW2
  have c1w := c1
  have F0 := Lib.hid (FI.first d (plainU us))
  have L0 := Lib.hid (show LvOk d (plainU us) 0 (fun k => if k = (0, -1) then some (0, 0, 0) else none) [((0, -1) : Ks)] from ⟨fun k hk => by simp at hk; subst hk; exact ⟨⟨Nat.two_pow_pos _, .inl rfl⟩, cntB_zero _, by simp⟩, by simp⟩)
  go_loopw [6, 33] (fun v c wr => ∃ (r : Nat) (L : List Ks) (G : Ks → Option (Int × Nat × Int)) (A : Option Addr) (n1 cc : Nat), r ≤ n ∧ c = .int .i64 (r : Int) ∧ v = .slice A n1 cc ∧ RowG ksR w.heap.size wr (.slice A n1 cc) L ∧ Keeps w wr ∧ BestIs wr (w.heap.size + 1) G ∧ FI d (plainU us) r G ∧ LvOk d (plainU us) r G L) (fun _ c _ => n - (intOf c).toNat)
  case atStart => exact ⟨0, _, _, _, 1, 1, by omega, rfl, rfl, X2.out, K2.out, P2.out, F0.out, L0.out⟩
  case round =>
    clear X2 K2 P2 F0 L0
    obtain ⟨r, L, G, A, n1, cc, hr, rfl, rfl, hX, hK, hP, hFI, hLv⟩ := hrel
    have X := Lib.hid hX; have K := Lib.hid hK; have BP := Lib.hid hP; have FIr := Lib.hid hFI; have LV := Lib.hid hLv
    clear hX hK hP hFI hLv
    by_cases hrn : r < n
    · have hri : (r : Int) < (n : Int) := by omega
      have hr0 : (0 : Int) ≤ (r : Int) := by omega
      have hrw : IntKind.i64.wrap ((r : Int) + 1) = (r : Int) + 1 := wrap_in (by omega) (by omega)
      obtain ⟨hlev, hn1⟩ := X.out.recs ksOk
      have hfew := LV.out.few (by rw [PL.out]; exact HN16.out) hd12
      have HN1 := Lib.hid hn1
      rw [← hn1] at hfew
      have hmid : Mid wr (w.heap.size + 1) A L wr (.slice none 0 0) [] G := ⟨RowG.nil _ _, World.grownBy.refl _ _, BP.out, hlev, fun b off e hl => ⟨by subst e; exact hlev.blkLt hl, fun e2 => by have h1 := (X.out.at_ e).1; have h2 := BP.out.ne X.out; rw [h1] at h2; exact h2 (by rw [e2])⟩⟩
      have M0 := Lib.hid hmid
      have A0 := Lib.hid (show Alg d (plainU us) r L [] G from ⟨FIr.out.more (by omega), LvOk.nil _ _ _ _, LV.out⟩)
      have HNP := Lib.hid hr
      clear hlev hn1 hmid hr
      go_wp2_with fail
      go_loopw [7, 37] (fun v c wq => ∃ (p : Nat) (N : List Ks) (G' : Ks → Option (Int × Nat × Int)) (A2 : Option Addr) (n2 c2 : Nat), p ≤ n1 ∧ c = .int .i64 (p : Int) ∧ v = .slice A2 n2 c2 ∧ Mid wr (w.heap.size + 1) A L wq (.slice A2 n2 c2) N G' ∧ Alg d (plainU us) r L N G') (fun _ c _ => n1 - (intOf c).toNat)
      case atStart => exact ⟨0, [], G, none, 0, 0, by omega, rfl, rfl, M0.out, A0.out⟩
      case round =>
        clear M0 A0
        obtain ⟨p, N, G', A2, n2, c2, hp, rfl, rfl, hM, hA⟩ := hrel
        have M := Lib.hid hM; have AL := Lib.hid hA
        clear hM hA
        by_cases hpn : p < n1
        · have hpi : (p : Int) < (n1 : Int) := by omega
          have hp0 : (0 : Int) ≤ (p : Int) := by omega
          have hpw : IntKind.i64.wrap ((p : Int) + 1) = (p : Int) + 1 := wrap_in (by omega) (by omega)
          obtain ⟨⟨m, now⟩, hk0⟩ : ∃ k, L[p]? = some k := ⟨_, List.getElem?_eq_getElem (by rw [← HN1.out]; exact hpn)⟩
          have hkL := List.mem_of_getElem? hk0
          obtain ⟨lb, lo, hAe, hlb, hlc⟩ := M.out.lev p _ hk0
          have l0 := hlc 0 (.int .u32 (m : Int)) rfl
          have l1 := hlc 1 (.int .i64 now) rfl
          obtain ⟨⟨hmlt, hnow⟩, hcnt, hsome⟩ := AL.out.lvL.ok _ hkL
          simp only at hmlt hnow hcnt
          obtain ⟨⟨t0, u0, o0⟩, hG⟩ := Option.isSome_iff_exists.1 hsome
          have htb := AL.out.fi.time hG
          have HG := Lib.hid hG
          have HKL := Lib.hid hkL
          have HNOW := Lib.hid hnow
          subst hAe
          replace l0 : wr.cell? ⟨lb, lo + p * 2, none⟩ = some (.int .u32 (m : Int)) := l0
          replace l1 : wr.cell? ⟨lb, lo + p * 2 + 1, none⟩ = some (.int .i64 now) := l1
          have kA : Keeps wr (wr.alloc (.cells #[.int .u32 (m : Int), .int .i64 now] 94)) := (Keeps.refl wr).alloc _
          have hlk := (M.out.best.keep kA).look m now hG
          have M3 := Lib.hid (M.out.keep kA)
          have B3 := Lib.hid (Blk.new wr 94 #[.int .u32 (m : Int), .int .i64 now])
          have K3 := Lib.hid ((grown_keeps K.out M.out.grw (fun k e => by cases e; omega)).trans kA)
          have hm16 : m < 2 ^ 16 := Nat.lt_of_lt_of_le hmlt (Nat.pow_le_pow_right (by decide) (by rw [PL.out]; have := HN16.out; omega))
          have HSO := Lib.hid (show StOk d (m, now, t0) from ⟨hm16, hnow, htb.1, htb.2⟩)
          obtain ⟨cl, hcl⟩ : ∃ cl, choF d (plainU us) f (m, now, t0) = cl := ⟨_, rfl⟩
          have HCL := Lib.hid hcl
          have HCNT := Lib.hid hcnt
          have hRw : w.heap.size + 1 < wr.heap.size := M.out.best.lt
          have hsz3 : (wr.alloc (.cells #[.int .u32 (m : Int), .int .i64 now] 94)).heap.size = wr.heap.size + 1 := by simp
          clear hlc hk0 hkL hcl hcnt hsome hG kA hmlt hnow
          go_upto_region 12 with (go_at_call 60; (with_reducible refine (choices_is d us f g dA uA fA dc uc fc _ (HS.out.keep K3.out) (HFI.out.keep K3.out) HMK.out HN16.out hd HO1.out m now t0 HSO.out cl HCL).mono ?_); rintro e w4 ⟨Ac, n4, c4, rfl, hn4, hr4, hk4, hfr4⟩; have HN4 := Lib.hid hn4.out; have I4 := Lib.hid (show Inn _ (w.heap.size + 1) _ L wr.heap.size m now Ac cl w4 (.slice A2 n2 c2) N G' from ⟨M3.out.keep hk4, B3.out.below hk4 B3.out.lt, ⟨fun e => by have := (own_lt M.out.row e).2; omega, by omega⟩, hr4, fun b off e hl => ⟨fun e2 => by have := hfr4 b off e; have := (own_lt M.out.row e2).2; omega, by have := hfr4 b off e; omega⟩⟩); clear hr4 hk4 hfr4 hn4)
          go_loopw [7, 50] (fun v c wq => ∃ (q : Nat) (N3 : List Ks) (G3 : Ks → Option (Int × Nat × Int)) (A3 : Option Addr) (n3 c3 : Nat), q ≤ n4 ∧ c = .int .i64 (q : Int) ∧ v = .slice A3 n3 c3 ∧ Inn _ (w.heap.size + 1) _ L wr.heap.size m now Ac cl wq (.slice A3 n3 c3) N3 G3 ∧ Alg d (plainU us) r L N3 G3 ∧ G3 (m, now) = some (t0, u0, o0)) (fun _ c _ => n4 - (intOf c).toNat)
          case atStart => exact ⟨0, N, G', A2, n2, c2, by omega, rfl, rfl, I4.out, AL.out, HG.out⟩
          case round =>
            clear I4 AL HG
            obtain ⟨q, N3, G3, A3, n3, c3, hq, rfl, rfl, hI, hA, hG3⟩ := hrel
            have IQ := Lib.hid hI; have AL := Lib.hid hA; have HG := Lib.hid hG3
            clear hI hA hG3
            by_cases hqn : q < n4
            · have hqi : (q : Int) < (n4 : Int) := by omega
              have hq0 : (0 : Int) ≤ (q : Int) := by omega
              have hqw : IntKind.i64.wrap ((q : Int) + 1) = (q : Int) + 1 := wrap_in (by omega) (by have := HN4.out; have := cho_len d (plainU us) f (m, now, t0); rw [HCL.out, PL.out] at this; have := HN16.out; omega)
              obtain ⟨u, hu⟩ : ∃ u, cl[q]? = some u := ⟨_, List.getElem?_eq_getElem (by rw [← HN4.out]; exact hqn)⟩
              have hux : okU d (plainU us) (m, now, t0) u := cho_ok (f := f) (by rw [HCL.out]; exact List.mem_of_getElem? hu)
              have hun : u < us.length := by have := hux.1; rwa [PL.out] at this
              obtain ⟨x, hx⟩ : ∃ x, us[u]? = some x := ⟨_, List.getElem?_eq_getElem hun⟩
              obtain ⟨ab, ao, hAc, hab, cu⟩ := IQ.out.cho.nat hu
              subst hAc
              have d0 : wr.cell? ⟨_, 0, none⟩ = some (.int .u32 (m : Int)) := IQ.out.box.cell 0
              have d1 : wr.cell? ⟨_, 1, none⟩ = some (.int .i64 now) := IQ.out.box.cell 1
              have KQ := Lib.hid (grown_keeps K.out IQ.out.mid.grw (fun k e => by cases e; omega))
              have HX := Lib.hid hx
              have HUX := Lib.hid hux
              have HOX := Lib.hid (HO1.out x (List.mem_of_getElem? hx))
              have HEV := Lib.hid (plainU_at hx).1
              have hu16 : u < 16 := by have := HN16.out; omega
              have hub := IQ.out.box.lt
              clear hu hux hx
              go_upto_region 15 with (go_at_call 42; (with_reducible refine (after_any d us g dA uA dc uc _ _ (HS.out.keep KQ.out) x u HX.out m now hm16 hu16).mono ?_); rintro e w5 ⟨rfl, hk5⟩; have I5 := Lib.hid (IQ.out.keep hk5); have K5 := Lib.hid (KQ.out.trans hk5); have S5 := Lib.hid hk5.size; clear hk5)
              have k6 : Keeps w5 (w5.alloc (.cells #[.int .u32 ((orN m u : Nat) : Int), .int .i64 x.2.1.o] 94)) := (Keeps.refl w5).alloc _
              have I6 := Lib.hid (I5.out.keep k6)
              have K6 := Lib.hid (K5.out.trans k6)
              have B6 := Lib.hid (Blk.new w5 94 #[.int .u32 ((orN m u : Nat) : Int), .int .i64 x.2.1.o])
              have NE5 := Lib.hid (show (Value.slice A3 n3 c3).ownBlock ≠ some w5.heap.size from fun e => by have := (own_lt I5.out.mid.row e).2; omega)
              clear k6 d0 d1 cu
              generalize w5.alloc (.cells #[.int .u32 ((orN m u : Nat) : Int), .int .i64 x.2.1.o] 94) = W6 at *
              obtain ⟨ub, uo, huA, hub2, _, _, F⟩ := HS.out.reads HX.out
              clear huA
              obtain ⟨_, e1, _, eu⟩ := F W6 K6.out
              have hsz := K6.out.size
              have a0 := After.cell (show W6.cell? ⟨_, 0, none⟩ = some (.int .u32 (m : Int)) from I6.out.box.cell 0) I6.out.box.lt
              have a1 := After.cell (show W6.cell? ⟨_, 1, none⟩ = some (.int .i64 now) from I6.out.box.cell 1) I6.out.box.lt
              have ae1 := After.cell e1 (by show g < W6.heap.size; omega)
              have aeu := After.cell eu (by show ub < W6.heap.size; omega)
              rw [HN.out] at ae1
              have hu0 : (0 : Int) ≤ (u : Int) ∧ (u : Int) < (n : Int) := ⟨by omega, by rw [← HN.out]; omega⟩
              obtain ⟨ht0, ht1⟩ := htb
              have S6 := Lib.hid (HS.out.keep K6.out)
              have hbl := begin_le (d := d) (now := now) (time := t0) (e := x.2.1)
              obtain ⟨bg, hbg⟩ : ∃ bg, beginF d now t0 x.2.1 = bg := ⟨_, rfl⟩
              rw [hbg] at hbl
              have HBG := Lib.hid hbg
              have hbw : IntKind.i64.wrap bg = bg := wrap_in (by omega) (by omega)
              have hlt5 := I5.out.box.lt
              clear F e1 eu hbl hbg
              refine wp_region_after (by kernel_rfl) (by kernel_rfl) ?_
              repeat (go_big_quiet_step ((first | (go_at_call 41; with_reducible exact after_call (begin_any d us g dA uA dc uc _ _ (S6.out.keep (After.ok _)) hd x u HX.out HOX.out m now t0 HNOW.out ht0 ht1 bg HBG)) | (go_at_call 96; with_reducible exact after_call (span_any x _)))))
              refine wpQuiet_nil ?_
              intro W7 hw'
              obtain ⟨X1, hX1⟩ := hw'
              have hk7 := X1.ok
              rw [← hX1] at hk7
              clear hX1 X1 a0 a1 ae1 aeu
              have I7 := Lib.hid (I6.out.keep hk7)
              have K7 := Lib.hid (K6.out.trans hk7)
              have B7 := Lib.hid (B6.out.below hk7 B6.out.lt)
              have b0 : W7.cell? ⟨_, 0, none⟩ = some (.int .u32 ((orN m u : Nat) : Int)) := B7.out.cell 0
              have b1 : W7.cell? ⟨_, 1, none⟩ = some (.int .i64 x.2.1.o) := B7.out.cell 1
              have hl2 := I7.out.mid.best.look2 (orN m u) x.2.1.o
              clear I6 K6 B6 S6 hk7 I5
              have hcn := (AL.out.fi.put HG.out ((AL.out.lvL.ok _ HKL.out).2.1) HUX.out).2
              have HGN := Lib.hid (fun (v' : Int × Nat × Int) => put_same (k0 := (orN m u, x.2.1.o)) (v' := v') HG.out HCNT.out hcn)
              clear hcn
              cases hgk : G3 (orN m u, x.2.1.o) with
              | none =>
                rw [hgk] at hl2
                simp only [Option.map_none, Option.getD_none, Option.isSome_none] at hl2
                have HAN : Hid (Alg d (plainU us) r L (N3 ++ [((orN m u, x.2.1.o) : Ks)]) (fun k => if k = (orN m u, x.2.1.o) then some (bg, u, now) else G3 k)) := Lib.hid (by
                  have h := AL.out.new HKL.out HG.out HUX.out (by rw [HEV.out]; exact HOX.out) (by rw [HEV.out]; exact hgk)
                  rw [HEV.out, show beginF d (m, now).2 t0 x.2.1 = bg from HBG.out] at h
                  exact h)
                have L1 := Lib.hid (show N3.length + [((orN m u, x.2.1.o) : Ks)].length ≤ 1000000 by have := AL.out.lv.few (by rw [PL.out]; exact HN16.out) hd12; simp; omega)
                have ONE := Lib.hid (show 1 = [((orN m u, x.2.1.o) : Ks)].length from rfl)
                clear hgk
                go_upto_region 17 with fail
                have k8 : Keeps W7 (W7.alloc (.cells #[.int .i64 0, .int .i64 0, .int .i64 0] 125)) := (Keeps.refl W7).alloc _
                have I8 := Lib.hid (I7.out.keep k8)
                have B8 := Lib.hid (B7.out.below k8 B7.out.lt)
                clear hl2 b0 b1 k8 I7 B7
                generalize W7.alloc (.cells #[.int .i64 0, .int .i64 0, .int .i64 0] 125) = W8 at *
                have b0 : W8.cell? ⟨_, 0, none⟩ = some (.int .u32 ((orN m u : Nat) : Int)) := B8.out.cell 0
                have b1 : W8.cell? ⟨_, 1, none⟩ = some (.int .i64 x.2.1.o) := B8.out.cell 1
                have I9 := Lib.hid (I8.out.keep ((Keeps.refl W8).alloc (.cells #[.int .u32 ((orN m u : Nat) : Int), .int .i64 x.2.1.o] 94)))
                have B9 := Lib.hid (B8.out.alloc (.cells #[.int .u32 ((orN m u : Nat) : Int), .int .i64 x.2.1.o] 94))
                have X9 := Lib.hid (RecIn.lit ksOk W8 [((orN m u, x.2.1.o) : Ks)] #[.int .u32 ((orN m u : Nat) : Int), .int .i64 x.2.1.o] rfl)
                go_wp2_with (at_builtin; refine wpList_appG ksOk (base := _) rfl (.tmp 80) (.tmp 82) rfl (.slice A3 n3 c3) N3 rfl I9.out.mid.row I9.out.mid.grw.size _ _ _ [((orN m u, x.2.1.o) : Ks)] rfl X9.out ONE L1 ?_; intro A10 n10 c10 w10 ho10 hg10 hat10; have I10 := Lib.hid (I9.out.app ho10 hg10 hat10); have B10 := Lib.hid (B9.out.grown hg10 (fun e => NE5.out e.symm)); have b0 : w10.cell? ⟨_, 0, none⟩ = some (.int .u32 ((orN m u : Nat) : Int)) := B10.out.cell 0; have b1 : w10.cell? ⟨_, 1, none⟩ = some (.int .i64 x.2.1.o) := B10.out.cell 1; have d1 : w10.cell? ⟨_, 1, none⟩ = some (.int .i64 now) := I10.out.box.cell 1; obtain ⟨W11, hp11, hb11, hg11⟩ := I10.out.mid.best.put (orN m u) x.2.1.o bg u now; have I11 := Lib.hid (I10.out.put hb11 hg11); clear ho10 hg10 hat10 hb11 hg11)
                go_roundw
                case rel => first | exact ⟨q + 1, _, _, _, _, _, by omega, by go_num, rfl, I11.out, HAN.out, HGN.out _⟩ | ((repeat apply Exists.intro); exact ⟨⟨q + 1, _, _, _, _, _, by omega, by go_num, rfl, I11.out, HAN.out, HGN.out _⟩, rfl⟩)
                case measure => simp [intOf]; omega
              | some v1 =>
                obtain ⟨t1, u1, o1⟩ := v1
                rw [hgk] at hl2
                simp only [Option.map_some, Option.getD_some, Option.isSome_some, stepV] at hl2
                have HAP : Hid (Alg d (plainU us) r L N3 (fun k => if k = (orN m u, x.2.1.o) then some (bg, u, now) else G3 k)) := Lib.hid (by
                  have h := AL.out.put HKL.out HG.out HUX.out
                  rw [HEV.out, show beginF d (m, now).2 t0 x.2.1 = bg from HBG.out] at h
                  exact h)
                clear hgk
                go_upto_region 17 with fail
                have k8 : Keeps W7 (W7.alloc (.cells #[.int .i64 t1, .int .i64 (u1 : Int), .int .i64 o1] 125)) := (Keeps.refl W7).alloc _
                have I8 := Lib.hid (I7.out.keep k8)
                have B8 := Lib.hid (B7.out.below k8 B7.out.lt)
                have Z8 : (W7.alloc (.cells #[.int .i64 t1, .int .i64 (u1 : Int), .int .i64 o1] 125)).cell? ⟨W7.heap.size, 0, none⟩ = some (.int .i64 t1) := (Blk.new W7 125 #[.int .i64 t1, .int .i64 (u1 : Int), .int .i64 o1]).cell 0
                clear hl2 b0 b1 k8 I7 B7
                generalize W7.alloc (.cells #[.int .i64 t1, .int .i64 (u1 : Int), .int .i64 o1] 125) = W8 at *
                have b0 : W8.cell? ⟨_, 0, none⟩ = some (.int .u32 ((orN m u : Nat) : Int)) := B8.out.cell 0
                have b1 : W8.cell? ⟨_, 1, none⟩ = some (.int .i64 x.2.1.o) := B8.out.cell 1
                have d1 : W8.cell? ⟨_, 1, none⟩ = some (.int .i64 now) := I8.out.box.cell 1
                by_cases hlt : bg < t1
                · have t2 : decide (bg < t1) = true := by simpa using hlt
                  obtain ⟨W11, hp11, hb11, hg11⟩ := I8.out.mid.best.put (orN m u) x.2.1.o bg u now
                  have I11 := Lib.hid (I8.out.put hb11 hg11)
                  clear hb11 hg11
                  go_wp2_with fail
                  go_roundw
                  case rel => first | exact ⟨q + 1, _, _, _, _, _, by omega, by go_num, rfl, I11.out, HAP.out, HGN.out _⟩ | ((repeat apply Exists.intro); exact ⟨⟨q + 1, _, _, _, _, _, by omega, by go_num, rfl, I11.out, HAP.out, HGN.out _⟩, rfl⟩)
                  case measure => simp [intOf]; omega
                · have t2 : decide (bg < t1) = false := by simpa using hlt
                  go_wp2_with fail
                  go_roundw
                  case rel => first | exact ⟨q + 1, _, _, _, _, _, by omega, by go_num, rfl, I8.out, AL.out, HG.out⟩ | ((repeat apply Exists.intro); exact ⟨⟨q + 1, _, _, _, _, _, by omega, by go_num, rfl, I8.out, AL.out, HG.out⟩, rfl⟩)
                  case measure => simp [intOf]; omega
            · have hqe : q = n4 := by omega
              have hcl5 : cl.length ≤ 500000 := by have := cho_len d (plainU us) f (m, now, t0); rw [HCL.out, PL.out] at this; have := HN16.out; omega
              go_wp2_with fail
              go_roundw
              case rel => first | exact ⟨p + 1, _, _, _, _, _, by omega, by go_num, rfl, IQ.out.mid, AL.out⟩ | ((repeat apply Exists.intro); exact ⟨⟨p + 1, _, _, _, _, _, by omega, by go_num, rfl, IQ.out.mid, AL.out⟩, rfl⟩)
              case measure => simp [intOf]; omega
        · have KW := K
          go_wp2_with fail
          go_roundw
          case rel => first | exact ⟨r + 1, _, _, _, _, _, by omega, by go_num, rfl, M.out.row.base_le KW.out.size, grown_keeps KW.out M.out.grw (fun k e => by cases e; omega), M.out.best, AL.out.fi, AL.out.lv⟩ | ((repeat apply Exists.intro); exact ⟨⟨r + 1, _, _, _, _, _, by omega, by go_num, rfl, M.out.row.base_le KW.out.size, grown_keeps KW.out M.out.grw (fun k e => by cases e; omega), M.out.best, AL.out.fi, AL.out.lv⟩, rfl⟩)
          case measure => simp [intOf]; omega
    · have hre : r = n := by omega
      subst hre
      obtain ⟨hlev, hn1⟩ := X.out.recs ksOk
      have HN1 := Lib.hid hn1
      have hcL : ∀ k ∈ L, cntB (plainU us).length k.1 = r := fun k hk => (LV.out.ok k hk).2.1
      by_cases hz : n1 = 0
      · have z1 : ((n1 : Int) == 0) = true := by subst hz; rfl
        clear hlev hn1 hz
        go_wp2_with fail
        go_ret2
        exact ⟨none, find_none rfl K.out, fun l h => by cases h⟩
      · have z1 : ((n1 : Int) == 0) = false := by simp; omega
        obtain ⟨k0, hk0⟩ : ∃ k0, L[0]? = some k0 := ⟨_, List.getElem?_eq_getElem (by omega)⟩
        obtain ⟨m0, now0⟩ := k0
        have hkL := List.mem_of_getElem? hk0
        obtain ⟨lb, lo, hAe, hlb, hlc⟩ := hlev 0 _ hk0
        subst hAe
        have l0 := hlc 0 (.int .u32 (m0 : Int)) rfl
        have l1 := hlc 1 (.int .i64 now0) rfl
        have HK0 := Lib.hid (LV.out.ok _ hkL)
        clear hlev hlc hk0 hkL hn1
        have c1r : wr.cell? ⟨g, 1, none⟩ = some (.slice uA r uc) := cell_keep c1 K.out
        go_upto_region 28 with (at_make; refine wpList_makeR natOk (w0 := wr) rfl (.tmp 110) (.tmp 110) rfl 0 (.int .i64 0) (by kernel_rfl) rfl r rfl rfl (by omega) (Keeps.refl _) ?_; intro w5 ho5 hg5; have O5 := Lib.hid ho5; clear ho5 hg5)
        have hk5 : Keeps wr w5 := O5.out.2
        have m0c : w5.cell? ⟨lb, lo, none⟩ = some (.int .u32 (m0 : Int)) := cell_keep (by simpa using l0) hk5
        have m1c : w5.cell? ⟨lb, lo + 1, none⟩ = some (.int .i64 now0) := cell_keep (by simpa using l1) hk5
        have c15 : w5.cell? ⟨g, 1, none⟩ = some (.slice uA r uc) := cell_keep c1r hk5
        have i0 : (0 : Int) < (n1 : Int) := by omega
        have i00 : 0 < n1 := by omega
        have rw1 : IntKind.i64.wrap ((r : Int) - 1) = (r : Int) - 1 := wrap_in (by omega) (by omega)
        have hlb5 : lb < w5.heap.size := Nat.lt_of_lt_of_le hlb hk5.size
        have hg5 : g < w5.heap.size := Nat.lt_of_lt_of_le hg (Nat.le_trans K.out.size hk5.size)
        have HK5 := Lib.hid hk5
        have SOF := Lib.hid (show ∀ X, Keeps w5 X → (fun w' => w'.cell? ⟨lb, lo, none⟩ = some (.int .u32 (m0 : Int)) ∧ w'.cell? ⟨lb, lo + 1, none⟩ = some (.int .i64 now0) ∧ w'.cell? ⟨g, 1, none⟩ = some (.slice uA r uc) ∧ Keeps w5 w') X from fun X hX => ⟨cell_keep m0c hX, cell_keep m1c hX, cell_keep c15 hX, hX⟩)
        clear l0 l1 c1r hk5
        go_region_held3 (fun w' => w'.cell? ⟨lb, lo, none⟩ = some (.int .u32 (m0 : Int)) ∧ w'.cell? ⟨lb, lo + 1, none⟩ = some (.int .i64 now0) ∧ w'.cell? ⟨g, 1, none⟩ = some (.slice uA r uc) ∧ Keeps w5 w') ((refine SOF.out _ ?_; (repeat (first | exact Keeps.refl _ | assumption | apply Keeps.drew | apply Keeps.alloc | (refine Keeps.setCell ?_ (by simp) _))); done)) (fail)
        all_goals (
          have kA : Keeps w5 (w5.alloc (.cells #[.int .u32 (m0 : Int), .int .i64 now0] 94)).drew := ((Keeps.refl w5).alloc _).drew
          have O6 := Lib.hid (O5.out.keep kA)
          have B6 := Lib.hid (show Blk (w5.alloc (.cells #[.int .u32 (m0 : Int), .int .i64 now0] 94)).drew w5.heap.size 94 #[.int .u32 (m0 : Int), .int .i64 now0] from Blk.new w5 94 _)
          obtain ⟨hko, hc0, hs0⟩ := HK0.out
          obtain ⟨⟨t0, v0⟩, hG0⟩ := Option.isSome_iff_exists.1 hs0
          have BK := Lib.hid (back_ok FIr.out r (m0, now0) t0 v0 hG0 hc0)
          have SM0 := Lib.hid hs0
          have C0 := Lib.hid hc0
          have W5S := Lib.hid HK5.out.size
          have HM0 := Lib.hid (show m0 < 2 ^ 16 from Nat.lt_of_lt_of_le hko.1 (Nat.pow_le_pow_right (by decide) (by rw [PL.out]; have := HN16.out; omega)))
          obtain ⟨S, hS⟩ : ∃ S, backF G r (m0, now0) = S := ⟨_, rfl⟩
          rw [hS] at BK
          have E0 := Lib.hid (show backF G r (m0, now0) ++ (List.replicate r 0).drop r = S by rw [hS]; simp)
          have KW := K
          clear SOF m0c m1c c15 kA hc0 hs0 hG0 hS hko
          generalize (w5.alloc (.cells #[.int .u32 (m0 : Int), .int .i64 now0] 94)).drew = W6 at *
          go_wp2_with fail
          generalize hsb : wr.heap.size = sb at *
          have HSB := Lib.hid hsb
          clear hsb
          go_loopw [18, 19] (fun c b wq => ∃ (j m : Nat) (now : Int) (bx : Nat) (sq : List Nat), j ≤ r ∧ c = .int .i64 ((j : Int) - 1) ∧ b = .pointer (some ⟨bx, 0, none⟩) ∧ (sb ≤ bx ∧ Blk wq bx 94 #[.int .u32 (m : Int), .int .i64 now]) ∧ OwnR natR wr wq (.slice (some ⟨sb, 0, none⟩) r r) sq ∧ backF G j (m, now) ++ sq.drop j = S ∧ cntB (plainU us).length m = j ∧ (G (m, now)).isSome = true ∧ m < 2 ^ 16) (fun c _ _ => (intOf c + 1).toNat)
          case atStart => exact ⟨r, m0, now0, _, _, by omega, rfl, rfl, ⟨W5S.out, B6.out⟩, O6.out, E0.out, C0.out, SM0.out, HM0.out⟩
          case round =>
            clear O6 B6 E0 C0 SM0 O5 HM0
            obtain ⟨j, m, now, bx, sq, hj, rfl, rfl, ⟨hbx, hB⟩, hO, hE, hC, hSm, hm16⟩ := hrel
            have OQ := Lib.hid hO; have BQ := Lib.hid hB; have HE := Lib.hid hE; have HC := Lib.hid hC
            have hsl : sq.length = r := (hO.recs natOk).2.symm
            cases j with
            | zero =>
              have t1 : decide ((0 : Int) ≤ ((0 : Nat) : Int) - 1) = false := by simp
              have hsq : sq = S := by have := hE; simpa [backF] using this
              have HSQ := Lib.hid hsq
              clear hO hB hE hC hsq
              go_wp2_with fail
              go_ret2
              obtain ⟨h1, h2⟩ := OQ.out.recs natOk
              have h3 : Keeps _ wr := OQ.out.2
              refine ⟨some S, ⟨some ⟨sb, 0, none⟩, r, ?_, ?_, KW.out.trans h3⟩, fun l e => ?_⟩
              · rw [← HSQ.out, ← h2]; rfl
              · rw [← HSQ.out]; exact h1
              · injection e with e
                subst e
                exact ⟨BK.out.2.1, BK.out.1.trans HN.out.symm⟩
            | succ j' =>
              rw [show (((j' + 1 : Nat) : Int) - 1) = (j' : Int) by omega]
              have t1 : decide ((0 : Int) ≤ (j' : Int)) = true := by simp
              obtain ⟨⟨t, u, o⟩, hG⟩ := Option.isSome_iff_exists.1 hSm
              obtain ⟨hul, hp1, hp2, hc2, tq, vq, hGq, hp3, hp4⟩ := FIr.out.pred hG hC
              have PD := Lib.hid (show cntB (plainU us).length (anN m u) = j' ∧ (G (anN m u, o)).isSome = true from ⟨hc2, by rw [show G (anN m u, o) = some (tq, vq) from hGq]; rfl⟩)
              have E2 := Lib.hid (show backF G j' (anN m u, o) ++ (sq.set j' u).drop j' = S by
                have h := hE
                rw [back_step hG, List.append_assoc, ← set_drop (by omega)] at h
                exact h)
              have HM2 := Lib.hid (show anN m u < 2 ^ 16 from andn_lt hm16)
              have hu16 : u < 16 := by rw [PL.out] at hul; have := HN16.out; omega
              have hKq : Keeps _ wr := hO.2
              have hlk := (BP.out.keep hKq).look m now hG
              have d0 : wr.cell? ⟨bx, 0, none⟩ = some (.int .u32 (m : Int)) := hB.cell 0
              have d1 : wr.cell? ⟨bx, 1, none⟩ = some (.int .i64 now) := hB.cell 1
              have k8 : Keeps wr (wr.alloc (.cells #[.int .i64 t, .int .i64 (u : Int), .int .i64 o] 125)) := (Keeps.refl wr).alloc _
              have O8 := Lib.hid (hO.keep k8)
              have B8 := Lib.hid (hB.alloc (.cells #[.int .i64 t, .int .i64 (u : Int), .int .i64 o] 125))
              have H8 := Lib.hid (Blk.new wr 125 #[.int .i64 t, .int .i64 (u : Int), .int .i64 o])
              have HBX := Lib.hid (show sb ≤ wr.heap.size + 1 by have := hB.lt; omega)
              have hsz8 : (wr.alloc (.cells #[.int .i64 t, .int .i64 (u : Int), .int .i64 o] 125)).heap.size = wr.heap.size + 1 := by simp
              clear hO hB hE hC hSm hG hc2 hGq hKq k8 hp1 hp2 hp3 hp4
              go_upto_region 32 with fail
              clear hlk d0 d1
              generalize wr.alloc (.cells #[.int .i64 t, .int .i64 (u : Int), .int .i64 o] 125) = W8 at *
              have hjr : j' < sq.length := by omega
              have s8 := O8.out.cellNat hjr
              have f8 := O8.out.frozen j'
              have e8 : W8.cell? ⟨wr.heap.size, 1, none⟩ = some (.int .i64 (u : Int)) := H8.out.cell 1
              have ij : (0 : Int) ≤ (j' : Int) ∧ (j' : Int) < (r : Int) := ⟨by omega, by omega⟩
              go_upto_region 33 with fail
              have O9 := Lib.hid (O8.out.putNat (y := u) hjr)
              have G9 : W8.grownBy (W8.setCell ⟨sb, j', none⟩ (.int .i64 (u : Int))) (some sb) := grown_set (World.grownBy.refl W8 _) j' _
              have B9 := Lib.hid (B8.out.grown G9 (fun e => own_blk_ne O8.out.1 B8.out (by decide) e.symm))
              have H9 := Lib.hid (H8.out.grown G9 (fun e => own_blk_ne O8.out.1 H8.out (by decide) e.symm))
              have S9 := Lib.hid G9.size
              clear s8 f8 e8 G9 O8 B8 H8
              generalize W8.setCell ⟨sb, j', none⟩ (.int .i64 (u : Int)) = W9 at *
              have d0 : W9.cell? ⟨bx, 0, none⟩ = some (.int .u32 (m : Int)) := B9.out.cell 0
              have d1 : W9.cell? ⟨bx, 1, none⟩ = some (.int .i64 now) := B9.out.cell 1
              have h1 : W9.cell? ⟨wr.heap.size, 1, none⟩ = some (.int .i64 (u : Int)) := H9.out.cell 1
              have h2 : W9.cell? ⟨wr.heap.size, 2, none⟩ = some (.int .i64 o) := H9.out.cell 2
              have fb := B9.out.frozen
              have q1 := andNot_pow hm16 hu16
              have q1' := q1
              rw [IntKind.wrap_u32] at q1'
              go_still_tail 9, (by kernel_rfl)
              change wpList _ _ _ _ _ W9.drew
              clear q1 q1'
              go_upto_region 34 with fail
              have hbxr : sb ≤ bx := hbx
              have O10 := Lib.hid (show OwnR natR _ ((W9.setCell ⟨bx, 0, none⟩ (.int .u32 ((anN m u : Nat) : Int))).setCell ⟨bx, 1, none⟩ (.int .i64 o)).drew (.slice (some ⟨sb, 0, none⟩) r r) (sq.set j' u) from (O9.out.grown (grown_set (grown_set (World.grownBy.refl W9 _) 0 (.int .u32 ((anN m u : Nat) : Int))) 1 (.int .i64 o)) (.inr (own_blk_ne O9.out.1 B9.out (by decide))) (fun k hk => by cases hk; rw [HSB.out]; exact hbxr)).keep ((Keeps.refl _).drew))
              have B10 := Lib.hid (show Blk ((W9.setCell ⟨bx, 0, none⟩ (.int .u32 ((anN m u : Nat) : Int))).setCell ⟨bx, 1, none⟩ (.int .i64 o)).drew bx 94 #[.int .u32 ((anN m u : Nat) : Int), .int .i64 o] from (B9.out.set_ 0 (.int .u32 ((anN m u : Nat) : Int))).set_ 1 (.int .i64 o))
              have S10 := Lib.hid (show W9.heap.size ≤ ((W9.setCell ⟨bx, 0, none⟩ (.int .u32 ((anN m u : Nat) : Int))).setCell ⟨bx, 1, none⟩ (.int .i64 o)).drew.heap.size by simp [World.setCell, World.drew])
              clear d0 d1 h1 h2 fb
              generalize ((W9.setCell ⟨bx, 0, none⟩ (.int .u32 ((anN m u : Nat) : Int))).setCell ⟨bx, 1, none⟩ (.int .i64 o)).drew = W10 at *
              have d0 : W10.cell? ⟨bx, 0, none⟩ = some (.int .u32 ((anN m u : Nat) : Int)) := B10.out.cell 0
              have d1 : W10.cell? ⟨bx, 1, none⟩ = some (.int .i64 o) := B10.out.cell 1
              have O12 := Lib.hid (O10.out.keep ((Keeps.refl W10).alloc (.cells #[.int .u32 ((anN m u : Nat) : Int), .int .i64 o] 94)))
              have B12 := Lib.hid (Blk.new W10 94 #[.int .u32 ((anN m u : Nat) : Int), .int .i64 o])
              have HBX2 := Lib.hid (show sb ≤ W10.heap.size by have := S10.out; have := S9.out; have := HBX.out; omega)
              have jw : IntKind.i64.wrap ((j' : Int) - 1) = (j' : Int) - 1 := wrap_in (by omega) (by omega)
              go_wp2_with fail
              go_roundw
              case rel => first | exact ⟨j', _, _, _, _, by omega, rfl, rfl, ⟨HBX2.out, B12.out⟩, O12.out, E2.out, PD.out.1, PD.out.2, HM2.out⟩ | ((repeat apply Exists.intro); exact ⟨⟨j', _, _, _, _, by omega, rfl, rfl, ⟨HBX2.out, B12.out⟩, O12.out, E2.out, PD.out.1, PD.out.2, HM2.out⟩, rfl⟩)
              case measure => (simp [intOf]) <;> omega)
end Go.Proofs.Ythkmpegpmpdhaaa
