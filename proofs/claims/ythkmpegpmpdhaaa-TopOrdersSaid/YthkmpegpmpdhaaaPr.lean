/- Part of the proofs of TopMoney and TopOrders. Conditions: as stated in each theorem. -/
import Derived.Test.YthkmpegpmpdhaaaY
import Derived.Deep.CutRange
import Derived.StillTailTactics
import Derived.Lib.SliceRun
import Derived.RangeFuncRecord
import Derived.Carry
import Derived.ChangeKeysEq
import Derived.Test.YthkmpegpmpdhaaaRows
import Derived.WalkKit
import Derived.WalkSpells
import Derived.WalkLawsBesides
import Derived.Laws.EntriesVeiled
import Derived.ProofKit
import Derived.OpenShut
import Derived.Lib.Hide
import Derived.BigQuiet
import Derived.Deep.QuietTactic
import Derived.Below
import Derived.Laws.OwnMore
import Derived.Deep.AppendLies
import Derived.Deep.Draws
import Derived.Laws.Rows
import Derived.Maps.AppendAt
import Derived.RegionTactic
import Derived.OwnWalk
import Derived.Deep.RegionHeld3
namespace Go.Proofs.Ythkmpegpmpdhaaa
open Go.ChangeShapes Go.WideShapes Go.ChangeAt Go.RowKit
set_option linter.unusedSimpArgs false
set_option linter.unusedVariables false
theorem wpList_makeR {α : Type} {R : RowTy α} {P : Program} (ok : RowOk P R) {w0 w : World} {ops : Array Oper} {rest : List Oper} {o : Oper} {a : Act} {Q : Exit → Act → World → Prop} (hgd : o.guard = none) (l c : Operand) (ho : o.op = .makeSlice R.S l c)
    (x0 : α) (z : Value) (hz : (P.info? R.T).map (fun i => i.zero) = some (some z)) (hzc : R.enc x0 = z.cells.toList) (n : Nat) (hl : a.eval l = .int .i64 (n : Int)) (hc : a.eval c = .int .i64 (n : Int)) (hn : n ≤ 1000000) (hw : Keeps w0 w)
    (h : ∀ w', OwnR R w0 w' (.slice (some ⟨w.heap.size, 0, none⟩) n n) (List.replicate n x0) → w.grownBy w' none → wpList P ops Q rest (a.put o.dst (.slice (some ⟨w.heap.size, 0, none⟩) n n)) w') : wpList P ops Q (o :: rest) a w := by
  obtain ⟨i0, z', hi0, hz0, hz1, hz2, hz3⟩ := ok.info
  have e : z' = z := by rw [hi0] at hz; simp only [Option.map_some, Option.some.injEq] at hz; rw [hz0] at hz; injection hz
  subst e
  have hby : i0.bytes * n ≤ 1000 * 1000000 := Nat.mul_le_mul (by rw [hz2]; exact ok.few) hn
  obtain ⟨w', hrun, h1, h2⟩ := run_make_full (P := P) w w0.heap.size R.S R.T i0 z' R.k ok.und hi0 hz0 hz1 .i64 .i64 n (by omega) (by unfold maxLen; omega) hw.size
  refine wpList_plain hgd fun K hK => ?_
  unfold Oper.wp
  simp [execOp, ho, hl, hc, hrun, Result.andThen]
  exact hK _ _ (h w' (OwnR.made ok hw hzc h1 h2) h2)
theorem keeps_set {a b : World} (h : Keeps a b) {p : Addr} (hp : p.block < a.heap.size) (v : Value) : Keeps (a.setCell p v) (b.setCell p v) := by
  refine ⟨h.os, h.tape, h.output, by simpa [World.setCell] using h.size, fun i hi => ?_⟩
  have hi' : i < a.heap.size := by simpa [World.setCell] using hi
  have := h.block i hi'
  simp only [World.setCell, Array.getElem?_modify] at *
  by_cases e : p.block = i
  · subst e; simp [this]
  · simp [e, this]
/-- What precede needs of memory: the struct, and all else below it. -/
structure SrPre (d : List (List Int)) (us : List UnC) (w : World) (g : Nat) (dA uA : Option Addr) (dc uc : Nat) (fv : Value) : Prop where
  blk : Blk w g 91 #[.slice dA d.length dc, .slice uA us.length uc, fv]
  rows : NumRows w g dA d
  uns : RecIn unR w g uA us
def PrecPost (d : List (List Int)) (us : List UnC) (g : Nat) (dA uA : Option Addr) (dc uc : Nat) (o : Option (List Nat)) (w : World) (e : Ending) (w' : World) : Prop :=
  w.grownBy w' (some g) ∧ match o with
  | none => e = .returned (.bool false)
  | some f => e = .returned (.bool true) ∧ ∃ fA fc, SrIn d us w' g dA uA dc uc (.slice fA us.length fc) ∧ RecIn mkR w' w'.heap.size fA f ∧ MasksOk us.length f
theorem prec_no {d : List (List Int)} {us : List UnC} {g : Nat} {dA uA : Option Addr} {dc uc : Nat} {o : Option (List Nat)} {w w' : World} (h : o = none) (hg : w.grownBy w' (some g)) : PrecPost d us g dA uA dc uc o w (.returned (.bool false)) w' := by subst h; exact ⟨hg, rfl⟩
theorem prec_yes {d : List (List Int)} {us : List UnC} {g : Nat} {dA uA fA : Option Addr} {dc uc fc : Nat} {o : Option (List Nat)} {f : List Nat} {w w' : World} (h : o = some f) (hg : w.grownBy w' (some g)) (hs : SrIn d us w' g dA uA dc uc (.slice fA us.length fc)) (hf : RecIn mkR w' w'.heap.size fA f) (hm : MasksOk us.length f) :
    PrecPost d us g dA uA dc uc o w (.returned (.bool true)) w' := by subst h; exact ⟨hg, rfl, fA, fc, hs, hf, hm⟩
theorem grown_trans_keeps {a b c : World} {row : Option Nat} (h : a.grownBy b row) (k : Keeps b c) : a.grownBy c row :=
  ⟨k.os.trans h.os, k.tape.trans h.tape, k.output.trans h.output, Nat.le_trans h.size k.size, fun i hi hne => (k.block i (Nat.lt_of_lt_of_le hi h.size)).trans (h.block i hi hne)⟩
theorem own_base_set {α : Type} {R : RowTy α} {w w5 : World} {v : Value} {l : List α} (h : OwnR R w w5 v l) {g i : Nat} (hg : g < w.heap.size) (u : Value) : OwnR R (w.setCell ⟨g, i, none⟩ u) (w5.setCell ⟨g, i, none⟩ u) v l := by
  refine ⟨?_, keeps_set h.2 hg u⟩
  have e : (w.setCell ⟨g, i, none⟩ u).heap.size = w.heap.size := by simp [World.setCell]
  rw [e]
  refine h.1.kept (grown_set (World.grownBy.refl w5 _) i u) (.inr fun e => ?_)
  have := own_lt h.1 e
  omega
theorem OwnR.putMk {w0 w : World} {g n cap : Nat} {l : List Nat} (h : OwnR mkR w0 w (.slice (some ⟨g, 0, none⟩) n cap) l) {j y : Nat} (hj : j < l.length) : OwnR mkR w0 (w.setCell ⟨g, j, none⟩ (.int .u32 (y : Int))) (.slice (some ⟨g, 0, none⟩) n cap) (l.set j y) := by
  have := OwnR.put (R := mkR) (fun _ => rfl) h (j := j) (i := 0) (x := l[j]) (x' := y) (u := .int .u32 (y : Int)) (List.getElem?_eq_getElem hj) (by decide) rfl
  simpa using this
theorem OwnR.cellMk {w0 w : World} {g n cap : Nat} {l : List Nat} (h : OwnR mkR w0 w (.slice (some ⟨g, 0, none⟩) n cap) l) {j : Nat} (hj : j < l.length) : w.cell? ⟨g, j, none⟩ = some (.int .u32 ((l.getD j 0 : Nat) : Int)) := by
  obtain ⟨b, off, e, _, hc⟩ := (h.recs mkOk).1.mk_ (List.getElem?_eq_getElem hj)
  cases e
  rw [Nat.zero_add] at hc
  simpa [List.getD_eq_getElem?_getD, hj] using hc
set_option maxRecDepth 100000 in
set_option maxHeartbeats 4000000 in
theorem precede_any (d : List (List Int)) (us : List UnC) (g : Nat) (dA uA : Option Addr) (dc uc : Nat) (fv : Value) (w : World) (hp : SrPre d us w g dA uA dc uc fv) (hn16 : us.length < 16) (hd : DistOk d) (ho : ∀ u ∈ us, isOff d u.2.1.o) :
    Calls Try.prog 38 #[.pointer (some ⟨g, 0, none⟩)] w (PrecPost d us g dA uA dc uc (precJ d (plainU us) us.length) w) := by
  have c1 : w.cell? ⟨g, 1, none⟩ = some (.slice uA us.length uc) := hp.blk.cell 1
  have c2 : w.cell? ⟨g, 2, none⟩ = some fv := hp.blk.cell 2
  have fz := hp.blk.frozen
  have hg := hp.blk.lt
  have HP := Lib.hid hp
  have PL := Lib.hid (plainU_len us)
  obtain ⟨n, hn⟩ : ∃ n, us.length = n := ⟨_, rfl⟩
  have HN := Lib.hid hn
  have HN16 := Lib.hid hn16
  have HO := Lib.hid ho
  clear hp ho
  rw [hn] at c1 hn16
  rw [hn]
  clear hn
  go_enter Try.func38, Try.ntmps38
  go_upto_region 2 with (at_make; refine wpList_makeR mkOk (w0 := w) rfl (.tmp 12) (.tmp 12) rfl 0 (.int .u32 0) (by kernel_rfl) rfl n rfl rfl (by omega) (Keeps.refl _) ?_; intro w5 ho5 hg5; have O5 := Lib.hid ho5; have c25 : w5.cell? ⟨g, 2, none⟩ = some fv := cell_keep c2 ho5.2; have f25 : w5.frozen? ⟨g, 2, none⟩ = false := (HP.out.blk.below ho5.2 hg).frozen 2; clear ho5 hg5)
  have e0 : (w.setCell ⟨g, 2, none⟩ (.slice (some ⟨w.heap.size, 0, none⟩) n n)).heap.size = w.heap.size := by simp [World.setCell]
  have O6 := Lib.hid (own_base_set (i := 2) O5.out hg (.slice (some ⟨w.heap.size, 0, none⟩) n n))
  have G0 := Lib.hid (grown_set (World.grownBy.refl w (some g)) 2 (.slice (some ⟨w.heap.size, 0, none⟩) n n))
  have hbel : Below g w (w.setCell ⟨g, 2, none⟩ (.slice (some ⟨w.heap.size, 0, none⟩) n n)) := ⟨rfl, rfl, rfl, by rw [e0]; exact Nat.le_refl _, fun i hi => G0.out.block i (by omega) (fun e => by injection e with e; omega)⟩
  have S0 := Lib.hid (show SrIn d us (w.setCell ⟨g, 2, none⟩ (.slice (some ⟨w.heap.size, 0, none⟩) n n)) g dA uA dc uc (.slice (some ⟨w.heap.size, 0, none⟩) us.length n) from ⟨by (have := HP.out.blk.set_ 2 (.slice (some ⟨w.heap.size, 0, none⟩) n n); rw [HN.out] at this; rw [HN.out]; exact this), (HP.out.rows.below hbel).more (by omega), (HP.out.uns.below hbel).more (by omega)⟩)
  clear c25 f25 c1 c2 fz hbel
  generalize hW0 : w.setCell ⟨g, 2, none⟩ (.slice (some ⟨w.heap.size, 0, none⟩) n n) = W0 at *
  generalize w5.setCell ⟨g, 2, none⟩ (.slice (some ⟨w.heap.size, 0, none⟩) n n) = W6 at *
  clear hW0
  generalize hfb : w.heap.size = fb at *
  clear O5 HP
  have k6 : Keeps W0 W6 := O6.out.2
  have c1 : W6.cell? ⟨g, 1, none⟩ = some (.slice uA n uc) := by have := (S0.out.keep k6).blk.cell 1; rw [HN.out] at this; exact this
  clear k6
  go_wp2_with fail
  go_loopw [3, 21] (fun _ c wr => ∃ (j : Nat) (f : List Nat), j ≤ n ∧ c = .int .i64 (j : Int) ∧ OwnR mkR W0 wr (.slice (some ⟨fb, 0, none⟩) n n) f ∧ precJ d (plainU us) j = some f ∧ MasksOk us.length f) (fun _ c _ => n - (intOf c).toNat)
  case atStart => exact ⟨0, _, by omega, rfl, O6.out, by unfold precJ; rw [PL.out, HN.out], by rw [HN.out]; exact MasksOk.start n⟩
  case round =>
    clear c1 O6
    obtain ⟨j, f, hj, rfl, hO, hJ, hMJ⟩ := hrel
    have OJ := Lib.hid hO; have HJ := Lib.hid hJ; have MJ := Lib.hid hMJ
    clear hO hJ hMJ
    by_cases hjn : j < n
    · have hji : (j : Int) < (n : Int) := by omega
      have hj0 : (0 : Int) ≤ (j : Int) := by omega
      have hjw : IntKind.i64.wrap ((j : Int) + 1) = (j : Int) + 1 := wrap_in (by omega) (by omega)
      obtain ⟨y, hy⟩ : ∃ y, us[j]? = some y := ⟨_, List.getElem?_eq_getElem (by rw [HN.out]; exact hjn)⟩
      have HY := Lib.hid hy
      have HOY := Lib.hid (HO.out y (List.mem_of_getElem? hy))
      clear hy
      go_wp2_with fail
      go_loopw [4, 25] (fun _ c wr => ∃ (i : Nat) (fi : List Nat), i ≤ j ∧ c = .int .i64 (i : Int) ∧ OwnR mkR W0 wr (.slice (some ⟨fb, 0, none⟩) n n) fi ∧ precI d (plainU us) j i f = some fi ∧ MasksOk us.length fi) (fun _ c _ => j - (intOf c).toNat)
      case atStart => exact ⟨0, f, by omega, rfl, OJ.out, rfl, MJ.out⟩
      case round =>
        obtain ⟨i, fi, hi, rfl, hO, hI, hMI⟩ := hrel
        have HKR := Lib.hid (show Keeps W0 _ from hO.2)
        have OI := Lib.hid hO; have HI := Lib.hid hI; have MI := Lib.hid hMI
        clear hO hI hMI
        by_cases hij : i < j
        · have hii : (i : Int) < (j : Int) := by omega
          have hi0 : (0 : Int) ≤ (i : Int) := by omega
          have hiw : IntKind.i64.wrap ((i : Int) + 1) = (i : Int) + 1 := wrap_in (by omega) (by omega)
          obtain ⟨x, hx⟩ : ∃ x, us[i]? = some x := ⟨_, List.getElem?_eq_getElem (by rw [HN.out]; omega)⟩
          have HX := Lib.hid hx
          have HOX := Lib.hid (HO.out x (List.mem_of_getElem? hx))
          clear hx
          have hs1 : precI d (plainU us) j (i + 1) f = precS d (plainU us) j i fi := by rw [precI, HI.out]; rfl
          have hev1 : fitsF d (plainU us) i j = decide (0 ≤ beginF d x.2.1.o (clampLo x.2.1) y.2.1) := by unfold fitsF; rw [(plainU_at HX.out).1, (plainU_at HY.out).1]
          have hev2 : fitsF d (plainU us) j i = decide (0 ≤ beginF d y.2.1.o (clampLo y.2.1) x.2.1) := by unfold fitsF; rw [(plainU_at HX.out).1, (plainU_at HY.out).1]
          have hmi : ∀ gg, precS d (plainU us) j i fi = some gg → MasksOk us.length gg := fun gg e => MI.out.step (by omega) (by omega) e
          have HMI := Lib.hid hmi
          have HS1 := Lib.hid hs1
          clear hs1 hmi
          cases h1 : fitsF d (plainU us) i j <;> cases h2 : fitsF d (plainU us) j i
          · have HF1 := Lib.hid (hev1.symm.trans h1)
            have HF2 := Lib.hid (hev2.symm.trans h2)
            have E := Lib.hid (prec_bad HJ.out HI.out hij hjn (show precS d (plainU us) j i fi = none by unfold precS; rw [h1, h2]; rfl))
            clear h1 h2 hev1 hev2
            go_wp2_with (first | (go_at_call 59; (with_reducible refine (fits_any d us g dA uA dc uc _ _ (S0.out.keep HKR.out) hd x y i j HX.out HY.out HOX.out HOY.out false HF1).mono ?_); rintro e w7 ⟨rfl, hk7⟩; have K7 := Lib.hid (HKR.out.trans hk7); have O7 := Lib.hid (OI.out.keep hk7); clear hk7) | (go_at_call 59; (with_reducible refine (fits_any d us g dA uA dc uc _ _ (S0.out.keep K7.out) hd y x j i HY.out HX.out HOY.out HOX.out false HF2).mono ?_); rintro e w8 ⟨rfl, hk8⟩; have K8 := Lib.hid (K7.out.trans hk8); have O8 := Lib.hid (O7.out.keep hk8); clear hk8))
            go_ret
            exact prec_no E.out (grown_trans_keeps G0.out K8.out)
          · have HF1 := Lib.hid (hev1.symm.trans h1)
            have HF2 := Lib.hid (hev2.symm.trans h2)
            have hpr : precS d (plainU us) j i fi = some (fi.set i (fi.getD i 0 ||| 2 ^ j)) := by unfold precS; rw [h1, h2]; rfl
            have E := Lib.hid (HS1.out.trans hpr)
            have M := Lib.hid (HMI.out _ hpr)
            clear h1 h2 hev1 hev2 hpr
            go_upto_region 12 with (first | (go_at_call 59; (with_reducible refine (fits_any d us g dA uA dc uc _ _ (S0.out.keep HKR.out) hd x y i j HX.out HY.out HOX.out HOY.out false HF1).mono ?_); rintro e w7 ⟨rfl, hk7⟩; have K7 := Lib.hid (HKR.out.trans hk7); have O7 := Lib.hid (OI.out.keep hk7); clear hk7) | (go_at_call 59; (with_reducible refine (fits_any d us g dA uA dc uc _ _ (S0.out.keep K7.out) hd y x j i HY.out HX.out HOY.out HOX.out true HF2).mono ?_); rintro e w8 ⟨rfl, hk8⟩; have K8 := Lib.hid (K7.out.trans hk8); have O8 := Lib.hid (O7.out.keep hk8); clear hk8))
            have hla : i < fi.length := by rw [MI.out.len, HN.out]; omega
            have ca := O8.out.cellMk hla
            have fa := O8.out.frozen (R := mkR) i
            have c28 : w8.cell? ⟨g, 2, none⟩ = some (.slice (some ⟨fb, 0, none⟩) n n) := by have := (S0.out.keep K8.out).blk.cell 2; rw [HN.out] at this; exact this
            have q1 := or_u32 (MI.out.at_ i) (show j < 16 by omega)
            have q1' := q1
            rw [IntKind.wrap_u32] at q1'
            have ia : (0 : Int) ≤ (i : Int) ∧ (i : Int) < (n : Int) := ⟨by omega, by omega⟩
            generalize hfa : fi.getD i 0 = fa0 at *
            have HFA := Lib.hid hfa
            clear hfa
            go_still_tail 11, (by kernel_rfl)
            change wpList _ _ _ _ _ w8.drew
            clear q1 q1' c28
            go_wp2_with fail
            have O9 := Lib.hid ((O8.out.keep ((Keeps.refl w8).drew)).putMk (y := orN fa0 j) hla)
            skip
            go_roundw
            case rel => first | exact ⟨i + 1, _, by omega, by go_num, O9.out, E.out, M.out⟩ | ((repeat apply Exists.intro); exact ⟨⟨i + 1, _, by omega, by go_num, O9.out, E.out, M.out⟩, rfl⟩)
            case measure => simp [intOf]; omega
          · have HF1 := Lib.hid (hev1.symm.trans h1)
            have HF2 := Lib.hid (hev2.symm.trans h2)
            have hpr : precS d (plainU us) j i fi = some (fi.set j (fi.getD j 0 ||| 2 ^ i)) := by unfold precS; rw [h1, h2]; rfl
            have E := Lib.hid (HS1.out.trans hpr)
            have M := Lib.hid (HMI.out _ hpr)
            clear h1 h2 hev1 hev2 hpr
            go_upto_region 14 with (first | (go_at_call 59; (with_reducible refine (fits_any d us g dA uA dc uc _ _ (S0.out.keep HKR.out) hd x y i j HX.out HY.out HOX.out HOY.out true HF1).mono ?_); rintro e w7 ⟨rfl, hk7⟩; have K7 := Lib.hid (HKR.out.trans hk7); have O7 := Lib.hid (OI.out.keep hk7); clear hk7) | (go_at_call 59; (with_reducible refine (fits_any d us g dA uA dc uc _ _ (S0.out.keep K7.out) hd y x j i HY.out HX.out HOY.out HOX.out false HF2).mono ?_); rintro e w8 ⟨rfl, hk8⟩; have K8 := Lib.hid (K7.out.trans hk8); have O8 := Lib.hid (O7.out.keep hk8); clear hk8))
            have hla : j < fi.length := by rw [MI.out.len, HN.out]; omega
            have ca := O8.out.cellMk hla
            have fa := O8.out.frozen (R := mkR) j
            have c28 : w8.cell? ⟨g, 2, none⟩ = some (.slice (some ⟨fb, 0, none⟩) n n) := by have := (S0.out.keep K8.out).blk.cell 2; rw [HN.out] at this; exact this
            have q1 := or_u32 (MI.out.at_ j) (show i < 16 by omega)
            have q1' := q1
            rw [IntKind.wrap_u32] at q1'
            have ia : (0 : Int) ≤ (j : Int) ∧ (j : Int) < (n : Int) := ⟨by omega, by omega⟩
            generalize hfa : fi.getD j 0 = fa0 at *
            have HFA := Lib.hid hfa
            clear hfa
            go_still_tail 11, (by kernel_rfl)
            change wpList _ _ _ _ _ w8.drew
            clear q1 q1' c28
            go_wp2_with fail
            have O9 := Lib.hid ((O8.out.keep ((Keeps.refl w8).drew)).putMk (y := orN fa0 i) hla)
            skip
            go_roundw
            case rel => first | exact ⟨i + 1, _, by omega, by go_num, O9.out, E.out, M.out⟩ | ((repeat apply Exists.intro); exact ⟨⟨i + 1, _, by omega, by go_num, O9.out, E.out, M.out⟩, rfl⟩)
            case measure => simp [intOf]; omega
          · have HF1 := Lib.hid (hev1.symm.trans h1)
            have HF2 := Lib.hid (hev2.symm.trans h2)
            have hpr : precS d (plainU us) j i fi = some fi := by unfold precS; rw [h1, h2]; rfl
            have E := Lib.hid (HS1.out.trans hpr)
            clear h1 h2 hev1 hev2 hpr
            go_wp2_with (first | (go_at_call 59; (with_reducible refine (fits_any d us g dA uA dc uc _ _ (S0.out.keep HKR.out) hd x y i j HX.out HY.out HOX.out HOY.out true HF1).mono ?_); rintro e w7 ⟨rfl, hk7⟩; have K7 := Lib.hid (HKR.out.trans hk7); have O7 := Lib.hid (OI.out.keep hk7); clear hk7) | (go_at_call 59; (with_reducible refine (fits_any d us g dA uA dc uc _ _ (S0.out.keep K7.out) hd y x j i HY.out HX.out HOY.out HOX.out true HF2).mono ?_); rintro e w8 ⟨rfl, hk8⟩; have K8 := Lib.hid (K7.out.trans hk8); have O8 := Lib.hid (O7.out.keep hk8); clear hk8))
            go_roundw
            case rel => first | exact ⟨i + 1, _, by omega, by go_num, O8.out, E.out, MI.out⟩ | ((repeat apply Exists.intro); exact ⟨⟨i + 1, _, by omega, by go_num, O8.out, E.out, MI.out⟩, rfl⟩)
            case measure => simp [intOf]; omega
        · have hij' : i = j := by omega
          subst hij'
          have E := Lib.hid (show precJ d (plainU us) (i + 1) = some fi by rw [precJ, HJ.out]; exact HI.out)
          go_wp2_with fail
          go_roundw
          case rel => first | exact ⟨i + 1, _, by omega, by go_num, OI.out, E.out, MI.out⟩ | ((repeat apply Exists.intro); exact ⟨⟨i + 1, _, by omega, by go_num, OI.out, E.out, MI.out⟩, rfl⟩)
          case measure => simp [intOf]; omega
    · have hjn' : j = n := by omega
      subst hjn'
      go_wp2_with fail
      go_ret
      have hk : Keeps W0 _ := OJ.out.2
      refine prec_yes HJ.out (grown_trans_keeps G0.out hk) (S0.out.keep hk) (OJ.out.recs mkOk).1 MJ.out
end Go.Proofs.Ythkmpegpmpdhaaa
