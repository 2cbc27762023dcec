/- Part of the proofs of TopMoney and TopOrders. Conditions: as stated in each theorem. -/
import Derived.Test.YthkmpegpmpdhaaaHo
import Derived.Deep.CutRange
import Derived.StillTailTactics
import Derived.Lib.SliceRun
import Derived.RangeFuncRecord
import Derived.Carry
import Derived.ChangeKeysEq
import Derived.Shelf.SlSortCmp.Insertion1
import Derived.Shelf.Lay
import Derived.Ground.SlsfProg
import Derived.Sort.LotA
import Derived.Test.YthkmpegpmpdhaaaRows
import Derived.WalkKit
import Derived.WalkSpells
import Derived.WalkLawsBesides
import Derived.Laws.EntriesVeiled
import Derived.ProofKit
import Derived.OpenShut
import Derived.Lib.Hide
import Derived.BigQuiet
import Derived.Deep.QuietTactic
import Derived.Below
import Derived.Laws.OwnMore
import Derived.Deep.AppendLies
import Derived.Deep.Draws
import Derived.Laws.Rows
import Derived.Maps.AppendAt
import Derived.RegionTactic
import Derived.OwnWalk
import Derived.Deep.RegionHeld3
namespace Go.Proofs.Ythkmpegpmpdhaaa
open Go.Shelf Go.Sort Go.ChangeShapes Go.WideShapes Go.ChangeAt Go.RowKit
set_option linter.unusedSimpArgs false
set_option linter.unusedVariables false
def usedOf (n : Nat) (out : List Nat) : List Bool := (List.range n).map fun i => decide (i ∈ out)
theorem used_at {n i : Nat} {out : List Nat} (h : i < n) : (usedOf n out)[i]? = some (decide (i ∈ out)) := by simp [usedOf, h]
theorem used_len (n : Nat) (out : List Nat) : (usedOf n out).length = n := by simp [usedOf]
theorem used_nil (n : Nat) : usedOf n [] = List.replicate n false := by
  refine List.ext_getElem? fun k => ?_
  by_cases h : k < n
  · rw [used_at h]; simp [h]
  · rw [List.getElem?_eq_none (by simp [usedOf]; omega), List.getElem?_eq_none (by simp; omega)]
theorem used_set {n m : Nat} {out : List Nat} (h : m < n) : (usedOf n out).set m true = usedOf n (out ++ [m]) := by
  refine List.ext_getElem? fun k => ?_
  by_cases hk : k < n
  · rw [List.getElem?_set, used_at hk, used_at hk]
    by_cases e : m = k
    · subst e; simp [used_len, h]
    · have e2 : ¬ k = m := fun x => e x.symm
      simp [e, e2]
  · rw [List.getElem?_eq_none (by simp [usedOf]; omega), List.getElem?_eq_none (by simp [usedOf]; omega)]
theorem OwnR.putBo {w0 w : World} {g n cap : Nat} {l : List Bool} (h : OwnR boR w0 w (.slice (some ⟨g, 0, none⟩) n cap) l) {j : Nat} (y : Bool) (hj : j < l.length) : OwnR boR w0 (w.setCell ⟨g, j, none⟩ (.bool y)) (.slice (some ⟨g, 0, none⟩) n cap) (l.set j y) := by
  have := OwnR.put (R := boR) (fun _ => rfl) h (j := j) (i := 0) (x := l[j]) (x' := y) (u := .bool y) (List.getElem?_eq_getElem hj) (by decide) rfl
  simpa using this
theorem OwnR.cellBo {w0 w : World} {g n cap : Nat} {l : List Bool} (h : OwnR boR w0 w (.slice (some ⟨g, 0, none⟩) n cap) l) {j : Nat} {x : Bool} (hj : l[j]? = some x) : w.cell? ⟨g, j, none⟩ = some (.bool x) := by
  obtain ⟨b, off, e, _, hc⟩ := (h.recs boOk).1.bo hj
  cases e
  rw [Nat.zero_add] at hc
  exact hc
def FirstK (d : List (List Int)) (es : List Ev) (ts : List Int) (out : List Nat) (i k : Nat) : Prop := i ∉ out ∧ ∀ k', k' < k → k' ∉ out → FarI d es ts i k'
def NextI (d : List (List Int)) (es : List Ev) (ts : List Int) (out : List Nat) (n i : Nat) (nx : Int) : Prop := (nx = -1 ∧ ∀ i', i' < i → ¬ FirstK d es ts out i' n) ∨ ∃ m : Nat, nx = (m : Int) ∧ m < i ∧ FirstK d es ts out m n
theorem NextI.skip {d : List (List Int)} {es : List Ev} {ts : List Int} {out : List Nat} {n i : Nat} {nx : Int} (h : NextI d es ts out n i nx) (hi : ¬ FirstK d es ts out i n ∨ 0 ≤ nx) : NextI d es ts out n (i + 1) nx := by
  rcases h with ⟨h1, h2⟩ | ⟨m, h1, h2, h3⟩
  · refine .inl ⟨h1, fun i' hi' => ?_⟩
    rcases Nat.lt_or_ge i' i with h | h
    · exact h2 i' h
    · obtain rfl : i' = i := by omega
      rcases hi with hi | hi
      · exact hi
      · omega
  · exact .inr ⟨m, h1, by omega, h3⟩
theorem NextI.found {d : List (List Int)} {es : List Ev} {ts : List Int} {out : List Nat} {n i : Nat} (hi : FirstK d es ts out i n) : NextI d es ts out n (i + 1) (i : Int) := .inr ⟨i, rfl, by omega, hi⟩
theorem FirstK.next {d : List (List Int)} {es : List Ev} {ts : List Int} {out : List Nat} {i k : Nat} (hk : k ∈ out ∨ FarI d es ts i k) : FirstK d es ts out i (k + 1) ↔ FirstK d es ts out i k := by
  constructor
  · exact fun h => ⟨h.1, fun k' hk' hn => h.2 k' (by omega) hn⟩
  · refine fun h => ⟨h.1, fun k' hk' hn => ?_⟩
    rcases Nat.lt_or_ge k' k with h2 | h2
    · exact h.2 k' h2 hn
    · obtain rfl : k' = k := by omega
      exact hk.resolve_left hn
theorem FirstK.stop {d : List (List Int)} {es : List Ev} {ts : List Int} {out : List Nat} {i k : Nat} (hk : k ∉ out) (hf : ¬ FarI d es ts i k) : ¬ FirstK d es ts out i (k + 1) := fun h => hf (h.2 k (by omega) hk)
/-- What w21Sequence answers. -/
def SeqPost (d : List (List Int)) (es : List Ev) (ts : List Int) (w : World) (e : Ending) (w' : World) : Prop := ∃ A n c out, e = .returned (.slice A n c) ∧ Hid (n = es.length) ∧ RecIn natR w' w'.heap.size A out ∧ out.length = es.length ∧ SeqI d es ts out ∧ Keeps w w'
def slenQ : Value → Nat | .slice _ n _ => n | _ => 0
set_option maxRecDepth 100000 in
set_option maxHeartbeats 8000000 in
theorem seq_any (d : List (List Int)) (l : List EvC) (ts : List Int) (dA eA tA : Option Addr) (N dc n ec tc : Nat) (w : World) (h : NumRows w w.heap.size dA d) (hd : DistOk d) (hN : Hid (d.length = N)) (he : RecIn evR w w.heap.size eA l) (hln : Hid (n = l.length)) (hn : n ≤ 15)
    (ho : ∀ e ∈ l, isOff d e.1.o) (ht : RecIn intR w w.heap.size tA ts) (htn : Hid (n = ts.length)) (hh : HoldsP d (l.map (·.1)) ts) :
    Calls Try.prog 17 #[.slice dA N dc, .slice eA n ec, .slice tA n tc] w (SeqPost d (l.map (·.1)) ts w) := by
  have HD := Lib.hid h
  have HE := Lib.hid he
  have HT := Lib.hid ht
  have HO := Lib.hid ho
  have HH := Lib.hid hh
  have HEL := Lib.hid (show (l.map (·.1)).length = n by simp; exact hln.out.symm)
  have HOE := Lib.hid (show ∀ e ∈ l.map (·.1), isOff d e.o from fun e he => by obtain ⟨x, hx, rfl⟩ := List.mem_map.1 he; exact ho x hx)
  obtain ⟨es, hes⟩ : ∃ es, l.map (·.1) = es := ⟨_, rfl⟩
  have HES := Lib.hid hes
  rw [hes] at HH HEL HOE
  rw [hes]
  clear h he ht ho hh hes
  go_enter Try.func17, Try.ntmps17
  go_wp2_with (at_make; refine wpList_makeR boOk (w0 := w) rfl (.tmp 14) (.tmp 14) rfl false (.bool false) (by kernel_rfl) rfl n rfl rfl (by omega) (Keeps.refl _) ?_; intro w1 ho1 hg1; have O1 := Lib.hid ho1; clear ho1 hg1)
  have N1 := Lib.hid ((OwnR.nil (R := natR) w).keep O1.out.2)
  rw [← used_nil] at O1
  go_loopw [7] (fun v wr => ∃ (out : List Nat) (A : Option Addr) (n1 cc : Nat), v = .slice A n1 cc ∧ OwnR natR w wr (.slice A n1 cc) out ∧ OwnR boR w wr (.slice (some ⟨w.heap.size, 0, none⟩) n n) (usedOf n out) ∧ SeqI d es ts out) (fun v _ => n - slenQ v)
  case atStart => exact ⟨[], none, 0, 0, rfl, N1.out, O1.out, SeqI.nil d es ts⟩
  case round =>
    clear N1 O1
    obtain ⟨out, A, n1, cc, rfl, hO, hU, hS⟩ := hrel
    have OO := Lib.hid hO; have OU := Lib.hid hU; have SI := Lib.hid hS
    obtain ⟨ho1, ho2⟩ := hO.recs natOk
    have HN1 := Lib.hid ho2
    have hle : n1 ≤ n := by rw [ho2, ← HEL.out]; exact (nodup_full es.length out hS.nd hS.lt).1
    clear hO hU hS ho1 ho2
    by_cases hnn : n1 < n
    · have hni : (n1 : Int) < (n : Int) := by omega
      have HAS := Lib.hid (SI.out.has hd HOE.out HH.out (by rw [HEL.out, ← HN1.out]; exact hnn))
      go_wp2_with fail
      go_loopw [9, 10, 11, 12] (fun nx c _ _ wr => ∃ (i : Nat) (nv : Int), i ≤ n ∧ c = .int .i64 (i : Int) ∧ nx = .int .i64 nv ∧ NextI d es ts out n i nv ∧ OwnR natR w wr (.slice A n1 cc) out ∧ OwnR boR w wr (.slice (some ⟨w.heap.size, 0, none⟩) n n) (usedOf n out)) (fun _ c _ _ _ => n - (intOf c).toNat)
      case atStart => exact ⟨0, -1, by omega, rfl, rfl, .inl ⟨rfl, fun i' hi' => absurd hi' (by omega)⟩, OO.out, OU.out⟩
      case round =>
        clear OO OU
        obtain ⟨i, nv, hi, rfl, rfl, hX, hO, hU⟩ := hrel
        have OO := Lib.hid hO; have OU := Lib.hid hU; have NX := Lib.hid hX
        clear hO hU hX
        by_cases hin : i < n
        · have hii : (i : Int) < (n : Int) := by omega
          have hi0 : (0 : Int) ≤ (i : Int) := by omega
          have hi01 : (0 : Int) ≤ (i : Int) ∧ (i : Int) < (n : Int) := ⟨hi0, hii⟩
          have hiw : IntKind.i64.wrap ((i : Int) + 1) = (i : Int) + 1 := wrap_in (by omega) (by omega)
          have cu := OU.out.cellBo (used_at (out := out) hin)
          obtain ⟨x, hx⟩ : ∃ x, l[i]? = some x := ⟨_, List.getElem?_eq_getElem (by rw [← hln.out]; exact hin)⟩
          have HX := Lib.hid hx
          have HOX := Lib.hid (HO.out x (List.mem_of_getElem? hx))
          have hofx := offA_of (es := es) (u := i) (e := x.1) (by rw [← HES.out]; simp [hx])
          have HOFX := Lib.hid hofx
          obtain ⟨ub, hub⟩ : ∃ b, decide (i ∈ out) = b := ⟨_, rfl⟩
          rw [hub] at cu
          have HUB := Lib.hid hub
          clear hx hofx hub
          go_wp2_with fail
          clear cu
          go_loopw [11, 12] (fun f c wr => ∃ (k : Nat) (fb : Bool), k ≤ n ∧ c = .int .i64 (k : Int) ∧ f = .bool fb ∧ (fb = true ↔ FirstK d es ts out i k) ∧ OwnR natR w wr (.slice A n1 cc) out ∧ OwnR boR w wr (.slice (some ⟨w.heap.size, 0, none⟩) n n) (usedOf n out)) (fun _ c _ => n - (intOf c).toNat)
          case atStart => exact ⟨0, !ub, by omega, rfl, rfl, by rw [← HUB.out]; simp [FirstK], OO.out, OU.out⟩
          case round =>
            clear OO OU
            obtain ⟨k, fb, hk, rfl, rfl, hF, hO, hU⟩ := hrel
            have OO := Lib.hid hO; have OU := Lib.hid hU; have FB := Lib.hid hF
            have hK : Keeps w wr := hO.2
            clear hO hU hF
            by_cases hkn : k < n
            · have hki : (k : Int) < (n : Int) := by omega
              have hk0 : (0 : Int) ≤ (k : Int) := by omega
              have hk01 : (0 : Int) ≤ (k : Int) ∧ (k : Int) < (n : Int) := ⟨hk0, hki⟩
              have hkw : IntKind.i64.wrap ((k : Int) + 1) = (k : Int) + 1 := wrap_in (by omega) (by omega)
              have ck := OU.out.cellBo (used_at (out := out) hkn)
              obtain ⟨y, hy⟩ : ∃ y, l[k]? = some y := ⟨_, List.getElem?_eq_getElem (by rw [← hln.out]; exact hkn)⟩
              have hoy := HO.out y (List.mem_of_getElem? hy)
              have hofy := offA_of (es := es) (u := k) (e := y.1) (by rw [← HES.out]; simp [hy])
              obtain ⟨eb, eo, hEA, heb, e_i, -, -, -⟩ := (HE.out.keep hK).ev HX.out
              subst hEA
              obtain ⟨eb', eo', e, -, e_k, -, -, -⟩ := (HE.out.keep hK).ev hy
              cases e
              obtain ⟨tb, tf, hTA, htb, t_i⟩ := (HT.out.keep hK).int (get_at0 (l := ts) (i := i) (by have := htn.out; omega))
              subst hTA
              obtain ⟨tb', tf', e, -, t_k⟩ := (HT.out.keep hK).int (get_at0 (l := ts) (i := k) (by have := htn.out; omega))
              cases e
              obtain ⟨db, df, A', c', b2, f2, hDA, hdb, dr, hA', hb2, dc⟩ := rows_at (HD.out.keep hK) hd HOX.out hoy
              subst hDA hA'
              have hff := first_far hd HOE.out HH.out (i := i) (k := k) (by rw [HEL.out]; exact hin) (by rw [HEL.out]; exact hkn)
              rw [HOFX.out, hofy] at hff
              have i3 : (0 : Int) ≤ x.1.o ∧ x.1.o < (N : Int) := by have := HOX.out; rw [← hN.out]; exact this
              have i4 : (0 : Int) ≤ y.1.o ∧ y.1.o < (N : Int) := by rw [← hN.out]; exact hoy
              rw [hN.out] at dr
              obtain ⟨xo, hxo⟩ : ∃ q, x.1.o = q := ⟨_, rfl⟩
              obtain ⟨yo, hyo⟩ : ∃ q, y.1.o = q := ⟨_, rfl⟩
              obtain ⟨ti, hti⟩ : ∃ q, at0 ts i = q := ⟨_, rfl⟩
              obtain ⟨tk, htk⟩ : ∃ q, at0 ts k = q := ⟨_, rfl⟩
              rw [hxo] at e_i i3 dr dc hff
              rw [hyo] at e_k i4 dc hff
              rw [hti] at t_i hff
              rw [htk] at t_k hff
              obtain ⟨dv, hdv⟩ : ∃ q, dist d xo yo = q := ⟨_, rfl⟩
              rw [hdv] at dc hff
              have HFF := Lib.hid hff
              clear hff hxo hyo hti htk hdv hy hoy hofy hK
              by_cases hm : k ∈ out
              · have u1 : decide (k ∈ out) = true := by simpa using hm
                rw [u1] at ck
                have FN := Lib.hid (FB.out.trans (FirstK.next (d := d) (es := es) (ts := ts) (i := i) (.inl hm)).symm)
                clear u1 hm
                go_wp2_with fail
                go_quiet (fail)
                have OO2 := Lib.hid (OO.out.keep ((Keeps.refl wr).drewN nq)); have OU2 := Lib.hid (OU.out.keep ((Keeps.refl wr).drewN nq))
                clear ck t_k t_i e_k e_i dr dc
                go_wp2_with fail
                go_roundw
                case rel => first | exact ⟨k + 1, _, by omega, by go_num, rfl, FN.out, OO2.out, OU2.out⟩ | ((repeat apply Exists.intro); exact ⟨⟨k + 1, _, by omega, by go_num, rfl, FN.out, OO2.out, OU2.out⟩, rfl⟩)
                case measure => simp [intOf]; omega
              · have u1 : decide (k ∈ out) = false := by simpa using hm
                rw [u1] at ck
                have HM := Lib.hid hm
                clear u1 hm
                by_cases h1 : tk < ti
                · have t1 : decide (tk < ti) = true := by simpa using h1
                  have FN := Lib.hid (show (false = true) ↔ FirstK d es ts out i (k + 1) from ⟨fun h => (by cases h), fun h => absurd h (FirstK.stop HM.out (fun hf => (HFF.out.1 hf) (.inl h1)))⟩)
                  clear h1
                  go_wp2_with fail
                  go_quiet (fail)
                  have OO2 := Lib.hid (OO.out.keep ((Keeps.refl wr).drewN nq)); have OU2 := Lib.hid (OU.out.keep ((Keeps.refl wr).drewN nq))
                  clear ck t_k t_i e_k e_i dr dc
                  go_wp2_with fail
                  go_roundw
                  case rel => first | exact ⟨k + 1, _, by omega, by go_num, rfl, FN.out, OO2.out, OU2.out⟩ | ((repeat apply Exists.intro); exact ⟨⟨k + 1, _, by omega, by go_num, rfl, FN.out, OO2.out, OU2.out⟩, rfl⟩)
                  case measure => simp [intOf]; omega
                · have t1 : decide (tk < ti) = false := by simpa using h1
                  by_cases h2 : tk = ti
                  · have t2 : (tk == ti) = true := by simpa using h2
                    by_cases h3 : dv = 0
                    · have t3 : (dv != 0) = false := by simp [h3]
                      have FN := Lib.hid (FB.out.trans (FirstK.next (d := d) (es := es) (ts := ts) (i := i) (.inr (HFF.out.2 (fun h => h.elim h1 (fun h => h.2 h3))))).symm)
                      clear h3 h2
                      go_wp2_with fail
                      go_quiet (fail)
                      have OO2 := Lib.hid (OO.out.keep ((Keeps.refl wr).drewN nq)); have OU2 := Lib.hid (OU.out.keep ((Keeps.refl wr).drewN nq))
                      clear ck t_k t_i e_k e_i dr dc
                      go_wp2_with fail
                      go_roundw
                      case rel => first | exact ⟨k + 1, _, by omega, by go_num, rfl, FN.out, OO2.out, OU2.out⟩ | ((repeat apply Exists.intro); exact ⟨⟨k + 1, _, by omega, by go_num, rfl, FN.out, OO2.out, OU2.out⟩, rfl⟩)
                      case measure => simp [intOf]; omega
                    · have t3 : (dv != 0) = true := by simpa using h3
                      have FN := Lib.hid (show (false = true) ↔ FirstK d es ts out i (k + 1) from ⟨fun h => (by cases h), fun h => absurd h (FirstK.stop HM.out (fun hf => (HFF.out.1 hf) (.inr ⟨h2, h3⟩)))⟩)
                      clear h3 h2
                      go_wp2_with fail
                      go_quiet (fail)
                      have OO2 := Lib.hid (OO.out.keep ((Keeps.refl wr).drewN nq)); have OU2 := Lib.hid (OU.out.keep ((Keeps.refl wr).drewN nq))
                      clear ck t_k t_i e_k e_i dr dc
                      go_wp2_with fail
                      go_roundw
                      case rel => first | exact ⟨k + 1, _, by omega, by go_num, rfl, FN.out, OO2.out, OU2.out⟩ | ((repeat apply Exists.intro); exact ⟨⟨k + 1, _, by omega, by go_num, rfl, FN.out, OO2.out, OU2.out⟩, rfl⟩)
                      case measure => simp [intOf]; omega
                  · have t2 : (tk == ti) = false := by simpa using h2
                    have FN := Lib.hid (FB.out.trans (FirstK.next (d := d) (es := es) (ts := ts) (i := i) (.inr (HFF.out.2 (fun h => h.elim h1 (fun h => h2 h.1))))).symm)
                    clear h2
                    go_wp2_with fail
                    go_quiet (fail)
                    have OO2 := Lib.hid (OO.out.keep ((Keeps.refl wr).drewN nq)); have OU2 := Lib.hid (OU.out.keep ((Keeps.refl wr).drewN nq))
                    clear ck t_k t_i e_k e_i dr dc
                    go_wp2_with fail
                    go_roundw
                    case rel => first | exact ⟨k + 1, _, by omega, by go_num, rfl, FN.out, OO2.out, OU2.out⟩ | ((repeat apply Exists.intro); exact ⟨⟨k + 1, _, by omega, by go_num, rfl, FN.out, OO2.out, OU2.out⟩, rfl⟩)
                    case measure => simp [intOf]; omega
            · have hke : k = n := by omega
              subst hke
              clear hK
              cases fb
              · have FN := Lib.hid (NX.out.skip (.inl (fun h => by have := FB.out.2 h; cases this)))
                go_wp2_with fail
                go_roundw
                case rel => first | exact ⟨i + 1, _, by omega, by go_num, rfl, FN.out, OO.out, OU.out⟩ | ((repeat apply Exists.intro); exact ⟨⟨i + 1, _, by omega, by go_num, rfl, FN.out, OO.out, OU.out⟩, rfl⟩)
                case measure => simp [intOf]; omega
              · by_cases h0 : nv < 0
                · have t1 : decide (nv < 0) = true := by simpa using h0
                  have FN := Lib.hid (NextI.found (FB.out.1 rfl))
                  go_wp2_with fail
                  go_roundw
                  case rel => first | exact ⟨i + 1, _, by omega, by go_num, rfl, FN.out, OO.out, OU.out⟩ | ((repeat apply Exists.intro); exact ⟨⟨i + 1, _, by omega, by go_num, rfl, FN.out, OO.out, OU.out⟩, rfl⟩)
                  case measure => simp [intOf]; omega
                · have t1 : decide (nv < 0) = false := by simpa using h0
                  have FN := Lib.hid (NX.out.skip (.inr (by omega)))
                  go_wp2_with fail
                  go_roundw
                  case rel => first | exact ⟨i + 1, _, by omega, by go_num, rfl, FN.out, OO.out, OU.out⟩ | ((repeat apply Exists.intro); exact ⟨⟨i + 1, _, by omega, by go_num, rfl, FN.out, OO.out, OU.out⟩, rfl⟩)
                  case measure => simp [intOf]; omega
        · have hie : i = n := by omega
          subst hie
          obtain ⟨m, hm0, hmi, hmf⟩ : ∃ m : Nat, nv = (m : Int) ∧ m < i ∧ FirstK d es ts out m i := by
            rcases NX.out with ⟨_, h2⟩ | h
            · obtain ⟨q, hq1, hq2, hq3⟩ := HAS.out
              rw [HEL.out] at hq1 hq3
              exact absurd ⟨hq2, hq3⟩ (h2 q hq1)
            · exact h
          subst hm0
          have SN := Lib.hid (SI.out.step (i := m) (by rw [HEL.out]; exact hmi) hmf.1 (by rw [HEL.out]; exact hmf.2))
          have m01 : (0 : Int) ≤ (m : Int) ∧ (m : Int) < (i : Int) := ⟨by omega, by omega⟩
          have t1 : decide ((m : Int) < 0) = false := by simp
          have cu := OU.out.cellBo (used_at (out := out) hmi)
          have fu := OU.out.frozen m
          have US := Lib.hid (used_set (out := out) hmi)
          clear hmf
          go_upto_region 19 with fail
          have U4 := Lib.hid (OU.out.putBo true (by rw [used_len]; exact hmi))
          rw [US.out] at U4
          have O4 := Lib.hid (OO.out.grown (grown_set (World.grownBy.refl _ (some w.heap.size)) m (.bool true)) (.inr (fun e => by have h := own_apart OU.out OO.out (by decide) (by simp [Value.ownBlock]); exact h (by rw [e]; rfl))) (fun k' hk' => by cases hk'; exact Nat.le_refl _))
          clear cu fu
          generalize World.setCell _ ⟨w.heap.size, m, none⟩ (.bool true) = W4 at *
          have O5 := Lib.hid (O4.out.keep ((Keeps.refl W4).alloc (.cells #[.int .i64 (m : Int)] 3)))
          have U5 := Lib.hid (U4.out.keep ((Keeps.refl W4).alloc (.cells #[.int .i64 (m : Int)] 3)))
          have X5 := Lib.hid (RecIn.lit natOk W4 [m] #[.int .i64 (m : Int)] rfl)
          have ONE := Lib.hid (show 1 = [m].length from rfl)
          have L1 := Lib.hid (show out.length + [m].length ≤ 1000000 by rw [← HN1.out]; simp; omega)
          go_wp2_with (at_builtin; refine wpList_appR natOk rfl (.tmp 94) (.tmp 96) rfl (.slice A n1 cc) out rfl O5.out _ _ _ [m] rfl X5.out ONE L1 ?_; intro A6 n6 c6 w6 ho6 hg6; have O6 := Lib.hid ho6; have U6 := Lib.hid (U5.out.grown hg6 (.inr (fun e => by have h := own_apart U5.out O5.out (by decide) (by simp [Value.ownBlock]); exact h e)) (fun k' hk' => (own_lt O5.out.1 hk').1)); clear ho6 hg6)
          have hn6 : n6 = n1 + 1 := by rw [(O6.out.recs natOk).2, HN1.out]; simp
          go_roundw
          case rel => first | exact ⟨_, _, _, _, rfl, O6.out, U6.out, SN.out⟩ | ((repeat apply Exists.intro); exact ⟨⟨_, _, _, _, rfl, O6.out, U6.out, SN.out⟩, rfl⟩)
          case measure => simp [slenQ]; omega
    · go_wp2_with fail
      go_ret
      obtain ⟨h1, h2⟩ := OO.out.recs natOk
      exact ⟨A, n1, cc, out, rfl, Lib.hid (by rw [HEL.out]; omega), h1, by rw [HEL.out, ← HN1.out]; omega, SI.out, OO.out.2⟩
end Go.Proofs.Ythkmpegpmpdhaaa
