/- Part of the proofs of TopMoney and TopOrders. Conditions: as stated in each theorem. -/
import Derived.Test.YthkmpegpmpdhaaaF
import Derived.Test.YthkmpegpmpdhaaaM
import Derived.Deep.CutRange
import Derived.StillTailTactics
import Derived.Lib.SliceRun
import Derived.RangeFuncRecord
import Derived.Carry
import Derived.ChangeKeysEq
import Derived.Test.YthkmpegpmpdhaaaRows
import Derived.WalkKit
import Derived.WalkSpells
import Derived.WalkLawsBesides
import Derived.Laws.EntriesVeiled
import Derived.ProofKit
import Derived.OpenShut
import Derived.Lib.Hide
import Derived.BigQuiet
import Derived.Deep.QuietTactic
import Derived.Below
import Derived.Laws.OwnMore
import Derived.Deep.AppendLies
import Derived.Deep.Draws
import Derived.Laws.Rows
import Derived.Maps.AppendAt
import Derived.RegionTactic
import Derived.OwnWalk
import Derived.Deep.RegionHeld3
namespace Go.Proofs.Ythkmpegpmpdhaaa
open Go.ChangeShapes Go.WideShapes Go.ChangeAt Go.RowKit
set_option linter.unusedSimpArgs false
set_option linter.unusedVariables false
/-- The balance of an account, by its number. -/
def balZ : List En → Int → Int
  | [], _ => 0
  | e :: l, x => ((if x = e.t then e.a else 0) - (if x = e.f then e.a else 0)) + balZ l x
theorem balZ_append (l m : List En) (x : Int) : balZ (l ++ m) x = balZ l x + balZ m x := by
  induction l with
  | nil => simp [balZ]
  | cons e l ih => simp only [List.cons_append, balZ, ih]; omega
theorem balZ_nat (l : List En) (k : Nat) : balZ l (k : Int) = balF l k := by
  induction l with
  | nil => rfl
  | cons e l ih => simp only [balZ, balF, bal1, ih]
theorem balZ_bnd {n : Int} {l : List En} (h : ∀ e ∈ l, okEn n e = true) (x : Int) : -(1000000000 * (l.length : Int)) ≤ balZ l x ∧ balZ l x ≤ 1000000000 * (l.length : Int) := by
  induction l with
  | nil => simp [balZ]
  | cons e l ih =>
    have h1 := okEn_iff.1 (h e (by simp))
    have h2 := ih (fun e he => h e (by simp [he]))
    simp only [balZ, List.length_cons]
    split <;> split <;> omega
theorem balZ_next {l : List En} {k : Nat} {e : En} (h : l[k]? = some e) (x : Int) : balZ (l.take (k + 1)) x = balZ (l.take k) x + ((if x = e.t then e.a else 0) - (if x = e.f then e.a else 0)) := by
  rw [List.take_add_one, h, balZ_append]; simp [balZ]
abbrev iv (x : Int) : Value := .int .i64 x
abbrev ieq (a b : Int) : Bool := a == b
abbrev MapI (W : World) (r : Nat) (f : Int → Int) : Prop := ∃ g : Int → Option Value, MapTo iv ieq W r g ∧ ∀ x, (g x).getD (.int .i64 0) = .int .i64 (f x)
theorem int3Keys : KeyLaws Try.prog 3 iv ieq := intKeys Try.underlying3
theorem MapI.look {W : World} {r : Nat} {f : Int → Int} (h : MapI W r f) (x : Int) : (Instr.lookup 69 (.map (some r)) (.int .i64 x) false).run Try.prog W = .ok (.int .i64 (f x)) W := by
  obtain ⟨g, hm, hg⟩ := h
  have := MapTo.look int3Keys Try.underlying69 false hm (.int .i64 0) (by kernel_rfl) x
  rw [this]
  simp [hg x]
theorem MapI.put {W : World} {r : Nat} {f : Int → Int} (h : MapI W r f) (x v : Int) : ∃ W', (Instr.mapUpdate 69 (.map (some r)) (.int .i64 x) (.int .i64 v)).run Try.prog W = .ok () W' ∧ MapI W' r (fun k => if k = x then v else f k) ∧ W.grownBy W' (some r) := by
  obtain ⟨g, hm, hg⟩ := h
  obtain ⟨W', h1, h2, h3⟩ := MapTo.put int3Keys (fun a b => by simp) Try.underlying69 hm x (.int .i64 v)
  refine ⟨W', h1, ⟨_, h2, fun k => ?_⟩, h3⟩
  by_cases e : k = x
  · simp [e]
  · simp [e, hg k]
theorem MapI.lt {W : World} {r : Nat} {f : Int → Int} (h : MapI W r f) : r < W.heap.size := by obtain ⟨g, hm, _⟩ := h; exact hm.lt
theorem MapI.same {W W' : World} {r : Nat} {f : Int → Int} (h : MapI W r f) (e : W'.heap[r]? = W.heap[r]?) : MapI W' r f := by obtain ⟨g, hm, hg⟩ := h; exact ⟨g, hm.same e, hg⟩
theorem MapI.keep {W W' : World} {r : Nat} {f : Int → Int} (h : MapI W r f) (hk : Keeps W W') : MapI W' r f := h.same (hk.block r h.lt)
theorem MapI.congr {W : World} {r : Nat} {f f' : Int → Int} (h : MapI W r f) (e : ∀ x, f x = f' x) : MapI W r f' := by obtain ⟨g, hm, hg⟩ := h; exact ⟨g, hm, fun x => by rw [hg x, e x]⟩
theorem MapI.made (W : World) : MapI (W.alloc (.map #[] 0)) W.heap.size (fun _ => 0) := ⟨fun _ => none, MapTo.made W, fun x => rfl⟩
/-- The row of balances under way. -/
def curB (n k : Nat) (l : List En) : List Int := (List.range n).map fun i => if i < k then balF l i else 0
theorem curB_len (n k : Nat) (l : List En) : (curB n k l).length = n := by simp [curB]
theorem curB_at {n k : Nat} {l : List En} {i : Nat} (h : i < n) : at0 (curB n k l) i = if i < k then balF l i else 0 := at0_get (by simp [curB, h])
theorem curB_set {n k : Nat} {l : List En} (hk : k < n) : (curB n k l).set k (balF l k) = curB n (k + 1) l := by
  refine at0_ext (by simp [curB]) fun i hi => ?_
  have hi' : i < n := by simpa [curB] using hi
  rw [at0_set _ (by simpa [curB] using hk), curB_at hi', curB_at hi']
  by_cases e : i = k
  · subst e; simp
  · rw [if_neg e]
    by_cases c : i < k
    · rw [if_pos c, if_pos (by omega)]
    · rw [if_neg c, if_neg (by omega)]
theorem curB_zero (n : Nat) (l : List En) : curB n 0 l = List.replicate n 0 := by
  refine List.ext_getElem? fun i => ?_
  unfold curB
  rw [List.getElem?_map, List.getElem?_replicate]
  by_cases h : i < n
  · rw [List.getElem?_range h, if_pos h]; simp
  · rw [List.getElem?_eq_none (by simp; omega), if_neg h]; rfl
theorem curB_full (n : Nat) (l : List En) : curB n n l = balL n l := by
  unfold curB balL
  exact List.map_congr_left fun i hi => by rw [if_pos (List.mem_range.1 hi)]
theorem wpList_makeR {α : Type} {R : RowTy α} {P : Program} (ok : RowOk P R) {w0 w : World} {ops : Array Oper} {rest : List Oper} {o : Oper} {a : Act} {Q : Exit → Act → World → Prop} (hgd : o.guard = none) (l c : Operand) (ho : o.op = .makeSlice R.S l c)
    (x0 : α) (z : Value) (hz : (P.info? R.T).map (fun i => i.zero) = some (some z)) (hzc : R.enc x0 = z.cells.toList) (n : Nat) (hl : a.eval l = .int .i64 (n : Int)) (hc : a.eval c = .int .i64 (n : Int)) (hn : n ≤ 1000000) (hw : Keeps w0 w)
    (h : ∀ w', OwnR R w0 w' (.slice (some ⟨w.heap.size, 0, none⟩) n n) (List.replicate n x0) → w.grownBy w' none → wpList P ops Q rest (a.put o.dst (.slice (some ⟨w.heap.size, 0, none⟩) n n)) w') : wpList P ops Q (o :: rest) a w := by
  obtain ⟨i0, z', hi0, hz0, hz1, hz2, hz3⟩ := ok.info
  have e : z' = z := by rw [hi0] at hz; simp only [Option.map_some, Option.some.injEq] at hz; rw [hz0] at hz; injection hz
  subst e
  have hby : i0.bytes * n ≤ 1000 * 1000000 := Nat.mul_le_mul (by rw [hz2]; exact ok.few) hn
  obtain ⟨w', hrun, h1, h2⟩ := run_make_full (P := P) w w0.heap.size R.S R.T i0 z' R.k ok.und hi0 hz0 hz1 .i64 .i64 n (by omega) (by unfold maxLen; omega) hw.size
  refine wpList_plain hgd fun K hK => ?_
  unfold Oper.wp
  simp [execOp, ho, hl, hc, hrun, Result.andThen]
  exact hK _ _ (h w' (OwnR.made ok hw hzc h1 h2) h2)
def BalPost (r : List Int) (w : World) (e : Ending) (w' : World) : Prop := ∃ A c, e = .returned (.tuple #[.slice A r.length c, .int .i64 0]) ∧ RecIn intR w' w'.heap.size A r ∧ Keeps w w'
theorem MapI.set {W : World} {r g i : Nat} {f : Int → Int} (h : MapI W r f) (hne : r ≠ g) (v : Value) : MapI (W.setCell ⟨g, i, none⟩ v) r f := h.same (Below.heap_setCell W ⟨g, i, none⟩ v r hne)
set_option maxHeartbeats 4000000 in
set_option maxRecDepth 100000 in
theorem bal_any (n : Nat) (l : List En) (A : Option Addr) (m c : Nat) (w : World) (hl : RecIn enR w w.heap.size A l) (hm : Hid (m = l.length)) (hm1 : m ≤ 1000) (hn : 1 ≤ n ∧ n ≤ 100) (hok : Hid (∀ e ∈ l, okEn (n : Int) e = true)) :
    Calls Try.prog 7 #[.int .i64 (n : Int), .slice A m c] w (BalPost (balL n l) w) := by
  have HL := Lib.hid hl; clear hl
  have HN := Lib.hid (show (1 : Int) ≤ (n : Int) ∧ (n : Int) ≤ 100 by omega)
  have h1000 : decide (1000 < m) = false := by simp; omega
  have h1000' : decide ((1000 : Int) < (m : Int)) = false := by simp; omega
  have hmm := @run_makeMap Try.prog
  go_enter Try.func7, Try.ntmps7
  go_wp2_with (go_at_call 22; (with_reducible refine (within_yes HN _).mono ?_); rintro e w1 ⟨rfl, rfl⟩)
  go_loopw [18] (fun i wr => ∃ (k : Nat), k ≤ m ∧ i = .int .i64 (k : Int) ∧ Keeps w wr) (fun i _ => m - (intOf i).toNat)
  case atStart => exact ⟨0, by omega, rfl, Keeps.refl _⟩
  case round =>
    obtain ⟨k, hk, rfl, hK⟩ := hrel
    by_cases hkm : k < m
    · have hx : l[k]? = some (l[k]'(by rw [← hm.out]; exact hkm)) := List.getElem?_eq_getElem _
      generalize l[k]'(by rw [← hm.out]; exact hkm) = en at hx
      have HV := Lib.hid (hok.out en (List.mem_of_getElem? hx))
      obtain ⟨bb, off, rfl, hb1, c0, c1, c2, c3⟩ := (HL.out.keep hK).en hx
      obtain ⟨ef, et, ea, er⟩ := en
      (try dsimp only at c0 c1 c2 c3)
      have K3 := Lib.hid (hK.alloc (.cells #[.int .i64 ef, .int .i64 et, .int .i64 ea, .string er] 34))
      have hki : (k : Int) < (m : Int) := by omega
      have hk0 : (0 : Int) ≤ (k : Int) := by omega
      have hkw : IntKind.i64.wrap ((k : Int) + 1) = (k : Int) + 1 := IntWalk.i64_in _ (by omega)
      clear hx hmm
      go_wp2_with (go_at_call 26; (with_reducible refine (valid_yes (n : Int) ef et ea er HV _).mono ?_); rintro e w4 ⟨rfl, hk4⟩)
      have K4 := Lib.hid (K3.out.trans hk4)
      go_roundw
      case rel => first | exact ⟨k + 1, by omega, by go_num, K4.out⟩ | ((repeat apply Exists.intro); exact ⟨⟨k + 1, by omega, by go_num, K4.out⟩, rfl⟩)
      case measure => simp [intOf]; omega
    · generalize wr = w3 at *
      have hm0 := Lib.hid (MapI.made w3)
      have K1 := Lib.hid (hK.alloc (.map #[] 0))
      have hws : w.heap.size ≤ w3.heap.size := hK.size
      have hmm' := hmm
      clear hK
      go_wp2_with fail
      clear hmm hmm'
      go_loopw [33] (fun i wr => ∃ (k : Nat), k ≤ m ∧ i = .int .i64 (k : Int) ∧ MapI wr w3.heap.size (balZ (l.take k)) ∧ Keeps w wr) (fun i _ => m - (intOf i).toNat)
      case atStart => exact ⟨0, by omega, rfl, hm0.out, K1.out⟩
      case round =>
        clear hm0 K1
        obtain ⟨k, hk, rfl, hM, hK⟩ := hrel
        by_cases hkm : k < m
        · have hx : l[k]? = some (l[k]'(by rw [← hm.out]; exact hkm)) := List.getElem?_eq_getElem _
          generalize l[k]'(by rw [← hm.out]; exact hkm) = en at hx
          have hv := okEn_iff.1 (hok.out en (List.mem_of_getElem? hx))
          obtain ⟨bb, off, rfl, hb1, c0, c1, c2, c3⟩ := (HL.out.keep hK).en hx
          have hnx := balZ_next hx
          have hbd := fun x => balZ_bnd (n := (n : Int)) (l := l.take k) (fun e he => hok.out e (List.mem_of_mem_take he)) x
          have hll : ((l.take k).length : Int) ≤ 1000 := by rw [List.length_take]; omega
          obtain ⟨ef, et, ea, er⟩ := en
          (try dsimp only at c0 c1 c2 c3 hv hnx)
          have b1 := hbd ef
          have b2 := hbd et
          have hft := hv.2.2.2.1
          have hea := hv.2.2.2.2.1
          have BE := Blk.new wr 34 #[.int .i64 ef, .int .i64 et, .int .i64 ea, .string er]
          have KE := (Keeps.refl wr).alloc (.cells #[.int .i64 ef, .int .i64 et, .int .i64 ea, .string er] 34)
          have hME := hM.keep KE
          have hlt := hM.lt
          have hl1 := hME.look ef
          obtain ⟨x, hxe⟩ : ∃ x, balZ (l.take k) ef = x := ⟨_, rfl⟩
          obtain ⟨y, hye⟩ : ∃ y, balZ (l.take k) et = y := ⟨_, rfl⟩
          rw [hxe] at hl1 b1
          rw [hye] at b2
          obtain ⟨W1, hp1, hM1, hg1⟩ := hME.put ef (x - ea)
          have hl2 := hM1.look et
          rw [if_neg (fun e => hft e.symm), hye] at hl2
          obtain ⟨W2, hp2, hM2, hg2⟩ := hM1.put et (y + ea)
          have hne : (some w3.heap.size : Option Nat) ≠ some wr.heap.size := by simp; omega
          have BE1 := BE.grown hg1 hne.symm
          have e1 := cell_of_blk BE1 1 rfl
          have e2 := cell_of_blk BE1 2 rfl
          have hw1 : IntKind.i64.wrap (x - ea) = x - ea := IntWalk.i64_in _ (by omega)
          have hw2 : IntKind.i64.wrap (y + ea) = y + ea := IntWalk.i64_in _ (by omega)
          have HM2 := Lib.hid (hM2.congr (f' := balZ (l.take (k + 1))) (fun q => by
            rw [hnx q]
            by_cases q1 : q = et
            · subst q1; rw [if_pos rfl, if_pos rfl, if_neg (fun e => hft e.symm), hye]; omega
            · rw [if_neg q1, if_neg q1]
              by_cases q2 : q = ef
              · subst q2; rw [if_pos rfl, if_pos rfl, hxe]; omega
              · rw [if_neg q2, if_neg q2]; omega))
          have HK2 := Lib.hid (grown_keepsr (grown_keepsr (hK.trans KE) hg1 hws) hg2 hws)
          have hki : (k : Int) < (m : Int) := by omega
          have hk0 : (0 : Int) ≤ (k : Int) := by omega
          have hkw : IntKind.i64.wrap ((k : Int) + 1) = (k : Int) + 1 := IntWalk.i64_in _ (by omega)
          clear hx hnx hbd hv hM hME hM1 hM2 hg1 hg2 BE BE1 KE hK hxe hye b1 b2 hll
          go_wp2_with fail
          go_roundw
          case rel => first | exact ⟨k + 1, by omega, by go_num, HM2.out, HK2.out⟩ | ((repeat apply Exists.intro); exact ⟨⟨k + 1, by omega, by go_num, HM2.out, HK2.out⟩, rfl⟩)
          case measure => simp [intOf]; omega
        · generalize wr = w4 at *
          have e : l.take k = l := List.take_of_length_le (by have := hm.out; omega)
          rw [e] at hM
          have HM := Lib.hid hM; have HK := Lib.hid hK
          have hlt := hM.lt
          clear hM hK e
          go_wp2_with (at_make; refine wpList_makeR intOk (w0 := w4) rfl (.tmp 52) (.tmp 52) rfl 0 (.int .i64 0) (by kernel_rfl) rfl n rfl rfl (by omega) (Keeps.refl _) ?_; intro w5 ho5 hg5; have HO5 := Lib.hid ho5; clear ho5)
          have HM5 := Lib.hid (HM.out.keep HO5.out.2)
          go_loopw [56] (fun i wr => ∃ (k : Nat), k ≤ n ∧ i = .int .i64 (k : Int) ∧ OwnR intR w4 wr (.slice (some ⟨w4.heap.size, 0, none⟩) n n) (curB n k l) ∧ MapI wr w3.heap.size (balZ l)) (fun i _ => n - (intOf i).toNat)
          case atStart => exact ⟨0, by omega, rfl, by rw [curB_zero]; exact HO5.out, HM5.out⟩
          case round =>
            clear HO5 HM5 hg5
            obtain ⟨k, hk, rfl, hO, hM⟩ := hrel
            have HO := Lib.hid hO; have HM5 := Lib.hid hM
            by_cases hkn : k < n
            · have hl1 := hM.look (k : Int)
              rw [balZ_nat] at hl1
              have f0 := hO.frozen k
              have d0 := own_cell hO (j := k) (by rw [curB_len]; exact hkn)
              have HS := own_set hO (balF l k) (by rw [curB_len]; exact hkn)
              rw [curB_set hkn] at HS
              have HS := Lib.hid HS
              have HM6 := Lib.hid (hM.set (g := w4.heap.size) (i := k) (by omega) (.int .i64 (balF l k)))
              have hki : (k : Int) < (n : Int) := by omega
              have hk0 : (0 : Int) ≤ (k : Int) := by omega
              have hkw : IntKind.i64.wrap ((k : Int) + 1) = (k : Int) + 1 := IntWalk.i64_in _ (by omega)
              clear hO hM
              go_wp2_with fail
              go_roundw
              case rel => first | exact ⟨k + 1, by omega, by go_num, HS.out, HM6.out⟩ | ((repeat apply Exists.intro); exact ⟨⟨k + 1, by omega, by go_num, HS.out, HM6.out⟩, rfl⟩)
              case measure => simp [intOf]; omega
            · obtain rfl : k = n := by omega
              rw [curB_full] at HO
              clear hO hM
              go_wp2_with fail
              go_ret2
              exact ⟨_, k, by rw [balL_len]; rfl, (HO.out.recs intOk).1, HK.out.trans HO.out.2⟩
end Go.Proofs.Ythkmpegpmpdhaaa
