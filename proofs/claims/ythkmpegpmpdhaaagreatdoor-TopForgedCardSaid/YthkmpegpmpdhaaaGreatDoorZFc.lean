/- Part of the proof of TopForged. Conditions: as stated in each theorem. -/
import Derived.Test.YthkmpegpmpdhaaaGreatDoorZFa
import Derived.Test.YthkmpegpmpdhaaaGreatDoorProg
import Derived.WalkMore
import Derived.Maps.OwnIn
import Derived.Deep.LoopGhost
import Derived.RangeFuncNested
import Derived.RangeFuncCalls
import Derived.RangeFuncLeaves
import Derived.RangeFuncWrites
import Derived.Shelf.Abstract
import Derived.Shelf.RegionOpen
import Derived.OwnWalkIn
import Derived.TacticsInMore
import Derived.LoopNIn
import Derived.LoopIn
import Derived.RangeFuncBound
import Derived.WalkKit
import Derived.WalkSpells
import Derived.WalkLawsBesides
import Derived.Laws.EntriesVeiled
import Derived.ProofKit
import Derived.OpenShut
import Derived.Lib.Hide
import Derived.BigQuiet
import Derived.Deep.QuietTactic
import Derived.Deep.CutRange
import Derived.StillTailTactics
import Derived.Lib.SliceRun
import Derived.RangeFuncRecord
import Derived.Carry
import Derived.ChangeKeysEq
import Derived.Below
import Derived.Laws.OwnMore
import Derived.Deep.AppendLies
import Derived.Deep.Draws
import Derived.Laws.Rows
import Derived.Maps.AppendAt
import Derived.RegionTactic
import Derived.OwnWalk
import Derived.Deep.RegionHeld3
namespace Go.Proofs.YthkmpegpmpdhaaaGreatDoor
section
open Go.Shelf Go.ChangeShapes Go.WideShapes Go.ChangeAt Go.RowKit
set_option linter.unusedSimpArgs false
set_option linter.unusedVariables false
theorem own_blk {α : Type} {R : RowTy α} {w0 w : World} {v : Value} {l : List α} (h : OwnR R w0 w v l) {g : Nat} (e : v.ownBlock = some g) : ∃ cs, Blk w g R.T cs := by
  rcases h.1.2 with ⟨rfl, h0⟩ | ⟨g', cap', cur, rfl, hb, hg, _⟩
  · cases e
  · have : g' = g := by injection e
    subst this
    exact ⟨cur, hg⟩
/-- The numbers of a row lie in a block of numbers. -/
def NRow (w : World) (r : Rw) : Prop := r.l ≠ [] → ∃ (b : Nat) (cs : Array Value), r.A = some ⟨b, 0, none⟩ ∧ Blk w b 3 cs ∧ ∀ (j : Nat) (x : Int), r.l[j]? = some x → cs[j]? = some (Value.int IntKind.i64 x)
theorem NRow.recs {w : World} {r : Rw} (h : NRow w r) : RecIn intR w w.heap.size r.A r.l := fun j x hj => by
  obtain ⟨b, cs, e, hb, hc⟩ := h (fun e => by rw [e] at hj; simp at hj)
  refine ⟨b, 0, e, hb.lt, fun i u hu => ?_⟩
  have hi : i = 0 := by have := (List.getElem?_eq_some_iff.1 hu).1; simpa using this
  subst hi
  have hu' : u = .int .i64 x := by simpa using hu.symm
  subst hu'
  have e2 : 0 + j * intR.k + 0 = j := by show 0 + j * 1 + 0 = j; omega
  rw [e2, hb.cell j]
  exact hc j x hj
theorem NRow.keep {w w' : World} {r : Rw} (h : NRow w r) (hk : Keeps w w') : NRow w' r := by
  intro hn
  obtain ⟨b, cs, e, hb, hc⟩ := h hn
  exact ⟨b, cs, e, hb.below hk hb.lt, hc⟩
theorem NRow.grown {w w' : World} {r : Rw} {row : Option Nat} (h : NRow w r) (hg : w.grownBy w' row) (hne : ∀ g, row = some g → ∃ t cs, Blk w g t cs ∧ t ≠ 3) : NRow w' r := by
  intro hn
  obtain ⟨b, cs, e, hb, hc⟩ := h hn
  refine ⟨b, cs, e, hb.grown hg (fun e2 => ?_), hc⟩
  obtain ⟨t, cs', hb', ht⟩ := hne b e2.symm
  exact hb.ne_ hb' (fun e => ht e.symm) rfl
theorem NRow.far {w : World} {r : Rw} (h : NRow w r) {p : Addr} (u : Value) {t : TypeId} {cs' : Array Value} (hp : Blk w p.block t cs') (ht : t ≠ 3) : NRow (w.setCell p u) r := by
  intro hn
  obtain ⟨b, cs, e, hb, hc⟩ := h hn
  exact ⟨b, cs, e, hb.far (hb.ne_ hp (fun e => ht e.symm)) u, hc⟩
theorem NRow.own {w0 w : World} {A : Option Addr} {n c k : Nat} {l : List Int} (h : OwnR intR w0 w (.slice A n c) l) : NRow w ⟨l, A, k⟩ := by
  intro hn
  rcases h.1.2 with ⟨_, h0⟩ | ⟨g, cap, cur, e, hb, hg, hnc, hcap, hsz, hcur⟩
  · exact absurd (List.eq_nil_of_length_eq_zero h0) hn
  · injection e with e1 e2 e3
    refine ⟨g, cur, e1, hg, fun j x hj => ?_⟩
    have h1 := recCells_at (R := intR) (fun _ => rfl) l j x 0 (.int .i64 x) hj rfl
    rw [← hcur] at h1
    have e3 : j * intR.k + 0 = j := by show j * 1 + 0 = j; omega
    rw [e3, List.getElem?_take] at h1
    split at h1
    · simpa using h1
    · cases h1
theorem NRow.lit {w : World} {l : List Int} {cs : Array Value} {k : Nat} (h : cs.toList = recCells intR l) : NRow (w.alloc (.cells cs 3)) ⟨l, some ⟨w.heap.size, 0, none⟩, k⟩ := by
  intro _
  refine ⟨w.heap.size, cs, rfl, Blk.new w 3 cs, fun j x hj => ?_⟩
  have h1 := recCells_at (R := intR) (fun _ => rfl) l j x 0 (.int .i64 x) hj rfl
  rw [← h] at h1
  have e3 : j * intR.k + 0 = j := by show j * 1 + 0 = j; omega
  rw [e3] at h1
  simpa using h1
/-- The cell lb holds the header of a list of rows that is the call's own. -/
def CSt (w0 w : World) (lb : Nat) (rows : List Rw) : Prop := ∃ v, Blk w lb 27 #[v] ∧ OwnR rwR w0 w v rows ∧ w0.heap.size ≤ lb ∧ ∀ r ∈ rows, NRow w r
theorem own_val {α : Type} {R : RowTy α} {w0 w : World} {v : Value} {l : List α} (h : OwnR R w0 w v l) : ∃ A n c, v = .slice A n c := by
  rcases h.1.2 with ⟨e, _⟩ | ⟨g, cap, cur, e, _⟩
  · exact ⟨_, _, _, e⟩
  · exact ⟨_, _, _, e⟩
def ClimbP (w0 : World) (lb : Nat) (rows : List Rw) (x : Rw) (w : World) (e : Ending) (w' : World) : Prop := e = .returned (.int .i64 (dgF x.l)) ∧ CSt w0 w' lb (rows ++ [x]) ∧ ∀ r, NRow w r → NRow w' r
set_option maxHeartbeats 1000000 in
set_option maxRecDepth 100000 in
theorem compute51 (rows : List Rw) (x : Rw) (lb n : Nat) (w0 w : World) (h : CSt w0 w lb rows) (hx : NRow w x) (hn : Hid (n = x.l.length)) (hxl : n ≤ 1000000) (hrl : rows.length ≤ 1000) :
    Calls Tryz.prog 51 #[.slice x.A n x.c, .pointer (some ⟨lb, 0, none⟩)] w (ClimbP w0 lb rows x w) := by
  obtain ⟨xl, xA, xc⟩ := x
  simp only at hn ⊢
  have hn' := hn.out
  subst hn'
  obtain ⟨v, hb, ho, hlb, hr⟩ := h
  obtain ⟨A, m, c, rfl⟩ := own_val ho
  obtain ⟨n, hnn⟩ : ∃ n, xl.length = n := ⟨_, rfl⟩
  have HNN := Lib.hid hnn.symm
  rw [hnn] at hxl ⊢
  have HB := Lib.hid hb; have HO := Lib.hid ho; have HR := Lib.hid hr; have HX := Lib.hid hx; have HLB := Lib.hid hlb
  have c0 := cell_of_blk hb 0 (v := .slice A m c) rfl
  have f0 := hb.frozen 0
  have K1 := Lib.hid ((Keeps.refl w).alloc (.cells #[.slice xA n xc] 41))
  have O1 := Lib.hid (ho.keep K1.out)
  have X1 := Lib.hid (show RecIn rwR (w.alloc (.cells #[.slice xA n xc] 41)) (w.alloc (.cells #[.slice xA n xc] 41)).heap.size (some ⟨w.heap.size, 0, none⟩) [⟨xl, xA, xc⟩] from RecIn.lit rwOk w [⟨xl, xA, xc⟩] #[.slice xA n xc] (by rw [← hnn]; rfl))
  have ONE := Lib.hid (show (1 : Nat) = [(⟨xl, xA, xc⟩ : Rw)].length from rfl)
  have LE := Lib.hid (show rows.length + [(⟨xl, xA, xc⟩ : Rw)].length ≤ 1000000 by simp; omega)
  have lbw := hb.lt
  clear hb ho hr hx hlb hnn hn
  go_enter Tryz.func51, Tryz.ntmps51
  go_upto_region 2 with (at_builtin; refine wpList_appR rwOk (w0 := w0) rfl (.tmp 4) (.tmp 6) rfl _ rows rfl O1.out _ _ _ [⟨xl, xA, xc⟩] rfl X1.out ONE LE ?_; intro A2 n2 c2 w3 ho2 hg2; have O2 := Lib.hid ho2; have G2 := Lib.hid (show (w.alloc (.cells #[.slice xA n xc] 41)).grownBy w3 (Value.slice A m c).ownBlock from hg2); have hlb3 : lb < w3.heap.size := Nat.lt_of_lt_of_le (Nat.lt_of_lt_of_le lbw K1.out.size) hg2.size; have hB3 : Blk w3 lb 27 #[.slice A m c] := (HB.out.alloc _).grown G2.out (fun e => (by obtain ⟨cs, hc⟩ := own_blk O1.out e.symm; exact (HB.out.alloc _).ne_ hc (by decide) rfl)); have q0 := cell_of_blk hB3 0 (v := .slice A m c) rfl; have qf := hB3.frozen 0; have B3 := Lib.hid hB3; clear ho2 hg2 hB3)
  have NK : ∀ r, NRow w r → NRow (w3.setCell ⟨lb, 0, none⟩ (.slice A2 n2 c2)) r := fun r hr => by
    refine ((hr.keep K1.out).grown G2.out (fun g e => ?_)).far _ (show Blk w3 lb 27 _ from B3.out) (by decide)
    obtain ⟨cs, hc⟩ := own_blk O1.out e
    exact ⟨_, cs, hc, by decide⟩
  have hne : (Value.slice A2 n2 c2).ownBlock ≠ some lb := fun e => by
    obtain ⟨cs, hc⟩ := own_blk O2.out e
    exact B3.out.ne_ hc (by decide) rfl
  have CS : CSt w0 (w3.setCell ⟨lb, 0, none⟩ (.slice A2 n2 c2)) lb (rows ++ [⟨xl, xA, xc⟩]) := by
    refine ⟨.slice A2 n2 c2, by simpa using B3.out.set_ 0 (.slice A2 n2 c2), ⟨ownsRow_setCell_other O2.out.1 hne _, O2.out.2.setCell HLB.out _⟩, HLB.out, fun r hr => ?_⟩
    rcases List.mem_append.1 hr with hr | hr
    · exact NK r (HR.out r hr)
    · rw [List.mem_singleton] at hr
      subst hr
      exact NK _ HX.out
  have HNK := Lib.hid NK; have HCS := Lib.hid CS
  clear NK CS q0 qf c0 f0
  generalize hw4 : w3.setCell ⟨lb, 0, none⟩ (.slice A2 n2 c2) = w4 at *
  clear hw4
  have HS := Lib.hid (dg_any xl xA n xc w4 (HNK.out _ HX.out).recs HNN (by omega))
  obtain ⟨d, hd⟩ : ∃ d, dgF xl = d := ⟨_, rfl⟩
  rw [hd] at HS
  have HD := Lib.hid hd
  clear hd
  go_wp2_with (go_at_call 52; (with_reducible refine HS.out.mono ?_); rintro e w5 ⟨rfl, rfl⟩)
  go_ret
  exact ⟨by rw [HD.out]; rfl, HCS.out, HNK.out⟩
theorem wpList_makeR {α : Type} {R : RowTy α} {P : Program} (ok : RowOk P R) {w0 w : World} {ops : Array Oper} {rest : List Oper} {o : Oper} {a : Act} {Q : Exit → Act → World → Prop} (hgd : o.guard = none) (l c : Operand) (ho : o.op = .makeSlice R.S l c)
    (x0 : α) (z : Value) (hz : (P.info? R.T).map (fun i => i.zero) = some (some z)) (hzc : R.enc x0 = z.cells.toList) (n : Nat) (hl : a.eval l = .int .i64 (n : Int)) (hc : a.eval c = .int .i64 (n : Int)) (hn : n ≤ 1000000) (hw : Keeps w0 w)
    (h : ∀ w', OwnR R w0 w' (.slice (some ⟨w.heap.size, 0, none⟩) n n) (List.replicate n x0) → w.grownBy w' none → wpList P ops Q rest (a.put o.dst (.slice (some ⟨w.heap.size, 0, none⟩) n n)) w') : wpList P ops Q (o :: rest) a w := by
  obtain ⟨i0, z', hi0, hz0, hz1, hz2, hz3⟩ := ok.info
  have e : z' = z := by rw [hi0] at hz; simp only [Option.map_some, Option.some.injEq] at hz; rw [hz0] at hz; injection hz
  subst e
  have hby : i0.bytes * n ≤ 1000 * 1000000 := Nat.mul_le_mul (by rw [hz2]; exact ok.few) hn
  obtain ⟨w', hrun, h1, h2⟩ := run_make_full (P := P) w w0.heap.size R.S R.T i0 z' R.k ok.und hi0 hz0 hz1 .i64 .i64 n (by omega) (by unfold maxLen; omega) hw.size
  refine wpList_plain hgd fun K hK => ?_
  unfold Oper.wp
  simp [execOp, ho, hl, hc, hrun, Result.andThen]
  exact hK _ _ (h w' (OwnR.made ok hw hzc h1 h2) h2)
theorem own_setI {w0 w : World} {g n cap : Nat} {l : List Int} (h : OwnR intR w0 w (.slice (some ⟨g, 0, none⟩) n cap) l) {j : Nat} {x : Int} (y : Int) (hj : l[j]? = some x) : OwnR intR w0 (w.setCell ⟨g, j, none⟩ (.int .i64 y)) (.slice (some ⟨g, 0, none⟩) n cap) (l.set j y) := by
  have := OwnR.put (R := intR) (fun _ => rfl) h (j := j) (i := 0) (x := x) (x' := y) (u := .int .i64 y) hj (by decide) rfl
  simpa using this
theorem own_cellI {w0 w : World} {g n cap : Nat} {l : List Int} (h : OwnR intR w0 w (.slice (some ⟨g, 0, none⟩) n cap) l) {j : Nat} {x : Int} (hj : l[j]? = some x) : w.cell? ⟨g, j, none⟩ = some (.int .i64 x) := by
  obtain ⟨b, off, e, _, hc⟩ := (h.recs intOk).1.int hj
  cases e
  simpa using hc
theorem fill_at {α : Type} {l : List α} {i n : Nat} {z : α} (hn : n = l.length) (hi : i < n) : (l.take i ++ List.replicate (n - i) z)[i]? = some z := by
  rw [List.getElem?_append_right (by rw [List.length_take]; omega), List.length_take, List.getElem?_replicate, if_pos (by omega)]
theorem fill_set {α : Type} {l : List α} {i n : Nat} {z x : α} (hn : n = l.length) (hx : l[i]? = some x) : (l.take i ++ List.replicate (n - i) z).set i x = l.take (i + 1) ++ List.replicate (n - (i + 1)) z := by
  have hi := (List.getElem?_eq_some_iff.1 hx).1
  have e : n - i = (n - (i + 1)) + 1 := by omega
  rw [List.set_append_right _ _ (by rw [List.length_take]; omega), List.length_take, show i - min i l.length = 0 by omega, e, List.replicate_succ, List.set_cons_zero, take_snoc' hx, List.append_assoc]
  rfl
set_option maxHeartbeats 1000000 in
set_option maxRecDepth 100000 in
theorem numbers53 (s : ByteArray) (w : World) (hs : s.size ≤ 1000000) :
    Calls Tryz.prog 53 #[.string s] w fun e w' => ∃ A c, e = .returned (.slice A s.size c) ∧ OwnR intR w w' (.slice A s.size c) (codes s) := by
  have HCL := Lib.hid (show s.size = (codes s).length by rw [codes_len])
  go_enter Tryz.func53, Tryz.ntmps53
  go_wp2_with (at_make; refine wpList_makeR intOk (w0 := w) rfl (.tmp 6) (.tmp 6) rfl 0 (.int .i64 0) (by kernel_rfl) rfl s.size rfl rfl (by omega) (Keeps.refl w) ?_; intro w2 ho2 hg2; have O2 := Lib.hid ho2; clear ho2 hg2)
  go_loopw [10, 4] (fun a z wr => ∃ i : Nat, i ≤ s.size ∧ a = .int .i64 (i : Int) ∧ OwnR intR w wr (.slice (some ⟨w.heap.size, 0, none⟩) s.size s.size) ((codes s).take i ++ List.replicate (s.size - i) 0)) (fun a z _ => s.size - (intOf a).toNat)
  case atStart => exact ⟨0, by omega, rfl, by simpa using O2.out⟩
  case round =>
    clear O2
    obtain ⟨i, hi, rfl, hO⟩ := hrel
    by_cases hin : i < s.size
    · have bx1 : (s[i].toNat : Int) ≤ 255 := by have := s[i].toNat_lt; omega
      have O1 := Lib.hid (own_setI hO (s[i].toNat : Int) (fill_at HCL.out hin))
      rw [fill_set HCL.out (codes_at s i hin)] at O1
      have OO := Lib.hid O1.out
      have c0 := own_cellI hO (fill_at HCL.out hin)
      have f0 := hO.frozen i
      have ii : (i : Int) < (s.size : Int) := by omega
      have i0 : (0 : Int) ≤ (i : Int) := by omega
      have iw : IntKind.i64.wrap ((i : Int) + 1) = (i : Int) + 1 := wrap_in (by omega) (by omega)
      clear hO O1
      go_wp2_with fail
      go_roundw
      case rel => exact ⟨i + 1, by omega, by go_num, OO.out⟩
      case measure => simp [intOf]; omega
    · have e : (codes s).take i ++ List.replicate (s.size - i) 0 = codes s := by
        rw [show s.size - i = 0 by omega, List.take_of_length_le (by rw [codes_len]; omega)]
        simp
      rw [e] at hO
      have HO := Lib.hid hO
      clear hO e
      go_wp2_with fail
      go_ret
      exact ⟨_, _, rfl, HO.out⟩
theorem label102 (s : ByteArray) (w : World) (hs : s.size ≤ 1000000) :
    Calls Tryz.prog 102 #[.string s] w fun e w' => e = .returned (.int .i64 (dgF (codes s))) ∧ Keeps w w' := by
  have HC := Lib.hid (numbers53 s w hs)
  have HCL := Lib.hid (codes_len s)
  go_enter Tryz.func102, Tryz.ntmps102
  go_wp2_with (first | (go_at_call 53; (with_reducible refine HC.out.mono ?_); rintro e w2 ⟨A, c, rfl, ho⟩; have HS := Lib.hid (dg_any (codes s) A s.size c w2 (ho.recs intOk).1 (Lib.hid HCL.out.symm) (by omega)); have K2 := Lib.hid ho.2; clear ho) | (go_at_call 52; (with_reducible refine HS.out.mono ?_); rintro e w3 ⟨rfl, rfl⟩))
  go_ret
  exact ⟨rfl, K2.out⟩
/-- The number beside: the one before at an odd place, the one behind at an even one, -1 where none is. -/
def sibF (row : List Int) (i : Nat) : Int := if i % 2 = 1 then (row[i - 1]?).getD 0 else (row[i + 1]?).getD (-1)
def outB (x : Int) : Bool := decide (x < -1) || decide (2147483647 ≤ x)
theorem out49 (x : Int) (w : World) : Calls Tryz.prog 49 #[.int .i64 x] w fun e w' => e = .returned (.bool (outB x)) ∧ w = w' := by
  unfold outB
  by_cases h0 : x < -1
  · rw [decide_eq_true h0]
    go_enter Tryz.func49, Tryz.ntmps49
    go_wp2_with fail
    go_ret
    exact ⟨rfl, rfl⟩
  · rw [decide_eq_false h0]
    have d0 : decide (x < -1) = false := by simpa using h0
    by_cases h1 : 2147483647 ≤ x
    · rw [decide_eq_true h1]
      go_enter Tryz.func49, Tryz.ntmps49
      go_wp2_with fail
      go_ret
      exact ⟨rfl, rfl⟩
    · rw [decide_eq_false h1]
      have d1 : decide (2147483647 ≤ x) = false := by simpa using h1
      go_enter Tryz.func49, Tryz.ntmps49
      go_wp2_with fail
      go_ret
      exact ⟨rfl, rfl⟩
theorem ixo_post {bb : Bool} {i : Nat} {w : World} (h : decide (0 ≤ (i : Int)) = bb) : ∃ I : Int, decide (0 ≤ I) = bb ∧ Ending.returned (.int .i64 (i : Int)) = .returned (.int .i64 I) ∧ w = w := ⟨i, h, rfl, rfl⟩
set_option maxHeartbeats 1000000 in
set_option maxRecDepth 100000 in
theorem index103 (l : List Int) (A : Option Addr) (n c : Nat) (w : World) (h : RecIn intR w w.heap.size A l) (hn : Hid (n = l.length)) (hnm : n ≤ 1000000) :
    Calls Tryz.prog 103 #[.slice A n c, .func (.func 49) #[] #[]] w fun e w' => ∃ I : Int, decide (0 ≤ I) = l.any outB ∧ e = .returned (.int .i64 I) ∧ w = w' := by
  have HD := Lib.hid h
  clear h
  obtain ⟨bb, hbb⟩ : ∃ b, l.any outB = b := ⟨_, rfl⟩
  have HBB := Lib.hid hbb
  rw [hbb]
  clear hbb
  go_enter Tryz.func103, Tryz.ntmps103
  go_wp2_with fail
  go_loopw [8, 5] (fun a z wr => ∃ i : Nat, i ≤ n ∧ a = .int .i64 (i : Int) ∧ w = wr ∧ (l.take i).any outB = false) (fun a z _ => n - (intOf a).toNat)
  case atStart => exact ⟨0, by omega, rfl, rfl, rfl⟩
  case round =>
    obtain ⟨i, hi, rfl, rfl, hno⟩ := hrel
    have hnl := hn.out
    have HNO := Lib.hid hno
    by_cases hin : i < n
    · obtain ⟨y, hy⟩ : ∃ y, l[i]? = some y := ⟨_, List.getElem?_eq_getElem (by omega)⟩
      have HMM := Lib.hid (List.mem_of_getElem? hy)
      have HTK := Lib.hid (take_snoc' hy)
      obtain ⟨b, o, rfl, hbl, c0⟩ := HD.out.int hy
      have ii : (i : Int) < (n : Int) := by omega
      have i0 : (0 : Int) ≤ (i : Int) := by omega
      have iw : IntKind.i64.wrap ((i : Int) + 1) = (i : Int) + 1 := wrap_in (by omega) (by omega)
      have HC := out49 y w
      obtain ⟨g, hg⟩ : ∃ g, outB y = g := ⟨_, rfl⟩
      rw [hg] at HC
      have HCT := Lib.hid HC
      have HGG := Lib.hid hg
      clear hy hno hnl HC hg
      cases g
      · go_wp2_with (go_at_call 49; (with_reducible refine HCT.out.mono ?_); rintro e w2 ⟨rfl, rfl⟩)
        go_roundw
        case rel => exact ⟨i + 1, by omega, by go_num, (by first | rfl | trivial), by rw [HTK.out, List.any_append, HNO.out]; simp [HGG.out]⟩
        case measure => simp [intOf]; omega
      · go_wp2_with (go_at_call 49; (with_reducible refine HCT.out.mono ?_); rintro e w2 ⟨rfl, rfl⟩)
        go_ret
        exact ixo_post (by rw [← HBB.out, List.any_eq_true.2 ⟨y, HMM.out, HGG.out⟩]; simp)
    · have e : l.take i = l := List.take_of_length_le (by omega)
      rw [e] at HNO
      have hin' : ¬ ((i : Int) < (n : Int)) := by omega
      clear hno hnl e
      go_wp2_with fail
      go_ret
      exact ⟨-1, by rw [← HBB.out, HNO.out]; rfl, rfl, rfl⟩
theorem has50 (l : List Int) (A : Option Addr) (n c : Nat) (w : World) (h : RecIn intR w w.heap.size A l) (hn : Hid (n = l.length)) (hnm : n ≤ 1000000) :
    Calls Tryz.prog 50 #[.slice A n c, .func (.func 49) #[] #[]] w fun e w' => e = .returned (.bool (l.any outB)) ∧ w = w' := by
  have HC := Lib.hid (index103 l A n c w h hn hnm)
  generalize l.any outB = b at HC ⊢
  clear h
  go_enter Tryz.func50, Tryz.ntmps50
  go_wp2_with (go_at_call 103; (with_reducible refine HC.out.mono ?_); rintro e w' ⟨I, h1, rfl, rfl⟩; have H1 := Lib.hid h1; clear h1)
  go_ret
  exact ⟨by rw [← H1.out]; rfl, rfl⟩
/-- The steps of the climb. -/
def climbGo : List Int → Int → Int → List (List Int) → Int × List (List Int)
  | [], _, d, ls => (d, ls)
  | b :: path, i, d, ls => if b = -1 then climbGo path (i.tdiv 2) d ls else if i.tmod 2 = 1 then climbGo path (i.tdiv 2) (dgF [1, b, d]) (ls ++ [[1, b, d]]) else climbGo path (i.tdiv 2) (dgF [1, d, b]) (ls ++ [[1, d, b]])
def climbB (i : Int) (path : List Int) : Bool := decide (i < 0) || (decide (20 < path.length) || path.any outB)
def climbF (lab : ByteArray) (i : Int) (path : List Int) : Int × List (List Int) := if climbB i path then (0, []) else climbGo path i (dgF [0, dgF (codes lab)]) [codes lab, [0, dgF (codes lab)]]
theorem CSt.keep {w0 w w' : World} {lb : Nat} {rows : List Rw} (h : CSt w0 w lb rows) (hk : Keeps w w') : CSt w0 w' lb rows := by
  obtain ⟨v, hb, ho, hl, hr⟩ := h
  exact ⟨v, hb.below hk hb.lt, ho.keep hk, hl, fun r h => (hr r h).keep hk⟩
theorem CSt.keeps {w0 w : World} {lb : Nat} {rows : List Rw} (h : CSt w0 w lb rows) : Keeps w0 w := by
  obtain ⟨v, hb, ho, hl, hr⟩ := h
  exact ho.2
theorem climbGo_len : ∀ (path : List Int) (i d : Int) (ls : List (List Int)), (climbGo path i d ls).2.length ≤ ls.length + path.length
  | [], _, _, ls => by simp [climbGo]
  | b :: path, i, d, ls => by
    rw [climbGo]
    split
    · have := climbGo_len path (i.tdiv 2) d ls
      simp only [List.length_cons]; omega
    · split
      · have := climbGo_len path (i.tdiv 2) (dgF [1, b, d]) (ls ++ [[1, b, d]])
        simp only [List.length_cons, List.length_append, List.length_nil] at *; omega
      · have := climbGo_len path (i.tdiv 2) (dgF [1, d, b]) (ls ++ [[1, d, b]])
        simp only [List.length_cons, List.length_append, List.length_nil] at *; omega
def ClimbR (r : Int × List (List Int)) (w : World) (e : Ending) (w' : World) : Prop := ∃ A n c rows, e = .returned (.tuple #[.int .i64 r.1, .slice A n c]) ∧ n = rows.length ∧ rows.map Rw.l = r.2 ∧ RecIn rwR w' w'.heap.size A rows ∧ (∀ x ∈ rows, NRow w' x) ∧ Keeps w w'
/-- Between the rounds of the climb. -/
def ClimbI (res : Int × List (List Int)) (path : List Int) (lb : Nat) (w0 : World) (a d i : Value) (wr : World) : Prop :=
  ∃ (k : Nat) (D I : Int) (rows : List Rw), k ≤ path.length ∧ a = .int .i64 (k : Int) ∧ d = .int .i64 D ∧ i = .int .i64 I ∧ 0 ≤ I ∧ I ≤ 9223372036854775807 ∧ CSt w0 wr lb rows ∧ rows.length ≤ 2 + k ∧ climbGo (path.drop k) I D (rows.map Rw.l) = res
theorem tdiv2_in {I : Int} (h0 : 0 ≤ I) (h1 : I ≤ 9223372036854775807) : 0 ≤ I.tdiv 2 ∧ I.tdiv 2 ≤ 9223372036854775807 := by
  rw [Int.tdiv_eq_ediv_of_nonneg h0]
  omega
theorem drop_at {α : Type} {l : List α} {k : Nat} {x : α} (h : l[k]? = some x) : l.drop k = x :: l.drop (k + 1) := by
  obtain ⟨h1, h2⟩ := List.getElem?_eq_some_iff.1 h
  rw [← h2]
  exact List.drop_eq_getElem_cons h1
set_option maxHeartbeats 4000000 in
set_option maxRecDepth 100000 in
theorem climb21 (lab : ByteArray) (i0 : Int) (path : List Int) (PA : Option Addr) (p pc : Nat) (w : World) (hp : RecIn intR w w.heap.size PA path) (hn : Hid (p = path.length)) (hpx : p ≤ 1000000) (hl : lab.size ≤ 1000000) (hi : i0 ≤ 9223372036854775807) :
    Calls Tryz.prog 21 #[.string lab, .int .i64 i0, .slice PA p pc] w (ClimbR (climbF lab i0 path) w) := by
  have HP := Lib.hid hp
  clear hp
  have HHAS := Lib.hid (has50 path PA p pc w HP.out hn hpx)
  by_cases hneg : i0 < 0
  · have hF := Lib.hid (show climbF lab i0 path = (0, []) by unfold climbF climbB; rw [decide_eq_true hneg]; simp)
    go_enter Tryz.func21, Tryz.ntmps21
    go_wp2_with fail
    refine bodyPost_ret (v := .tuple #[.int .i64 0, .slice none 0 0]) (by simp [results, Tryz.results21, go_sem]) rfl ?_
    rw [hF.out]
    exact ⟨none, 0, 0, [], rfl, rfl, rfl, fun j x hj => by simp at hj, fun x hx => by simp at hx, Keeps.refl w⟩
  · have dneg : decide (i0 < 0) = false := by simpa using hneg
    by_cases h20 : p ≤ 20
    rotate_left
    · have hF := Lib.hid (show climbF lab i0 path = (0, []) by unfold climbF climbB; rw [decide_eq_true (show 20 < path.length by have := hn.out; omega)]; simp)
      have d20 : (20 : Int) < (p : Int) := by omega
      go_enter Tryz.func21, Tryz.ntmps21
      go_wp2_with fail
      refine bodyPost_ret (v := .tuple #[.int .i64 0, .slice none 0 0]) (by simp [results, Tryz.results21, go_sem]) rfl ?_
      rw [hF.out]
      exact ⟨none, 0, 0, [], rfl, rfl, rfl, fun j x hj => by simp at hj, fun x hx => by simp at hx, Keeps.refl w⟩
    have d20 : decide ((20 : Int) < (p : Int)) = false := by simp; omega
    have d20' : decide (20 < p) = false := by simp; omega
    cases hout : path.any outB
    rotate_left
    · have hF := Lib.hid (show climbF lab i0 path = (0, []) by unfold climbF climbB; rw [hout]; simp)
      rw [hout] at HHAS
      clear hout
      go_enter Tryz.func21, Tryz.ntmps21
      go_wp2_with (go_at_call 50; (with_reducible refine HHAS.out.mono ?_); rintro e w2 ⟨rfl, rfl⟩)
      refine bodyPost_ret (v := .tuple #[.int .i64 0, .slice none 0 0]) (by simp [results, Tryz.results21, go_sem]) rfl ?_
      rw [hF.out]
      exact ⟨none, 0, 0, [], rfl, rfl, rfl, fun j x hj => by simp at hj, fun x hx => by simp at hx, Keeps.refl w⟩
    rw [hout] at HHAS
    have hF := Lib.hid (show climbF lab i0 path = climbGo path i0 (dgF [0, dgF (codes lab)]) [codes lab, [0, dgF (codes lab)]] by
      unfold climbF climbB
      rw [dneg, hout, decide_eq_false (show ¬ 20 < path.length by have := hn.out; omega)]
      rfl)
    clear hout
    have C1 := Lib.hid (show CSt w (w.alloc (.cells #[.slice none 0 0] 27)) w.heap.size [] from ⟨_, Blk.new w 27 #[.slice none 0 0], (OwnR.nil w).keep ((Keeps.refl w).alloc _), Nat.le_refl _, fun r hr => by simp at hr⟩)
    go_enter Tryz.func21, Tryz.ntmps21
    go_upto_region 5 with (go_at_call 50; (with_reducible refine HHAS.out.mono ?_); rintro e w2 ⟨rfl, rfl⟩)
    generalize hw2 : w.alloc (.cells #[.slice none 0 0] 27) = w2 at *
    clear hw2
    have HNUM := Lib.hid (numbers53 lab w2 hl)
    go_upto_region 7 with (first | (go_at_call 53; (with_reducible refine HNUM.out.mono ?_); rintro e w3 ⟨A3, c3, rfl, ho3⟩; have HC3 := Lib.hid (compute51 [] ⟨codes lab, A3, c3⟩ w.heap.size lab.size w w3 (C1.out.keep ho3.2) (NRow.own ho3) (Lib.hid (codes_len lab).symm) hl (by simp)); clear ho3) | (go_at_call 51; (with_reducible refine HC3.out.mono ?_); rintro e w4 ⟨rfl, hc4, hn4⟩; have HC5 := Lib.hid (compute51 _ ⟨[0, dgF (codes lab)], some ⟨w4.heap.size, 0, none⟩, 2⟩ w.heap.size 2 w (w4.alloc (.cells #[.int .i64 0, .int .i64 (dgF (codes lab))] 3)) (hc4.keep ((Keeps.refl _).alloc _)) (NRow.lit rfl) (Lib.hid rfl) (by omega) (by simp)); clear hc4 hn4) | (go_at_call 51; (with_reducible refine HC5.out.mono ?_); rintro e w5 ⟨rfl, hc5, hn5⟩; have C5 := Lib.hid hc5; clear hc5 hn5))
    obtain ⟨res, hres⟩ : ∃ r, climbF lab i0 path = r := ⟨_, rfl⟩
    have HRES := Lib.hid hres
    have hi0 : 0 ≤ i0 := by omega
    have CI := Lib.hid (show ClimbI res path w.heap.size w (.int .i64 0) (.int .i64 (dgF [0, dgF (codes lab)])) (.int .i64 i0) w5 from ⟨0, _, i0, _, by omega, rfl, rfl, rfl, hi0, hi, C5.out, by simp, by rw [← hres, hF.out]; rfl⟩)
    clear hres hF C1 HNUM HC3 HC5 C5 HHAS
    generalize dgF [0, dgF (codes lab)] = D0 at *
    generalize dgF (codes lab) = L at *
    go_wp2_with fail
    go_loopw [36, 13, 11, 1, 45, 48] (fun a b d i x y wx => ClimbI res path w.heap.size w a d i wx) (fun a _ _ _ _ _ _ => p - (intOf a).toNat)
    case atStart => exact CI.out
    case round =>
      clear CI
      obtain ⟨k, D, I, rows, hk, rfl, rfl, rfl, h0, h1, hC, hlen, hgo⟩ := hrel
      have HC := Lib.hid hC
      have hnl := hn.out
      have t2 := tdiv2_in h0 h1
      have t20 := t2.1
      have t21 := t2.2
      have tw : IntKind.i64.wrap (I.tdiv 2) = I.tdiv 2 := wrap_in (by omega) (by omega)
      by_cases hkp : k < p
      · obtain ⟨b, hb⟩ : ∃ b, path[k]? = some b := ⟨_, List.getElem?_eq_getElem (by omega)⟩
        rw [drop_at hb, climbGo] at hgo
        have HGO := Lib.hid hgo
        obtain ⟨pb, po, rfl, hpb, c0⟩ := (HP.out.keep hC.keeps).int hb
        have kp : (k : Int) < (p : Int) := by omega
        have k0 : (0 : Int) ≤ (k : Int) := by omega
        have kw : IntKind.i64.wrap ((k : Int) + 1) = (k : Int) + 1 := wrap_in (by omega) (by omega)
        have kk : k + 1 ≤ path.length := by omega
        have rl : rows.length ≤ 1000 := by omega
        clear hb hgo hC hnl t2
        by_cases hb1 : b = -1
        · subst hb1
          have HG2 := Lib.hid (show climbGo (path.drop (k + 1)) (I.tdiv 2) D (rows.map Rw.l) = res by rw [← HGO.out, if_pos rfl])
          go_wp2_with fail
          go_roundw
          case rel => exact ⟨k + 1, D, I.tdiv 2, rows, kk, by go_num, rfl, rfl, t20, t21, HC.out, by omega, HG2.out⟩
          case measure => simp [intOf]; omega
        · have e1 : (b == -1) = false := by simpa using hb1
          have e2 : decide (b = -1) = false := by simpa using hb1
          by_cases hodd : I.tmod 2 = 1
          · have HG2 := Lib.hid (show climbGo (path.drop (k + 1)) (I.tdiv 2) (dgF [1, b, D]) ((rows ++ [(⟨[1, b, D], some ⟨wr.heap.size, 0, none⟩, 3⟩ : Rw)]).map Rw.l) = res by rw [← HGO.out, if_neg hb1, if_pos hodd, List.map_append]; rfl)
            have HCM := Lib.hid (compute51 rows ⟨[1, b, D], some ⟨wr.heap.size, 0, none⟩, 3⟩ w.heap.size 3 w (wr.alloc (.cells #[.int .i64 1, .int .i64 b, .int .i64 D] 3)) (HC.out.keep ((Keeps.refl _).alloc _)) (NRow.lit rfl) (Lib.hid rfl) (by omega) rl)
            have o1 : (I.tmod 2 == 1) = true := by simpa using hodd
            have o3 : (I % 2 == 1) = true := by have := hodd; rw [Int.tmod_eq_emod_of_nonneg h0] at this; simpa using this
            go_wp2_with (go_at_call 51; (with_reducible refine HCM.out.mono ?_); rintro e w6 ⟨rfl, hc6, hn6⟩; have C6 := Lib.hid hc6; clear hc6 hn6)
            go_roundw
            case rel => exact ⟨k + 1, _, I.tdiv 2, _, kk, by go_num, rfl, rfl, t20, t21, C6.out, by simp; omega, HG2.out⟩
            case measure => simp [intOf]; omega
          · have HG2 := Lib.hid (show climbGo (path.drop (k + 1)) (I.tdiv 2) (dgF [1, D, b]) ((rows ++ [(⟨[1, D, b], some ⟨wr.heap.size, 0, none⟩, 3⟩ : Rw)]).map Rw.l) = res by rw [← HGO.out, if_neg hb1, if_neg hodd, List.map_append]; rfl)
            have HCM := Lib.hid (compute51 rows ⟨[1, D, b], some ⟨wr.heap.size, 0, none⟩, 3⟩ w.heap.size 3 w (wr.alloc (.cells #[.int .i64 1, .int .i64 D, .int .i64 b] 3)) (HC.out.keep ((Keeps.refl _).alloc _)) (NRow.lit rfl) (Lib.hid rfl) (by omega) rl)
            have o1 : (I.tmod 2 == 1) = false := by simpa using hodd
            have o2 : decide (I.tmod 2 = 1) = false := by simpa using hodd
            have o3 : (I % 2 == 1) = false := by have := hodd; rw [Int.tmod_eq_emod_of_nonneg h0] at this; simpa using this
            go_wp2_with (go_at_call 51; (with_reducible refine HCM.out.mono ?_); rintro e w6 ⟨rfl, hc6, hn6⟩; have C6 := Lib.hid hc6; clear hc6 hn6)
            go_roundw
            case rel => exact ⟨k + 1, _, I.tdiv 2, _, kk, by go_num, rfl, rfl, t20, t21, C6.out, by simp; omega, HG2.out⟩
            case measure => simp [intOf]; omega
      · have hd : path.drop k = [] := List.drop_eq_nil_of_le (by omega)
        rw [hd, climbGo] at hgo
        obtain ⟨v, hb, ho, hlb, hr⟩ := hC
        obtain ⟨A, m, c, rfl⟩ := own_val ho
        have c0 := cell_of_blk hb 0 (v := .slice A m c) rfl
        have HO := Lib.hid ho; have HR := Lib.hid hr; have HGO := Lib.hid hgo
        have hkp' : ¬ ((k : Int) < (p : Int)) := by omega
        clear hd hgo hb ho hr hlb HC hnl t2
        go_upto_region 16 with fail
        go_quiet (fail)
        go_wp2_with fail
        refine bodyPost_ret (v := .tuple #[.int .i64 D, .slice A m c]) (by simp [results, Tryz.results21, go_sem]) rfl ?_
        rw [HRES.out, ← HGO.out]
        exact ⟨A, m, c, rows, rfl, (HO.out.recs rwOk).2, rfl, ((HO.out.recs rwOk).1.keep ((Keeps.refl wr).drewN _)), fun x hx => (HR.out x hx).keep ((Keeps.refl wr).drewN _), HO.out.2.trans ((Keeps.refl wr).drewN _)⟩
end
section
open Go.Shelf Go.ChangeShapes Go.WideShapes Go.ChangeAt Go.RowKit
set_option linter.unusedSimpArgs false
set_option linter.unusedVariables false
/-- The row above a row; the pairs that are put together; the rows of the tree. -/
def aboveF : List Int → List Int
  | a :: b :: t => dgF [1, a, b] :: aboveF t
  | [a] => [a]
  | [] => []
def pairsF : List Int → List (List Int)
  | a :: b :: t => [1, a, b] :: pairsF t
  | _ => []
def rowsF : Nat → List Int → List (List Int)
  | 0, row => [row]
  | f + 1, row => row :: (if 1 < row.length then rowsF f (aboveF row) else [])
def leafF (labels : List ByteArray) : List Int := labels.map fun s => dgF [0, dgF (codes s)]
def treeF (labels : List ByteArray) : List (List Int) := if labels = [] then [] else rowsF labels.length (leafF labels)
def listsF (labels : List ByteArray) : List (List Int) := labels.flatMap (fun s => [codes s, [0, dgF (codes s)]]) ++ (treeF labels).dropLast.flatMap pairsF
theorem aboveF_len : ∀ (row : List Int), (aboveF row).length = (row.length + 1) / 2
  | [] => rfl
  | [a] => by simp [aboveF]
  | a :: b :: t => by
    rw [aboveF, List.length_cons, aboveF_len t]
    simp only [List.length_cons]
    omega
theorem rowsF_one {f : Nat} {row : List Int} (h : row.length ≤ 1) : rowsF f row = [row] := by
  cases f with
  | zero => rfl
  | succ f => rw [rowsF, if_neg (by omega)]
theorem rowsF_ne (f : Nat) (row : List Int) : rowsF f row ≠ [] := by cases f <;> simp [rowsF]
theorem aboveF_mem {v : Int} : ∀ {row : List Int}, v ∈ aboveF row → v ∈ row ∨ ∃ a b, [1, a, b] ∈ pairsF row ∧ v = dgF [1, a, b] ∧ a ∈ row ∧ b ∈ row
  | [], h => by cases h
  | [a], h => .inl h
  | a :: b :: t, h => by
    rw [aboveF] at h
    rcases List.mem_cons.1 h with h | h
    · exact .inr ⟨a, b, by simp [pairsF], h, by simp, by simp⟩
    · rcases aboveF_mem h with h | ⟨x, y, h1, h2, h3, h4⟩
      · exact .inl (by simp [h])
      · exact .inr ⟨x, y, by simp [pairsF, h1], h2, by simp [h3], by simp [h4]⟩
/-- What is known of a number of the tree. -/
def GoodV (labels : List ByteArray) (LS : List (List Int)) (TV : Int → Prop) (v : Int) : Prop := (∃ s ∈ labels, v = dgF [0, dgF (codes s)]) ∨ ∃ a b, [1, a, b] ∈ LS ∧ v = dgF [1, a, b] ∧ TV a ∧ TV b
theorem rowsF_good {labels : List ByteArray} {LS : List (List Int)} {TV : Int → Prop} : ∀ (f : Nat) (row : List Int), (∀ v ∈ row, GoodV labels LS TV v) → (∀ r ∈ (rowsF f row).dropLast, ∀ x ∈ pairsF r, x ∈ LS) → (∀ r ∈ rowsF f row, ∀ v ∈ r, TV v) → ∀ r ∈ rowsF f row, ∀ v ∈ r, GoodV labels LS TV v
  | 0, row, h, _, _, r, hr, v, hv => by
    simp only [rowsF, List.mem_singleton] at hr
    subst hr
    exact h v hv
  | f + 1, row, h, hp, ht, r, hr, v, hv => by
    rw [rowsF] at hr hp ht
    by_cases h1 : 1 < row.length
    · rw [if_pos h1] at hr hp ht
      have hne := rowsF_ne f (aboveF row)
      rw [List.dropLast_cons_of_ne_nil hne] at hp
      rcases List.mem_cons.1 hr with hr | hr
      · subst hr; exact h v hv
      · refine rowsF_good f (aboveF row) (fun u hu => ?_) (fun r hr => hp r (by simp [hr])) (fun r hr => ht r (by simp [hr])) r hr v hv
        rcases aboveF_mem hu with hu | ⟨a, b, h2, h3, h4, h5⟩
        · exact h u hu
        · exact .inr ⟨a, b, hp row (by simp) _ h2, h3, ht row (by simp) a h4, ht row (by simp) b h5⟩
    · rw [if_neg h1] at hr
      simp only [List.mem_singleton] at hr
      subst hr
      exact h v hv
def InTree (labels : List ByteArray) (v : Int) : Prop := ∃ r ∈ treeF labels, v ∈ r
theorem tree_good {labels : List ByteArray} {v : Int} (h : InTree labels v) : GoodV labels (listsF labels) (InTree labels) v := by
  obtain ⟨r, hr, hv⟩ := h
  by_cases h0 : labels = []
  · unfold treeF at hr
    rw [if_pos h0] at hr
    cases hr
  · have e : treeF labels = rowsF labels.length (leafF labels) := by unfold treeF; rw [if_neg h0]
    rw [e] at hr
    refine rowsF_good (labels := labels) (LS := listsF labels) (TV := InTree labels) labels.length (leafF labels) (fun u hu => ?_) (fun r hr x hx => ?_) (fun r hr u hu => ⟨r, by rw [e]; exact hr, hu⟩) r hr v hv
    · obtain ⟨s, hs, rfl⟩ := List.mem_map.1 hu
      exact .inl ⟨s, hs, rfl⟩
    · unfold listsF
      rw [e]
      exact List.mem_append_right _ (List.mem_flatMap.2 ⟨r, hr, hx⟩)
theorem climbGo_sub : ∀ (path : List Int) (i d : Int) (ls : List (List Int)), ∀ x ∈ ls, x ∈ (climbGo path i d ls).2
  | [], _, _, ls, x, hx => hx
  | b :: path, i, d, ls, x, hx => by
    rw [climbGo]
    split
    · exact climbGo_sub path _ _ _ x hx
    · split
      · exact climbGo_sub path _ _ _ x (by simp [hx])
      · exact climbGo_sub path _ _ _ x (by simp [hx])
theorem climbGo_tree {labels : List ByteArray} : ∀ (path : List Int) (i d : Int) (ls : List (List Int)), (∀ x ∈ (climbGo path i d ls).2 ++ listsF labels, ∀ y ∈ (climbGo path i d ls).2 ++ listsF labels, dgF x = dgF y → x = y) → InTree labels (climbGo path i d ls).1 → InTree labels d
  | [], _, _, _, _, h => h
  | b :: path, i, d, ls, hinj, h => by
    rw [climbGo] at hinj h
    have key : ∀ (l : List Int) (j : Int) (ls' : List (List Int)), l ∈ ls' → (∃ x y, l = [1, x, y] ∧ (x = d ∨ y = d)) → (∀ x ∈ (climbGo path j (dgF l) ls').2 ++ listsF labels, ∀ y ∈ (climbGo path j (dgF l) ls').2 ++ listsF labels, dgF x = dgF y → x = y) → InTree labels (climbGo path j (dgF l) ls').1 → InTree labels d := by
      intro l j ls' hl ⟨x, y, e, hd⟩ hi ht
      have h1 := climbGo_tree path j (dgF l) ls' hi ht
      have hm : l ∈ (climbGo path j (dgF l) ls').2 ++ listsF labels := List.mem_append_left _ (climbGo_sub path j (dgF l) ls' l hl)
      rcases tree_good h1 with ⟨s, hs, e2⟩ | ⟨a, c, h2, e2, ha, hc⟩
      · have h3 : [0, dgF (codes s)] ∈ (climbGo path j (dgF l) ls').2 ++ listsF labels := by
          refine List.mem_append_right _ ?_
          unfold listsF
          exact List.mem_append_left _ (List.mem_flatMap.2 ⟨s, hs, by simp⟩)
        have := hi _ hm _ h3 e2
        rw [e] at this
        simp at this
      · have := hi _ hm _ (List.mem_append_right _ h2) e2
        rw [e] at this
        simp only [List.cons.injEq, and_true, true_and] at this
        rcases hd with hd | hd
        · rw [← hd, this.1]; exact ha
        · rw [← hd, this.2]; exact hc
    split at hinj
    · rename_i hb
      rw [if_pos hb] at h
      exact climbGo_tree path _ _ _ hinj h
    · rename_i hb
      rw [if_neg hb] at h
      split at hinj
      · rename_i ho
        rw [if_pos ho] at h
        exact key _ _ _ (by simp) ⟨b, d, rfl, .inr rfl⟩ hinj h
      · rename_i ho
        rw [if_neg ho] at h
        exact key _ _ _ (by simp) ⟨d, b, rfl, .inl rfl⟩ hinj h
theorem codes_inj {s t : ByteArray} (h : codes s = codes t) : s = t := by
  have hl : s.size = t.size := by rw [← codes_len, ← codes_len, h]
  apply ByteArray.ext_getElem hl
  intro i h1 h2
  have e1 := codes_at s i h1
  have e2 := codes_at t i h2
  rw [h, e2] at e1
  have := Option.some.inj e1
  have : t[i].toNat = s[i].toNat := by omega
  exact (UInt8.toNat_inj.1 this).symm
/-- If the climb of a label ends in the tree of labels among which it is not, two different lists have one digest. -/
theorem climb_coll {labels : List ByteArray} {lab : ByteArray} {i : Int} {path : List Int} (hok : climbB i path = false) (ht : InTree labels (climbF lab i path).1) (hno : lab ∉ labels) :
    ∃ x ∈ (climbF lab i path).2 ++ listsF labels, ∃ y ∈ (climbF lab i path).2 ++ listsF labels, dgF x = dgF y ∧ x ≠ y := by
  refine Classical.byContradiction fun hn => hno ?_
  have hinj : ∀ x ∈ (climbF lab i path).2 ++ listsF labels, ∀ y ∈ (climbF lab i path).2 ++ listsF labels, dgF x = dgF y → x = y := fun x hx y hy e => Classical.byContradiction fun hne => hn ⟨x, hx, y, hy, e, hne⟩
  have e : climbF lab i path = climbGo path i (dgF [0, dgF (codes lab)]) [codes lab, [0, dgF (codes lab)]] := by unfold climbF; rw [hok]; rfl
  rw [e] at ht hinj
  have h1 := climbGo_tree path i _ _ hinj ht
  have m1 : [0, dgF (codes lab)] ∈ (climbGo path i (dgF [0, dgF (codes lab)]) [codes lab, [0, dgF (codes lab)]]).2 ++ listsF labels := List.mem_append_left _ (climbGo_sub _ _ _ _ _ (by simp))
  have m2 : codes lab ∈ (climbGo path i (dgF [0, dgF (codes lab)]) [codes lab, [0, dgF (codes lab)]]).2 ++ listsF labels := List.mem_append_left _ (climbGo_sub _ _ _ _ _ (by simp))
  rcases tree_good h1 with ⟨s, hs, e2⟩ | ⟨a, c, h2, e2, _⟩
  · have n1 : [0, dgF (codes s)] ∈ (climbGo path i (dgF [0, dgF (codes lab)]) [codes lab, [0, dgF (codes lab)]]).2 ++ listsF labels := by
      refine List.mem_append_right _ ?_
      unfold listsF
      exact List.mem_append_left _ (List.mem_flatMap.2 ⟨s, hs, by simp⟩)
    have n2 : codes s ∈ (climbGo path i (dgF [0, dgF (codes lab)]) [codes lab, [0, dgF (codes lab)]]).2 ++ listsF labels := by
      refine List.mem_append_right _ ?_
      unfold listsF
      exact List.mem_append_left _ (List.mem_flatMap.2 ⟨s, hs, by simp⟩)
    have h3 := hinj _ m1 _ n1 e2
    simp only [List.cons.injEq, and_true, true_and] at h3
    have h4 := codes_inj (hinj _ m2 _ n2 h3)
    rw [h4]
    exact hs
  · have := hinj _ m1 _ (List.mem_append_right _ h2) e2
    simp at this
theorem coll_of {rows : List Rw} {L : List (List Int)} (hL : rows.map Rw.l = L) (h : ∃ x ∈ L, ∃ y ∈ L, dgF x = dgF y ∧ x ≠ y) : CollF rows := by
  obtain ⟨x, hx, y, hy, e, hne⟩ := h
  subst hL
  obtain ⟨i, hi⟩ := List.mem_iff_getElem?.1 hx
  obtain ⟨k, hk⟩ := List.mem_iff_getElem?.1 hy
  rw [List.getElem?_map, Option.map_eq_some_iff] at hi hk
  obtain ⟨u, hu, rfl⟩ := hi
  obtain ⟨v, hv, rfl⟩ := hk
  rcases Nat.lt_trichotomy i k with h | h | h
  · exact ⟨k, i, h, v, u, hv, hu, fun e2 => hne e2.symm, e.symm⟩
  · subst h
    rw [hu] at hv
    cases hv
    exact absurd rfl hne
  · exact ⟨i, k, h, u, v, hu, hv, hne, e⟩
end
end Go.Proofs.YthkmpegpmpdhaaaGreatDoor
