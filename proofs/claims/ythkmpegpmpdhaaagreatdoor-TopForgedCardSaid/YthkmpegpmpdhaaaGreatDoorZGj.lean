/- Part of the proof of TopOwnItem. Conditions: as stated in each theorem. -/
import Derived.Test.YthkmpegpmpdhaaaGreatDoorZGc
import Derived.Test.YthkmpegpmpdhaaaGreatDoorProg
import Derived.WalkMore
import Derived.Maps.OwnIn
import Derived.Deep.LoopGhost
import Derived.RangeFuncNested
import Derived.RangeFuncCalls
import Derived.RangeFuncLeaves
import Derived.RangeFuncWrites
import Derived.Shelf.Abstract
import Derived.Shelf.RegionOpen
import Derived.OwnWalkIn
import Derived.TacticsInMore
import Derived.LoopNIn
import Derived.LoopIn
import Derived.RangeFuncBound
import Derived.WalkKit
import Derived.WalkSpells
import Derived.WalkLawsBesides
import Derived.Laws.EntriesVeiled
import Derived.ProofKit
import Derived.OpenShut
import Derived.Lib.Hide
import Derived.BigQuiet
import Derived.Deep.QuietTactic
import Derived.Deep.CutRange
import Derived.StillTailTactics
import Derived.Lib.SliceRun
import Derived.RangeFuncRecord
import Derived.Carry
import Derived.ChangeKeysEq
import Derived.Below
import Derived.Laws.OwnMore
import Derived.Deep.AppendLies
import Derived.Deep.Draws
import Derived.Laws.Rows
import Derived.Maps.AppendAt
import Derived.RegionTactic
import Derived.OwnWalk
import Derived.Deep.RegionHeld3
namespace Go.Proofs.YthkmpegpmpdhaaaGreatDoor
open Go.Shelf Go.ChangeShapes Go.WideShapes Go.ChangeAt Go.RowKit
set_option linter.unusedSimpArgs false
set_option linter.unusedVariables false
def stp0 : Stp := ⟨0, 0, 0, 0⟩
/-- One more track inside. -/
def addIn (i : Int) (c : Con) : Con := if c.ins.length < 40 ∧ c.ins.getLast? ≠ some i then { c with ins := c.ins ++ [i] } else c
/-- The container that a departure makes. -/
def newC (t : Trk) (i j : Nat) : Con := ⟨(t.st[j]?).getD stp0, (t.st[j + 1]?).getD stp0, i, j, []⟩
def stepC (t : Trk) (i j : Nat) (s : ByteArray) (g : ByteArray → Option Con) : ByteArray → Option Con := fun q => if q = s then some (addIn (i : Int) ((g s).getD (newC t i j))) else g q
/-- The containers behind the first departures of a track. -/
def rowC (t : Trk) (i : Nat) (g : ByteArray → Option Con) : Nat → ByteArray → Option Con
  | 0 => g
  | j + 1 => match t.se[j]? with
    | some s => stepC t i j s (rowC t i g j)
    | none => rowC t i g j
/-- The containers of the first tracks. -/
def allC (ts : List Trk) : Nat → ByteArray → Option Con
  | 0 => fun _ => none
  | k + 1 => match ts[k]? with
    | some t => rowC t k (allC ts k) t.se.length
    | none => allC ts k
theorem rowC_succ {t : Trk} {i j : Nat} {g : ByteArray → Option Con} {s : ByteArray} (h : t.se[j]? = some s) : rowC t i g (j + 1) = stepC t i j s (rowC t i g j) := by simp only [rowC, h]
theorem allC_succ {ts : List Trk} {k : Nat} {t : Trk} (h : ts[k]? = some t) : allC ts (k + 1) = rowC t k (allC ts k) t.se.length := by simp only [allC, h]
def ContPost (ts : List Trk) (n : Nat) (w : World) (e : Ending) (w' : World) : Prop := ∃ m F, e = .returned (.map (some m)) ∧ Cons w w' m F ∧ ∀ s, (F s).map (·.con) = allC ts n s
theorem cont_post {ts : List Trk} {n : Nat} {w w' : World} (m : Nat) (F : ByteArray → Option Cel) (h1 : Cons w w' m F) (h2 : ∀ s, (F s).map (·.con) = allC ts n s) : ContPost ts n w (.returned (.map (some m))) w' := ⟨m, F, rfl, h1, h2⟩
theorem con_step {F F3 : ByteArray → Option Cel} {g : ByteArray → Option Con} {s : ByteArray} {t : Trk} {i j : Nat} {y : Cel} (h : ∀ q, (F q).map (·.con) = g q) (h1 : F3 s = some y) (h2 : y.con = addIn (i : Int) ((g s).getD (newC t i j))) (h3 : ∀ q, q ≠ s → F3 q = F q) : ∀ q, (F3 q).map (·.con) = stepC t i j s g q := by
  intro q
  unfold stepC
  by_cases e : q = s
  · subst e
    rw [if_pos rfl, h1, ← h2]; rfl
  · rw [if_neg e, h3 q e, h q]
theorem addIn_full {i : Int} {c : Con} (h : ¬ c.ins.length < 40) : addIn i c = c := by simp [addIn, h]
theorem addIn_last {i : Int} {c : Con} (h : c.ins.getLast? = some i) : addIn i c = c := by simp [addIn, h]
theorem addIn_new {i : Int} {c : Con} (h1 : c.ins.length < 40) (h2 : c.ins.getLast? ≠ some i) : addIn i c = { c with ins := c.ins ++ [i] } := by simp [addIn, h1, h2]
theorem wpList_appI {w : World} {ops : Array Oper} {rest : List Oper} {o : Oper} {a : Act} {Q : Exit → Act → World → Prop} (hgd : o.guard = none) (s x : Operand)
    (ho : o.op = .call { callee := .builtin .append, args := #[s, x], argTypes := #[41, 41] }) (base : Nat)
    (v : Value) (zs : List Int) (hs : a.eval s = v) (hown : w.ownsRow base 3 1 v zs.length (recCells intR zs))
    (A : Option Addr) (m c : Nat) (l2 : List Int) (hx : a.eval x = .slice A m c) (hr : RecIn intR w w.heap.size A l2) (hm : Hid (m = l2.length)) (hle : Hid (zs.length + l2.length ≤ 1000000)) (hbase : Hid (base ≤ w.heap.size))
    (h : ∀ A' n' c' w', w'.ownsRow base 3 1 (.slice A' n' c') (zs ++ l2).length (recCells intR (zs ++ l2)) → n' = (zs ++ l2).length → w.grownBy w' v.ownBlock → ((Value.slice A' n' c').ownBlock = v.ownBlock ∨ (Value.slice A' n' c').ownBlock = some w.heap.size) → wpList Tryz.prog ops Q rest (a.put o.dst (.slice A' n' c')) w') :
    wpList Tryz.prog ops Q (o :: rest) a w := by
  obtain ⟨i0, z, hi0, hz0, hz1, hz2, hz3⟩ := intOk.info
  have hle' := hle.out
  have hm' := hm.out
  have hb' := hbase.out
  subst hm'
  refine wpList_append_any (P := Tryz.prog) w hgd s x 41 ho base 3 i0 z 1 8 Tryz.underlying41 hi0 hz0 hz1 hz2 hz3 (by decide) v zs.length (recCells intR zs) hs hown w.heap.size A l2.length c (recCells intR l2) hx (hr.reads intOk) (recCells_oneCell intOk l2) (by unfold maxLen; omega) (by omega) hb' ?_
  intro v' w' h1 h2 h3
  obtain ⟨A', c', rfl⟩ := own_slice h1
  rw [← List.length_append, ← recCells_append] at h1
  (try rw [← List.length_append] at h3); rw [← List.length_append]
  exact h A' _ c' w' h1 rfl h2 h3
set_option maxRecDepth 100000 in
set_option maxHeartbeats 8000000 in
theorem containers90 (ts : List Trk) (tA : Option Addr) (n tc : Nat) (w : World) (hT : RecIn tkR w w.heap.size tA ts) (hn : Hid (n = ts.length)) (hnx : n ≤ 1000) (hG : ∀ t ∈ ts, GoodT w t) (hsz : ∀ t ∈ ts, t.st.length ≤ 1000) :
    Calls Tryz.prog 90 #[.slice tA n tc] w (ContPost ts n w) := by
  have HT := Lib.hid hT
  have HG := Lib.hid hG
  have HZ := Lib.hid hsz
  clear hT hG hsz
  obtain ⟨N0, hN0⟩ : ∃ N0, w.heap.size = N0 := ⟨_, rfl⟩
  have CM := Lib.hid (show Cons w (w.alloc (.map #[] 0)) N0 (fun _ => none) by rw [← hN0]; exact Cons.made (Keeps.refl w))
  have hmk := @run_makeMap Tryz.prog
  go_enter Tryz.func90, Tryz.ntmps90
  go_wp2_with fail
  clear hmk
  (try rw [hN0])
  generalize w.alloc (.map #[] 0) = w1 at *
  clear hN0
  go_loopw [13] (fun i wx => ∃ (k : Nat) (F : ByteArray → Option Cel), k ≤ n ∧ i = .int .i64 (k : Int) ∧ Cons w wx N0 F ∧ ∀ s, (F s).map (·.con) = allC ts k s) (fun i _ => n - (intOf i).toNat)
  case atStart => exact ⟨0, _, by omega, rfl, CM.out, fun s => rfl⟩
  case round =>
    obtain ⟨k, F, hk, rfl, hC, hF⟩ := hrel
    have HC := Lib.hid hC
    have HF := Lib.hid hF
    have hnl := hn.out
    clear hC hF CM
    by_cases hkn : k < n
    · obtain ⟨t, ht⟩ : ∃ t, ts[k]? = some t := ⟨_, List.getElem?_eq_getElem (by omega)⟩
      obtain ⟨b, o, rfl, hb2, e0, e1, e2, e3, e4, e5, e6, e7, e8, e9⟩ := (HT.out.keep HC.out.keep).trk ht
      have kn : (k : Int) < (n : Int) := by omega
      have k0 : (0 : Int) ≤ (k : Int) := by omega
      have kw : IntKind.i64.wrap ((k : Int) + 1) = (k : Int) + 1 := wrap_in (by omega) (by omega)
      obtain ⟨pl, pf, pt, pc, pa, st, stA, stc, lost, si, siA, sic, lb, lbA, lbc, se, seA, sec⟩ := t
      simp only at e0 e1 e2 e3 e4 e5 e6 e7 e8 e9
      have HWF := Lib.hid (HG.out _ (List.mem_of_getElem? ht))
      have HAS := Lib.hid (allC_succ ht)
      have HSE := Lib.hid (show RecIn strR w w.heap.size seA se from HWF.out.ok.se)
      have HST := Lib.hid (show RecIn stR w w.heap.size stA st from HWF.out.ok.st)
      have HLN := Lib.hid (show st.length = se.length + 1 by have := HWF.out.wf.1; simp only [stopsF, Bool.and_eq_true, decide_eq_true_eq] at this; exact this.1)
      have HZ2 := Lib.hid (show st.length ≤ 1000 from HZ.out _ (List.mem_of_getElem? ht))
      have HB := Blk.new wr 64 #[.string pl, .int .i64 pf, .int .i64 pt, .int .i64 pc, .int .i64 pa, .slice stA st.length stc, .bool lost, .slice siA si.length sic, .slice lbA lb.length lbc, .slice seA se.length sec]
      have CR := Lib.hid (HC.out.keepK ((Keeps.refl wr).alloc (.cells #[.string pl, .int .i64 pf, .int .i64 pt, .int .i64 pc, .int .i64 pa, .slice stA st.length stc, .bool lost, .slice siA si.length sic, .slice lbA lb.length lbc, .slice seA se.length sec] 64)))
      obtain ⟨T, hT⟩ : ∃ T : Trk, T = { pl := pl, pf := pf, pt := pt, pc := pc, pa := pa, st := st, stA := stA, stc := stc, lost := lost, si := si, siA := siA, sic := sic, lb := lb, lbA := lbA, lbc := lbc, se := se, seA := seA, sec := sec } := ⟨_, rfl⟩
      have HTE := Lib.hid (show T.se = se ∧ T.st = st by rw [hT]; exact ⟨rfl, rfl⟩)
      rw [← hT] at HAS
      obtain ⟨N1, hN1⟩ : ∃ N1, wr.heap.size = N1 := ⟨_, rfl⟩
      obtain ⟨S, hS⟩ : ∃ S, se.length = S := ⟨_, rfl⟩
      obtain ⟨P, hP⟩ : ∃ P, st.length = P := ⟨_, rfl⟩
      have HS := Lib.hid hS; have HP := Lib.hid hP
      rw [hN1] at HB
      rw [hS, hP] at CR HB
      rw [hS] at e9
      rw [hP] at e5
      clear hnl ht hT hS hP HC
      go_upto_region 5 with fail
      clear e0 e1 e2 e3 e4 e5 e6 e7 e8 e9 hN1
      generalize wr.alloc (.cells #[.string pl, .int .i64 pf, .int .i64 pt, .int .i64 pc, .int .i64 pa, .slice stA P stc, .bool lost, .slice siA si.length sic, .slice lbA lb.length lbc, .slice seA S sec] 64) = W1 at *
      have D9 := HB.cell 9
      obtain ⟨CE, hCE⟩ : ∃ CE : Array Value, CE = #[.string pl, .int .i64 pf, .int .i64 pt, .int .i64 pc, .int .i64 pa, .slice stA P stc, .bool lost, .slice siA si.length sic, .slice lbA lb.length lbc, .slice seA S sec] := ⟨_, rfl⟩
      have HCE := Lib.hid (show CE[5]? = some (.slice stA P stc) ∧ CE[9]? = some (.slice seA S sec) by rw [hCE]; exact ⟨rfl, rfl⟩)
      rw [← hCE] at HB
      have HBE := Lib.hid HB
      clear hCE HB
      go_wp2_with fail
      clear D9
      go_loopw [21] (fun i wx => ∃ (j : Nat) (F2 : ByteArray → Option Cel), j ≤ S ∧ i = .int .i64 (j : Int) ∧ Cons w wx N0 F2 ∧ Blk wx N1 64 CE ∧ ∀ s, (F2 s).map (·.con) = rowC T k (allC ts k) j s) (fun i _ => S - (intOf i).toNat)
      case atStart => exact ⟨0, F, by omega, rfl, CR.out, HBE.out, HF.out⟩
      case round =>
        obtain ⟨j, F2, hj, rfl, hC2, hB2, hF2⟩ := hrel
        have C2 := Lib.hid hC2
        have HB2 := Lib.hid hB2
        have HF2 := Lib.hid hF2
        clear hC2 hF2 hB2 CR HBE
        by_cases hjS : j < S
        · obtain ⟨s, hs⟩ : ∃ s, se[j]? = some s := ⟨_, List.getElem?_eq_getElem (by have := HS.out; omega)⟩
          have HRS := Lib.hid (rowC_succ (t := T) (i := k) (g := allC ts k) (show T.se[j]? = some s by rw [HTE.out.1]; exact hs))
          obtain ⟨b1, o1, rfl, hb1, a0⟩ := (HSE.out.keep C2.out.keep).str hs
          have x5 := (HB2.out.cell 5).trans HCE.out.1
          have x9 := (HB2.out.cell 9).trans HCE.out.2
          have jS : (j : Int) < (S : Int) := by omega
          have S1000 : S ≤ 1000 := by have := HS.out; have := HZ2.out; have := HLN.out; omega
          have j0 : (0 : Int) ≤ (j : Int) := by omega
          have jw : IntKind.i64.wrap ((j : Int) + 1) = (j : Int) + 1 := wrap_in (by omega) (by omega)
          have hlk := C2.out.look s
          cases hfs : F2 s with
          | none =>
            have HFS := Lib.hid hfs
            rw [hfs] at hlk
            simp only [Option.map_none, Option.getD_none, Option.isSome_none] at hlk
            obtain ⟨p, hp⟩ : ∃ p, st[j]? = some p := ⟨_, List.getElem?_eq_getElem (by have := HP.out; have := HLN.out; have := HS.out; omega)⟩
            obtain ⟨r, hr⟩ : ∃ r, st[j + 1]? = some r := ⟨_, List.getElem?_eq_getElem (by have := HP.out; have := HLN.out; have := HS.out; omega)⟩
            obtain ⟨b2, o2, rfl, hb2, p0, p1, p2, p3⟩ := (HST.out.keep C2.out.keep).stp hp
            obtain ⟨b3, o3, e, hb3, r0, r1, r2, r3⟩ := (HST.out.keep C2.out.keep).stp hr
            injection e with e
            injection e with e1 e2
            subst e1 e2
            have jP : (j : Int) < (P : Int) := by have := HP.out; have := HLN.out; have := HS.out; omega
            have jP1 : (j : Int) + 1 < (P : Int) := by have := HP.out; have := HLN.out; have := HS.out; omega
            have j10 : (0 : Int) ≤ (j : Int) + 1 := by omega
            have HNC := Lib.hid (show newC T k j = ⟨p, r, k, j, []⟩ by unfold newC; rw [HTE.out.2, hp, hr]; rfl)
            have HG0 := Lib.hid (show rowC T k (allC ts k) j s = none by rw [← HF2.out s, HFS.out]; rfl)
            obtain ⟨po, pa2, pd, pl2⟩ := p
            obtain ⟨ro, ra, rd, rl⟩ := r
            simp only at p0 p1 p2 p3 r0 r1 r2 r3
            clear hs hp hr hfs
            have en : ((j : Int) + 1).toNat = j + 1 := by omega
            have hbn := Blk.new wr 195 (conCells ⟨⟨po, pa2, pd, pl2⟩, ⟨ro, ra, rd, rl⟩, k, j, []⟩ (.slice none 0 0))
            obtain ⟨W2, hput, hC3, hg3⟩ := C2.out.add HFS.out ⟨⟨po, pa2, pd, pl2⟩, ⟨ro, ra, rd, rl⟩, k, j, []⟩ rfl (W1 := (wr.alloc (.cells (conCells ⟨⟨po, pa2, pd, pl2⟩, ⟨ro, ra, rd, rl⟩, k, j, []⟩ (.slice none 0 0)) 195)).drew) ((Keeps.refl wr).alloc _).drew hbn
            have HB3 := Lib.hid (show Blk W2 N1 64 CE from (HB2.out.alloc _).drew.grown hg3 (fun e => blk_not_map (HB2.out.alloc (.cells (conCells ⟨⟨po, pa2, pd, pl2⟩, ⟨ro, ra, rd, rl⟩, k, j, []⟩ (.slice none 0 0)) 195)).drew (by cases e; exact (C2.out.keepK ((Keeps.refl wr).alloc _).drew).map.at_)))
            have C3 := Lib.hid hC3
            have HFX := Lib.hid (updC_at F2 s ⟨wr.heap.size, none, 0, ⟨⟨po, pa2, pd, pl2⟩, ⟨ro, ra, rd, rl⟩, k, j, []⟩⟩)
            have HFN := Lib.hid (fun q hq => updC_ne F2 (s := s) (q := q) ⟨wr.heap.size, none, 0, ⟨⟨po, pa2, pd, pl2⟩, ⟨ro, ra, rd, rl⟩, k, j, []⟩⟩ hq)
            generalize updC F2 s ⟨wr.heap.size, none, 0, ⟨⟨po, pa2, pd, pl2⟩, ⟨ro, ra, rd, rl⟩, k, j, []⟩⟩ = F3 at *
            have c10 := (C3.out.blk s _ HFX.out).cell 10
            simp only [conCells, celV] at c10 hput
            clear hC3 hg3 hbn
            go_upto_region 10 with fail
            go_region
            generalize hxb : wr.heap.size = xb at *
            go_upto_region 12 with fail
            have h40 : (0 : Int) < 40 := by omega
            go_wp2_with fail
            go_quiet (fail)
            have CW := Lib.hid (C3.out.keepK ((Keeps.refl W2).drewN nq))
            have HBW := Lib.hid (HB3.out.drewN nq)
            generalize W2.drewN nq = W3 at *
            have OX := Lib.hid ((CW.out.keepK ((Keeps.refl W3).alloc (.cells #[.int .i64 (k : Int)] 3))).own s _ HFX.out)
            have XX := Lib.hid (RecIn.lit intOk W3 [(k : Int)] #[.int .i64 (k : Int)] rfl)
            have ONE := Lib.hid (show (1 : Nat) = [(k : Int)].length from rfl)
            have LE := Lib.hid (show (([] : List Int)).length + [(k : Int)].length ≤ 1000000 by simp <;> omega)
            have BASE := Lib.hid (show w.heap.size ≤ (W3.alloc (.cells #[.int .i64 (k : Int)] 3)).heap.size from (CW.out.keepK ((Keeps.refl W3).alloc _)).keep.size)
            have PUSH := Lib.hid (fun A' n' c' w5 h1 h2 h3 h4 => (CW.out.keepK ((Keeps.refl W3).alloc (.cells #[.int .i64 (k : Int)] 3))).push HFX.out (A' := A') (n' := n') (c' := c') (zs := ([] : List Int) ++ [(k : Int)]) (W1 := w5) h2 h1 h3 h4)
            have FAR := Lib.hid (fun w5 (h3 : (W3.alloc (.cells #[.int .i64 (k : Int)] 3)).grownBy w5 _) => Blk.grown (HBW.out.alloc (.cells #[.int .i64 (k : Int)] 3)) h3 (fun e => own_blk_ne OX.out (HBW.out.alloc (.cells #[.int .i64 (k : Int)] 3)) (by decide) e.symm))
            have NE := Lib.hid (HBW.out.ne_ (CW.out.blk s _ HFX.out) (by decide))
            have c10w := (CW.out.blk s _ HFX.out).cell 10
            simp only [conCells, celV] at c10w
            clear c10
            go_wp2_with (at_builtin; refine wpList_appI rfl (.tmp 86) (.tmp 88) rfl w.heap.size _ (([] : List Int)) rfl OX.out _ _ _ [(k : Int)] rfl XX.out ONE LE BASE ?_; intro A5 n5 c5 w5 ho5 hn5 hg5 hl5; obtain ⟨P1, P2⟩ := PUSH.out _ _ _ _ ho5 hn5 hg5 hl5; have q10 := P2.cell 10; have f10 := P2.frozen 10; simp only [conCells, celV] at q10; have HP1 := Lib.hid P1; have HB5 := Lib.hid (FAR.out _ hg5); clear ho5 hn5 hg5 hl5 P1 P2)
            go_roundw
            case rel => exact ⟨j + 1, _, by omega, by go_num, HP1.out, HB5.out.far NE.out _, fun q => by rw [HRS.out]; exact con_step HF2.out (updC_at _ s _) (by rw [HG0.out, Option.getD_none, HNC.out, addIn_new (by simp) (by simp)]) (fun q hq => (updC_ne F3 _ hq).trans (HFN.out q hq)) q⟩
            case measure => simp [intOf]; omega
          | some x =>
            have HFX := Lib.hid hfs
            rw [hfs] at hlk
            simp only [Option.map_some, Option.getD_some, Option.isSome_some] at hlk
            have HG1 := Lib.hid (show rowC T k (allC ts k) j s = some x.con by rw [← HF2.out s, HFX.out]; rfl)
            have hown := (C2.out.own s x hfs)
            have hri := (RecIn.of_own intOk (A := x.A) (n := x.con.ins.length) (c := x.c) hown rfl)
            obtain ⟨xb, xA, xc, ⟨⟨fo, fa, fd, fl⟩, ⟨zo, za, zd, zl⟩, xtr, xsp, ins⟩⟩ := x
            simp only at hri hlk
            have c10 := (C2.out.blk s _ hfs).cell 10
            simp only [conCells, celV] at c10
            obtain ⟨q, hq⟩ : ∃ q, ins.length = q := ⟨_, rfl⟩
            have HQ := Lib.hid hq
            rw [hq] at c10
            clear hs hfs hown
            by_cases h40 : q < 40
            case neg =>
              have h40d : decide ((q : Int) < 40) = false := by simp; omega
              have HAD := Lib.hid (addIn_full (i := (k : Int)) (c := ⟨⟨fo, fa, fd, fl⟩, ⟨zo, za, zd, zl⟩, xtr, xsp, ins⟩) (by rw [← hq] at h40; exact h40))
              clear hri hq
              go_upto_region 12 with fail
              go_quiet (fail)
              go_wp2_with fail
              go_roundw
              case rel => exact ⟨j + 1, F2, by omega, by go_num, C2.out.keepK ((Keeps.refl _).drewN _), HB2.out.drewN _, fun q => by rw [HRS.out]; exact con_step HF2.out HFX.out (by rw [HG1.out, Option.getD_some, HAD.out]) (fun q hq => rfl) q⟩
              case measure => simp [intOf]; omega
            have h40d : decide ((q : Int) < 40) = true := by simp; omega
            have h40i : (q : Int) < 40 := by omega
            rcases q with _ | p
            · have hnil : ins = [] := List.eq_nil_of_length_eq_zero hq
              subst hnil
              clear hri hq
              go_upto_region 12 with fail
              go_quiet (fail)
              have CW := Lib.hid (C2.out.keepK ((Keeps.refl wr).drewN nq))
              have HBW := Lib.hid (HB2.out.drewN nq)
              generalize wr.drewN nq = W3 at *
              have OX := Lib.hid ((CW.out.keepK ((Keeps.refl W3).alloc (.cells #[.int .i64 (k : Int)] 3))).own s _ HFX.out)
              have XX := Lib.hid (RecIn.lit intOk W3 [(k : Int)] #[.int .i64 (k : Int)] rfl)
              have ONE := Lib.hid (show (1 : Nat) = [(k : Int)].length from rfl)
              have LE := Lib.hid (show (([] : List Int)).length + [(k : Int)].length ≤ 1000000 by simp <;> omega)
              have BASE := Lib.hid (show w.heap.size ≤ (W3.alloc (.cells #[.int .i64 (k : Int)] 3)).heap.size from (CW.out.keepK ((Keeps.refl W3).alloc _)).keep.size)
              have PUSH := Lib.hid (fun A' n' c' w5 h1 h2 h3 h4 => (CW.out.keepK ((Keeps.refl W3).alloc (.cells #[.int .i64 (k : Int)] 3))).push HFX.out (A' := A') (n' := n') (c' := c') (zs := ([] : List Int) ++ [(k : Int)]) (W1 := w5) h2 h1 h3 h4)
              have FAR := Lib.hid (fun w5 (h3 : (W3.alloc (.cells #[.int .i64 (k : Int)] 3)).grownBy w5 _) => Blk.grown (HBW.out.alloc (.cells #[.int .i64 (k : Int)] 3)) h3 (fun e => own_blk_ne OX.out (HBW.out.alloc (.cells #[.int .i64 (k : Int)] 3)) (by decide) e.symm))
              have NE := Lib.hid (HBW.out.ne_ (CW.out.blk s _ HFX.out) (by decide))
              have c10w := (CW.out.blk s _ HFX.out).cell 10
              simp only [conCells, celV] at c10w
              clear c10
              go_wp2_with (at_builtin; refine wpList_appI rfl (.tmp 86) (.tmp 88) rfl w.heap.size _ (([] : List Int)) rfl OX.out _ _ _ [(k : Int)] rfl XX.out ONE LE BASE ?_; intro A5 n5 c5 w5 ho5 hn5 hg5 hl5; obtain ⟨P1, P2⟩ := PUSH.out _ _ _ _ ho5 hn5 hg5 hl5; have q10 := P2.cell 10; have f10 := P2.frozen 10; simp only [conCells, celV] at q10; have HP1 := Lib.hid P1; have HB5 := Lib.hid (FAR.out _ hg5); clear ho5 hn5 hg5 hl5 P1 P2)
              go_roundw
              case rel => exact ⟨j + 1, _, by omega, by go_num, HP1.out, HB5.out.far NE.out _, fun q => by rw [HRS.out]; exact con_step HF2.out (updC_at _ s _) (by rw [HG1.out, Option.getD_some, addIn_new (by simp) (by simp)]) (fun q hq => updC_ne F2 _ hq) q⟩
              case measure => simp [intOf]; omega
            · obtain ⟨v, hv⟩ : ∃ v, ins[p]? = some v := ⟨_, List.getElem?_eq_getElem (by omega)⟩
              have HV := Lib.hid (show ins.getLast? = some v by rw [List.getLast?_eq_getElem?, show ins.length - 1 = p by omega]; exact hv)
              obtain ⟨b4, o4, e4, hb4, v0⟩ := hri.int hv
              have pq : (p : Int) < ((p + 1 : Nat) : Int) := by omega
              have p0 : (0 : Int) ≤ (p : Int) := by omega
              have pw : IntKind.i64.wrap (p : Int) = (p : Int) := wrap_in (by omega) (by omega)
              have pe : ((p + 1 : Nat) : Int) - 1 = (p : Int) := by omega
              have pz : (((p + 1 : Nat) : Int) == 0) = false := by simp; omega
              have h40d2 : decide ((p : Int) + 1 < 40) = true := by simp; omega
              have h40i2 : (p : Int) + 1 < 40 := by omega
              have pz2 : ((p : Int) + 1 == 0) = false := by simp; omega
              have pq2 : (p : Int) < (p : Int) + 1 := by omega
              have pe2 : (p : Int) + 1 - 1 = (p : Int) := by omega
              subst e4
              have HLN4 := Lib.hid (show ins.length < 40 by omega)
              by_cases hvk : v = (k : Int)
              · have hvd : (v != (k : Int)) = false := by simp [hvk]
                have HAD := Lib.hid (addIn_last (i := (k : Int)) (c := ⟨⟨fo, fa, fd, fl⟩, ⟨zo, za, zd, zl⟩, xtr, xsp, ins⟩) (by rw [← hvk]; exact HV.out))
                clear hri hq hv hvk
                go_upto_region 12 with fail
                go_quiet (fail)
                go_wp2_with fail
                go_roundw
                case rel => exact ⟨j + 1, F2, by omega, by go_num, C2.out.keepK ((Keeps.refl _).drewN _), HB2.out.drewN _, fun q => by rw [HRS.out]; exact con_step HF2.out HFX.out (by rw [HG1.out, Option.getD_some, HAD.out]) (fun q hq => rfl) q⟩
                case measure => simp [intOf]; omega
              · have hvd : (v != (k : Int)) = true := by simp [hvk]
                have HAD := Lib.hid (addIn_new (i := (k : Int)) (c := ⟨⟨fo, fa, fd, fl⟩, ⟨zo, za, zd, zl⟩, xtr, xsp, ins⟩) HLN4.out (by intro e; rw [HV.out] at e; cases e; exact hvk rfl))
                have HLI := Lib.hid (show ins.length ≤ 1000 by omega)
                have hli : ins.length ≤ 1000 := by omega
                clear hri hq hv hvk
                go_upto_region 12 with fail
                go_quiet (fail)
                have CW := Lib.hid (C2.out.keepK ((Keeps.refl wr).drewN nq))
                have HBW := Lib.hid (HB2.out.drewN nq)
                generalize wr.drewN nq = W3 at *
                rw [← HQ.out] at c10
                have OX := Lib.hid ((CW.out.keepK ((Keeps.refl W3).alloc (.cells #[.int .i64 (k : Int)] 3))).own s _ HFX.out)
                have XX := Lib.hid (RecIn.lit intOk W3 [(k : Int)] #[.int .i64 (k : Int)] rfl)
                have ONE := Lib.hid (show (1 : Nat) = [(k : Int)].length from rfl)
                have LE := Lib.hid (show (ins).length + [(k : Int)].length ≤ 1000000 by simp <;> omega)
                have BASE := Lib.hid (show w.heap.size ≤ (W3.alloc (.cells #[.int .i64 (k : Int)] 3)).heap.size from (CW.out.keepK ((Keeps.refl W3).alloc _)).keep.size)
                have PUSH := Lib.hid (fun A' n' c' w5 h1 h2 h3 h4 => (CW.out.keepK ((Keeps.refl W3).alloc (.cells #[.int .i64 (k : Int)] 3))).push HFX.out (A' := A') (n' := n') (c' := c') (zs := ins ++ [(k : Int)]) (W1 := w5) h2 h1 h3 h4)
                have FAR := Lib.hid (fun w5 (h3 : (W3.alloc (.cells #[.int .i64 (k : Int)] 3)).grownBy w5 _) => Blk.grown (HBW.out.alloc (.cells #[.int .i64 (k : Int)] 3)) h3 (fun e => own_blk_ne OX.out (HBW.out.alloc (.cells #[.int .i64 (k : Int)] 3)) (by decide) e.symm))
                have NE := Lib.hid (HBW.out.ne_ (CW.out.blk s _ HFX.out) (by decide))
                have c10w := (CW.out.blk s _ HFX.out).cell 10
                simp only [conCells, celV] at c10w
                clear c10
                go_wp2_with (at_builtin; refine wpList_appI rfl (.tmp 86) (.tmp 88) rfl w.heap.size _ (ins) rfl OX.out _ _ _ [(k : Int)] rfl XX.out ONE LE BASE ?_; intro A5 n5 c5 w5 ho5 hn5 hg5 hl5; obtain ⟨P1, P2⟩ := PUSH.out _ _ _ _ ho5 hn5 hg5 hl5; have q10 := P2.cell 10; have f10 := P2.frozen 10; simp only [conCells, celV] at q10; have HP1 := Lib.hid P1; have HB5 := Lib.hid (FAR.out _ hg5); clear ho5 hn5 hg5 hl5 P1 P2)
                go_roundw
                case rel => exact ⟨j + 1, _, by omega, by go_num, HP1.out, HB5.out.far NE.out _, fun q => by rw [HRS.out]; exact con_step HF2.out (updC_at _ s _) (by rw [HG1.out, Option.getD_some, HAD.out]) (fun q hq => updC_ne F2 _ hq) q⟩
                case measure => simp [intOf]; omega
        · have hjS' : ¬ ((j : Int) < (S : Int)) := by omega
          have ejS : j = S := by omega
          have HFE := Lib.hid (show ∀ s, (F2 s).map (·.con) = allC ts (k + 1) s from fun s => by rw [HAS.out, HTE.out.1, HS.out, ← ejS]; exact HF2.out s)
          clear ejS
          go_wp2_with fail
          go_roundw
          case rel => exact ⟨k + 1, F2, by omega, by go_num, C2.out, HFE.out⟩
          case measure => simp [intOf]; omega
    · obtain rfl : k = n := by omega
      have hkn' : ¬ ((k : Int) < (k : Int)) := by omega
      clear hnl
      go_wp2_with fail
      go_ret
      exact cont_post N0 F HC.out HF.out
end Go.Proofs.YthkmpegpmpdhaaaGreatDoor
