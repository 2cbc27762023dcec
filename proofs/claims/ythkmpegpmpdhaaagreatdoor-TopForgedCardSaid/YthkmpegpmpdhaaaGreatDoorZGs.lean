/- Part of the proof of TopOwnItem. Conditions: as stated in each theorem. -/
import Derived.Test.YthkmpegpmpdhaaaGreatDoorZGr
import Derived.Test.YthkmpegpmpdhaaaGreatDoorProg
import Derived.WalkMore
import Derived.Maps.OwnIn
import Derived.Deep.LoopGhost
import Derived.RangeFuncNested
import Derived.RangeFuncCalls
import Derived.RangeFuncLeaves
import Derived.RangeFuncWrites
import Derived.Shelf.Abstract
import Derived.Shelf.RegionOpen
import Derived.OwnWalkIn
import Derived.TacticsInMore
import Derived.LoopNIn
import Derived.LoopIn
import Derived.RangeFuncBound
import Derived.Stop.RegionWithIn
import Derived.WalkKit
import Derived.WalkSpells
import Derived.WalkLawsBesides
import Derived.Laws.EntriesVeiled
import Derived.ProofKit
import Derived.OpenShut
import Derived.Lib.Hide
import Derived.BigQuiet
import Derived.Deep.QuietTactic
import Derived.Deep.CutRange
import Derived.StillTailTactics
import Derived.Lib.SliceRun
import Derived.RangeFuncRecord
import Derived.Carry
import Derived.ChangeKeysEq
import Derived.Below
import Derived.Laws.OwnMore
import Derived.Deep.AppendLies
import Derived.Deep.Draws
import Derived.Laws.Rows
import Derived.Maps.AppendAt
import Derived.RegionTactic
import Derived.OwnWalk
import Derived.Deep.RegionHeld3
namespace Go.Proofs.YthkmpegpmpdhaaaGreatDoor
open Go.Shelf Go.ChangeShapes Go.WideShapes Go.ChangeAt Go.RowKit
set_option linter.unusedSimpArgs false
set_option linter.unusedVariables false
attribute [local go_sem] Oper.semAt_some
theorem sib81 (a b : Int) (A : Option Addr) (c : Nat) (w : World) (h : RecIn intR w w.heap.size A [a, b]) : Calls Tryz.prog 81 #[.slice A 2 c, .int .i64 1] w fun e w' => e = .returned (.int .i64 a) ∧ w' = w := by
  obtain ⟨bb, o, rfl, hb, c0⟩ := h.int (show [a, b][0]? = some a from rfl)
  rw [Nat.add_zero] at c0
  have d1 : ((1 : Int).tmod 2) = 1 := by decide
  clear h
  go_enter Tryz.func81, Tryz.ntmps81
  go_wp2_with fail
  go_ret
  exact ⟨rfl, rfl⟩
theorem own_cells2 {w : World} {base : Nat} {e : TypeId} {size n : Nat} {v : Value} {xs : List Value} (h : w.ownsRow base e size v n xs) : ∀ k o, v.ownBlock = some k → w.heap[k]? = some o → o.isCells = true := by
  intro k o hk ho
  rcases h.2 with ⟨rfl, rfl⟩ | ⟨g, cap, cur, rfl, hb, hh, _⟩
  · simp [Value.ownBlock] at hk
  · simp [Value.ownBlock] at hk
    subst hk
    rw [hh] at ho; injection ho with ho; subst ho; rfl
def leafOf (s : ByteArray) : Int := dgF [0, dgF (codes s)]
theorem tree2 (a b : ByteArray) : treeF [a, b] = [[leafOf a, leafOf b], [dgF [1, leafOf a, leafOf b]]] := by
  simp [treeF, leafF, rowsF, aboveF, leafOf]
/-- Path's loop between two rounds, at two labels and the index 1. -/
structure PaI (w : World) (IB PB : Nat) (la : Int) (pre : List Rw) (W : World) : Prop where
  low : Keeps w W
  st : (pre = [] ∧ Blk W IB 3 #[.int .i64 1] ∧ Blk W PB 41 #[.slice none 0 0]) ∨ (pre ≠ [] ∧ Blk W IB 3 #[.int .i64 0] ∧ ∃ (A : Option Addr) (n c : Nat), Blk W PB 41 #[.slice A n c] ∧ OwnR intR w W (.slice A n c) [la])
theorem PaI.abide {w w2 : World} {IB PB : Nat} {la : Int} (h0 : w.heap.size ≤ w2.heap.size) (h : IB < w2.heap.size) (h2 : PB < w2.heap.size) : Abide w2.heap.size (PaI w IB PB la) := by
  rintro pre A B row ⟨hk, hs⟩ hg hr
  have hne : ∀ q : Nat, q < w2.heap.size → some q ≠ row := fun q h1 e => by
    have := (hr q e.symm).1
    omega
  have hlow := grown_keeps hk hg (fun x e => by have := (hr x e).1; omega)
  refine ⟨hlow, ?_⟩
  rcases hs with ⟨h3, h4, h5⟩ | ⟨h3, h4, sA, n, c, h5, h6⟩
  · exact .inl ⟨h3, h4.grown hg (hne _ h), h5.grown hg (hne _ h2)⟩
  · refine .inr ⟨h3, h4.grown hg (hne _ h), sA, n, c, h5.grown hg (hne _ h2), h6.1.kept hg ?_, hlow⟩
    cases hv : (Value.slice sA n c).ownBlock with
    | none => exact .inl rfl
    | some k => exact .inr (fun e => by
        obtain ⟨o, ho, hc⟩ := (hr k e.symm).2
        have := own_cells2 h6.1 k o hv ho; rw [hc] at this; cases this)
theorem cap_cut (t : Nat) : 1 ≤ (Question.appendCap 1 0 3).cut t ∧ (Question.appendCap 1 0 3).cut t ≤ maxLen := by
  have h := Nat.mod_lt t (show 0 < 2 ^ 63 - 1 by decide)
  unfold Question.cut maxLen
  simp only
  omega
theorem path_step {w W : World} {IB PB CP : Nat} {la : Int} {xs : List Rw} (hxs : xs ≠ []) (low : Keeps w W) (hw : w.heap.size ≤ IB) (hwp : w.heap.size ≤ PB) (hne : IB ≠ PB) (h4 : Blk W IB 3 #[.int .i64 1]) (h5 : Blk W PB 41 #[.slice none 0 0]) (hCP : 1 ≤ CP ∧ CP ≤ maxLen) :
    KeepR (fun k => k ≠ IB ∧ k ≠ PB) W (((((W.alloc (.cells #[.int .i64 la] 3)).alloc (.cells (#[.int .i64 la] ++ Builtin.zeroCells #[.int .i64 0] (CP - 1)) 3)).setCell ⟨PB, 0, none⟩ (.slice (some ⟨W.heap.size + 1, 0, none⟩) 1 CP)).setCell ⟨IB, 0, none⟩ (.int .i64 0)).drew.drew) ∧
    PaI w IB PB la xs (((((W.alloc (.cells #[.int .i64 la] 3)).alloc (.cells (#[.int .i64 la] ++ Builtin.zeroCells #[.int .i64 0] (CP - 1)) 3)).setCell ⟨PB, 0, none⟩ (.slice (some ⟨W.heap.size + 1, 0, none⟩) 1 CP)).setCell ⟨IB, 0, none⟩ (.int .i64 0)).drew.drew) := by
  have kk : Keeps w (((((W.alloc (.cells #[.int .i64 la] 3)).alloc (.cells (#[.int .i64 la] ++ Builtin.zeroCells #[.int .i64 0] (CP - 1)) 3)).setCell ⟨PB, 0, none⟩ (.slice (some ⟨W.heap.size + 1, 0, none⟩) 1 CP)).setCell ⟨IB, 0, none⟩ (.int .i64 0)).drew.drew) := (((((low.alloc _).alloc _).setCell (p := ⟨PB, 0, none⟩) hwp _).setCell (p := ⟨IB, 0, none⟩) hw _).drew).drew
  have hb := (Blk.new (W.alloc (.cells #[.int .i64 la] 3)) 3 (#[.int .i64 la] ++ Builtin.zeroCells #[.int .i64 0] (CP - 1)))
  rw [World.size_alloc] at hb
  have h4l := h4.lt
  have h5l := h5.lt
  have hb2 := ((hb.far (p := ⟨PB, 0, none⟩) (show W.heap.size + 1 ≠ PB by omega) (.slice (some ⟨W.heap.size + 1, 0, none⟩) 1 CP)).far (p := ⟨IB, 0, none⟩) (show W.heap.size + 1 ≠ IB by omega) (.int .i64 0)).drew.drew
  have p2 := ((((h5.alloc (.cells #[.int .i64 la] 3)).alloc (.cells (#[.int .i64 la] ++ Builtin.zeroCells #[.int .i64 0] (CP - 1)) 3)).set_ 0 (.slice (some ⟨W.heap.size + 1, 0, none⟩) 1 CP)).far (p := ⟨IB, 0, none⟩) (fun e => hne e.symm) (.int .i64 0)).drew.drew
  have i2 := ((((h4.alloc (.cells #[.int .i64 la] 3)).alloc (.cells (#[.int .i64 la] ++ Builtin.zeroCells #[.int .i64 0] (CP - 1)) 3)).far (p := ⟨PB, 0, none⟩) hne (.slice (some ⟨W.heap.size + 1, 0, none⟩) 1 CP)).set_ 0 (.int .i64 0)).drew.drew
  refine ⟨⟨by simp [World.size_alloc]; omega, fun k hk hk2 => ?_⟩, kk, .inr ⟨hxs, i2, _, _, _, p2, ⟨?_, kk⟩⟩⟩
  · show (((((W.alloc _).alloc _).setCell _ _).setCell _ _)).heap[k]? = _
    rw [Below.heap_setCell _ _ _ k hk.1, Below.heap_setCell _ _ _ k hk.2, Below.heap_alloc _ _ k (by simp; omega), Below.heap_alloc _ _ k hk2]
  · refine ⟨rfl, .inr ⟨W.heap.size + 1, CP, _, rfl, by have := low.size; omega, hb2, hCP.1, hCP.2, ?_, ?_⟩⟩
    · rw [Array.size_append, size_zeroCells]; simp; omega
    · simp [recCells]
set_option maxRecDepth 100000 in
set_option maxHeartbeats 8000000 in
theorem path32 (a b : ByteArray) (A : Option Addr) (c : Nat) (w : World) (h : RecIn strR w w.heap.size A [a, b]) (hs : a.size ≤ 1000000 ∧ b.size ≤ 1000000) :
    Calls Tryz.prog 32 #[.slice A 2 c, .int .i64 1] w fun e w' => ∃ A' n' c', e = .returned (.slice A' n' c') ∧ OwnR intR w w' (.slice A' n' c') [leafOf a] := by
  obtain ⟨la, hla⟩ : ∃ la, leafOf a = la := ⟨_, rfl⟩
  have HLA := Lib.hid hla
  rw [hla]
  clear hla
  have HH := Lib.hid h
  obtain ⟨IB, hIB⟩ : ∃ IB, w.heap.size = IB := ⟨_, rfl⟩
  obtain ⟨PB, hPB⟩ : ∃ PB, IB + 1 = PB := ⟨_, rfl⟩
  obtain ⟨RB, hRB⟩ : ∃ RB, PB + 1 = RB := ⟨_, rfl⟩
  have K3 := Lib.hid ((((Keeps.refl w).alloc (.cells #[.int .i64 1] 3)).alloc (.cells #[.slice none 0 0] 41)).alloc (.cells #[.slice A 2 c] 24))
  have BI := Lib.hid (show Blk (((w.alloc (.cells #[.int .i64 1] 3)).alloc (.cells #[.slice none 0 0] 41)).alloc (.cells #[.slice A 2 c] 24)) IB 3 #[.int .i64 1] from by
    have := ((Blk.new w 3 #[.int .i64 1]).alloc (.cells #[.slice none 0 0] 41)).alloc (.cells #[.slice A 2 c] 24)
    rwa [hIB] at this)
  have BP := Lib.hid (show Blk (((w.alloc (.cells #[.int .i64 1] 3)).alloc (.cells #[.slice none 0 0] 41)).alloc (.cells #[.slice A 2 c] 24)) PB 41 #[.slice none 0 0] from by
    have := (Blk.new (w.alloc (.cells #[.int .i64 1] 3)) 41 #[.slice none 0 0]).alloc (.cells #[.slice A 2 c] 24)
    rwa [World.size_alloc, hIB, hPB] at this)
  have BR := Lib.hid (show Blk (((w.alloc (.cells #[.int .i64 1] 3)).alloc (.cells #[.slice none 0 0] 41)).alloc (.cells #[.slice A 2 c] 24)) RB 24 #[.slice A 2 c] from by
    have := Blk.new ((w.alloc (.cells #[.int .i64 1] 3)).alloc (.cells #[.slice none 0 0] 41)) 24 #[.slice A 2 c]
    rwa [World.size_alloc, World.size_alloc, hIB, hPB, hRB] at this)
  have HNUM := Lib.hid (show w.heap.size = IB ∧ IB + 1 = PB ∧ IB + 2 = RB ∧ (((w.alloc (.cells #[.int .i64 1] 3)).alloc (.cells #[.slice none 0 0] 41)).alloc (.cells #[.slice A 2 c] 24)).heap.size = IB + 3 from ⟨hIB, hPB, by omega, by simp; omega⟩)
  clear h
  refine (callsIn_wide (n := 3)).1 ?_
  refine callsIn_of_wp_marks Tryz.func32 rfl trivial ?_ rfl
  refine wpIn_wide.2 ?_
  simp only [Tryz.ntmps32, List.size_toArray, List.length_cons, List.length_nil, Nat.reduceAdd, Nat.reduceSub, Array.replicate_succ, Array.replicate_zero, List.push_toArray, List.append_toArray, List.nil_append, List.cons_append]
  go_wp2_with (go_at_call 80; (with_reducible refine (rows80 _ _ _ _).mono ?_); rintro e w2 ⟨rfl, rfl⟩)
  (try simp only [World.size_alloc, hIB])
  (try simp only [hPB])
  (try simp only [hRB])
  generalize ((w.alloc (.cells #[.int .i64 1] 3)).alloc (.cells #[.slice none 0 0] 41)).alloc (.cells #[.slice A 2 c] 24) = w3 at *
  clear hIB hPB hRB
  refine (wpIn_wide (n := 3)).1 ?_
  refine range_seqW (F := Fence.wide) (n := 3) (gf := 135) (lb := #[.pointer (some ⟨RB, 0, none⟩)]) rfl (by omega) rfl trivial (enters_of Tryz.func135 (by kernel_rfl) rfl)
    (rows_in 2 (fun k => k ≠ IB ∧ k ≠ PB) [a, b] A 2 c RB w3 (HH.out.keep K3.out) (Lib.hid rfl) (by decide) (by decide) (fun s hs2 => by
      rcases List.mem_cons.1 hs2 with e | hs2
      · rw [e]; exact hs.1
      · rw [List.mem_singleton] at hs2; rw [hs2]; exact hs.2) BR.out (fun k hk => by have := HNUM.out; omega)) (by have := HNUM.out; omega) (by have := HNUM.out; omega) (fun _ => rfl)
    (fun x X Y hx hk => ⟨hx.1.keep hk, hx.2⟩) (fun x X o o' hx ho hc => ⟨hx.1.putObj ho hc, hx.2⟩)
    (PaI w IB PB la) (PaI.abide K3.out.size (by have := HNUM.out; omega) (by have := HNUM.out; omega)) ⟨K3.out, .inl ⟨rfl, BI.out, BP.out⟩⟩
    (fun x => { tmps := #[.slice A 2 c, .int .i64 1, undef, .pointer (some ⟨IB, 0, none⟩), .slice none 0 0, .pointer (some ⟨PB, 0, none⟩), .slice x.A x.l.length x.c, .slice A 2 c, .int .i64 2, .bool false, .bool false, .int .i64 1, .bool false, .bool false, .bool false, .int .i64 1, .slice A 2 c, .int .i64 2, .bool false, .bool false, .slice A 2 c, .func (.func 135) #[] #[.pointer (some ⟨RB, 0, none⟩)], .slice x.A x.l.length x.c, undef, undef, undef, undef, undef, undef, undef, undef, undef, undef, undef, undef], defers := [] })
    ?assign ?body ?done
  case assign =>
    intro lo x W K hK
    gi_wp2
    exact hK
  case body =>
    rintro lo pre ⟨xl, xA, xc⟩ W ⟨low, hst⟩ ⟨hN, hne⟩ ⟨rest, hT⟩ hsz
    rw [tree2] at hT
    have LOW := Lib.hid low
    rcases hst with ⟨hp, h4, h5⟩ | ⟨hp, h4, sA, n, sc, h5, h6⟩
    · subst hp
      simp only [List.nil_append, List.map_cons, List.map_nil, List.singleton_append, List.cons.injEq] at hT
      obtain ⟨e1, -⟩ := hT
      subst e1
      rw [HLA.out] at hN hne
      have HRI := Lib.hid hN.recs
      have i0 := h4.cell 0
      have p0 := h5.cell 0
      have fi := h4.frozen 0
      have fp := h5.frozen 0
      have HSB := Lib.hid (fun X (hX : Keeps W X) => sib81 la (leafOf b) xA xc X (HRI.out.keep hX))
      simp only [List.length_cons, List.length_nil, Nat.reduceAdd]
      clear hN hne
      have HI4 := Lib.hid h4
      have HP5 := Lib.hid h5
      have p0 : W.cell? ⟨PB, 0, none⟩ = some (.slice none 0 0) := h5.cell 0
      have fp : W.frozen? ⟨PB, 0, none⟩ = false := h5.frozen 0
      have q51 : (W.alloc (.cells #[.int .i64 la] 3)).cell? ⟨PB, 0, none⟩ = some (.slice none 0 0) := (h5.alloc _).cell 0
      have q5 : ∀ cs : Array Value, ((W.alloc (.cells #[.int .i64 la] 3)).alloc (.cells cs 3)).cell? ⟨PB, 0, none⟩ = some (.slice none 0 0) := fun cs => ((h5.alloc _).alloc _).cell 0
      have g5 : ∀ cs : Array Value, ((W.alloc (.cells #[.int .i64 la] 3)).alloc (.cells cs 3)).frozen? ⟨PB, 0, none⟩ = false := fun cs => ((h5.alloc _).alloc _).frozen 0
      have i7 : ∀ (cs : Array Value) (v : Value), (((W.alloc (.cells #[.int .i64 la] 3)).alloc (.cells cs 3)).setCell ⟨PB, 0, none⟩ v).cell? ⟨IB, 0, none⟩ = some (.int .i64 1) := fun cs v => (((h4.alloc _).alloc _).far (p := ⟨PB, 0, none⟩) (show IB ≠ PB by have := HNUM.out; omega) v).cell 0
      have j7 : ∀ (cs : Array Value) (v : Value), (((W.alloc (.cells #[.int .i64 la] 3)).alloc (.cells cs 3)).setCell ⟨PB, 0, none⟩ v).frozen? ⟨IB, 0, none⟩ = false := fun cs v => (((h4.alloc _).alloc _).far (p := ⟨PB, 0, none⟩) (show IB ≠ PB by have := HNUM.out; omega) v).frozen 0
      have PS := Lib.hid (fun (xs : List Rw) (hxs : xs ≠ []) (t : Nat) => path_step (la := la) hxs LOW.out (by have := HNUM.out; omega) (by have := HNUM.out; omega) (show IB ≠ PB by have := HNUM.out; omega) h4 h5 (cap_cut t))
      have dq : ((1 : Int).tdiv 2) = 0 := by decide
      clear h4 h5
      gi_wp2
      gi_region_with (first | (refine ⟨trivial, ?_⟩; gi_at_call 81; (with_reducible refine (CallsIn.inRound lo (callsIn_wide.2 (HSB.out _ (Keeps.refl W).drew))).mono ?_); rintro e w4 ⟨rfl, rfl⟩))
      all_goals gi_wp2
      all_goals exact PS.out _ (by simp) _
    · have hx1 : xl.length = 1 := by
        cases pre with
        | nil => exact absurd rfl hp
        | cons p pre' =>
          simp only [List.map_cons, List.map_append, List.cons_append, List.cons.injEq, List.map_nil] at hT
          obtain ⟨-, hT⟩ := hT
          cases pre' with
          | nil => simp only [List.map_nil, List.nil_append, List.cons_append, List.cons.injEq] at hT; rw [← hT.1]; rfl
          | cons p2 pre2 => simp at hT
      have HE := Lib.hid (show PaI w IB PB la (pre ++ [(⟨xl, xA, xc⟩ : Rw)]) W from ⟨low, .inr ⟨by simp, h4, sA, n, sc, h5, h6⟩⟩)
      simp only [hx1]
      clear hN hne h4 h5 h6 hx1 hT hp low
      gi_wp2
      exact ⟨⟨Nat.le_refl _, fun k h1 h2 => rfl⟩, HE.out⟩
  case done =>
    rintro D xs W hD hS ⟨low, hst⟩ hKD
    have hne : xs ≠ [] := fun e => by
      rw [e, tree2] at hS
      cases hS
    rcases hst with ⟨hp, -, -⟩ | ⟨-, h4, sA, n, sc, h5, h6⟩
    · exact absurd hp hne
    have p0 := h5.cell 0
    have HKD := Lib.hid hKD
    have H6 := Lib.hid h6
    have hD' : w.heap.size ≤ D := Nat.le_trans K3.out.size hD
    clear hKD hS hne h4 h5 h6 low
    go_wp2
    refine ⟨by simp, .inl ⟨_, _, rfl, run_takeDeferred (by exact HKD.out), ?_⟩⟩
    refine ⟨_, results_tmp rfl _ _ _, sA, n, sc, rfl, ⟨H6.out.1.kept (grownBy_putObj' W D (.deferred none)) ?_, Below.trans H6.out.2 (below_putO W _ hD')⟩⟩
    · cases hv : (Value.slice sA n sc).ownBlock with
      | none => exact .inl rfl
      | some k => exact .inr (fun e => by
          have h3 : k = D := Option.some.inj e
          subst h3
          have := own_cells2 H6.out.1 k _ hv HKD.out
          cases this)
theorem prove31 (a b : ByteArray) (A : Option Addr) (c : Nat) (w : World) (h : RecIn strR w w.heap.size A [a, b]) (hs : a.size ≤ 1000000 ∧ b.size ≤ 1000000) (hc : areContF [a, b] = true) (ht : Tab w) :
    Calls Tryz.prog 31 #[.slice A 2 c, .int .i64 1] w fun e w' => ∃ A' n' c', e = .returned (.tuple #[.agg #[.int .i64 1, .slice A' n' c'], .int .i64 0]) ∧ OwnR intR w w' (.slice A' n' c') [leafOf a] := by
  have k1 := (Keeps.refl w).alloc (.cells #[.int .i64 0, .slice none 0 0] 49)
  have HB := Blk.new w 49 #[.int .i64 0, .slice none 0 0]
  have HC := Lib.hid (show Calls Tryz.prog 40 #[.slice A 2 c] _ (BoolPost true _) from by
    have h2 := areContents40 [a, b] A 2 c _ (h.keep k1) (Lib.hid rfl) (by decide) (fun s hs2 => by
      rcases List.mem_cons.1 hs2 with e | hs2
      · rw [e]; omega
      · rw [List.mem_singleton] at hs2; rw [hs2]; omega) (ht.keep k1)
    rwa [hc] at h2)
  have HP := Lib.hid (fun X (hX : Keeps _ X) => path32 a b A c X ((h.keep k1).keep hX) hs)
  have HK := Lib.hid k1
  have HBB := Lib.hid HB
  have BL := Lib.hid (show ∀ X, Calls Tryz.prog 79 #[.int .i64 1, .int .i64 2] X fun e w' => e = .returned (.bool true) ∧ w' = X from fun X => (below79 1 2 X).mono fun e w' h => ⟨h.1, h.2.symm⟩)
  obtain ⟨N, hN⟩ : ∃ N, w.heap.size = N := ⟨_, rfl⟩
  rw [hN] at HBB
  clear h k1 HB hs hc ht
  go_enter Tryz.func31, Tryz.ntmps31
  go_wp2_with (first | (go_at_call 40; (with_reducible refine HC.out.mono ?_); rintro e w1a ⟨rfl, hk1⟩; have K1 := Lib.hid hk1; have HP1 := Lib.hid (HP.out _ hk1); clear hk1) | (go_at_call 79; (with_reducible refine (BL.out _).mono ?_); rintro e w1 ⟨rfl, rfl⟩) | (go_at_call 32; (with_reducible refine HP1.out.mono ?_); rintro e w2 ⟨A2, n2, c2, rfl, ho2⟩; have HO2 := Lib.hid ho2; have hB2 := (HBB.out.below K1.out HBB.out.lt).below ho2.2 ((HBB.out.below K1.out HBB.out.lt).lt); have q0 := hB2.cell 0; have q1 := hB2.cell 1; have f0 := hB2.frozen 0; have f1 := hB2.frozen 1; have B2 := Lib.hid hB2; clear ho2 hB2))
  have bx := (B2.out.set_ 0 (.int .i64 1)).set_ 1 (.slice A2 n2 c2)
  have y0 := bx.cell 0
  have y1 := bx.cell 1
  simp at y0 y1
  have hN1 : N < w1.heap.size := Nat.lt_of_lt_of_le HBB.out.lt K1.out.size
  have hNw : w.heap.size ≤ N := Nat.le_of_eq hN
  have hk : ∀ k, (Value.slice A2 n2 c2).ownBlock = some k → N ≠ k := fun k hk => by have := (own_lt HO2.out.1 hk).1; omega
  have kept : ∀ (X : World) (i : Nat) (u : Value), X.ownsRow w1.heap.size 3 1 (.slice A2 n2 c2) 1 (recCells intR [leafOf a]) → (X.setCell ⟨N, i, none⟩ u).ownsRow w1.heap.size 3 1 (.slice A2 n2 c2) 1 (recCells intR [leafOf a]) := fun X i u ho => ho.kept (grownBy_cell X ⟨N, i, none⟩ u) (by
    cases hv : (Value.slice A2 n2 c2).ownBlock with
    | none => exact .inl rfl
    | some k => exact .inr (fun e => hk k hv (Option.some.inj e).symm))
  have KW := (HK.out.trans K1.out).trans HO2.out.2
  refine bodyPost_ret (v := .tuple #[.agg #[.int .i64 1, .slice A2 n2 c2], .int .i64 0]) (by simp [results, Tryz.results31, go_sem, y0, y1]) rfl ?_
  exact ⟨A2, n2, c2, rfl, ownsRow_base (kept _ 1 _ (kept _ 0 _ HO2.out.1)) (Nat.le_trans HK.out.size K1.out.size), (KW.setCell (p := ⟨N, 0, none⟩) hNw _).setCell (p := ⟨N, 1, none⟩) hNw _⟩
end Go.Proofs.YthkmpegpmpdhaaaGreatDoor
