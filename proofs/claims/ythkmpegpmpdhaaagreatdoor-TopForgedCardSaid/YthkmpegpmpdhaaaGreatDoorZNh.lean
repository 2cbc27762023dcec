/- Part of the proof of TopOwnItem. Conditions: as stated in each theorem. -/
import Derived.Test.YthkmpegpmpdhaaaGreatDoorZNf
import Derived.Test.YthkmpegpmpdhaaaGreatDoorProg
import Derived.WalkMore
import Derived.LoopN
import Derived.Lib.ConvBytes
import Derived.Maps.OwnIn
import Derived.Deep.LoopGhost
import Derived.RangeFuncNested
import Derived.RangeFuncCalls
import Derived.RangeFuncLeaves
import Derived.RangeFuncWrites
import Derived.Shelf.Abstract
import Derived.Shelf.RegionOpen
import Derived.OwnWalkIn
import Derived.TacticsInMore
import Derived.LoopNIn
import Derived.LoopIn
import Derived.RangeFuncBound
import Derived.Laws.IdiomCopy
import Derived.WalkKit
import Derived.WalkSpells
import Derived.WalkLawsBesides
import Derived.Laws.EntriesVeiled
import Derived.ProofKit
import Derived.OpenShut
import Derived.Lib.Hide
import Derived.BigQuiet
import Derived.Deep.QuietTactic
import Derived.Deep.CutRange
import Derived.StillTailTactics
import Derived.Lib.SliceRun
import Derived.RangeFuncRecord
import Derived.Carry
import Derived.ChangeKeysEq
import Derived.Below
import Derived.Laws.OwnMore
import Derived.Deep.AppendLies
import Derived.Deep.Draws
import Derived.Laws.Rows
import Derived.Maps.AppendAt
import Derived.RegionTactic
import Derived.OwnWalk
import Derived.Deep.RegionHeld3
namespace Go.Proofs.YthkmpegpmpdhaaaGreatDoor
section
open Go.Shelf Go.ChangeShapes Go.WideShapes Go.ChangeAt Go.RowKit
set_option linter.unusedSimpArgs false
set_option linter.unusedVariables false
/-- The cells of the example's calendar. -/
abbrev calC (bw : Nat) : Array Value := #[.int .i64 0, .slice (some ⟨bw, 0, none⟩) 7 7, .slice none 0 0]
theorem rem276_a (w : World) : Calls Tryz.prog 276 #[.int .i64 110, .int .i64 1440] w fun e w' => e = .returned (.int .i64 110) ∧ w' = w := by
  go_enter Tryz.func276, Tryz.ntmps276
  go_wp2_with fail
  go_ret
  exact ⟨rfl, rfl⟩
theorem rem276_b (w : World) : Calls Tryz.prog 276 #[.int .i64 0, .int .i64 7] w fun e w' => e = .returned (.int .i64 0) ∧ w' = w := by
  go_enter Tryz.func276, Tryz.ntmps276
  go_wp2_with fail
  go_ret
  exact ⟨rfl, rfl⟩
theorem range279 (w : World) : Calls Tryz.prog 279 #[.int .i64 0] w fun e w' => e = .returned (.bool true) ∧ w' = w := by
  go_enter Tryz.func279, Tryz.ntmps279
  go_wp2_with fail
  go_ret
  exact ⟨rfl, rfl⟩
theorem local261 (bw : Nat) (w : World) : Calls Tryz.prog 261 #[.agg (calC bw), .int .i64 110] w fun e w' => e = .returned (.tuple #[.int .i64 0, .int .i64 110]) ∧ Keeps w w' := by
  have K1 := Lib.hid ((Keeps.refl w).alloc (.cells (calC bw) 154))
  have HB := Lib.hid (Blk.new w 154 (calC bw))
  have c0 := HB.out.cell 0; have c1 := HB.out.cell 1; have c2 := HB.out.cell 2
  simp only [calC] at c0 c1 c2
  have HV := Lib.hid (valid199 bw (w.alloc (.cells (calC bw) 154)))
  go_enter Tryz.func261, Tryz.ntmps261
  go_wp2_with (first | (go_at_call 199; (with_reducible refine HV.out.mono ?_); rintro e w2 ⟨rfl, hk⟩; have HK := Lib.hid hk; have hB := HB.out.below hk (by simp); have q0 := hB.cell 0; simp only [calC] at q0; clear hk hB c0 c1 c2) | (go_at_call 276; (with_reducible refine (rem276_a _).mono ?_); rintro e w3 ⟨rfl, rfl⟩))
  refine bodyPost_ret (v := .tuple #[.int .i64 0, .int .i64 110]) ?_ rfl ?_
  · simp [results, Tryz.results261, go_sem]
  · exact ⟨rfl, K1.out.trans HK.out⟩
theorem time263 (bw : Nat) (w : World) : Calls Tryz.prog 263 #[.agg (calC bw), .int .i64 0, .int .i64 480] w fun e w' => e = .returned (.int .i64 480) ∧ Keeps w w' := by
  have K1 := Lib.hid ((Keeps.refl w).alloc (.cells (calC bw) 154))
  have HB := Lib.hid (Blk.new w 154 (calC bw))
  have c0 := HB.out.cell 0; have c1 := HB.out.cell 1; have c2 := HB.out.cell 2
  simp only [calC] at c0 c1 c2
  have HV := Lib.hid (valid199 bw (w.alloc (.cells (calC bw) 154)))
  go_enter Tryz.func263, Tryz.ntmps263
  go_wp2_with (first | (go_at_call 199; (with_reducible refine HV.out.mono ?_); rintro e w2 ⟨rfl, hk⟩; have HK := Lib.hid hk; have hB := HB.out.below hk (by simp); have q0 := hB.cell 0; simp only [calC] at q0; clear hk hB c0 c1 c2) | (go_at_call 279; (with_reducible refine (range279 _).mono ?_); rintro e w3 ⟨rfl, rfl⟩))
  go_ret
  exact ⟨rfl, K1.out.trans HK.out⟩
/-- What the iterator over the working days takes with it. -/
theorem workdays262 (bw : Nat) (w : World) : Calls Tryz.prog 262 #[.agg (calC bw), .int .i64 0, .int .i64 60] w fun e w' => ∃ N, e = .returned (.func (.func 277) #[] #[.pointer (some ⟨N + 1, 0, none⟩), .pointer (some ⟨N + 2, 0, none⟩), .pointer (some ⟨N, 0, none⟩)]) ∧ w.heap.size ≤ N ∧ Blk w' N 154 (calC bw) ∧ Blk w' (N + 1) 3 #[.int .i64 0] ∧ Blk w' (N + 2) 3 #[.int .i64 60] ∧ Keeps w w' := by
  have K1 := Lib.hid ((((Keeps.refl w).alloc (.cells (calC bw) 154)).alloc (.cells #[.int .i64 0] 3)).alloc (.cells #[.int .i64 60] 3))
  have B1 := Lib.hid (((Blk.new w 154 (calC bw)).alloc (.cells #[.int .i64 0] 3)).alloc (.cells #[.int .i64 60] 3))
  have B2 := Lib.hid ((Blk.new (w.alloc (.cells (calC bw) 154)) 3 #[.int .i64 0]).alloc (.cells #[.int .i64 60] 3))
  have B3 := Lib.hid (Blk.new ((w.alloc (.cells (calC bw) 154)).alloc (.cells #[.int .i64 0] 3)) 3 #[.int .i64 60])
  go_enter Tryz.func262, Tryz.ntmps262
  go_wp2_with fail
  go_ret
  refine ⟨w.heap.size, by simp, Nat.le_refl _, B1.out, ?_, ?_, K1.out⟩
  · simpa using B2.out
  · simpa using B3.out
abbrev wkC : Array Value := #[.bool true, .bool true, .bool true, .bool true, .bool true, .bool false, .bool false]
theorem Blk.setCells7 {w : World} {g : Nat} {t : TypeId} {a b c d e f h a' b' c' d' e' f' h' : Value} (k : Blk w g t #[a, b, c, d, e, f, h]) : Blk (w.setCells g 0 [a', b', c', d', e', f', h']) g t #[a', b', c', d', e', f', h'] := by
  have e := ((((((k.set_ 0 a').set_ 1 b').set_ 2 c').set_ 3 d').set_ 4 e').set_ 5 f').set_ 6 h'
  simp only [World.setCells]
  simpa using e
theorem copy7 {V : World} {g bw : Nat} (h1 : Blk V g 348 #[.bool false, .bool false, .bool false, .bool false, .bool false, .bool false, .bool false]) (h2 : Blk V bw 4 wkC) :
    ∃ V', (Builtin.copy_ #[152, 152] 3 #[.slice (some ⟨g, 0, none⟩) 7 7, .slice (some ⟨bw, 0, none⟩) 7 7]).run Tryz.prog V = .ok (.int .i64 7) V' ∧ Blk V' g 348 wkC ∧ (∀ {k : Nat} {t : TypeId} {cs : Array Value}, k ≠ g → Blk V k t cs → Blk V' k t cs) ∧ (∀ {w : World}, w.heap.size ≤ g → Keeps w V → Keeps w V') := by
  refine ⟨V.setCells g 0 [.bool true, .bool true, .bool true, .bool true, .bool true, .bool false, .bool false], ?_, h1.setCells7, ?_, ?_⟩
  · refine run_copy_cells (P := Tryz.prog) V 152 152 3 4 g 0 7 7 ⟨bw, 0, none⟩ 7 7 [.bool true, .bool true, .bool true, .bool true, .bool true, .bool false, .bool false] Tryz.underlying152 (by kernel_rfl) rfl ?_ ?_ ?_ ?_
    · intro j v hj
      have := h2.cell j
      have e : (⟨bw, 0, none⟩ : Addr).add j = ⟨bw, j, none⟩ := by unfold Addr.add; split <;> simp_all
      rw [e, this, ← hj]
      simp [wkC, List.getElem?_toArray]
    · intro j hj
      rw [show 0 + j = j by omega, h1.cell j]
      simp only [List.length_cons, List.length_nil] at hj
      simp; omega
    · intro j hj
      exact h1.frozen _
    · intro v hv
      simp only [List.mem_cons, List.not_mem_nil, or_false] at hv
      rcases hv with rfl | rfl | rfl | rfl | rfl | rfl | rfl <;> rfl
  · intro k t cs hk h
    exact (((((((h.far (p := ⟨g, 0, none⟩) hk _).far (p := ⟨g, 1, none⟩) hk _).far (p := ⟨g, 2, none⟩) hk _).far (p := ⟨g, 3, none⟩) hk _).far (p := ⟨g, 4, none⟩) hk _).far (p := ⟨g, 5, none⟩) hk _).far (p := ⟨g, 6, none⟩) hk _)
  · intro w hw h
    exact (((((((h.setCell (p := ⟨g, 0, none⟩) hw _).setCell (p := ⟨g, 1, none⟩) hw _).setCell (p := ⟨g, 2, none⟩) hw _).setCell (p := ⟨g, 3, none⟩) hw _).setCell (p := ⟨g, 4, none⟩) hw _).setCell (p := ⟨g, 5, none⟩) hw _).setCell (p := ⟨g, 6, none⟩) hw _)
theorem worker283 (bw : Nat) (w : World) (h : Blk w bw 4 wkC) : Calls Tryz.prog 283 #[.agg (calC bw)] w fun e w' => ∃ N, e = .returned (.func (.func 284) #[] #[.pointer (some ⟨N + 1, 0, none⟩), .pointer (some ⟨N, 0, none⟩)]) ∧ w.heap.size ≤ N ∧ Blk w' N 154 (calC bw) ∧ Blk w' (N + 1) 348 wkC ∧ Keeps w w' := by
  have hb := (h.alloc (.cells (calC bw) 154)).alloc (.cells #[.bool false, .bool false, .bool false, .bool false, .bool false, .bool false, .bool false] 348)
  have B1 := ((Blk.new w 154 (calC bw))).alloc (.cells #[.bool false, .bool false, .bool false, .bool false, .bool false, .bool false, .bool false] 348)
  have B2 := Blk.new (w.alloc (.cells (calC bw) 154)) 348 #[.bool false, .bool false, .bool false, .bool false, .bool false, .bool false, .bool false]
  simp only [World.size_alloc] at B2
  obtain ⟨V', hcp, B3, hf, hk⟩ := copy7 B2.drew hb.drew
  have K1 := Lib.hid (hk (by omega) (((Keeps.refl w).alloc (.cells (calC bw) 154)).alloc (.cells #[.bool false, .bool false, .bool false, .bool false, .bool false, .bool false, .bool false] 348)).drew)
  have H1 := Lib.hid (hf (by omega) B1.drew)
  have H2 := Lib.hid B3
  have c0 := B1.cell 0; have c1 := B1.cell 1; have c2 := B1.cell 2
  simp [calC] at c0 c1 c2
  clear hf hk hb B2 B3 B1 h
  go_enter Tryz.func283, Tryz.ntmps283
  go_upto_region 2 with fail
  go_region
  all_goals go_wp2_with fail
  all_goals go_ret
  all_goals exact ⟨w.heap.size, rfl, Nat.le_refl _, H1.out, H2.out, K1.out⟩
theorem Blk.kp {w w' : World} {g : Nat} {t : TypeId} {cs : Array Value} (h : Blk w g t cs) (hk : Keeps w w') : Blk w' g t cs := h.below hk h.lt
section
attribute [local go_sem] Oper.semAt_some
theorem search170_0 (v : Value) (w : World) : Calls Tryz.prog 170 #[.int .i64 0, v] w fun e w' => e = .returned (.int .i64 0) ∧ w' = w := by
  go_enter Tryz.func170, Tryz.ntmps170
  go_wp2_with fail
  refine wp_loop_rounds 1 ?_
  rw [rounds_succ]
  go_wp2_with fail
  go_ret
  exact ⟨rfl, rfl⟩
theorem closure284_0 (g N bw : Nat) (w : World) (h1 : Blk w g 348 wkC) (h2 : Blk w N 154 (calC bw)) : Calls Tryz.prog 284 #[.int .i64 0, .pointer (some ⟨g, 0, none⟩), .pointer (some ⟨N, 0, none⟩)] w fun e w' => e = .returned (.bool true) ∧ Keeps w w' := by
  have K1 := Lib.hid ((Keeps.refl w).alloc (.cells #[.int .i64 0] 3))
  have b1 := h1.alloc (.cells #[.int .i64 0] 3)
  have b2 := h2.alloc (.cells #[.int .i64 0] 3)
  have B1 := Blk.new w 3 #[.int .i64 0]
  have c0 := B1.cell 0
  have c1 := b1.cell 0
  have c2 := b2.cell 2
  simp only [calC, wkC] at c0 c1 c2
  clear b1 b2 B1 h1 h2
  go_enter Tryz.func284, Tryz.ntmps284
  go_wp2_with (first | (go_at_call 276; (with_reducible refine (rem276_b _).mono ?_); rintro e w2 ⟨rfl, rfl⟩) | (go_at_call 170; (with_reducible refine (search170_0 _ _).mono ?_); rintro e w2 ⟨rfl, rfl⟩) | go_quiet (fail))
  go_ret
  exact ⟨rfl, K1.out.drewN _⟩
end
theorem work278_0 (bw : Nat) (w : World) (h : Blk w bw 4 wkC) : Calls Tryz.prog 278 #[.agg (calC bw), .int .i64 0] w fun e w' => e = .returned (.bool true) ∧ Keeps w w' := by
  have K1 := Lib.hid ((Keeps.refl w).alloc (.cells (calC bw) 154))
  have HB := Lib.hid (Blk.new w 154 (calC bw))
  have c0 := HB.out.cell 0; have c1 := HB.out.cell 1; have c2 := HB.out.cell 2
  simp only [calC] at c0 c1 c2
  have HV := Lib.hid (valid199 bw (w.alloc (.cells (calC bw) 154)))
  have HW := Lib.hid (h.alloc (.cells (calC bw) 154))
  clear h
  go_enter Tryz.func278, Tryz.ntmps278
  go_wp2_with (first | (go_at_call 199; (with_reducible refine HV.out.mono ?_); rintro e w2 ⟨rfl, hk⟩; have HK := Lib.hid hk; have hB := HB.out.below hk (by simp); have q0 := hB.cell 0; have q1 := hB.cell 1; have q2 := hB.cell 2; simp only [calC] at q0 q1 q2; clear hk hB c0 c1 c2) | (go_at_call 279; (with_reducible refine (range279 _).mono ?_); rintro e w3 ⟨rfl, rfl⟩) | (go_at_call 283; go_loud (with_reducible refine (worker283 bw _ (HW.out.kp HK.out)).mono ?_); rintro e w4 ⟨N, rfl, hN, hb1, hb2, hk⟩; have HX := Lib.hid (And.intro hb1 hb2); have HK2 := Lib.hid hk; clear hk hb1 hb2) | (go_at_call 284; go_loud (with_reducible refine (closure284_0 _ _ bw _ HX.out.2 HX.out.1).mono ?_); rintro e w5 ⟨rfl, hk⟩; have HK3 := Lib.hid hk; clear hk))
  go_ret
  exact ⟨rfl, ((K1.out.trans HK.out).trans HK2.out).trans HK3.out⟩
theorem calendarOf260 (bw bc bn bo bf bl bk : Nat) (w : World) (h : Net w bw bc bn bo bf bl bk) : Calls Tryz.prog 260 #[.agg (netC bc bn bo bf bl bk), .int .i64 0] w fun e w' => e = .returned (.agg (calC bw)) ∧ Keeps w w' := by
  have k1 := ((Keeps.refl w).alloc (.cells (netC bc bn bo bf bl bk) 87)).alloc (.cells #[.int .i64 0, .slice none 0 0, .slice none 0 0] 154)
  have B1 := (Blk.new w 87 (netC bc bn bo bf bl bk)).alloc (.cells #[.int .i64 0, .slice none 0 0, .slice none 0 0] 154)
  have B2 := Blk.new (w.alloc (.cells (netC bc bn bo bf bl bk) 87)) 154 #[.int .i64 0, .slice none 0 0, .slice none 0 0]
  simp only [World.size_alloc] at B2
  have h2 := h.keep k1
  have c0 := B1.cell 0; have c3 := B1.cell 3; have c4 := B1.cell 4
  have d0 := B2.cell 0; have d1 := B2.cell 1; have d2 := B2.cell 2
  have e0 := h2.ca.cell 0; have e1 := h2.ca.cell 1; have e2 := h2.ca.cell 2
  have f2 := h2.of_.cell 2; have l1 := h2.li.cell 1
  have g0 := B2.frozen 0; have g1 := B2.frozen 1; have g2 := B2.frozen 2
  simp only [netC] at c0 c3 c4
  clear B1 B2 h2 h
  have K1 := Lib.hid k1
  clear k1
  go_enter Tryz.func260, Tryz.ntmps260
  go_upto_region 1 with fail
  generalize hV : (w.alloc (.cells (netC bc bn bo bf bl bk) 87)).alloc (.cells #[.int .i64 0, .slice none 0 0, .slice none 0 0] 154) = V at *
  simp [calC] at c0 c3 c4 d0 d1 d2 e0 e1 e2 f2 l1 g0 g1 g2
  go_region
  all_goals go_wp2_with fail
  all_goals refine bodyPost_ret (v := .agg (calC bw)) ?_ rfl ?_
  all_goals first | (simp [results, Tryz.results260, go_sem, d0, d1, d2]; done) | exact ⟨rfl, (((K1.out.setCell (by simp) _).setCell (by simp) _).setCell (by simp) _).drew⟩
theorem Keeps.putO {w W : World} (h : Keeps w W) {l : Nat} (o : Obj) (hl : w.heap.size ≤ l) : Keeps w (W.putObj l o) := Below.trans h ⟨rfl, rfl, rfl, by simp, fun k hk => World.putObj_heap_other (by omega)⟩
section
open Go.RowKit
variable {P : Program}
/-- An iterator that hands over one element and stops when it is told so. -/
def OnceOn (P : Program) (g : Nat) (lb : Array Value) (encs : Array Value) (w : World) : Prop :=
  ∀ (l : Nat) (R : World → Prop) (W : World), Keeps w W →
    (∀ m W1, Keeps W W1 → YieldAt Fence.wide m P l encs W1 fun e W' => e = .returned (.bool false) ∧ R W') →
    Calls P g (#[.func (.yield l) #[] #[]] ++ lb) W fun e W' => (∃ v, e = .returned v) ∧ R W'
/-- A round that is left by a return. -/
def onceP (w0 : World) (R : World → Prop) (W : World) : Exit → Act → World → Prop
  | .ret, _, W' => R W' ∧ W.heap.size ≤ W'.heap.size ∧ ∀ k, w0.heap.size ≤ k → k < W.heap.size → W'.heap[k]? = W.heap[k]?
  | _, _, _ => False
theorem range_once {n : Nat} {g : Operand} {ps : Array Tmp} {assign body : Code} {Q : Exit → Act → World → Prop} {a : Act} {w : World}
    (h1 : 1 ≤ n) {gf : Nat} {lb : Array Value} (hg : a.eval g = .func (.func gf) #[] lb) (eg : ∀ args w, (callFunc gf args).run P w = .ok (.enter gf args) w)
    {encs : Array Value} (hseq : OnceOn P gf lb encs w) (hps : encs.size = ps.size) (R : World → Prop)
    (hR : ∀ (W : World) (l : Nat) (o : Obj), w.heap.size ≤ l → R W → R (W.putObj l o)) (a₁ : Act)
    (hassign : ∀ (l m : Nat) (W : World) (K : Act → World → Prop), K a₁ W →
      assign.wpIn (Fence.wide.inRound l) m P (Exit.then K (fun _ _ _ => False)) { tmps := (ps.zip encs).foldl (fun t (p, v) => t.setIfInBounds p v) a.tmps, defers := [] } W)
    (hbody : ∀ (l m : Nat) (W : World), Keeps w W → body.wpIn (Fence.wide.inRound l) m P (onceP w R W) a₁ W)
    (hdone : ∀ (D : Nat) (W : World), w.heap.size ≤ D → R W → W.heap[D]? = some (.deferred (some [])) → Q .ret { a with defers := { target := .collected D, args := #[] } :: a.defers } W) :
    (Code.rangeFunc g ps assign body).wpIn Fence.wide n P Q a w := by
  refine wpIn_rangeFunc fun fn hfn => ?_
  rw [show Fence.wide.round = none from rfl]
  obtain ⟨rec, hrec⟩ : ∃ rec : LoopState → Option Code → Loop, rec = fun st pe => { state := st, pending := pe, fn, tmps := a.tmps, params := ps, assign, body, defers := w.heap.size } := ⟨_, rfl⟩
  have hparams : ∀ st pe, (rec st pe).params = ps := fun st pe => by rw [hrec]
  have hA := World.alloc_heap_new w (.deferred (some []))
  have hB := World.alloc_heap_new (w.alloc (.deferred (some []))) (.loop (rec .ready none))
  rw [World.size_alloc] at hB
  have hA2 : ((w.alloc (.deferred (some []))).alloc (.loop (rec .ready none))).heap[w.heap.size]? = some (.deferred (some [])) := (Below.heap_alloc _ _ _ (by simp)).trans hA
  have hW2 : Keeps w ((w.alloc (.deferred (some []))).alloc (.loop (rec .ready none))) := ((Keeps.refl w).alloc _).alloc _
  have hsz : ((w.alloc (.deferred (some []))).alloc (.loop (rec .ready none))).heap.size = w.heap.size + 2 := by simp
  have hent : (Instr.enterLoop fn a.tmps ps assign body none).run P w = .ok (w.heap.size + 1, [{ target := .collected w.heap.size, args := #[] }]) ((w.alloc (.deferred (some []))).alloc (.loop (rec .ready none))) := by
    rw [hrec]; exact run_enterLoop_outer _ _ _ _ _
  generalize (w.alloc (.deferred (some []))).alloc (.loop (rec .ready none)) = W1 at *
  refine ⟨w.heap.size + 1, _, W1, { target := .fn (.func gf) lb, args := #[.func (.yield (w.heap.size + 1)) #[] #[]] }, W1, gf, #[.func (.yield (w.heap.size + 1)) #[] #[]] ++ lb, W1, hent, ?_, ?_, ?_, fun _ => h1, ?_⟩
  · simp only [resolve, hg]
    simp [go_sem]
  · intro f' hf'
    simp [Target.leads] at hf'
    trivial
  · simp [invoke, go_sem, eg]
  · refine (callsIn_wide.2 (hseq (w.heap.size + 1)
      (fun W => R W ∧ W.heap[w.heap.size + 1]? = some (.loop (rec .done (some .ret))) ∧ W.heap[w.heap.size]? = some (.deferred (some [])))
      W1 hW2 ?_)).mono ?_
    · rintro m W hk
      have hl : W.heap[w.heap.size + 1]? = some (.loop (rec .ready none)) := (hk.block _ (by omega)).trans hB
      have hd : W.heap[w.heap.size]? = some (.deferred (some [])) := (hk.block _ (by omega)).trans hA2
      have hlt : w.heap.size + 1 < W.heap.size := (Array.getElem?_eq_some_iff.1 hl).1
      have hy := run_yield (P := P) (args := encs) hl (by rw [hparams]; exact hps)
      rw [hrec] at hy
      refine ⟨fn, _, assign, body, hy, roundIn_of_wpIn hfn (hassign _ _ W _ ?_)⟩
      refine ⟨_, run_beginRound hl (by rw [hrec]), ?_⟩
      have hl2 : (W.putObj (w.heap.size + 1) (.loop { rec .ready none with state := .busy })).heap[w.heap.size + 1]? = some (.loop { rec .ready none with state := .busy }) := World.putObj_heap_same (by omega)
      have hd2 : (W.putObj (w.heap.size + 1) (.loop { rec .ready none with state := .busy })).heap[w.heap.size]? = some (.deferred (some [])) := (World.putObj_heap_other (by omega)).trans hd
      have hk2 : Keeps w (W.putObj (w.heap.size + 1) (.loop { rec .ready none with state := .busy })) := (hW2.trans hk).putO _ (by omega)
      have hz2 : (W.putObj (w.heap.size + 1) (.loop { rec .ready none with state := .busy })).heap.size = W.heap.size := by simp
      generalize W.putObj (w.heap.size + 1) (.loop { rec .ready none with state := .busy }) = U at *
      refine wpIn_mono (hbody _ _ U hk2) ?_
      intro e a3 W3 hp
      cases e with
      | ret =>
        obtain ⟨hr3, hst1, hst2⟩ := hp
        have hl3 : W3.heap[w.heap.size + 1]? = some (.loop { rec .ready none with state := .busy }) := (hst2 _ (by omega) (by omega)).trans hl2
        have hd3 : W3.heap[w.heap.size]? = some (.deferred (some [])) := (hst2 _ (by omega) (by omega)).trans hd2
        have hr := run_endRound (P := P) (some .ret) hl3
        have hr' : (Instr.endRound (w.heap.size + 1) (some .ret)).run P W3 = .ok (.bool false) (W3.putObj (w.heap.size + 1) (.loop (rec .done (some .ret)))) := by rw [hr, hrec]; rfl
        exact ⟨_, _, hr', rfl, hR _ _ _ (by omega) hr3, World.putObj_heap_same (Array.getElem?_eq_some_iff.1 hl3).1, (World.putObj_heap_other (by omega)).trans hd3⟩
      | exit i => exact hp.elim
      | normal => exact hp.elim
      | goto t => exact hp.elim
      | panic ch => exact hp.elim
      | outgrown => exact hp.elim
    · rintro e W2 ⟨⟨v, rfl⟩, hr, hl, hd⟩
      have he := run_endLoop (P := P) hl (by rw [hrec]; simp)
      rw [hrec] at he
      exact ⟨some .ret, _, he, wpIn_ret (hdone _ _ (Nat.le_refl _) (hR _ _ _ (by omega) hr) ((World.putObj_heap_other (by omega)).trans hd))⟩
end
theorem days277 (N bw : Nat) (w : World) (h0 : Blk w N 154 (calC bw)) (h1 : Blk w (N + 1) 3 #[.int .i64 0]) (h2 : Blk w (N + 2) 3 #[.int .i64 60]) (hw : Blk w bw 4 wkC) :
    OnceOn Tryz.prog 277 #[.pointer (some ⟨N + 1, 0, none⟩), .pointer (some ⟨N + 2, 0, none⟩), .pointer (some ⟨N, 0, none⟩)] #[.int .i64 0] w := by
  intro l R W hW hY
  have c1 := (h1.kp hW).cell 0
  have c2 := (h2.kp hW).cell 0
  have b0 := h0.kp hW
  have q0 := b0.cell 0; have q1 := b0.cell 1; have q2 := b0.cell 2
  simp [calC] at c1 c2 q0 q1 q2
  have C1 := Lib.hid (work278_0 bw W (hw.kp hW))
  have HY := Lib.hid hY
  clear h0 h1 h2 hw hY b0
  refine (callsIn_wide (n := 3)).1 ?_
  refine callsIn_of_wp Tryz.func277 rfl trivial ?_ rfl
  simp only [Tryz.ntmps277, List.size_toArray, List.length_cons, List.length_nil, Nat.reduceAdd, Nat.reduceSub, Array.replicate_succ, Array.replicate_zero, List.push_toArray, List.append_toArray, List.nil_append, List.cons_append]
  gi_wp2
  refine wpIn_loop_rounds 1 ?_
  rw [roundsIn_succ]
  gi_wp2_with (refine ⟨trivial, ?_⟩; gi_at_call 278; (with_reducible refine (callsIn_wide.2 C1.out).mono ?_); rintro e w2 ⟨rfl, hk2⟩; have K2 := Lib.hid hk2; clear hk2)
  obtain ⟨fn, tmps, assign, body, hy, hRd⟩ := HY.out 2 _ K2.out
  rw [hy, Oper.uponIn_round]
  refine ⟨fun h => (by simp [Fence.wide] at h), hRd.mono ?_⟩
  rintro e W4 ⟨rfl, hR⟩
  have HR := Lib.hid hR
  clear hR hRd hy
  gi_wp2
  exact bodyPost_ret (results_none rfl _ _ _) rfl ⟨⟨_, rfl⟩, HR.out⟩
end
section
open Go.Shelf Go.ChangeShapes Go.WideShapes Go.ChangeAt Go.RowKit
set_option linter.unusedSimpArgs false
set_option linter.unusedVariables false
/-- The plan of the example, in memory. -/
structure Pln (W : World) (nx r0 r1 : Nat) : Prop where
  nx : Blk W nx 41 #[.slice (some ⟨r0, 0, none⟩) 2 2, .slice (some ⟨r1, 0, none⟩) 2 2]
  r0 : Blk W r0 3 #[.int .i64 (-1), .int .i64 0]
  r1 : Blk W r1 3 #[.int .i64 1, .int .i64 (-1)]
theorem Pln.keep {W W' : World} {nx r0 r1 : Nat} (h : Pln W nx r0 r1) (hk : Keeps W W') : Pln W' nx r0 r1 := ⟨h.nx.kp hk, h.r0.kp hk, h.r1.kp hk⟩
theorem Pln.cells {W : World} {nx r0 r1 : Nat} (h : Pln W nx r0 r1) : W.cell? ⟨nx, 0, none⟩ = some (.slice (some ⟨r0, 0, none⟩) 2 2) ∧ W.cell? ⟨nx, 1, none⟩ = some (.slice (some ⟨r1, 0, none⟩) 2 2) ∧ W.cell? ⟨r0, 0, none⟩ = some (.int .i64 (-1)) ∧ W.cell? ⟨r0, 1, none⟩ = some (.int .i64 0) ∧ W.cell? ⟨r1, 0, none⟩ = some (.int .i64 1) ∧ W.cell? ⟨r1, 1, none⟩ = some (.int .i64 (-1)) :=
  ⟨h.nx.cell 0, h.nx.cell 1, h.r0.cell 0, h.r0.cell 1, h.r1.cell 0, h.r1.cell 1⟩
section
attribute [local go_sem] Oper.semAt_some
set_option maxRecDepth 100000 in
set_option maxHeartbeats 4000000 in
theorem fits75 (bw bc bn bo bf bl bk nx r0 r1 : Nat) (w : World) (h : Net w bw bc bn bo bf bl bk) (hp : Pln w nx r0 r1) : Calls Tryz.prog 75 #[.agg (netC bc bn bo bf bl bk), .slice (some ⟨nx, 0, none⟩) 2 2] w fun e w' => e = .returned (.bool true) ∧ Keeps w w' := by
  have k1 := (Keeps.refl w).alloc (.cells (netC bc bn bo bf bl bk) 87)
  have hb := Blk.new w 87 (netC bc bn bo bf bl bk)
  have HK := Lib.hid k1
  have c3 : (w.alloc (.cells (netC bc bn bo bf bl bk) 87)).cell? ⟨w.heap.size, 3, none⟩ = some (.slice (some ⟨bf, 0, none⟩) 2 2) := hb.cell 3
  have c4 : (w.alloc (.cells (netC bc bn bo bf bl bk) 87)).cell? ⟨w.heap.size, 4, none⟩ = some (.slice (some ⟨bl, 0, none⟩) 2 2) := hb.cell 4
  obtain ⟨p0, p1, p2, p3, p4, p5⟩ := (hp.keep k1).cells
  have l1 : (w.alloc (.cells (netC bc bn bo bf bl bk) 87)).cell? ⟨bl, 1, none⟩ = some (.int .i64 0) := (h.keep k1).li.cell 1
  have l7 : (w.alloc (.cells (netC bc bn bo bf bl bk) 87)).cell? ⟨bl, 7, none⟩ = some (.int .i64 1) := (h.keep k1).li.cell 7
  clear h hp hb k1
  go_enter Tryz.func75, Tryz.ntmps75
  go_upto_region 1 with fail
  generalize w.alloc (.cells (netC bc bn bo bf bl bk) 87) = W at *
  generalize w.heap.size = N at *
  go_wp2_with fail
  refine wp_loop_rounds 3 ?_
  rw [rounds_succ]
  go_wp2_with fail
  refine wp_loop_rounds 3 ?_
  rw [rounds_succ]
  go_wp2_with fail
  rw [rounds_succ]
  go_wp2_with fail
  rw [rounds_succ]
  go_wp2_with fail
  rw [rounds_succ]
  go_wp2_with fail
  refine wp_loop_rounds 3 ?_
  rw [rounds_succ]
  go_wp2_with fail
  rw [rounds_succ]
  go_wp2_with fail
  rw [rounds_succ]
  go_wp2_with fail
  rw [rounds_succ]
  go_wp2_with fail
  go_ret
  exact ⟨rfl, HK.out⟩
set_option maxRecDepth 100000 in
set_option maxHeartbeats 4000000 in
theorem isLabel124 (c : UInt8) (w : World) (h : c = 65 ∨ c = 66) : Calls Tryz.prog 124 #[.string ⟨#[c]⟩] w fun e w' => e = .returned (.bool true) ∧ Keeps w w' := by
  obtain ⟨cp, W, hconv, hK, hcell⟩ := bytes_of w ⟨#[c]⟩
  have c0 := hcell 0 c rfl
  have hz : (⟨#[c]⟩ : ByteArray).size = 1 := rfl
  rw [hz] at hconv
  have HK := Lib.hid hK
  clear hK hcell hz
  rcases h with rfl | rfl
  · have c1 : W.cell? ⟨w.heap.size, 0, none⟩ = some (.int .u8 65) := c0
    clear c0
    go_enter Tryz.func124, Tryz.ntmps124
    go_wp2_with fail
    refine wp_loop_rounds 2 ?_
    rw [rounds_succ]
    go_wp2_with fail
    rw [rounds_succ]
    go_wp2_with fail
    go_ret
    exact ⟨rfl, HK.out⟩
  · have c1 : W.cell? ⟨w.heap.size, 0, none⟩ = some (.int .u8 66) := c0
    clear c0
    go_enter Tryz.func124, Tryz.ntmps124
    go_wp2_with fail
    refine wp_loop_rounds 2 ?_
    rw [rounds_succ]
    go_wp2_with fail
    rw [rounds_succ]
    go_wp2_with fail
    go_ret
    exact ⟨rfl, HK.out⟩
end
section
variable {κ : Type} {P : Program} {K : TypeId} {kv : κ → Value} {eq : κ → κ → Bool}
theorem MapIs.same {W W' : World} {r : Nat} {l : List (κ × Value)} (h : MapIs kv W r l) (e : W'.heap[r]? = W.heap[r]?) : MapIs kv W' r l := by
  obtain ⟨es, cl, hr, he⟩ := h
  exact ⟨es, cl, e.trans hr, he⟩
theorem MapIs.lt {W : World} {r : Nat} {l : List (κ × Value)} (h : MapIs kv W r l) : r < W.heap.size := by
  obtain ⟨es, cl, hr, he⟩ := h
  exact (Array.getElem?_eq_some_iff.1 hr).1
theorem MapIs.kp {W W' : World} {r : Nat} {l : List (κ × Value)} (h : MapIs kv W r l) (hk : Keeps W W') : MapIs kv W' r l := h.same (hk.block r h.lt)
theorem MapIs.made (W : World) : MapIs kv (W.alloc (.map #[] 0)) W.heap.size [] := ⟨#[], 0, heap_alloc_new W _, rfl⟩
theorem MapIs.len {T ty : TypeId} {W : World} {r : Nat} {l : List (κ × Value)} (h : MapIs kv W r l) (hT : P.underlying T = some (.map (P.mapKeyOf T) (P.mapElemOf T))) :
    (Builtin.len_ #[T] ty #[.map (some r)]).run P W = .ok (.int .i64 (l.length : Int)) W := by
  obtain ⟨es, cl, hr, he⟩ := h
  have hn : es.size = l.length := by
    have := congrArg List.length he
    simpa using this
  have := run_len_map (P := P) W T ty r es cl hT hr
  rw [this, hn]
  rfl
end
abbrev ivK : Int → Value := fun x => Value.int .i64 x
/-- A map with whole numbers as keys is made of five entries. -/
theorem ins5 {T E : TypeId} (hT : Tryz.prog.underlying T = some (.map 3 E)) (X0 : World) (r : Nat) (h0 : MapIs ivK X0 r []) (v1 v2 v3 v4 v5 : Value) :
    ∃ X1 X2 X3 X4 X5, (Instr.mapUpdate T (.map (some r)) (.int .i64 1) v1).run Tryz.prog X0 = .ok () X1 ∧ (Instr.mapUpdate T (.map (some r)) (.int .i64 2) v2).run Tryz.prog X1 = .ok () X2 ∧ (Instr.mapUpdate T (.map (some r)) (.int .i64 3) v3).run Tryz.prog X2 = .ok () X3 ∧ (Instr.mapUpdate T (.map (some r)) (.int .i64 4) v4).run Tryz.prog X3 = .ok () X4 ∧ (Instr.mapUpdate T (.map (some r)) (.int .i64 5) v5).run Tryz.prog X4 = .ok () X5 ∧
      MapIs ivK X5 r [(1, v1), (2, v2), (3, v3), (4, v4), (5, v5)] ∧ X0.grownBy X1 (some r) ∧ X1.grownBy X2 (some r) ∧ X2.grownBy X3 (some r) ∧ X3.grownBy X4 (some r) ∧ X4.grownBy X5 (some r) := by
  have L := intKeys (P := Tryz.prog) (K := 3) (q := .i64) (k := .i64) Tryz.underlying3
  obtain ⟨X1, e1, m1, g1⟩ := run_update_any L hT 1 v1 X0 r [] h0
  obtain ⟨X2, e2, m2, g2⟩ := run_update_any L hT 2 v2 X1 r _ m1
  obtain ⟨X3, e3, m3, g3⟩ := run_update_any L hT 3 v3 X2 r _ m2
  obtain ⟨X4, e4, m4, g4⟩ := run_update_any L hT 4 v4 X3 r _ m3
  obtain ⟨X5, e5, m5, g5⟩ := run_update_any L hT 5 v5 X4 r _ m4
  exact ⟨X1, X2, X3, X4, X5, e1, e2, e3, e4, e5, by simpa [setF] using m5, g1, g2, g3, g4, g5⟩
theorem look1 {T E : TypeId} (hT : Tryz.prog.underlying T = some (.map 3 E)) {W : World} {r : Nat} {v1 v2 v3 v4 v5 : Value} (h : MapIs ivK W r [(1, v1), (2, v2), (3, v3), (4, v4), (5, v5)]) (ok : Bool) {z : Value} (hz : (zeroValue E).run Tryz.prog W = .ok z W) :
    (Instr.lookup T (.map (some r)) (.int .i64 1) ok).run Tryz.prog W = .ok (if ok then .tuple #[v1, .bool true] else v1) W := by
  have L := intKeys (P := Tryz.prog) (K := 3) (q := .i64) (k := .i64) Tryz.underlying3
  have := run_lookup_is L hT ok 1 W r _ h z hz
  simpa [lookF] using this
/-- The cells of a deed that posts an item. -/
abbrev dedC (c : UInt8) : Array Value := #[.int .i64 1, .int .i64 100, .string ⟨#[c]⟩, .int .i64 0, .int .i64 1, .int .i64 0, .int .i64 100, .string ⟨#[]⟩, .string ⟨#[]⟩, .int .i64 0]
theorem index121 (x y : Int) (w : World) (h1 : 0 ≤ x) (h2 : x < y) : Calls Tryz.prog 121 #[.int .i64 x, .int .i64 y] w fun e w' => e = .returned (.bool true) ∧ w' = w := by
  go_enter Tryz.func121, Tryz.ntmps121
  go_wp2_with fail
  go_ret
  exact ⟨rfl, rfl⟩
abbrev strK : ByteArray → Value := fun x => Value.string x
abbrev strE : ByteArray → ByteArray → Bool := fun a b => a == b
section
attribute [local go_sem] Oper.semAt_some
set_option maxRecDepth 100000 in
set_option maxHeartbeats 4000000 in
theorem closure123 (c : UInt8) (hc : c = 65 ∨ c = 66) (l : List (ByteArray × Value)) (hl : l.length < 60) (hno : lookF strE ⟨#[c]⟩ l 0 = none) (b5 b6 b2 pm bc bn bo bf bl bk : Nat) (w : World)
    (h5 : Blk w b5 217 #[.map (some pm)]) (h6 : Blk w b6 177 #[.func (.func 121) #[] #[]]) (h2 : Blk w b2 87 (netC bc bn bo bf bl bk)) (hm : MapIs strK w pm l) :
    Calls Tryz.prog 123 #[.agg (dedC c), .pointer (some ⟨b5, 0, none⟩), .pointer (some ⟨b6, 0, none⟩), .pointer (some ⟨b2, 0, none⟩)] w fun e w' => e = .returned (.bool true) ∧ MapIs strK w' pm (l ++ [(⟨#[c]⟩, .bool true)]) ∧ w.grownBy w' (some pm) := by
  have k1 := (Keeps.refl w).alloc (.cells (dedC c) 93)
  have k2 := k1.alloc (.cells #[.string ⟨#[c]⟩, .int .i64 0, .int .i64 1, .int .i64 0, .int .i64 100] 61)
  have B1 := (Blk.new w 93 (dedC c)).alloc (.cells #[.string ⟨#[c]⟩, .int .i64 0, .int .i64 1, .int .i64 0, .int .i64 100] 61)
  have B2 := Blk.new (w.alloc (.cells (dedC c) 93)) 61 #[.string ⟨#[c]⟩, .int .i64 0, .int .i64 1, .int .i64 0, .int .i64 100]
  simp only [World.size_alloc] at B2
  have HA := Lib.hid (show ∀ X, Keeps ((w.alloc (.cells (dedC c) 93)).alloc (.cells #[.string ⟨#[c]⟩, .int .i64 0, .int .i64 1, .int .i64 0, .int .i64 100] 61)) X → X.cell? ⟨b5, 0, none⟩ = some (.map (some pm)) ∧ X.cell? ⟨b6, 0, none⟩ = some (.func (.func 121) #[] #[]) ∧ X.cell? ⟨b2, 3, none⟩ = some (.slice (some ⟨bf, 0, none⟩) 2 2) ∧ X.cell? ⟨b2, 5, none⟩ = some (.slice (some ⟨bk, 0, none⟩) 1 1) ∧ X.cell? ⟨w.heap.size, 1, none⟩ = some (.int .i64 100) ∧ X.cell? ⟨w.heap.size + 1, 0, none⟩ = some (.string ⟨#[c]⟩) ∧ X.cell? ⟨w.heap.size + 1, 1, none⟩ = some (.int .i64 0) ∧ X.cell? ⟨w.heap.size + 1, 2, none⟩ = some (.int .i64 1) ∧ X.cell? ⟨w.heap.size + 1, 3, none⟩ = some (.int .i64 0) ∧ X.cell? ⟨w.heap.size + 1, 4, none⟩ = some (.int .i64 100) ∧
      (Instr.lookup 217 (.map (some pm)) (.string ⟨#[c]⟩) false).run Tryz.prog X = .ok (.bool false) X ∧ (Builtin.len_ #[217] 3 #[.map (some pm)]).run Tryz.prog X = .ok (.int .i64 (l.length : Int)) X ∧
      ∃ X2, (Instr.mapUpdate 217 (.map (some pm)) (.string ⟨#[c]⟩) (.bool true)).run Tryz.prog X = .ok () X2 ∧ X2.cell? ⟨b6, 0, none⟩ = some (.func (.func 121) #[] #[]) ∧ X2.cell? ⟨b2, 3, none⟩ = some (.slice (some ⟨bf, 0, none⟩) 2 2) ∧ X2.cell? ⟨b2, 5, none⟩ = some (.slice (some ⟨bk, 0, none⟩) 1 1) ∧ X2.cell? ⟨w.heap.size + 1, 1, none⟩ = some (.int .i64 0) ∧ X2.cell? ⟨w.heap.size + 1, 2, none⟩ = some (.int .i64 1) ∧ X2.cell? ⟨w.heap.size + 1, 3, none⟩ = some (.int .i64 0) ∧ Hid (MapIs strK X2 pm (l ++ [(⟨#[c]⟩, .bool true)]) ∧ w.grownBy X2 (some pm)) from fun X hX => by
    have kX := k2.trans hX
    have m := hm.kp kX
    have L := strKeys (P := Tryz.prog) (K := 9) Tryz.underlying9
    have e1 := run_lookup_is L Tryz.underlying217 false ⟨#[c]⟩ X pm l m (.bool false) (by kernel_rfl)
    have hno : lookF (fun a b : ByteArray => a == b) ⟨#[c]⟩ l 0 = none := hno
    rw [hno] at e1
    obtain ⟨X2, e2, m2, g2⟩ := run_update_any L Tryz.underlying217 ⟨#[c]⟩ (.bool true) X pm l m
    rw [look_set_none hno] at m2
    obtain ⟨es, cl, hpm, -⟩ := hm
    have hne : ∀ {g : Nat} {t : TypeId} {cs : Array Value}, Blk w g t cs → some g ≠ some pm := fun {g t cs} hg e => by
      cases e
      unfold Blk at hg
      rw [hpm] at hg
      cases hg
    have hplt := (Array.getElem?_eq_some_iff.1 hpm).1
    have hd := B1.kp hX
    have hp := B2.kp hX
    have f5 := h5.kp kX; have f6 := h6.kp kX; have f2 := h2.kp kX
    have f6' := f6.grown g2 (hne h6); have f2' := f2.grown g2 (hne h2)
    have hp' := hp.grown g2 (by simp; omega)
    exact ⟨f5.cell 0, f6.cell 0, f2.cell 3, f2.cell 5, hd.cell 1, hp.cell 0, hp.cell 1, hp.cell 2, hp.cell 3, hp.cell 4, by simpa using e1, m.len (by kernel_rfl), X2, e2, f6'.cell 0, f2'.cell 3, f2'.cell 5, hp'.cell 1, hp'.cell 2, hp'.cell 3, Lib.hid ⟨m2, grown_only kX g2⟩⟩)
  have C1 := Lib.hid (fun X => isLabel124 c X hc)
  have d60 : ¬ (60 : Int) ≤ (l.length : Int) := by omega
  have c2 : (w.alloc (.cells (dedC c) 93)).cell? ⟨w.heap.size, 2, none⟩ = some (.string ⟨#[c]⟩) := (Blk.new w 93 (dedC c)).cell 2
  have c3 : (w.alloc (.cells (dedC c) 93)).cell? ⟨w.heap.size, 3, none⟩ = some (.int .i64 0) := (Blk.new w 93 (dedC c)).cell 3
  have c4 : (w.alloc (.cells (dedC c) 93)).cell? ⟨w.heap.size, 4, none⟩ = some (.int .i64 1) := (Blk.new w 93 (dedC c)).cell 4
  have c5 : (w.alloc (.cells (dedC c) 93)).cell? ⟨w.heap.size, 5, none⟩ = some (.int .i64 0) := (Blk.new w 93 (dedC c)).cell 5
  have c6 : (w.alloc (.cells (dedC c) 93)).cell? ⟨w.heap.size, 6, none⟩ = some (.int .i64 100) := (Blk.new w 93 (dedC c)).cell 6
  have c7 : ((w.alloc (.cells (dedC c) 93)).alloc (.cells #[.string ⟨#[c]⟩, .int .i64 0, .int .i64 1, .int .i64 0, .int .i64 100] 61)).cell? ⟨w.heap.size + 1, 0, none⟩ = some (.string ⟨#[c]⟩) := B2.cell 0
  clear h5 h6 h2 hm hno k1 k2 B1 B2 hc
  go_enter Tryz.func123, Tryz.ntmps123
  go_wp2_with (first | (go_at_call 124; (with_reducible refine (C1.out _).mono ?_); rintro e w2 ⟨rfl, hk⟩; obtain ⟨q1, q2, q3, q4, q5, q6, q7, q8, q9, q10, q11, q12, X2, q13, q14, q15, q16, q17, q18, q19, q20⟩ := HA.out _ hk; clear hk c2 c3 c4 c5 c6 c7) | (go_at_call 121; (with_reducible refine (index121 _ _ _ (by decide) (by decide)).mono ?_); rintro e w4 ⟨rfl, rfl⟩))
  go_ret
  exact ⟨rfl, q20.out⟩
end
end
section
open Go.Shelf Go.ChangeShapes Go.WideShapes Go.ChangeAt Go.RowKit
set_option linter.unusedSimpArgs false
set_option linter.unusedVariables false
/-- What holds between the rounds over the deeds. -/
structure WfI (w : World) (N db bc bn bo bf bl bk : Nat) (l : List (ByteArray × Value)) (Y : World) : Prop where
  k : Keeps w Y
  sz : w.heap.size = N
  b0 : Blk Y N 87 (netC bc bn bo bf bl bk)
  b2 : Blk Y (N + 2) 217 #[.map (some (N + 1))]
  b3 : Blk Y (N + 3) 177 #[.func (.func 121) #[] #[]]
  m : MapIs strK Y (N + 1) l
  r : MapIs ivK Y (N + 5) [(1, .func (.func 123) #[] #[.pointer (some ⟨N + 2, 0, none⟩), .pointer (some ⟨N + 3, 0, none⟩), .pointer (some ⟨N, 0, none⟩)]), (2, .func (.func 122) #[] #[.pointer (some ⟨N + 2, 0, none⟩)]), (3, .func (.func 122) #[] #[.pointer (some ⟨N + 2, 0, none⟩)]), (4, .func (.func 125) #[] #[.pointer (some ⟨N + 4, 0, none⟩), .pointer (some ⟨N + 2, 0, none⟩)]), (5, .func (.func 126) #[] #[.pointer (some ⟨N + 3, 0, none⟩), .pointer (some ⟨N, 0, none⟩)])]
  d : Blk Y db 93 (dedC 65 ++ dedC 66)
  dl : db < N
theorem WfI.keep {w Y Y' : World} {N db bc bn bo bf bl bk : Nat} {l : List (ByteArray × Value)} (h : WfI w N db bc bn bo bf bl bk l Y) (hk : Keeps Y Y') : WfI w N db bc bn bo bf bl bk l Y' :=
  ⟨h.k.trans hk, h.sz, h.b0.kp hk, h.b2.kp hk, h.b3.kp hk, h.m.kp hk, h.r.kp hk, h.d.kp hk, h.dl⟩
theorem WfI.grow {w Y Y' : World} {N db bc bn bo bf bl bk : Nat} {l l' : List (ByteArray × Value)} (h : WfI w N db bc bn bo bf bl bk l Y) (hg : Y.grownBy Y' (some (N + 1))) (hm : MapIs strK Y' (N + 1) l') : WfI w N db bc bn bo bf bl bk l' Y' := by
  have hs := h.sz
  have hd := h.dl
  exact ⟨grown_keepsr h.k hg (by omega), h.sz, h.b0.grown hg (by simp), h.b2.grown hg (by simp), h.b3.grown hg (by simp), hm, h.r.same (hg.block _ h.r.lt (by simp)), h.d.grown hg (by simp; omega), h.dl⟩
theorem WfI.look {w Y : World} {N db bc bn bo bf bl bk : Nat} {l : List (ByteArray × Value)} (h : WfI w N db bc bn bo bf bl bk l Y) : (Instr.lookup 219 (.map (some (N + 5))) (.int .i64 1) true).run Tryz.prog Y = .ok (.tuple #[.func (.func 123) #[] #[.pointer (some ⟨N + 2, 0, none⟩), .pointer (some ⟨N + 3, 0, none⟩), .pointer (some ⟨N, 0, none⟩)], .bool true]) Y := by
  have := look1 (T := 219) Tryz.underlying219 h.r true (z := Value.nilFunc) (by kernel_rfl)
  simpa using this
theorem ded_cells {Y : World} {db : Nat} (h : Blk Y db 93 (dedC 65 ++ dedC 66)) : Y.cell? ⟨db, 0, none⟩ = some (.int .i64 1) ∧ Y.cell? ⟨db, 1, none⟩ = some (.int .i64 100) ∧ Y.cell? ⟨db, 2, none⟩ = some (.string ⟨#[65]⟩) ∧ Y.cell? ⟨db, 3, none⟩ = some (.int .i64 0) ∧ Y.cell? ⟨db, 4, none⟩ = some (.int .i64 1) ∧ Y.cell? ⟨db, 5, none⟩ = some (.int .i64 0) ∧ Y.cell? ⟨db, 6, none⟩ = some (.int .i64 100) ∧ Y.cell? ⟨db, 7, none⟩ = some (.string ⟨#[]⟩) ∧ Y.cell? ⟨db, 8, none⟩ = some (.string ⟨#[]⟩) ∧ Y.cell? ⟨db, 9, none⟩ = some (.int .i64 0) ∧ Y.cell? ⟨db, 10, none⟩ = some (.int .i64 1) ∧ Y.cell? ⟨db, 11, none⟩ = some (.int .i64 100) ∧ Y.cell? ⟨db, 12, none⟩ = some (.string ⟨#[66]⟩) ∧ Y.cell? ⟨db, 13, none⟩ = some (.int .i64 0) ∧ Y.cell? ⟨db, 14, none⟩ = some (.int .i64 1) ∧ Y.cell? ⟨db, 15, none⟩ = some (.int .i64 0) ∧ Y.cell? ⟨db, 16, none⟩ = some (.int .i64 100) ∧ Y.cell? ⟨db, 17, none⟩ = some (.string ⟨#[]⟩) ∧ Y.cell? ⟨db, 18, none⟩ = some (.string ⟨#[]⟩) ∧ Y.cell? ⟨db, 19, none⟩ = some (.int .i64 0) :=
  ⟨h.cell 0, h.cell 1, h.cell 2, h.cell 3, h.cell 4, h.cell 5, h.cell 6, h.cell 7, h.cell 8, h.cell 9, h.cell 10, h.cell 11, h.cell 12, h.cell 13, h.cell 14, h.cell 15, h.cell 16, h.cell 17, h.cell 18, h.cell 19⟩
theorem dedb_cells {Y : World} {b : Nat} {c : UInt8} (h : Blk Y b 93 (dedC c)) : Y.cell? ⟨b, 0, none⟩ = some (.int .i64 1) ∧ Y.cell? ⟨b, 1, none⟩ = some (.int .i64 100) ∧ Y.cell? ⟨b, 2, none⟩ = some (.string ⟨#[c]⟩) ∧ Y.cell? ⟨b, 3, none⟩ = some (.int .i64 0) ∧ Y.cell? ⟨b, 4, none⟩ = some (.int .i64 1) ∧ Y.cell? ⟨b, 5, none⟩ = some (.int .i64 0) ∧ Y.cell? ⟨b, 6, none⟩ = some (.int .i64 100) ∧ Y.cell? ⟨b, 7, none⟩ = some (.string ⟨#[]⟩) ∧ Y.cell? ⟨b, 8, none⟩ = some (.string ⟨#[]⟩) ∧ Y.cell? ⟨b, 9, none⟩ = some (.int .i64 0) :=
  ⟨h.cell 0, h.cell 1, h.cell 2, h.cell 3, h.cell 4, h.cell 5, h.cell 6, h.cell 7, h.cell 8, h.cell 9⟩
section
attribute [local go_sem] Oper.semAt_some
set_option maxRecDepth 100000 in
set_option maxHeartbeats 8000000 in
theorem wellFormed76 (bw bc bn bo bf bl bk db : Nat) (w : World) (h : Net w bw bc bn bo bf bl bk) (hd : Blk w db 93 (dedC 65 ++ dedC 66)) : Calls Tryz.prog 76 #[.agg (netC bc bn bo bf bl bk), .slice (some ⟨db, 0, none⟩) 2 2] w fun e w' => e = .returned (.bool true) ∧ Keeps w w' := by
  obtain ⟨N, hN⟩ : ∃ N, w.heap.size = N := ⟨_, rfl⟩
  have HA := Lib.hid (show ∀ V, V = ((((w.alloc (.cells (netC bc bn bo bf bl bk) 87)).alloc (.map #[] 0)).alloc (.cells #[.map (some (N + 1))] 217)).alloc (.cells #[.func (.func 121) #[] #[]] 177)).alloc (.cells #[.func (.func 122) #[] #[.pointer (some ⟨N + 2, 0, none⟩)]] 218) →
      V.heap.size = N + 5 ∧ ∃ X1 X2 X3 X4 X5, (Instr.mapUpdate 219 (.map (some (N + 5))) (.int .i64 1) (.func (.func 123) #[] #[.pointer (some ⟨N + 2, 0, none⟩), .pointer (some ⟨N + 3, 0, none⟩), .pointer (some ⟨N, 0, none⟩)])).run Tryz.prog (V.alloc (.map #[] 0)) = .ok () X1 ∧ (Instr.mapUpdate 219 (.map (some (N + 5))) (.int .i64 2) (.func (.func 122) #[] #[.pointer (some ⟨N + 2, 0, none⟩)])).run Tryz.prog X1 = .ok () X2 ∧ (Instr.mapUpdate 219 (.map (some (N + 5))) (.int .i64 3) (.func (.func 122) #[] #[.pointer (some ⟨N + 2, 0, none⟩)])).run Tryz.prog X2 = .ok () X3 ∧ (Instr.mapUpdate 219 (.map (some (N + 5))) (.int .i64 4) (.func (.func 125) #[] #[.pointer (some ⟨N + 4, 0, none⟩), .pointer (some ⟨N + 2, 0, none⟩)])).run Tryz.prog X3 = .ok () X4 ∧ (Instr.mapUpdate 219 (.map (some (N + 5))) (.int .i64 5) (.func (.func 126) #[] #[.pointer (some ⟨N + 3, 0, none⟩), .pointer (some ⟨N, 0, none⟩)])).run Tryz.prog X4 = .ok () X5 ∧
        X1.cell? ⟨N + 4, 0, none⟩ = some (.func (.func 122) #[] #[.pointer (some ⟨N + 2, 0, none⟩)]) ∧ X2.cell? ⟨N + 4, 0, none⟩ = some (.func (.func 122) #[] #[.pointer (some ⟨N + 2, 0, none⟩)]) ∧ Hid (WfI w N db bc bn bo bf bl bk [] X5) from fun V hV => by
    have hz : V.heap.size = N + 5 := by rw [hV]; simp [hN]
    have kV : Keeps w V := by rw [hV]; exact (((((Keeps.refl w).alloc _).alloc _).alloc _).alloc _).alloc _
    have b0 : Blk V N 87 (netC bc bn bo bf bl bk) := by rw [hV]; exact ((((blk_at (w := w) w hN).alloc _).alloc _).alloc _).alloc _
    have m1 : MapIs strK V (N + 1) [] := by
      rw [hV]
      have := MapIs.made (kv := strK) (w.alloc (.cells (netC bc bn bo bf bl bk) 87))
      rw [World.size_alloc, hN] at this
      exact this.kp ((((Keeps.refl _).alloc _).alloc _).alloc _)
    have b2 : Blk V (N + 2) 217 #[.map (some (N + 1))] := by rw [hV]; exact ((blk_at (w := w) _ (by simp [hN])).alloc _).alloc _
    have b3 : Blk V (N + 3) 177 #[.func (.func 121) #[] #[]] := by rw [hV]; exact (blk_at (w := w) _ (by simp [hN])).alloc _
    have b4 : Blk V (N + 4) 218 #[.func (.func 122) #[] #[.pointer (some ⟨N + 2, 0, none⟩)]] := by rw [hV]; exact blk_at (w := w) _ (by simp [hN])
    have m0 := MapIs.made (kv := ivK) V
    rw [hz] at m0
    have kX := (Keeps.refl V).alloc (.map #[] 0)
    obtain ⟨X1, X2, X3, X4, X5, e1, e2, e3, e4, e5, mr, g1, g2, g3, g4, g5⟩ := ins5 Tryz.underlying219 _ _ m0 (.func (.func 123) #[] #[.pointer (some ⟨N + 2, 0, none⟩), .pointer (some ⟨N + 3, 0, none⟩), .pointer (some ⟨N, 0, none⟩)]) (.func (.func 122) #[] #[.pointer (some ⟨N + 2, 0, none⟩)]) (.func (.func 122) #[] #[.pointer (some ⟨N + 2, 0, none⟩)]) (.func (.func 125) #[] #[.pointer (some ⟨N + 4, 0, none⟩), .pointer (some ⟨N + 2, 0, none⟩)]) (.func (.func 126) #[] #[.pointer (some ⟨N + 3, 0, none⟩), .pointer (some ⟨N, 0, none⟩)])
    have kV5 : Keeps V X5 := grown_keepsr (grown_keepsr (grown_keepsr (grown_keepsr (grown_keepsr kX g1 (by omega)) g2 (by omega)) g3 (by omega)) g4 (by omega)) g5 (by omega)
    have kV1 : Keeps V X1 := grown_keepsr kX g1 (by omega)
    have kV2 : Keeps V X2 := grown_keepsr kV1 g2 (by omega)
    exact ⟨hz, X1, X2, X3, X4, X5, e1, e2, e3, e4, e5, (b4.kp kV1).cell 0, (b4.kp kV2).cell 0, Lib.hid ⟨kV.trans kV5, hN, b0.kp kV5, b2.kp kV5, b3.kp kV5, m1.kp kV5, mr, hd.kp (kV.trans kV5), by have := hd.lt; omega⟩⟩)
  have hmk := @run_makeMap Tryz.prog
  clear h
  go_enter Tryz.func76, Tryz.ntmps76
  go_upto_region 6 with fail
  simp only [Nat.add_assoc, Nat.reduceAdd]
  generalize hV : ((((w.alloc (.cells (netC bc bn bo bf bl bk) 87)).alloc (.map #[] 0)).alloc (.cells #[.map (some (N + 1))] 217)).alloc (.cells #[.func (.func 121) #[] #[]] 177)).alloc (.cells #[.func (.func 122) #[] #[.pointer (some ⟨N + 2, 0, none⟩)]] 218) = V
  obtain ⟨hz, X1, X2, X3, X4, X5, e1, e2, e3, e4, e5, x1, x2, H5⟩ := HA.out V hV.symm
  clear HA hN hV hd
  go_upto_region 8 with fail
  clear hmk hz e1 e2 e3 e4 e5 x1 x2 X1 X2 X3 X4 V
  go_wp2_with fail
  refine wp_loop_rounds 3 ?_
  have HR65 := Lib.hid H5.out
  have HM65 : N + 5 < X5.heap.size := HR65.out.r.lt
  obtain ⟨s0, s1, s2, s3, s4, s5, s6, s7, s8, s9, s10, s11, s12, s13, s14, s15, s16, s17, s18, s19⟩ := ded_cells HR65.out.d
  rw [rounds_succ]
  go_upto_region 11 with fail
  clear s0 s1 s2 s3 s4 s5 s6 s7 s8 s9 s10 s11 s12 s13 s14 s15 s16 s17 s18 s19
  have HY65 := Lib.hid (HR65.out.keep ((Keeps.refl X5).alloc (.cells (dedC 65) 93)))
  have HD65 := Lib.hid (Blk.new X5 93 (dedC 65))
  have HL65 := HY65.out.look
  obtain ⟨u0, u1, u2, u3, u4, u5, u6, u7, u8, u9⟩ := dedb_cells HD65.out
  generalize X5.alloc (.cells (dedC 65) 93) = Y1 at *
  generalize X5.heap.size = M65 at *
  go_wp2_with (go_at_call 123; (with_reducible refine (closure123 65 (by decide) [] (by decide) (by decide) _ _ _ _ _ _ _ _ _ _ _ HY65.out.b2 HY65.out.b3 HY65.out.b0 HY65.out.m).mono ?_); rintro e Z65 ⟨rfl, hm, hg⟩; have HN65 := Lib.hid (HY65.out.grow hg hm); have v65 := (HD65.out.grown hg (by simp; omega)).cell 1; clear hm hg u0 u1 u2 u3 u4 u5 u6 u7 u8 u9 HL65)
  have HR66 := Lib.hid (show WfI w N db bc bn bo bf bl bk [((⟨#[65]⟩ : ByteArray), Value.bool true)] Z65 from HN65.out)
  have hno66 : lookF strE ⟨#[66]⟩ [((⟨#[65]⟩ : ByteArray), Value.bool true)] 0 = none := by
    have : strE (⟨#[66]⟩ : ByteArray) ⟨#[65]⟩ = false := by decide
    simp [lookF, this]
  have HM66 : N + 5 < Z65.heap.size := HR66.out.r.lt
  obtain ⟨s0, s1, s2, s3, s4, s5, s6, s7, s8, s9, s10, s11, s12, s13, s14, s15, s16, s17, s18, s19⟩ := ded_cells HR66.out.d
  rw [rounds_succ]
  go_upto_region 11 with fail
  clear s0 s1 s2 s3 s4 s5 s6 s7 s8 s9 s10 s11 s12 s13 s14 s15 s16 s17 s18 s19
  have HY66 := Lib.hid (HR66.out.keep ((Keeps.refl Z65).alloc (.cells (dedC 66) 93)))
  have HD66 := Lib.hid (Blk.new Z65 93 (dedC 66))
  have HL66 := HY66.out.look
  obtain ⟨u0, u1, u2, u3, u4, u5, u6, u7, u8, u9⟩ := dedb_cells HD66.out
  generalize Z65.alloc (.cells (dedC 66) 93) = Y2 at *
  generalize Z65.heap.size = M66 at *
  go_wp2_with (go_at_call 123; (with_reducible refine (closure123 66 (by decide) [(⟨#[65]⟩, .bool true)] (by decide) hno66 _ _ _ _ _ _ _ _ _ _ _ HY66.out.b2 HY66.out.b3 HY66.out.b0 HY66.out.m).mono ?_); rintro e Z66 ⟨rfl, hm, hg⟩; have HN66 := Lib.hid (HY66.out.grow hg hm); have v66 := (HD66.out.grown hg (by simp; omega)).cell 1; clear hm hg u0 u1 u2 u3 u4 u5 u6 u7 u8 u9 HL66)
  rw [rounds_succ]
  go_wp2_with fail
  go_ret
  exact ⟨rfl, HN66.out.k⟩
end
end
end Go.Proofs.YthkmpegpmpdhaaaGreatDoor
