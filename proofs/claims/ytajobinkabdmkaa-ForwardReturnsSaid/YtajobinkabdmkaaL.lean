/- The walk of ForwardParts. Conditions: none. -/
import Derived.Test.YtajobinkabdmkaaK
import Derived.Test.YtajobinkabdmkaaJ
import Derived.Test.YtajobinkabdmkaaI
import Derived.Maps.OwnIn
import Derived.RangeFuncNested
import Derived.RangeFuncCalls
import Derived.RangeFuncLeaves
import Derived.Shelf.Abstract
import Derived.OwnWalkIn
import Derived.TacticsInMore
import Derived.LoopNIn
import Derived.LoopIn
import Derived.Test.YtajobinkabdmkaaA
import Derived.Test.YtajobinkabdmkaaG
import Derived.Test.YtajobinkabdmkaaM
import Derived.Test.YtajobinkabdmkaaRows
import Derived.WalkKit
import Derived.WalkSpells
import Derived.WalkLawsBesides
import Derived.Laws.EntriesVeiled
import Derived.ProofKit
import Derived.OpenShut
import Derived.Lib.Hide
import Derived.BigQuiet
import Derived.Deep.QuietTactic
import Derived.Below
import Derived.Laws.OwnMore
import Derived.Deep.AppendLies
import Derived.Deep.Draws
import Derived.Laws.Rows
import Derived.Maps.AppendAt
import Derived.RegionTactic
import Derived.OwnWalk
import Derived.Deep.RegionHeld3
namespace Go.Proofs.Ytajobinkabdmkaa
open Go.Shelf Go.ChangeShapes Go.WideShapes Go.ChangeAt Go.RowKit
set_option linter.unusedSimpArgs false
set_option linter.unusedVariables false
theorem IsChain.it {nx : Pt → Option Pt} {p : Pt} {c : List Pt} (h : IsChain nx p c) : ∀ k, k ≤ c.length → itF nx p k = c[k]?
  | 0, _ => by rw [h.first]; rfl
  | k + 1, hk => by
    have hkl : k < c.length := by omega
    have hc : c[k]? = some c[k] := List.getElem?_eq_getElem hkl
    simp only [itF, IsChain.it h k (by omega), hc, Option.bind_some]
    exact h.next k _ hc
theorem IsChain.walk {nx : Pt → Option Pt} {p : Pt} {c : List Pt} (h : IsChain nx p c) : walkF nx 5 [p] p = (c, 0) := by
  refine chain_done (fun k hk => h.it k (by omega)) ?_ h.nodup h.len
  rw [h.it _ (Nat.le_refl _), List.getElem?_eq_none (Nat.le_refl _)]
theorem IsChain.drop {nx : Pt → Option Pt} {p q : Pt} {c : List Pt} (h : IsChain nx p c) {k : Nat} (hq : c[k]? = some q) : IsChain nx q (c.drop k) where
  first := by rw [List.getElem?_drop]; simpa using hq
  len := by have := h.len; simp; omega
  next := fun i x hx => by
    rw [List.getElem?_drop] at hx ⊢
    rw [h.next _ _ hx]; rfl
  nodup := List.Sublist.nodup (List.drop_sublist k c) h.nodup
theorem follow_valid {l : List Ordr} {d : Int} {p : Pt} {c : List Pt} (h : followF l d p = (c, 0)) : validF l = true := by
  unfold followF at h
  split at h
  · assumption
  · simp at h
theorem follow_drop {l : List Ordr} {d : Int} {p q : Pt} {c : List Pt} (h : followF l d p = (c, 0)) {k : Nat} (hq : c[k]? = some q) : followF l d q = (c.drop k, 0) := by
  have hv := follow_valid h
  unfold followF
  rw [if_pos hv]
  exact ((follow_chain h).drop hq).walk
theorem final_drop {l : List Ordr} {d : Int} {p q s z : Pt} {c : List Pt} (h : followF l d p = (c, 0)) {k : Nat} (hq : c[k]? = some q) (hz : c[c.length - 1]? = some z) : finalF l d q s = (z, false) := by
  have hk : k < c.length := (List.getElem?_eq_some_iff.1 hq).1
  unfold finalF
  rw [follow_drop h hq]
  simp only [if_true]
  have : (c.drop k).getLast? = some z := by
    rw [List.getLast?_eq_getElem?, List.getElem?_drop, List.length_drop, ← hz]
    congr 1
    omega
  rw [this]; rfl
theorem follow_last {l : List Ordr} {d : Int} {p z : Pt} {c : List Pt} (h : followF l d p = (c, 0)) (hz : c[c.length - 1]? = some z) : followF l d z = ([z], 0) := by
  have hk : c.length - 1 < c.length := (List.getElem?_eq_some_iff.1 hz).1
  rw [follow_drop h hz]
  congr 1
  rw [List.drop_eq_getElem_cons hk]
  have : c[c.length - 1] = z := by
    rw [List.getElem?_eq_getElem hk] at hz
    injection hz
  rw [this, show c.length - 1 + 1 = c.length by omega, List.drop_length]
theorem Pts.drop {w : World} {B b off : Nat} {l : List Pt} (h : Pts w B (some ⟨b, off, none⟩) l) (k : Nat) : Pts w B (some ⟨b, off + k * 2, none⟩) (l.drop k) := fun i p hi => by
  rw [List.getElem?_drop] at hi
  obtain ⟨b', off', e, hb, h0, h1⟩ := h (k + i) p hi
  cases e
  refine ⟨b, off + k * 2, rfl, hb, ?_, ?_⟩
  · rw [show off + k * 2 + i * 2 = off + (k + i) * 2 by omega]; exact h0
  · rw [show off + k * 2 + i * 2 + 1 = off + (k + i) * 2 + 1 by omega]; exact h1
theorem part_is {X : World} {Y : After X} {ch : List Pt} {m k b off c2 c3 : Nat} {A3 : Option Addr} (hm : m = ch.length) (hk : k < m) (hr : Pts X X.heap.size A3 (ch.drop k)) (hp : Pts X X.heap.size (some ⟨b, off, none⟩) ch) (h5 : ch.length ≤ 1000000000000) :
    Calls Try.prog 14 #[.slice A3 (ch.length - k) c3, .slice (some ⟨b, off + k * 2, none⟩) (m - k) (c2 - k)] Y.val fun e w' => e = .returned (.bool true) ∧ Keeps Y.val w' :=
  same_is (ch.drop k) (ch.drop k) A3 _ _ _ _ _ _ (hr.keep Y.ok) ((hp.keep Y.ok).drop k) (by simp; omega) (by simp; omega) (by simp) (by simp; omega) true (by simp)

set_option maxRecDepth 100000 in
set_option maxHeartbeats 2000000 in
theorem law_parts (l : List Ordr) (A : Option Addr) (c : Nat) (day px py wh sx sy : Int) (w : World) (hl : Ords w w.heap.size A l) (_hm : l.length ≤ maxLen) (hw0 : 0 ≤ wh) (hw1 : wh ≤ 255) :
    Calls Try.prog 5 #[.slice A l.length c, .int .i64 day, .agg #[.int .i64 px, .int .i64 py], .int .u8 wh, .agg #[.int .i64 sx, .int .i64 sy]] w (BoolPost true w) := by
  obtain ⟨n, hn⟩ : ∃ n, n = l.length := ⟨_, rfl⟩
  rw [← hn]
  have HN := Lib.hid hn; clear hn
  have bx00 : Blk ((w.alloc (.cells #[Value.int .i64 px, .int .i64 py] 24)).alloc (.cells #[Value.int .i64 sx, .int .i64 sy] 24)) (w.heap.size) 24 #[Value.int .i64 px, .int .i64 py] := (Blk.new w _ _).alloc _
  have bx10 : Blk ((w.alloc (.cells #[Value.int .i64 px, .int .i64 py] 24)).alloc (.cells #[Value.int .i64 sx, .int .i64 sy] 24)) (w.heap.size + 1) 24 #[Value.int .i64 sx, .int .i64 sy] := by
    have h := Blk.new (w.alloc (.cells #[Value.int .i64 px, .int .i64 py] 24)) 24 #[Value.int .i64 sx, .int .i64 sy]
    rw [World.size_alloc] at h; exact h
  have k0 : Keeps w ((w.alloc (.cells #[Value.int .i64 px, .int .i64 py] 24)).alloc (.cells #[Value.int .i64 sx, .int .i64 sy] 24)) := ((Keeps.refl w).alloc _).alloc _
  have q0 := hl.keep k0
  by_cases h50 : 40 < n
  · go_enter Try.func5, Try.ntmps5
    go_wp2_with fail
    refine (head_any _).mono ?_
    rintro e W1 ⟨rfl, h1⟩
    go_wp2
    go_ret
    exact ⟨rfl, k0.trans h1⟩
  · have hn12 : l.length ≤ 1000000000000 := by have := HN.out; omega
    have hn50 : n ≤ 40 := by omega
    go_enter Try.func5, Try.ntmps5
    go_wp2_with fail
    generalize ((w.alloc (.cells #[Value.int .i64 px, .int .i64 py] 24)).alloc (.cells #[Value.int .i64 sx, .int .i64 sy] 24)) = W0 at *
    refine (head_any _).mono ?_
    rintro e W1 ⟨rfl, h1⟩
    have bx00_1 := bx00.below h1 bx00.lt; clear bx00
    have bx10_1 := bx10.below h1 bx10.lt; clear bx10
    have q0_1 := q0.keep h1; clear q0
    have k_1 := k0.trans h1; clear k0
    have bx00_1x0 : W1.cell? ⟨w.heap.size, 0, none⟩ = some (.int .i64 px) := cell_of_blk bx00_1 0 rfl
    have bx00_1x1 : W1.cell? ⟨w.heap.size, 1, none⟩ = some (.int .i64 py) := cell_of_blk bx00_1 1 rfl
    have bx00_1z := bx00_1.lt
    have bx10_1x0 : W1.cell? ⟨w.heap.size + 1, 0, none⟩ = some (.int .i64 sx) := cell_of_blk bx10_1 0 rfl
    have bx10_1x1 : W1.cell? ⟨w.heap.size + 1, 1, none⟩ = some (.int .i64 sy) := cell_of_blk bx10_1 1 rfl
    have bx10_1z := bx10_1.lt
    go_wp2_with fail
    refine (follow_is l A n c _ _ _ _ q0_1 hn12 HN.out _ rfl).mono ?_
    rintro e W2 ⟨A2, c2, rfl, hc2, pa0, h2⟩
    clear bx00_1x0 bx00_1x1 bx00_1z
    clear bx10_1x0 bx10_1x1 bx10_1z
    have bx00_2 := bx00_1.below h2 bx00_1.lt; clear bx00_1
    have bx10_2 := bx10_1.below h2 bx10_1.lt; clear bx10_1
    have q0_2 := q0_1.keep h2; clear q0_1
    have k_2 := k_1.trans h2; clear k_1
    have bx00_2x0 : W2.cell? ⟨w.heap.size, 0, none⟩ = some (.int .i64 px) := cell_of_blk bx00_2 0 rfl
    have bx00_2x1 : W2.cell? ⟨w.heap.size, 1, none⟩ = some (.int .i64 py) := cell_of_blk bx00_2 1 rfl
    have bx00_2z := bx00_2.lt
    have bx10_2x0 : W2.cell? ⟨w.heap.size + 1, 0, none⟩ = some (.int .i64 sx) := cell_of_blk bx10_2 0 rfl
    have bx10_2x1 : W2.cell? ⟨w.heap.size + 1, 1, none⟩ = some (.int .i64 sy) := cell_of_blk bx10_2 1 rfl
    have bx10_2z := bx10_2.lt
    cases he : ((followF l day (px, py)).2 != 0)
    · have he0 : (followF l day (px, py)).2 = 0 := by simpa using he
      generalize hfo : followF l day (px, py) = r at *
      obtain ⟨ch, er⟩ := r
      simp only at he0 he hc2 pa0 ⊢
      subst he0
      have hch := follow_chain hfo
      obtain ⟨m, hm⟩ : ∃ m, m = ch.length := ⟨_, rfl⟩
      rw [← hm] at hc2 ⊢
      have hm1 : 1 ≤ m := by have := (List.getElem?_eq_some_iff.1 hch.first).1; omega
      have hm5 : m ≤ 5 := by have := hch.len; omega
      obtain ⟨k, hk⟩ : ∃ k : Nat, (k : Int) = wh % m := ⟨(wh % m).toNat, by rw [Int.toNat_of_nonneg (Int.emod_nonneg _ (by omega))]⟩
      have hkm : k < m := by have := Int.emod_lt_of_pos wh (show (0 : Int) < m by omega); omega
      have hok : ch[k]? = some (ch[k]'(by omega)) := List.getElem?_eq_getElem _
      generalize ch[k]'(by omega) = q at hok
      have hoz : ch[m - 1]? = some (ch[m - 1]'(by omega)) := List.getElem?_eq_getElem _
      generalize ch[m - 1]'(by omega) = z at hoz
      have hoz' : ch[ch.length - 1]? = some z := by rw [← hm]; exact hoz
      have F1 := Lib.hid (follow_drop hfo hok)
      have F2 := Lib.hid (follow_last hfo hoz')
      have F3 := Lib.hid (final_drop (s := (sx, sy)) hfo hok hoz')
      have HM := Lib.hid hm; clear hm
      have HOK := Lib.hid hok
      have HOZ := Lib.hid hoz
      obtain ⟨b, off, rfl, hb, u0, u1⟩ := pa0 k q hok
      obtain ⟨bz, offz, ez, hbz, v0, v1⟩ := pa0 (m - 1) z hoz
      cases ez
      clear hch hfo hok hoz hoz' he
      have hwk : (wh % (m : Int)) = (k : Int) := hk.symm
      clear hk
      have hk0 : (0 : Int) ≤ (k : Int) := by omega
      have hk1 : (k : Int) < (m : Int) := by omega
      have hm0 : ((m : Int) == 0) = false := by simp; omega
      have hmz : ((m : Int) - 1).toNat = m - 1 := by omega
      have eqP := run_eq_pt
      go_wp2_with fail
      rw [hwk]
      clear hwk
      with_reducible refine (follow_is l A n c _ _ _ _ q0_2 hn12 HN.out _ F1.out).mono ?_
      rintro e W3 ⟨A3, c3, rfl, hc3, pr0, h3⟩
      clear bx00_2x0 bx00_2x1 bx00_2z
      clear bx10_2x0 bx10_2x1 bx10_2z
      have bx00_3 := bx00_2.below h3 bx00_2.lt; clear bx00_2
      have bx10_3 := bx10_2.below h3 bx10_2.lt; clear bx10_2
      have q0_3 := q0_2.keep h3; clear q0_2
      have pa0_3 := pa0.keep h3; clear pa0
      have k_3 := k_2.trans h3; clear k_2
      have u0' := cell_keep u0 h3; clear u0
      have u1' := cell_keep u1 h3; clear u1
      have v0' := cell_keep v0 h3; clear v0
      have v1' := cell_keep v1 h3; clear v1
      have bx00_3x0 : W3.cell? ⟨w.heap.size, 0, none⟩ = some (.int .i64 px) := cell_of_blk bx00_3 0 rfl
      have bx00_3x1 : W3.cell? ⟨w.heap.size, 1, none⟩ = some (.int .i64 py) := cell_of_blk bx00_3 1 rfl
      have bx00_3z := bx00_3.lt
      have bx10_3x0 : W3.cell? ⟨w.heap.size + 1, 0, none⟩ = some (.int .i64 sx) := cell_of_blk bx10_3 0 rfl
      have bx10_3x1 : W3.cell? ⟨w.heap.size + 1, 1, none⟩ = some (.int .i64 sy) := cell_of_blk bx10_3 1 rfl
      have bx10_3z := bx10_3.lt
      have hbW3 : b < W3.heap.size := by have := h3.size; omega
      have hm2 : (0 : Int) ≤ (m : Int) - 1 := by omega
      have hm3 : (m : Int) - 1 < (m : Int) := by omega
      go_wp2_with fail
      with_reducible refine (follow_is l A n c _ _ _ _ q0_3 hn12 HN.out _ F2.out).mono ?_
      rintro e W4 ⟨A4, c4, rfl, hc4, pz0, h4⟩
      clear bx00_3x0 bx00_3x1 bx00_3z
      clear bx10_3x0 bx10_3x1 bx10_3z
      have bx00_4 := bx00_3.below h4 bx00_3.lt; clear bx00_3
      have bx10_4 := bx10_3.below h4 bx10_3.lt; clear bx10_3
      have q0_4 := q0_3.keep h4; clear q0_3
      have pa0_4 := pa0_3.keep h4; clear pa0_3
      have pr0_4 := pr0.keep h4; clear pr0
      have k_4 := k_3.trans h4; clear k_3
      have u0'' := cell_keep u0' h4; clear u0'
      have u1'' := cell_keep u1' h4; clear u1'
      have v0'' := cell_keep v0' h4; clear v0'
      have v1'' := cell_keep v1' h4; clear v1'
      have bx00_4x0 : W4.cell? ⟨w.heap.size, 0, none⟩ = some (.int .i64 px) := cell_of_blk bx00_4 0 rfl
      have bx00_4x1 : W4.cell? ⟨w.heap.size, 1, none⟩ = some (.int .i64 py) := cell_of_blk bx00_4 1 rfl
      have bx00_4z := bx00_4.lt
      have bx10_4x0 : W4.cell? ⟨w.heap.size + 1, 0, none⟩ = some (.int .i64 sx) := cell_of_blk bx10_4 0 rfl
      have bx10_4x1 : W4.cell? ⟨w.heap.size + 1, 1, none⟩ = some (.int .i64 sy) := cell_of_blk bx10_4 1 rfl
      have bx10_4z := bx10_4.lt
      have hbW4 : b < W4.heap.size := by have := h4.size; omega
      have SOF := Lib.hid (show ∀ X, Keeps W4 X → (fun w' => w'.cell? ⟨b, off + k * 2, none⟩ = some (.int .i64 q.1) ∧ w'.cell? ⟨b, off + k * 2 + 1, none⟩ = some (.int .i64 q.2) ∧ w'.cell? ⟨w.heap.size + 1, 0, none⟩ = some (.int .i64 sx) ∧ w'.cell? ⟨w.heap.size + 1, 1, none⟩ = some (.int .i64 sy) ∧ Keeps W4 w') X from fun X hX => ⟨cell_keep u0'' hX, cell_keep u1'' hX, cell_keep bx10_4x0 hX, cell_keep bx10_4x1 hX, hX⟩)
      go_wp2_with fail
      go_region_held3 (fun w' => w'.cell? ⟨b, off + k * 2, none⟩ = some (.int .i64 q.1) ∧ w'.cell? ⟨b, off + k * 2 + 1, none⟩ = some (.int .i64 q.2) ∧ w'.cell? ⟨w.heap.size + 1, 0, none⟩ = some (.int .i64 sx) ∧ w'.cell? ⟨w.heap.size + 1, 1, none⟩ = some (.int .i64 sy) ∧ Keeps W4 w') ((refine SOF.out _ ?_; (repeat (first | exact Keeps.refl _ | apply Keeps.drew | apply Keeps.alloc | (refine Keeps.setCell ?_ (by simp; done) _) | (refine Keeps.trans ?_ h5))); done))
        (first | (go_at_call 12; go_split_ands; refine (final_is l A n c _ _ _ _ _ _ (q0_4.keep (by assumption)) hn12 HN.out _ F3.out).mono ?_; rintro e W5 ⟨rfl, h5⟩; have hz : Blk W5 W4.heap.size 24 #[.int .i64 0, .int .i64 0] := (Blk.new W4.drew 24 #[.int .i64 0, .int .i64 0]).below h5 (by simp); have hz0 : W5.cell? ⟨W4.heap.size, 0, none⟩ = some (.int .i64 0) := cell_of_blk hz 0 rfl; have hz1 : W5.cell? ⟨W4.heap.size, 1, none⟩ = some (.int .i64 0) := cell_of_blk hz 1 rfl; have hf0 := hz.frozen 0; have hf1 := hz.frozen 1) | (go_at_call 12; go_split_ands; refine (final_is l A n c _ _ _ _ _ _ (q0_4.keep (by assumption)) hn12 HN.out _ F3.out).mono ?_; rintro e W5 ⟨rfl, h5⟩))
      · have hX : Keeps W4 (W5.alloc (.cells #[Value.int .i64 z.1, .int .i64 z.2] 24)) := ((Keeps.refl W4).drew.trans h5).alloc _
        have hy : Blk (W5.alloc (.cells #[Value.int .i64 z.1, .int .i64 z.2] 24)) (W5.heap.size) 24 #[.int .i64 z.1, .int .i64 z.2] := Blk.new W5 24 _
        generalize W5.alloc (.cells #[Value.int .i64 z.1, .int .i64 z.2] 24) = X at *
        have a0 := After.cell (cell_of_blk hy 0 (v := .int .i64 z.1) rfl) hy.lt
        have a1 := After.cell (cell_of_blk hy 1 (v := .int .i64 z.2) rfl) hy.lt
        have a2 := After.cell (cell_keep v0'' hX) (Nat.lt_of_lt_of_le hbW4 hX.size)
        have a3 := After.cell (cell_keep v1'' hX) (Nat.lt_of_lt_of_le hbW4 hX.size)
        have pX := pa0_4.keep hX
        have rX := pr0_4.keep hX
        have kX := k_4.trans hX
        have hkc : ¬ c2 = k := by omega
        have HC5 : ch.length ≤ 1000000000000 := by have := HM.out; omega
        have hw5 : IntKind.i64.wrap ((m : Int) - 1) = (m : Int) - 1 := IntWalk.i64_in _ (by omega)
        have hcapk : (k : Int) ≤ (c2 : Int) := by omega
        clear u0'' u1'' v0'' v1'' SOF hy
        go_wp2_with fail
        refine wp_region_after (by kernel_rfl) (by kernel_rfl) ?_
        repeat (go_big_quiet_step ((go_at_call 14; with_reducible exact after_call (part_is HM.out hkm rX pX HC5))))
        refine wpQuiet_nil ?_
        intro _ hw'
        obtain ⟨⟨Y, hY⟩, rfl⟩ := hw'
        go_wp2
        go_ret
        exact ⟨rfl, kX.trans hY⟩
      · have hX : Keeps W4 ((W5.setCell ⟨W4.heap.size, 0, none⟩ (.int .i64 z.1)).setCell ⟨W4.heap.size, 1, none⟩ (.int .i64 z.2)) := ((((Keeps.refl W4).drew.alloc _).trans h5).setCell (Nat.le_refl _) _).setCell (Nat.le_refl _) _
        have hy : Blk ((W5.setCell ⟨W4.heap.size, 0, none⟩ (.int .i64 z.1)).setCell ⟨W4.heap.size, 1, none⟩ (.int .i64 z.2)) (W4.heap.size) 24 #[.int .i64 z.1, .int .i64 z.2] := (hz.set_ 0 _).set_ 1 _
        generalize (W5.setCell ⟨W4.heap.size, 0, none⟩ (.int .i64 z.1)).setCell ⟨W4.heap.size, 1, none⟩ (.int .i64 z.2) = X at *
        have a0 := After.cell (cell_of_blk hy 0 (v := .int .i64 z.1) rfl) hy.lt
        have a1 := After.cell (cell_of_blk hy 1 (v := .int .i64 z.2) rfl) hy.lt
        have a2 := After.cell (cell_keep v0'' hX) (Nat.lt_of_lt_of_le hbW4 hX.size)
        have a3 := After.cell (cell_keep v1'' hX) (Nat.lt_of_lt_of_le hbW4 hX.size)
        have pX := pa0_4.keep hX
        have rX := pr0_4.keep hX
        have kX := k_4.trans hX
        have hkc : ¬ c2 = k := by omega
        have HC5 : ch.length ≤ 1000000000000 := by have := HM.out; omega
        have hw5 : IntKind.i64.wrap ((m : Int) - 1) = (m : Int) - 1 := IntWalk.i64_in _ (by omega)
        have hcapk : (k : Int) ≤ (c2 : Int) := by omega
        clear u0'' u1'' v0'' v1'' SOF hy
        go_wp2_with fail
        refine wp_region_after (by kernel_rfl) (by kernel_rfl) ?_
        repeat (go_big_quiet_step ((go_at_call 14; with_reducible exact after_call (part_is HM.out hkm rX pX HC5))))
        refine wpQuiet_nil ?_
        intro _ hw'
        obtain ⟨⟨Y, hY⟩, rfl⟩ := hw'
        go_wp2
        go_ret
        exact ⟨rfl, kX.trans hY⟩
    · have he0 : (followF l day (px, py)).2 ≠ 0 := by simpa using he
      have hnil := follow_bad he0
      generalize followF l day (px, py) = r at *
      obtain ⟨ch, er⟩ := r
      simp only at he0 hnil he hc2 pa0 ⊢
      subst hnil
      clear he0
      go_wp2
      go_ret
      exact ⟨rfl, k_2⟩
end Go.Proofs.Ytajobinkabdmkaa
