/- The walk of ForwardLoops. Conditions: none. -/
import Derived.Test.YtajobinkabdmkaaL
import Derived.Test.YtajobinkabdmkaaK
import Derived.Test.YtajobinkabdmkaaJ
import Derived.Test.YtajobinkabdmkaaI
import Derived.Maps.OwnIn
import Derived.RangeFuncNested
import Derived.RangeFuncCalls
import Derived.RangeFuncLeaves
import Derived.Shelf.Abstract
import Derived.OwnWalkIn
import Derived.TacticsInMore
import Derived.LoopNIn
import Derived.LoopIn
import Derived.Test.YtajobinkabdmkaaA
import Derived.Test.YtajobinkabdmkaaG
import Derived.Test.YtajobinkabdmkaaM
import Derived.Test.YtajobinkabdmkaaRows
import Derived.WalkKit
import Derived.WalkSpells
import Derived.WalkLawsBesides
import Derived.Laws.EntriesVeiled
import Derived.ProofKit
import Derived.OpenShut
import Derived.Lib.Hide
import Derived.BigQuiet
import Derived.Deep.QuietTactic
import Derived.Below
import Derived.Laws.OwnMore
import Derived.Deep.AppendLies
import Derived.Deep.Draws
import Derived.Laws.Rows
import Derived.Maps.AppendAt
import Derived.RegionTactic
import Derived.OwnWalk
import Derived.Deep.RegionHeld3
namespace Go.Proofs.Ytajobinkabdmkaa
open Go.Shelf Go.ChangeShapes Go.WideShapes Go.ChangeAt Go.RowKit
set_option linter.unusedSimpArgs false
set_option linter.unusedVariables false
theorem it_none {nx : Pt → Option Pt} {p : Pt} {k : Nat} (h : itF nx p k = none) : ∀ d, itF nx p (k + d) = none
  | 0 => h
  | d + 1 => by
    have := it_none h d
    simp [← Nat.add_assoc, itF, this]
theorem it_none_le {nx : Pt → Option Pt} {p : Pt} {k j : Nat} (h : itF nx p k = none) (hj : k ≤ j) : itF nx p j = none := by
  have := it_none h (j - k)
  rwa [show k + (j - k) = j by omega] at this
theorem it_add {nx : Pt → Option Pt} {p q : Pt} {k : Nat} (h : itF nx p k = some q) : ∀ d, itF nx p (k + d) = itF nx q d
  | 0 => h
  | d + 1 => by
    have := it_add h d
    simp [← Nat.add_assoc, itF, this]
theorem it_round {nx : Pt → Option Pt} {x : Pt} {d : Nat} (hd : 0 < d) (h : itF nx x d = some x) : ∀ t, itF nx x t ≠ none := by
  intro t
  induction t using Nat.strongRecOn with
  | _ t ih =>
    by_cases ht : t < d
    · intro hn
      have := it_none_le hn (show t ≤ d by omega)
      rw [h] at this; cases this
    · have := it_add h (t - d)
      rw [show d + (t - d) = t by omega] at this
      rw [this]
      exact ih (t - d) (by omega)
theorem it_loop {nx : Pt → Option Pt} {p x : Pt} {i j : Nat} (hij : i < j) (hi : itF nx p i = some x) (hj : itF nx p j = some x) (k : Nat) : itF nx p k ≠ none := by
  intro hn
  have h1 := it_none_le hn (show k ≤ i + (k + 0) by omega)
  have h2 := it_add hi k
  have hd : itF nx x (j - i) = some x := by
    have := it_add hi (j - i)
    rw [show i + (j - i) = j by omega, hj] at this
    exact this.symm
  rw [show i + (k + 0) = i + k by omega, h2] at h1
  exact it_round (by omega) hd k h1
theorem walk_why {nx : Pt → Option Pt} {p0 : Pt} : ∀ (f : Nat) (ch : List Pt) (p : Pt), ch.length + f = 6 → (∀ k, k < ch.length → itF nx p0 k = ch[k]?) → ch[ch.length - 1]? = some p → 0 < ch.length → 1 ≤ f →
    (walkF nx f ch p).2 = 0 ∨ ((walkF nx f ch p).2 = 70 ∧ ∃ i j x, i < j ∧ itF nx p0 i = some x ∧ itF nx p0 j = some x) ∨ ((walkF nx f ch p).2 = 2 ∧ ∃ x, itF nx p0 5 = some x)
  | 0, ch, p, _, _, _, _, h => by omega
  | f + 1, ch, p, hf, hc, hl, hpos, _ => by
    have hp : itF nx p0 (ch.length - 1) = some p := by rw [hc _ (by omega), hl]
    cases hnx : nx p with
    | none => rw [walk_end hnx]; exact .inl rfl
    | some q =>
      have hq : itF nx p0 ch.length = some q := by
        have : itF nx p0 (ch.length - 1 + 1) = some q := by simp [itF, hp, hnx]
        rwa [show ch.length - 1 + 1 = ch.length by omega] at this
      cases hcn : ch.contains q with
      | true =>
        rw [walk_loop hnx hcn]
        have hm : q ∈ ch := by simpa using hcn
        obtain ⟨i, hi, e⟩ := List.mem_iff_getElem.1 hm
        exact .inr (.inl ⟨rfl, i, ch.length, q, hi, by rw [hc i hi, List.getElem?_eq_getElem hi, e], hq⟩)
      | false =>
        by_cases hl5 : ch.length = 5
        · rw [walk_limit hnx hcn hl5]
          exact .inr (.inr ⟨rfl, q, by rw [← hl5]; exact hq⟩)
        · rw [walk_go hnx hcn hl5]
          refine walk_why f (ch ++ [q]) q (by simp; omega) (fun k hk => ?_) (by simp) (by simp) (by omega)
          by_cases hkl : k < ch.length
          · rw [List.getElem?_append_left hkl]; exact hc k hkl
          · obtain rfl : k = ch.length := by simp at hk; omega
            rw [hq]; simp
theorem follow_why {l : List Ordr} {d : Int} {p : Pt} (hv : validF l = true) :
    (followF l d p).2 = 0 ∨ ((followF l d p).2 = 70 ∧ ∃ i j x, i < j ∧ itF (nextF l d) p i = some x ∧ itF (nextF l d) p j = some x) ∨ ((followF l d p).2 = 2 ∧ ∃ x, itF (nextF l d) p 5 = some x) := by
  unfold followF
  rw [if_pos hv]
  exact walk_why 5 [p] p rfl (fun k hk => by obtain rfl : k = 0 := by (simp at hk; omega)
                                             rfl) rfl (by simp) (by omega)
/-- Five steps are possible. -/
theorem follow_five {l : List Ordr} {d : Int} {p x : Pt} (hv : validF l = true) (h : itF (nextF l d) p 5 = some x) : ((followF l d p).2 = 70 ∨ (followF l d p).2 = 2) ∧ (followF l d p).1 = [] := by
  have hne : (followF l d p).2 ≠ 0 := fun e => by
    have hc := follow_chain (show followF l d p = ((followF l d p).1, 0) from Prod.ext rfl e)
    have hn : itF (nextF l d) p (followF l d p).1.length = none := by rw [hc.it _ (Nat.le_refl _), List.getElem?_eq_none (Nat.le_refl _)]
    have := it_none_le hn hc.len
    rw [h] at this; cases this
  refine ⟨?_, follow_bad hne⟩
  rcases follow_why hv (p := p) (d := d) with h | ⟨h, _⟩ | ⟨h, _⟩
  · exact absurd h hne
  · exact .inl h
  · exact .inr h
/-- The steps end. -/
theorem follow_ends {l : List Ordr} {d : Int} {p q : Pt} {s : Nat} (hv : validF l = true) (h : itF (nextF l d) p s = some q) (hn : itF (nextF l d) p (s + 1) = none) (hs : s < 5) :
    ∃ c, followF l d p = (c, 0) ∧ c.length = s + 1 ∧ c[s]? = some q := by
  have he : (followF l d p).2 = 0 := by
    rcases follow_why hv (p := p) (d := d) with h' | ⟨_, i, j, x, hij, hi, hj⟩ | ⟨_, x, h5⟩
    · exact h'
    · exact absurd hn (it_loop hij hi hj _)
    · have := it_none_le hn (show s + 1 ≤ 5 by omega)
      rw [h5] at this; cases this
  have hfo : followF l d p = ((followF l d p).1, 0) := Prod.ext rfl he
  have hc := follow_chain hfo
  generalize (followF l d p).1 = c at *
  have hlen : itF (nextF l d) p c.length = none := by rw [hc.it _ (Nat.le_refl _), List.getElem?_eq_none (Nat.le_refl _)]
  have h1 : s < c.length := by
    rcases Nat.lt_or_ge s c.length with h1 | h1
    · exact h1
    · have := it_none_le hlen h1; rw [h] at this; cases this
  have h2 : ¬ s + 1 < c.length := fun hlt => by
    rw [hc.it _ (by omega), List.getElem?_eq_getElem hlt] at hn; cases hn
  exact ⟨c, hfo, by omega, by rw [← hc.it s (by omega)]; exact h⟩

set_option maxRecDepth 100000 in
set_option maxHeartbeats 2000000 in
theorem law_loops (l : List Ordr) (A : Option Addr) (c : Nat) (day px py sx sy : Int) (w : World) (hl : Ords w w.heap.size A l) (_hm : l.length ≤ maxLen) :
    Calls Try.prog 7 #[.slice A l.length c, .int .i64 day, .agg #[.int .i64 px, .int .i64 py], .agg #[.int .i64 sx, .int .i64 sy]] w (BoolPost true w) := by
  obtain ⟨n, hn⟩ : ∃ n, n = l.length := ⟨_, rfl⟩
  rw [← hn]
  have HN := Lib.hid hn; clear hn
  have bx00 : Blk ((w.alloc (.cells #[Value.int .i64 px, .int .i64 py] 24)).alloc (.cells #[Value.int .i64 sx, .int .i64 sy] 24)) (w.heap.size) 24 #[Value.int .i64 px, .int .i64 py] := (Blk.new w _ _).alloc _
  have bx10 : Blk ((w.alloc (.cells #[Value.int .i64 px, .int .i64 py] 24)).alloc (.cells #[Value.int .i64 sx, .int .i64 sy] 24)) (w.heap.size + 1) 24 #[Value.int .i64 sx, .int .i64 sy] := by
    have h := Blk.new (w.alloc (.cells #[Value.int .i64 px, .int .i64 py] 24)) 24 #[Value.int .i64 sx, .int .i64 sy]
    rw [World.size_alloc] at h; exact h
  have k0 : Keeps w ((w.alloc (.cells #[Value.int .i64 px, .int .i64 py] 24)).alloc (.cells #[Value.int .i64 sx, .int .i64 sy] 24)) := ((Keeps.refl w).alloc _).alloc _
  have q0 := hl.keep k0
  by_cases h50 : 40 < n
  · go_enter Try.func7, Try.ntmps7
    go_wp2_with fail
    refine (head_any _).mono ?_
    rintro e W1 ⟨rfl, h1⟩
    go_wp2
    go_ret
    exact ⟨rfl, k0.trans h1⟩
  · have hn12 : l.length ≤ 1000000000000 := by have := HN.out; omega
    have hn50 : n ≤ 40 := by omega
    go_enter Try.func7, Try.ntmps7
    go_wp2_with fail
    generalize ((w.alloc (.cells #[Value.int .i64 px, .int .i64 py] 24)).alloc (.cells #[Value.int .i64 sx, .int .i64 sy] 24)) = W0 at *
    refine (head_any _).mono ?_
    rintro e W1 ⟨rfl, h1⟩
    have bx00_1 := bx00.below h1 bx00.lt; clear bx00
    have bx10_1 := bx10.below h1 bx10.lt; clear bx10
    have q0_1 := q0.keep h1; clear q0
    have k_1 := k0.trans h1; clear k0
    have bx00_1x0 : W1.cell? ⟨w.heap.size, 0, none⟩ = some (.int .i64 px) := cell_of_blk bx00_1 0 rfl
    have bx00_1x1 : W1.cell? ⟨w.heap.size, 1, none⟩ = some (.int .i64 py) := cell_of_blk bx00_1 1 rfl
    have bx00_1z := bx00_1.lt
    have bx10_1x0 : W1.cell? ⟨w.heap.size + 1, 0, none⟩ = some (.int .i64 sx) := cell_of_blk bx10_1 0 rfl
    have bx10_1x1 : W1.cell? ⟨w.heap.size + 1, 1, none⟩ = some (.int .i64 sy) := cell_of_blk bx10_1 1 rfl
    have bx10_1z := bx10_1.lt
    go_wp2_with fail
    refine (rvalid_is l A n c _ q0_1 hn12 HN.out).mono ?_
    rintro e W2 ⟨rfl, h2⟩
    clear bx00_1x0 bx00_1x1 bx00_1z
    clear bx10_1x0 bx10_1x1 bx10_1z
    have bx00_2 := bx00_1.below h2 bx00_1.lt; clear bx00_1
    have bx10_2 := bx10_1.below h2 bx10_1.lt; clear bx10_1
    have q0_2 := q0_1.keep h2; clear q0_1
    have k_2 := k_1.trans h2; clear k_1
    have bx00_2x0 : W2.cell? ⟨w.heap.size, 0, none⟩ = some (.int .i64 px) := cell_of_blk bx00_2 0 rfl
    have bx00_2x1 : W2.cell? ⟨w.heap.size, 1, none⟩ = some (.int .i64 py) := cell_of_blk bx00_2 1 rfl
    have bx00_2z := bx00_2.lt
    have bx10_2x0 : W2.cell? ⟨w.heap.size + 1, 0, none⟩ = some (.int .i64 sx) := cell_of_blk bx10_2 0 rfl
    have bx10_2x1 : W2.cell? ⟨w.heap.size + 1, 1, none⟩ = some (.int .i64 sy) := cell_of_blk bx10_2 1 rfl
    have bx10_2z := bx10_2.lt
    cases hv : validF l
    · go_wp2
      go_ret
      exact ⟨rfl, k_2⟩
    · go_wp2_with fail
      have bq0 := Blk.new W2 24 #[Value.int .i64 px, .int .i64 py]
      have hq0 := (Keeps.refl W2).alloc (.cells #[Value.int .i64 px, .int .i64 py] 24)
      clear bx00_2x0 bx00_2x1 bx00_2z bx10_2x0 bx10_2x1 bx10_2z
      generalize W2.alloc (.cells #[Value.int .i64 px, .int .i64 py] 24) = W3 at *
      go_loopw [11] (fun i wr => ∃ (k : Nat) (cur : Pt), k ≤ 5 ∧ i = .int .i64 k ∧ itF (nextF l day) (px, py) k = some cur ∧ Blk wr W2.heap.size 24 #[.int .i64 cur.1, .int .i64 cur.2] ∧ Keeps W2 wr) (fun i _ => 5 - (intOf i).toNat)
      case atStart => exact ⟨0, (px, py), by omega, rfl, rfl, bq0, hq0⟩
      case round =>
        obtain ⟨k, cur, hk, rfl, hit, bqa, hB⟩ := hrel
        by_cases hk5 : k = 5
        · subst hk5
          obtain ⟨er, her, hfo⟩ : ∃ er : Int, (er = 70 ∨ er = 2) ∧ followF l day (px, py) = ([], er) := ⟨_, (follow_five hv hit).1, Prod.ext (follow_five hv hit).2 rfl⟩
          have hfi : finalF l day (px, py) (sx, sy) = ((sx, sy), true) := by
            have : er ≠ 0 := by omega
            simp [finalF, hfo, this]
          have HFO := Lib.hid hfo
          have HFI := Lib.hid hfi
          clear hfo hfi hit
          have bpa := bx00_2.below hB bx00_2.lt
          have bsa := bx10_2.below hB bx10_2.lt
          have qa := q0_2.keep hB
          have ka := k_2.trans hB
          have bpax0 : wr.cell? ⟨w.heap.size, 0, none⟩ = some (.int .i64 px) := cell_of_blk bpa 0 rfl
          have bpax1 : wr.cell? ⟨w.heap.size, 1, none⟩ = some (.int .i64 py) := cell_of_blk bpa 1 rfl
          have bpaz := bpa.lt
          go_wp2_with fail
          with_reducible refine (follow_is l A n c _ _ _ _ qa hn12 HN.out _ HFO.out).mono ?_
          rintro e W5 ⟨A5, c5, rfl, hc5, pa5, h5⟩
          clear bpax0 bpax1 bpaz pa5
          have bpb := bpa.below h5 bpa.lt; clear bpa
          have bsb := bsa.below h5 bsa.lt; clear bsa
          have qb := qa.keep h5; clear qa
          have kb := ka.trans h5; clear ka
          have bqb := bqa.below h5 bqa.lt; clear bqa
          have bpbx0 : W5.cell? ⟨w.heap.size, 0, none⟩ = some (.int .i64 px) := cell_of_blk bpb 0 rfl
          have bpbx1 : W5.cell? ⟨w.heap.size, 1, none⟩ = some (.int .i64 py) := cell_of_blk bpb 1 rfl
          have bpbz := bpb.lt
          have bsbx0 : W5.cell? ⟨w.heap.size + 1, 0, none⟩ = some (.int .i64 sx) := cell_of_blk bsb 0 rfl
          have bsbx1 : W5.cell? ⟨w.heap.size + 1, 1, none⟩ = some (.int .i64 sy) := cell_of_blk bsb 1 rfl
          have bsbz := bsb.lt
          go_wp2_with fail
          with_reducible refine (final_is l A n c _ _ _ _ _ _ qb hn12 HN.out _ HFI.out).mono ?_
          rintro e W6 ⟨rfl, h6⟩
          clear bpbx0 bpbx1 bpbz bsbx0 bsbx1 bsbz bpb qb
          have bsc := bsb.below h6 bsb.lt; clear bsb
          have kc := kb.trans h6; clear kb
          have bqc := bqb.below h6 bqb.lt; clear bqb
          have bscx0 : W6.cell? ⟨w.heap.size + 1, 0, none⟩ = some (.int .i64 sx) := cell_of_blk bsc 0 rfl
          have bscx1 : W6.cell? ⟨w.heap.size + 1, 1, none⟩ = some (.int .i64 sy) := cell_of_blk bsc 1 rfl
          have bscz := bsc.lt
          have bqcx0 : W6.cell? ⟨W2.heap.size, 0, none⟩ = some (.int .i64 cur.1) := cell_of_blk bqc 0 rfl
          have bqcx1 : W6.cell? ⟨W2.heap.size, 1, none⟩ = some (.int .i64 cur.2) := cell_of_blk bqc 1 rfl
          have bqcz := bqc.lt
          have eqP := run_eq_pt
          rcases her with rfl | rfl
          · go_wp2
            go_ret
            exact ⟨rfl, kc.alloc _⟩
          · go_wp2
            go_ret
            exact ⟨rfl, kc.alloc _⟩
        · have hk4 : k < 5 := by omega
          have hki : (k : Int) < 5 := by omega
          have x0 := cell_of_blk bqa 0 (v := .int .i64 cur.1) rfl
          have x1 := cell_of_blk bqa 1 (v := .int .i64 cur.2) rfl
          have xz := bqa.lt
          obtain ⟨nr, hnr⟩ : ∃ nr, nextF l day cur = nr := ⟨_, rfl⟩
          have hit1 : itF (nextF l day) (px, py) (k + 1) = nr := by simp [itF, hit, hnr]
          go_wp2_with fail
          with_reducible refine (rnext_is l A n c day cur.1 cur.2 _ (q0_2.keep hB) hn12 HN.out nr hnr).mono ?_
          rintro e W4 ⟨rfl, h4⟩
          clear x0 x1 xz
          have bqd := bqa.below h4 bqa.lt; clear bqa
          have hB4 := hB.trans h4
          cases nr with
          | none =>
            obtain ⟨ch, hfo, hcl, hcz⟩ := follow_ends hv hit hit1 hk4
            have hfi : finalF l day (px, py) (sx, sy) = (cur, false) := by
              rw [final_drop (q := (px, py)) (k := 0) (z := cur) hfo (follow_chain hfo).first (by rw [hcl]; exact hcz)]
            have HFO := Lib.hid hfo
            have HFI := Lib.hid hfi
            clear hfo hfi hit hit1 hcz
            have p0 := cell_of_blk (bx00_2.below hB4 bx00_2.lt) 0 (v := .int .i64 px) rfl
            have p1 := cell_of_blk (bx00_2.below hB4 bx00_2.lt) 1 (v := .int .i64 py) rfl
            have p2 := (bx00_2.below hB4 bx00_2.lt).lt
            go_wp2_with fail
            clear p0 p1 p2
            have bqa := bqd.alloc (.cells #[Value.int .i64 cur.1, .int .i64 cur.2] 24)
            have hB5 := hB4.alloc (.cells #[Value.int .i64 cur.1, .int .i64 cur.2] 24)
            clear bqd hB4 hB h4
            generalize W4.alloc (.cells #[Value.int .i64 cur.1, .int .i64 cur.2] 24) = W7 at *
            have bpa := bx00_2.below hB5 bx00_2.lt
            have bsa := bx10_2.below hB5 bx10_2.lt
            have qa := q0_2.keep hB5
            have ka := k_2.trans hB5
            have bpax0 : W7.cell? ⟨w.heap.size, 0, none⟩ = some (.int .i64 px) := cell_of_blk bpa 0 rfl
            have bpax1 : W7.cell? ⟨w.heap.size, 1, none⟩ = some (.int .i64 py) := cell_of_blk bpa 1 rfl
            have bpaz := bpa.lt
            
            with_reducible refine (follow_is l A n c _ _ _ _ qa hn12 HN.out _ HFO.out).mono ?_
            rintro e W5 ⟨A5, c5, rfl, hc5, pa5, h5⟩
            clear bpax0 bpax1 bpaz pa5
            have bpb := bpa.below h5 bpa.lt; clear bpa
            have bsb := bsa.below h5 bsa.lt; clear bsa
            have qb := qa.keep h5; clear qa
            have kb := ka.trans h5; clear ka
            have bqb := bqa.below h5 bqa.lt; clear bqa
            have bpbx0 : W5.cell? ⟨w.heap.size, 0, none⟩ = some (.int .i64 px) := cell_of_blk bpb 0 rfl
            have bpbx1 : W5.cell? ⟨w.heap.size, 1, none⟩ = some (.int .i64 py) := cell_of_blk bpb 1 rfl
            have bpbz := bpb.lt
            have bsbx0 : W5.cell? ⟨w.heap.size + 1, 0, none⟩ = some (.int .i64 sx) := cell_of_blk bsb 0 rfl
            have bsbx1 : W5.cell? ⟨w.heap.size + 1, 1, none⟩ = some (.int .i64 sy) := cell_of_blk bsb 1 rfl
            have bsbz := bsb.lt
            go_wp2_with fail
            with_reducible refine (final_is l A n c _ _ _ _ _ _ qb hn12 HN.out _ HFI.out).mono ?_
            rintro e W6 ⟨rfl, h6⟩
            clear bpbx0 bpbx1 bpbz bsbx0 bsbx1 bsbz bpb qb
            have bsc := bsb.below h6 bsb.lt; clear bsb
            have kc := kb.trans h6; clear kb
            have bqc := bqb.below h6 bqb.lt; clear bqb
            have bscx0 : W6.cell? ⟨w.heap.size + 1, 0, none⟩ = some (.int .i64 sx) := cell_of_blk bsc 0 rfl
            have bscx1 : W6.cell? ⟨w.heap.size + 1, 1, none⟩ = some (.int .i64 sy) := cell_of_blk bsc 1 rfl
            have bscz := bsc.lt
            have bqcx0 : W6.cell? ⟨W2.heap.size, 0, none⟩ = some (.int .i64 cur.1) := cell_of_blk bqc 0 rfl
            have bqcx1 : W6.cell? ⟨W2.heap.size, 1, none⟩ = some (.int .i64 cur.2) := cell_of_blk bqc 1 rfl
            have bqcz := bqc.lt
            have eqP := run_eq_pt
            have hw1 : IntKind.i64.wrap ((k : Int) + 1) = (k : Int) + 1 := IntWalk.i64_in _ (by omega)
            have hk5' : ¬ ((k : Int) = 5) := by omega
            have hk5b : ((k : Int) == 5) = false := by simp; omega
            go_wp2
            go_ret
            exact ⟨rfl, kc.alloc _⟩
          | some q2 =>
            have p0 := cell_of_blk bqd 0 (v := .int .i64 cur.1) rfl
            have p1 := cell_of_blk bqd 1 (v := .int .i64 cur.2) rfl
            have p2 := bqd.lt
            have p3 := bqd.frozen 0
            have p4 := bqd.frozen 1
            have hw1 : IntKind.i64.wrap ((k : Int) + 1) = (k : Int) + 1 := IntWalk.i64_in _ (by omega)
            go_wp2_with fail
            go_roundw
            case rel => exact ⟨k + 1, q2, by omega, by go_num, hit1, ((bqd.set_ 0 _).set_ 1 _).alloc _, ((hB4.setCell (Nat.le_refl _) _).setCell (Nat.le_refl _) _).alloc _⟩
            case measure => simp [intOf]; omega
end Go.Proofs.Ytajobinkabdmkaa
