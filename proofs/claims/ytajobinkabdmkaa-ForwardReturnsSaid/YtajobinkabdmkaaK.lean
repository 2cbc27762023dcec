/- The walk of ForwardChains, and what a chain is. Conditions: none. -/
import Derived.Test.YtajobinkabdmkaaJ
import Derived.Test.YtajobinkabdmkaaI
import Derived.Maps.OwnIn
import Derived.RangeFuncNested
import Derived.RangeFuncCalls
import Derived.RangeFuncLeaves
import Derived.Shelf.Abstract
import Derived.OwnWalkIn
import Derived.TacticsInMore
import Derived.LoopNIn
import Derived.LoopIn
import Derived.Test.YtajobinkabdmkaaA
import Derived.Test.YtajobinkabdmkaaG
import Derived.Test.YtajobinkabdmkaaM
import Derived.Test.YtajobinkabdmkaaRows
import Derived.WalkKit
import Derived.WalkSpells
import Derived.WalkLawsBesides
import Derived.Laws.EntriesVeiled
import Derived.ProofKit
import Derived.OpenShut
import Derived.Lib.Hide
import Derived.BigQuiet
import Derived.Deep.QuietTactic
import Derived.Below
import Derived.Laws.OwnMore
import Derived.Deep.AppendLies
import Derived.Deep.Draws
import Derived.Laws.Rows
import Derived.Maps.AppendAt
import Derived.RegionTactic
import Derived.OwnWalk
import Derived.Deep.RegionHeld3
namespace Go.Proofs.Ytajobinkabdmkaa
open Go.Shelf Go.ChangeShapes Go.WideShapes Go.ChangeAt Go.RowKit
set_option linter.unusedSimpArgs false
set_option linter.unusedVariables false
/-- A chain as the document has it. -/
structure IsChain (nx : Pt → Option Pt) (p : Pt) (c : List Pt) : Prop where
  first : c[0]? = some p
  len : c.length ≤ 5
  next : ∀ i q, c[i]? = some q → nx q = c[i + 1]?
  nodup : c.Nodup
theorem walk_is {nx : Pt → Option Pt} {p0 : Pt} : ∀ (f : Nat) (ch : List Pt) (p : Pt) (c : List Pt), ch[0]? = some p0 → ch.length ≤ 5 → (∀ i q, i + 1 < ch.length → ch[i]? = some q → nx q = ch[i + 1]?) → ch.Nodup → ch[ch.length - 1]? = some p →
    walkF nx f ch p = (c, 0) → IsChain nx p0 c
  | 0, ch, p, c, _, _, _, _, _, h => by simp [walkF] at h
  | f + 1, ch, p, c, h0, h5, hn, hd, hl, h => by
    have hpos : 0 < ch.length := (List.getElem?_eq_some_iff.1 h0).1
    cases hnx : nx p with
    | none =>
      rw [walk_end hnx] at h
      obtain rfl : ch = c := by injection h
      refine ⟨h0, h5, fun i q hq => ?_, hd⟩
      have hi : i < ch.length := (List.getElem?_eq_some_iff.1 hq).1
      by_cases hi1 : i + 1 < ch.length
      · exact hn i q hi1 hq
      · obtain rfl : i = ch.length - 1 := by omega
        rw [hl] at hq
        obtain rfl : p = q := by injection hq
        rw [hnx, List.getElem?_eq_none (by omega)]
    | some q =>
      cases hc : ch.contains q with
      | true => rw [walk_loop hnx hc] at h; simp at h
      | false =>
        by_cases hl5 : ch.length = 5
        · rw [walk_limit hnx hc hl5] at h; simp at h
        · rw [walk_go hnx hc hl5] at h
          have hq : q ∉ ch := by simpa using hc
          refine walk_is f (ch ++ [q]) q c (by rw [List.getElem?_append_left hpos]; exact h0) (by simp; omega) (fun i x hi hx => ?_) ?_ (by simp) h
          · simp at hi
            by_cases hi1 : i + 1 < ch.length
            · rw [List.getElem?_append_left (by omega)] at hx
              rw [List.getElem?_append_left hi1]
              exact hn i x hi1 hx
            · obtain rfl : i = ch.length - 1 := by omega
              rw [List.getElem?_append_left (by omega), hl] at hx
              obtain rfl : p = x := by injection hx
              rw [hnx, show ch.length - 1 + 1 = ch.length by omega]
              simp
          · rw [List.nodup_append]
            exact ⟨hd, by simp, fun a ha b hb e => by simp at hb; subst hb; subst e; exact hq ha⟩
theorem follow_chain {l : List Ordr} {d : Int} {p : Pt} {c : List Pt} (h : followF l d p = (c, 0)) : IsChain (nextF l d) p c := by
  unfold followF at h
  split at h
  · exact walk_is 5 [p] p c (by simp) (by simp) (fun i q hi => by simp at hi) (by simp) (by simp) h
  · simp at h
theorem walk_bad {nx : Pt → Option Pt} : ∀ (f : Nat) (ch : List Pt) (p : Pt), (walkF nx f ch p).2 ≠ 0 → (walkF nx f ch p).1 = []
  | 0, ch, p, _ => rfl
  | f + 1, ch, p, h => by
    cases hnx : nx p with
    | none => rw [walk_end hnx] at h; simp at h
    | some q =>
      cases hc : ch.contains q with
      | true => rw [walk_loop hnx hc]
      | false =>
        by_cases hl5 : ch.length = 5
        · rw [walk_limit hnx hc hl5]
        · rw [walk_go hnx hc hl5] at h ⊢
          exact walk_bad f _ q h
theorem follow_bad {l : List Ordr} {d : Int} {p : Pt} (h : (followF l d p).2 ≠ 0) : (followF l d p).1 = [] := by
  unfold followF at *
  split
  · rename_i hv; rw [if_pos hv] at h; exact walk_bad 5 _ _ h
  · rfl
theorem rnext_is (l : List Ordr) (A : Option Addr) (n c : Nat) (day px py : Int) (w : World) (hl : Ords w w.heap.size A l) (hn : l.length ≤ 1000000000000) (hln : n = l.length) (r : Option Pt) (hr : nextF l day (px, py) = r) :
    Calls Try.prog 17 #[.slice A n c, .int .i64 day, .agg #[.int .i64 px, .int .i64 py]] w fun e w' => e = .returned (.tuple #[.agg #[.int .i64 (r.getD (px, py)).1, .int .i64 (r.getD (px, py)).2], .bool r.isSome]) ∧ Keeps w w' := by
  subst hln; exact next_is l A c day px py w hl hn r hr
theorem cell_keep {w w' : World} {p : Addr} {v : Value} (h : w.cell? p = some v) (hk : Keeps w w') : w'.cell? p = some v := (Below.cell hk (World.block_lt_of_cell? w _ h)).trans h
theorem nodup_at {l : List Pt} (h : l.Nodup) {i j : Nat} {p q : Pt} (hi : l[i]? = some p) (hj : l[j]? = some q) (e : p = q) : i = j := by
  subst e
  obtain ⟨h1, e1⟩ := List.getElem?_eq_some_iff.1 hi
  obtain ⟨h2, e2⟩ := List.getElem?_eq_some_iff.1 hj
  exact (List.getElem_inj h).1 (e1.trans e2.symm)

set_option maxRecDepth 100000 in
set_option maxHeartbeats 2000000 in
theorem law_chains (l : List Ordr) (A : Option Addr) (c : Nat) (day px py : Int) (w : World) (hl : Ords w w.heap.size A l) (_hm : l.length ≤ maxLen) :
    Calls Try.prog 4 #[.slice A l.length c, .int .i64 day, .agg #[.int .i64 px, .int .i64 py]] w (BoolPost true w) := by
  obtain ⟨n, hn⟩ : ∃ n, n = l.length := ⟨_, rfl⟩
  rw [← hn]
  have HN := Lib.hid hn; clear hn
  have bx00 : Blk (w.alloc (.cells #[Value.int .i64 px, .int .i64 py] 24)) (w.heap.size) 24 #[Value.int .i64 px, .int .i64 py] := (Blk.new w _ _)
  have k0 : Keeps w (w.alloc (.cells #[Value.int .i64 px, .int .i64 py] 24)) := (Keeps.refl w).alloc _
  have q0 := hl.keep k0
  by_cases h50 : 40 < n
  · go_enter Try.func4, Try.ntmps4
    go_wp2_with fail
    refine (head_any _).mono ?_
    rintro e W1 ⟨rfl, h1⟩
    go_wp2
    go_ret
    exact ⟨rfl, k0.trans h1⟩
  · have hn12 : l.length ≤ 1000000000000 := by have := HN.out; omega
    have hn50 : n ≤ 40 := by omega
    go_enter Try.func4, Try.ntmps4
    go_wp2_with fail
    generalize (w.alloc (.cells #[Value.int .i64 px, .int .i64 py] 24)) = W0 at *
    refine (head_any _).mono ?_
    rintro e W1 ⟨rfl, h1⟩
    have bx00_1 := bx00.below h1 bx00.lt; clear bx00
    have q0_1 := q0.keep h1; clear q0
    have k_1 := k0.trans h1; clear k0
    have bx00_1x0 : W1.cell? ⟨w.heap.size, 0, none⟩ = some (.int .i64 px) := cell_of_blk bx00_1 0 rfl
    have bx00_1x1 : W1.cell? ⟨w.heap.size, 1, none⟩ = some (.int .i64 py) := cell_of_blk bx00_1 1 rfl
    have bx00_1z := bx00_1.lt
    go_wp2_with fail
    refine (follow_is l A n c _ _ _ _ q0_1 hn12 HN.out _ rfl).mono ?_
    rintro e W2 ⟨A2, c2, rfl, hc2, pa0, h2⟩
    clear bx00_1x0 bx00_1x1 bx00_1z
    have bx00_2 := bx00_1.below h2 bx00_1.lt; clear bx00_1
    have q0_2 := q0_1.keep h2; clear q0_1
    have k_2 := k_1.trans h2; clear k_1
    have bx00_2x0 : W2.cell? ⟨w.heap.size, 0, none⟩ = some (.int .i64 px) := cell_of_blk bx00_2 0 rfl
    have bx00_2x1 : W2.cell? ⟨w.heap.size, 1, none⟩ = some (.int .i64 py) := cell_of_blk bx00_2 1 rfl
    have bx00_2z := bx00_2.lt
    cases he : ((followF l day (px, py)).2 != 0)
    · have he0 : (followF l day (px, py)).2 = 0 := by simpa using he
      have hch := follow_chain (show followF l day (px, py) = ((followF l day (px, py)).1, 0) from Prod.ext rfl he0)
      generalize followF l day (px, py) = r at *
      obtain ⟨ch, er⟩ := r
      simp only at he0 hch he hc2 pa0 ⊢
      subst he0
      obtain ⟨m, hm⟩ : ∃ m, m = ch.length := ⟨_, rfl⟩
      rw [← hm] at hc2 ⊢
      have hm1 : 1 ≤ m := by have := (List.getElem?_eq_some_iff.1 hch.first).1; omega
      have hm5 : m ≤ 5 := by have := hch.len; omega
      have HM := Lib.hid hm; clear hm
      have HCH := Lib.hid hch
      obtain ⟨b, off, rfl, hb, u0, u1⟩ := pa0 0 (px, py) hch.first
      clear hch
      rw [Nat.zero_mul, Nat.add_zero] at u0 u1
      have eqP := run_eq_pt
      have hd1 : decide ((m : Int) < 1) = false := by simp; omega
      have hd2 : decide ((5 : Int) < (m : Int)) = false := by simp; omega
      have hd3 : (0 : Int) < (m : Int) := by omega
      have hbz : b < W2.heap.size := hb
      go_wp2_with fail
      go_quiet (fail)
      go_wp2_with fail
      have pA := pa0.keep ((Keeps.refl W2).drewN nq)
      have qA := q0_2.keep ((Keeps.refl W2).drewN nq)
      have kA := k_2.drewN nq
      clear pa0 q0_2 k_2 u0 u1
      have AQ := Lib.hid qA; clear qA
      generalize W2.drewN nq = W3 at *
      go_loopw [10] (fun i wr => ∃ k : Nat, k ≤ m ∧ i = .int .i64 k ∧ Keeps W3 wr) (fun i _ => m - (intOf i).toNat)
      case atStart => exact ⟨0, by omega, rfl, Keeps.refl _⟩
      case round =>
        obtain ⟨k, hk, rfl, hB⟩ := hrel
        have qB := AQ.out.keep hB
        by_cases hkm : k < m
        · have hok : ch[k]? = some (ch[k]'(by rw [← HM.out]; exact hkm)) := List.getElem?_eq_getElem _
          generalize ch[k]'(by rw [← HM.out]; exact hkm) = q at hok
          obtain ⟨b', off', e', hb', x0, x1⟩ := (pA.keep hB) k q hok
          cases e'
          have hnx := HCH.out.next k q hok
          have HOK := Lib.hid hok; clear hok
          have hkm1 : (k : Int) < (m : Int) := by omega
          have hk0 : (0 : Int) ≤ (k : Int) := by omega
          have hbr : b < wr.heap.size := hb'
          obtain ⟨q2, ok, hlt, hq2, hrest⟩ : ∃ (q2 : Pt) (ok : Bool), decide ((k : Int) + 1 < (m : Int)) = ok ∧ (nextF l day q = if ok then some q2 else none) ∧ (ok = true → ch[k + 1]? = some q2) := by
            by_cases h1 : k + 1 < m
            · have h1' : k + 1 < ch.length := by rw [← HM.out]; exact h1
              refine ⟨ch[k + 1], true, by simp; omega, ?_, fun _ => List.getElem?_eq_getElem h1'⟩
              rw [hnx, List.getElem?_eq_getElem h1']; rfl
            · refine ⟨q, false, by simp; omega, ?_, fun h => by cases h⟩
              rw [hnx, List.getElem?_eq_none (by have := HM.out; omega)]; rfl
          clear hnx
          cases ok with
          | true =>
            obtain ⟨b2, off2, e2, hb2, y0, y1⟩ := (pA.keep hB) (k + 1) q2 (hrest rfl)
            cases e2
            clear hrest
            go_wp2_with fail
            with_reducible refine (rnext_is l A n c day q.1 q.2 _ qB hn12 HN.out (some q2) (by simpa using hq2)).mono ?_
            rintro e W4 ⟨rfl, hk4⟩
            have n4 := Blk.new W4 24 #[Value.int .i64 q2.1, .int .i64 q2.2]
            have h4a := (Keeps.refl W4).alloc (.cells #[Value.int .i64 q2.1, .int .i64 q2.2] 24)
            have z0 := cell_keep y0 (hk4.trans h4a)
            have z1 := cell_keep y1 (hk4.trans h4a)
            have hK4 := (hB.trans hk4).trans h4a
            have pB := pA.keep hK4
            have hw1 : IntKind.i64.wrap ((k : Int) + 1) = (k : Int) + 1 := IntWalk.i64_in _ (by omega)
            have hw2 : ((k : Int) + 1).toNat = k + 1 := by omega
            have hw3 : (0 : Int) ≤ (k : Int) + 1 := by omega
            have hw4 : (k : Int) + 1 < (m : Int) := by simpa using hlt
            go_wp2_with fail
            have n4x := cell_of_blk n4 0 (v := .int .i64 q2.1) rfl
            have n4y := cell_of_blk n4 1 (v := .int .i64 q2.2) rfl
            generalize W4.alloc (.cells #[Value.int .i64 q2.1, .int .i64 q2.2] 24) = W5 at *
            go_quiet (fail)
            have hK6 := hK4.drewN nq
            have pC := pB.keep ((Keeps.refl W5).drewN nq)
            clear pB hK4 hB qB hw1 hw2 hw3 hw4 y0 y1 z0 z1 n4x n4y h4a hk4
            generalize W5.drewN nq = W6 at *
            go_wp2_with fail
            go_loopw [13] (fun i wi => ∃ j : Nat, j ≤ k ∧ i = .int .i64 j ∧ Keeps W6 wi) (fun i _ => k - (intOf i).toNat)
            case atStart => exact ⟨0, by omega, rfl, Keeps.refl _⟩
            case round =>
              obtain ⟨j, hj, rfl, hBi⟩ := hrel
              have pD := pC.keep hBi
              obtain ⟨bk, offk, ek, hbk, s0, s1⟩ := pD k q HOK.out
              cases ek
              by_cases hjk : j < k
              · have hjl : ch[j]? = some (ch[j]'(by have := HM.out; omega)) := List.getElem?_eq_getElem _
                generalize ch[j]'(by have := HM.out; omega) = q' at hjl
                obtain ⟨bj, offj, ej, hbj, r0, r1⟩ := pD j q' hjl
                cases ej
                have hne : (q'.1 == q.1 && q'.2 == q.2) = false := by
                  cases hb' : (q'.1 == q.1 && q'.2 == q.2)
                  · rfl
                  · exact absurd (nodup_at HCH.out.nodup hjl HOK.out (by simp at hb'; exact Prod.ext hb'.1 hb'.2)) (by omega)
                clear pD hjl
                have hj1 : (j : Int) < (m : Int) := by omega
                have hj2 : (j : Int) < (k : Int) := by omega
                have hj0 : (0 : Int) ≤ (j : Int) := by omega
                go_wp2_with fail
                go_quiet (fail)
                go_wp2_with fail
                go_roundw
                case rel => exact ⟨j + 1, by omega, by go_num, hBi.drewN _⟩
                case measure => simp [intOf]; omega
              · obtain rfl : j = k := by omega
                clear pD
                go_wp2_with fail
                go_roundw
                case rel => exact ⟨j + 1, by omega, by go_num, hK6.trans hBi⟩
                case measure => simp [intOf]; omega
          | false =>
            go_wp2_with fail
            with_reducible refine (rnext_is l A n c day q.1 q.2 _ qB hn12 HN.out none (by simpa using hq2)).mono ?_
            rintro e W4 ⟨rfl, hk4⟩
            have h4a := (Keeps.refl W4).alloc (.cells #[Value.int .i64 q.1, .int .i64 q.2] 24)
            have hK4 := (hB.trans hk4).trans h4a
            have pB := pA.keep hK4
            have hw1 : IntKind.i64.wrap ((k : Int) + 1) = (k : Int) + 1 := IntWalk.i64_in _ (by omega)
            go_wp2_with fail
            generalize W4.alloc (.cells #[Value.int .i64 q.1, .int .i64 q.2] 24) = W5 at *
            go_quiet (fail)
            have hK6 := hK4.drewN nq
            have pC := pB.keep ((Keeps.refl W5).drewN nq)
            clear pB hK4 hB qB hw1 h4a hk4
            generalize W5.drewN nq = W6 at *
            go_wp2_with fail
            go_loopw [13] (fun i wi => ∃ j : Nat, j ≤ k ∧ i = .int .i64 j ∧ Keeps W6 wi) (fun i _ => k - (intOf i).toNat)
            case atStart => exact ⟨0, by omega, rfl, Keeps.refl _⟩
            case round =>
              obtain ⟨j, hj, rfl, hBi⟩ := hrel
              have pD := pC.keep hBi
              obtain ⟨bk, offk, ek, hbk, s0, s1⟩ := pD k q HOK.out
              cases ek
              by_cases hjk : j < k
              · have hjl : ch[j]? = some (ch[j]'(by have := HM.out; omega)) := List.getElem?_eq_getElem _
                generalize ch[j]'(by have := HM.out; omega) = q' at hjl
                obtain ⟨bj, offj, ej, hbj, r0, r1⟩ := pD j q' hjl
                cases ej
                have hne : (q'.1 == q.1 && q'.2 == q.2) = false := by
                  cases hb' : (q'.1 == q.1 && q'.2 == q.2)
                  · rfl
                  · exact absurd (nodup_at HCH.out.nodup hjl HOK.out (by simp at hb'; exact Prod.ext hb'.1 hb'.2)) (by omega)
                clear pD hjl
                have hj1 : (j : Int) < (m : Int) := by omega
                have hj2 : (j : Int) < (k : Int) := by omega
                have hj0 : (0 : Int) ≤ (j : Int) := by omega
                go_wp2_with fail
                go_quiet (fail)
                go_wp2_with fail
                go_roundw
                case rel => exact ⟨j + 1, by omega, by go_num, hBi.drewN _⟩
                case measure => simp [intOf]; omega
              · obtain rfl : j = k := by omega
                clear pD
                go_wp2_with fail
                go_roundw
                case rel => exact ⟨j + 1, by omega, by go_num, hK6.trans hBi⟩
                case measure => simp [intOf]; omega
        · go_wp2
          go_ret
          exact ⟨rfl, kA.trans hB⟩
    · have he0 : (followF l day (px, py)).2 ≠ 0 := by simpa using he
      have hnil := follow_bad he0
      generalize followF l day (px, py) = r at *
      obtain ⟨ch, er⟩ := r
      simp only at he0 hnil he hc2 pa0 ⊢
      subst hnil
      clear he0
      go_wp2
      go_ret
      exact ⟨rfl, k_2⟩
end Go.Proofs.Ytajobinkabdmkaa
