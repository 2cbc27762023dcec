/- The walk of ForwardDays. Conditions: none. -/
import Derived.Test.YtajobinkabdmkaaL
import Derived.Test.YtajobinkabdmkaaK
import Derived.Test.YtajobinkabdmkaaJ
import Derived.Test.YtajobinkabdmkaaI
import Derived.Maps.OwnIn
import Derived.RangeFuncNested
import Derived.RangeFuncCalls
import Derived.RangeFuncLeaves
import Derived.Shelf.Abstract
import Derived.OwnWalkIn
import Derived.TacticsInMore
import Derived.LoopNIn
import Derived.LoopIn
import Derived.Test.YtajobinkabdmkaaA
import Derived.Test.YtajobinkabdmkaaG
import Derived.Test.YtajobinkabdmkaaM
import Derived.Test.YtajobinkabdmkaaRows
import Derived.WalkKit
import Derived.WalkSpells
import Derived.WalkLawsBesides
import Derived.Laws.EntriesVeiled
import Derived.ProofKit
import Derived.OpenShut
import Derived.Lib.Hide
import Derived.BigQuiet
import Derived.Deep.QuietTactic
import Derived.Below
import Derived.Laws.OwnMore
import Derived.Deep.AppendLies
import Derived.Deep.Draws
import Derived.Laws.Rows
import Derived.Maps.AppendAt
import Derived.RegionTactic
import Derived.OwnWalk
import Derived.Deep.RegionHeld3
namespace Go.Proofs.Ytajobinkabdmkaa
open Go.Shelf Go.ChangeShapes Go.WideShapes Go.ChangeAt Go.RowKit
set_option linter.unusedSimpArgs false
set_option linter.unusedVariables false
def keepB (d : Int) (acc : List Ordr) (o : Ordr) : Bool := (decide (o.a ≤ d) && decide (d ≤ o.z)) && acc.all fun x => !(x.f.1 == o.f.1 && x.f.2 == o.f.2)
def stepF (d : Int) (acc : List Ordr) (o : Ordr) : List Ordr := if keepB d acc o then acc ++ [o] else acc
def lessF (d : Int) (l : List Ordr) : List Ordr := l.foldl (stepF d) []
theorem less_take {d : Int} {l : List Ordr} {k : Nat} {o : Ordr} (h : l[k]? = some o) : lessF d (l.take (k + 1)) = stepF d (lessF d (l.take k)) o := by
  rw [List.take_add_one, h]; simp [lessF, List.foldl_append]
theorem less_mem {d : Int} : ∀ (l acc : List Ordr), (∀ x ∈ l.foldl (stepF d) acc, x ∈ acc ∨ x ∈ l) ∧ (l.foldl (stepF d) acc).length ≤ acc.length + l.length
  | [], acc => by simp
  | o :: l, acc => by
    obtain ⟨h1, h2⟩ := less_mem (d := d) l (stepF d acc o)
    simp only [List.foldl_cons]
    have hs : (∀ x ∈ stepF d acc o, x ∈ acc ∨ x = o) ∧ (stepF d acc o).length ≤ acc.length + 1 := by
      unfold stepF; split
      · simp
      · exact ⟨fun x hx => .inl hx, by omega⟩
    refine ⟨fun x hx => ?_, by simp; omega⟩
    rcases h1 x hx with h | h
    · rcases hs.1 x h with h | h
      · exact .inl h
      · exact .inr (by simp [h])
    · exact .inr (by simp [h])
theorem less_len {d : Int} {l : List Ordr} : (lessF d l).length ≤ l.length := by
  have := (less_mem (d := d) l []).2; simpa [lessF] using this
theorem less_hit {d : Int} {p : Pt} : ∀ (l acc : List Ordr), (∀ x ∈ acc, x.a ≤ d ∧ d ≤ x.z) → (l.foldl (stepF d) acc).find? (hitB d p) = (acc ++ l).find? (hitB d p)
  | [], acc, _ => by simp
  | o :: l, acc, h => by
    simp only [List.foldl_cons]
    rw [less_hit l _ ?_]
    · unfold stepF
      by_cases hk : keepB d acc o = true
      · rw [if_pos hk]; simp
      · rw [if_neg hk]
        rw [List.find?_append, List.find?_append]
        cases ha : acc.find? (hitB d p) with
        | some x => rfl
        | none =>
          have ho : hitB d p o = false := by
            cases hh : hitB d p o
            · rfl
            · exfalso
              apply hk
              simp only [hitB, Bool.and_eq_true, beq_iff_eq, decide_eq_true_eq] at hh
              simp only [keepB, Bool.and_eq_true, decide_eq_true_eq, List.all_eq_true]
              refine ⟨⟨hh.1.2, hh.2⟩, fun x hx => ?_⟩
              rw [List.find?_eq_none] at ha
              have hx' := ha x hx
              have hc := h x hx
              cases hb : (x.f.1 == o.f.1 && x.f.2 == o.f.2)
              · rfl
              · exfalso; apply hx'
                simp at hb
                simp only [hitB, Bool.and_eq_true, beq_iff_eq, decide_eq_true_eq]
                exact ⟨⟨(Prod.ext hb.1 hb.2).trans hh.1.1, hc.1⟩, hc.2⟩
          simp [ho]
    · intro x hx
      unfold stepF at hx
      split at hx
      · rename_i hk
        simp only [keepB, Bool.and_eq_true, decide_eq_true_eq] at hk
        rcases List.mem_append.1 hx with h' | h'
        · exact h x h'
        · simp at h'; subst h'; exact hk.1
      · exact h x hx
theorem less_next {d : Int} {l : List Ordr} : nextF (lessF d l) d = nextF l d := by
  funext p
  unfold nextF lessF
  rw [less_hit l [] (by simp)]; rfl
theorem less_valid {d : Int} {l : List Ordr} (h : validF l = true) : validF (lessF d l) = true := by
  simp only [validF, Bool.and_eq_true, decide_eq_true_eq, List.all_eq_true] at h ⊢
  refine ⟨Nat.le_trans less_len h.1, fun x hx => h.2 x ?_⟩
  rcases (less_mem l []).1 x hx with h' | h'
  · simp at h'
  · exact h'
theorem less_follow {d : Int} {l : List Ordr} {p : Pt} (h : validF l = true) : followF (lessF d l) d p = followF l d p := by
  simp [followF, h, less_valid h, less_next]
theorem less_final {d : Int} {l : List Ordr} {p s : Pt} (h : validF l = true) : finalF (lessF d l) d p s = finalF l d p s := by
  simp [finalF, less_follow h]
theorem info39a : (Try.prog.info? 39).map (fun i => (i.size, i.bytes, (i.zero.map (fun z => z.cells.size)))) = some (6, 48, some 6) := by kernel_rfl
theorem info39 : ∃ i z, Try.prog.info? 39 = some i ∧ i.zero = some z ∧ i.size = 6 ∧ i.bytes = 48 ∧ z.cells.size = 6 := by
  have h := info39a
  cases hi : Try.prog.info? 39 with
  | none => rw [hi] at h; cases h
  | some i =>
    rw [hi] at h
    simp only [Option.map_some, Option.some.injEq, Prod.mk.injEq] at h
    obtain ⟨h1, h2, h3⟩ := h
    cases hz : i.zero with
    | none => rw [hz] at h3; simp at h3
    | some z => rw [hz] at h3; simp at h3; exact ⟨i, z, rfl, hz, h1, h2, h3⟩
theorem Ords.of_own {w : World} {base : Nat} {A : Option Addr} {n c : Nat} {l : List Ordr} (h : w.ownsRow base 39 6 (.slice A n c) n (ordCells l)) (hn : n = l.length) : Ords w w.heap.size A l := fun k o hk => by
  have hkl : k < l.length := (List.getElem?_eq_some_iff.1 hk).1
  obtain ⟨g, cap, hv, _, hlt⟩ := h.form (by omega)
  have hA : A = some ⟨g, 0, none⟩ := by injection hv
  subst hA
  have hc := h.cells (g := g) rfl
  obtain ⟨h0, h1, h2, h3, h4, h5⟩ := ordCells_at l k o hk
  have fix : ∀ j, (⟨g, 0, none⟩ : Addr).add j = ⟨g, 0 + j, none⟩ := fun j => by unfold Addr.add; split <;> simp_all
  have c0 := hc _ _ h0; have c1 := hc _ _ h1; have c2 := hc _ _ h2; have c3 := hc _ _ h3; have c4 := hc _ _ h4; have c5 := hc _ _ h5
  rw [fix] at c0 c1 c2 c3 c4 c5
  exact ⟨g, 0, rfl, hlt, c0, c1, c2, c3, c4, c5⟩

set_option maxRecDepth 100000 in
set_option maxHeartbeats 2000000 in
theorem law_days (l : List Ordr) (A : Option Addr) (c : Nat) (day px py sx sy : Int) (w : World) (hl : Ords w w.heap.size A l) (_hm : l.length ≤ maxLen) :
    Calls Try.prog 6 #[.slice A l.length c, .int .i64 day, .agg #[.int .i64 px, .int .i64 py], .agg #[.int .i64 sx, .int .i64 sy]] w (BoolPost true w) := by
  obtain ⟨i0, z0, hi0, hz0, hz1, hz2, hz3⟩ := info39
  obtain ⟨n, hn⟩ : ∃ n, n = l.length := ⟨_, rfl⟩
  rw [← hn]
  have HN := Lib.hid hn; clear hn
  have bx00 : Blk ((w.alloc (.cells #[Value.int .i64 px, .int .i64 py] 24)).alloc (.cells #[Value.int .i64 sx, .int .i64 sy] 24)) (w.heap.size) 24 #[Value.int .i64 px, .int .i64 py] := (Blk.new w _ _).alloc _
  have bx10 : Blk ((w.alloc (.cells #[Value.int .i64 px, .int .i64 py] 24)).alloc (.cells #[Value.int .i64 sx, .int .i64 sy] 24)) (w.heap.size + 1) 24 #[Value.int .i64 sx, .int .i64 sy] := by
    have h := Blk.new (w.alloc (.cells #[Value.int .i64 px, .int .i64 py] 24)) 24 #[Value.int .i64 sx, .int .i64 sy]
    rw [World.size_alloc] at h; exact h
  have k0 : Keeps w ((w.alloc (.cells #[Value.int .i64 px, .int .i64 py] 24)).alloc (.cells #[Value.int .i64 sx, .int .i64 sy] 24)) := ((Keeps.refl w).alloc _).alloc _
  have q0 := hl.keep k0
  by_cases h50 : 40 < n
  · go_enter Try.func6, Try.ntmps6
    go_wp2_with fail
    refine (head_any _).mono ?_
    rintro e W1 ⟨rfl, h1⟩
    go_wp2
    go_ret
    exact ⟨rfl, k0.trans h1⟩
  · have hn12 : l.length ≤ 1000000000000 := by have := HN.out; omega
    have hn50 : n ≤ 40 := by omega
    go_enter Try.func6, Try.ntmps6
    go_wp2_with fail
    generalize ((w.alloc (.cells #[Value.int .i64 px, .int .i64 py] 24)).alloc (.cells #[Value.int .i64 sx, .int .i64 sy] 24)) = W0 at *
    refine (head_any _).mono ?_
    rintro e W1 ⟨rfl, h1⟩
    have bx00_1 := bx00.below h1 bx00.lt; clear bx00
    have bx10_1 := bx10.below h1 bx10.lt; clear bx10
    have q0_1 := q0.keep h1; clear q0
    have k_1 := k0.trans h1; clear k0
    have bx00_1x0 : W1.cell? ⟨w.heap.size, 0, none⟩ = some (.int .i64 px) := cell_of_blk bx00_1 0 rfl
    have bx00_1x1 : W1.cell? ⟨w.heap.size, 1, none⟩ = some (.int .i64 py) := cell_of_blk bx00_1 1 rfl
    have bx00_1z := bx00_1.lt
    have bx10_1x0 : W1.cell? ⟨w.heap.size + 1, 0, none⟩ = some (.int .i64 sx) := cell_of_blk bx10_1 0 rfl
    have bx10_1x1 : W1.cell? ⟨w.heap.size + 1, 1, none⟩ = some (.int .i64 sy) := cell_of_blk bx10_1 1 rfl
    have bx10_1z := bx10_1.lt
    go_wp2_with fail
    refine (rvalid_is l A n c _ q0_1 hn12 HN.out).mono ?_
    rintro e W2 ⟨rfl, h2⟩
    clear bx00_1x0 bx00_1x1 bx00_1z
    clear bx10_1x0 bx10_1x1 bx10_1z
    have bx00_2 := bx00_1.below h2 bx00_1.lt; clear bx00_1
    have bx10_2 := bx10_1.below h2 bx10_1.lt; clear bx10_1
    have q0_2 := q0_1.keep h2; clear q0_1
    have k_2 := k_1.trans h2; clear k_1
    cases hv : validF l
    · go_wp2
      go_ret
      exact ⟨rfl, k_2⟩
    · go_wp2_with fail
      go_loopw [10, 11] (fun v i wr => ∃ (k : Nat) (less : List Ordr), k ≤ n ∧ i = .int .i64 k ∧ lessF day (l.take k) = less ∧ wr.ownsRow W2.heap.size 39 6 v less.length (ordCells less) ∧ Keeps W2 wr) (fun _ i _ => n - (intOf i).toNat)
      case atStart => exact ⟨0, [], by omega, rfl, by simp [lessF], World.ownsRow_lit W2 #[] 0 (Nat.le_refl _) (by unfold maxLen; omega) rfl, (Keeps.refl _).alloc _⟩
      case round =>
        obtain ⟨k, less, hk, rfl, hle, hown, hB⟩ := hrel
        obtain ⟨a, cc, rfl⟩ := own_slice hown
        obtain ⟨m, hm⟩ : ∃ m, m = less.length := ⟨_, rfl⟩
        rw [← hm] at hown ⊢
        have HM := Lib.hid hm; clear hm
        by_cases hkn : k < n
        · have hok : l[k]? = some (l[k]'(by rw [← HN.out]; exact hkn)) := List.getElem?_eq_getElem _
          generalize l[k]'(by rw [← HN.out]; exact hkn) = o at hok
          have HST := Lib.hid (less_take (d := day) hok)
          have HLE := Lib.hid hle
          have hmk : m ≤ k := by
            have h1 := less_len (d := day) (l := l.take k)
            rw [HLE.out, ← HM.out, List.length_take] at h1
            omega
          obtain ⟨b, off, rfl, hb, c0, c1, c2, c3, c4, c5⟩ := (q0_2.keep hB) k o hok
          have HOK := Lib.hid hok
          clear hok hle
          have hki : (k : Int) < (n : Int) := by omega
          have hk0 : (0 : Int) ≤ (k : Int) := by omega
          have hw1 : IntKind.i64.wrap ((k : Int) + 1) = (k : Int) + 1 := IntWalk.i64_in _ (by omega)
          by_cases e2 : o.a ≤ day
          · by_cases e3 : day ≤ o.z
            · have e2' : decide (o.a ≤ day) = true := by simpa using e2
              have e3' : decide (day ≤ o.z) = true := by simpa using e3
              have HC := Lib.hid (show (decide (o.a ≤ day) && decide (day ≤ o.z)) = true by rw [e2', e3']; rfl)
              go_wp2_with fail
              go_loopw [12, 13] (fun kv kk wi => ∃ j : Nat, j ≤ m ∧ kk = .int .i64 j ∧ kv = .bool (true && (less.take j).all fun x => !(x.f.1 == o.f.1 && x.f.2 == o.f.2)) ∧ Keeps wr wi) (fun _ kk _ => m - (intOf kk).toNat)
              case atStart => exact ⟨0, by omega, rfl, rfl, Keeps.refl _⟩
              case round =>
                obtain ⟨j, hj, rfl, rfl, hBi⟩ := hrel
                have hBW := hB.trans hBi
                have y0 := cell_keep c0 hBi; have y1 := cell_keep c1 hBi; have y2 := cell_keep c2 hBi; have y3 := cell_keep c3 hBi; have y4 := cell_keep c4 hBi; have y5 := cell_keep c5 hBi
                have hbi : b < wr.heap.size := Nat.lt_of_lt_of_le hb hBi.size
                clear c0 c1 c2 c3 c4 c5
                by_cases hjm : j < m
                · have hjx : less[j]? = some (less[j]'(by rw [← HM.out]; exact hjm)) := List.getElem?_eq_getElem _
                  generalize less[j]'(by rw [← HM.out]; exact hjm) = x at hjx
                  obtain ⟨b2, off2, rfl, hb2, d0, d1, -, -, -, -⟩ := (Ords.of_own (own_keeps hown hBi) HM.out) j x hjx
                  have hall : (less.take (j + 1)).all (fun x => !(x.f.1 == o.f.1 && x.f.2 == o.f.2)) = ((less.take j).all (fun x => !(x.f.1 == o.f.1 && x.f.2 == o.f.2)) && !(x.f.1 == o.f.1 && x.f.2 == o.f.2)) := by rw [List.take_add_one, hjx]; simp
                  generalize hkv : (true && (less.take j).all fun x => !(x.f.1 == o.f.1 && x.f.2 == o.f.2)) = kvb
                  have HALL := Lib.hid hall
                  have HKV := Lib.hid hkv
                  clear hall hkv hjx
                  have hji : (j : Int) < (m : Int) := by omega
                  have hj0 : (0 : Int) ≤ (j : Int) := by omega
                  have hw2 : IntKind.i64.wrap ((j : Int) + 1) = (j : Int) + 1 := IntWalk.i64_in _ (by omega)
                  cases kvb with
                  | false =>
                    go_wp2_with fail
                    go_quiet (fail)
                    go_wp2_with fail
                    go_roundw
                    case rel => exact ⟨j + 1, by omega, by go_num, by rw [HALL.out, ← Bool.and_assoc, HKV.out]; rfl, hBi.drewN _⟩
                    case measure => simp [intOf]; omega
                  | true =>
                    have eqP := run_eq_pt
                    cases hFx : (x.f.1 == o.f.1 && x.f.2 == o.f.2)
                    · go_wp2_with fail
                      go_quiet (fail)
                      go_wp2_with fail
                      go_roundw
                      case rel => exact ⟨j + 1, by omega, by go_num, by rw [HALL.out, ← Bool.and_assoc, HKV.out, hFx]; rfl, hBi.drewN _⟩
                      case measure => simp [intOf]; omega
                    · go_wp2_with fail
                      go_quiet (fail)
                      go_wp2_with fail
                      go_roundw
                      case rel => exact ⟨j + 1, by omega, by go_num, by rw [HALL.out, ← Bool.and_assoc, HKV.out, hFx]; rfl, hBi.drewN _⟩
                      case measure => simp [intOf]; omega
                · obtain rfl : j = m := by omega
                  have htk : less.take j = less := List.take_of_length_le (by rw [← HM.out]; exact Nat.le_refl _)
                  rw [htk]
                  clear htk
                  generalize hkv : (true && less.all fun x => !(x.f.1 == o.f.1 && x.f.2 == o.f.2)) = kvb
                  have hkb : keepB day less o = kvb := by unfold keepB; rw [HC.out]; exact hkv
                  clear hkv
                  cases kvb with
                  | false =>
                    have HS := Lib.hid (show stepF day less o = less by unfold stepF; rw [if_neg (by rw [hkb]; simp)])
                    clear hkb
                    go_wp2_with fail
                    go_roundw
                    case rel => exact ⟨k + 1, less, by omega, by go_num, by rw [HST.out, HLE.out, HS.out], by rw [← HM.out]; exact own_keeps hown hBi, hBW⟩
                    case measure => simp [intOf]; omega
                  | true =>
                    have HS := Lib.hid (show stepF day less o = less ++ [o] by unfold stepF; rw [if_pos hkb])
                    clear hkb
                    have nn := (own_keeps hown hBi).alloc (.cells #[Value.int .i64 o.f.1, .int .i64 o.f.2, .int .i64 o.t.1, .int .i64 o.t.2, .int .i64 o.a, .int .i64 o.z] 39)
                    have g1 := World.news_of_block (cs := #[.int .i64 o.f.1, .int .i64 o.f.2, .int .i64 o.t.1, .int .i64 o.t.2, .int .i64 o.a, .int .i64 o.z]) (t := 39) (fr := (0, 0)) (heap_alloc_new wr (.cells #[.int .i64 o.f.1, .int .i64 o.f.2, .int .i64 o.t.1, .int .i64 o.t.2, .int .i64 o.a, .int .i64 o.z] 39))
                    have g2 : ∀ u ∈ [Value.int .i64 o.f.1, .int .i64 o.f.2, .int .i64 o.t.1, .int .i64 o.t.2, .int .i64 o.a, .int .i64 o.z], u.oneCell' = true := by simp [Value.oneCell']
                    have g3 : j + 1 ≤ maxLen := by unfold maxLen; omega
                    have g4 : (j + 1) * 48 ≤ 140737488355328 := by omega
                    have hK4 := hBW.alloc (.cells #[Value.int .i64 o.f.1, .int .i64 o.f.2, .int .i64 o.t.1, .int .i64 o.t.2, .int .i64 o.a, .int .i64 o.z] 39)
                    have G1 := Lib.hid g1; have G2 := Lib.hid g2; have G5 := Lib.hid hK4.size
                    clear g1 g2
                    go_wp2_with (at_builtin; refine (wpList_append_own _ rfl (.tmp 76) (.tmp 81) 22 rfl W2.heap.size 39 i0 z0 6 48 Try.underlying22 hi0 hz0 hz1 hz2 hz3 (by decide) _ _ _ rfl nn ⟨wr.heap.size, 0, none⟩ 1 1 [.int .i64 o.f.1, .int .i64 o.f.2, .int .i64 o.t.1, .int .i64 o.t.2, .int .i64 o.a, .int .i64 o.z] rfl rfl G1.out G2.out g3 g4 G5.out ?_); intro v' w5 hown5 hgrow _)
                    have hK5 : Keeps W2 w5 := Below.grown hK4 hgrow hK4.size (fun k hk => (own_lt nn hk).1)
                    go_roundw
                    case rel => exact ⟨k + 1, less ++ [o], by omega, by go_num, by rw [HST.out, HLE.out, HS.out], by rw [ordCells_append, List.length_append, ← HM.out]; exact hown5, hK5⟩
                    case measure => simp [intOf]; omega
            · have e2' : decide (o.a ≤ day) = true := by simpa using e2
              have e3' : decide (day ≤ o.z) = false := by simpa using e3
              have HC := Lib.hid (show (decide (o.a ≤ day) && decide (day ≤ o.z)) = false by rw [e2', e3']; rfl)
              go_wp2_with fail
              go_loopw [12, 13] (fun kv kk wi => ∃ j : Nat, j ≤ m ∧ kk = .int .i64 j ∧ kv = .bool (false && (less.take j).all fun x => !(x.f.1 == o.f.1 && x.f.2 == o.f.2)) ∧ Keeps wr wi) (fun _ kk _ => m - (intOf kk).toNat)
              case atStart => exact ⟨0, by omega, rfl, rfl, Keeps.refl _⟩
              case round =>
                obtain ⟨j, hj, rfl, rfl, hBi⟩ := hrel
                have hBW := hB.trans hBi
                have y0 := cell_keep c0 hBi; have y1 := cell_keep c1 hBi; have y2 := cell_keep c2 hBi; have y3 := cell_keep c3 hBi; have y4 := cell_keep c4 hBi; have y5 := cell_keep c5 hBi
                have hbi : b < wr.heap.size := Nat.lt_of_lt_of_le hb hBi.size
                clear c0 c1 c2 c3 c4 c5
                by_cases hjm : j < m
                · have hjx : less[j]? = some (less[j]'(by rw [← HM.out]; exact hjm)) := List.getElem?_eq_getElem _
                  generalize less[j]'(by rw [← HM.out]; exact hjm) = x at hjx
                  obtain ⟨b2, off2, rfl, hb2, d0, d1, -, -, -, -⟩ := (Ords.of_own (own_keeps hown hBi) HM.out) j x hjx
                  have hall : (less.take (j + 1)).all (fun x => !(x.f.1 == o.f.1 && x.f.2 == o.f.2)) = ((less.take j).all (fun x => !(x.f.1 == o.f.1 && x.f.2 == o.f.2)) && !(x.f.1 == o.f.1 && x.f.2 == o.f.2)) := by rw [List.take_add_one, hjx]; simp
                  generalize hkv : (false && (less.take j).all fun x => !(x.f.1 == o.f.1 && x.f.2 == o.f.2)) = kvb
                  have HALL := Lib.hid hall
                  have HKV := Lib.hid hkv
                  clear hall hkv hjx
                  have hji : (j : Int) < (m : Int) := by omega
                  have hj0 : (0 : Int) ≤ (j : Int) := by omega
                  have hw2 : IntKind.i64.wrap ((j : Int) + 1) = (j : Int) + 1 := IntWalk.i64_in _ (by omega)
                  cases kvb with
                  | false =>
                    go_wp2_with fail
                    go_quiet (fail)
                    go_wp2_with fail
                    go_roundw
                    case rel => exact ⟨j + 1, by omega, by go_num, by rw [HALL.out, ← Bool.and_assoc, HKV.out]; rfl, hBi.drewN _⟩
                    case measure => simp [intOf]; omega
                  | true =>
                    have eqP := run_eq_pt
                    cases hFx : (x.f.1 == o.f.1 && x.f.2 == o.f.2)
                    · go_wp2_with fail
                      go_quiet (fail)
                      go_wp2_with fail
                      go_roundw
                      case rel => exact ⟨j + 1, by omega, by go_num, by rw [HALL.out, ← Bool.and_assoc, HKV.out, hFx]; rfl, hBi.drewN _⟩
                      case measure => simp [intOf]; omega
                    · go_wp2_with fail
                      go_quiet (fail)
                      go_wp2_with fail
                      go_roundw
                      case rel => exact ⟨j + 1, by omega, by go_num, by rw [HALL.out, ← Bool.and_assoc, HKV.out, hFx]; rfl, hBi.drewN _⟩
                      case measure => simp [intOf]; omega
                · obtain rfl : j = m := by omega
                  have htk : less.take j = less := List.take_of_length_le (by rw [← HM.out]; exact Nat.le_refl _)
                  rw [htk]
                  clear htk
                  generalize hkv : (false && less.all fun x => !(x.f.1 == o.f.1 && x.f.2 == o.f.2)) = kvb
                  have hkb : keepB day less o = kvb := by unfold keepB; rw [HC.out]; exact hkv
                  clear hkv
                  cases kvb with
                  | false =>
                    have HS := Lib.hid (show stepF day less o = less by unfold stepF; rw [if_neg (by rw [hkb]; simp)])
                    clear hkb
                    go_wp2_with fail
                    go_roundw
                    case rel => exact ⟨k + 1, less, by omega, by go_num, by rw [HST.out, HLE.out, HS.out], by rw [← HM.out]; exact own_keeps hown hBi, hBW⟩
                    case measure => simp [intOf]; omega
                  | true =>
                    have HS := Lib.hid (show stepF day less o = less ++ [o] by unfold stepF; rw [if_pos hkb])
                    clear hkb
                    have nn := (own_keeps hown hBi).alloc (.cells #[Value.int .i64 o.f.1, .int .i64 o.f.2, .int .i64 o.t.1, .int .i64 o.t.2, .int .i64 o.a, .int .i64 o.z] 39)
                    have g1 := World.news_of_block (cs := #[.int .i64 o.f.1, .int .i64 o.f.2, .int .i64 o.t.1, .int .i64 o.t.2, .int .i64 o.a, .int .i64 o.z]) (t := 39) (fr := (0, 0)) (heap_alloc_new wr (.cells #[.int .i64 o.f.1, .int .i64 o.f.2, .int .i64 o.t.1, .int .i64 o.t.2, .int .i64 o.a, .int .i64 o.z] 39))
                    have g2 : ∀ u ∈ [Value.int .i64 o.f.1, .int .i64 o.f.2, .int .i64 o.t.1, .int .i64 o.t.2, .int .i64 o.a, .int .i64 o.z], u.oneCell' = true := by simp [Value.oneCell']
                    have g3 : j + 1 ≤ maxLen := by unfold maxLen; omega
                    have g4 : (j + 1) * 48 ≤ 140737488355328 := by omega
                    have hK4 := hBW.alloc (.cells #[Value.int .i64 o.f.1, .int .i64 o.f.2, .int .i64 o.t.1, .int .i64 o.t.2, .int .i64 o.a, .int .i64 o.z] 39)
                    have G1 := Lib.hid g1; have G2 := Lib.hid g2; have G5 := Lib.hid hK4.size
                    clear g1 g2
                    go_wp2_with (at_builtin; refine (wpList_append_own _ rfl (.tmp 76) (.tmp 81) 22 rfl W2.heap.size 39 i0 z0 6 48 Try.underlying22 hi0 hz0 hz1 hz2 hz3 (by decide) _ _ _ rfl nn ⟨wr.heap.size, 0, none⟩ 1 1 [.int .i64 o.f.1, .int .i64 o.f.2, .int .i64 o.t.1, .int .i64 o.t.2, .int .i64 o.a, .int .i64 o.z] rfl rfl G1.out G2.out g3 g4 G5.out ?_); intro v' w5 hown5 hgrow _)
                    have hK5 : Keeps W2 w5 := Below.grown hK4 hgrow hK4.size (fun k hk => (own_lt nn hk).1)
                    go_roundw
                    case rel => exact ⟨k + 1, less ++ [o], by omega, by go_num, by rw [HST.out, HLE.out, HS.out], by rw [ordCells_append, List.length_append, ← HM.out]; exact hown5, hK5⟩
                    case measure => simp [intOf]; omega
          · have e2' : decide (o.a ≤ day) = false := by simpa using e2
            have HC := Lib.hid (show (decide (o.a ≤ day) && decide (day ≤ o.z)) = false by rw [e2']; rfl)
            go_wp2_with fail
            go_loopw [12, 13] (fun kv kk wi => ∃ j : Nat, j ≤ m ∧ kk = .int .i64 j ∧ kv = .bool (false && (less.take j).all fun x => !(x.f.1 == o.f.1 && x.f.2 == o.f.2)) ∧ Keeps wr wi) (fun _ kk _ => m - (intOf kk).toNat)
            case atStart => exact ⟨0, by omega, rfl, rfl, Keeps.refl _⟩
            case round =>
              obtain ⟨j, hj, rfl, rfl, hBi⟩ := hrel
              have hBW := hB.trans hBi
              have y0 := cell_keep c0 hBi; have y1 := cell_keep c1 hBi; have y2 := cell_keep c2 hBi; have y3 := cell_keep c3 hBi; have y4 := cell_keep c4 hBi; have y5 := cell_keep c5 hBi
              have hbi : b < wr.heap.size := Nat.lt_of_lt_of_le hb hBi.size
              clear c0 c1 c2 c3 c4 c5
              by_cases hjm : j < m
              · have hjx : less[j]? = some (less[j]'(by rw [← HM.out]; exact hjm)) := List.getElem?_eq_getElem _
                generalize less[j]'(by rw [← HM.out]; exact hjm) = x at hjx
                obtain ⟨b2, off2, rfl, hb2, d0, d1, -, -, -, -⟩ := (Ords.of_own (own_keeps hown hBi) HM.out) j x hjx
                have hall : (less.take (j + 1)).all (fun x => !(x.f.1 == o.f.1 && x.f.2 == o.f.2)) = ((less.take j).all (fun x => !(x.f.1 == o.f.1 && x.f.2 == o.f.2)) && !(x.f.1 == o.f.1 && x.f.2 == o.f.2)) := by rw [List.take_add_one, hjx]; simp
                generalize hkv : (false && (less.take j).all fun x => !(x.f.1 == o.f.1 && x.f.2 == o.f.2)) = kvb
                have HALL := Lib.hid hall
                have HKV := Lib.hid hkv
                clear hall hkv hjx
                have hji : (j : Int) < (m : Int) := by omega
                have hj0 : (0 : Int) ≤ (j : Int) := by omega
                have hw2 : IntKind.i64.wrap ((j : Int) + 1) = (j : Int) + 1 := IntWalk.i64_in _ (by omega)
                cases kvb with
                | false =>
                  go_wp2_with fail
                  go_quiet (fail)
                  go_wp2_with fail
                  go_roundw
                  case rel => exact ⟨j + 1, by omega, by go_num, by rw [HALL.out, ← Bool.and_assoc, HKV.out]; rfl, hBi.drewN _⟩
                  case measure => simp [intOf]; omega
                | true =>
                  have eqP := run_eq_pt
                  cases hFx : (x.f.1 == o.f.1 && x.f.2 == o.f.2)
                  · go_wp2_with fail
                    go_quiet (fail)
                    go_wp2_with fail
                    go_roundw
                    case rel => exact ⟨j + 1, by omega, by go_num, by rw [HALL.out, ← Bool.and_assoc, HKV.out, hFx]; rfl, hBi.drewN _⟩
                    case measure => simp [intOf]; omega
                  · go_wp2_with fail
                    go_quiet (fail)
                    go_wp2_with fail
                    go_roundw
                    case rel => exact ⟨j + 1, by omega, by go_num, by rw [HALL.out, ← Bool.and_assoc, HKV.out, hFx]; rfl, hBi.drewN _⟩
                    case measure => simp [intOf]; omega
              · obtain rfl : j = m := by omega
                have htk : less.take j = less := List.take_of_length_le (by rw [← HM.out]; exact Nat.le_refl _)
                rw [htk]
                clear htk
                generalize hkv : (false && less.all fun x => !(x.f.1 == o.f.1 && x.f.2 == o.f.2)) = kvb
                have hkb : keepB day less o = kvb := by unfold keepB; rw [HC.out]; exact hkv
                clear hkv
                cases kvb with
                | false =>
                  have HS := Lib.hid (show stepF day less o = less by unfold stepF; rw [if_neg (by rw [hkb]; simp)])
                  clear hkb
                  go_wp2_with fail
                  go_roundw
                  case rel => exact ⟨k + 1, less, by omega, by go_num, by rw [HST.out, HLE.out, HS.out], by rw [← HM.out]; exact own_keeps hown hBi, hBW⟩
                  case measure => simp [intOf]; omega
                | true =>
                  have HS := Lib.hid (show stepF day less o = less ++ [o] by unfold stepF; rw [if_pos hkb])
                  clear hkb
                  have nn := (own_keeps hown hBi).alloc (.cells #[Value.int .i64 o.f.1, .int .i64 o.f.2, .int .i64 o.t.1, .int .i64 o.t.2, .int .i64 o.a, .int .i64 o.z] 39)
                  have g1 := World.news_of_block (cs := #[.int .i64 o.f.1, .int .i64 o.f.2, .int .i64 o.t.1, .int .i64 o.t.2, .int .i64 o.a, .int .i64 o.z]) (t := 39) (fr := (0, 0)) (heap_alloc_new wr (.cells #[.int .i64 o.f.1, .int .i64 o.f.2, .int .i64 o.t.1, .int .i64 o.t.2, .int .i64 o.a, .int .i64 o.z] 39))
                  have g2 : ∀ u ∈ [Value.int .i64 o.f.1, .int .i64 o.f.2, .int .i64 o.t.1, .int .i64 o.t.2, .int .i64 o.a, .int .i64 o.z], u.oneCell' = true := by simp [Value.oneCell']
                  have g3 : j + 1 ≤ maxLen := by unfold maxLen; omega
                  have g4 : (j + 1) * 48 ≤ 140737488355328 := by omega
                  have hK4 := hBW.alloc (.cells #[Value.int .i64 o.f.1, .int .i64 o.f.2, .int .i64 o.t.1, .int .i64 o.t.2, .int .i64 o.a, .int .i64 o.z] 39)
                  have G1 := Lib.hid g1; have G2 := Lib.hid g2; have G5 := Lib.hid hK4.size
                  clear g1 g2
                  go_wp2_with (at_builtin; refine (wpList_append_own _ rfl (.tmp 76) (.tmp 81) 22 rfl W2.heap.size 39 i0 z0 6 48 Try.underlying22 hi0 hz0 hz1 hz2 hz3 (by decide) _ _ _ rfl nn ⟨wr.heap.size, 0, none⟩ 1 1 [.int .i64 o.f.1, .int .i64 o.f.2, .int .i64 o.t.1, .int .i64 o.t.2, .int .i64 o.a, .int .i64 o.z] rfl rfl G1.out G2.out g3 g4 G5.out ?_); intro v' w5 hown5 hgrow _)
                  have hK5 : Keeps W2 w5 := Below.grown hK4 hgrow hK4.size (fun k hk => (own_lt nn hk).1)
                  go_roundw
                  case rel => exact ⟨k + 1, less ++ [o], by omega, by go_num, by rw [HST.out, HLE.out, HS.out], by rw [ordCells_append, List.length_append, ← HM.out]; exact hown5, hK5⟩
                  case measure => simp [intOf]; omega
        · (first | skip)
          obtain rfl : k = n := by omega
          have htk : l.take k = l := List.take_of_length_le (by rw [← HN.out]; exact Nat.le_refl _)
          rw [htk] at hle
          clear htk
          have hml : less.length ≤ 1000000000000 := by rw [← hle]; exact Nat.le_trans less_len hn12
          have hf2 : followF less day (px, py) = followF l day (px, py) := by rw [← hle]; exact less_follow hv
          have hi2 : finalF less day (px, py) (sx, sy) = finalF l day (px, py) (sx, sy) := by rw [← hle]; exact less_final hv
          have hch5 := follow_len l day (px, py)
          obtain ⟨ch, er, hf1⟩ : ∃ ch er, followF l day (px, py) = (ch, er) := ⟨_, _, rfl⟩
          obtain ⟨z, bk, hi1⟩ : ∃ z bk, finalF l day (px, py) (sx, sy) = (z, bk) := ⟨_, _, rfl⟩
          rw [hf1] at hf2 hch5
          rw [hi1] at hi2
          have hch12 : ch.length ≤ 1000000000000 := by simp only at hch5; omega
          have F1 := Lib.hid hf1; have F2 := Lib.hid hf2; have I1 := Lib.hid hi1; have I2 := Lib.hid hi2
          clear hf1 hf2 hi1 hi2 hle hch5
          have HCH := Lib.hid (rfl : ch.length = ch.length)
          have qb0 := Ords.of_own hown HM.out
          have qa0 := q0_2.keep hB
          have ba0 := bx00_2.below hB bx00_2.lt
          have bb0 := bx10_2.below hB bx10_2.lt
          have ka := k_2.trans hB
          clear hown
          have ba0x0 : wr.cell? ⟨w.heap.size, 0, none⟩ = some (.int .i64 px) := cell_of_blk ba0 0 rfl
          have ba0x1 : wr.cell? ⟨w.heap.size, 1, none⟩ = some (.int .i64 py) := cell_of_blk ba0 1 rfl
          have ba0z := ba0.lt
          have bb0x0 : wr.cell? ⟨w.heap.size + 1, 0, none⟩ = some (.int .i64 sx) := cell_of_blk bb0 0 rfl
          have bb0x1 : wr.cell? ⟨w.heap.size + 1, 1, none⟩ = some (.int .i64 sy) := cell_of_blk bb0 1 rfl
          have bb0z := bb0.lt
          go_wp2_with fail
          with_reducible refine (follow_is l A k c _ _ _ _ qa0 hn12 HN.out _ F1.out).mono ?_
          rintro e W5 ⟨A5, c5, rfl, hc5, pa0, h5⟩
          clear ba0x0 ba0x1 ba0z
          clear bb0x0 bb0x1 bb0z
          have ba0_1 := ba0.below h5 ba0.lt; clear ba0
          have bb0_1 := bb0.below h5 bb0.lt; clear bb0
          have qa0_1 := qa0.keep h5; clear qa0
          have qb0_1 := qb0.keep h5; clear qb0
          have k_1 := ka.trans h5; clear ka
          have ba0_1x0 : W5.cell? ⟨w.heap.size, 0, none⟩ = some (.int .i64 px) := cell_of_blk ba0_1 0 rfl
          have ba0_1x1 : W5.cell? ⟨w.heap.size, 1, none⟩ = some (.int .i64 py) := cell_of_blk ba0_1 1 rfl
          have ba0_1z := ba0_1.lt
          have bb0_1x0 : W5.cell? ⟨w.heap.size + 1, 0, none⟩ = some (.int .i64 sx) := cell_of_blk bb0_1 0 rfl
          have bb0_1x1 : W5.cell? ⟨w.heap.size + 1, 1, none⟩ = some (.int .i64 sy) := cell_of_blk bb0_1 1 rfl
          have bb0_1z := bb0_1.lt
          go_wp2_with fail
          with_reducible refine (follow_is less a m cc _ _ _ _ qb0_1 hml HM.out _ F2.out).mono ?_
          rintro e W6 ⟨A6, c6, rfl, hc6, pb0, h6⟩
          clear ba0_1x0 ba0_1x1 ba0_1z
          clear bb0_1x0 bb0_1x1 bb0_1z
          have ba0_2 := ba0_1.below h6 ba0_1.lt; clear ba0_1
          have bb0_2 := bb0_1.below h6 bb0_1.lt; clear bb0_1
          have qa0_2 := qa0_1.keep h6; clear qa0_1
          have qb0_2 := qb0_1.keep h6; clear qb0_1
          have pa0_2 := pa0.keep h6; clear pa0
          have k_2 := k_1.trans h6; clear k_1
          have ba0_2x0 : W6.cell? ⟨w.heap.size, 0, none⟩ = some (.int .i64 px) := cell_of_blk ba0_2 0 rfl
          have ba0_2x1 : W6.cell? ⟨w.heap.size, 1, none⟩ = some (.int .i64 py) := cell_of_blk ba0_2 1 rfl
          have ba0_2z := ba0_2.lt
          have bb0_2x0 : W6.cell? ⟨w.heap.size + 1, 0, none⟩ = some (.int .i64 sx) := cell_of_blk bb0_2 0 rfl
          have bb0_2x1 : W6.cell? ⟨w.heap.size + 1, 1, none⟩ = some (.int .i64 sy) := cell_of_blk bb0_2 1 rfl
          have bb0_2z := bb0_2.lt
          go_wp2_with fail
          with_reducible refine (final_is l A k c _ _ _ _ _ _ qa0_2 hn12 HN.out _ I1.out).mono ?_
          rintro e W7 ⟨rfl, h7⟩
          clear ba0_2x0 ba0_2x1 ba0_2z
          clear bb0_2x0 bb0_2x1 bb0_2z
          have ba0_3 := ba0_2.below h7 ba0_2.lt; clear ba0_2
          have bb0_3 := bb0_2.below h7 bb0_2.lt; clear bb0_2
          have qa0_3 := qa0_2.keep h7; clear qa0_2
          have qb0_3 := qb0_2.keep h7; clear qb0_2
          have pa0_3 := pa0_2.keep h7; clear pa0_2
          have pb0_3 := pb0.keep h7; clear pb0
          have k_3 := k_2.trans h7; clear k_2
          have ba0_3x0 : W7.cell? ⟨w.heap.size, 0, none⟩ = some (.int .i64 px) := cell_of_blk ba0_3 0 rfl
          have ba0_3x1 : W7.cell? ⟨w.heap.size, 1, none⟩ = some (.int .i64 py) := cell_of_blk ba0_3 1 rfl
          have ba0_3z := ba0_3.lt
          have bb0_3x0 : W7.cell? ⟨w.heap.size + 1, 0, none⟩ = some (.int .i64 sx) := cell_of_blk bb0_3 0 rfl
          have bb0_3x1 : W7.cell? ⟨w.heap.size + 1, 1, none⟩ = some (.int .i64 sy) := cell_of_blk bb0_3 1 rfl
          have bb0_3z := bb0_3.lt
          go_wp2_with fail
          clear ba0_3x0 ba0_3x1 ba0_3z
          clear bb0_3x0 bb0_3x1 bb0_3z
          have hy := (Keeps.refl W7).alloc (.cells #[Value.int .i64 z.1, .int .i64 z.2] 24)
          have by0 := Blk.new W7 24 #[Value.int .i64 z.1, .int .i64 z.2]
          have ba0_4 := ba0_3.below hy ba0_3.lt; clear ba0_3
          have bb0_4 := bb0_3.below hy bb0_3.lt; clear bb0_3
          have qa0_4 := qa0_3.keep hy; clear qa0_3
          have qb0_4 := qb0_3.keep hy; clear qb0_3
          have pa0_4 := pa0_3.keep hy; clear pa0_3
          have pb0_4 := pb0_3.keep hy; clear pb0_3
          have k_4 := k_3.trans hy; clear k_3
          generalize W7.alloc (.cells #[Value.int .i64 z.1, .int .i64 z.2] 24) = U7 at *
          with_reducible refine (final_is less a m cc _ _ _ _ _ _ qb0_4 hml HM.out _ I2.out).mono ?_
          rintro e W8 ⟨rfl, h8⟩
          have ba0_5 := ba0_4.below h8 ba0_4.lt; clear ba0_4
          have bb0_5 := bb0_4.below h8 bb0_4.lt; clear bb0_4
          have by0_5 := by0.below h8 by0.lt; clear by0
          have qa0_5 := qa0_4.keep h8; clear qa0_4
          have qb0_5 := qb0_4.keep h8; clear qb0_4
          have pa0_5 := pa0_4.keep h8; clear pa0_4
          have pb0_5 := pb0_4.keep h8; clear pb0_4
          have k_5 := k_4.trans h8; clear k_4
          have ba0_5x0 : W8.cell? ⟨w.heap.size, 0, none⟩ = some (.int .i64 px) := cell_of_blk ba0_5 0 rfl
          have ba0_5x1 : W8.cell? ⟨w.heap.size, 1, none⟩ = some (.int .i64 py) := cell_of_blk ba0_5 1 rfl
          have ba0_5z := ba0_5.lt
          have bb0_5x0 : W8.cell? ⟨w.heap.size + 1, 0, none⟩ = some (.int .i64 sx) := cell_of_blk bb0_5 0 rfl
          have bb0_5x1 : W8.cell? ⟨w.heap.size + 1, 1, none⟩ = some (.int .i64 sy) := cell_of_blk bb0_5 1 rfl
          have bb0_5z := bb0_5.lt
          have by0_5x0 : W8.cell? ⟨W7.heap.size, 0, none⟩ = some (.int .i64 z.1) := cell_of_blk by0_5 0 rfl
          have by0_5x1 : W8.cell? ⟨W7.heap.size, 1, none⟩ = some (.int .i64 z.2) := cell_of_blk by0_5 1 rfl
          have by0_5z := by0_5.lt
          go_wp2_with fail
          clear ba0_5x0 ba0_5x1 ba0_5z
          clear bb0_5x0 bb0_5x1 bb0_5z
          clear by0_5x0 by0_5x1 by0_5z
          have hv := (Keeps.refl W8).alloc (.cells #[Value.int .i64 z.1, .int .i64 z.2] 24)
          have bv0 := Blk.new W8 24 #[Value.int .i64 z.1, .int .i64 z.2]
          have ba0_6 := ba0_5.below hv ba0_5.lt; clear ba0_5
          have bb0_6 := bb0_5.below hv bb0_5.lt; clear bb0_5
          have by0_6 := by0_5.below hv by0_5.lt; clear by0_5
          have qa0_6 := qa0_5.keep hv; clear qa0_5
          have qb0_6 := qb0_5.keep hv; clear qb0_5
          have pa0_6 := pa0_5.keep hv; clear pa0_5
          have pb0_6 := pb0_5.keep hv; clear pb0_5
          have k_6 := k_5.trans hv; clear k_5
          generalize W8.alloc (.cells #[Value.int .i64 z.1, .int .i64 z.2] 24) = U8 at *
          with_reducible refine (same_is ch ch A5 A6 _ _ c5 c6 _ pa0_6 pb0_6 hch12 hch12 rfl rfl true (by simp)).mono ?_
          rintro e W9 ⟨rfl, h9⟩
          have ba0_7 := ba0_6.below h9 ba0_6.lt; clear ba0_6
          have bb0_7 := bb0_6.below h9 bb0_6.lt; clear bb0_6
          have by0_7 := by0_6.below h9 by0_6.lt; clear by0_6
          have bv0_7 := bv0.below h9 bv0.lt; clear bv0
          have qa0_7 := qa0_6.keep h9; clear qa0_6
          have qb0_7 := qb0_6.keep h9; clear qb0_6
          have pa0_7 := pa0_6.keep h9; clear pa0_6
          have pb0_7 := pb0_6.keep h9; clear pb0_6
          have k_7 := k_6.trans h9; clear k_6
          have ba0_7x0 : W9.cell? ⟨w.heap.size, 0, none⟩ = some (.int .i64 px) := cell_of_blk ba0_7 0 rfl
          have ba0_7x1 : W9.cell? ⟨w.heap.size, 1, none⟩ = some (.int .i64 py) := cell_of_blk ba0_7 1 rfl
          have ba0_7z := ba0_7.lt
          have bb0_7x0 : W9.cell? ⟨w.heap.size + 1, 0, none⟩ = some (.int .i64 sx) := cell_of_blk bb0_7 0 rfl
          have bb0_7x1 : W9.cell? ⟨w.heap.size + 1, 1, none⟩ = some (.int .i64 sy) := cell_of_blk bb0_7 1 rfl
          have bb0_7z := bb0_7.lt
          have by0_7x0 : W9.cell? ⟨W7.heap.size, 0, none⟩ = some (.int .i64 z.1) := cell_of_blk by0_7 0 rfl
          have by0_7x1 : W9.cell? ⟨W7.heap.size, 1, none⟩ = some (.int .i64 z.2) := cell_of_blk by0_7 1 rfl
          have by0_7z := by0_7.lt
          have bv0_7x0 : W9.cell? ⟨W8.heap.size, 0, none⟩ = some (.int .i64 z.1) := cell_of_blk bv0_7 0 rfl
          have bv0_7x1 : W9.cell? ⟨W8.heap.size, 1, none⟩ = some (.int .i64 z.2) := cell_of_blk bv0_7 1 rfl
          have bv0_7z := bv0_7.lt
          have eqP := run_eq_pt
          go_wp2_with fail
          go_ret
          exact ⟨rfl, k_7⟩
end Go.Proofs.Ytajobinkabdmkaa
