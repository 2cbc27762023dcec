/- Part of the proof of TopOwnItem. Conditions: as stated in each theorem. -/
import Derived.Test.YthkmpegpmpdhaaaGreatDoorU
import Derived.WalkMore
import Derived.Maps.OwnIn
import Derived.Deep.LoopGhost
import Derived.RangeFuncNested
import Derived.RangeFuncCalls
import Derived.RangeFuncLeaves
import Derived.RangeFuncWrites
import Derived.Shelf.Abstract
import Derived.Shelf.RegionOpen
import Derived.OwnWalkIn
import Derived.TacticsInMore
import Derived.LoopNIn
import Derived.LoopIn
import Derived.RangeFuncBound
import Derived.Test.YthkmpegpmpdhaaaGreatDoorProg
import Derived.WalkKit
import Derived.WalkSpells
import Derived.WalkLawsBesides
import Derived.Laws.EntriesVeiled
import Derived.ProofKit
import Derived.OpenShut
import Derived.Lib.Hide
import Derived.BigQuiet
import Derived.Deep.QuietTactic
import Derived.Deep.CutRange
import Derived.StillTailTactics
import Derived.Lib.SliceRun
import Derived.RangeFuncRecord
import Derived.Carry
import Derived.ChangeKeysEq
import Derived.Below
import Derived.Laws.OwnMore
import Derived.Deep.AppendLies
import Derived.Deep.Draws
import Derived.Laws.Rows
import Derived.Maps.AppendAt
import Derived.RegionTactic
import Derived.OwnWalk
import Derived.Deep.RegionHeld3
namespace Go.Proofs.YthkmpegpmpdhaaaGreatDoor
open Go.Shelf Go.ChangeShapes Go.WideShapes Go.ChangeAt Go.RowKit
set_option linter.unusedSimpArgs false
set_option linter.unusedVariables false
attribute [local go_sem] Oper.semAt_some
theorem sortE_perm {S T : List EvC} (h : S.Perm T) : sortE S = sortE T := by
  unfold sortE
  have hpw : ∀ l : List EvC, (l.mergeSort fun x y => !(ltOf cfE) y x).Pairwise fun x y => (!(ltOf cfE) y x) = true := fun l =>
    List.pairwise_mergeSort (le := fun x y => !(ltOf cfE) y x) (fun a b c q1 q2 => by
      simp only [Bool.not_eq_true'] at *
      exact swoE.ntrans _ _ _ q2 q1) (fun a b => by
      simp only [Bool.or_eq_true, Bool.not_eq_true']
      by_cases h : ltOf cfE b a = true
      · right
        by_cases h2 : ltOf cfE a b = true
        · have := swoE.trans _ _ _ h h2
          rw [swoE.irrefl] at this; cases this
        · simpa using h2
      · left; simpa using h) l
  refine List.Perm.eq_of_pairwise (le := fun x y => (!(ltOf cfE) y x) = true) ?_ (hpw S) (hpw T) (((List.mergeSort_perm _ _).trans h).trans (List.mergeSort_perm _ _).symm)
  intro a b _ _ q1 q2
  simp only [Bool.not_eq_true'] at q1 q2
  exact totE a b q2 q1
theorem OwnR.from_ {α : Type} {R : RowTy α} {w0 w1 w : World} {v : Value} {l : List α} (h : OwnR R w1 w v l) (hk : Keeps w0 w1) : OwnR R w0 w v l :=
  ⟨⟨h.1.1, h.1.2.imp (fun h => h) (fun ⟨g, cap, cur, h1, h2, h3⟩ => ⟨g, cap, cur, h1, by have := hk.size; omega, h3⟩)⟩, hk.trans h.2⟩
theorem values66 (rf : Nat) (w : World) : Calls Tryz.prog 66 #[.map (some rf)] w fun e w' => e = .returned (.func (.func 114) #[] #[.pointer (some ⟨w.heap.size, 0, none⟩)]) ∧ w' = w.alloc (.cells #[.map (some rf)] 135) := by
  go_enter Tryz.func66, Tryz.ntmps66
  go_wp2
  go_ret
  exact ⟨rfl, rfl⟩
theorem own_cells {w : World} {base : Nat} {e : TypeId} {size n : Nat} {v : Value} {xs : List Value} (h : w.ownsRow base e size v n xs) : ∀ k o, v.ownBlock = some k → w.heap[k]? = some o → o.isCells = true := by
  intro k o hk ho
  rcases h.2 with ⟨rfl, rfl⟩ | ⟨g, cap, cur, rfl, hb, hh, _⟩
  · simp [Value.ownBlock] at hk
  · simp [Value.ownBlock] at hk
    subst hk
    rw [hh] at ho; injection ho with ho; subst ho; rfl
theorem below_putObj {n₀ l : Nat} (W : World) (o : Obj) (h : n₀ ≤ l) : Below n₀ W (W.putObj l o) :=
  ⟨rfl, rfl, rfl, by simp, fun k hk => World.putObj_heap_other (by omega)⟩
/-- AppendSeq's loop between two rounds. -/
structure AsI (w : World) (pre : List Ev) (W : World) : Prop where
  row : ∃ v, Blk W w.heap.size 31 #[v] ∧ W.ownsRow (w.heap.size + 1) 43 4 v pre.length (recCells evR pre)
  low : Below w.heap.size w W
  sz : w.heap.size + 1 ≤ W.heap.size
theorem AsI.abide {w : World} : Abide (w.heap.size + 1) (AsI w) := by
  rintro pre A B row ⟨⟨v, hv, ho⟩, low, sz⟩ hg hr
  have hne : ∀ q : Nat, q < w.heap.size + 1 → some q ≠ row := fun q h1 e => by
    have := (hr q e.symm).1
    omega
  refine ⟨⟨v, hv.grown hg (hne w.heap.size (by omega)), ho.kept hg ?_⟩, low.grown hg low.size (fun k e => by have := (hr k e).1; omega), Nat.le_trans sz hg.size⟩
  by_cases hn : v.ownBlock = none
  · exact .inl hn
  · right
    intro e
    cases hb : v.ownBlock with
    | none => exact hn hb
    | some q =>
      rw [hb] at e
      obtain ⟨_, o, ho', hc⟩ := hr q e.symm
      have := own_cells ho q o hb ho'
      rw [hc] at this; cases this
set_option maxRecDepth 100000 in
set_option maxHeartbeats 4000000 in
theorem append190 (L : List (ByteArray × Ev)) (rf mb : Nat) (w : World) (hL : StIs w rf (L.map valE)) (hmb : Blk w mb 135 #[.map (some rf)]) (hn : Hid (L.length ≤ 10000000000)) :
    Calls Tryz.prog 190 #[.slice none 0 0, .func (.func 114) #[] #[.pointer (some ⟨mb, 0, none⟩)]] w fun e w' => ∃ A n c xs, e = .returned (.slice A n c) ∧ OwnR evR w w' (.slice A n c) xs ∧ xs.Perm (L.map (·.2)) := by
  have K0 := Lib.hid ((Keeps.refl w).alloc (.cells #[.slice none 0 0] 31))
  have B0 := Lib.hid (Blk.new w 31 #[.slice none 0 0])
  refine (callsIn_wide (n := 3)).1 ?_
  refine callsIn_of_wp_marks Tryz.func190 rfl trivial ?_ rfl
  refine wpIn_wide.2 ?_
  simp only [Tryz.ntmps190, List.size_toArray, List.length_cons, List.length_nil, Nat.reduceAdd, Nat.reduceSub, Array.replicate_succ, Array.replicate_zero, List.push_toArray, List.append_toArray, List.nil_append, List.cons_append]
  go_wp2_with fail
  have hL1 := hL.keep K0.out
  have hmb1 := hmb.below K0.out hmb.lt
  have HSZ := Lib.hid (show (w.alloc (.cells #[.slice none 0 0] 31)).heap.size = w.heap.size + 1 by simp)
  generalize hw1 : w.alloc (.cells #[.slice none 0 0] 31) = w1 at K0 B0 HSZ hL1 hmb1 ⊢
  clear hw1
  have hI0 : AsI w [] w1 := ⟨⟨_, B0.out, World.ownsRow_nil _ _ _ _⟩, K0.out, by rw [HSZ.out]; exact Nat.le_refl _⟩
  have hrf := hL.lt
  have hmlt := hmb.lt
  refine (wpIn_wide (n := 3)).1 ?_
  refine range_seqQ (F := Fence.wide) (n := 3) (gf := 114) (lb := #[.pointer (some ⟨mb, 0, none⟩)]) rfl (by omega) rfl trivial (enters_of Tryz.func114 (by kernel_rfl) rfl)
    (values_in 2 L rf mb w1 hL1 hmb1) (fun k hk => by have := HSZ.out; rcases hk with h | h <;> omega) (fun _ => rfl)
    (AsI w) (by rw [HSZ.out]; exact AsI.abide) hI0
    43 (fun p => #[.int .i64 p.off, .int .i64 p.lo, .int .i64 p.hi, .slice p.A p.nd.length p.c])
    (fun p Bz => { tmps := #[.slice none 0 0, .func (.func 114) #[] #[.pointer (some ⟨mb, 0, none⟩)], .pointer (some ⟨w.heap.size, 0, none⟩), undef, .slice none 0 0, .pointer (some ⟨Bz, 0, none⟩), .func (.func 114) #[] #[.pointer (some ⟨mb, 0, none⟩)], evA p, undef, undef, undef, undef, undef], defers := [] })
    ?assign ?body ?done
  case assign =>
    intro lo x W K hK
    obtain ⟨off, lo', hi', nd, xA, xc⟩ := x
    simp only [evA] at hK ⊢
    gi_wp2
    exact hK
  case body =>
    rintro lo pre ⟨off, lo', hi', nd, xA, xc⟩ Bx W ⟨⟨v, h8, ho⟩, low, sz⟩ hmem hlen hB hx
    simp only [evA]
    obtain ⟨i0, z0, hi0, hz0, hz1, hz2, hz3⟩ := evOk.info
    have hxB : Blk W Bx 43 #[.int .i64 off, .int .i64 lo', .int .i64 hi', .slice xA nd.length xc] := hx
    have x0 : W.cell? ⟨Bx, 0, none⟩ = some (.int .i64 off) := cell_of_blk hxB 0 rfl
    have x1 : W.cell? ⟨Bx, 1, none⟩ = some (.int .i64 lo') := cell_of_blk hxB 1 rfl
    have x2 : W.cell? ⟨Bx, 2, none⟩ = some (.int .i64 hi') := cell_of_blk hxB 2 rfl
    have x3 : W.cell? ⟨Bx, 3, none⟩ = some (.slice xA nd.length xc) := cell_of_blk hxB 3 rfl
    have y8 : W.cell? ⟨w.heap.size, 0, none⟩ = some v := cell_of_blk h8 0 rfl
    obtain ⟨sa, sc, rfl⟩ := own_slice ho
    have hlen' : pre.length < 10000000000 := by have := hn.out; omega
    have on := ho.alloc (.cells #[.int .i64 off, .int .i64 lo', .int .i64 hi', .slice xA nd.length xc] 43)
    have c1 := Lib.hid (World.news_of_block (cs := #[.int .i64 off, .int .i64 lo', .int .i64 hi', .slice xA nd.length xc]) (t := 43) (fr := (0, 0)) (heap_alloc_new W (.cells #[.int .i64 off, .int .i64 lo', .int .i64 hi', .slice xA nd.length xc] 43)))
    have c2 := Lib.hid (show ∀ u ∈ [Value.int .i64 off, .int .i64 lo', .int .i64 hi', .slice xA nd.length xc], u.oneCell' = true by simp [Value.oneCell'])
    have c3 : pre.length + 1 ≤ maxLen := by unfold maxLen; omega
    have c4 : (pre.length + 1) * evR.by' ≤ 140737488355328 := by
      have := Nat.mul_le_mul (show pre.length + 1 ≤ 10000000000 by omega) evOk.few
      omega
    have C5 := Lib.hid (show w.heap.size + 1 ≤ (W.alloc (.cells #[.int .i64 off, .int .i64 lo', .int .i64 hi', .slice xA nd.length xc] 43)).heap.size by simp; omega)
    clear hmem hlen
    gi_wp2_with (gi_at_builtin; refine wpListIn_append_own_at _ rfl (.tmp 8) (.tmp 10) 31 rfl (w.heap.size + 1) 43 i0 z0 4 evR.by' Tryz.underlying31 hi0 hz0 hz1 hz2 hz3 (by decide) _ _ _ rfl on ⟨W.heap.size, 0, none⟩ 1 1 [.int .i64 off, .int .i64 lo', .int .i64 hi', .slice xA nd.length xc] rfl rfl c1.out c2.out c3 c4 C5.out ?_; intro v' w5 hown5 hgrow _ hat; obtain ⟨g', cap', rfl, hg', hgl'⟩ := hown5.form (by omega); have h85 := (h8.alloc (.cells #[.int .i64 off, .int .i64 lo', .int .i64 hi', .slice xA nd.length xc] 43)).grown hgrow (own_ne on (by omega)); have w8 : w5.cell? ⟨w.heap.size, 0, none⟩ = some (.slice sa pre.length sc) := cell_of_blk h85 0 rfl; have f8 := h85.frozen 0)
    have hz5 := hgrow.size
    rw [World.size_alloc] at hz5
    have hvz := HSZ.out
    have hws := low.size
    have far : ∀ k, k < w.heap.size + 1 → some k ≠ (Value.slice sa pre.length sc).ownBlock := fun k hk => own_ne on hk
    have keep : ∀ k, k < W.heap.size → k < w.heap.size → (w5.setCell ⟨w.heap.size, 0, none⟩ (.slice (some ⟨g', 0, none⟩) (pre.length + 1) cap')).heap[k]? = W.heap[k]? := fun k h1 h2 =>
      (Below.heap_setCell w5 _ _ k (show k ≠ w.heap.size by omega)).trans ((hgrow.block k (by simp; omega) (far k (by omega))).trans (Below.heap_alloc W _ k h1))
    have bel : Below w.heap.size W (w5.setCell ⟨w.heap.size, 0, none⟩ (.slice (some ⟨g', 0, none⟩) (pre.length + 1) cap')) :=
      ((((Below.refl _ W).alloc (by omega) _).grown hgrow (by simp; omega) (fun k e => by have := own_lt on e; omega))).setCell (p := ⟨w.heap.size, 0, none⟩) (by simp) _
    refine ⟨?_, ⟨?_, ?_⟩, ⟨⟨_, h85.set_ 0 _, ?_⟩, low.trans bel, ?_⟩⟩
    · exact (((KeepsOthers.alloc _ _).trans (KeepsOthers.of_grownBy hgrow (own_cells on))).trans (KeepsOthers.setCell _ _ _)).from _
    · simp [World.setCell]; omega
    · intro k hk hkW
      exact keep k hkW (by rcases hk with h | h <;> omega)
    · rw [recCells_append, List.length_append]
      exact ownsRow_setCell_below hown5 (by simp) _
    · simp [World.setCell]; omega
  case done =>
    rintro D xs W hD hS ⟨⟨v, h8, ho⟩, low, sz⟩ hKD
    have y8 : W.cell? ⟨w.heap.size, 0, none⟩ = some v := cell_of_blk h8 0 rfl
    obtain ⟨sa, sc, rfl⟩ := own_slice ho
    have HKD := Lib.hid hKD
    have O1 := Lib.hid ho
    have LZ := Lib.hid low
    have H8 := Lib.hid h8
    clear hKD ho h8 low
    go_wp2
    refine ⟨by simp, .inl ⟨_, _, rfl, run_takeDeferred (by exact HKD.out), ?_⟩⟩
    have hbD : some D ≠ (Value.slice sa xs.length sc).ownBlock := fun e => by
      have := own_cells O1.out D _ e.symm HKD.out
      cases this
    have hD' : w.heap.size + 1 ≤ D := by have := HSZ.out; omega
    have o2 := O1.out.kept (grownBy_putObj' W D (.deferred none)) (.inr (fun e => hbD e.symm))
    have hlow : Keeps w (W.putObj D (.deferred none)) := LZ.out.trans (below_putObj W _ (by omega))
    have hfin : OwnR evR w (W.putObj D (.deferred none)) (.slice sa xs.length sc) xs := ⟨⟨o2.1, o2.2.imp (fun h => h) (fun ⟨g, cap, cur, h1, h2, h3⟩ => ⟨g, cap, cur, h1, by omega, h3⟩)⟩, hlow⟩
    first
      | exact ⟨_, results_tmp rfl _ _ _, sa, xs.length, sc, xs, rfl, hfin, hS⟩
      | exact ⟨_, results_tmp rfl _ _ _, sa, xs.length, sc, rfl, xs, hfin, hS⟩
set_option maxRecDepth 100000 in
theorem collect152 (L : List (ByteArray × Ev)) (rf mb : Nat) (w : World) (hL : StIs w rf (L.map valE)) (hmb : Blk w mb 135 #[.map (some rf)]) (hn : Hid (L.length ≤ 10000000000)) :
    Calls Tryz.prog 152 #[.func (.func 114) #[] #[.pointer (some ⟨mb, 0, none⟩)]] w fun e w' => ∃ A n c xs, e = .returned (.slice A n c) ∧ OwnR evR w w' (.slice A n c) xs ∧ xs.Perm (L.map (·.2)) := by
  have HC := Lib.hid (append190 L rf mb w hL hmb hn)
  clear hL hmb
  go_enter Tryz.func152, Tryz.ntmps152
  go_wp2_with (go_at_call 190; (with_reducible refine HC.out.mono ?_); rintro e w' ⟨A, n, c, xs, rfl, h1, h2⟩)
  go_ret
  exact ⟨A, n, c, xs, rfl, h1, h2⟩
set_option maxRecDepth 100000 in
theorem sorted111 (L : List (ByteArray × Ev)) (rf mb fb : Nat) (w : World) (hL : StIs w rf (L.map valE)) (hmb : Blk w mb 135 #[.map (some rf)]) (hn : Hid (L.length ≤ 10000000000)) (hv : ∀ p ∈ L, EvOk w w.heap.size p.2) (hf : FnCell fb w) :
    Calls Tryz.prog 111 #[.func (.func 114) #[] #[.pointer (some ⟨mb, 0, none⟩)], .func (.func 112) #[] #[.pointer (some ⟨fb, 0, none⟩)]] w fun e w' => ∃ A n c xs, e = .returned (.slice A n c) ∧ OwnR evR w w' (.slice A n c) xs ∧ xs.map Ev.say = sortE (L.map fun p => p.2.say) ∧ xs.Perm (L.map (·.2)) := by
  have HC := Lib.hid (collect152 L rf mb w hL hmb hn)
  have HS := Lib.hid (fun A n c xs w' (h1 : OwnR evR w w' (.slice A n c) xs) (h2 : xs.Perm (L.map (·.2))) => sort153 xs A n c fb w w' h1 (fun v hv' => by
    obtain ⟨p, hp, rfl⟩ := List.mem_map.1 (h2.mem_iff.1 hv')
    exact hv p hp) hf (by rw [own_lenR h1, h2.length_eq, List.length_map]; exact hn.out))
  clear hL hmb hv hf
  go_enter Tryz.func111, Tryz.ntmps111
  go_wp2_with (first | (go_at_call 152; (with_reducible refine HC.out.mono ?_); rintro e w2 ⟨A, n, c, xs, rfl, h1, h2⟩; have H1 := Lib.hid h1; have H2 := Lib.hid h2; clear h1 h2) | (go_at_call 153; (with_reducible refine (HS.out _ _ _ _ _ H1.out H2.out).mono ?_); rintro e w3 ⟨rfl, xs', h3, h4, h5⟩; have H3 := Lib.hid h3; have H4 := Lib.hid h4; have H5 := Lib.hid h5; clear h3 h4 h5))
  go_ret
  have hp : (xs.map Ev.say).Perm (L.map fun p => p.2.say) := by
    have := H2.out.map Ev.say
    rwa [List.map_map] at this
  refine ⟨A, n, c, xs', rfl, H3.out, ?_, H4.out.trans H2.out⟩
  rw [H5.out]
  exact sortE_perm hp
set_option maxRecDepth 100000 in
theorem sorted65 (L : List (ByteArray × Ev)) (rf mb : Nat) (w : World) (hL : StIs w rf (L.map valE)) (hmb : Blk w mb 135 #[.map (some rf)]) (hn : Hid (L.length ≤ 10000000000)) (hv : ∀ p ∈ L, EvOk w w.heap.size p.2) :
    Calls Tryz.prog 65 #[.func (.func 114) #[] #[.pointer (some ⟨mb, 0, none⟩)], .func (.func 67) #[] #[]] w fun e w' => ∃ A n c xs, e = .returned (.slice A n c) ∧ OwnR evR w w' (.slice A n c) xs ∧ xs.map Ev.say = sortE (L.map fun p => p.2.say) ∧ xs.Perm (L.map (·.2)) := by
  have K0 := Lib.hid ((Keeps.refl w).alloc (.cells #[.func (.func 67) #[] #[]] 145))
  have HC := Lib.hid (sorted111 L rf mb w.heap.size (w.alloc (.cells #[.func (.func 67) #[] #[]] 145)) (hL.keep K0.out) (hmb.below K0.out hmb.lt) hn (fun p hp => (hv p hp).keep K0.out) (cell_of_blk (Blk.new w 145 #[.func (.func 67) #[] #[]]) 0 rfl))
  clear hL hmb hv
  go_enter Tryz.func65, Tryz.ntmps65
  go_wp2_with (go_at_call 111; (with_reducible refine HC.out.mono ?_); rintro e w' ⟨A, n, c, xs, rfl, h1, h2, h3⟩)
  go_ret
  exact ⟨A, n, c, xs, rfl, h1.from_ K0.out, h2, h3⟩
end Go.Proofs.YthkmpegpmpdhaaaGreatDoor
