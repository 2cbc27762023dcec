/- Part of the proofs of TopMoney and TopOrders. Conditions: as stated in each theorem. -/
import Derived.Test.YthkmpegpmpdhaaaK
import Derived.Test.YthkmpegpmpdhaaaH
import Derived.WalkMore
import Derived.Maps.OwnIn
import Derived.Deep.LoopGhost
import Derived.Deep.CutRange
import Derived.StillTailTactics
import Derived.Lib.SliceRun
import Derived.RangeFuncRecord
import Derived.Carry
import Derived.ChangeKeysEq
import Derived.RangeFuncNested
import Derived.RangeFuncCalls
import Derived.RangeFuncLeaves
import Derived.RangeFuncWrites
import Derived.Shelf.Abstract
import Derived.Shelf.RegionOpen
import Derived.OwnWalkIn
import Derived.TacticsInMore
import Derived.LoopNIn
import Derived.LoopIn
import Derived.RangeFuncBound
import Derived.Test.YthkmpegpmpdhaaaRows
import Derived.WalkKit
import Derived.WalkSpells
import Derived.WalkLawsBesides
import Derived.Laws.EntriesVeiled
import Derived.ProofKit
import Derived.OpenShut
import Derived.Lib.Hide
import Derived.BigQuiet
import Derived.Deep.QuietTactic
import Derived.Below
import Derived.Laws.OwnMore
import Derived.Deep.AppendLies
import Derived.Deep.Draws
import Derived.Laws.Rows
import Derived.Maps.AppendAt
import Derived.RegionTactic
import Derived.OwnWalk
import Derived.Deep.RegionHeld3
namespace Go.Proofs.Ythkmpegpmpdhaaa
open Go.Shelf Go.ChangeShapes Go.WideShapes Go.ChangeAt Go.RowKit
set_option linter.unusedSimpArgs false
set_option linter.unusedVariables false
attribute [local go_sem] Oper.semAt_some
theorem permit_yes {x : Int} (h : Hid (-1000000000 ≤ x ∧ x ≤ 1000000000)) (w : World) : Calls Try.prog 33 #[.int .i64 x] w fun e w' => e = .returned (.bool true) ∧ w = w' := by
  go_enter Try.func33, Try.ntmps33
  go_wp2_with (go_at_call 22; (with_reducible refine (within_yes h _).mono ?_); rintro e w1 ⟨rfl, rfl⟩)
  go_ret
  exact ⟨rfl, rfl⟩
theorem settle_mk (A : Option Addr) (n c : Nat) (ref : ByteArray) (w : World) :
    Calls Try.prog 34 #[.slice A n c, .string ref] w fun e w' =>
      e = .returned (.func (.func 54) #[] #[.pointer (some ⟨w.heap.size, 0, none⟩), .pointer (some ⟨w.heap.size + 1, 0, none⟩)]) ∧
      w' = (w.alloc (.cells #[.slice A n c] 28)).alloc (.cells #[.string ref] 9) := by
  go_enter Try.func34, Try.ntmps34
  go_wp2
  go_ret
  exact ⟨rfl, rfl⟩
def negL (b : List Int) : List Int := b.map fun x => -x
theorem negL_at (b : List Int) (i : Nat) : at0 (negL b) i = - at0 b i := by
  simp only [at0, negL, List.getD_eq_getElem?_getD, List.getElem?_map]
  cases b[i]? <;> simp
theorem negL_sum (b : List Int) : sumL (negL b) = - sumL b := by
  induction b with
  | nil => simp [negL, sumL]
  | cons x b ih => simp only [negL, List.map_cons, sumL] at *; omega
theorem negL_fill {n : Nat} {b : List Int} (h : n = b.length) : fillI n n (fun i => - at0 b i) = negL b := by
  rw [fillI_full, h]; exact map_at0 b fun x => -x
theorem negL_take {b : List Int} {k : Nat} (h : k < b.length) : sumL ((negL b).take (k + 1)) = sumL ((negL b).take k) - at0 b k := by
  rw [List.take_add_one, get_at0 (by simpa [negL] using h), sumL_append, negL_at]; simp [sumL]; omega
def AdjPost (b : List Int) (M : Int) (ref : ByteArray) (w : World) (e : Ending) (w' : World) : Prop := ∃ A c ts, e = .returned (.tuple #[.slice A ts.length c, .int .i64 0]) ∧ RecIn enR w' w'.heap.size A (ts.map (setE ref)) ∧ NetIs (negL b) ts M ∧ Keeps w w'
theorem own_cells {w : World} {base : Nat} {e : TypeId} {size n : Nat} {v : Value} {xs : List Value} (h : w.ownsRow base e size v n xs) : ∀ k o, v.ownBlock = some k → w.heap[k]? = some o → o.isCells = true := by
  intro k o hk ho
  rcases h.2 with ⟨rfl, rfl⟩ | ⟨g, cap, cur, rfl, hb, hh, _⟩
  · simp [Value.ownBlock] at hk
  · simp [Value.ownBlock] at hk
    subst hk
    rw [hh] at ho; injection ho with ho; subst ho; rfl
theorem below_putObj {n₀ l : Nat} (W : World) (o : Obj) (h : n₀ ≤ l) : Below n₀ W (W.putObj l o) :=
  ⟨rfl, rfl, rfl, by simp, fun k hk => World.putObj_heap_other (by omega)⟩
/-- Adjust's loop between two rounds. -/
structure AdjI (w : World) (eb base : Nat) (ref : ByteArray) (pre : List Mv) (W : World) : Prop where
  row : ∃ v, Blk W eb 26 #[v] ∧ W.ownsRow base 34 4 v pre.length (recCells enR (pre.map (setE ref)))
  r6 : Blk W w.heap.size 26 #[.slice none 0 0]
  r7 : Blk W (w.heap.size + 1) 30 #[.int .i64 0]
  low : Below w.heap.size w W
  sz : base ≤ W.heap.size
theorem AdjI.abide {w : World} {dv eb base : Nat} {ref : ByteArray} (h1 : w.heap.size + 1 < dv) (h2 : dv < eb) (h3 : eb < base) : Abide dv base (AdjI w eb base ref) := by
  rintro pre A B row ⟨⟨v, hv, ho⟩, r6, r7, low, sz⟩ hg hr
  have hne : ∀ q : Nat, q < base → q ≠ dv → some q ≠ row := fun q h1 h2 e => by
    rcases hr q e.symm with h | ⟨h, _⟩
    · exact h2 h
    · omega
  refine ⟨⟨v, hv.grown hg (hne eb h3 (by omega)), ho.kept hg ?_⟩, r6.grown hg (hne _ (by omega) (by omega)), r7.grown hg (hne _ (by omega) (by omega)), low.grown hg low.size (fun k e => by rcases hr k e with h | ⟨h, _⟩ <;> omega), Nat.le_trans sz hg.size⟩
  by_cases hn : v.ownBlock = none
  · exact .inl hn
  · right
    intro e
    cases hb : v.ownBlock with
    | none => exact hn hb
    | some q =>
      rw [hb] at e
      have hq := own_lt ho hb
      rcases hr q e.symm with h | ⟨_, o, ho', hc⟩
      · omega
      · have := own_cells ho q o hb ho'
        rw [hc] at this; cases this
set_option maxRecDepth 100000 in
set_option maxHeartbeats 4000000 in
theorem adjust_any (b : List Int) (A B : Option Addr) (n c c' : Nat) (M : Int) (ref : ByteArray) (w : World) (hl : RecIn intR w w.heap.size A b) (hz : RecIn intR w w.heap.size B (List.replicate n 0)) (hln : Hid (n = b.length)) (hn1 : 1 ≤ n) (hn : n ≤ 100) (hr : ref.size ≤ 60) (hs : Hid (sumL b = 0)) (hM : 0 ≤ M ∧ M ≤ 1000000000) (hb : Hid (∀ k, k < b.length → -M ≤ at0 b k ∧ at0 b k ≤ M)) :
    Calls Try.prog 9 #[.slice A n c, .slice B n c', .string ref] w (AdjPost b M ref w) := by
  have HL := Lib.hid hl; have HZ := Lib.hid hz
  clear hl hz
  have HN := Lib.hid (show (1 : Int) ≤ (n : Int) ∧ (n : Int) ≤ 100 by omega)
  have hr' : decide ((60 : Int) < (ref.size : Int)) = false := by simp; omega
  have hr'' : decide (60 < ref.size) = false := by simp; omega
  have H0 := Lib.hid (show (-1000000000 : Int) ≤ 0 ∧ (0 : Int) ≤ 1000000000 by omega)
  refine (callsIn_wide (n := 3)).1 ?_
  refine callsIn_of_wp_marks Try.func9 rfl trivial ?_ rfl
  refine wpIn_wide.2 ?_
  simp only [Try.ntmps9, List.size_toArray, List.length_cons, List.length_nil, Nat.reduceAdd, Nat.reduceSub, Array.replicate_succ, Array.replicate_zero, List.push_toArray, List.append_toArray, List.nil_append, List.cons_append]
  have K0 := Lib.hid (show Keeps w ((w.alloc (.cells #[.slice none 0 0] 26)).alloc (.cells #[.int .i64 0] 30)) from ((Keeps.refl w).alloc _).alloc _)
  have B6 := Lib.hid ((Blk.new w 26 #[.slice none 0 0]).alloc (.cells #[.int .i64 0] 30))
  have B7 : Hid (Blk ((w.alloc (.cells #[.slice none 0 0] 26)).alloc (.cells #[.int .i64 0] 30)) (w.heap.size + 1) 30 #[.int .i64 0]) := by
    have h := Blk.new (w.alloc (.cells #[.slice none 0 0] 26)) 30 #[.int .i64 0]
    rw [World.size_alloc] at h; exact h
  have hsz2 := Lib.hid (show ((w.alloc (.cells #[.slice none 0 0] 26)).alloc (.cells #[.int .i64 0] 30)).heap.size = w.heap.size + 1 + 1 by simp)
  go_upto_region 2 with fail
  generalize (w.alloc (.cells #[.slice none 0 0] 26)).alloc (.cells #[.int .i64 0] 30) = w2 at *
  go_wp2_with (first | (go_at_call 22; (with_reducible refine (within_yes HN _).mono ?_); rintro e w1 ⟨rfl, rfl⟩) | (at_make; refine wpList_makeR intOk (w0 := w2) rfl (.tmp 31) (.tmp 31) rfl 0 (.int .i64 0) (by kernel_rfl) rfl n rfl rfl (by omega) (Keeps.refl _) ?_; intro w5 ho5 hg5; have HO5 := Lib.hid ho5; clear ho5 hg5))
  go_loopw [9, 35] (fun s i wr => ∃ (k : Nat), k ≤ n ∧ i = .int .i64 (k : Int) ∧ s = .int .i64 (sumL ((negL b).take k)) ∧ OwnR intR w2 wr (.slice (some ⟨w2.heap.size, 0, none⟩) n n) (fillI n k fun i => - at0 b i)) (fun _ i _ => n - (intOf i).toNat)
  case atStart => exact ⟨0, by omega, rfl, rfl, by rw [fillI_zero]; exact HO5.out⟩
  case round =>
    clear HO5
    obtain ⟨k, hk, rfl, rfl, hO⟩ := hrel
    have HO := Lib.hid hO
    clear hO
    by_cases hkn : k < n
    · have hkl : k < b.length := by rw [← hln.out]; exact hkn
      obtain ⟨ba, oa, rfl, _, c0⟩ := (HL.out.keep (K0.out.trans HO.out.2)).int (get_at0 hkl)
      obtain ⟨bb, ob, rfl, _, c1⟩ := (HZ.out.keep (K0.out.trans HO.out.2)).int (j := k) (x := 0) (by rw [List.getElem?_replicate, if_pos hkn])
      have hx := hb.out k hkl
      have hnx := negL_take hkl
      have hset := fillI_set (n := n) (k := k) (f := fun i => - at0 b i) hkn
      (try dsimp only at hset)
      have f0 := HO.out.frozen k
      have d0 := own_cell HO.out (j := k) (by rw [fillI_len]; exact hkn)
      have hbd := sum_bnd ((negL b).take k) (fun x hx => by
        obtain ⟨i, hi⟩ := List.getElem?_of_mem (List.mem_of_mem_take hx)
        have h1 := at0_get hi
        rw [negL_at] at h1
        have hil : i < b.length := by have := (List.getElem?_eq_some_iff.1 hi).1; simpa [negL] using this
        have := hb.out i hil
        omega)
      rw [List.length_take] at hbd
      obtain ⟨x, hxx⟩ : ∃ x, at0 b k = x := ⟨_, rfl⟩
      rw [hxx] at c0 hx hnx hset
      have HXX := Lib.hid hxx
      obtain ⟨s, hss⟩ : ∃ s, sumL ((negL b).take k) = s := ⟨_, rfl⟩
      rw [hss] at hnx hbd ⊢
      have HNX := Lib.hid hnx; have HST := Lib.hid hset
      have HX := Lib.hid (show -1000000000 ≤ x ∧ x ≤ 1000000000 by omega)
      have h0x : IntKind.i64.wrap (0 - x) = -x := by rw [Int.zero_sub]; exact IntWalk.i64_in _ (by omega)
      have h0x' : IntKind.i64.wrap (-x) = -x := IntWalk.i64_in _ (by omega)
      have hsw : IntKind.i64.wrap (s + -x) = s + -x := IntWalk.i64_in _ (by omega)
      have hki : (k : Int) < (n : Int) := by omega
      have hk0 : (0 : Int) ≤ (k : Int) := by omega
      have hkw : IntKind.i64.wrap ((k : Int) + 1) = (k : Int) + 1 := IntWalk.i64_in _ (by omega)
      clear hxx hss hnx hset hbd
      go_upto_region 11 with (first | (go_at_call 33; (with_reducible refine (permit_yes HX _).mono ?_); rintro e w1 ⟨rfl, rfl⟩) | (go_at_call 33; (with_reducible refine (permit_yes H0 _).mono ?_); rintro e w1 ⟨rfl, rfl⟩))
      go_still_tail 12, (by kernel_rfl)
      change wpList _ _ _ _ _ wr.drew
      go_upto_region 12 with fail
      change Code.wp _ _ _ _ (wr.drew.setCell ⟨w2.heap.size, k, none⟩ (.int .i64 (-x)))
      have O2 := Lib.hid (own_set HO.out.drew (-x) (by rw [fillI_len]; exact hkn))
      rw [HST.out] at O2
      clear c0 c1 f0 d0 HO
      generalize wr.drew.setCell ⟨w2.heap.size, k, none⟩ (.int .i64 (-x)) = W3 at *
      have d1 := own_cell O2.out (j := k) (by rw [fillI_len]; exact hkn)
      rw [fillI_at hkn, if_pos (by omega), HXX.out] at d1
      go_wp2_with fail
      go_roundw
      case rel => first | exact ⟨k + 1, by omega, by go_num, by rw [HNX.out, Int.sub_eq_add_neg], O2.out⟩ | ((repeat apply Exists.intro); exact ⟨⟨k + 1, by omega, by go_num, by rw [HNX.out, Int.sub_eq_add_neg], O2.out⟩, rfl⟩)
      case measure => simp [intOf]; omega
    · obtain rfl : n = k := by omega
      have es : sumL ((negL b).take n) = 0 := by rw [List.take_of_length_le (by simp [negL]; have := hln.out; omega), negL_sum, hs.out]; rfl
      rw [es]
      rw [negL_fill hln.out] at HO
      have BD := Lib.hid (blk_of_own HO.out)
      have B6' := Lib.hid (B6.out.below HO.out.2 B6.out.lt)
      have B7' := Lib.hid (B7.out.below HO.out.2 B7.out.lt)
      have K2 := Lib.hid (K0.out.trans HO.out.2)
      have hszr := HO.out.2.size
      clear HO B6 B7 es
      generalize wr = w3 at *
      go_wp2_with (go_at_call 34; (with_reducible refine (settle_mk _ n n ref _).mono ?_); rintro e w6 ⟨rfl, hw6⟩)
      have V0 : Blk w6 w3.heap.size 26 #[.slice none 0 0] := by rw [hw6]; exact ((Blk.new w3 _ _).alloc _).alloc _
      have V1 : Blk w6 (w3.heap.size + 1) 28 #[.slice (some ⟨w2.heap.size, 0, none⟩) n n] := by
        have h := Blk.new (w3.alloc (.cells #[.slice none 0 0] 26)) 28 #[.slice (some ⟨w2.heap.size, 0, none⟩) n n]
        rw [World.size_alloc] at h; rw [hw6]; exact h.alloc _
      have V2 : Blk w6 (w3.heap.size + 1 + 1) 9 #[.string ref] := by
        have h := Blk.new ((w3.alloc (.cells #[.slice none 0 0] 26)).alloc (.cells #[.slice (some ⟨w2.heap.size, 0, none⟩) n n] 28)) 9 #[.string ref]
        rw [World.size_alloc, World.size_alloc] at h; rw [hw6]; exact h
      have vz : w6.heap.size = w3.heap.size + 3 := by rw [hw6]; simp
      have kV : Keeps w3 w6 := by rw [hw6]; exact (((Keeps.refl _).alloc _).alloc _).alloc _
      rw [← hw6]
      clear hw6
      have hdv : w.heap.size + 1 < w2.heap.size := by have := hsz2.out; omega
      have hde : w2.heap.size < w3.heap.size := BD.out.lt
      have hI0 : AdjI w w3.heap.size (w3.heap.size + 3) ref [] w6 := ⟨⟨_, V0, World.ownsRow_nil _ _ _ _⟩, B6'.out.below kV B6'.out.lt, B7'.out.below kV B7'.out.lt, (K2.out.trans kV), by omega⟩
      have BD6 := BD.out.below kV BD.out.lt
      obtain ⟨i0, z0, hi0, hz0, hz1, hz2, hz3⟩ := enOk.info
      have VZ := Lib.hid vz
      clear vz
      refine (wpIn_wide (n := 3)).1 ?_
      refine range_seqR (F := Fence.wide) (n := 3) (gf := 54) (lb := #[.pointer (some ⟨w3.heap.size + 1, 0, none⟩), .pointer (some ⟨w3.heap.size + 1 + 1, 0, none⟩)]) rfl (by omega) rfl trivial (enters_of Try.func54 (by kernel_rfl) rfl)
        (settle_in 2 (negL b) n w2.heap.size (w3.heap.size + 1) (w3.heap.size + 1 + 1) M ref w6 BD6 (Lib.hid (by simp [negL]; exact hln.out)) hn1 (by omega) V1 V2 (by rw [negL_sum, hs.out]; rfl) hM (fun k hk => by rw [negL_at]; have := hb.out k (by simpa [negL] using hk); omega))
        (fun k hk => by have := VZ.out; rcases hk with h | h | h <;> omega) (by have := VZ.out; omega) (fun _ => rfl)
        (AdjI w w3.heap.size (w3.heap.size + 3) ref) (by rw [VZ.out]; exact AdjI.abide hdv hde (by omega)) hI0
        34 (fun p => #[.int .i64 (p.f : Int), .int .i64 (p.t : Int), .int .i64 p.a, .string ref])
        (fun p Bz => { tmps := #[.slice A n c, .slice B n c', .string ref, undef, undef, undef, .pointer (some ⟨w.heap.size, 0, none⟩), .pointer (some ⟨w.heap.size + 1, 0, none⟩), .func (.func 33) #[] #[], .int .i64 0, .slice (some ⟨w2.heap.size, 0, none⟩) n n, u11, .pointer (some ⟨w3.heap.size, 0, none⟩), .pointer (some ⟨Bz, 0, none⟩), .slice A n c, .int .i64 (n : Int), .slice B n c', .int .i64 (n : Int), .bool false, .bool false, .slice A n c, .int .i64 (n : Int), .bool true, .bool false, .bool false, .bool false, .string ref, .int .i64 (ref.size : Int), .bool false, .bool false, .slice A n c, .int .i64 (n : Int), .slice (some ⟨w2.heap.size, 0, none⟩) n n, .slice A n c, .int .i64 (n : Int), .int .i64 (n : Int), .bool false, u37, u38, u39, u40, u41, u42, u43, u44, u45, u46, u47, u48, u49, u50, u51, u52, u53, u54, u55, u56, u57, u58, u59, u60, u61, u62, u63, u64, u65, u66, u67, u68, u69, u70, u71, u72, .int .i64 0, .bool false, .slice (some ⟨w2.heap.size, 0, none⟩) n n, .string ref, .func (.func 54) #[] #[.pointer (some ⟨w3.heap.size + 1, 0, none⟩), .pointer (some ⟨w3.heap.size + 1 + 1, 0, none⟩)], .agg #[.int .i64 (p.f : Int), .int .i64 (p.t : Int), .int .i64 p.a, .string ref], undef, undef, undef, undef, undef, undef, undef, undef], defers := [] })
        ?assign ?body ?done
      case assign =>
        intro lo x W K hK
        gi_wp2
        exact hK
      case body =>
        rintro lo pre ⟨pf, pt, pa⟩ Bx W ⟨⟨v, h8, ho⟩, r6, r7, low, sz⟩ ⟨_, _, _, p4, p5⟩ hlen hB hx
        (try dsimp only at p4 p5)
        have hxB : Blk W Bx 34 #[.int .i64 (pf : Int), .int .i64 (pt : Int), .int .i64 pa, .string ref] := hx
        have x0 : W.cell? ⟨Bx, 0, none⟩ = some (.int .i64 (pf : Int)) := cell_of_blk hxB 0 rfl
        have x1 : W.cell? ⟨Bx, 1, none⟩ = some (.int .i64 (pt : Int)) := cell_of_blk hxB 1 rfl
        have x2 : W.cell? ⟨Bx, 2, none⟩ = some (.int .i64 pa) := cell_of_blk hxB 2 rfl
        have x3 : W.cell? ⟨Bx, 3, none⟩ = some (.string ref) := cell_of_blk hxB 3 rfl
        have y8 : W.cell? ⟨w3.heap.size, 0, none⟩ = some v := cell_of_blk h8 0 rfl
        have hpa : decide (1000000000 < pa) = false := by simp; omega
        obtain ⟨sa, sc, rfl⟩ := own_slice ho
        have on := ho.alloc (.cells #[.int .i64 (pf : Int), .int .i64 (pt : Int), .int .i64 pa, .string ref] 34)
        have c1 := Lib.hid (World.news_of_block (cs := #[.int .i64 (pf : Int), .int .i64 (pt : Int), .int .i64 pa, .string ref]) (t := 34) (fr := (0, 0)) (heap_alloc_new W (.cells #[.int .i64 (pf : Int), .int .i64 (pt : Int), .int .i64 pa, .string ref] 34)))
        have c2 := Lib.hid (show ∀ u ∈ [Value.int .i64 (pf : Int), .int .i64 (pt : Int), .int .i64 pa, .string ref], u.oneCell' = true by simp [Value.oneCell'])
        have c3 : pre.length + 1 ≤ maxLen := by unfold maxLen; omega
        have c4 : (pre.length + 1) * 40 ≤ 140737488355328 := by omega
        have C5 := Lib.hid (show w3.heap.size + 3 ≤ (W.alloc (.cells #[.int .i64 (pf : Int), .int .i64 (pt : Int), .int .i64 pa, .string ref] 34)).heap.size by simp; omega)
        clear p4 p5
        gi_wp2_with (gi_at_builtin; refine wpListIn_append_own_at _ rfl (.tmp 82) (.tmp 84) 26 rfl (w3.heap.size + 3) 34 i0 z0 4 40 Try.underlying26 hi0 hz0 hz1 hz2 hz3 (by decide) _ _ _ rfl on ⟨W.heap.size, 0, none⟩ 1 1 [.int .i64 (pf : Int), .int .i64 (pt : Int), .int .i64 pa, .string ref] rfl rfl c1.out c2.out c3 c4 C5.out ?_; intro v' w5 hown5 hgrow _ hat; obtain ⟨g', cap', rfl, hg', hgl'⟩ := hown5.form (by omega); have h85 := (h8.alloc (.cells #[.int .i64 (pf : Int), .int .i64 (pt : Int), .int .i64 pa, .string ref] 34)).grown hgrow (own_ne on (by omega)); have w8 : w5.cell? ⟨w3.heap.size, 0, none⟩ = some (.slice sa pre.length sc) := cell_of_blk h85 0 rfl; have f8 := h85.frozen 0)
        have hz5 := hgrow.size
        rw [World.size_alloc] at hz5
        have hvz := VZ.out
        have hws := low.size
        have far : ∀ k, k < w3.heap.size + 3 → some k ≠ (Value.slice sa pre.length sc).ownBlock := fun k hk => own_ne on hk
        have keep : ∀ k, k < W.heap.size → k ≠ w3.heap.size → k < w3.heap.size + 3 → (w5.setCell ⟨w3.heap.size, 0, none⟩ (.slice (some ⟨g', 0, none⟩) (pre.length + 1) cap')).heap[k]? = W.heap[k]? := fun k h1 h2 h3 =>
          (Below.heap_setCell w5 _ _ k h2).trans ((hgrow.block k (by simp; omega) (far k h3)).trans (Below.heap_alloc W _ k h1))
        have bel : Below w.heap.size W (w5.setCell ⟨w3.heap.size, 0, none⟩ (.slice (some ⟨g', 0, none⟩) (pre.length + 1) cap')) :=
          ((((Below.refl _ W).alloc (by omega) _).grown hgrow (by simp; omega) (fun k e => by have := own_lt on e; omega))).setCell (p := ⟨w3.heap.size, 0, none⟩) (by simp; omega) _
        refine ⟨?_, ⟨?_, ?_⟩, ⟨⟨_, h85.set_ 0 _, ?_⟩, ?_, ?_, low.trans bel, ?_⟩⟩
        · exact (((KeepsOthers.alloc _ _).trans (KeepsOthers.of_grownBy hgrow (own_cells on))).trans (KeepsOthers.setCell _ _ _)).from _
        · simp [World.setCell]; omega
        · intro k hk hkW
          exact keep k hkW (by rcases hk with h | h | h <;> omega) (by rcases hk with h | h | h <;> omega)
        · rw [List.map_append, recCells_append, List.length_append]
          exact ownsRow_setCell_below hown5 (by simp) _
        · exact (keep _ r6.lt (by omega) (by omega)).trans r6
        · exact (keep _ r7.lt (by omega) (by omega)).trans r7
        · simp [World.setCell]; omega
      case done =>
        rintro D xs W hD hS ⟨⟨v, h8, ho⟩, r6, r7, low, sz⟩ hKD
        have y8 : W.cell? ⟨w3.heap.size, 0, none⟩ = some v := cell_of_blk h8 0 rfl
        have y6 : W.cell? ⟨w.heap.size, 0, none⟩ = some (.slice none 0 0) := cell_of_blk r6 0 rfl
        have y7 : W.cell? ⟨w.heap.size + 1, 0, none⟩ = some (.int .i64 0) := cell_of_blk r7 0 rfl
        have f6 := r6.frozen 0
        have f7 := r7.frozen 0
        obtain ⟨sa, sc, rfl⟩ := own_slice ho
        have hvz := VZ.out
        have hws := low.size
        have hlen : 0 < xs.length ∨ xs.length = 0 := by omega
        have b6 := ((r6.set_ 0 (.slice sa xs.length sc)).far (p := ⟨w.heap.size + 1, 0, none⟩) (show w.heap.size ≠ w.heap.size + 1 by omega) (.int .i64 0))
        have b7 := ((r7.far (p := ⟨w.heap.size, 0, none⟩) (show w.heap.size + 1 ≠ w.heap.size by omega) (.slice sa xs.length sc)).set_ 0 (.int .i64 0))
        have o1 := ownsRow_setCell_below (ownsRow_setCell_below ho (a := ⟨w.heap.size, 0, none⟩) (by simp; omega) (.slice sa xs.length sc)) (a := ⟨w.heap.size + 1, 0, none⟩) (by simp; omega) (.int .i64 0)
        have hKD2 : ((W.setCell ⟨w.heap.size, 0, none⟩ (.slice sa xs.length sc)).setCell ⟨w.heap.size + 1, 0, none⟩ (.int .i64 0)).heap[D]? = some (.deferred (some [])) :=
          ((Below.heap_setCell _ _ _ D (by simp; omega)).trans (Below.heap_setCell W _ _ D (by simp; omega))).trans hKD
        have lowz := (low.setCell (p := ⟨w.heap.size, 0, none⟩) (by simp) (.slice sa xs.length sc)).setCell (p := ⟨w.heap.size + 1, 0, none⟩) (by simp) (.int .i64 0)
        clear y8 y6 y7
        have y8 : W.cell? ⟨w3.heap.size, 0, none⟩ = some (.slice sa xs.length sc) := cell_of_blk h8 0 rfl
        have y6 : W.cell? ⟨w.heap.size, 0, none⟩ = some (.slice none 0 0) := cell_of_blk r6 0 rfl
        have y7 : W.cell? ⟨w.heap.size + 1, 0, none⟩ = some (.int .i64 0) := cell_of_blk r7 0 rfl
        have B6z := Lib.hid b6; have B7z := Lib.hid b7; have O1 := Lib.hid o1; have HKD2 := Lib.hid hKD2; have LZ := Lib.hid lowz
        clear b6 b7 o1 hKD2 lowz hKD r6 r7 low ho h8
        go_wp2
        refine ⟨by simp, .inl ⟨_, _, rfl, run_takeDeferred (by exact HKD2.out), ?_⟩⟩
        generalize (W.setCell ⟨w.heap.size, 0, none⟩ (.slice sa xs.length sc)).setCell ⟨w.heap.size + 1, 0, none⟩ (.int .i64 0) = W2 at *
        have hbD : some D ≠ (Value.slice sa xs.length sc).ownBlock := fun e => by
          have := own_cells O1.out D _ e.symm HKD2.out
          cases this
        have o2 := O1.out.kept (grownBy_putObj' W2 D (.deferred none)) (.inr (fun e => hbD e.symm))
        have r6' : (W2.putObj D (.deferred none)).cell? ⟨w.heap.size, 0, none⟩ = some (.slice sa xs.length sc) := by
          have h : Blk (W2.putObj D (.deferred none)) w.heap.size 26 #[.slice sa xs.length sc] := (World.putObj_heap_other (by omega)).trans B6z.out
          exact cell_of_blk h 0 rfl
        have r7' : (W2.putObj D (.deferred none)).cell? ⟨w.heap.size + 1, 0, none⟩ = some (.int .i64 0) := by
          have h : Blk (W2.putObj D (.deferred none)) (w.heap.size + 1) 30 #[.int .i64 0] := (World.putObj_heap_other (by omega)).trans B7z.out
          exact cell_of_blk h 0 rfl
        have hfin : AdjPost b M ref w (.returned (.tuple #[.slice sa xs.length sc, .int .i64 0])) (W2.putObj D (.deferred none)) := by
          refine ⟨sa, sc, xs, rfl, ?_, hS, LZ.out.trans (below_putObj W2 _ (by omega))⟩
          have e : (xs.map (setE ref)).length = xs.length := by simp
          rw [← e] at o2
          exact RecIn.of_own enOk o2 rfl
        generalize W2.putObj D (.deferred none) = W9 at *
        exact ⟨_, by simp [results, Try.results9, go_sem, r6', r7'], hfin⟩
end Go.Proofs.Ythkmpegpmpdhaaa
