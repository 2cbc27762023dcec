import Derived.Test.YtkfcebojfnnieaaM
import Derived.Test.YtkfcebojfnnieaaRows
import Derived.WalkKit
import Derived.WalkSpells
import Derived.WalkLawsBesides
import Derived.Laws.EntriesVeiled
import Derived.ProofKit
import Derived.OpenShut
import Derived.Lib.Hide
import Derived.BigQuiet
import Derived.Deep.QuietTactic
import Derived.Below
import Derived.Laws.OwnMore
import Derived.Deep.AppendLies
import Derived.Deep.Draws
import Derived.Laws.Rows
import Derived.Maps.AppendAt
import Derived.RegionTactic
import Derived.OwnWalk
import Derived.Deep.RegionHeld3
namespace Go.Proofs.Ytkfcebojfnnieaa
open Go.ChangeShapes Go.WideShapes Go.ChangeAt Go.RowKit
set_option linter.unusedSimpArgs false
set_option linter.unusedVariables false
/-- Two lists of the call's own that lie apart. -/
structure Two (w wr : World) (a b : List Int) (v u : Value) (r : Nat) : Prop where
  ov : wr.ownsRow w.heap.size 3 1 v r (intCells .i64 a)
  ou : wr.ownsRow w.heap.size 3 1 u r (intCells .i64 b)
  apart : ∀ g, v.ownBlock = some g → u.ownBlock ≠ some g
  keeps : Keeps w wr
theorem Two.start (w : World) : Two w w [] [] (.slice none 0 0) (.slice none 0 0) 0 := ⟨World.ownsRow_nil _ _ _ _, World.ownsRow_nil _ _ _ _, fun g h => by simp [Value.ownBlock] at h, Keeps.refl _⟩
theorem Two.mid {w wr w5 : World} {a b : List Int} {v v' u : Value} {r : Nat} {x : Int} (h : Two w wr a b v u r) (g5 : (wr.alloc (.cells #[.int .i64 x] 3)).grownBy w5 v.ownBlock) (h5 : v'.ownBlock = v.ownBlock ∨ v'.ownBlock = some (wr.alloc (.cells #[.int .i64 x] 3)).heap.size) :
    w5.ownsRow w.heap.size 3 1 u r (intCells .i64 b) ∧ (∀ g, v'.ownBlock = some g → u.ownBlock ≠ some g) ∧ Keeps w w5 := by
  have hka : Keeps wr (wr.alloc (.cells #[.int .i64 x] 3)) := (Keeps.refl wr).alloc _
  have hu := own_keeps h.ou hka
  refine ⟨own_grown hu g5 (fun k h1 h2 => h.apart k h2 h1), fun g h1 h2 => ?_, grown_keeps (h.keeps.trans hka) g5 (fun k e => (own_lt h.ov e).1)⟩
  rcases h5 with h5 | h5
  · rw [h5] at h1; exact h.apart g h1 h2
  · rw [h5] at h1; injection h1 with h1
    have := (own_lt h.ou h2).2
    have := hka.size; omega
theorem Two.step {w wr w5 w6 : World} {a b : List Int} {v v' u u' : Value} {r : Nat} {x y : Int} (h : Two w wr a b v u r) (g5 : (wr.alloc (.cells #[.int .i64 x] 3)).grownBy w5 v.ownBlock) (h5 : v'.ownBlock = v.ownBlock ∨ v'.ownBlock = some (wr.alloc (.cells #[.int .i64 x] 3)).heap.size)
    (o5 : w5.ownsRow w.heap.size 3 1 v' (r + 1) (intCells .i64 a ++ [.int .i64 x]))
    (g6 : (w5.alloc (.cells #[.int .i64 y] 3)).grownBy w6 u.ownBlock) (h6 : u'.ownBlock = u.ownBlock ∨ u'.ownBlock = some (w5.alloc (.cells #[.int .i64 y] 3)).heap.size) (o6 : w6.ownsRow w.heap.size 3 1 u' (r + 1) (intCells .i64 b ++ [.int .i64 y])) :
    Two w w6 (a ++ [x]) (b ++ [y]) v' u' (r + 1) := by
  obtain ⟨m1, m2, m3⟩ := h.mid g5 h5
  have hka : Keeps w5 (w5.alloc (.cells #[.int .i64 y] 3)) := (Keeps.refl w5).alloc _
  have hv := own_keeps o5 hka
  refine ⟨by rw [intCells_append]; exact own_grown hv g6 (fun k h1 h2 => m2 k h1 h2), by rw [intCells_append]; exact o6, fun g h1 h2 => ?_, grown_keeps (m3.trans hka) g6 (fun k e => (own_lt m1 e).1)⟩
  rcases h6 with h6 | h6
  · rw [h6] at h2; exact m2 g h1 h2
  · rw [h6] at h2; injection h2 with h2
    have := (own_lt o5 h1).2
    have := hka.size; omega
def bitB (bits : Int) (t : Nat) : Bool := (bits / 2 ^ t).tmod 2 == 1
def takenB (bits : Int) (dest : List Int) (i : Int) : Bool := bitB bits (at' dest i).toNat
def idxF (bits : Int) (dest : List Int) (k : Nat) : List Int := (itemsF k).filter (takenB bits dest)
def partF (bits : Int) (dest : List Int) (k : Nat) : List Int := (idxF bits dest k).map (at' dest)
theorem idx_hit {bits : Int} {dest : List Int} {k t : Nat} (h : dest[k]? = some (t : Int)) (hb : bitB bits t = true) : idxF bits dest (k + 1) = idxF bits dest k ++ [(k : Int)] ∧ partF bits dest (k + 1) = partF bits dest k ++ [(t : Int)] := by
  have e : idxF bits dest (k + 1) = idxF bits dest k ++ [(k : Int)] := by
    unfold idxF; rw [itemsF_succ, List.filter_append]
    have : takenB bits dest (k : Int) = true := by unfold takenB; rw [at_nat h]; exact hb
    simp [this]
  exact ⟨e, by unfold partF; rw [e, List.map_append]; simp [at_nat h]⟩
theorem idx_miss {bits : Int} {dest : List Int} {k t : Nat} (h : dest[k]? = some (t : Int)) (hb : bitB bits t = false) : idxF bits dest (k + 1) = idxF bits dest k ∧ partF bits dest (k + 1) = partF bits dest k := by
  have e : idxF bits dest (k + 1) = idxF bits dest k := by
    unfold idxF; rw [itemsF_succ, List.filter_append]
    have : takenB bits dest (k : Int) = false := by unfold takenB; rw [at_nat h]; exact hb
    simp [this]
  exact ⟨e, by unfold partF; rw [e]⟩
theorem idx_len (bits : Int) (dest : List Int) (k : Nat) : (idxF bits dest k).length ≤ k := by
  unfold idxF; exact Nat.le_trans (List.length_filter_le _ _) (by simp [itemsF])
theorem part_mem {bits : Int} {dest : List Int} {k : Nat} {x : Int} (hk : k ≤ dest.length) (h : x ∈ partF bits dest k) : x ∈ dest := by
  simp only [partF, idxF, List.mem_map, List.mem_filter] at h
  obtain ⟨y, ⟨hy, _⟩, rfl⟩ := h
  rw [mem_items] at hy
  exact at_mem ⟨hy.1, by omega⟩
theorem idx_mem {bits : Int} {dest : List Int} {k : Nat} {x : Int} (h : x ∈ idxF bits dest k) : 0 ≤ x ∧ x < (k : Int) := by
  simp only [idxF, List.mem_filter] at h
  exact mem_items.1 h.1
theorem part_at {bits : Int} {dest : List Int} {i : Int} (h : 0 ≤ i ∧ i < ((partF bits dest dest.length).length : Int)) : at' (partF bits dest dest.length) i = at' dest (at' (idxF bits dest dest.length) i) := by
  have hl : i.toNat < (idxF bits dest dest.length).length := by have := h.2; simp only [partF, List.length_map] at this; omega
  unfold partF
  simp [at', List.getD_eq_getElem?_getD, hl]
theorem filt_at {l : List Int} {q : Int → Bool} {k : Nat} {x : Int} (hx : l[k]? = some x) (hq : q x = true) : (l.filter q)[((l.take k).filter q).length]? = some x := by
  have hl : l = l.take k ++ x :: l.drop (k + 1) := by
    obtain ⟨h1, h2⟩ := List.getElem?_eq_some_iff.1 hx
    conv => lhs; rw [← List.take_append_drop k l]
    rw [List.drop_eq_getElem_cons h1, h2]
  conv => lhs; arg 1; rw [hl]
  rw [List.filter_append, List.filter_cons, if_pos hq, List.getElem?_append_right (Nat.le_refl _), Nat.sub_self]; rfl
theorem read0 {s : List (List Int)} {w : World} {A : Option Addr} (h : NumRows w w.heap.size A s) (hs : 1 ≤ s.length) : ∃ b off A' c', A = some ⟨b, off, none⟩ ∧ w.cell? ⟨b, off, none⟩ = some (.slice A' (wid s) c') := by
  obtain ⟨r0, ho0⟩ := wid_mem hs
  obtain ⟨b, off, A', c', e, hb, c0, hx0⟩ := h 0 r0 ho0
  rw [← wid_of ho0, Nat.add_zero] at c0
  exact ⟨b, off, A', c', e, c0⟩
set_option maxHeartbeats 6000000 in
set_option maxRecDepth 100000 in
theorem parts_in (P : Nat) (s : List (List Int)) (A : Option Addr) (c1 ns : Nat) (l : List Int) (A2 : Option Addr) (c2 m : Nat) (bits : Int) (w : World) (b0 : 0 ≤ bits) (b1 : bits ≤ 18446744073709551615)
    (o1 : NumRows w w.heap.size A s) (o2 : U16s w w.heap.size A2 l) (hns : ns = s.length) (hm : m = l.length) (hns2 : ns ≤ 9223372036854775807)
    (hfew : fewB s = true) (hform : formedB (P : Int) s = true) (n : Nat) (hn : wid s = n) (hn1 : 1 ≤ n) (hn40 : n ≤ 40) (hm1 : m ≤ 100) : Calls Try.prog 9 #[.int .i64 (P : Int), .slice A ns c1, .slice A2 m c2, .int .u64 bits] w (BoolPost true w) := by
  obtain ⟨i0, hi0, hz0, hz1, hz2⟩ := info3
  obtain ⟨f8, f300⟩ := few_spec hfew
  have f1 : 1 ≤ s.length := by
    simp only [formedB, Bool.and_eq_true, decide_eq_true_eq] at hform; exact hform.2.1.1
  obtain ⟨b, off, A', c', hA, hc0⟩ := read0 o1 f1
  subst hA
  rw [hn] at hc0
  have t1 : decide (40 < n) = false := by simp; omega
  have t1' : decide ((40 : Int) < (n : Int)) = false := by simp; omega
  have t2 : (n == 0) = false := by simp; omega
  have t2' : ((n : Int) == 0) = false := by simp; omega
  have t3 : decide (100 < m) = false := by simp; omega
  have t3' : decide ((100 : Int) < (m : Int)) = false := by simp; omega
  have z1 : 0 < ns := by omega
  have z2 : (0 : Int) < (ns : Int) := by omega
  have O1 := Lib.hid o1; have O2 := Lib.hid o2; have HNS := Lib.hid hns; have HM := Lib.hid hm; have HFEW := Lib.hid hfew; have HFORM := Lib.hid hform; have HN := Lib.hid hn; have F300 := Lib.hid (show ∀ r ∈ s, r.length ≤ 5000 from fun r hr => by have := f300 r hr; omega)
  have HC0 := Lib.hid hc0
  have L2 : l.length ≤ 1000000000000 := by omega
  obtain ⟨dest, hdest⟩ : ∃ d, smallF l n = d := ⟨_, rfl⟩
  have dl : m = dest.length := by rw [← hdest, small_len]; exact HM.out
  have db : ∀ x ∈ dest, 0 ≤ x ∧ x < (n : Int) := by rw [← hdest]; exact small_bounds hn1
  have HD := Lib.hid hdest; have DL := Lib.hid dl; have DB := Lib.hid db
  clear o1 o2 hns hm hfew hform hn f300 hc0 hdest dl db
  have hs1 : s.length ≤ 1000 := by omega
  go_enter Try.func9, Try.ntmps9
  go_wp2_with (first | (go_at_call 11; (with_reducible refine (head_any _).mono ?_); rintro e w1 ⟨rfl, hk1⟩) | (go_at_call 12; (with_reducible refine (few_is s _ ns c1 _ (O1.out.keep hk1) hns2 HNS true HFEW).mono ?_); rintro e w2 ⟨rfl, hk2⟩) | (go_at_call 28; (with_reducible refine (formed_is P s _ ns c1 _ (O1.out.keep (hk1.trans hk2)) hs1 F300 HNS true HFORM).mono ?_); rintro e w3 ⟨rfl, hk3⟩; have cc := cell_keep HC0.out ((hk1.trans hk2).trans hk3)))
  have K3 := Lib.hid ((hk1.trans hk2).trans hk3)
  clear hk1 hk2 hk3 cc
  refine (small_any l A2 m c2 n _ (O2.out.1.keep K3.out) O2.out.2 L2 HM.out hn1 (by omega)).mono ?_
  rintro e w4 ⟨A4, c4, rfl, q4', hk4⟩
  rw [HD.out] at q4' ⊢
  rw [← DL.out]
  have Q4 := Lib.hid q4'; have K4 := Lib.hid (K3.out.trans hk4)
  clear q4' hk4 K3
  go_wp2_with fail
  have HB4 := Lib.hid (Two.start w4)
  go_loopw [11, 12, 13] (fun v u i wr => ∃ k r : Nat, k ≤ m ∧ i = .int .i64 (k : Int) ∧ r = (idxF bits dest k).length ∧ Two w4 wr (partF bits dest k) (idxF bits dest k) v u r) (fun _ _ i _ => m - (intOf i).toNat)
  case atStart => exact ⟨0, 0, by omega, rfl, by simp [idxF, itemsF], by simpa [idxF, partF, itemsF] using HB4.out⟩
  case round =>
    obtain ⟨k, r, hk, rfl, hr, hT⟩ := hrel
    have hrk := idx_len bits dest k
    rw [← hr] at hrk
    have HT := Lib.hid hT; have HRR := Lib.hid hr
    have hK := hT.keeps
    clear hT hr
    by_cases hkm : k < m
    · have hok : dest[k]? = some (dest[k]'(by rw [← DL.out]; exact hkm)) := List.getElem?_eq_getElem _
      generalize dest[k]'(by rw [← DL.out]; exact hkm) = x at hok
      have hx := DB.out x (List.mem_of_getElem? hok)
      obtain ⟨t, rfl⟩ : ∃ t : Nat, x = (t : Int) := ⟨x.toNat, by omega⟩
      have ht40 : t < 40 := by omega
      have ht40i : (t : Int) < 40 := by omega
      obtain ⟨b2, off2, rfl, hb2, ca⟩ := (Q4.out.keep hK) k _ hok
      have hki : (k : Int) < (m : Int) := by omega
      have hk0 : (0 : Int) ≤ (k : Int) := by omega
      have ht0 : (0 : Int) ≤ (t : Int) := by omega
      have hkw : IntKind.i64.wrap ((k : Int) + 1) = (k : Int) + 1 := IntWalk.i64_in _ (by omega)
      have HO := Lib.hid hok
      clear hok hx
      cases hbt : bitB bits t
      · have HI := Lib.hid (idx_miss HO.out hbt)
        have hbt' : ((bits / 2 ^ t).tmod 2 == 1) = false := hbt
        clear hbt
        go_wp2_with fail
        go_roundw
        case rel => exact ⟨k + 1, r, by omega, by go_num, by rw [HI.out.1]; exact HRR.out, by rw [HI.out.1, HI.out.2]; exact HT.out⟩
        case measure => simp [intOf]; omega
      · have HI := Lib.hid (idx_hit HO.out hbt)
        have hbt' : ((bits / 2 ^ t).tmod 2 == 1) = true := hbt
        clear hbt
        have RL := Lib.hid (reads_lit wr (.int .i64 (t : Int)) 3)
        have G2 := Lib.hid (show ∀ u ∈ [Value.int .i64 (t : Int)], u.oneCell' = true by simp [Value.oneCell'])
        have G2' := Lib.hid (show ∀ u ∈ [Value.int .i64 (k : Int)], u.oneCell' = true by simp [Value.oneCell'])
        have g3 : r + 1 ≤ maxLen := by unfold maxLen; omega
        have g4 : (r + 1) * 8 ≤ 140737488355328 := by omega
        have G5 := Lib.hid (show w4.heap.size ≤ (wr.alloc (.cells #[Value.int .i64 (t : Int)] 3)).heap.size by have := hK.size; simp; omega)
        have HV := Lib.hid (HT.out.ov.alloc (.cells #[Value.int .i64 (t : Int)] 3))
        go_wp2_with (first | (at_builtin; refine (wpList_append_any _ rfl (.tmp 70) (.tmp 75) 22 rfl w4.heap.size 3 i0 (.int .i64 0) 1 8 Try.underlying22 hi0 hz0 hz1 hz2 rfl (by decide) _ r _ rfl HV.out (wr.heap.size + 1) (some ⟨wr.heap.size, 0, none⟩) 1 1 [.int .i64 (t : Int)] rfl RL.out G2.out g3 g4 G5.out ?_); intro v' w5 hown5 hgrow hat5; have HM5 := Lib.hid (HT.out.mid hgrow hat5); have HO5 := Lib.hid hown5; have HG5 := Lib.hid hgrow; have HA5 := Lib.hid hat5; have HV6 := Lib.hid (HM5.out.1.alloc (.cells #[Value.int .i64 (k : Int)] 3)); have RL6 := Lib.hid (reads_lit w5 (.int .i64 (k : Int)) 3); have G6 := Lib.hid (show w4.heap.size ≤ (w5.alloc (.cells #[Value.int .i64 (k : Int)] 3)).heap.size by have := HM5.out.2.2.size; simp; omega); clear hown5 hgrow hat5) | (at_builtin; refine (wpList_append_any _ rfl (.tmp 77) (.tmp 79) 22 rfl w4.heap.size 3 i0 (.int .i64 0) 1 8 Try.underlying22 hi0 hz0 hz1 hz2 rfl (by decide) _ r _ rfl HV6.out (w5.heap.size + 1) (some ⟨w5.heap.size, 0, none⟩) 1 1 [.int .i64 (k : Int)] rfl RL6.out G2'.out g3 g4 G6.out ?_); intro u' w6 hown6 hgrow6 hat6))
        have HST := Lib.hid (HT.out.step HG5.out HA5.out HO5.out hgrow6 hat6 hown6)
        clear hown6 hgrow6 hat6
        go_roundw
        case rel => exact ⟨k + 1, r + 1, by omega, by go_num, by rw [HI.out.1, List.length_append, ← HRR.out]; rfl, by rw [HI.out.1, HI.out.2]; exact HST.out⟩
        case measure => simp [intOf]; omega
    · obtain rfl : k = m := by omega
      have hok1 : okRun (P : Int) s dest = true := by simp only [okRun, HFORM.out, Bool.true_and, HN.out]; exact row_of DB.out
      have hpd : ∀ x ∈ partF bits dest k, x ∈ dest := fun x hx => part_mem (by rw [← DL.out]; exact Nat.le_refl _) hx
      have hok2 : okRun (P : Int) s (partF bits dest k) = true := by simp only [okRun, HFORM.out, Bool.true_and, HN.out]; exact row_of fun x hx => DB.out x (hpd x hx)
      have hpl : (partF bits dest k).length = r := by rw [HRR.out]; simp [partF]
      obtain ⟨Q, hQ, q1, q2, q3, q4, q5, q6, q7⟩ := okRun_spec hok1
      have hQP : Q = P := by omega
      subst hQP
      have hla := runF_length (dest := dest) (show 0 < Q by omega) q6
      have hls := runF_length (dest := partF bits dest k) (show 0 < Q by omega) q6
      have hrun1 := srun_any Q s dest (some ⟨b, off, none⟩) A4 ns c1 k c4
      have hrun2 := srun_any Q s (partF bits dest k) (some ⟨b, off, none⟩)
      simp only [Int.toNat_natCast, if_pos hok1] at hrun1
      simp only [Int.toNat_natCast, if_pos hok2] at hrun2
      have hkey : (runF Q s dest).filter (takenB bits dest) = (runF Q s (partF bits dest k)).map (at' (idxF bits dest k)) := by
        refine runF_part (takenB bits dest) (by simp [partF]) ?_ ?_
        · rw [← DL.out]; rfl
        · rw [DL.out]; exact fun i hi => part_at hi
      have hin : ∀ x ∈ runF Q s dest, 0 ≤ x ∧ x < (dest.length : Int) := fun x hx => runF_sub hx
      have hins : ∀ x ∈ runF Q s (partF bits dest k), 0 ≤ x ∧ x < ((partF bits dest k).length : Int) := fun x hx => runF_sub hx
      obtain ⟨al, hal⟩ : ∃ a, runF Q s dest = a := ⟨_, rfl⟩
      obtain ⟨so, hso⟩ : ∃ a, runF Q s (partF bits dest k) = a := ⟨_, rfl⟩
      rw [hal] at hla hkey hin hrun1
      rw [hso, hpl] at hls
      rw [hso] at hkey hrun2
      rw [hso, hpl] at hins
      rw [← DL.out] at hla hin
      have HLA := Lib.hid hla.symm; have HLS := Lib.hid hls.symm; have HKEY := Lib.hid hkey; have HIN := Lib.hid hin; have HINS := Lib.hid hins; have HPL := Lib.hid hpl.symm
      have HRUN1 := Lib.hid hrun1; have HRUN2 := Lib.hid hrun2
      obtain ⟨A6, c6, rfl⟩ := own_slice HT.out.ov
      obtain ⟨A7, c7, rfl⟩ := own_slice HT.out.ou
      have QP := Lib.hid (Nums.of_own HT.out.ov HPL.out)
      have QI := Lib.hid (Nums.of_own HT.out.ou HRR.out)
      have Q4w := Lib.hid (Q4.out.keep hK)
      have OW := Lib.hid (O1.out.keep (K4.out.trans hK))
      have KW := Lib.hid (K4.out.trans hK)
      have hd5 : dest.length ≤ 5000 := by rw [← DL.out]; omega
      have hp5 : (partF bits dest k).length ≤ 5000 := by rw [← HPL.out]; omega
      clear hok1 hpd hok2 hpl hQ q3 q4 q5 q6 q7 hla hls hrun1 hrun2 hkey hin hins hal hso hK
      go_wp2_with fail
      refine (HRUN1.out _ OW.out Q4w.out hs1 F300.out hd5 HNS.out DL.out).mono ?_
      rintro e w5 ⟨A8, c8, rfl, q8, hk5⟩
      rw [← HLA.out]
      have Q8 := Lib.hid q8; have QP' := Lib.hid (QP.out.keep hk5); have QI' := Lib.hid (QI.out.keep hk5); have Q4' := Lib.hid (Q4w.out.keep hk5); have OW' := Lib.hid (OW.out.keep hk5); have K5 := Lib.hid (KW.out.trans hk5)
      clear q8 hk5 QP QI Q4w OW KW
      go_wp2_with fail
      refine (HRUN2.out A6 ns c1 r c6 _ OW'.out QP'.out hs1 F300.out hp5 HNS.out HPL.out).mono ?_
      rintro e w6 ⟨A9, c9, rfl, q9, hk6⟩
      rw [← HLS.out]
      have Q9 := Lib.hid q9; have Q8' := Lib.hid (Q8.out.keep hk6); have QI := Lib.hid (QI'.out.keep hk6); have Q4w := Lib.hid (Q4'.out.keep hk6); have K6 := Lib.hid (K5.out.trans hk6)
      clear q9 hk6 QP' QI' Q4' OW' K5 Q8
      go_wp2_with fail
      go_loopw [18, 19] (fun v i wi => ∃ j p : Nat, j ≤ k ∧ i = .int .i64 (j : Int) ∧ v = .int .i64 (p : Int) ∧ p = ((al.take j).filter (takenB bits dest)).length ∧ Keeps w6 wi) (fun _ i _ => k - (intOf i).toNat)
      case atStart => exact ⟨0, 0, by omega, rfl, rfl, by simp, Keeps.refl _⟩
      case round =>
        obtain ⟨j, p, hj, rfl, rfl, hp, hK⟩ := hrel
        have HP := Lib.hid hp
        have hpj : p ≤ j := by rw [hp]; exact Nat.le_trans (List.length_filter_le _ _) (by simp; omega)
        clear hp
        by_cases hjk : j < k
        · have hok : al[j]? = some (al[j]'(by rw [← HLA.out]; exact hjk)) := List.getElem?_eq_getElem _
          generalize al[j]'(by rw [← HLA.out]; exact hjk) = x at hok
          have hx := HIN.out x (List.mem_of_getElem? hok)
          obtain ⟨t, rfl⟩ : ∃ t : Nat, x = (t : Int) := ⟨x.toNat, by omega⟩
          have htk : t < k := by omega
          have hok2 : dest[t]? = some (dest[t]'(by rw [← DL.out]; exact htk)) := List.getElem?_eq_getElem _
          generalize dest[t]'(by rw [← DL.out]; exact htk) = y at hok2
          have hy := DB.out y (List.mem_of_getElem? hok2)
          obtain ⟨z, rfl⟩ : ∃ z : Nat, y = (z : Int) := ⟨y.toNat, by omega⟩
          have hz40 : z < 40 := by omega
          have hz40i : (z : Int) < 40 := by omega
          have htb : takenB bits dest (t : Int) = bitB bits z := by unfold takenB; rw [at_nat hok2]; rfl
          obtain ⟨b8, off8, rfl, hb8, ca⟩ := (Q8'.out.keep hK) j _ hok
          obtain ⟨b4, off4, rfl, hb4, cb⟩ := (Q4w.out.keep hK) t _ hok2
          have hji : (j : Int) < (k : Int) := by omega
          have hj0 : (0 : Int) ≤ (j : Int) := by omega
          have hti : (t : Int) < (k : Int) := by omega
          have hz0 : (0 : Int) ≤ (z : Int) := by omega
          have hjw : IntKind.i64.wrap ((j : Int) + 1) = (j : Int) + 1 := IntWalk.i64_in _ (by omega)
          have u1 : decide ((t : Int) < 0) = false := by simp
          have u2 : decide (k ≤ t) = false := by simp; omega
          have u3 : decide ((k : Int) ≤ (t : Int)) = false := by simp; omega
          have hts : al.take (j + 1) = al.take j ++ [(t : Int)] := by rw [List.take_add_one, hok]; rfl
          have HTS := Lib.hid hts
          clear hts hx hy hok2
          cases hbz : bitB bits z
          · have hF : ((al.take (j + 1)).filter (takenB bits dest)).length = p := by
              rw [HTS.out, List.filter_append, HP.out, List.length_append]
              simp [htb, hbz]
            have HFF := Lib.hid hF.symm
            have hbz' : ((bits / 2 ^ z).tmod 2 == 1) = false := hbz
            clear hF hbz htb hok
            go_wp2_with fail
            go_roundw
            case rel => exact ⟨j + 1, p, by omega, by go_num, rfl, HFF.out, hK⟩
            case measure => simp [intOf]; omega
          · have hF : ((al.take (j + 1)).filter (takenB bits dest)).length = p + 1 := by
              rw [HTS.out, List.filter_append, HP.out, List.length_append]
              simp [htb, hbz]
            have HFF := Lib.hid hF.symm
            have hfa := filt_at hok (q := takenB bits dest) (by rw [htb]; exact hbz)
            rw [← HP.out, HKEY.out, List.getElem?_map] at hfa
            have hpr : p < r := by
              rcases Nat.lt_or_ge p r with h | h
              · exact h
              · rw [List.getElem?_eq_none (by rw [← HLS.out]; exact h)] at hfa; cases hfa
            have hok3 : so[p]? = some (so[p]'(by rw [← HLS.out]; exact hpr)) := List.getElem?_eq_getElem _
            rw [hok3] at hfa
            generalize so[p]'(by rw [← HLS.out]; exact hpr) = g at hok3 hfa
            have hg := HINS.out g (List.mem_of_getElem? hok3)
            obtain ⟨u, rfl⟩ : ∃ u : Nat, g = (u : Int) := ⟨g.toNat, by omega⟩
            have hur : u < r := by omega
            have hok4 : (idxF bits dest k)[u]? = some ((idxF bits dest k)[u]'(by rw [← HRR.out]; exact hur)) := List.getElem?_eq_getElem _
            generalize (idxF bits dest k)[u]'(by rw [← HRR.out]; exact hur) = v at hok4
            have hvt : v = (t : Int) := by
              simp only [Option.map_some, Option.some.injEq] at hfa
              rw [at_nat hok4] at hfa; exact hfa
            subst hvt
            obtain ⟨b9, off9, rfl, hb9, cc⟩ := (Q9.out.keep hK) p _ hok3
            obtain ⟨b7, off7, rfl, hb7, cd⟩ := (QI.out.keep hK) u _ hok4
            have hbz' : ((bits / 2 ^ z).tmod 2 == 1) = true := hbz
            have hpi : (p : Int) < (r : Int) := by omega
            have hui : (u : Int) < (r : Int) := by omega
            have hpw : IntKind.i64.wrap ((p : Int) + 1) = (p : Int) + 1 := IntWalk.i64_in _ (by omega)
            have v1 : decide (r ≤ p) = false := by simp; omega
            have v1' : decide ((r : Int) ≤ (p : Int)) = false := by simp; omega
            have v2 : decide ((u : Int) < 0) = false := by simp
            have v3 : decide (r ≤ u) = false := by simp; omega
            have v3' : decide ((r : Int) ≤ (u : Int)) = false := by simp; omega
            have v4 : ((t : Int) != (t : Int)) = false := by simp
            clear hF hbz htb hok hfa hok3 hok4 hg
            go_wp2_with fail
            go_quiet (fail)
            go_wp2_with fail
            go_roundw
            case rel => exact ⟨j + 1, p + 1, by omega, by go_num, by go_num, HFF.out, hK.drewN _⟩
            case measure => simp [intOf]; omega
        · obtain rfl : j = k := by omega
          have hpr : p = r := by
            rw [HP.out, take_all (by rw [← HLA.out]; exact Nat.le_refl _), HKEY.out, List.length_map, ← HLS.out]
          subst hpr
          have v1 : ((p : Int) == (p : Int)) = true := by simp
          go_wp2_with fail
          go_ret
          exact bool_post rfl (K6.out.trans hK)
set_option maxHeartbeats 2000000 in
set_option maxRecDepth 100000 in
theorem law_parts (P : Int) (s : List (List Int)) (A : Option Addr) (c1 : Nat) (l : List Int) (A2 : Option Addr) (c2 : Nat) (bits : Int) (w : World) (o1 : NumRows w w.heap.size A s) (len1 : s.length ≤ maxLen) (o2 : U16s w w.heap.size A2 l) (len2 : l.length ≤ maxLen) (b0 : 0 ≤ bits) (b1 : bits ≤ 18446744073709551615) :
    Calls Try.prog 9 #[.int .i64 P, .slice A s.length c1, .slice A2 l.length c2, .int .u64 bits] w (BoolPost true w) := by
  unfold maxLen at len1 len2
  obtain ⟨ns, hns⟩ : ∃ ns, ns = s.length := ⟨_, rfl⟩
  obtain ⟨m, hm⟩ : ∃ m, m = l.length := ⟨_, rfl⟩
  rw [← hns] at len1 ⊢
  rw [← hm] at len2 ⊢
  have HNS := Lib.hid hns; have HM := Lib.hid hm
  cases hfew : fewB s
  · have HFEW := Lib.hid hfew
    clear hfew hns hm
    go_enter Try.func9, Try.ntmps9
    go_wp2_with (first | (go_at_call 11; (with_reducible refine (head_any _).mono ?_); rintro e w1 ⟨rfl, hk1⟩) | (go_at_call 12; (with_reducible refine (few_is s _ ns c1 _ (o1.keep hk1) len1 HNS false HFEW).mono ?_); rintro e w2 ⟨rfl, hk2⟩))
    go_ret
    exact bool_post rfl (hk1.trans hk2)
  obtain ⟨f8, f300⟩ := few_spec hfew
  have HFEW := Lib.hid hfew
  have F300 := Lib.hid (show ∀ r ∈ s, r.length ≤ 5000 from fun r hr => by have := f300 r hr; omega)
  have hs1 : s.length ≤ 1000 := by omega
  cases hform : formedB P s
  · have HFORM := Lib.hid hform
    clear hfew hform hns hm f300
    go_enter Try.func9, Try.ntmps9
    go_wp2_with (first | (go_at_call 11; (with_reducible refine (head_any _).mono ?_); rintro e w1 ⟨rfl, hk1⟩) | (go_at_call 12; (with_reducible refine (few_is s _ ns c1 _ (o1.keep hk1) len1 HNS true HFEW).mono ?_); rintro e w2 ⟨rfl, hk2⟩) | (go_at_call 28; (with_reducible refine (formed_is P s _ ns c1 _ (o1.keep (hk1.trans hk2)) hs1 F300 HNS false HFORM).mono ?_); rintro e w3 ⟨rfl, hk3⟩))
    go_ret
    exact bool_post rfl ((hk1.trans hk2).trans hk3)
  have hPP := hform
  simp only [formedB, machB, Bool.and_eq_true, decide_eq_true_eq] at hPP
  by_cases ok : wid s ≤ 40 ∧ 1 ≤ wid s ∧ m ≤ 100
  · obtain ⟨Q, rfl⟩ : ∃ Q : Nat, P = (Q : Int) := ⟨P.toNat, by omega⟩
    exact parts_in Q s A c1 ns l A2 c2 m bits w b0 b1 o1 o2 hns hm len1 hfew hform (wid s) rfl ok.2.1 ok.1 ok.2.2
  obtain ⟨b, off, A', c', hA, hc0⟩ := read0 o1 hPP.2.1.1
  subst hA
  have HFORM := Lib.hid hform
  have z1 : 0 < ns := by omega
  have z2 : (0 : Int) < (ns : Int) := by omega
  have HC0 := Lib.hid hc0
  generalize wid s = n at *
  clear hfew hform hns hm f300 hPP hc0
  by_cases t1 : 40 < n
  · have t1' : decide (40 < n) = true := by simpa using t1
    have t1'' : decide ((40 : Int) < (n : Int)) = true := by simp; omega
    clear ok
    go_enter Try.func9, Try.ntmps9
    go_wp2_with (first | (go_at_call 11; (with_reducible refine (head_any _).mono ?_); rintro e w1 ⟨rfl, hk1⟩) | (go_at_call 12; (with_reducible refine (few_is s _ ns c1 _ (o1.keep hk1) len1 HNS true HFEW).mono ?_); rintro e w2 ⟨rfl, hk2⟩) | (go_at_call 28; (with_reducible refine (formed_is P s _ ns c1 _ (o1.keep (hk1.trans hk2)) hs1 F300 HNS true HFORM).mono ?_); rintro e w3 ⟨rfl, hk3⟩; have cc := cell_keep HC0.out ((hk1.trans hk2).trans hk3)))
    go_ret
    exact bool_post rfl ((hk1.trans hk2).trans hk3)
  have t1' : decide (40 < n) = false := by simpa using t1
  have t1'' : decide ((40 : Int) < (n : Int)) = false := by simp; omega
  by_cases t2 : n = 0
  · subst t2
    clear ok
    go_enter Try.func9, Try.ntmps9
    go_wp2_with (first | (go_at_call 11; (with_reducible refine (head_any _).mono ?_); rintro e w1 ⟨rfl, hk1⟩) | (go_at_call 12; (with_reducible refine (few_is s _ ns c1 _ (o1.keep hk1) len1 HNS true HFEW).mono ?_); rintro e w2 ⟨rfl, hk2⟩) | (go_at_call 28; (with_reducible refine (formed_is P s _ ns c1 _ (o1.keep (hk1.trans hk2)) hs1 F300 HNS true HFORM).mono ?_); rintro e w3 ⟨rfl, hk3⟩; have cc := cell_keep HC0.out ((hk1.trans hk2).trans hk3)))
    go_ret
    exact bool_post rfl ((hk1.trans hk2).trans hk3)
  · have t2' : (n == 0) = false := by simpa using t2
    have t2'' : ((n : Int) == 0) = false := by simp; omega
    have t3 : 100 < m := by omega
    have t3' : decide (100 < m) = true := by simpa using t3
    have t3'' : decide ((100 : Int) < (m : Int)) = true := by simp; omega
    clear ok
    go_enter Try.func9, Try.ntmps9
    go_wp2_with (first | (go_at_call 11; (with_reducible refine (head_any _).mono ?_); rintro e w1 ⟨rfl, hk1⟩) | (go_at_call 12; (with_reducible refine (few_is s _ ns c1 _ (o1.keep hk1) len1 HNS true HFEW).mono ?_); rintro e w2 ⟨rfl, hk2⟩) | (go_at_call 28; (with_reducible refine (formed_is P s _ ns c1 _ (o1.keep (hk1.trans hk2)) hs1 F300 HNS true HFORM).mono ?_); rintro e w3 ⟨rfl, hk3⟩; have cc := cell_keep HC0.out ((hk1.trans hk2).trans hk3)))
    go_ret
    exact bool_post rfl ((hk1.trans hk2).trans hk3)
end Go.Proofs.Ytkfcebojfnnieaa
