import Derived.Test.YtfdegdfijjfgbaaF
import Derived.Test.YtfdegdfijjfgbaaRows
import Derived.WalkKit
import Derived.WalkSpells
import Derived.WalkLawsBesides
import Derived.Laws.EntriesVeiled
import Derived.ProofKit
import Derived.OpenShut
import Derived.Lib.Hide
import Derived.BigQuiet
import Derived.Deep.QuietTactic
import Derived.Below
import Derived.Laws.OwnMore
import Derived.Deep.AppendLies
import Derived.Deep.Draws
import Derived.Laws.Rows
import Derived.Maps.AppendAt
import Derived.RegionTactic
import Derived.OwnWalk
import Derived.Deep.RegionHeld3
namespace Go.Proofs.Ytfdegdfijjfgbaa
open Go.ChangeShapes Go.WideShapes Go.ChangeAt Go.RowKit
set_option linter.unusedSimpArgs false
set_option linter.unusedVariables false
def hl1 : List Bd := [⟨0, 1, 5⟩, ⟨1, 2, -2⟩]
def hl2 : List Bd := [⟨0, 1, 5⟩, ⟨1, 0, -6⟩]
def hl3 : List Bd := [⟨0, 2, 5⟩]
def hmat : List (List Int) := [[0, 5, 3], [1099511627776, 0, -2], [1099511627776, 1099511627776, 0]]
theorem hc1 (A : Option Addr) (c : Nat) (w : World) (h : Bnds w w.heap.size A hl1) : Calls Try.prog 12 #[.int .i64 3, .slice A 2 c] w fun e w' => ∃ A c, e = .returned (.tuple #[.slice A 3 c, .int .i64 0]) ∧ NumRows w' w'.heap.size A hmat ∧ Keeps w w' := by
  have hh := close_ok 3 hl1 A 2 c w h (by decide) rfl (by decide +kernel) (by decide)
  rw [if_pos (by decide +kernel), show matF 3 (closeM 3 hl1) = hmat by decide +kernel] at hh
  exact hh
theorem hc2 (A : Option Addr) (c : Nat) (w : World) (h : Bnds w w.heap.size A hl2) : Calls Try.prog 12 #[.int .i64 2, .slice A 2 c] w fun e w' => ∃ A c, e = .returned (.tuple #[.slice A 0 c, .int .i64 240]) ∧ NumRows w' w'.heap.size A [] ∧ Keeps w w' := by
  have hh := close_ok 2 hl2 A 2 c w h (by decide) rfl (by decide +kernel) (by decide)
  rw [if_neg (by decide +kernel)] at hh
  exact hh
theorem hc3 (A : Option Addr) (c : Nat) (w : World) (h : Bnds w w.heap.size A hl3) : Calls Try.prog 12 #[.int .i64 2, .slice A 1 c] w fun e w' => ∃ A c, e = .returned (.tuple #[.slice A 0 c, .int .i64 1]) ∧ NumRows w' w'.heap.size A [] ∧ Keeps w w' :=
  close_bad 2 hl3 A 1 c w h (by decide) rfl (show validB 2 hl3 = false by decide +kernel)
theorem hs1 (A : Option Addr) (c : Nat) (w : World) (h : Bnds w w.heap.size A hl1) : Calls Try.prog 17 #[.int .i64 3, .int .i64 4, .slice A 2 c] w fun e w' => ∃ A c, e = .returned (.tuple #[.slice A 3 c, .int .i64 0]) ∧ Nums .i64 w' w'.heap.size A [0, 4, 2] ∧ Keeps w w' := by
  have hh := solve_ok 3 4 hl1 A 2 c w h (by decide) rfl (by decide +kernel) (by decide +kernel) (by decide) (by decide)
  rw [if_pos (by decide +kernel), show row0 3 (solveM 3 4 hl1) = [0, 4, 2] by decide +kernel] at hh
  exact hh
theorem bnds_nil (w : World) (B : Nat) (A : Option Addr) : Bnds w B A [] := fun k o h => by simp at h
theorem hs2 (w : World) : Calls Try.prog 17 #[.int .i64 1, .int .i64 (-3), .slice none 0 0] w fun e w' => ∃ A c, e = .returned (.tuple #[.slice A 1 c, .int .i64 0]) ∧ Nums .i64 w' w'.heap.size A [0] ∧ Keeps w w' := by
  have hh := solve_ok 1 (-3) [] none 0 0 w (bnds_nil _ _ _) (by decide) rfl (by decide +kernel) (by decide +kernel) (by decide) (by decide)
  rw [if_pos (by decide +kernel), show row0 1 (solveM 1 (-3) []) = [0] by decide +kernel] at hh
  exact hh
theorem hs3 (w : World) : Calls Try.prog 17 #[.int .i64 2, .int .i64 (-3), .slice none 0 0] w fun e w' => ∃ A c, e = .returned (.tuple #[.slice A 2 c, .int .i64 0]) ∧ Nums .i64 w' w'.heap.size A [0, -3] ∧ Keeps w w' := by
  have hh := solve_ok 2 (-3) [] none 0 0 w (bnds_nil _ _ _) (by decide) rfl (by decide +kernel) (by decide +kernel) (by decide) (by decide)
  rw [if_pos (by decide +kernel), show row0 2 (solveM 2 (-3) []) = [0, -3] by decide +kernel] at hh
  exact hh
theorem hh1 (v : List Int) (l : List Bd) (A B : Option Addr) (n c m c' : Nat) (w : World) (hv : Nums .i64 w w.heap.size A v) (hl : Bnds w w.heap.size B l) (hn : n = v.length) (hm : m = l.length) (h1 : v.length ≤ 100) (h2 : l.length ≤ 100) (r : Bool) (hr : holdsB v l = r) :
    Calls Try.prog 16 #[.slice A n c, .slice B m c'] w fun e w' => e = .returned (.bool r) ∧ Keeps w w' := holds_any v l A n c B m c' w hv hl (by omega) (by omega) hn hm r hr
theorem hin (l : List Int) (A B : Option Addr) (n c c' : Nat) (w : World) (hl : n = l.length) (h1 : l.length ≤ 100) (hs : Nums .i64 w w.heap.size A l) (hd : Nums .i64 w w.heap.size B l) : Calls Try.prog 18 #[.slice A n c, .slice B n c'] w fun e w' => e = .returned (.bool true) ∧ Keeps w w' :=
  ints_any l l A B n c n c' w hs hd (by omega) (by omega) hl hl true (by simp [same])
theorem hrw (A B : Option Addr) (c c' : Nat) (w : World) (hs : NumRows w w.heap.size A hmat) (hd : NumRows w w.heap.size B hmat) : Calls Try.prog 15 #[.slice A 3 c, .slice B 3 c'] w fun e w' => e = .returned (.bool true) ∧ Keeps w w' :=
  rows_any hmat hmat A B 3 c 3 c' w hs hd (by decide) (by decide) rfl rfl (by decide) (by decide) true (by simp [sameRows])
theorem bnds_lit (w : World) (l : List Bd) (cs : Array Value) (h : cs.toList = bdCells l) : Bnds (w.alloc (.cells cs 32)) (w.alloc (.cells cs 32)).heap.size (some ⟨w.heap.size, 0, none⟩) l := Bnds.of_blk (Blk.new w 32 cs) h (by simp)
theorem rows_lit3 (w : World) (l m q : List Int) (cs ds es : Array Value) (c d e : Nat) (hc : cs.toList = intCells .i64 l) (hd : ds.toList = intCells .i64 m) (he : es.toList = intCells .i64 q) :
    NumRows ((((w.alloc (.cells cs 3)).alloc (.cells ds 3)).alloc (.cells es 3)).alloc (.cells #[.slice (some ⟨w.heap.size, 0, none⟩) l.length (l.length + c), .slice (some ⟨w.heap.size + 1, 0, none⟩) m.length (m.length + d), .slice (some ⟨w.heap.size + 1 + 1, 0, none⟩) q.length (q.length + e)] 30))
      ((((w.alloc (.cells cs 3)).alloc (.cells ds 3)).alloc (.cells es 3)).alloc (.cells #[.slice (some ⟨w.heap.size, 0, none⟩) l.length (l.length + c), .slice (some ⟨w.heap.size + 1, 0, none⟩) m.length (m.length + d), .slice (some ⟨w.heap.size + 1 + 1, 0, none⟩) q.length (q.length + e)] 30)).heap.size (some ⟨w.heap.size + 1 + 1 + 1, 0, none⟩) [l, m, q] := by
  have k1 : Keeps (w.alloc (.cells cs 3)) ((w.alloc (.cells cs 3)).alloc (.cells ds 3)) := (Keeps.refl _).alloc _
  have k2 : Keeps ((w.alloc (.cells cs 3)).alloc (.cells ds 3)) (((w.alloc (.cells cs 3)).alloc (.cells ds 3)).alloc (.cells es 3)) := (Keeps.refl _).alloc _
  have n1 := ((nums_lit w l cs hc).keep k1).keep k2
  have n2 := (nums_lit (w.alloc (.cells cs 3)) m ds hd).keep k2
  have n3 := nums_lit ((w.alloc (.cells cs 3)).alloc (.cells ds 3)) q es he
  have hz : (w.alloc (.cells cs 3)).heap.size = w.heap.size + 1 := by simp
  have hz2 : ((w.alloc (.cells cs 3)).alloc (.cells ds 3)).heap.size = w.heap.size + 1 + 1 := by simp
  have hz3 : (((w.alloc (.cells cs 3)).alloc (.cells ds 3)).alloc (.cells es 3)).heap.size = w.heap.size + 1 + 1 + 1 := by simp
  rw [hz] at n2
  rw [hz2] at n3
  generalize ((w.alloc (.cells cs 3)).alloc (.cells ds 3)).alloc (.cells es 3) = W at *
  have hb := Blk.new W 30 #[.slice (some ⟨w.heap.size, 0, none⟩) l.length (l.length + c), .slice (some ⟨w.heap.size + 1, 0, none⟩) m.length (m.length + d), .slice (some ⟨w.heap.size + 1 + 1, 0, none⟩) q.length (q.length + e)]
  have k3 : Keeps W (W.alloc (.cells #[.slice (some ⟨w.heap.size, 0, none⟩) l.length (l.length + c), .slice (some ⟨w.heap.size + 1, 0, none⟩) m.length (m.length + d), .slice (some ⟨w.heap.size + 1 + 1, 0, none⟩) q.length (q.length + e)] 30)) := (Keeps.refl _).alloc _
  have n1' := n1.keep k3
  have n2' := n2.keep k3
  have n3' := n3.keep k3
  rw [hz3] at hb
  generalize W.alloc _ = W' at *
  intro k x hx
  match k, hx with
  | 0, hx => simp at hx; subst hx; exact ⟨_, 0, _, c, rfl, hb.lt, by rw [hb.cell]; rfl, n1'⟩
  | 1, hx => simp at hx; subst hx; exact ⟨_, 0, _, d, rfl, hb.lt, by rw [hb.cell]; rfl, n2'⟩
  | 2, hx => simp at hx; subst hx; exact ⟨_, 0, _, e, rfl, hb.lt, by rw [hb.cell]; rfl, n3'⟩
set_option maxHeartbeats 4000000 in
set_option maxRecDepth 100000 in
theorem head_any (w : World) : Calls Try.prog 9 #[] w (BoolPost true w) := by
  have B0 := Lib.hid (bnds_lit w hl1 #[.int .i64 0, .int .i64 1, .int .i64 5, .int .i64 1, .int .i64 2, .int .i64 (-2)] rfl)
  have K0 := Lib.hid (show Keeps w (w.alloc (.cells #[.int .i64 0, .int .i64 1, .int .i64 5, .int .i64 1, .int .i64 2, .int .i64 (-2)] 32)) from (Keeps.refl w).alloc _)
  go_enter Try.func9, Try.ntmps9
  go_wp2_with (go_at_call 14; (with_reducible refine (none_any _).mono ?_); rintro e w1 ⟨rfl, rfl⟩)
  refine (hc1 _ _ _ B0.out).mono ?_
  rintro e w1 ⟨A1, c1, rfl, n1, k1⟩
  have N1 := Lib.hid n1; have B1 := Lib.hid (B0.out.keep k1); have K1 := Lib.hid (K0.out.trans k1)
  clear n1 k1 B0 K0
  go_wp2_with fail
  refine (hs1 _ _ _ B1.out).mono ?_
  rintro e w2 ⟨A2, c2, rfl, n2, k2⟩
  have N2 := Lib.hid n2; have B2 := Lib.hid (B1.out.keep k2); have K2 := Lib.hid (K1.out.trans k2); have M2 := Lib.hid (N1.out.keep k2)
  clear n2 k2 B1 K1 N1
  go_wp2_with fail
  have a1 : Keeps w2 (w2.alloc (.cells #[Value.int .i64 0, .int .i64 1, .int .i64 5, .int .i64 1, .int .i64 0, .int .i64 (-6)] 32)) := by (repeat (first | exact Keeps.refl _ | apply Keeps.alloc))
  have LT := bnds_lit w2 hl2 #[.int .i64 0, .int .i64 1, .int .i64 5, .int .i64 1, .int .i64 0, .int .i64 (-6)] rfl
  refine (hc2 _ _ _ LT).mono ?_
  rintro e w3 ⟨A3, c3, rfl, -, hk⟩
  have N2_3 := Lib.hid ((N2.out.keep a1).keep hk)
  have B2_3 := Lib.hid ((B2.out.keep a1).keep hk)
  have M2_3 := Lib.hid ((M2.out.keep a1).keep hk)
  have K_3 := Lib.hid ((K2.out.trans a1).trans hk)
  clear hk K2 N2 B2 M2 a1 LT
  go_wp2_with fail
  have a1 : Keeps w3 (w3.alloc (.cells #[Value.int .i64 0, .int .i64 2, .int .i64 5] 32)) := by (repeat (first | exact Keeps.refl _ | apply Keeps.alloc))
  have LT := bnds_lit w3 hl3 #[.int .i64 0, .int .i64 2, .int .i64 5] rfl
  refine (hc3 _ _ _ LT).mono ?_
  rintro e w4 ⟨A4, c4, rfl, -, hk⟩
  have N2_4 := Lib.hid ((N2_3.out.keep a1).keep hk)
  have B2_4 := Lib.hid ((B2_3.out.keep a1).keep hk)
  have M2_4 := Lib.hid ((M2_3.out.keep a1).keep hk)
  have K_4 := Lib.hid ((K_3.out.trans a1).trans hk)
  clear hk K_3 N2_3 B2_3 M2_3 a1  LT
  go_wp2_with fail
  refine (hs2 _).mono ?_
  rintro e w5 ⟨A5, c5, rfl, -, hk⟩
  have N2_5 := Lib.hid (N2_4.out.keep hk)
  have B2_5 := Lib.hid (B2_4.out.keep hk)
  have M2_5 := Lib.hid (M2_4.out.keep hk)
  have K_5 := Lib.hid (K_4.out.trans hk)
  clear hk K_4 N2_4 B2_4 M2_4 
  go_wp2_with fail
  refine (hs3 _).mono ?_
  rintro e w6 ⟨A6, c6, rfl, nn, hk⟩
  have N2_6 := Lib.hid (N2_5.out.keep hk)
  have B2_6 := Lib.hid (B2_5.out.keep hk)
  have M2_6 := Lib.hid (M2_5.out.keep hk)
  have V_6 := Lib.hid nn
  have K_6 := Lib.hid (K_5.out.trans hk)
  clear hk K_5 N2_5 B2_5 M2_5 nn
  go_wp2_with fail
  have a1 : Keeps w6 ((((w6.alloc (.cells #[Value.int .i64 0, .int .i64 5, .int .i64 3] 3)).alloc (.cells #[Value.int .i64 1099511627776, .int .i64 0, .int .i64 (-2)] 3)).alloc (.cells #[Value.int .i64 1099511627776, .int .i64 1099511627776, .int .i64 0] 3)).alloc (.cells #[Value.slice (some ⟨w6.heap.size, 0, none⟩) 3 3, .slice (some ⟨w6.heap.size + 1, 0, none⟩) 3 3, .slice (some ⟨w6.heap.size + 1 + 1, 0, none⟩) 3 3] 30)) := by (repeat (first | exact Keeps.refl _ | apply Keeps.alloc))
  have LT := rows_lit3 w6 [0, 5, 3] [1099511627776, 0, -2] [1099511627776, 1099511627776, 0] #[.int .i64 0, .int .i64 5, .int .i64 3] #[.int .i64 1099511627776, .int .i64 0, .int .i64 (-2)] #[.int .i64 1099511627776, .int .i64 1099511627776, .int .i64 0] 0 0 0 rfl rfl rfl
  refine (hrw _ _ _ _ _ (M2_6.out.keep a1) LT).mono ?_
  rintro e w7 ⟨rfl, hk⟩
  have N2_7 := Lib.hid ((N2_6.out.keep a1).keep hk)
  have B2_7 := Lib.hid ((B2_6.out.keep a1).keep hk)
  have M2_7 := Lib.hid ((M2_6.out.keep a1).keep hk)
  have V_7 := Lib.hid ((V_6.out.keep a1).keep hk)
  have K_7 := Lib.hid ((K_6.out.trans a1).trans hk)
  clear hk K_6 N2_6 B2_6 M2_6 V_6 a1  LT
  go_wp2_with fail
  have a1 : Keeps w7 (w7.alloc (.cells #[Value.int .i64 0, .int .i64 4, .int .i64 2] 3)) := by (repeat (first | exact Keeps.refl _ | apply Keeps.alloc))
  have LT := nums_lit w7 [0, 4, 2] #[.int .i64 0, .int .i64 4, .int .i64 2] rfl
  refine (hin [0, 4, 2] _ _ 3 _ _ _ rfl (by decide) (N2_7.out.keep a1) LT).mono ?_
  rintro e w8 ⟨rfl, hk⟩
  have N2_8 := Lib.hid ((N2_7.out.keep a1).keep hk)
  have B2_8 := Lib.hid ((B2_7.out.keep a1).keep hk)
  have M2_8 := Lib.hid ((M2_7.out.keep a1).keep hk)
  have V_8 := Lib.hid ((V_7.out.keep a1).keep hk)
  have K_8 := Lib.hid ((K_7.out.trans a1).trans hk)
  clear hk K_7 N2_7 B2_7 M2_7 V_7 a1  LT
  go_wp2_with fail
  have a1 : Keeps w8 (w8.alloc (.cells #[Value.int .i64 0, .int .i64 (-3)] 3)) := by (repeat (first | exact Keeps.refl _ | apply Keeps.alloc))
  have LT := nums_lit w8 [0, -3] #[.int .i64 0, .int .i64 (-3)] rfl
  refine (hin [0, -3] _ _ 2 _ _ _ rfl (by decide) (V_8.out.keep a1) LT).mono ?_
  rintro e w9 ⟨rfl, hk⟩
  have N2_9 := Lib.hid ((N2_8.out.keep a1).keep hk)
  have B2_9 := Lib.hid ((B2_8.out.keep a1).keep hk)
  have M2_9 := Lib.hid ((M2_8.out.keep a1).keep hk)
  have V_9 := Lib.hid ((V_8.out.keep a1).keep hk)
  have K_9 := Lib.hid ((K_8.out.trans a1).trans hk)
  clear hk K_8 N2_8 B2_8 M2_8 V_8 a1  LT
  go_wp2_with fail
  have a1 : Keeps w9 (w9.alloc (.cells #[Value.int .i64 0, .int .i64 5, .int .i64 3] 3)) := by (repeat (first | exact Keeps.refl _ | apply Keeps.alloc))
  have LT := nums_lit w9 [0, 5, 3] #[.int .i64 0, .int .i64 5, .int .i64 3] rfl
  refine (hh1 [0, 5, 3] hl1 _ _ 3 _ 2 _ _ LT (B2_9.out.keep a1) rfl rfl (by decide) (by decide) true (by decide +kernel)).mono ?_
  rintro e w10 ⟨rfl, hk⟩
  have N2_10 := Lib.hid ((N2_9.out.keep a1).keep hk)
  have B2_10 := Lib.hid ((B2_9.out.keep a1).keep hk)
  have M2_10 := Lib.hid ((M2_9.out.keep a1).keep hk)
  have V_10 := Lib.hid ((V_9.out.keep a1).keep hk)
  have K_10 := Lib.hid ((K_9.out.trans a1).trans hk)
  clear hk K_9 N2_9 B2_9 M2_9 V_9 a1  LT
  go_wp2_with fail
  have a1 : Keeps w10 (w10.alloc (.cells #[Value.int .i64 0, .int .i64 6, .int .i64 4] 3)) := by (repeat (first | exact Keeps.refl _ | apply Keeps.alloc))
  have LT := nums_lit w10 [0, 6, 4] #[.int .i64 0, .int .i64 6, .int .i64 4] rfl
  refine (hh1 [0, 6, 4] hl1 _ _ 3 _ 2 _ _ LT (B2_10.out.keep a1) rfl rfl (by decide) (by decide) false (by decide +kernel)).mono ?_
  rintro e w11 ⟨rfl, hk⟩
  have N2_11 := Lib.hid ((N2_10.out.keep a1).keep hk)
  have B2_11 := Lib.hid ((B2_10.out.keep a1).keep hk)
  have M2_11 := Lib.hid ((M2_10.out.keep a1).keep hk)
  have V_11 := Lib.hid ((V_10.out.keep a1).keep hk)
  have K_11 := Lib.hid ((K_10.out.trans a1).trans hk)
  clear hk K_10 N2_10 B2_10 M2_10 V_10 a1  LT
  go_wp2_with fail
  have a1 : Keeps w11 (w11.alloc (.cells #[Value.int .i64 0, .int .i64 0] 3)) := by (repeat (first | exact Keeps.refl _ | apply Keeps.alloc))
  have LT := nums_lit w11 [0, 0] #[.int .i64 0, .int .i64 0] rfl
  refine (hh1 [0, 0] hl1 _ _ 2 _ 2 _ _ LT (B2_11.out.keep a1) rfl rfl (by decide) (by decide) false (by decide +kernel)).mono ?_
  rintro e w12 ⟨rfl, hk⟩
  have N2_12 := Lib.hid ((N2_11.out.keep a1).keep hk)
  have B2_12 := Lib.hid ((B2_11.out.keep a1).keep hk)
  have M2_12 := Lib.hid ((M2_11.out.keep a1).keep hk)
  have V_12 := Lib.hid ((V_11.out.keep a1).keep hk)
  have K_12 := Lib.hid ((K_11.out.trans a1).trans hk)
  clear hk K_11 N2_11 B2_11 M2_11 V_11 a1  LT
  go_wp2_with fail
  refine (hh1 [] [] none none 0 0 0 0 _ (Nums.nil _) (bnds_nil _ _ _) rfl rfl (by decide) (by decide) true (by decide +kernel)).mono ?_
  rintro e w13 ⟨rfl, hk⟩
  have N2_13 := Lib.hid (N2_12.out.keep hk)
  have B2_13 := Lib.hid (B2_12.out.keep hk)
  have M2_13 := Lib.hid (M2_12.out.keep hk)
  have V_13 := Lib.hid (V_12.out.keep hk)
  have K_13 := Lib.hid (K_12.out.trans hk)
  clear hk K_12 N2_12 B2_12 M2_12 V_12 
  go_wp2_with fail
  go_ret
  exact bool_post rfl K_13.out
end Go.Proofs.Ytfdegdfijjfgbaa
