import Derived.Test.YtkfcebojfnnieaaH
import Derived.Test.YtkfcebojfnnieaaRows
import Derived.WalkKit
import Derived.WalkSpells
import Derived.WalkLawsBesides
import Derived.Laws.EntriesVeiled
import Derived.ProofKit
import Derived.OpenShut
import Derived.Lib.Hide
import Derived.BigQuiet
import Derived.Deep.QuietTactic
import Derived.Below
import Derived.Laws.OwnMore
import Derived.Deep.AppendLies
import Derived.Deep.Draws
import Derived.Laws.Rows
import Derived.Maps.AppendAt
import Derived.RegionTactic
import Derived.OwnWalk
import Derived.Deep.RegionHeld3
namespace Go.Proofs.Ytkfcebojfnnieaa
open Go.ChangeShapes Go.WideShapes Go.ChangeAt Go.RowKit
set_option linter.unusedSimpArgs false
set_option linter.unusedVariables false
theorem nums_lit (w : World) (l : List Int) (cs : Array Value) (h : cs.toList = intCells .i64 l) : Nums .i64 (w.alloc (.cells cs 3)) (w.alloc (.cells cs 3)).heap.size (some ⟨w.heap.size, 0, none⟩) l :=
  Nums.of_blk (Blk.new w 3 cs) h (by simp)
theorem hp1 (w : World) : Calls Try.prog 13 #[.int .i64 2, .int .i64 5] w (PairPost 3 0 w) := passes_ok 2 5 w (by decide) (by decide) (by decide) (3, 0) (by decide)
theorem hp2 (w : World) : Calls Try.prog 13 #[.int .i64 8, .int .i64 8] w (PairPost 1 0 w) := passes_ok 8 8 w (by decide) (by decide) (by decide) (1, 0) (by decide)
theorem hp3 (w : World) : Calls Try.prog 13 #[.int .i64 2, .int .i64 0] w (PairPost 1 0 w) := passes_ok 2 0 w (by decide) (by decide) (by decide) (1, 0) (by decide)
theorem hp4 (w : World) : Calls Try.prog 13 #[.int .i64 2, .int .i64 17] w (PairPost 0 140 w) := passes_ok 2 17 w (by decide) (by decide) (by decide) (0, 140) (by decide)
def hrows : List (List Int) := [[0, 1, 0, 1], [0, 0, 1, 1]]
theorem hs1 (w : World) : Calls Try.prog 15 #[.int .i64 2, .int .i64 2, .int .i64 4] w fun e w' => ∃ A c, e = .returned (.tuple #[.slice A 2 c, .int .i64 0]) ∧ NumRows w' w'.heap.size A hrows ∧ Keeps w w' := by
  have h := scheme_ok 2 2 4 w (by decide) (by decide) (by decide) (by decide) (by decide) (by decide)
  rw [show schemeF 2 2 4 = hrows by decide] at h
  exact h
theorem hs2 (w : World) : Calls Try.prog 15 #[.int .i64 2, .int .i64 2, .int .i64 5] w fun e w' => ∃ A c, e = .returned (.tuple #[.slice A 0 c, .int .i64 140]) ∧ NumRows w' w'.heap.size A [] ∧ Keeps w w' :=
  scheme_few 2 2 5 w (by decide) (by decide) (by decide) (by decide) (by decide) (by decide)
theorem hr1 (A B : Option Addr) (c c' : Nat) (w : World) (hs : NumRows w w.heap.size A hrows) (hd : Nums .i64 w w.heap.size B [3, 1, 3, 0]) :
    Calls Try.prog 17 #[.int .i64 2, .slice A 2 c, .slice B 4 c'] w fun e w' => ∃ A c, e = .returned (.tuple #[.slice A 4 c, .int .i64 0]) ∧ Nums .i64 w' w'.heap.size A [3, 1, 0, 2] ∧ Keeps w w' := by
  have h := srun_any 2 hrows [3, 1, 3, 0] A B 2 c 4 c' w hs hd (by decide) (by decide) (by decide) rfl rfl
  rw [if_pos (by decide), show runF (Int.toNat 2) hrows [3, 1, 3, 0] = [3, 1, 0, 2] by decide] at h
  exact h
theorem hr2 (A B : Option Addr) (c c' : Nat) (w : World) (hs : NumRows w w.heap.size A hrows) (hd : Nums .i64 w w.heap.size B [4]) :
    Calls Try.prog 17 #[.int .i64 2, .slice A 2 c, .slice B 1 c'] w fun e w' => ∃ A c, e = .returned (.tuple #[.slice A 0 c, .int .i64 1]) ∧ Nums .i64 w' w'.heap.size A [] ∧ Keeps w w' := by
  have h := srun_any 2 hrows [4] A B 2 c 1 c' w hs hd (by decide) (by decide) (by decide) rfl rfl
  rw [if_neg (by decide)] at h
  exact h
theorem hrw (A B : Option Addr) (c c' : Nat) (w : World) (hs : NumRows w w.heap.size A hrows) (hd : NumRows w w.heap.size B hrows) : Calls Try.prog 19 #[.slice A 2 c, .slice B 2 c'] w fun e w' => e = .returned (.bool true) ∧ Keeps w w' :=
  rows_any hrows hrows A B 2 c 2 c' w hs hd (by decide) (by decide) rfl rfl (by decide) (by decide) true (by decide)
theorem hpa (A B : Option Addr) (c c' : Nat) (w : World) (hs : Nums .i64 w w.heap.size A [0, 1, 2, 3]) (hd : Nums .i64 w w.heap.size B [1, 0, 1, 0]) :
    Calls Try.prog 21 #[.int .i64 2, .slice A 4 c, .slice B 4 c'] w fun e w' => ∃ A c, e = .returned (.slice A 4 c) ∧ Nums .i64 w' w'.heap.size A [1, 3, 0, 2] ∧ Keeps w w' :=
  spass_any 2 [0, 1, 2, 3] [1, 0, 1, 0] A B 4 c 4 c' w hs hd (by decide) (by decide) rfl rfl [1, 3, 0, 2] (by decide)
theorem hin (l : List Int) (A B : Option Addr) (c c' : Nat) (w : World) (hl : l.length = 4) (hs : Nums .i64 w w.heap.size A l) (hd : Nums .i64 w w.heap.size B l) : Calls Try.prog 20 #[.slice A 4 c, .slice B 4 c'] w fun e w' => e = .returned (.bool true) ∧ Keeps w w' :=
  ints_any l l A B 4 c 4 c' w hs hd (by omega) (by omega) hl.symm hl.symm true (by simp [same])
theorem rows_lit2 (w : World) (l m : List Int) (cs ds : Array Value) (c d : Nat) (hc : cs.toList = intCells .i64 l) (hd : ds.toList = intCells .i64 m) :
    NumRows (((w.alloc (.cells cs 3)).alloc (.cells ds 3)).alloc (.cells #[.slice (some ⟨w.heap.size, 0, none⟩) l.length c, .slice (some ⟨w.heap.size + 1, 0, none⟩) m.length d] 22))
      (((w.alloc (.cells cs 3)).alloc (.cells ds 3)).alloc (.cells #[.slice (some ⟨w.heap.size, 0, none⟩) l.length c, .slice (some ⟨w.heap.size + 1, 0, none⟩) m.length d] 22)).heap.size (some ⟨w.heap.size + 1 + 1, 0, none⟩) [l, m] := by
  have k1 : Keeps (w.alloc (.cells cs 3)) ((w.alloc (.cells cs 3)).alloc (.cells ds 3)) := (Keeps.refl _).alloc _
  have n1 := nums_lit w l cs hc
  have n2 := nums_lit (w.alloc (.cells cs 3)) m ds hd
  have hb := Blk.new ((w.alloc (.cells cs 3)).alloc (.cells ds 3)) 22 #[.slice (some ⟨w.heap.size, 0, none⟩) l.length c, .slice (some ⟨w.heap.size + 1, 0, none⟩) m.length d]
  have k2 : Keeps ((w.alloc (.cells cs 3)).alloc (.cells ds 3)) (((w.alloc (.cells cs 3)).alloc (.cells ds 3)).alloc (.cells #[.slice (some ⟨w.heap.size, 0, none⟩) l.length c, .slice (some ⟨w.heap.size + 1, 0, none⟩) m.length d] 22)) := (Keeps.refl _).alloc _
  have n1' := (n1.keep k1).keep k2
  have n2' := n2.keep k2
  have hz : (w.alloc (.cells cs 3)).heap.size = w.heap.size + 1 := by simp
  have hz2 : ((w.alloc (.cells cs 3)).alloc (.cells ds 3)).heap.size = w.heap.size + 1 + 1 := by simp
  rw [hz] at n2'
  rw [hz2] at hb
  generalize ((w.alloc (.cells cs 3)).alloc (.cells ds 3)).alloc _ = W at *
  intro k x hx
  match k, hx with
  | 0, hx => simp at hx; subst hx; exact ⟨_, 0, _, c, rfl, hb.lt, by rw [hb.cell]; rfl, n1'⟩
  | 1, hx => simp at hx; subst hx; exact ⟨_, 0, _, d, rfl, hb.lt, by rw [hb.cell]; rfl, n2'⟩
set_option maxHeartbeats 4000000 in
set_option maxRecDepth 100000 in
theorem head_any (w : World) : Calls Try.prog 11 #[] w (BoolPost true w) := by
  go_enter Try.func11, Try.ntmps11
  go_wp2_with (first | (go_at_call 13; (with_reducible refine (hp1 _).mono ?_); rintro e w1 ⟨rfl, hk1⟩) | (go_at_call 13; (with_reducible refine (hp2 _).mono ?_); rintro e w2 ⟨rfl, hk2⟩) | (go_at_call 13; (with_reducible refine (hp3 _).mono ?_); rintro e w3 ⟨rfl, hk3⟩) | (go_at_call 13; (with_reducible refine (hp4 _).mono ?_); rintro e w4 ⟨rfl, hk4⟩) | (go_at_call 15; (with_reducible refine (hs1 _).mono ?_); rintro e w5 ⟨A1, c1, rfl, hn1, hk5⟩; have HR := Lib.hid hn1; clear hn1) | (go_at_call 15; (with_reducible refine (hs2 _).mono ?_); rintro e w6 ⟨A2, c2, rfl, hn2, hk6⟩; clear hn2))
  have K6 := ((((hk1.trans hk2).trans hk3).trans hk4).trans hk5).trans hk6
  have HR6 := Lib.hid (HR.out.keep hk6)
  have K := Lib.hid K6
  clear hk1 hk2 hk3 hk4 hk5 hk6 K6 HR
  have a1 : Keeps w6 (w6.alloc (.cells #[Value.int .i64 3, .int .i64 1, .int .i64 3, .int .i64 0] 3)) := (Keeps.refl w6).alloc _
  have N1 := Lib.hid (nums_lit w6 [3, 1, 3, 0] #[.int .i64 3, .int .i64 1, .int .i64 3, .int .i64 0] rfl)
  refine (hr1 _ _ _ _ _ (HR6.out.keep a1) N1.out).mono ?_
  rintro e w7 ⟨A3, c3, rfl, hn3, hk7⟩
  have O3 := Lib.hid hn3
  have K7 := Lib.hid ((K.out.trans a1).trans hk7)
  have HR7 := Lib.hid ((HR6.out.keep a1).keep hk7)
  clear hn3 a1 hk7 N1 K HR6
  go_wp2_with fail
  have a1 : Keeps w7 (w7.alloc (.cells #[Value.int .i64 4] 3)) := (Keeps.refl w7).alloc _
  have N1 := Lib.hid (nums_lit w7 [4] #[.int .i64 4] rfl)
  refine (hr2 _ _ _ _ _ (HR7.out.keep a1) N1.out).mono ?_
  rintro e w8 ⟨A4, c4, rfl, hn4, hk8⟩
  have O8 := Lib.hid ((O3.out.keep a1).keep hk8)
  have K8 := Lib.hid ((K7.out.trans a1).trans hk8)
  have HR8 := Lib.hid ((HR7.out.keep a1).keep hk8)
  clear hn4 a1 hk8 N1 K7 HR7 O3
  go_wp2_with fail
  have L1 := rows_lit2 w8 [0, 1, 0, 1] [0, 0, 1, 1] #[.int .i64 0, .int .i64 1, .int .i64 0, .int .i64 1] #[.int .i64 0, .int .i64 0, .int .i64 1, .int .i64 1] 4 4 rfl rfl
  have kl : Keeps w8 (((w8.alloc (.cells #[.int .i64 0, .int .i64 1, .int .i64 0, .int .i64 1] 3)).alloc (.cells #[.int .i64 0, .int .i64 0, .int .i64 1, .int .i64 1] 3)).alloc (.cells #[.slice (some ⟨w8.heap.size, 0, none⟩) 4 4, .slice (some ⟨w8.heap.size + 1, 0, none⟩) 4 4] 22)) := (((Keeps.refl w8).alloc _).alloc _).alloc _
  refine (hrw _ _ _ _ _ (HR8.out.keep kl) L1).mono ?_
  rintro e w9 ⟨rfl, hk9⟩
  have O9 := Lib.hid ((O8.out.keep kl).keep hk9)
  have K9 := Lib.hid ((K8.out.trans kl).trans hk9)
  clear L1 kl hk9 HR8 O8 K8
  go_wp2_with fail
  have N1 := nums_lit w9 [0, 1, 2, 3] #[.int .i64 0, .int .i64 1, .int .i64 2, .int .i64 3] rfl
  have N2 := nums_lit (w9.alloc (.cells #[.int .i64 0, .int .i64 1, .int .i64 2, .int .i64 3] 3)) [1, 0, 1, 0] #[.int .i64 1, .int .i64 0, .int .i64 1, .int .i64 0] rfl
  have a1 : Keeps w9 (w9.alloc (.cells #[Value.int .i64 0, .int .i64 1, .int .i64 2, .int .i64 3] 3)) := (Keeps.refl w9).alloc _
  have a2 : Keeps (w9.alloc (.cells #[Value.int .i64 0, .int .i64 1, .int .i64 2, .int .i64 3] 3)) ((w9.alloc (.cells #[Value.int .i64 0, .int .i64 1, .int .i64 2, .int .i64 3] 3)).alloc (.cells #[Value.int .i64 1, .int .i64 0, .int .i64 1, .int .i64 0] 3)) := (Keeps.refl _).alloc _
  rw [World.size_alloc w9] at N2
  refine (hpa _ _ _ _ _ (N1.keep a2) N2).mono ?_
  rintro e w10 ⟨A5, c5, rfl, hn5, hk10⟩
  have O10 := Lib.hid (((O9.out.keep a1).keep a2).keep hk10)
  have P10 := Lib.hid hn5
  have K10 := Lib.hid (((K9.out.trans a1).trans a2).trans hk10)
  clear N1 N2 a1 a2 hk10 hn5 O9 K9
  go_wp2_with fail
  have N1 := nums_lit w10 [1, 3, 0, 2] #[.int .i64 1, .int .i64 3, .int .i64 0, .int .i64 2] rfl
  have a1 : Keeps w10 (w10.alloc (.cells #[Value.int .i64 1, .int .i64 3, .int .i64 0, .int .i64 2] 3)) := (Keeps.refl w10).alloc _
  refine (hin _ _ _ _ _ _ rfl (P10.out.keep a1) N1).mono ?_
  rintro e w11 ⟨rfl, hk11⟩
  have O11 := Lib.hid ((O10.out.keep a1).keep hk11)
  have K11 := Lib.hid ((K10.out.trans a1).trans hk11)
  clear N1 a1 hk11 P10 O10 K10
  go_wp2_with fail
  have N1 := nums_lit w11 [3, 1, 0, 2] #[.int .i64 3, .int .i64 1, .int .i64 0, .int .i64 2] rfl
  have a1 : Keeps w11 (w11.alloc (.cells #[Value.int .i64 3, .int .i64 1, .int .i64 0, .int .i64 2] 3)) := (Keeps.refl w11).alloc _
  refine (hin _ _ _ _ _ _ rfl (O11.out.keep a1) N1).mono ?_
  rintro e w12 ⟨rfl, hk12⟩
  have K12 := Lib.hid ((K11.out.trans a1).trans hk12)
  clear N1 a1 hk12 O11 K11
  go_wp2_with fail
  go_ret
  exact bool_post rfl K12.out
end Go.Proofs.Ytkfcebojfnnieaa
