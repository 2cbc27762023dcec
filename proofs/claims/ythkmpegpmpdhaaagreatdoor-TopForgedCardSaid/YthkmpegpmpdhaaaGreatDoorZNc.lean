/- Part of the proof of TopOwnItem. Conditions: as stated in each theorem. -/
import Derived.Test.YthkmpegpmpdhaaaGreatDoorZNa
import Derived.Test.YthkmpegpmpdhaaaGreatDoorZNb
import Derived.Test.YthkmpegpmpdhaaaGreatDoorProg
import Derived.WalkMore
import Derived.LoopN
import Derived.Lib.ConvBytes
import Derived.Maps.OwnIn
import Derived.Deep.LoopGhost
import Derived.RangeFuncNested
import Derived.RangeFuncCalls
import Derived.RangeFuncLeaves
import Derived.RangeFuncWrites
import Derived.Shelf.Abstract
import Derived.Shelf.RegionOpen
import Derived.OwnWalkIn
import Derived.TacticsInMore
import Derived.LoopNIn
import Derived.LoopIn
import Derived.RangeFuncBound
import Derived.WalkKit
import Derived.WalkSpells
import Derived.WalkLawsBesides
import Derived.Laws.EntriesVeiled
import Derived.ProofKit
import Derived.OpenShut
import Derived.Lib.Hide
import Derived.BigQuiet
import Derived.Deep.QuietTactic
import Derived.Deep.CutRange
import Derived.StillTailTactics
import Derived.Lib.SliceRun
import Derived.RangeFuncRecord
import Derived.Carry
import Derived.ChangeKeysEq
import Derived.Below
import Derived.Laws.OwnMore
import Derived.Deep.AppendLies
import Derived.Deep.Draws
import Derived.Laws.Rows
import Derived.Maps.AppendAt
import Derived.RegionTactic
import Derived.OwnWalk
import Derived.Deep.RegionHeld3
namespace Go.Proofs.YthkmpegpmpdhaaaGreatDoor
open Go.Shelf Go.ChangeShapes Go.WideShapes Go.ChangeAt Go.RowKit
set_option linter.unusedSimpArgs false
set_option linter.unusedVariables false
theorem from252 (v l g : Int) (w : World) (h1 : l ≤ v) (h2 : v ≤ g) : Calls Tryz.prog 252 #[.int .i64 v, .int .i64 l, .int .i64 g] w fun e w' => e = .returned (.bool true) ∧ w' = w := by
  go_enter Tryz.func252, Tryz.ntmps252
  go_wp2_with fail
  go_ret
  exact ⟨rfl, rfl⟩
theorem minute214 (v : Int) (w : World) (h1 : 0 ≤ v) (h2 : v ≤ 1439) : Calls Tryz.prog 214 #[.int .i64 v] w fun e w' => e = .returned (.bool true) ∧ w' = w := by
  go_enter Tryz.func214, Tryz.ntmps214
  go_wp2_with (go_at_call 252; (with_reducible refine (from252 _ _ _ _ h1 h2).mono ?_); rintro e w1 ⟨rfl, rfl⟩)
  go_ret
  exact ⟨rfl, rfl⟩
theorem index249 (i : Int) (A : Option Addr) (n c : Nat) (w : World) (h1 : 0 ≤ i) (h2 : i < (n : Int)) : Calls Tryz.prog 249 #[.int .i64 i, .slice A n c] w fun e w' => e = .returned (.bool true) ∧ w' = w := by
  go_enter Tryz.func249, Tryz.ntmps249
  go_wp2_with fail
  go_ret
  exact ⟨rfl, rfl⟩
theorem index250 (i : Int) (A : Option Addr) (n c : Nat) (w : World) (h1 : 0 ≤ i) (h2 : i < (n : Int)) : Calls Tryz.prog 250 #[.int .i64 i, .slice A n c] w fun e w' => e = .returned (.bool true) ∧ w' = w := by
  go_enter Tryz.func250, Tryz.ntmps250
  go_wp2_with fail
  go_ret
  exact ⟨rfl, rfl⟩
theorem index256 (i : Int) (A : Option Addr) (n c : Nat) (w : World) (h1 : 0 ≤ i) (h2 : i < (n : Int)) : Calls Tryz.prog 256 #[.int .i64 i, .slice A n c] w fun e w' => e = .returned (.bool true) ∧ w' = w := by
  go_enter Tryz.func256, Tryz.ntmps256
  go_wp2_with fail
  go_ret
  exact ⟨rfl, rfl⟩
set_option maxRecDepth 100000 in
set_option maxHeartbeats 8000000 in
theorem valid199 (bw : Nat) (w : World) : Calls Tryz.prog 199 #[.agg #[.int .i64 0, .slice (some ⟨bw, 0, none⟩) 7 7, .slice none 0 0]] w (BoolPost true w) := by
  have K := Lib.hid ((Keeps.refl w).alloc (.cells #[.int .i64 0, .slice (some ⟨bw, 0, none⟩) 7 7, .slice none 0 0] 154))
  go_enter Tryz.func199, Tryz.ntmps199
  go_wp2_with fail
  refine wp_loop_rounds 1 ?_
  rw [rounds_succ]
  go_wp2_with fail
  go_ret
  exact bool_post rfl K.out
set_option maxRecDepth 100000 in
set_option maxHeartbeats 8000000 in
theorem goodOffice206 (bc bn bo bf bl bk : Nat) (s : ByteArray) (op : Int) (w : World) (h : 0 ≤ op ∧ op < 2) : Calls Tryz.prog 206 #[.agg (netC bc bn bo bf bl bk), .agg #[.string s, .int .i64 op, .int .i64 0, .int .i64 2, .int .i64 1, .int .i64 10, .slice none 0 0]] w (BoolPost true w) := by
  have K := Lib.hid (((Keeps.refl w).alloc (.cells (netC bc bn bo bf bl bk) 87)).alloc (.cells #[.string s, .int .i64 op, .int .i64 0, .int .i64 2, .int .i64 1, .int .i64 10, .slice none 0 0] 158))
  have h1 := h.1
  have h2 : op < ((2 : Nat) : Int) := h.2
  clear h
  go_enter Tryz.func206, Tryz.ntmps206
  go_wp2_with (first | (go_at_call 249; (with_reducible refine (index249 _ _ 2 _ _ h1 h2).mono ?_); rintro e w1 ⟨rfl, rfl⟩) | (go_at_call 250; (with_reducible refine (index250 0 _ 1 _ _ (by decide) (by decide)).mono ?_); rintro e w1 ⟨rfl, rfl⟩) | (go_at_call 252; (with_reducible refine (from252 _ _ _ _ (by decide) (by decide)).mono ?_); rintro e w1 ⟨rfl, rfl⟩))
  refine wp_loop_rounds 1 ?_
  rw [rounds_succ]
  go_wp2_with (first | (go_at_call 252; (with_reducible refine (from252 2 2 64 _ (by decide) (by decide)).mono ?_); rintro e w1 ⟨rfl, rfl⟩) | (go_at_call 252; (with_reducible refine (from252 1 1 4 _ (by decide) (by decide)).mono ?_); rintro e w1 ⟨rfl, rfl⟩) | (go_at_call 252; (with_reducible refine (from252 10 1 240 _ (by decide) (by decide)).mono ?_); rintro e w1 ⟨rfl, rfl⟩))
  go_ret
  exact bool_post rfl K.out
set_option maxRecDepth 100000 in
set_option maxHeartbeats 8000000 in
theorem goodLine210 (bc bn bo bf bl bk : Nat) (s : ByteArray) (f t a v o : Int) (w : World) (hf : 0 ≤ f ∧ f < 2) (ht : 0 ≤ t ∧ t < 2) (hne : f ≠ t) (ha : 0 ≤ a ∧ a ≤ 1439) (hv : 1 ≤ v ∧ v ≤ 5000) (ho : 1 ≤ o ∧ o ≤ 40) : Calls Tryz.prog 210 #[.agg (netC bc bn bo bf bl bk), .agg #[.string s, .int .i64 f, .int .i64 t, .int .i64 a, .int .i64 v, .int .i64 o]] w (BoolPost true w) := by
  have K := Lib.hid (((Keeps.refl w).alloc (.cells (netC bc bn bo bf bl bk) 87)).alloc (.cells #[.string s, .int .i64 f, .int .i64 t, .int .i64 a, .int .i64 v, .int .i64 o] 160))
  have I1 := Lib.hid (fun X => index256 f (some ⟨bf, 0, none⟩) 2 2 X hf.1 hf.2)
  have I2 := Lib.hid (fun X => index256 t (some ⟨bf, 0, none⟩) 2 2 X ht.1 ht.2)
  have M1 := Lib.hid (fun X => minute214 a X ha.1 ha.2)
  have F1 := Lib.hid (fun X => from252 v 1 5000 X hv.1 hv.2)
  have F2 := Lib.hid (fun X => from252 o 1 40 X ho.1 ho.2)
  have hd : (f == t) = false := by simpa using hne
  clear hf ht hne ha hv ho
  go_enter Tryz.func210, Tryz.ntmps210
  go_wp2_with (first | (go_at_call 256; (with_reducible refine (I1.out _).mono ?_); rintro e w1 ⟨rfl, rfl⟩) | (go_at_call 256; (with_reducible refine (I2.out _).mono ?_); rintro e w1 ⟨rfl, rfl⟩) | (go_at_call 214; (with_reducible refine (M1.out _).mono ?_); rintro e w1 ⟨rfl, rfl⟩) | (go_at_call 252; (with_reducible refine (F1.out _).mono ?_); rintro e w1 ⟨rfl, rfl⟩) | (go_at_call 252; (with_reducible refine (F2.out _).mono ?_); rintro e w1 ⟨rfl, rfl⟩))
  go_ret
  exact bool_post rfl K.out
theorem any202 (s : ByteArray) (w : World) : Calls Tryz.prog 202 #[.agg #[.string s]] w (BoolPost true w) := by
  have K := Lib.hid ((Keeps.refl w).alloc (.cells #[.string s] 156))
  go_enter Tryz.func202, Tryz.ntmps202
  go_wp2_with fail
  go_ret
  exact bool_post rfl K.out
theorem class213 (s : ByteArray) (a b : Int) (w : World) (ha : 0 ≤ a ∧ a ≤ 1439) (hb : 0 ≤ b ∧ b ≤ 1439) : Calls Tryz.prog 213 #[.agg #[.string s, .int .i64 a, .int .i64 b]] w (BoolPost true w) := by
  have K := Lib.hid ((Keeps.refl w).alloc (.cells #[.string s, .int .i64 a, .int .i64 b] 162))
  have M1 := Lib.hid (fun X => minute214 a X ha.1 ha.2)
  have M2 := Lib.hid (fun X => minute214 b X hb.1 hb.2)
  clear ha hb
  go_enter Tryz.func213, Tryz.ntmps213
  go_wp2_with (first | (go_at_call 214; (with_reducible refine (M1.out _).mono ?_); rintro e w1 ⟨rfl, rfl⟩) | (go_at_call 214; (with_reducible refine (M2.out _).mono ?_); rintro e w1 ⟨rfl, rfl⟩))
  go_ret
  exact bool_post rfl K.out
set_option maxRecDepth 100000 in
set_option maxHeartbeats 8000000 in
theorem office205 (NB bc bn bo bf bl bk : Nat) (s : ByteArray) (op : Int) (w : World) (hN : Blk w NB 87 (netC bc bn bo bf bl bk)) (h : 0 ≤ op ∧ op < 2) : Calls Tryz.prog 205 #[.agg #[.string s, .int .i64 op, .int .i64 0, .int .i64 2, .int .i64 1, .int .i64 10, .slice none 0 0], .pointer (some ⟨NB, 0, none⟩)] w (BoolPost true w) := by
  have k1 := (Keeps.refl w).alloc (.cells #[.string s, .int .i64 op, .int .i64 0, .int .i64 2, .int .i64 1, .int .i64 10, .slice none 0 0] 158)
  have K := Lib.hid k1
  have h2 := hN.below k1 hN.lt
  have c0 := h2.cell 0; have c1 := h2.cell 1; have c2 := h2.cell 2; have c3 := h2.cell 3; have c4 := h2.cell 4; have c5 := h2.cell 5
  have HC := Lib.hid (fun X => goodOffice206 bc bn bo bf bl bk s op X h)
  clear h2 hN k1 h
  go_enter Tryz.func205, Tryz.ntmps205
  go_wp2_with (go_at_call 206; (with_reducible refine (HC.out _).mono ?_); rintro e w1 ⟨rfl, hk⟩; have K2 := Lib.hid (K.out.trans hk); clear hk)
  go_ret
  exact bool_post rfl K2.out
set_option maxRecDepth 100000 in
set_option maxHeartbeats 8000000 in
theorem line209 (NB bc bn bo bf bl bk : Nat) (s : ByteArray) (f t a v o : Int) (w : World) (hN : Blk w NB 87 (netC bc bn bo bf bl bk)) (hf : 0 ≤ f ∧ f < 2) (ht : 0 ≤ t ∧ t < 2) (hne : f ≠ t) (ha : 0 ≤ a ∧ a ≤ 1439) (hv : 1 ≤ v ∧ v ≤ 5000) (ho : 1 ≤ o ∧ o ≤ 40) : Calls Tryz.prog 209 #[.agg #[.string s, .int .i64 f, .int .i64 t, .int .i64 a, .int .i64 v, .int .i64 o], .pointer (some ⟨NB, 0, none⟩)] w (BoolPost true w) := by
  have k1 := (Keeps.refl w).alloc (.cells #[.string s, .int .i64 f, .int .i64 t, .int .i64 a, .int .i64 v, .int .i64 o] 160)
  have K := Lib.hid k1
  have h2 := hN.below k1 hN.lt
  have c0 := h2.cell 0; have c1 := h2.cell 1; have c2 := h2.cell 2; have c3 := h2.cell 3; have c4 := h2.cell 4; have c5 := h2.cell 5
  have HC := Lib.hid (fun X => goodLine210 bc bn bo bf bl bk s f t a v o X hf ht hne ha hv ho)
  clear h2 hN k1 hf ht hne ha hv ho
  go_enter Tryz.func209, Tryz.ntmps209
  go_wp2_with (go_at_call 210; (with_reducible refine (HC.out _).mono ?_); rintro e w1 ⟨rfl, hk⟩; have K2 := Lib.hid (K.out.trans hk); clear hk)
  go_ret
  exact bool_post rfl K2.out
set_option maxRecDepth 100000 in
theorem name197_0 (NB bw bc bn bo bf bl bk : Nat) (w : World) (hN : Blk w NB 87 (netC bc bn bo bf bl bk)) (h : Net w bw bc bn bo bf bl bk) : Calls Tryz.prog 197 #[.int .i64 0, .pointer (some ⟨NB, 0, none⟩)] w fun e w' => e = .returned (.string ⟨#[99]⟩) ∧ w' = w := by
  have c0 := hN.cell 1
  have c1 := h.na.cell 0
  clear hN h
  go_enter Tryz.func197, Tryz.ntmps197
  go_wp2_with fail
  go_ret
  exact ⟨rfl, rfl⟩
set_option maxRecDepth 100000 in
theorem name200_0 (NB bw bc bn bo bf bl bk : Nat) (w : World) (hN : Blk w NB 87 (netC bc bn bo bf bl bk)) (h : Net w bw bc bn bo bf bl bk) : Calls Tryz.prog 200 #[.int .i64 0, .pointer (some ⟨NB, 0, none⟩)] w fun e w' => e = .returned (.string ⟨#[112]⟩) ∧ w' = w := by
  have c0 := hN.cell 2
  have c1 := h.op.cell 0
  clear hN h
  go_enter Tryz.func200, Tryz.ntmps200
  go_wp2_with fail
  go_ret
  exact ⟨rfl, rfl⟩
set_option maxRecDepth 100000 in
theorem name200_1 (NB bw bc bn bo bf bl bk : Nat) (w : World) (hN : Blk w NB 87 (netC bc bn bo bf bl bk)) (h : Net w bw bc bn bo bf bl bk) : Calls Tryz.prog 200 #[.int .i64 1, .pointer (some ⟨NB, 0, none⟩)] w fun e w' => e = .returned (.string ⟨#[113]⟩) ∧ w' = w := by
  have c0 := hN.cell 2
  have c1 := h.op.cell 1
  clear hN h
  go_enter Tryz.func200, Tryz.ntmps200
  go_wp2_with fail
  go_ret
  exact ⟨rfl, rfl⟩
set_option maxRecDepth 100000 in
theorem name203_0 (NB bw bc bn bo bf bl bk : Nat) (w : World) (hN : Blk w NB 87 (netC bc bn bo bf bl bk)) (h : Net w bw bc bn bo bf bl bk) : Calls Tryz.prog 203 #[.int .i64 0, .pointer (some ⟨NB, 0, none⟩)] w fun e w' => e = .returned (.string ⟨#[97]⟩) ∧ w' = w := by
  have c0 := hN.cell 3
  have c1 := h.of_.cell 0
  clear hN h
  go_enter Tryz.func203, Tryz.ntmps203
  go_wp2_with fail
  go_ret
  exact ⟨rfl, rfl⟩
set_option maxRecDepth 100000 in
theorem name203_1 (NB bw bc bn bo bf bl bk : Nat) (w : World) (hN : Blk w NB 87 (netC bc bn bo bf bl bk)) (h : Net w bw bc bn bo bf bl bk) : Calls Tryz.prog 203 #[.int .i64 1, .pointer (some ⟨NB, 0, none⟩)] w fun e w' => e = .returned (.string ⟨#[98]⟩) ∧ w' = w := by
  have c0 := hN.cell 3
  have c1 := h.of_.cell 7
  clear hN h
  go_enter Tryz.func203, Tryz.ntmps203
  go_wp2_with fail
  go_ret
  exact ⟨rfl, rfl⟩
set_option maxRecDepth 100000 in
theorem name207_0 (NB bw bc bn bo bf bl bk : Nat) (w : World) (hN : Blk w NB 87 (netC bc bn bo bf bl bk)) (h : Net w bw bc bn bo bf bl bk) : Calls Tryz.prog 207 #[.int .i64 0, .pointer (some ⟨NB, 0, none⟩)] w fun e w' => e = .returned (.string ⟨#[108]⟩) ∧ w' = w := by
  have c0 := hN.cell 4
  have c1 := h.li.cell 0
  clear hN h
  go_enter Tryz.func207, Tryz.ntmps207
  go_wp2_with fail
  go_ret
  exact ⟨rfl, rfl⟩
set_option maxRecDepth 100000 in
theorem name207_1 (NB bw bc bn bo bf bl bk : Nat) (w : World) (hN : Blk w NB 87 (netC bc bn bo bf bl bk)) (h : Net w bw bc bn bo bf bl bk) : Calls Tryz.prog 207 #[.int .i64 1, .pointer (some ⟨NB, 0, none⟩)] w fun e w' => e = .returned (.string ⟨#[109]⟩) ∧ w' = w := by
  have c0 := hN.cell 4
  have c1 := h.li.cell 6
  clear hN h
  go_enter Tryz.func207, Tryz.ntmps207
  go_wp2_with fail
  go_ret
  exact ⟨rfl, rfl⟩
set_option maxRecDepth 100000 in
theorem name211_0 (NB bw bc bn bo bf bl bk : Nat) (w : World) (hN : Blk w NB 87 (netC bc bn bo bf bl bk)) (h : Net w bw bc bn bo bf bl bk) : Calls Tryz.prog 211 #[.int .i64 0, .pointer (some ⟨NB, 0, none⟩)] w fun e w' => e = .returned (.string ⟨#[107]⟩) ∧ w' = w := by
  have c0 := hN.cell 5
  have c1 := h.cl.cell 0
  clear hN h
  go_enter Tryz.func211, Tryz.ntmps211
  go_wp2_with fail
  go_ret
  exact ⟨rfl, rfl⟩
end Go.Proofs.YthkmpegpmpdhaaaGreatDoor
