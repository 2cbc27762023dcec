/- Part of the proof of TopOwnItem. Conditions: as stated in each theorem. -/
import Derived.Test.YthkmpegpmpdhaaaGreatDoorRb
import Derived.WalkMore
import Derived.Maps.OwnIn
import Derived.Deep.LoopGhost
import Derived.RangeFuncNested
import Derived.RangeFuncCalls
import Derived.RangeFuncLeaves
import Derived.RangeFuncWrites
import Derived.Shelf.Abstract
import Derived.Shelf.RegionOpen
import Derived.OwnWalkIn
import Derived.TacticsInMore
import Derived.LoopNIn
import Derived.LoopIn
import Derived.RangeFuncBound
import Derived.Deep.CutRange
import Derived.BigQuiet
import Derived.Test.YthkmpegpmpdhaaaGreatDoorProg
import Derived.WalkKit
import Derived.WalkSpells
import Derived.WalkLawsBesides
import Derived.Laws.EntriesVeiled
import Derived.ProofKit
import Derived.OpenShut
import Derived.Lib.Hide
import Derived.BigQuiet
import Derived.Deep.QuietTactic
import Derived.Deep.CutRange
import Derived.StillTailTactics
import Derived.Lib.SliceRun
import Derived.RangeFuncRecord
import Derived.Carry
import Derived.ChangeKeysEq
import Derived.Below
import Derived.Laws.OwnMore
import Derived.Deep.AppendLies
import Derived.Deep.Draws
import Derived.Laws.Rows
import Derived.Maps.AppendAt
import Derived.RegionTactic
import Derived.OwnWalk
import Derived.Deep.RegionHeld3
namespace Go.Proofs.YthkmpegpmpdhaaaGreatDoor
open Go.Shelf Go.ChangeShapes Go.WideShapes Go.ChangeAt Go.RowKit
set_option linter.unusedSimpArgs false
set_option linter.unusedVariables false
abbrev txA : ByteArray := { data := #[65] }
abbrev txB : ByteArray := { data := #[66] }
def SeeOk (S : List Si) (w : World) (e : Ending) (w' : World) : Prop := ∃ A n c, e = .returned (.tuple #[.slice A n c, .int .i64 0]) ∧ n = S.length ∧ RecIn siR w' w'.heap.size A S ∧ Keeps w w'
section
variable (secret token : Int) (lab : ByteArray) (rows : List Rw) (evs : List Ev) (EA WA : Option Addr) (n ec m wc : Nat) (w : World)
theorem see_right (he : RecIn evR w w.heap.size EA evs) (hn : Hid (n = evs.length)) (hr : RecIn rwR w w.heap.size WA rows) (hm : Hid (m = rows.length))
    (hok : ∀ v ∈ evs, EvOk w w.heap.size v) (hrk : RowsOk w w.heap.size rows) (hn1 : n ≤ 1000) (hm1 : m ≤ 1000) (hrl : ∀ r ∈ rows, r.l.length ≤ 1000) (hlab : lab.size ≤ 1000)
    (ht : Hid (token = tokF secret lab)) (S : List Si) (hS : Hid ((if rows = [] then [] else seeF rows (evs.map Ev.say)) = S)) :
    Calls Tryz.prog 12 #[.int .i64 secret, .int .i64 token, .string lab, .slice EA n ec, .slice WA m wc] w (SeeOk S w) := by
  refine (see12 secret token lab rows evs EA WA n ec m wc w he hn hr hm hok hrk hn1 hm1 hrl hlab).mono ?_
  rintro e w' ⟨hk, h⟩
  rw [if_pos ht.out] at h
  obtain ⟨A, n', c, h1, h2, h3⟩ := h
  rw [hS.out] at h2 h3
  exact ⟨A, n', c, h1, h2, h3, hk⟩
theorem see_wrong (he : RecIn evR w w.heap.size EA evs) (hn : Hid (n = evs.length)) (hr : RecIn rwR w w.heap.size WA rows) (hm : Hid (m = rows.length))
    (hok : ∀ v ∈ evs, EvOk w w.heap.size v) (hrk : RowsOk w w.heap.size rows) (hn1 : n ≤ 1000) (hm1 : m ≤ 1000) (hrl : ∀ r ∈ rows, r.l.length ≤ 1000) (hlab : lab.size ≤ 1000)
    (ht : Hid (token ≠ tokF secret lab)) :
    Calls Tryz.prog 12 #[.int .i64 secret, .int .i64 token, .string lab, .slice EA n ec, .slice WA m wc] w fun e w' => e = .returned (.tuple #[.slice none 0 0, .int .i64 340]) ∧ Keeps w w' := by
  refine (see12 secret token lab rows evs EA WA n ec m wc w he hn hr hm hok hrk hn1 hm1 hrl hlab).mono ?_
  rintro e w' ⟨hk, h⟩
  rw [if_neg ht.out] at h
  exact ⟨h, hk⟩
end
theorem tok_ne : tokF 7 txB ≠ tokF 7 txA := by decide
theorem lab_A : labelF txA = true := by decide
theorem A_ne : txB ≠ txA := by decide
theorem ex_bd : EvsBd (exR txA txB) := by
  refine ⟨by simp [exR], fun x hx => ?_, ?_⟩
  · simp [exR] at hx
    rcases hx with rfl | rfl <;> simp
  · simp [mansF, exR]
theorem ex_ok (w : World) (B : Nat) : ∀ x ∈ exR txA txB, RecOk w B x := fun x hx => by
  have nl : RecIn strR w B none [] := fun j y hj => by simp at hj
  simp [exR] at hx
  rcases hx with rfl | rfl
  · exact ⟨nl, by decide, by simp, by simp⟩
  · exact ⟨nl, by decide, by simp, by simp⟩
theorem ex_off : OffOk exL := fun s hs => by
  simp [exL] at hs
  subst hs
  simp
def EvtO (w : World) (e : Ending) (w' : World) : Prop := ∃ A c v, e = .returned (.slice A 1 c) ∧ RecIn evR w' w'.heap.size A [v] ∧ Keeps w w' ∧ Ev.say v = exE ∧ EvOk w' w'.heap.size v
theorem evt_one {w w' : World} {e : Ending} (h : EvtP [exE] w e w') : EvtO w e w' := by
  obtain ⟨A, n, c, xs, rfl, hn, hr, hk, hx, ho⟩ := h
  obtain ⟨v, rfl⟩ : ∃ v, xs = [v] := List.length_eq_one_iff.1 (by have := congrArg List.length hx; simpa using this)
  obtain rfl : n = 1 := hn
  exact ⟨A, c, v, rfl, hr, hk, by simpa using hx, ho v (by simp)⟩
section
variable (s t : Int) (A : Option Addr) (c : Nat) (v : Ev) (w : World)
theorem ex_rows : RecIn rwR ((w.alloc (.cells #[] 3)).alloc (.cells #[.slice (some ⟨w.heap.size, 0, none⟩) 0 0] 41)) ((w.alloc (.cells #[] 3)).alloc (.cells #[.slice (some ⟨w.heap.size, 0, none⟩) 0 0] 41)).heap.size (some ⟨w.heap.size + 1, 0, none⟩) [⟨[], some ⟨w.heap.size, 0, none⟩, 0⟩] := by
  have h := RecIn.lit rwOk (w.alloc (.cells #[] 3)) [⟨[], some ⟨w.heap.size, 0, none⟩, 0⟩] #[.slice (some ⟨w.heap.size, 0, none⟩) 0 0] rfl
  have e : (w.alloc (.cells #[] 3)).heap.size = w.heap.size + 1 := World.size_alloc _ _
  rw [e] at h
  exact h
theorem ex_rowsOk (W : World) (B : Nat) (A : Option Addr) : RowsOk W B [⟨[], A, 0⟩] := fun r hr => by
  rw [List.mem_singleton] at hr
  subst hr
  exact fun j x hj => by simp at hj
theorem ex_sees (hr : RecIn evR w w.heap.size A [v]) (hv : Ev.say v = exE) (ho : EvOk w w.heap.size v) (ht : Hid (t = tokF s txA)) :
    Calls Tryz.prog 12 #[.int .i64 s, .int .i64 t, .string txA, .slice A 1 c, .slice (some ⟨w.heap.size + 1, 0, none⟩) 1 1] ((w.alloc (.cells #[] 3)).alloc (.cells #[.slice (some ⟨w.heap.size, 0, none⟩) 0 0] 41)) (SeeOk [⟨3, 95, 105⟩] ((w.alloc (.cells #[] 3)).alloc (.cells #[.slice (some ⟨w.heap.size, 0, none⟩) 0 0] 41))) := by
  have hk := ((Keeps.refl w).alloc (.cells #[] 3)).alloc (.cells #[.slice (some ⟨w.heap.size, 0, none⟩) 0 0] 41)
  refine see_right s t txA [⟨[], some ⟨w.heap.size, 0, none⟩, 0⟩] [v] A _ 1 c 1 1 _ (hr.keep hk) (Lib.hid rfl) (ex_rows w) (Lib.hid rfl) (fun u hu => ?_) (ex_rowsOk _ _ _) (by omega) (by omega) (fun r hr => ?_) (by decide) ht _ (Lib.hid ?_)
  · rw [List.mem_singleton] at hu
    subst hu
    exact ho.keep hk
  · rw [List.mem_singleton] at hr
    subst hr
    simp
  · rw [if_neg (by simp)]
    show seeF _ [Ev.say v] = _
    rw [hv]
    exact ex_see _ _
theorem ex_not (hr : RecIn evR w w.heap.size A [v]) (_hv : Ev.say v = exE) (ho : EvOk w w.heap.size v) (ht : Hid (t ≠ tokF s txA)) :
    Calls Tryz.prog 12 #[.int .i64 s, .int .i64 t, .string txA, .slice A 1 c, .slice (some ⟨w.heap.size + 1, 0, none⟩) 1 1] ((w.alloc (.cells #[] 3)).alloc (.cells #[.slice (some ⟨w.heap.size, 0, none⟩) 0 0] 41)) fun e w' => e = .returned (.tuple #[.slice none 0 0, .int .i64 340]) ∧ Keeps ((w.alloc (.cells #[] 3)).alloc (.cells #[.slice (some ⟨w.heap.size, 0, none⟩) 0 0] 41)) w' := by
  have hk := ((Keeps.refl w).alloc (.cells #[] 3)).alloc (.cells #[.slice (some ⟨w.heap.size, 0, none⟩) 0 0] 41)
  refine see_wrong s t txA [⟨[], some ⟨w.heap.size, 0, none⟩, 0⟩] [v] A _ 1 c 1 1 _ (hr.keep hk) (Lib.hid rfl) (ex_rows w) (Lib.hid rfl) (fun u hu => ?_) (ex_rowsOk _ _ _) (by omega) (by omega) (fun r hr => ?_) (by decide) ht
  · rw [List.mem_singleton] at hu
    subst hu
    exact ho.keep hk
  · rw [List.mem_singleton] at hr
    subst hr
    simp
end
set_option maxHeartbeats 4000000 in
set_option maxRecDepth 100000 in
theorem seen5 (w : World) (ht : Tab w) : Calls Tryz.prog 5 #[] w (BoolPost true w) := by
  have HT := Lib.hid ht
  clear ht
  obtain ⟨tA, htA⟩ : ∃ t, tokF 7 txA = t := ⟨_, rfl⟩
  obtain ⟨tB, htB⟩ : ∃ t, tokF 7 txB = t := ⟨_, rfl⟩
  have TA := Lib.hid htA; have TB := Lib.hid htB
  have TNE := Lib.hid (show tB ≠ tokF 7 txA by rw [← htB]; exact tok_ne)
  have K2 := Lib.hid (((Keeps.refl w).alloc (.cells #[.int .i64 0, .int .i64 3, .int .i64 5] 72)).alloc (.cells #[.int .i64 0, .int .i64 0, .int .i64 1, .int .i64 100, .string txA, .slice none 0 0, .int .i64 0, .int .i64 1, .int .i64 1, .int .i64 200, .string txB, .slice none 0 0] 26))
  have L2 := Lib.hid ((RecIn.lit scOk w exL #[.int .i64 0, .int .i64 3, .int .i64 5] rfl).keep ((Keeps.refl _).alloc (.cells #[.int .i64 0, .int .i64 0, .int .i64 1, .int .i64 100, .string txA, .slice none 0 0, .int .i64 0, .int .i64 1, .int .i64 1, .int .i64 200, .string txB, .slice none 0 0] 26)))
  have R2 := RecIn.lit rcOk (w.alloc (.cells #[.int .i64 0, .int .i64 3, .int .i64 5] 72)) (exR txA txB) #[.int .i64 0, .int .i64 0, .int .i64 1, .int .i64 100, .string txA, .slice none 0 0, .int .i64 0, .int .i64 1, .int .i64 1, .int .i64 200, .string txB, .slice none 0 0] rfl
  have esz : (w.alloc (.cells #[.int .i64 0, .int .i64 3, .int .i64 5] 72)).heap.size = w.heap.size + 1 := World.size_alloc _ _
  rw [esz] at R2
  clear esz
  have R2' := Lib.hid R2
  clear R2 htA htB
  go_enter Tryz.func5, Tryz.ntmps5
  go_upto_region 3 with fail
  generalize hw2 : (w.alloc (.cells #[.int .i64 0, .int .i64 3, .int .i64 5] 72)).alloc (.cells #[.int .i64 0, .int .i64 0, .int .i64 1, .int .i64 100, .string txA, .slice none 0 0, .int .i64 0, .int .i64 1, .int .i64 1, .int .i64 200, .string txB, .slice none 0 0] 26) = w2 at *
  clear hw2
  have EVG := Lib.hid (show ∀ W, Keeps w2 W → Calls Tryz.prog 8 #[.slice (some ⟨w.heap.size, 0, none⟩) 1 1, .slice (some ⟨w.heap.size + 1, 0, none⟩) 2 2, .string txA] W (EvtO W) from fun W hk => by
    have h := events8 exL (exR txA txB) (some ⟨w.heap.size, 0, none⟩) (some ⟨w.heap.size + 1, 0, none⟩) 1 1 2 2 txA W (L2.out.keep hk) (Lib.hid rfl) (R2'.out.keep hk) (Lib.hid rfl) (ex_ok _ _) (by omega) ex_bd ex_off (HT.out.keep (K2.out.trans hk))
    rw [ex_events lab_A A_ne] at h
    exact h.mono fun e w' h => evt_one h)
  have TKA := Lib.hid (show ∀ W, Calls Tryz.prog 11 #[.int .i64 7, .string txA] W fun e w' => e = .returned (.int .i64 tA) ∧ Keeps W w' from fun W => by rw [← TA.out]; exact token_any 7 txA W (by decide))
  have TKB := Lib.hid (show ∀ W, Calls Tryz.prog 11 #[.int .i64 7, .string txB] W fun e w' => e = .returned (.int .i64 tB) ∧ Keeps W w' from fun W => by rw [← TB.out]; exact token_any 7 txB W (by decide))
  go_upto_region 4 with (first | (go_at_call 11; (with_reducible refine (TKA.out _).mono ?_); rintro e w3 ⟨rfl, hk3⟩; have G3 := Lib.hid hk3; clear hk3) | (go_at_call 8; (with_reducible refine (EVG.out _ G3.out).mono ?_); rintro e w4 ⟨A4, c4, v4, rfl, hr4, hk4, hv4, ho4⟩; have G4 := Lib.hid (G3.out.trans hk4); have S4 := Lib.hid (ex_sees 7 tA A4 c4 v4 w4 hr4 hv4 ho4 (Lib.hid TA.out.symm)); clear hr4 hk4 hv4 ho4) | (go_at_call 12; (with_reducible refine S4.out.mono ?_); rintro e w5 ⟨A5, n5, c5, rfl, hn5, hr5, hk5⟩; have G5 := Lib.hid (G4.out.trans ((((Keeps.refl w4).alloc (.cells #[] 3)).alloc (.cells #[.slice (some ⟨w4.heap.size, 0, none⟩) 0 0] 41)).trans hk5)); have R5 := Lib.hid hr5; have N5 := Lib.hid hn5; clear hk5 hr5 hn5))
  obtain rfl : n5 = 1 := N5.out
  obtain ⟨sb, so, rfl, hsb, s0, s1, s2⟩ := R5.out.si (j := 0) (x := ⟨3, 95, 105⟩) rfl
  simp only [Nat.zero_mul, Nat.add_zero] at s0 s1 s2
  change World.cell? _ _ = some (.int .i64 3) at s0
  change World.cell? _ _ = some (.int .i64 95) at s1
  change World.cell? _ _ = some (.int .i64 105) at s2
  have C0 := Lib.hid s0; have C1 := Lib.hid s1; have C2 := Lib.hid s2
  clear s0 s1 s2 N5 S4
  go_upto_region 5 with (first | (go_at_call 11; (with_reducible refine (TKB.out _).mono ?_); rintro e w6 ⟨rfl, hk6⟩; have H6 := Lib.hid hk6; have G6 := Lib.hid (G5.out.trans hk6); clear hk6) | (go_at_call 8; (with_reducible refine (EVG.out _ G6.out).mono ?_); rintro e w7 ⟨A7, c7, v7, rfl, hr7, hk7, hv7, ho7⟩; have H7 := Lib.hid (H6.out.trans hk7); have S7 := Lib.hid (ex_not 7 tB A7 c7 v7 w7 hr7 hv7 ho7 TNE); clear hr7 hk7 hv7 ho7) | (go_at_call 12; (with_reducible refine S7.out.mono ?_); rintro e w8 ⟨rfl, hk8⟩; have H8 := Lib.hid (H7.out.trans ((((Keeps.refl w7).alloc (.cells #[] 3)).alloc (.cells #[.slice (some ⟨w7.heap.size, 0, none⟩) 0 0] 41)).trans hk8)); clear hk8))
  have s0 := cell_keep C0.out H8.out
  have s1 := cell_keep C1.out H8.out
  have s2 := cell_keep C2.out H8.out
  have heq : ∀ W, (Op.equalIn 10000 45 (.agg #[.int .i64 3, .int .i64 95, .int .i64 105]) (.agg #[.int .i64 3, .int .i64 95, .int .i64 105])).run Tryz.prog W = .ok true W := fun W => by rw [run_eq_si]; simp
  go_wp2_with fail
  go_ret
  exact ⟨rfl, K2.out.trans (G5.out.trans H8.out)⟩
end Go.Proofs.YthkmpegpmpdhaaaGreatDoor
