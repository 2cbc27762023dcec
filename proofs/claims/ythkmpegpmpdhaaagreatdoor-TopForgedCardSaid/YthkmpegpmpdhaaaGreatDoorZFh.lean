/- Part of the proof of TopOwnItem. Conditions: as stated in each theorem. -/
import Derived.Test.YthkmpegpmpdhaaaGreatDoorZFf
import Derived.Test.YthkmpegpmpdhaaaGreatDoorProg
import Derived.WalkMore
import Derived.Maps.OwnIn
import Derived.Deep.LoopGhost
import Derived.RangeFuncNested
import Derived.RangeFuncCalls
import Derived.RangeFuncLeaves
import Derived.RangeFuncWrites
import Derived.Shelf.Abstract
import Derived.Shelf.RegionOpen
import Derived.OwnWalkIn
import Derived.TacticsInMore
import Derived.LoopNIn
import Derived.LoopIn
import Derived.RangeFuncBound
import Derived.WalkKit
import Derived.WalkSpells
import Derived.WalkLawsBesides
import Derived.Laws.EntriesVeiled
import Derived.ProofKit
import Derived.OpenShut
import Derived.Lib.Hide
import Derived.BigQuiet
import Derived.Deep.QuietTactic
import Derived.Deep.CutRange
import Derived.StillTailTactics
import Derived.Lib.SliceRun
import Derived.RangeFuncRecord
import Derived.Carry
import Derived.ChangeKeysEq
import Derived.Below
import Derived.Laws.OwnMore
import Derived.Deep.AppendLies
import Derived.Deep.Draws
import Derived.Laws.Rows
import Derived.Maps.AppendAt
import Derived.RegionTactic
import Derived.OwnWalk
import Derived.Deep.RegionHeld3
namespace Go.Proofs.YthkmpegpmpdhaaaGreatDoor
open Go.Shelf Go.ChangeShapes Go.WideShapes Go.ChangeAt Go.RowKit
set_option linter.unusedSimpArgs false
set_option linter.unusedVariables false
def belowF (x m : Int) : Bool := decide (0 ≤ x) && decide (x < m)
theorem below79 (x m : Int) (w : World) : Calls Tryz.prog 79 #[.int .i64 x, .int .i64 m] w fun e w' => e = .returned (.bool (belowF x m)) ∧ w = w' := by
  by_cases h0 : 0 ≤ x
  · by_cases h1 : x < m
    · rw [show belowF x m = true by simp [belowF, h0, h1]]
      go_enter Tryz.func79, Tryz.ntmps79
      go_wp2_with fail
      go_ret
      exact ⟨rfl, rfl⟩
    · rw [show belowF x m = false by simp [belowF, h1]]
      have d1 : decide (x < m) = false := by simpa using h1
      go_enter Tryz.func79, Tryz.ntmps79
      go_wp2_with fail
      go_ret
      exact ⟨rfl, rfl⟩
  · rw [show belowF x m = false by simp [belowF, h0]]
    have d1 : decide (0 ≤ x) = false := by simpa using h0
    go_enter Tryz.func79, Tryz.ntmps79
    go_wp2_with fail
    go_ret
    exact ⟨rfl, rfl⟩
def remF (x : Int) : Bool := belowF x 2147483647
theorem isRem101 (x : Int) (w : World) : Calls Tryz.prog 101 #[.int .i64 x] w fun e w' => e = .returned (.bool (remF x)) ∧ w = w' := by
  have HB := Lib.hid (below79 x 2147483647 w)
  unfold remF
  generalize belowF x 2147483647 = b at HB ⊢
  go_enter Tryz.func101, Tryz.ntmps101
  go_wp2_with (go_at_call 79; (with_reducible refine HB.out.mono ?_); rintro e w' ⟨rfl, rfl⟩)
  go_ret
  exact ⟨rfl, rfl⟩
theorem all_take {α : Type} {f : α → Bool} {l : List α} {k : Nat} {x : α} (hx : l[k]? = some x) (h : (l.take k).all f = true) (hf : f x = true) : (l.take (k + 1)).all f = true := by
  rw [take_snoc' hx, List.all_append, h]; simp [hf]
theorem all_not {α : Type} {f : α → Bool} {l : List α} {k : Nat} {x : α} (hx : l[k]? = some x) (hf : f x = false) : l.all f = false := by
  rw [List.all_eq_false]; exact ⟨x, List.mem_of_getElem? hx, by simp [hf]⟩
set_option maxHeartbeats 1000000 in
set_option maxRecDepth 100000 in
theorem all100 (l : List Int) (A : Option Addr) (n c : Nat) (w : World) (h : RecIn intR w w.heap.size A l) (hn : Hid (n = l.length)) (hnm : n ≤ 9223372036854775807) :
    Calls Tryz.prog 100 #[.slice A n c, .func (.func 101) #[] #[]] w fun e w' => e = .returned (.bool (l.all remF)) ∧ w = w' := by
  have HD := Lib.hid h
  clear h
  obtain ⟨r, hr⟩ : ∃ r, l.all remF = r := ⟨_, rfl⟩
  have HR := Lib.hid hr
  rw [hr]
  clear hr
  go_enter Tryz.func100, Tryz.ntmps100
  go_wp2_with fail
  go_loopw [9, 6] (fun i z wx => ∃ k : Nat, k ≤ n ∧ i = .int .i64 (k : Int) ∧ w = wx ∧ (l.take k).all remF = true) (fun i _ _ => n - (intOf i).toNat)
  case atStart => exact ⟨0, by omega, rfl, rfl, by simp⟩
  case round =>
    obtain ⟨k, hk, rfl, rfl, hall⟩ := hrel
    have HALL := Lib.hid hall
    clear hall
    have hnl := hn.out
    by_cases hkn : k < n
    · obtain ⟨x, hx⟩ : ∃ x, l[k]? = some x := ⟨_, List.getElem?_eq_getElem (by omega)⟩
      have HX := Lib.hid hx
      obtain ⟨b, o, rfl, hb, c0⟩ := HD.out.int hx
      have kn : (k : Int) < (n : Int) := by omega
      have k0 : (0 : Int) ≤ (k : Int) := by omega
      have kw : IntKind.i64.wrap ((k : Int) + 1) = (k : Int) + 1 := wrap_in (by omega) (by omega)
      have HC := Lib.hid (isRem101 x w)
      clear hx hnl
      cases hq : remF x
      · have HF := Lib.hid (show r = false by rw [← HR.out]; exact all_not HX.out hq)
        have HQ := Lib.hid hq
        rw [hq] at HC
        clear hq
        go_wp2_with (go_at_call 101; (with_reducible refine HC.out.mono ?_); rintro e w' ⟨rfl, rfl⟩)
        go_ret
        exact ⟨by rw [HF.out]; rfl, rfl⟩
      · have HQ := Lib.hid hq
        rw [hq] at HC
        clear hq
        go_wp2_with (go_at_call 101; (with_reducible refine HC.out.mono ?_); rintro e w' ⟨rfl, rfl⟩)
        go_roundw
        case rel => exact ⟨k + 1, by omega, by go_num, (by first | rfl | trivial), all_take HX.out HALL.out HQ.out⟩
        case measure => simp [intOf]; omega
    · have e : l.take k = l := List.take_of_length_le (by omega)
      rw [e] at HALL
      have HF := Lib.hid (show r = true by rw [← HR.out]; exact HALL.out)
      have hkn' : ¬ ((k : Int) < (n : Int)) := by omega
      clear hnl e
      go_wp2_with fail
      go_ret
      exact ⟨by rw [HF.out]; rfl, rfl⟩
def areKeysF (l : List Int) : Bool := decide (1 ≤ l.length) && (decide (l.length ≤ 6) && l.all remF)
theorem areKeys99 (l : List Int) (A : Option Addr) (n c : Nat) (w : World) (h : RecIn intR w w.heap.size A l) (hn : Hid (n = l.length)) (hnm : n ≤ 9223372036854775807) :
    Calls Tryz.prog 99 #[.slice A n c] w fun e w' => e = .returned (.bool (areKeysF l)) ∧ w = w' := by
  have HC := Lib.hid (all100 l A n c w h hn hnm)
  have e : areKeysF l = (decide (1 ≤ n) && (decide (n ≤ 6) && l.all remF)) := by rw [hn.out]; rfl
  rw [e]
  generalize l.all remF = r at HC ⊢
  clear e h hn
  by_cases h1 : 1 ≤ n
  · have d1 : (1 : Int) ≤ (n : Int) := by omega
    by_cases h6 : n ≤ 6
    · have d6 : (n : Int) ≤ 6 := by omega
      rw [show (decide (1 ≤ n) && (decide (n ≤ 6) && r)) = r by simp [h1, h6]]
      go_enter Tryz.func99, Tryz.ntmps99
      go_wp2_with (go_at_call 100; (with_reducible refine HC.out.mono ?_); rintro e w' ⟨rfl, rfl⟩)
      go_ret
      exact ⟨rfl, rfl⟩
    · have d6 : decide ((n : Int) ≤ 6) = false := by simp; omega
      have d6' : decide (n ≤ 6) = false := by simp; omega
      rw [show (decide (1 ≤ n) && (decide (n ≤ 6) && r)) = false by simp [h6]]
      go_enter Tryz.func99, Tryz.ntmps99
      go_wp2_with fail
      go_ret
      exact ⟨rfl, rfl⟩
  · rw [show (decide (1 ≤ n) && (decide (n ≤ 6) && r)) = false by simp [h1]]
    obtain rfl : n = 0 := by omega
    go_enter Tryz.func99, Tryz.ntmps99
    go_wp2_with fail
    go_ret
    exact ⟨rfl, rfl⟩
set_option maxRecDepth 100000 in
theorem line174 (xs : List ByteArray) (A : Option Addr) (n c : Nat) (w0 w : World) (h : OwnR strR w0 w (.slice A n c) xs) (hn : n ≤ 1000000) (hp : 0 < xs.length) (hlen : (Lib.join (xs.map (·.data.toList)) [32]).length ≤ 140737488355328) :
    Calls Tryz.prog 174 #[.slice A n c] w fun e w' => e = .returned (.string (joinB xs)) ∧ Keeps w w' := by
  have HJ := Lib.hid (join_any xs A n c w0 w h hn hp hlen)
  clear h hlen
  go_enter Tryz.func174, Tryz.ntmps174
  go_wp2_with (go_at_call 110; (with_reducible refine HJ.out.mono ?_); rintro e w' ⟨rfl, hk⟩; have HK := Lib.hid hk; clear hk)
  go_ret
  exact ⟨rfl, HK.out⟩
theorem recIn_nil {α : Type} {R : RowTy α} (w : World) (B : Nat) : RecIn R w B none [] := fun j x hj => by simp at hj
theorem completeF_scan (s : ByteArray) : completeF ⟨0, 0, 1, 0, s, [], none, 0⟩ = labelF s := by
  simp [completeF, kindF, fromB]
theorem joinB_ne (s : ByteArray) (xs : List ByteArray) (h : 0 < s.size) : joinB (s :: xs) ≠ ⟨#[]⟩ := by
  intro e
  have h1 : (Lib.join ((s :: xs).map (·.data.toList)) [32]) = [] := by
    have := congrArg (fun b : ByteArray => b.data.toList) e
    simpa [joinB] using this
  have h2 : 0 < s.data.toList.length := by simpa using h
  cases xs with
  | nil => simp [Lib.join] at h1; rw [h1] at h2; simp at h2
  | cons y t => 
    simp [Lib.join, List.intercalate] at h1
theorem scan_len (s : ByteArray) (h : s.size ≤ 1000) : (Lib.join (([⟨#[115, 99, 97, 110]⟩, itoaB 0, itoaB 0, itoaB 0, s] : List ByteArray).map (·.data.toList)) [32]).length ≤ 140737488355328 := by
  have h2 : s.data.toList.length ≤ 1000 := by simpa using h
  have i0 := Lib.itoa_length_le 0 (by omega) (by omega)
  simp [Lib.join, itoaB, List.intercalate] at i0 h2 ⊢
  omega
def TextPost (s : ByteArray) (w : World) (e : Ending) (w' : World) : Prop := (∃ t : ByteArray, e = .returned (.string t) ∧ (t == ByteArray.mk #[]) = !labelF s) ∧ Keeps w w'
set_option maxRecDepth 100000 in
set_option maxHeartbeats 2000000 in
theorem text143 (s : ByteArray) (w : World) (hs : s.size ≤ 9223372036854775807) (ht : Tab w) : Calls Tryz.prog 143 #[.agg #[.int .i64 0, .int .i64 0, .int .i64 1, .int .i64 0, .string s, .slice none 0 0]] w (TextPost s w) := by
  have k1 := (Keeps.refl w).alloc (.cells #[.int .i64 0, .int .i64 0, .int .i64 1, .int .i64 0, .string s, .slice none 0 0] 26)
  have HC := complete105 ⟨0, 0, 1, 0, s, [], none, 0⟩ _ (⟨recIn_nil _ _, hs, by simp, by simp⟩ : RecOk (w.alloc (.cells #[.int .i64 0, .int .i64 0, .int .i64 1, .int .i64 0, .string s, .slice none 0 0] 26)) (w.alloc (.cells #[.int .i64 0, .int .i64 0, .int .i64 1, .int .i64 0, .string s, .slice none 0 0] 26)).heap.size ⟨0, 0, 1, 0, s, [], none, 0⟩)
  rw [completeF_scan] at HC
  replace HC := Lib.hid (show Calls Tryz.prog 105 #[.agg #[.int .i64 0, .int .i64 0, .int .i64 1, .int .i64 0, .string s, .slice none 0 0]] _ _ from HC)
  have K1 := Lib.hid k1
  have HT := Lib.hid ht
  clear ht k1
  cases hq : labelF s
  · have HQ := Lib.hid hq
    rw [hq] at HC
    clear hq
    go_enter Tryz.func143, Tryz.ntmps143
    go_wp2_with (go_at_call 105; (with_reducible refine HC.out.mono ?_); rintro e w2 ⟨rfl, hk⟩; have HK := Lib.hid hk; clear hk)
    go_ret
    exact ⟨⟨⟨#[]⟩, rfl, by rw [HQ.out]; rfl⟩, K1.out.trans HK.out⟩
  · have HQ := Lib.hid hq
    have hs1 : s.size ≤ 1000 := by
      by_cases h : 20 < s.size
      · rw [labelF_long h] at hq; exact absurd hq (by simp)
      · omega
    rw [hq] at HC
    clear hq
    have HLN := Lib.hid (scan_len s hs1)
    have HB := Blk.new w 26 #[.int .i64 0, .int .i64 0, .int .i64 1, .int .i64 0, .string s, .slice none 0 0]
    generalize hW1 : w.alloc (.cells #[.int .i64 0, .int .i64 0, .int .i64 1, .int .i64 0, .string s, .slice none 0 0] 26) = W1 at *
    have SOF := Lib.hid (show ∀ X, Keeps W1 X → (fun w' => w'.cell? ⟨w.heap.size, 0, none⟩ = some (.int .i64 0) ∧ w'.cell? ⟨w.heap.size, 1, none⟩ = some (.int .i64 0) ∧ w'.cell? ⟨w.heap.size, 3, none⟩ = some (.int .i64 0) ∧ w'.cell? ⟨w.heap.size, 4, none⟩ = some (.string s) ∧ Keeps W1 w') X from fun X hX => ⟨cell_keep (HB.cell 0) hX, cell_keep (HB.cell 1) hX, cell_keep (HB.cell 3) hX, cell_keep (HB.cell 4) hX, hX⟩)
    have HC5 := Lib.hid (show ∀ X, Keeps W1 X → X.cell? ⟨w.heap.size, 5, none⟩ = some (.slice none 0 0) from fun X hX => cell_keep (HB.cell 5) hX)
    have HC2 := Lib.hid (show ∀ X, Keeps W1 X → X.cell? ⟨w.heap.size, 2, none⟩ = some (.int .i64 1) from fun X hX => cell_keep (HB.cell 2) hX)
    have HI := Lib.hid (show ∀ X, Keeps W1 X → Calls Tryz.prog 109 #[.int .i64 0] X fun e w' => e = .returned (.string (itoaB 0)) ∧ Keeps X w' from fun X hX => itoa_any 0 X (by omega) (by omega) (HT.out.keep (K1.out.trans hX)))
    clear HB
    subst hW1
    go_enter Tryz.func143, Tryz.ntmps143
    go_upto_region 6 with (go_at_call 105; (with_reducible refine HC.out.mono ?_); rintro e w2 ⟨rfl, kz⟩; have c2 := HC2.out _ kz; obtain ⟨d0, d1, d3, d4, hkz⟩ := SOF.out _ kz; clear hkz)
    clear c2 d0 d1 d3 d4
    go_region_held3 (fun w' => w'.cell? ⟨w.heap.size, 0, none⟩ = some (.int .i64 0) ∧ w'.cell? ⟨w.heap.size, 1, none⟩ = some (.int .i64 0) ∧ w'.cell? ⟨w.heap.size, 3, none⟩ = some (.int .i64 0) ∧ w'.cell? ⟨w.heap.size, 4, none⟩ = some (.string s) ∧ Keeps (w.alloc (.cells #[.int .i64 0, .int .i64 0, .int .i64 1, .int .i64 0, .string s, .slice none 0 0] 26)) w') ((refine SOF.out _ ?_; (repeat (first | exact kz | assumption | apply Keeps.drew | apply Keeps.alloc)); done)) ((first | (go_at_call 109; (with_reducible refine (HI.out _ (by repeat (first | exact kz | assumption | apply Keeps.drew | apply Keeps.alloc))).mono ?_); rintro e w4 ⟨rfl, hk4'⟩; have hk4 := Keeps.trans (by (repeat (first | exact kz | assumption | apply Keeps.drew | apply Keeps.alloc))) hk4'; clear hk4')))
    rename_i w3a hk3a w3b hk3b hH
    have c5 := HC5.out _ (hk4.alloc (.cells #[.string ⟨#[115, 99, 97, 110]⟩, .string (itoaB 0), .string (itoaB 0), .string (itoaB 0), .string s] 9))
    have O4 := Lib.hid (OwnR.litN (R := strR) (fun _ => rfl) (Keeps.refl w4) [⟨#[115, 99, 97, 110]⟩, itoaB 0, itoaB 0, itoaB 0, s] #[.string ⟨#[115, 99, 97, 110]⟩, .string (itoaB 0), .string (itoaB 0), .string (itoaB 0), .string s] rfl (by simp))
    have K4 := Lib.hid (K1.out.trans hk4)
    clear hk3a hk3b hH kz hk4 HC2 HC5 SOF HI
    go_wp2_with (first | (at_builtin; refine wpList_appR strOk (w0 := w4) rfl (.tmp 24) (.tmp 26) rfl _ [⟨#[115, 99, 97, 110]⟩, itoaB 0, itoaB 0, itoaB 0, s] rfl O4.out _ _ _ [] rfl (recIn_nil _ _) (Lib.hid rfl) (Lib.hid (by simp)) ?_; intro A5 n5 c5 w5 ho5 hg5; clear hg5; have n5e := own_lenR ho5; have K5 := Lib.hid ho5.2; have HJ := Lib.hid (line174 _ A5 n5 c5 w4 w5 ho5 (by rw [n5e]; simp) (by simp) HLN.out); clear ho5 n5e) | (go_at_call 174; (with_reducible refine HJ.out.mono ?_); rintro e w6 ⟨rfl, hk6⟩; have K6 := Lib.hid hk6; clear hk6))
    go_ret
    exact ⟨⟨_, rfl, by rw [HQ.out]; simpa using joinB_ne ⟨#[115, 99, 97, 110]⟩ [itoaB 0, itoaB 0, itoaB 0, s] (by decide)⟩, (K4.out.trans K5.out).trans K6.out⟩
theorem ba_tl2 (a b : ByteArray) : (a.toList == b.toList) = true ↔ a = b := by
  rw [beq_iff_eq]
  constructor
  · intro h
    rw [ByteArray.toList_eq, ByteArray.toList_eq] at h
    cases a; cases b
    simp only [ByteArray.mk.injEq]
    exact Array.ext' h
  · rintro rfl; rfl
theorem ba_e (t : ByteArray) : t.toList.isEmpty = (t == ByteArray.mk #[]) := by
  cases hb : t == ByteArray.mk #[]
  · cases hc : t.toList.isEmpty
    · rfl
    · have : t = ByteArray.mk #[] := (ba_tl2 _ _).1 (by rw [List.isEmpty_iff.1 hc, ByteArray.toList_eq]; rfl)
      rw [this] at hb
      exact absurd hb (by decide)
  · have : t = ByteArray.mk #[] := by simpa using hb
    rw [this, ByteArray.toList_eq]; rfl
theorem isLabel98 (s : ByteArray) (w : World) (hs : s.size ≤ 9223372036854775807) (ht : Tab w) : Calls Tryz.prog 98 #[.string s] w (BoolPost (labelF s) w) := by
  have HC := Lib.hid (text143 s w hs ht)
  obtain ⟨b, hb⟩ : ∃ b, labelF s = b := ⟨_, rfl⟩
  have HB := Lib.hid hb
  rw [hb]
  clear ht hb
  go_enter Tryz.func98, Tryz.ntmps98
  cases b
  · go_wp2_with (go_at_call 143; (with_reducible refine HC.out.mono ?_); rintro e w2 ⟨⟨t, rfl, he⟩, hk⟩; have HK := Lib.hid hk; clear hk; have E3 := Lib.hid (show t.toList.isEmpty = true from (by rw [ba_e, he, HB.out]; rfl)))
    go_ret
    exact bool_post (by rw [E3.out]; rfl) HK.out
  · go_wp2_with (go_at_call 143; (with_reducible refine HC.out.mono ?_); rintro e w2 ⟨⟨t, rfl, he⟩, hk⟩; have HK := Lib.hid hk; clear hk; have E3 := Lib.hid (show t.toList.isEmpty = false from (by rw [ba_e, he, HB.out]; rfl)))
    go_ret
    exact bool_post (by rw [E3.out]; rfl) HK.out
set_option maxHeartbeats 1000000 in
set_option maxRecDepth 100000 in
theorem all97 (l : List ByteArray) (A : Option Addr) (n c : Nat) (w : World) (h : RecIn strR w w.heap.size A l) (hn : Hid (n = l.length)) (hnm : n ≤ 9223372036854775807) (hs : ∀ s ∈ l, s.size ≤ 9223372036854775807) (ht : Tab w) :
    Calls Tryz.prog 97 #[.slice A n c, .func (.func 98) #[] #[]] w (BoolPost (l.all labelF) w) := by
  have HD := Lib.hid h
  have HS := Lib.hid hs
  have HT := Lib.hid ht
  clear h hs ht
  obtain ⟨r, hr⟩ : ∃ r, l.all labelF = r := ⟨_, rfl⟩
  have HR := Lib.hid hr
  rw [hr]
  clear hr
  go_enter Tryz.func97, Tryz.ntmps97
  go_wp2_with fail
  go_loopw [9, 6] (fun i z wx => ∃ k : Nat, k ≤ n ∧ i = .int .i64 (k : Int) ∧ Keeps w wx ∧ (l.take k).all labelF = true) (fun i _ _ => n - (intOf i).toNat)
  case atStart => exact ⟨0, by omega, rfl, Keeps.refl w, by simp⟩
  case round =>
    obtain ⟨k, hk, rfl, hK, hall⟩ := hrel
    have HALL := Lib.hid hall
    have HK := Lib.hid hK
    clear hall hK
    have hnl := hn.out
    by_cases hkn : k < n
    · obtain ⟨x, hx⟩ : ∃ x, l[k]? = some x := ⟨_, List.getElem?_eq_getElem (by omega)⟩
      have HX := Lib.hid hx
      obtain ⟨b, o, rfl, hb, c0⟩ := (HD.out.keep HK.out).str hx
      have kn : (k : Int) < (n : Int) := by omega
      have k0 : (0 : Int) ≤ (k : Int) := by omega
      have kw : IntKind.i64.wrap ((k : Int) + 1) = (k : Int) + 1 := wrap_in (by omega) (by omega)
      have HC := Lib.hid (isLabel98 x wr (HS.out x (List.mem_of_getElem? hx)) (HT.out.keep HK.out))
      clear hx hnl
      cases hq : labelF x
      · have HF := Lib.hid (show r = false by rw [← HR.out]; exact all_not HX.out hq)
        have HQ := Lib.hid hq
        rw [hq] at HC
        clear hq
        go_wp2_with (go_at_call 98; (with_reducible refine HC.out.mono ?_); rintro e w' ⟨rfl, hk'⟩; have HK2 := Lib.hid (HK.out.trans hk'); clear hk')
        go_ret
        exact bool_post HF.out HK2.out
      · have HQ := Lib.hid hq
        rw [hq] at HC
        clear hq
        go_wp2_with (go_at_call 98; (with_reducible refine HC.out.mono ?_); rintro e w' ⟨rfl, hk'⟩; have HK2 := Lib.hid (HK.out.trans hk'); clear hk')
        go_roundw
        case rel => exact ⟨k + 1, by omega, by go_num, HK2.out, all_take HX.out HALL.out HQ.out⟩
        case measure => simp [intOf]; omega
    · have e : l.take k = l := List.take_of_length_le (by omega)
      rw [e] at HALL
      have HF := Lib.hid (show r = true by rw [← HR.out]; exact HALL.out)
      have hkn' : ¬ ((k : Int) < (n : Int)) := by omega
      clear hnl e
      go_wp2_with fail
      go_ret
      exact bool_post HF.out HK.out
def areContF (l : List ByteArray) : Bool := decide (1 ≤ l.length) && (decide (l.length ≤ 40) && l.all labelF)
theorem areContents40 (l : List ByteArray) (A : Option Addr) (n c : Nat) (w : World) (h : RecIn strR w w.heap.size A l) (hn : Hid (n = l.length)) (hnm : n ≤ 9223372036854775807) (hs : ∀ s ∈ l, s.size ≤ 9223372036854775807) (ht : Tab w) :
    Calls Tryz.prog 40 #[.slice A n c] w (BoolPost (areContF l) w) := by
  have HC := Lib.hid (all97 l A n c w h hn hnm hs ht)
  have e : areContF l = (decide (1 ≤ n) && (decide (n ≤ 40) && l.all labelF)) := by rw [hn.out]; rfl
  rw [e]
  generalize l.all labelF = r at HC ⊢
  clear e h hn ht
  by_cases h1 : 1 ≤ n
  · have d1 : (1 : Int) ≤ (n : Int) := by omega
    by_cases h6 : n ≤ 40
    · have d6 : (n : Int) ≤ 40 := by omega
      rw [show (decide (1 ≤ n) && (decide (n ≤ 40) && r)) = r by simp [h1, h6]]
      go_enter Tryz.func40, Tryz.ntmps40
      go_wp2_with (go_at_call 97; (with_reducible refine HC.out.mono ?_); rintro e w' ⟨rfl, hk⟩; have HK := Lib.hid hk; clear hk)
      go_ret
      exact bool_post rfl HK.out
    · have d6 : decide ((n : Int) ≤ 40) = false := by simp; omega
      have d6' : decide (n ≤ 40) = false := by simp; omega
      rw [show (decide (1 ≤ n) && (decide (n ≤ 40) && r)) = false by simp [h6]]
      go_enter Tryz.func40, Tryz.ntmps40
      go_wp2_with fail
      go_ret
      exact bool_post rfl (Keeps.refl w)
  · rw [show (decide (1 ≤ n) && (decide (n ≤ 40) && r)) = false by simp [h1]]
    obtain rfl : n = 0 := by omega
    go_enter Tryz.func40, Tryz.ntmps40
    go_wp2_with fail
    go_ret
    exact bool_post rfl (Keeps.refl w)
end Go.Proofs.YthkmpegpmpdhaaaGreatDoor
