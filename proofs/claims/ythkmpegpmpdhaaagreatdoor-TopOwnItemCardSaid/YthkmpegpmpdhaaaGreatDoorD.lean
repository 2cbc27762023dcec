/- Part of the proof of TopOwnItem. Conditions: as stated in each theorem. -/
import Derived.Test.YthkmpegpmpdhaaaGreatDoorB
import Derived.Test.YthkmpegpmpdhaaaGreatDoorProg
import Derived.WalkKit
import Derived.WalkSpells
import Derived.WalkLawsBesides
import Derived.Laws.EntriesVeiled
import Derived.ProofKit
import Derived.OpenShut
import Derived.Lib.Hide
import Derived.BigQuiet
import Derived.Deep.QuietTactic
import Derived.Deep.CutRange
import Derived.StillTailTactics
import Derived.Lib.SliceRun
import Derived.RangeFuncRecord
import Derived.Carry
import Derived.ChangeKeysEq
import Derived.Below
import Derived.Laws.OwnMore
import Derived.Deep.AppendLies
import Derived.Deep.Draws
import Derived.Laws.Rows
import Derived.Maps.AppendAt
import Derived.RegionTactic
import Derived.OwnWalk
import Derived.Deep.RegionHeld3
namespace Go.Proofs.YthkmpegpmpdhaaaGreatDoor
open Go.ChangeShapes Go.WideShapes Go.ChangeAt Go.RowKit
set_option linter.unusedSimpArgs false
set_option linter.unusedVariables false
theorem wrap_in {x : Int} (h1 : -9223372036854775808 ≤ x) (h2 : x ≤ 9223372036854775807) : IntKind.i64.wrap x = x := by rw [IntKind.wrap_i64]; omega
/-- One step of the digest, and the digest of a list of numbers. -/
def dgS (h x : Int) : Int := (h * 1000003 + x % 2147483647 + 1) % 2147483647
def dgF (l : List Int) : Int := l.foldl dgS 7
theorem dgS_in (h x : Int) : 0 ≤ dgS h x ∧ dgS h x < 2147483647 := by unfold dgS; omega
theorem dgF_in : ∀ (l : List Int) (h : Int), 0 ≤ h → h < 2147483647 → 0 ≤ l.foldl dgS h ∧ l.foldl dgS h < 2147483647
  | [], h, h0, h1 => ⟨h0, h1⟩
  | x :: l, h, _, _ => dgF_in l (dgS h x) (dgS_in h x).1 (dgS_in h x).2
theorem foldl_snoc {α β : Type} (f : β → α → β) (b : β) {l : List α} {k : Nat} {x : α} (h : l[k]? = some x) : (l.take (k + 1)).foldl f b = f ((l.take k).foldl f b) x := by
  rw [List.take_add_one, h]; simp
theorem tmod_pos {x : Int} (h : 0 ≤ x.tmod 2147483647) : x.tmod 2147483647 = x % 2147483647 := by
  rcases Int.le_total 0 x with h0 | h0
  · exact Int.tmod_eq_emod_of_nonneg h0
  · have h1 := Int.tmod_eq_emod (a := x) (b := 2147483647)
    split at h1 <;> omega
theorem tmod_neg {x : Int} (h : x.tmod 2147483647 < 0) : x.tmod 2147483647 + 2147483647 = x % 2147483647 := by
  have h1 := Int.tmod_eq_emod (a := x) (b := 2147483647)
  split at h1
  · omega
  · omega
theorem tmod_in (x : Int) : -2147483647 < x.tmod 2147483647 ∧ x.tmod 2147483647 < 2147483647 := by
  have h1 := Int.tmod_eq_emod (a := x) (b := 2147483647)
  split at h1 <;> omega
def CntS (l : List Int) (w : World) (a b : Value) (wr : World) : Prop := ∃ i : Nat, i ≤ l.length ∧ b = .int .i64 (i : Int) ∧ a = .int .i64 ((l.take i).foldl dgS 7) ∧ wr = w
set_option maxRecDepth 100000 in
set_option maxHeartbeats 4000000 in
theorem dg_any (l : List Int) (A : Option Addr) (n c : Nat) (w : World) (h : RecIn intR w w.heap.size A l) (hn : Hid (n = l.length)) (hnm : n ≤ 9223372036854775807) :
    Calls Tryz.prog 52 #[.slice A n c] w fun e w' => e = .returned (.int .i64 (dgF l)) ∧ w = w' := by
  have HD := Lib.hid h
  clear h
  unfold dgF
  go_enter Tryz.func52, Tryz.ntmps52
  go_wp2_with fail
  go_loopw [3, 9] (fun a b wr => CntS l w a b wr) (fun _ b _ => n - (intOf b).toNat)
  case atStart => exact ⟨0, by omega, rfl, rfl, rfl⟩
  case round =>
    obtain ⟨i, hi, rfl, rfl, rfl⟩ := hrel
    have hnl := hn.out
    have hb := dgF_in (l.take i) 7 (by omega) (by omega)
    by_cases hin : i < n
    · obtain ⟨x, hx⟩ : ∃ x, l[i]? = some x := ⟨_, List.getElem?_eq_getElem (by omega)⟩
      have hs := Lib.hid (foldl_snoc dgS 7 hx)
      obtain ⟨b, o, rfl, hbl, c0⟩ := HD.out.int hx
      generalize (l.take i).foldl dgS 7 = H at *
      have ii : (i : Int) < (n : Int) := by omega
      have i0 : (0 : Int) ≤ (i : Int) := by omega
      have iw : IntKind.i64.wrap ((i : Int) + 1) = (i : Int) + 1 := wrap_in (by omega) (by omega)
      have hb0 := hb.1
      have hb1 := hb.2
      have tm := tmod_in x
      have tm0 := tm.1
      have tm1 := tm.2
      have TP := Lib.hid (fun h => tmod_pos (x := x) h)
      have TN := Lib.hid (fun h => tmod_neg (x := x) h)
      clear hx hb tm
      have hil : i < l.length := by omega
      clear hnl
      by_cases hg : x.tmod 2147483647 < 0
      · have d1 : decide (x.tmod 2147483647 < 0) = true := by simpa using hg
        have e1 := TN.out hg
        have b1 : 0 ≤ x.tmod 2147483647 + 2147483647 := by omega
        have b2 : x.tmod 2147483647 + 2147483647 < 2147483647 := by omega
        have E1 := Lib.hid e1
        clear e1 TP TN
        go_wp2_with fail
        go_roundw
        case rel => exact ⟨i + 1, by omega, by go_num, by rw [hs.out, dgS, ← E1.out], rfl⟩
        case measure => simp [intOf]; omega
      · have d1 : decide (x.tmod 2147483647 < 0) = false := by simpa using hg
        have e1 := TP.out (by omega)
        have b1 : 0 ≤ x.tmod 2147483647 := by omega
        have E1 := Lib.hid e1
        clear e1 TP TN
        go_wp2_with fail
        go_roundw
        case rel => exact ⟨i + 1, by omega, by go_num, by rw [hs.out, dgS, ← E1.out], rfl⟩
        case measure => simp [intOf]; omega
    · have e : l.take i = l := List.take_of_length_le (by omega)
      rw [e] at *
      go_wp2_with fail
      go_ret
      exact ⟨rfl, rfl⟩

theorem sumD_any (l : List Int) (A : Option Addr) (n c : Nat) (w : World) (h : RecIn intR w w.heap.size A l) (hn : Hid (n = l.length)) (hnm : n ≤ 9223372036854775807) :
    Calls Tryz.prog 27 #[.slice A n c] w fun e w' => e = .returned (.int .i64 (dgF l)) ∧ w = w' := by
  have HC := Lib.hid (dg_any l A n c w h hn hnm)
  clear h
  go_enter Tryz.func27, Tryz.ntmps27
  go_wp2_with (go_at_call 52; (with_reducible refine HC.out.mono ?_); rintro e w' ⟨rfl, rfl⟩)
  go_ret
  exact ⟨rfl, rfl⟩
/-- 'make' of no element, with room for n. -/
theorem wpList_make0R {α : Type} {R : RowTy α} {P : Program} (ok : RowOk P R) {w0 w : World} {ops : Array Oper} {rest : List Oper} {o : Oper} {a : Act} {Q : Exit → Act → World → Prop} (hgd : o.guard = none) (l c : Operand) (ho : o.op = .makeSlice R.S l c)
    (n : Nat) (hl : a.eval l = .int .i64 0) (hc : a.eval c = .int .i64 (n : Int)) (hn : n ≤ 1000000) (hw : Keeps w0 w)
    (h : ∀ w', OwnR R w0 w' (.slice (some ⟨w.heap.size, 0, none⟩) 0 n) [] → w.grownBy w' none → wpList P ops Q rest (a.put o.dst (.slice (some ⟨w.heap.size, 0, none⟩) 0 n)) w') : wpList P ops Q (o :: rest) a w := by
  obtain ⟨i0, z, hi0, hz0, hz1, hz2, hz3⟩ := ok.info
  have hby : i0.bytes * n ≤ 1000 * 1000000 := Nat.mul_le_mul (by rw [hz2]; exact ok.few) hn
  exact wpList_make_own w hgd l c R.S ho w0.heap.size R.T i0 z R.k ok.und hi0 hz0 hz1 .i64 .i64 (n : Int) n hl hc rfl (by omega) (by unfold maxLen; omega) hw.size (fun w' h1 h2 => h w' ⟨h1, grown_keeps hw h2 (fun k e => by cases e)⟩ h2)
/-- The bytes of a text as numbers. -/
def codes (s : ByteArray) : List Int := s.data.toList.map fun b => (b.toNat : Int)
theorem codes_len (s : ByteArray) : (codes s).length = s.size := by simp [codes]
theorem codes_at (s : ByteArray) (k : Nat) (h : k < s.size) : (codes s)[k]? = some ((s[k].toNat : Int)) := by
  unfold codes
  rw [List.getElem?_map, List.getElem?_eq_getElem (by simpa using h)]
  rfl
theorem take_snoc' {α : Type} {l : List α} {k : Nat} {x : α} (h : l[k]? = some x) : l.take (k + 1) = l.take k ++ [x] := by rw [List.take_add_one, h]; rfl
def tokF (secret : Int) (s : ByteArray) : Int := dgF (secret :: codes s)
def TokR (secret : Int) (s : ByteArray) (w : World) (a b : Value) (wr : World) : Prop := ∃ (i : Nat) (A : Option Addr) (n c : Nat), i ≤ s.size ∧ a = .slice A n c ∧ b = .int .i64 (i : Int) ∧ OwnR intR w wr (.slice A n c) (secret :: (codes s).take i)
def slLen : Value → Nat | .slice _ n _ => n | _ => 0
set_option maxRecDepth 100000 in
set_option maxHeartbeats 4000000 in
theorem token_any (secret : Int) (s : ByteArray) (w : World) (hs : s.size ≤ 1000) :
    Calls Tryz.prog 11 #[.int .i64 secret, .string s] w fun e w' => e = .returned (.int .i64 (tokF secret s)) ∧ Keeps w w' := by
  have hw : IntKind.i64.wrap ((s.size : Int) + 1) = ((s.size + 1 : Nat) : Int) := wrap_in (by omega) (by omega)
  have ONE := Lib.hid (show (1 : Nat) = [secret].length from rfl)
  have L1 := Lib.hid (show ([] : List Int).length + [secret].length ≤ 1000000 by simp)
  go_enter Tryz.func11, Tryz.ntmps11
  go_wp2_with (first | (at_make; refine wpList_make0R intOk (w0 := w) rfl (.const (.int .i64 0)) (.tmp 9) rfl (s.size + 1) rfl rfl (by omega) (Keeps.refl _) ?_; intro w1 ho1 hg1; have O1 := Lib.hid (ho1.keep ((Keeps.refl _).alloc (.cells #[.int .i64 secret] 3))); have X1 := Lib.hid (RecIn.lit intOk w1 [secret] #[.int .i64 secret] rfl); clear ho1 hg1) | (at_builtin; refine wpList_appR intOk (w0 := w) rfl (.tmp 11) (.tmp 13) rfl _ [] rfl O1.out _ _ _ [secret] rfl X1.out ONE L1 ?_; intro A2 n2 c2 w2 ho2 hg2; clear hg2; have O2 := Lib.hid ho2; clear ho2 O1 X1))
  go_loopw [5, 17] (fun a b wr => TokR secret s w a b wr) (fun _ b _ => s.size - (intOf b).toNat)
  case atStart => exact ⟨0, A2, n2, c2, by omega, rfl, rfl, O2.out⟩
  case round =>
    clear O2
    obtain ⟨i, A, n, c, hi, rfl, rfl, hO⟩ := hrel
    have hn := (hO.recs intOk).2
    by_cases hin : i < s.size
    · have bx1 : (s[i].toNat : Int) ≤ 255 := by have := s[i].toNat_lt; omega
      have hsn := Lib.hid (take_snoc' (codes_at s i hin))
      have ii : (i : Int) < (s.size : Int) := by omega
      have i0 : (0 : Int) ≤ (i : Int) := by omega
      have iw : IntKind.i64.wrap ((i : Int) + 1) = (i : Int) + 1 := wrap_in (by omega) (by omega)
      have LE := Lib.hid (show (secret :: (codes s).take i).length + [(s[i].toNat : Int)].length ≤ 1000000 by simp [codes_len]; omega)
      have ONE := Lib.hid (show (1 : Nat) = [(s[i].toNat : Int)].length from rfl)
      have O1 := Lib.hid (hO.keep ((Keeps.refl _).alloc (.cells #[.int .i64 (s[i].toNat : Int)] 3)))
      have X1 := Lib.hid (RecIn.lit intOk wr [(s[i].toNat : Int)] #[.int .i64 (s[i].toNat : Int)] rfl)
      clear hO hn
      go_wp2_with (at_builtin; refine wpList_appR intOk (w0 := w) rfl (.tmp 20) (.tmp 25) rfl _ (secret :: (codes s).take i) rfl O1.out _ _ _ [(s[i].toNat : Int)] rfl X1.out ONE LE ?_; intro A2 n2 c2 w2 ho2 hg2; clear hg2; have O2 := Lib.hid ho2; clear ho2 O1 X1)
      go_roundw
      case rel => exact ⟨i + 1, A2, n2, c2, by omega, rfl, by go_num, by rw [hsn.out, ← List.cons_append]; exact O2.out⟩
      case measure => simp [intOf]; omega
    · have e : (codes s).take i = codes s := List.take_of_length_le (by rw [codes_len]; omega)
      rw [e] at hO
      have HC := Lib.hid (sumD_any (secret :: codes s) A n c wr (hO.recs intOk).1 (Lib.hid (hO.recs intOk).2) (by rw [(hO.recs intOk).2]; simp [codes_len]; omega))
      have HK := Lib.hid hO.2
      clear hO hn e
      go_wp2_with (go_at_call 27; (with_reducible refine HC.out.mono ?_); rintro e w' ⟨rfl, rfl⟩)
      go_ret
      exact ⟨rfl, HK.out⟩
end Go.Proofs.YthkmpegpmpdhaaaGreatDoor
