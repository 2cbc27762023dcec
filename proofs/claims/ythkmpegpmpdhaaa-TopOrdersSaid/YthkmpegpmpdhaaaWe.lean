/- Part of the proofs of TopMoney and TopOrders. Conditions: as stated in each theorem. -/
import Derived.Test.YthkmpegpmpdhaaaDs
import Derived.Deep.CutRange
import Derived.StillTailTactics
import Derived.Lib.SliceRun
import Derived.RangeFuncRecord
import Derived.Carry
import Derived.ChangeKeysEq
import Derived.Shelf.SlSortCmp.Insertion1
import Derived.Shelf.Lay
import Derived.Ground.SlsfProg
import Derived.Sort.LotA
import Derived.Test.YthkmpegpmpdhaaaRows
import Derived.WalkKit
import Derived.WalkSpells
import Derived.WalkLawsBesides
import Derived.Laws.EntriesVeiled
import Derived.ProofKit
import Derived.OpenShut
import Derived.Lib.Hide
import Derived.BigQuiet
import Derived.Deep.QuietTactic
import Derived.Below
import Derived.Laws.OwnMore
import Derived.Deep.AppendLies
import Derived.Deep.Draws
import Derived.Laws.Rows
import Derived.Maps.AppendAt
import Derived.RegionTactic
import Derived.OwnWalk
import Derived.Deep.RegionHeld3
namespace Go.Proofs.Ythkmpegpmpdhaaa
open Go.Shelf Go.Sort Go.ChangeShapes Go.WideShapes Go.ChangeAt Go.RowKit
set_option linter.unusedSimpArgs false
set_option linter.unusedVariables false
theorem distances_is (d : List (List Int)) (dA : Option Addr) (N dc : Nat) (w : World) (h : NumRows w w.heap.size dA d) (hd : DistOk d) (hN : Hid (d.length = N)) (hd12 : N ≤ 12) :
    Calls Try.prog 55 #[.slice dA N dc] w fun e w' => e = .returned (.bool true) ∧ w' = w := distances_any d dA N dc w h hd hN.out hd12
set_option maxRecDepth 100000 in
set_option maxHeartbeats 4000000 in
theorem wellO_any (d : List (List Int)) (l : List EvC) (dA eA : Option Addr) (N dc n ec : Nat) (w : World) (h : NumRows w w.heap.size dA d) (hd : DistOk d) (hN : Hid (d.length = N)) (hd12 : N ≤ 12) (he : RecIn evR w w.heap.size eA l) (hln : Hid (n = l.length)) (hn : n ≤ 16)
    (ho : ∀ e ∈ l, isOff d e.1.o) : Calls Try.prog 36 #[.slice dA N dc, .slice eA n ec, .slice none 0 0] w (BoolPost true w) := by
  have HD := Lib.hid h
  have HE := Lib.hid he
  have HO := Lib.hid ho
  have B0 := Lib.hid (Blk.new w 47 #[.slice eA n ec])
  have K0 := Lib.hid ((Keeps.refl w).alloc (.cells #[.slice eA n ec] 47))
  have t1 : decide (16 < n) = false := by simp; omega
  have t1' : decide ((16 : Int) < (n : Int)) = false := by simp; omega
  clear h he ho
  go_enter Try.func36, Try.ntmps36
  go_wp2_with (go_at_call 55; (with_reducible refine (distances_is d dA N dc _ (HD.out.keep K0.out) hd hN hd12).mono ?_); rintro e w1 ⟨rfl, rfl⟩)
  go_loopw [8, 23] (fun _ c wr => ∃ k : Nat, k ≤ n ∧ c = .int .i64 (k : Int) ∧ Keeps w wr ∧ Blk wr w.heap.size 47 #[.slice eA n ec]) (fun _ c _ => n - (intOf c).toNat)
  case atStart => exact ⟨0, by omega, rfl, K0.out, B0.out⟩
  case round =>
    clear K0 B0
    obtain ⟨k, hk, rfl, hK, hB⟩ := hrel
    have K := Lib.hid hK; have B := Lib.hid hB
    clear hB
    by_cases hkn : k < n
    · have hki : (k : Int) < (n : Int) := by omega
      have hk0 : (0 : Int) ≤ (k : Int) := by omega
      have hkw : IntKind.i64.wrap ((k : Int) + 1) = (k : Int) + 1 := wrap_in (by omega) (by omega)
      obtain ⟨⟨⟨o, lo, hi⟩, hA, hq, hc⟩, hx⟩ : ∃ x, l[k]? = some x := ⟨_, List.getElem?_eq_getElem (by rw [← hln.out]; exact hkn)⟩
      obtain ⟨eb, eo, rfl, heb, e0, e1, e2, e3⟩ := (HE.out.keep hK).ev hx
      simp only [hdV] at e0 e1 e2 e3
      have hoff := HO.out _ (List.mem_of_getElem? hx)
      have hof : 0 ≤ o ∧ o < (N : Int) := by have := hN.out; exact ⟨hoff.1, by have := hoff.2; simp only at this; omega⟩
      obtain ⟨hof0, hof1⟩ := hof
      have t3 : decide (o < 0) = false := by simp; omega
      have t4 : decide ((N : Int) ≤ o) = false := by simp; omega
      have K3 := Lib.hid (hK.alloc (.cells #[.int .i64 o, .int .i64 lo, .int .i64 hi, .slice hA hq hc] 80))
      have B3 := Lib.hid (B.out.alloc (.cells #[.int .i64 o, .int .i64 lo, .int .i64 hi, .slice hA hq hc] 80))
      clear hx hoff hK
      go_wp2_with fail
      go_roundw
      case rel => first | exact ⟨k + 1, by omega, by go_num, K3.out, B3.out⟩ | ((repeat apply Exists.intro); exact ⟨⟨k + 1, by omega, by go_num, K3.out, B3.out⟩, rfl⟩)
      case measure => simp [intOf]; omega
    · have hB' := B.out.lt
      have b0 : wr.cell? ⟨w.heap.size, 0, none⟩ = some (.slice eA n ec) := B.out.cell 0
      clear hK
      go_wp2_with (at_make; refine wpList_makeR boOk (w0 := wr) rfl (.tmp 39) (.tmp 39) rfl false (.bool false) (by kernel_rfl) rfl n rfl rfl (by omega) (Keeps.refl _) ?_; intro w5 ho5 hg5; have K5 := Lib.hid (K.out.trans ho5.2); clear ho5 hg5)
      go_loopw [44] (fun c wq => c = .int .i64 0 ∧ Keeps w wq) (fun _ _ => 0)
      case atStart => exact ⟨rfl, by first | exact K5.out.alloc _ | exact (K5.out.alloc _).alloc _⟩
      case round =>
        obtain ⟨rfl, hK9⟩ := hrel
        go_wp2_with fail
        go_ret
        exact bool_post rfl hK9
end Go.Proofs.Ythkmpegpmpdhaaa
