/- Part of the proof of TopOwnItem. Conditions: as stated in each theorem. -/
import Derived.Test.YthkmpegpmpdhaaaGreatDoorZGe
import Derived.Test.YthkmpegpmpdhaaaGreatDoorZU
import Derived.Test.YthkmpegpmpdhaaaGreatDoorProg
import Derived.WalkMore
import Derived.Maps.OwnIn
import Derived.Deep.LoopGhost
import Derived.RangeFuncNested
import Derived.RangeFuncCalls
import Derived.RangeFuncLeaves
import Derived.RangeFuncWrites
import Derived.Shelf.Abstract
import Derived.Shelf.RegionOpen
import Derived.OwnWalkIn
import Derived.TacticsInMore
import Derived.LoopNIn
import Derived.LoopIn
import Derived.RangeFuncBound
import Derived.Shelf.SlSortCmp.InsertionK
import Derived.WalkKit
import Derived.WalkSpells
import Derived.WalkLawsBesides
import Derived.Laws.EntriesVeiled
import Derived.ProofKit
import Derived.OpenShut
import Derived.Lib.Hide
import Derived.BigQuiet
import Derived.Deep.QuietTactic
import Derived.Deep.CutRange
import Derived.StillTailTactics
import Derived.Lib.SliceRun
import Derived.RangeFuncRecord
import Derived.Carry
import Derived.ChangeKeysEq
import Derived.Below
import Derived.Laws.OwnMore
import Derived.Deep.AppendLies
import Derived.Deep.Draws
import Derived.Laws.Rows
import Derived.Maps.AppendAt
import Derived.RegionTactic
import Derived.OwnWalk
import Derived.Deep.RegionHeld3
namespace Go.Proofs.YthkmpegpmpdhaaaGreatDoor
open Go.Shelf Go.ChangeShapes Go.WideShapes Go.ChangeAt Go.RowKit
set_option linter.unusedSimpArgs false
set_option linter.unusedVariables false
/-- The cells of a record. -/
def recE : Rec → List Value := rcR.enc
theorem recE_len : ∀ x, (recE x).length = 6 := rcOk.len
theorem recE_one : ∀ x, ∀ v ∈ recE x, v.oneCell' = true := rcOk.one
def Tryz.ins172_ren : Go.Shelf.Ren := ⟨fun | 20 => 172 | n => n, fun | 22 => 23 | 24 => 26 | 25 => 199 | n => n, fun | n => n⟩
theorem Tryz.ins172 : Go.Proofs.SlLaysF0.n20 Tryz.prog Tryz.ins172_ren := {
  mixed := by kernel_rfl
  f20 := ⟨Tryz.f172.name, by decide, Tryz.func172.trans (congrArg some (by kernel_rfl))⟩
  t0 := Tryz.underlying0
  a0 := Tryz.isAgg0
  z0 := Tryz.sizeOf0
  v0 := Tryz.zeroValue0
  t3 := Tryz.underlying3
  a3 := Tryz.isAgg3
  z3 := Tryz.sizeOf3
  v3 := Tryz.zeroValue3
  t4 := Tryz.underlying4
  a4 := Tryz.isAgg4
  z4 := Tryz.sizeOf4
  v4 := Tryz.zeroValue4
  t22 := Tryz.underlying23
  a22 := Tryz.isAgg23
  z22 := Tryz.sizeOf23
  v22 := Tryz.zeroValue23
  t25 := Tryz.underlying199
  a25 := Tryz.isAgg199
  z25 := Tryz.sizeOf199
  v25 := Tryz.zeroValue199
}
section
open Go.Sort
variable {α : Type} [Inhabited α]
theorem rea_inner (lt : α → α → Bool) (a : Nat) : ∀ (j : Nat) (d : Array α), j < d.size → Rea d (insInner lt a j d) := by
  intro j
  induction j with
  | zero => intro d _; exact Rea.refl _
  | succ j ih =>
    intro d hj
    unfold insInner
    split
    · exact ((Rea.refl d).swp (j + 1) j hj (by omega)).trans (ih _ (by rw [size_swp]; omega))
    · exact Rea.refl _
theorem rea_outer (lt : α → α → Bool) (a b : Nat) : ∀ (g i : Nat) (d : Array α), b ≤ i + g → b ≤ d.size → Rea d (insOuter lt a b i d) := by
  intro g
  induction g with
  | zero =>
    intro i d h1 h2
    unfold insOuter
    rw [if_neg (by omega)]
    exact Rea.refl _
  | succ g ih =>
    intro i d h1 h2
    unfold insOuter
    split
    · have h := rea_inner lt a i d (by omega)
      exact h.trans (ih (i + 1) _ (by omega) (by rw [h.1]; exact h2))
    · exact Rea.refl _
theorem rea_ins (lt : α → α → Bool) (a b : Nat) (d : Array α) (h : b ≤ d.size) : Rea d (Go.Sort.insertionSort lt d a b) := rea_outer lt a b b (a + 1) d (by omega) h
end
section
open Go.Sort
/-- What is asked of the order of records. -/
abbrev CmpR (cf : Rec → Rec → Int) (g : Nat) (cb : Array Value) (blk off size : Nat) (w : World) : Prop := CmpL Tryz.prog g cb recE 6 cf blk off size w
theorem insert172 (cf : Rec → Rec → Int) (g : Nat) (cb : Array Value) (blk off cap a b m0 : Nat) (A B : Int) (d dk0 : Array Rec) (os0 : Array Obj) (w : World)
    (eg : ∀ args w, (callFunc g args).run Tryz.prog w = .ok (.enter g args) w) (hcmp : CmpR cf g cb blk off d.size w) (hH : HoldsK recE 6 w blk off d) (hblk : blk < w.heap.size) (hs0 : dk0.size = d.size) (hab : a ≤ b) (hb : b ≤ d.size) (hsz : d.size < 4611686018427387904) (hA : A = (a : Int)) (hB : B = (b : Int)) :
    Calls Tryz.prog 172 #[.slice (some ⟨blk, off, none⟩) d.size cap, .int .i64 A, .int .i64 B, .func (.func g) #[] cb] (sortWorldK recE 6 w blk off m0 dk0 os0) fun e w' =>
      e = .returned (.tuple #[]) ∧ ∃ n os, w' = sortWorldK recE 6 w blk off n (Go.Sort.insertionSort (ltOf cf) dk0 a b) os := by
  subst hA hB
  have hblk2 : blk < (sortWorldK recE 6 w blk off m0 dk0 os0).heap.size := Nat.lt_of_lt_of_le hblk (size_sortWorldK_c recE 6 w blk off m0 dk0 os0)
  have hon : ∀ m (dk : Array Rec) os, dk.size = dk0.size → sortWorldK recE 6 (sortWorldK recE 6 w blk off m0 dk0 os0) blk off m dk os = sortWorldK recE 6 w blk off (m0 + m) dk (os0 ++ os) := fun m dk os h => sortWorldK_on recE 6 w blk off m0 m dk0 dk os0 os hblk h
  have hcon := AnyQ.insertionSortCmpFunc Tryz.ins172 6 Tryz.isAgg26 Tryz.sizeOf26 recE recE_len recE_one cf g cb blk off cap a b dk0 (sortWorldK recE 6 w blk off m0 dk0 os0) eg (fun m os dk hdk x y => by
    rw [hon m dk os hdk]
    exact hcmp _ _ dk (hdk.trans hs0) x y) (holdsK_sortWorldK_c recE 6 w blk off d dk0 m0 os0 hH hblk hs0) hblk2 hab (by rw [hs0]; exact hb) (by rw [hs0]; exact hsz)
  change Calls Tryz.prog 172 _ _ _ at hcon
  rw [hs0] at hcon
  refine hcon.mono ?_
  rintro e w' ⟨rfl, n, os, rfl⟩
  exact ⟨rfl, m0 + n, os0 ++ os, hon n _ os (rea_ins _ a b dk0 (by rw [hs0]; exact hb)).1⟩
end
section
open Go.Sort
variable (cf : Rec → Rec → Int)
/-- What the stable sort makes of few records. -/
def stabF (d : Array Rec) : Array Rec := Go.Sort.insertionSort (ltOf cf) d 0 d.size
def StabPost (w : World) (blk off : Nat) (d : Array Rec) (e : Ending) (w' : World) : Prop :=
  e = .returned (.tuple #[]) ∧ ∃ n d' os, Rea d d' ∧ (d.size < 20 → d' = stabF cf d) ∧ w' = sortWorldK recE 6 w blk off n d' os
set_option maxHeartbeats 8000000 in
set_option maxRecDepth 1000000 in
theorem stable141 (g : Nat) (cb : Array Value) (blk off cap : Nat) (d : Array Rec) (w : World)
    (eg : ∀ args w, (callFunc g args).run Tryz.prog w = .ok (.enter g args) w) (hcmp : CmpR cf g cb blk off d.size w) (hH : HoldsK recE 6 w blk off d) (hblk : blk < w.heap.size) (hsz : d.size < 1000000000) :
    Calls Tryz.prog 141 #[.slice (some ⟨blk, off, none⟩) d.size cap, .int .i64 (d.size : Int), .func (.func g) #[] cb] w (StabPost cf w blk off d) := by
  have HI := Lib.hid (fun (a b m0 : Nat) (A B : Int) (dk0 : Array Rec) (os0 : Array Obj) hs0 hab hb hA hB => insert172 cf g cb blk off cap a b m0 A B d dk0 os0 w eg hcmp hH hblk hs0 hab hb (by omega) hA hB)
  have HM := Lib.hid (fun (a m b m0 : Nat) (A M B : Int) (dk0 : Array Rec) (os0 : Array Obj) hs0 ham hmb hb hA hM hB => merge173 Tryz.srtL recE_len recE_one cf g cb blk off cap d w eg hcmp hH hblk (by omega) b a m b m0 A M B dk0 os0 (by omega) hs0 ham hmb hb hA hM hB)
  have HW := Lib.hid (sortWorldK_start recE 6 w blk off d hH)
  have HST := Lib.hid (show stabF cf d = Go.Sort.insertionSort (ltOf cf) d 0 d.size from rfl)
  clear hcmp hH
  obtain ⟨n, hn⟩ : ∃ n, d.size = n := ⟨_, rfl⟩
  have HN := Lib.hid hn
  rw [hn] at HI HM hsz HST ⊢
  clear hn
  go_enter Tryz.func141, Tryz.ntmps141
  go_wp2
  go_loopg [7, 8] n (fun g1 va vb wr => ∃ (a m : Nat) (dk : Array Rec) (os : Array Obj), va = .int .i64 a ∧ vb = .int .i64 ((a + 20 : Nat) : Int) ∧ a ≤ n ∧ n - a ≤ g1 ∧ Rea d dk ∧ (n < 20 → a = 0 ∧ dk = d) ∧ wr = sortWorldK recE 6 w blk off m dk os)
  case atStart => exact ⟨0, 0, d, #[], rfl, rfl, by omega, by omega, Rea.refl _, fun _ => ⟨rfl, rfl⟩, HW.out.symm⟩
  case round =>
    obtain ⟨a, m, dk, os, rfl, rfl, han, hg1, hR, hsm, rfl⟩ := hrel
    have HR := Lib.hid hR
    have HSM := Lib.hid hsm
    have HSK := Lib.hid (hR.1.trans HN.out)
    clear hR hsm
    by_cases hab : a + 20 ≤ n
    · have habz : (a : Int) + 20 ≤ (n : Int) := by omega
      go_wp2_with (go_at_call 172; (with_reducible refine (HI.out a (a + 20) _ _ _ _ _ HSK.out (by omega) (by omega) (by rfl) (by first | rfl | omega)).mono ?_); rintro e w' ⟨rfl, n2, os2, rfl⟩)
      go_roundg (n - (a + 20))
      case measure => omega
      case rel => exact ⟨a + 20, n2, _, os2, by congr 1, by go_num, by omega, by omega, HR.out.trans (rea_ins _ _ _ _ (by rw [HR.out.1, HN.out]; omega)), fun h => absurd h (by omega), rfl⟩
    · have habz : ¬ ((a : Int) + 20 ≤ (n : Int)) := by omega
      go_wp2_with (go_at_call 172; (with_reducible refine (HI.out a n _ _ _ _ _ HSK.out (by omega) (by omega) (by rfl) (by rfl)).mono ?_); rintro e w' ⟨rfl, n2, os2, rfl⟩)
      have hR2 := HR.out.trans (rea_ins (ltOf cf) a n dk (by rw [HR.out.1, HN.out]; omega))
      have hS2 : n < 20 → Go.Sort.insertionSort (ltOf cf) dk a n = stabF cf d := fun h => by rw [(HSM.out h).1, (HSM.out h).2, HST.out]
      generalize Go.Sort.insertionSort (ltOf cf) dk a n = dk2 at *
      have HR2 := Lib.hid hR2
      have HS2 := Lib.hid hS2
      clear hR2 hS2 HR HSM
      go_loopg [6] n (fun g2 vs wr => ∃ (bs m : Nat) (dk : Array Rec) (os : Array Obj), vs = .int .i64 bs ∧ 20 ≤ bs ∧ bs ≤ 2000000000 ∧ n ≤ bs + g2 ∧ Rea d dk ∧ (n < 20 → dk = stabF cf d) ∧ wr = sortWorldK recE 6 w blk off m dk os)
      case atStart => exact ⟨20, n2, dk2, os2, rfl, by omega, by omega, by omega, HR2.out, HS2.out, rfl⟩
      case round =>
        obtain ⟨bs, m3, dk3, os3, rfl, hbs, hbs2, hg2, hR3, hS3, rfl⟩ := hrel
        have HR3 := Lib.hid hR3
        have HS3 := Lib.hid hS3
        clear hR3 hS3 HR2 HS2
        by_cases hlt : bs < n
        · have hltz : (bs : Int) < (n : Int) := by omega
          go_wp2
          go_loopg [7, 8] n (fun g3 va vb wr => ∃ (a m : Nat) (dk : Array Rec) (os : Array Obj), va = .int .i64 a ∧ vb = .int .i64 ((a + 2 * bs : Nat) : Int) ∧ a ≤ n ∧ n ≤ a + g3 ∧ Rea d dk ∧ wr = sortWorldK recE 6 w blk off m dk os)
          case atStart => exact ⟨0, m3, dk3, os3, rfl, by congr 1; omega, by omega, by omega, HR3.out, rfl⟩
          case round =>
            obtain ⟨a4, m4, dk4, os4, rfl, rfl, ha4, hg4, hR4, rfl⟩ := hrel
            have HR4 := Lib.hid hR4
            have HSK4 := Lib.hid (hR4.1.trans HN.out)
            clear hR4
            by_cases hb4 : a4 + 2 * bs ≤ n
            · have hb4z : (a4 : Int) + 2 * (bs : Int) ≤ (n : Int) := by omega
              go_wp2_with (go_at_call 173; (with_reducible refine (HM.out a4 (a4 + bs) (a4 + 2 * bs) _ _ _ _ _ _ HSK4.out (by omega) (by omega) (by omega) (by rfl) (by first | rfl | omega) (by first | rfl | omega)).mono ?_); rintro e w' ⟨rfl, n5, d5, os5, hr5, rfl⟩; have HR5 := Lib.hid (HR4.out.trans hr5); clear hr5)
              go_roundg (n - (a4 + 2 * bs))
              case measure => omega
              case rel => exact ⟨a4 + 2 * bs, n5, d5, os5, by first | rfl | (congr 1; omega), by first | rfl | (congr 1; omega), by omega, by omega, HR5.out, rfl⟩
            · have hb4z : ¬ ((a4 : Int) + 2 * (bs : Int) ≤ (n : Int)) := by omega
              by_cases hm4 : a4 + bs < n
              · have hm4z : (a4 : Int) + (bs : Int) < (n : Int) := by omega
                go_wp2_with (go_at_call 173; (with_reducible refine (HM.out a4 (a4 + bs) n _ _ _ _ _ _ HSK4.out (by omega) (by omega) (by omega) (by rfl) (by first | rfl | omega) (by rfl)).mono ?_); rintro e w' ⟨rfl, n5, d5, os5, hr5, rfl⟩; have HR5 := Lib.hid (HR4.out.trans hr5); clear hr5)
                go_roundg (n - 2 * bs)
                case measure => omega
                case rel => exact ⟨2 * bs, n5, d5, os5, by first | rfl | (congr 1; omega), by omega, by omega, by omega, HR5.out, fun h => absurd h (by omega), rfl⟩
              · have hm4z : ¬ ((a4 : Int) + (bs : Int) < (n : Int)) := by omega
                go_wp2
                go_roundg (n - 2 * bs)
                case measure => omega
                case rel => exact ⟨2 * bs, m4, dk4, os4, by first | rfl | (congr 1; omega), by omega, by omega, by omega, HR4.out, fun h => absurd h (by omega), rfl⟩
        · have hltz : ¬ ((bs : Int) < (n : Int)) := by omega
          go_wp2
          go_end0
          exact ⟨rfl, m3, dk3, os3, HR3.out, fun h => HS3.out (by rw [← HN.out]; exact h), rfl⟩
end
end Go.Proofs.YthkmpegpmpdhaaaGreatDoor
