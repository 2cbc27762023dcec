/- Part of the proof of TopOwnItem. Conditions: as stated in each theorem. -/
import Derived.Test.YthkmpegpmpdhaaaGreatDoorH
import Derived.WalkMore
import Derived.Maps.OwnIn
import Derived.Deep.LoopGhost
import Derived.RangeFuncNested
import Derived.RangeFuncCalls
import Derived.RangeFuncLeaves
import Derived.RangeFuncWrites
import Derived.Shelf.Abstract
import Derived.Shelf.RegionOpen
import Derived.OwnWalkIn
import Derived.TacticsInMore
import Derived.LoopNIn
import Derived.LoopIn
import Derived.RangeFuncBound
import Derived.Test.YthkmpegpmpdhaaaGreatDoorProg
import Derived.WalkKit
import Derived.WalkSpells
import Derived.WalkLawsBesides
import Derived.Laws.EntriesVeiled
import Derived.ProofKit
import Derived.OpenShut
import Derived.Lib.Hide
import Derived.BigQuiet
import Derived.Deep.QuietTactic
import Derived.Deep.CutRange
import Derived.StillTailTactics
import Derived.Lib.SliceRun
import Derived.RangeFuncRecord
import Derived.Carry
import Derived.ChangeKeysEq
import Derived.Below
import Derived.Laws.OwnMore
import Derived.Deep.AppendLies
import Derived.Deep.Draws
import Derived.Laws.Rows
import Derived.Maps.AppendAt
import Derived.RegionTactic
import Derived.OwnWalk
import Derived.Deep.RegionHeld3
namespace Go.Proofs.YthkmpegpmpdhaaaGreatDoor
open Go.Shelf Go.ChangeShapes Go.WideShapes Go.ChangeAt Go.RowKit
set_option linter.unusedSimpArgs false
set_option linter.unusedVariables false
/-- The events of a source at one size. -/
def evsF (l : List Scn) (rs : List Rec) (size : Nat) (lab : ByteArray) : List EvC := sortE (((followF l rs size (min size 3) lab []).foldl putE []).map (·.2))
def EvsP (N : Nat) (S : List EvC) (w : World) (e : Ending) (w' : World) : Prop := ∃ A n c xs, e = .returned (.slice A n c) ∧ OwnR evR w w' (.slice A n c) xs ∧ xs.map Ev.say = S ∧ ∀ v ∈ xs, EvOk w' w'.heap.size v ∧ LoB N v
set_option maxRecDepth 100000 in
set_option maxHeartbeats 4000000 in
theorem events25 (l : List Scn) (rs : List Rec) (lA rA : Option Addr) (n lc m rc h N sb size : Nat) (F : Bool → ByteArray → Option Gr) (lab : ByteArray) (w : World)
    (H : SrcIs l rs lA n lc rA m rc h F N w sb) (hN : N ≤ w.heap.size) (ht : Tab w) (hs : 1 ≤ size ∧ size ≤ 4) (hoff : OffOk l) (hm : m ≤ 100) (hml : m = rs.length) (hbl : ∀ t k, (bothF l rs t k).length ≤ 10000)
    (hlen : Hid ((followF l rs size (min size 3) lab []).length ≤ 10000000000)) :
    Calls Tryz.prog 25 #[.pointer (some ⟨sb, 0, none⟩), .string lab, .int .i64 (size : Int)] w (EvsP N (evsF l rs size lab) w) := by
  have HH := Lib.hid H
  clear H
  have hmm := @run_makeMap Tryz.prog
  go_enter Tryz.func25, Tryz.ntmps25
  go_upto_region 4 with fail
  have K2 := Lib.hid ((((((Keeps.refl w).alloc (.cells #[.pointer (some ⟨sb, 0, none⟩)] 73)).alloc (.cells #[.int .i64 (size : Int)] 3)).alloc (.map #[] 0)).alloc (.cells #[.map (some (w.heap.size + 1 + 1))] 135)).alloc (.cells #[.func (.func 60) #[] #[.pointer (some ⟨w.heap.size + 1, 0, none⟩), .pointer (some ⟨w.heap.size, 0, none⟩), .pointer (some ⟨w.heap.size + 1 + 1 + 1, 0, none⟩), .pointer (some ⟨w.heap.size + 1 + 1 + 1 + 1, 0, none⟩)]] 136))
  have B3 := Lib.hid (((((Blk.new w 73 #[.pointer (some ⟨sb, 0, none⟩)]).alloc (.cells #[.int .i64 (size : Int)] 3)).alloc (.map #[] 0)).alloc (.cells #[.map (some (w.heap.size + 1 + 1))] 135)).alloc (.cells #[.func (.func 60) #[] #[.pointer (some ⟨w.heap.size + 1, 0, none⟩), .pointer (some ⟨w.heap.size, 0, none⟩), .pointer (some ⟨w.heap.size + 1 + 1 + 1, 0, none⟩), .pointer (some ⟨w.heap.size + 1 + 1 + 1 + 1, 0, none⟩)]] 136))
  have B2 := Blk.new (w.alloc (.cells #[.pointer (some ⟨sb, 0, none⟩)] 73)) 3 #[.int .i64 (size : Int)]
  rw [World.size_alloc] at B2
  replace B2 := Lib.hid (((B2.alloc (.map #[] 0)).alloc (.cells #[.map (some (w.heap.size + 1 + 1))] 135)).alloc (.cells #[.func (.func 60) #[] #[.pointer (some ⟨w.heap.size + 1, 0, none⟩), .pointer (some ⟨w.heap.size, 0, none⟩), .pointer (some ⟨w.heap.size + 1 + 1 + 1, 0, none⟩), .pointer (some ⟨w.heap.size + 1 + 1 + 1 + 1, 0, none⟩)]] 136))
  have M0 := StIs.made ((w.alloc (.cells #[.pointer (some ⟨sb, 0, none⟩)] 73)).alloc (.cells #[.int .i64 (size : Int)] 3))
  rw [World.size_alloc, World.size_alloc] at M0
  replace M0 := Lib.hid (M0.keep (((Keeps.refl _).alloc (.cells #[.map (some (w.heap.size + 1 + 1))] 135)).alloc (.cells #[.func (.func 60) #[] #[.pointer (some ⟨w.heap.size + 1, 0, none⟩), .pointer (some ⟨w.heap.size, 0, none⟩), .pointer (some ⟨w.heap.size + 1 + 1 + 1, 0, none⟩), .pointer (some ⟨w.heap.size + 1 + 1 + 1 + 1, 0, none⟩)]] 136)))
  have B4 := Blk.new (((w.alloc (.cells #[.pointer (some ⟨sb, 0, none⟩)] 73)).alloc (.cells #[.int .i64 (size : Int)] 3)).alloc (.map #[] 0)) 135 #[.map (some (w.heap.size + 1 + 1))]
  rw [World.size_alloc, World.size_alloc, World.size_alloc] at B4
  replace B4 := Lib.hid (B4.alloc (.cells #[.func (.func 60) #[] #[.pointer (some ⟨w.heap.size + 1, 0, none⟩), .pointer (some ⟨w.heap.size, 0, none⟩), .pointer (some ⟨w.heap.size + 1 + 1 + 1, 0, none⟩), .pointer (some ⟨w.heap.size + 1 + 1 + 1 + 1, 0, none⟩)]] 136))
  have B5 := Blk.new ((((w.alloc (.cells #[.pointer (some ⟨sb, 0, none⟩)] 73)).alloc (.cells #[.int .i64 (size : Int)] 3)).alloc (.map #[] 0)).alloc (.cells #[.map (some (w.heap.size + 1 + 1))] 135)) 136 #[.func (.func 60) #[] #[.pointer (some ⟨w.heap.size + 1, 0, none⟩), .pointer (some ⟨w.heap.size, 0, none⟩), .pointer (some ⟨w.heap.size + 1 + 1 + 1, 0, none⟩), .pointer (some ⟨w.heap.size + 1 + 1 + 1 + 1, 0, none⟩)]]
  rw [World.size_alloc, World.size_alloc, World.size_alloc, World.size_alloc] at B5
  replace B5 := Lib.hid B5
  generalize hw2 : ((((w.alloc (.cells #[.pointer (some ⟨sb, 0, none⟩)] 73)).alloc (.cells #[.int .i64 (size : Int)] 3)).alloc (.map #[] 0)).alloc (.cells #[.map (some (w.heap.size + 1 + 1))] 135)).alloc (.cells #[.func (.func 60) #[] #[.pointer (some ⟨w.heap.size + 1, 0, none⟩), .pointer (some ⟨w.heap.size, 0, none⟩), .pointer (some ⟨w.heap.size + 1 + 1 + 1, 0, none⟩), .pointer (some ⟨w.heap.size + 1 + 1 + 1 + 1, 0, none⟩)]] 136) = w2 at K2 B2 B3 M0 B4 B5 ⊢
  clear hw2
  have d5 := cell_of_blk B5.out 0 rfl
  have FE : FEnv l rs lA n lc rA m rc h F N sb size (w.heap.size + 1) w.heap.size (w.heap.size + 1 + 1 + 1) (w.heap.size + 1 + 1 + 1 + 1) (w.heap.size + 1 + 1) w2 :=
    ⟨HH.out.below (below_of_keeps K2.out hN), Nat.le_trans hN K2.out.size, by omega, cell_of_blk B2.out 0 rfl, cell_of_blk B3.out 0 rfl, cell_of_blk B4.out 0 rfl, d5, ht.keep K2.out⟩
  have FM0 : FM N w2 (w.heap.size + 1 + 1) [] := ⟨[], M0.out, fun p hp => by simp at hp, rfl⟩
  have HC := Lib.hid (follow60 l rs lA rA n lc m rc h N sb size (w.heap.size + 1) w.heap.size (w.heap.size + 1 + 1 + 1) (w.heap.size + 1 + 1 + 1 + 1) (w.heap.size + 1 + 1) F hs hoff hm hml hbl (min size 3) lab [] none 0 0 w2 [] FE FM0 (fun j x hj => by simp at hj) (Lib.hid rfl) (by omega) (fun c hc => by simp at hc))
  have MA := FM0.at_
  clear FE FM0 M0
  go_upto_region 5 with (go_at_call 60; (with_reducible refine HC.out.mono ?_); rintro e w5 ⟨rfl, hg5, hM5⟩)
  obtain ⟨L, hL, hLv, hLS⟩ := hM5
  have hSv := Surv.of_grown MA hg5
  have c4 := hSv _ _ (cell_of_blk B4.out 0 rfl)
  have K5 := Lib.hid (grown_keeps K2.out hg5 (fun x e => by cases e; omega))
  have BM := Blk.new w5 135 #[.map (some (w.heap.size + 1 + 1))]
  have KM := (Keeps.refl w5).alloc (.cells #[.map (some (w.heap.size + 1 + 1))] 135)
  have hlenL : L.length ≤ 10000000000 := by
    have h1 : L.length = ((followF l rs size (min size 3) lab []).foldl putE []).length := by rw [← hLS, List.length_map]
    have h2 : ∀ (es : List EvC) (S : List (ByteArray × EvC)), (es.foldl putE S).length ≤ es.length + S.length := by
      intro es
      induction es with
      | nil => intro S; simp
      | cons x es ih =>
        intro S
        rw [List.foldl_cons]
        have := ih (putE S x)
        have := setG_len sEq (textF x) x S
        simp only [List.length_cons]
        unfold putE at *
        omega
    have h3 := h2 (followF l rs size (min size 3) lab []) []
    have := hlen.out
    simp only [List.length_nil] at h3
    omega
  have HS := Lib.hid (sorted65 L (w.heap.size + 1 + 1) w5.heap.size _ (StIs.keep (l := L.map valE) hL KM) BM (Lib.hid hlenL) (fun p hp => (hLv p hp).1.keep KM))
  have HLV := Lib.hid (fun p hp => (⟨(hLv p hp).1.keep KM, (hLv p hp).2⟩ : _ ∧ _))
  have HLS := Lib.hid hLS
  have KM' := Lib.hid KM
  clear hL hLv hLS hSv hg5 BM KM hlenL MA d5
  go_wp2_with (first | (go_at_call 66; (with_reducible refine (values66 _ _).mono ?_); rintro e w6 ⟨rfl, rfl⟩) | (go_at_call 65; (with_reducible refine HS.out.mono ?_); rintro e w7 ⟨A, n7, c7, xs, rfl, h7, e7, p7⟩))
  go_ret
  refine ⟨A, n7, c7, xs, rfl, h7.from_ (K5.out.trans KM'.out), ?_, fun v hv => ?_⟩
  · rw [e7]
    unfold evsF
    rw [← HLS.out, List.map_map]
    rfl
  · obtain ⟨p, hp, rfl⟩ := List.mem_map.1 (p7.mem_iff.1 hv)
    exact ⟨(HLV.out p hp).1.keep h7.2, (HLV.out p hp).2⟩
end Go.Proofs.YthkmpegpmpdhaaaGreatDoor
