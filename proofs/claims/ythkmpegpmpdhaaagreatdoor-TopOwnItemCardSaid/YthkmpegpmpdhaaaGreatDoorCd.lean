/- Part of the proof of TopOwnItem. Conditions: as stated in each theorem. -/
import Derived.Test.YthkmpegpmpdhaaaGreatDoorCc
import Derived.WalkMore
import Derived.Maps.OwnIn
import Derived.Deep.LoopGhost
import Derived.RangeFuncNested
import Derived.RangeFuncCalls
import Derived.RangeFuncLeaves
import Derived.RangeFuncWrites
import Derived.Shelf.Abstract
import Derived.Shelf.RegionOpen
import Derived.OwnWalkIn
import Derived.TacticsInMore
import Derived.LoopNIn
import Derived.LoopIn
import Derived.RangeFuncBound
import Derived.Test.YthkmpegpmpdhaaaGreatDoorProg
import Derived.WalkKit
import Derived.WalkSpells
import Derived.WalkLawsBesides
import Derived.Laws.EntriesVeiled
import Derived.ProofKit
import Derived.OpenShut
import Derived.Lib.Hide
import Derived.BigQuiet
import Derived.Deep.QuietTactic
import Derived.Deep.CutRange
import Derived.StillTailTactics
import Derived.Lib.SliceRun
import Derived.RangeFuncRecord
import Derived.Carry
import Derived.ChangeKeysEq
import Derived.Below
import Derived.Laws.OwnMore
import Derived.Deep.AppendLies
import Derived.Deep.Draws
import Derived.Laws.Rows
import Derived.Maps.AppendAt
import Derived.RegionTactic
import Derived.OwnWalk
import Derived.Deep.RegionHeld3
namespace Go.Proofs.YthkmpegpmpdhaaaGreatDoor
open Go.Shelf Go.ChangeShapes Go.WideShapes Go.ChangeAt Go.RowKit
set_option linter.unusedSimpArgs false
set_option linter.unusedVariables false
theorem by68 (g : Nat) (w : World) : Calls Tryz.prog 68 #[.func (.func g) #[] #[]] w fun e w' => e = .returned (.func (.func 115) #[] #[.pointer (some ⟨w.heap.size, 0, none⟩)]) ∧ w' = w.alloc (.cells #[.func (.func g) #[] #[]] 149) := by
  go_enter Tryz.func68, Tryz.ntmps68
  go_wp2
  go_ret
  exact ⟨rfl, rfl⟩
theorem then70 (f g : Nat) (lf lg : Array Value) (w : World) : Calls Tryz.prog 70 #[.func (.func f) #[] lf, .func (.func g) #[] lg] w fun e w' => e = .returned (.func (.func 116) #[] #[.pointer (some ⟨w.heap.size, 0, none⟩), .pointer (some ⟨w.heap.size + 1, 0, none⟩)]) ∧ w' = (w.alloc (.cells #[.func (.func f) #[] lf] 147)).alloc (.cells #[.func (.func g) #[] lg] 147) := by
  go_enter Tryz.func70, Tryz.ntmps70
  go_wp2
  go_ret
  exact ⟨rfl, rfl⟩
/-- The seven blocks that sorted makes. -/
def ordW (w : World) : World :=
  ((((((w.alloc (.cells #[.func (.func 69) #[] #[]] 149)).alloc (.cells #[.func (.func 71) #[] #[]] 149)).alloc (.cells #[.func (.func 115) #[] #[.pointer (some ⟨w.heap.size, 0, none⟩)]] 147)).alloc (.cells #[.func (.func 115) #[] #[.pointer (some ⟨w.heap.size + 1, 0, none⟩)]] 147)).alloc (.cells #[.func (.func 72) #[] #[]] 149)).alloc (.cells #[.func (.func 116) #[] #[.pointer (some ⟨w.heap.size + 1 + 1, 0, none⟩), .pointer (some ⟨w.heap.size + 1 + 1 + 1, 0, none⟩)]] 147)).alloc (.cells #[.func (.func 115) #[] #[.pointer (some ⟨w.heap.size + 1 + 1 + 1 + 1, 0, none⟩)]] 147)
theorem ord_keeps (w : World) : Keeps w (ordW w) := (((((((Keeps.refl w).alloc _).alloc _).alloc _).alloc _).alloc _).alloc _).alloc _
theorem ord_made (w : World) : OrdAt (ordW w) (w.heap.size + 1 + 1 + 1 + 1 + 1) (w.heap.size + 1 + 1 + 1 + 1 + 1 + 1) (w.heap.size + 1 + 1) (w.heap.size + 1 + 1 + 1) w.heap.size (w.heap.size + 1) (w.heap.size + 1 + 1 + 1 + 1) := by
  unfold ordW
  have b0 := Blk.new w 149 #[.func (.func 69) #[] #[]]
  replace b0 := ((((((b0.alloc (.cells #[.func (.func 71) #[] #[]] 149)).alloc (.cells #[fv115 w.heap.size] 147)).alloc (.cells #[fv115 (w.heap.size + 1)] 147)).alloc (.cells #[.func (.func 72) #[] #[]] 149)).alloc (.cells #[fv116 (w.heap.size + 1 + 1) (w.heap.size + 1 + 1 + 1)] 147)).alloc (.cells #[fv115 (w.heap.size + 1 + 1 + 1 + 1)] 147))
  have b1 := Blk.new (w.alloc (.cells #[.func (.func 69) #[] #[]] 149)) 149 #[.func (.func 71) #[] #[]]
  rw [World.size_alloc] at b1
  replace b1 := (((((b1.alloc (.cells #[fv115 w.heap.size] 147)).alloc (.cells #[fv115 (w.heap.size + 1)] 147)).alloc (.cells #[.func (.func 72) #[] #[]] 149)).alloc (.cells #[fv116 (w.heap.size + 1 + 1) (w.heap.size + 1 + 1 + 1)] 147)).alloc (.cells #[fv115 (w.heap.size + 1 + 1 + 1 + 1)] 147))
  have b2 := Blk.new ((w.alloc (.cells #[.func (.func 69) #[] #[]] 149)).alloc (.cells #[.func (.func 71) #[] #[]] 149)) 147 #[fv115 w.heap.size]
  rw [World.size_alloc, World.size_alloc] at b2
  replace b2 := ((((b2.alloc (.cells #[fv115 (w.heap.size + 1)] 147)).alloc (.cells #[.func (.func 72) #[] #[]] 149)).alloc (.cells #[fv116 (w.heap.size + 1 + 1) (w.heap.size + 1 + 1 + 1)] 147)).alloc (.cells #[fv115 (w.heap.size + 1 + 1 + 1 + 1)] 147))
  have b3 := Blk.new (((w.alloc (.cells #[.func (.func 69) #[] #[]] 149)).alloc (.cells #[.func (.func 71) #[] #[]] 149)).alloc (.cells #[fv115 w.heap.size] 147)) 147 #[fv115 (w.heap.size + 1)]
  rw [World.size_alloc, World.size_alloc, World.size_alloc] at b3
  replace b3 := (((b3.alloc (.cells #[.func (.func 72) #[] #[]] 149)).alloc (.cells #[fv116 (w.heap.size + 1 + 1) (w.heap.size + 1 + 1 + 1)] 147)).alloc (.cells #[fv115 (w.heap.size + 1 + 1 + 1 + 1)] 147))
  have b4 := Blk.new ((((w.alloc (.cells #[.func (.func 69) #[] #[]] 149)).alloc (.cells #[.func (.func 71) #[] #[]] 149)).alloc (.cells #[fv115 w.heap.size] 147)).alloc (.cells #[fv115 (w.heap.size + 1)] 147)) 149 #[.func (.func 72) #[] #[]]
  rw [World.size_alloc, World.size_alloc, World.size_alloc, World.size_alloc] at b4
  replace b4 := ((b4.alloc (.cells #[fv116 (w.heap.size + 1 + 1) (w.heap.size + 1 + 1 + 1)] 147)).alloc (.cells #[fv115 (w.heap.size + 1 + 1 + 1 + 1)] 147))
  have b5 := Blk.new (((((w.alloc (.cells #[.func (.func 69) #[] #[]] 149)).alloc (.cells #[.func (.func 71) #[] #[]] 149)).alloc (.cells #[fv115 w.heap.size] 147)).alloc (.cells #[fv115 (w.heap.size + 1)] 147)).alloc (.cells #[.func (.func 72) #[] #[]] 149)) 147 #[fv116 (w.heap.size + 1 + 1) (w.heap.size + 1 + 1 + 1)]
  rw [World.size_alloc, World.size_alloc, World.size_alloc, World.size_alloc, World.size_alloc] at b5
  replace b5 := (b5.alloc (.cells #[fv115 (w.heap.size + 1 + 1 + 1 + 1)] 147))
  have b6 := Blk.new ((((((w.alloc (.cells #[.func (.func 69) #[] #[]] 149)).alloc (.cells #[.func (.func 71) #[] #[]] 149)).alloc (.cells #[fv115 w.heap.size] 147)).alloc (.cells #[fv115 (w.heap.size + 1)] 147)).alloc (.cells #[.func (.func 72) #[] #[]] 149)).alloc (.cells #[fv116 (w.heap.size + 1 + 1) (w.heap.size + 1 + 1 + 1)] 147)) 147 #[fv115 (w.heap.size + 1 + 1 + 1 + 1)]
  rw [World.size_alloc, World.size_alloc, World.size_alloc, World.size_alloc, World.size_alloc, World.size_alloc] at b6
  replace b6 := b6
  exact ⟨cell_of_blk b5 0 rfl, cell_of_blk b6 0 rfl, cell_of_blk b2 0 rfl, cell_of_blk b3 0 rfl, cell_of_blk b0 0 rfl, cell_of_blk b1 0 rfl, cell_of_blk b4 0 rfl⟩
def siE (p : Si) : Value × Value := (siV p, .bool true)
/-- Between the rounds of the loop over the sights. -/
def SiR (L : List Si) (rf r : Nat) (w : World) (a : Value) (wr : World) : Prop :=
  ∃ (pre rem : List Si) (rest : List (Value × Value)) (A : Option Addr) (n c : Nat), a = .slice A n c ∧ OwnR siR w wr (.slice A n c) pre ∧ RgIs wr rf r rest ∧ (rem.map siE).Perm rest ∧ (pre ++ rem).Perm L
def SeeP (S : List Si) (w : World) (e : Ending) (w' : World) : Prop := ∃ A n c, e = .returned (.slice A n c) ∧ OwnR siR w w' (.slice A n c) S
set_option maxRecDepth 100000 in
set_option maxHeartbeats 4000000 in
theorem sorted28 (L : List Si) (rf : Nat) (w : World) (hL : StIs w rf (L.map siE)) (hn : Hid (L.length ≤ 1000)) :
    Calls Tryz.prog 28 #[.map (some rf)] w (SeeP (sortS L) w) := by
  have HL := Lib.hid hL
  have B1 := fun w => by68 69 w
  have B2 := fun w => by68 71 w
  have B3 := fun w => by68 72 w
  have T1 := fun w f g lf lg => then70 f g lf lg w
  go_enter Tryz.func28, Tryz.ntmps28
  go_upto_region 2 with (first | (go_at_call 68; (with_reducible refine (B1 _).mono ?_); rintro e w1 ⟨rfl, rfl⟩) | (go_at_call 68; (with_reducible refine (B2 _).mono ?_); rintro e w1 ⟨rfl, rfl⟩) | (go_at_call 68; (with_reducible refine (B3 _).mono ?_); rintro e w1 ⟨rfl, rfl⟩) | (go_at_call 70; (with_reducible refine (T1 _ _ _ _ _).mono ?_); rintro e w1 ⟨rfl, rfl⟩))
  have HORD := Lib.hid (ord_made w)
  have KORD := Lib.hid (ord_keeps w)
  change Code.wp _ _ _ _ (ordW w)
  generalize hw1 : ordW w = w1 at *
  clear hw1 B1 B2 B3 T1
  obtain ⟨es, clk, hes, hel, _⟩ := hL.keep KORD.out
  have hsz : es.size = L.length := by
    have := congrArg List.length hel
    simpa using this
  have hn' := hn.out
  obtain ⟨q, hq⟩ : ∃ q, L.length = q := ⟨_, rfl⟩
  rw [hq] at hsz hn'
  have hgi : (Builtin.len_ #[78] 3 #[.map (some rf)]).run Tryz.prog w1 = .ok (.int .i64 (q : Int)) w1 := by
    have := Go.run_len_map (P := Tryz.prog) (w := w1) 78 3 rf es clk (by kernel_rfl) hes
    rw [hsz] at this
    exact this
  have L1 := Lib.hid (hL.keep KORD.out)
  clear hel hL
  go_upto_region 3 with (at_make; refine wpList_make0R siOk (w0 := w1) rfl (.const (.int .i64 0)) (.tmp 12) rfl q rfl rfl (by omega) (Keeps.refl _) ?_; intro w2 ho2 hg2; have O2 := Lib.hid ho2; clear ho2 hg2)
  obtain ⟨W3, hrun, hRg, hk3⟩ := StIs.range (P := Tryz.prog) Tryz.underlying78 (L1.out.keep O2.out.2)
  have R0 := Lib.hid (show SiR L rf w2.heap.size w1 (.slice (some ⟨w1.heap.size, 0, none⟩) 0 q) W3 from ⟨[], L, _, _, _, _, rfl, O2.out.keep hk3, hRg, List.Perm.refl _, List.Perm.refl _⟩)
  have HQ := Lib.hid hq
  clear hes hsz hgi hRg hk3 hq
  have KS2 := Lib.hid O2.out.2.size
  go_wp2_with fail
  clear hrun
  go_loopw [4] (fun a wr => SiR L rf w2.heap.size w1 a wr) (fun _ wr => remLen rf w2.heap.size wr)
  case atStart => exact R0.out
  case round =>
    clear R0 O2
    obtain ⟨pre, rem, rest, A, n, c, rfl, hO, hRg, hp1, hp2⟩ := hrel
    have HLEN := Lib.hid (remLen_is hRg)
    have HO := Lib.hid hO
    clear hO
    rcases hRg.next (P := Tryz.prog) 0 with ⟨hr0, hnx⟩ | ⟨k, v, rest', W2, hp3, hnx, hRg2, hg2, hen⟩
    · have HS := Lib.hid (show pre.Perm L by
        rw [hr0] at hp1
        have : rem = [] := by
          have h := hp1.length_eq
          simp at h
          exact h
        rw [this] at hp2
        simpa using hp2)
      have HSO := Lib.hid (sort73 pre A n c _ _ _ _ _ _ _ w1 wr HO.out HORD.out (by have := own_lenR HO.out; have := HS.out.length_eq; have := HQ.out; omega))
      clear hRg hp1 hp2 hr0
      go_wp2_with (go_at_call 73; (with_reducible refine HSO.out.mono ?_); rintro e w5 ⟨rfl, ho5⟩; have O5 := Lib.hid ho5; clear ho5)
      go_ret
      refine ⟨A, n, c, rfl, ?_⟩
      rw [← sortS_perm HS.out]
      exact O5.out.from_ KORD.out
    · obtain ⟨x, rem2, hx1, hx2, hx3⟩ := perm_step (hp1.trans hp3)
      obtain ⟨o, lo, hi⟩ := x
      simp only [siE, Prod.mk.injEq] at hx2
      obtain ⟨rfl, rfl⟩ := hx2
      have hlen : pre.length < L.length := by
        have h1 := hp2.length_eq
        have h2 := hx1.length_eq
        simp only [List.length_append, List.length_cons] at h1 h2
        omega
      have hO2 : OwnR siR w1 W2 (.slice A n c) pre := by
        have hrc : ∀ g, (Value.slice A n c).ownBlock = some g → g ≠ w2.heap.size := fun g e e2 => by
          obtain ⟨es', cl', si', se', c0', g1, g2, _⟩ := hRg
          have := own_cells HO.out.1 g _ e (by rw [e2]; exact g2)
          cases this
        refine ⟨HO.out.1.kept hg2 ?_, grown_keeps HO.out.2 hg2 (fun x e => by cases e; exact KS2.out)⟩
        by_cases hno : (Value.slice A n c).ownBlock = none
        · exact .inl hno
        · right
          intro e
          exact hrc _ e rfl
      have HO2 := Lib.hid (hO2.keep ((Keeps.refl W2).alloc (.cells #[.int .i64 o, .int .i64 lo, .int .i64 hi] 45)))
      have HO3 := Lib.hid ((hO2.keep ((Keeps.refl W2).alloc (.cells #[.int .i64 o, .int .i64 lo, .int .i64 hi] 45))).keep ((Keeps.refl _).alloc (.cells #[.int .i64 o, .int .i64 lo, .int .i64 hi] 45)))
      have hsz2 : (W2.alloc (.cells #[.int .i64 o, .int .i64 lo, .int .i64 hi] 45)).heap.size = W2.heap.size + 1 := by simp
      have x3 : RecIn siR ((W2.alloc (.cells #[.int .i64 o, .int .i64 lo, .int .i64 hi] 45)).alloc (.cells #[.int .i64 o, .int .i64 lo, .int .i64 hi] 45)) ((W2.alloc (.cells #[.int .i64 o, .int .i64 lo, .int .i64 hi] 45)).alloc (.cells #[.int .i64 o, .int .i64 lo, .int .i64 hi] 45)).heap.size (some ⟨W2.heap.size + 1, 0, none⟩) [(⟨o, lo, hi⟩ : Si)] := by
        rw [← hsz2]; exact RecIn.lit siOk (W2.alloc (.cells #[.int .i64 o, .int .i64 lo, .int .i64 hi] 45)) [(⟨o, lo, hi⟩ : Si)] #[.int .i64 o, .int .i64 lo, .int .i64 hi] rfl
      clear hsz2
      have X3 := Lib.hid x3
      clear x3
      have ONE := Lib.hid (show (1 : Nat) = [(⟨o, lo, hi⟩ : Si)].length from rfl)
      have LE := Lib.hid (show pre.length + [(⟨o, lo, hi⟩ : Si)].length ≤ 1000000 by have := hn.out; simp; omega)
      have hRg3 := (hRg2.keep ((Keeps.refl W2).alloc (.cells #[.int .i64 o, .int .i64 lo, .int .i64 hi] 45))).keep ((Keeps.refl _).alloc (.cells #[.int .i64 o, .int .i64 lo, .int .i64 hi] 45))
      have hw2 : W2.heap[w2.heap.size]? ≠ none ∧ ∀ ob, W2.heap[w2.heap.size]? = some ob → ob.isCells = false := by
        obtain ⟨es', cl', si', se', c0', g1, g2, _⟩ := hRg2
        exact ⟨by rw [g2]; simp, fun ob h => by rw [g2] at h; cases h; rfl⟩
      have HREST := Lib.hid (show rest'.length < rest.length by have := hp3.length_eq; simp at this; omega)
      have HP2 := Lib.hid (show ((pre ++ [(⟨o, lo, hi⟩ : Si)]) ++ rem2).Perm L by
        refine List.Perm.trans ?_ hp2
        rw [List.append_assoc]
        exact (List.Perm.append_left pre hx1).symm)
      have HX3 := Lib.hid hx3; have HR3 := Lib.hid hRg3; have HW2 := Lib.hid hw2
      simp only [siV] at hnx hen
      clear hRg hp1 hp2 hp3 hRg2 hg2 hx1 hx3 hlen hO2 hRg3 hw2
      go_wp2_with (at_builtin; refine wpList_appR siOk (w0 := w1) rfl (.tmp 20) (.tmp 22) rfl _ pre rfl HO3.out _ _ _ [(⟨o, lo, hi⟩ : Si)] rfl X3.out ONE LE ?_; intro A5 n5 c5 w5 ho5 hg5; have O5 := Lib.hid ho5; have G5 := Lib.hid (show ((W2.alloc (.cells #[.int .i64 o, .int .i64 lo, .int .i64 hi] 45)).alloc (.cells #[.int .i64 o, .int .i64 lo, .int .i64 hi] 45)).grownBy w5 (Value.slice A n c).ownBlock from hg5); clear ho5 hg5)
      have hR5 : RgIs w5 rf w2.heap.size rest' := by
        refine HR3.out.grown G5.out (fun e => ?_) (fun e => ?_)
        · obtain ⟨es', cl', si', se', c0', g1, g2, _⟩ := HR3.out
          have := own_cells HO3.out.1 rf _ e g1
          cases this
        · obtain ⟨es', cl', si', se', c0', g1, g2, _⟩ := HR3.out
          have := own_cells HO3.out.1 w2.heap.size _ e g2
          cases this
      have R5 := Lib.hid (show SiR L rf w2.heap.size w1 (.slice A5 n5 c5) w5 from ⟨_, _, _, _, _, _, rfl, O5.out, hR5, HX3.out, HP2.out⟩)
      have HM5 := Lib.hid (remLen_is hR5)
      clear hR5
      go_roundw
      case rel => exact R5.out
      case measure => rw [HM5.out, HLEN.out]; exact HREST.out
end Go.Proofs.YthkmpegpmpdhaaaGreatDoor
