import Derived.Test.YthkmpegpmpdhaaaDfM
import Derived.Test.YthkmpegpmpdhaaaRows
import Derived.WalkKit
import Derived.WalkSpells
import Derived.WalkLawsBesides
import Derived.Laws.EntriesVeiled
import Derived.ProofKit
import Derived.OpenShut
import Derived.Lib.Hide
import Derived.BigQuiet
import Derived.Deep.QuietTactic
import Derived.Below
import Derived.Laws.OwnMore
import Derived.Deep.AppendLies
import Derived.Deep.Draws
import Derived.Laws.Rows
import Derived.Maps.AppendAt
import Derived.RegionTactic
import Derived.OwnWalk
import Derived.Deep.RegionHeld3
namespace Go.Proofs.Ythkmpegpmpdhaaa.Df
open Go.ChangeShapes Go.WideShapes Go.ChangeAt Go.RowKit
set_option linter.unusedSimpArgs false
set_option linter.unusedVariables false
theorem within_1 (lo hi x : Int) (g : Nat) (W : World) (hb : Blk W g 3 #[.int .i64 x]) (r : Bool) (hr : Hid (inR lo hi x = r)) : Calls Try.prog 47 #[.int .i64 lo, .int .i64 hi, .slice (some ⟨g, 0, none⟩) 1 1] W (BoolPost r W) :=
  within_any lo hi [x] _ 1 1 W (Nums.of_blk hb rfl hb.lt) (by simp) rfl r (by simp only [allIn, List.all_cons, List.all_nil, Bool.and_true]; exact hr.out)
theorem within_2 (lo hi x y : Int) (g : Nat) (W : World) (hb : Blk W g 3 #[.int .i64 x, .int .i64 y]) (r : Bool) (hr : Hid ((inR lo hi x && inR lo hi y) = r)) : Calls Try.prog 47 #[.int .i64 lo, .int .i64 hi, .slice (some ⟨g, 0, none⟩) 2 2] W (BoolPost r W) :=
  within_any lo hi [x, y] _ 2 2 W (Nums.of_blk hb rfl hb.lt) (by simp) rfl r (by simp only [allIn, List.all_cons, List.all_nil, Bool.and_true]; exact hr.out)
def okBd (n : Int) (b : Bd) : Bool := (inR 0 (n - 1) b.f && inR 0 (n - 1) b.t) && inR (-10000000) 10000000 b.m
def validB (n : Int) (l : List Bd) : Bool := inR 0 40 n && l.all (okBd n)
theorem valid_bad {n : Int} {l : List Bd} {k : Nat} {b : Bd} (hx : l[k]? = some b) (h : okBd n b = false) : validB n l = false := by
  have : l.all (okBd n) = false := by rw [List.all_eq_false]; exact ⟨b, List.mem_of_getElem? hx, by simp [h]⟩
  simp [validB, this]
theorem valid_take {n : Int} {l : List Bd} {k : Nat} {b : Bd} (h : (l.take k).all (okBd n) = true) (hx : l[k]? = some b) (hb : okBd n b = true) : (l.take (k + 1)).all (okBd n) = true := by
  rw [List.take_add_one, hx, List.all_append, h]; simp [hb]
theorem valid_all {n : Int} {l : List Bd} {k : Nat} (h : (l.take k).all (okBd n) = true) (hk : l.length ≤ k) (h0 : inR 0 40 n = true) : validB n l = true := by
  rw [List.take_of_length_le hk] at h; simp [validB, h, h0]
set_option maxHeartbeats 4000000 in
theorem well_any (n : Int) (l : List Bd) (A : Option Addr) (m c : Nat) (w : World) (hl : Bnds w w.heap.size A l) (hn : l.length ≤ 400) (hlm : m = l.length) (r : Bool) (hr : validB n l = r) :
    Calls Try.prog 44 #[.int .i64 n, .slice A m c] w (BoolPost r w) := by
  have HR := Lib.hid hr; clear hr
  rw [← hlm] at hn
  have HM := Lib.hid hlm; clear hlm
  have t1 : decide (400 < m) = false := by simp; omega
  have t1' : decide ((400 : Int) < (m : Int)) = false := by simp; omega
  have b0 := Lib.hid (Blk.new w 3 #[.int .i64 n])
  have k0 := Lib.hid (show Keeps w (w.alloc (.cells #[.int .i64 n] 3)) from (Keeps.refl w).alloc _)
  cases hi : inR 0 40 n
  · have E := Lib.hid (show validB n l = false by simp [validB, hi])
    have HI := Lib.hid hi; clear hi
    go_enter Try.func44, Try.ntmps44
    go_wp2_with (go_at_call 47; (with_reducible refine (within_1 _ _ n _ _ b0.out false HI).mono ?_); rintro e w1 ⟨rfl, hk1⟩)
    go_ret
    exact bool_post (HR.out.symm.trans E.out) (k0.out.trans hk1)
  have HI := Lib.hid hi
  have hn0 : 0 ≤ n ∧ n ≤ 40 := by simpa [inR] using hi
  obtain ⟨hn0, hn1⟩ := hn0
  have hnw : IntKind.i64.wrap (n - 1) = n - 1 := IntWalk.i64_in _ (by omega)
  clear hi
  go_enter Try.func44, Try.ntmps44
  go_wp2_with (go_at_call 47; (with_reducible refine (within_1 _ _ n _ _ b0.out true HI).mono ?_); rintro e w1 ⟨rfl, hk1⟩)
  have K1 := Lib.hid (k0.out.trans hk1)
  clear hk1
  go_loopw [18] (fun i wr => ∃ k : Nat, k ≤ m ∧ i = .int .i64 (k : Int) ∧ Keeps w wr ∧ (l.take k).all (okBd n) = true) (fun i _ => m - (intOf i).toNat)
  case atStart => exact ⟨0, by omega, rfl, K1.out, by simp⟩
  case round =>
    obtain ⟨k, hk, rfl, hK, hf⟩ := hrel
    have HF := Lib.hid hf; clear hf
    by_cases hkm : k < m
    · have hok : l[k]? = some (l[k]'(by rw [← HM.out]; exact hkm)) := List.getElem?_eq_getElem _
      generalize l[k]'(by rw [← HM.out]; exact hkm) = b at hok
      obtain ⟨bb, off, rfl, hb, c0, c1, c2⟩ := (hl.keep hK) k b hok
      have HO := Lib.hid hok; clear hok
      have hki : (k : Int) < (m : Int) := by omega
      have hk00 : (0 : Int) ≤ (k : Int) := by omega
      have hkw : IntKind.i64.wrap ((k : Int) + 1) = (k : Int) + 1 := IntWalk.i64_in _ (by omega)
      obtain ⟨bf, bt, bm⟩ := b
      simp only at c0 c1 c2
      have lb := Lib.hid ((Blk.new wr 103 #[.int .i64 bf, .int .i64 bt, .int .i64 bm]).alloc (.cells #[.int .i64 bf, .int .i64 bt] 3))
      have ka := Lib.hid (show Keeps w ((wr.alloc (.cells #[.int .i64 bf, .int .i64 bt, .int .i64 bm] 103)).alloc (.cells #[.int .i64 bf, .int .i64 bt] 3)) from (hK.alloc _).alloc _)
      have lit := Lib.hid (show Blk ((wr.alloc (.cells #[.int .i64 bf, .int .i64 bt, .int .i64 bm] 103)).alloc (.cells #[.int .i64 bf, .int .i64 bt] 3)) (wr.heap.size + 1) 3 #[.int .i64 bf, .int .i64 bt] by have := Blk.new (wr.alloc (.cells #[.int .i64 bf, .int .i64 bt, .int .i64 bm] 103)) 3 #[.int .i64 bf, .int .i64 bt]; rw [World.size_alloc] at this; exact this)
      cases h2 : (inR 0 (n - 1) bf && inR 0 (n - 1) bt)
      · have E := Lib.hid (valid_bad HO.out (show okBd n ⟨bf, bt, bm⟩ = false by simp only [okBd, h2, Bool.false_and]))
        have H2 := Lib.hid h2; clear h2
        go_wp2_with (go_at_call 47; (with_reducible refine (within_2 _ _ bf bt _ _ lit.out false H2).mono ?_); rintro e w2 ⟨rfl, hk2⟩)
        go_ret
        exact bool_post (HR.out.symm.trans E.out) (ka.out.trans hk2)
      · cases h3 : inR (-10000000) 10000000 bm
        · have E := Lib.hid (valid_bad HO.out (show okBd n ⟨bf, bt, bm⟩ = false by simp only [okBd, h3, Bool.and_false]))
          have H2 := Lib.hid h2; have H3 := Lib.hid h3; clear h2 h3
          go_wp2_with (first | (go_at_call 47; (with_reducible refine (within_2 _ _ bf bt _ _ lit.out true H2).mono ?_); rintro e w2 ⟨rfl, hk2⟩; have cm : w2.cell? ⟨wr.heap.size, 2, none⟩ = some (.int .i64 bm) := (lb.out.below hk2 lb.out.lt).cell 2; have lit3 := Blk.new w2 3 #[.int .i64 bm]; have k3 : Keeps w2 (w2.alloc (.cells #[.int .i64 bm] 3)) := (Keeps.refl w2).alloc _) | (go_at_call 47; (with_reducible refine (within_1 _ _ bm _ _ lit3 false H3).mono ?_); rintro e w4 ⟨rfl, hk4⟩))
          go_ret
          exact bool_post (HR.out.symm.trans E.out) (((ka.out.trans hk2).trans k3).trans hk4)
        · have HT := Lib.hid (valid_take HF.out HO.out (show okBd n ⟨bf, bt, bm⟩ = true by simp only [okBd, h2, h3]; rfl))
          have H2 := Lib.hid h2; have H3 := Lib.hid h3; clear h2 h3
          go_wp2_with (first | (go_at_call 47; (with_reducible refine (within_2 _ _ bf bt _ _ lit.out true H2).mono ?_); rintro e w2 ⟨rfl, hk2⟩; have cm : w2.cell? ⟨wr.heap.size, 2, none⟩ = some (.int .i64 bm) := (lb.out.below hk2 lb.out.lt).cell 2; have lit3 := Blk.new w2 3 #[.int .i64 bm]; have k3 : Keeps w2 (w2.alloc (.cells #[.int .i64 bm] 3)) := (Keeps.refl w2).alloc _) | (go_at_call 47; (with_reducible refine (within_1 _ _ bm _ _ lit3 true H3).mono ?_); rintro e w4 ⟨rfl, hk4⟩))
          have K5 := Lib.hid (((ka.out.trans hk2).trans k3).trans hk4)
          clear hk2 k3 hk4 cm lit3
          go_roundw
          case rel => exact ⟨k + 1, by omega, by go_num, K5.out, HT.out⟩
          case measure => simp [intOf]; omega
    · have E := Lib.hid (valid_all HF.out (by rw [← HM.out]; omega) HI.out)
      go_wp2
      go_ret
      exact bool_post (HR.out.symm.trans E.out) hK

end Go.Proofs.Ythkmpegpmpdhaaa.Df
