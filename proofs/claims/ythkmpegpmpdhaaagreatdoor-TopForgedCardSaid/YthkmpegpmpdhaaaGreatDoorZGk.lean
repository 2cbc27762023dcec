/- Part of the proof of TopOwnItem. Conditions: as stated in each theorem. -/
import Derived.Test.YthkmpegpmpdhaaaGreatDoorZGf
import Derived.Test.YthkmpegpmpdhaaaGreatDoorProg
import Derived.WalkMore
import Derived.Maps.OwnIn
import Derived.Deep.LoopGhost
import Derived.RangeFuncNested
import Derived.RangeFuncCalls
import Derived.RangeFuncLeaves
import Derived.RangeFuncWrites
import Derived.Shelf.Abstract
import Derived.Shelf.RegionOpen
import Derived.OwnWalkIn
import Derived.TacticsInMore
import Derived.LoopNIn
import Derived.LoopIn
import Derived.RangeFuncBound
import Derived.WalkKit
import Derived.WalkSpells
import Derived.WalkLawsBesides
import Derived.Laws.EntriesVeiled
import Derived.ProofKit
import Derived.OpenShut
import Derived.Lib.Hide
import Derived.BigQuiet
import Derived.Deep.QuietTactic
import Derived.Deep.CutRange
import Derived.StillTailTactics
import Derived.Lib.SliceRun
import Derived.RangeFuncRecord
import Derived.Carry
import Derived.ChangeKeysEq
import Derived.Below
import Derived.Laws.OwnMore
import Derived.Deep.AppendLies
import Derived.Deep.Draws
import Derived.Laws.Rows
import Derived.Maps.AppendAt
import Derived.RegionTactic
import Derived.OwnWalk
import Derived.Deep.RegionHeld3
namespace Go.Proofs.YthkmpegpmpdhaaaGreatDoor
open Go.Shelf Go.ChangeShapes Go.WideShapes Go.ChangeAt Go.RowKit
set_option linter.unusedSimpArgs false
set_option linter.unusedVariables false
theorem time39 (x : Rec) (w : World) : Calls Tryz.prog 39 #[.agg #[.int .i64 x.sc, .int .i64 x.nu, .int .i64 x.ki, .int .i64 x.ti, .string x.lab, .slice x.A x.con.length x.c]] w fun e w' => e = .returned (.int .i64 x.ti) ∧ Grows w w' := by
  have HB := Blk.new w 26 #[.int .i64 x.sc, .int .i64 x.nu, .int .i64 x.ki, .int .i64 x.ti, .string x.lab, .slice x.A x.con.length x.c]
  have c3 := HB.cell 3
  have G := Lib.hid ((Grows.refl w).alloc (.cells #[.int .i64 x.sc, .int .i64 x.nu, .int .i64 x.ki, .int .i64 x.ti, .string x.lab, .slice x.A x.con.length x.c] 26))
  clear HB
  go_enter Tryz.func39, Tryz.ntmps39
  go_wp2_with fail
  go_ret
  exact ⟨rfl, G.out⟩
/-- Records are ordered by their times. -/
def cfT (x y : Rec) : Int := cmpI x.ti y.ti
theorem cell_grows {w w' : World} {p : Addr} {v : Value} (h : w.cell? p = some v) (hg : Grows w w') : w'.cell? p = some v := cell_keep h hg.keeps
set_option maxRecDepth 100000 in
set_option maxHeartbeats 4000000 in
theorem cmp95 (x y : Rec) (fb : Nat) (w : World) (hf : w.cell? ⟨fb, 0, none⟩ = some (.func (.func 39) #[] #[])) :
    Calls Tryz.prog 95 #[.agg (recE x).toArray, .agg (recE y).toArray, .pointer (some ⟨fb, 0, none⟩)] w fun e w' => e = .returned (.int .i64 (cfT x y)) ∧ Grows w w' := by
  obtain ⟨r, hr⟩ : ∃ r, cfT x y = r := ⟨_, rfl⟩
  have HC := Lib.hid (show ∀ W, Calls Tryz.prog 96 #[.int .i64 x.ti, .int .i64 y.ti] W fun e w' => e = .returned (.int .i64 r) ∧ w' = W from fun W => by rw [← hr]; exact cmp96 _ _ W)
  rw [hr]
  clear hr
  have HX := Lib.hid (fun W => time39 x W)
  have HY := Lib.hid (fun W => time39 y W)
  obtain ⟨xs, xn, xk, xt, xl, xc, xA, xz⟩ := x
  obtain ⟨ys, yn, yk, yt, yl, yc, yA, yz⟩ := y
  change Calls Tryz.prog 95 #[.agg #[.int .i64 xs, .int .i64 xn, .int .i64 xk, .int .i64 xt, .string xl, .slice xA xc.length xz], .agg #[.int .i64 ys, .int .i64 yn, .int .i64 yk, .int .i64 yt, .string yl, .slice yA yc.length yz], .pointer (some ⟨fb, 0, none⟩)] w _
  simp only at HX HY HC
  generalize xc.length = xq at *
  generalize yc.length = yq at *
  have G0 := Lib.hid (((Grows.refl w).alloc (.cells #[.int .i64 xs, .int .i64 xn, .int .i64 xk, .int .i64 xt, .string xl, .slice xA xq xz] 26)).alloc (.cells #[.int .i64 ys, .int .i64 yn, .int .i64 yk, .int .i64 yt, .string yl, .slice yA yq yz] 26))
  have B1 := (Blk.new w 26 #[.int .i64 xs, .int .i64 xn, .int .i64 xk, .int .i64 xt, .string xl, .slice xA xq xz]).alloc (.cells #[.int .i64 ys, .int .i64 yn, .int .i64 yk, .int .i64 yt, .string yl, .slice yA yq yz] 26)
  have B2 := Blk.new (w.alloc (.cells #[.int .i64 xs, .int .i64 xn, .int .i64 xk, .int .i64 xt, .string xl, .slice xA xq xz] 26)) 26 #[.int .i64 ys, .int .i64 yn, .int .i64 yk, .int .i64 yt, .string yl, .slice yA yq yz]
  rw [World.size_alloc] at B2
  have hf0 := cell_grows hf G0.out
  have x0 := B1.cell 0; have x1 := B1.cell 1; have x2 := B1.cell 2; have x3 := B1.cell 3; have x4 := B1.cell 4; have x5 := B1.cell 5
  have y0 := B2.cell 0; have y1 := B2.cell 1; have y2 := B2.cell 2; have y3 := B2.cell 3; have y4 := B2.cell 4; have y5 := B2.cell 5
  clear B1 B2 hf
  obtain ⟨N, hN⟩ : ∃ N, w.heap.size = N := ⟨_, rfl⟩
  rw [hN] at x0 x1 x2 x3 x4 x5 y0 y1 y2 y3 y4 y5
  go_enter Tryz.func95, Tryz.ntmps95
  go_upto_region 1 with fail
  generalize (w.alloc (.cells #[.int .i64 xs, .int .i64 xn, .int .i64 xk, .int .i64 xt, .string xl, .slice xA xq xz] 26)).alloc (.cells #[.int .i64 ys, .int .i64 yn, .int .i64 yk, .int .i64 yt, .string yl, .slice yA yq yz] 26) = w2 at *
  have SOF := Lib.hid (show ∀ X, Grows w2 X → (fun w' => w'.cell? ⟨fb, 0, none⟩ = some (.func (.func 39) #[] #[]) ∧ w'.cell? ⟨N, 0, none⟩ = some (.int .i64 xs) ∧ w'.cell? ⟨N, 1, none⟩ = some (.int .i64 xn) ∧ w'.cell? ⟨N, 2, none⟩ = some (.int .i64 xk) ∧ w'.cell? ⟨N, 3, none⟩ = some (.int .i64 xt) ∧ w'.cell? ⟨N, 4, none⟩ = some (.string xl) ∧ w'.cell? ⟨N, 5, none⟩ = some (.slice xA xq xz) ∧ w'.cell? ⟨N + 1, 0, none⟩ = some (.int .i64 ys) ∧ w'.cell? ⟨N + 1, 1, none⟩ = some (.int .i64 yn) ∧ w'.cell? ⟨N + 1, 2, none⟩ = some (.int .i64 yk) ∧ w'.cell? ⟨N + 1, 3, none⟩ = some (.int .i64 yt) ∧ w'.cell? ⟨N + 1, 4, none⟩ = some (.string yl) ∧ w'.cell? ⟨N + 1, 5, none⟩ = some (.slice yA yq yz) ∧ Grows w2 w') X from fun X hX => ⟨cell_grows hf0 hX, cell_grows x0 hX, cell_grows x1 hX, cell_grows x2 hX, cell_grows x3 hX, cell_grows x4 hX, cell_grows x5 hX, cell_grows y0 hX, cell_grows y1 hX, cell_grows y2 hX, cell_grows y3 hX, cell_grows y4 hX, cell_grows y5 hX, hX⟩)
  clear hf0 x0 x1 x2 x3 x4 x5 y0 y1 y2 y3 y4 y5 hN
  go_region_held3 (fun w' => w'.cell? ⟨fb, 0, none⟩ = some (.func (.func 39) #[] #[]) ∧ w'.cell? ⟨N, 0, none⟩ = some (.int .i64 xs) ∧ w'.cell? ⟨N, 1, none⟩ = some (.int .i64 xn) ∧ w'.cell? ⟨N, 2, none⟩ = some (.int .i64 xk) ∧ w'.cell? ⟨N, 3, none⟩ = some (.int .i64 xt) ∧ w'.cell? ⟨N, 4, none⟩ = some (.string xl) ∧ w'.cell? ⟨N, 5, none⟩ = some (.slice xA xq xz) ∧ w'.cell? ⟨N + 1, 0, none⟩ = some (.int .i64 ys) ∧ w'.cell? ⟨N + 1, 1, none⟩ = some (.int .i64 yn) ∧ w'.cell? ⟨N + 1, 2, none⟩ = some (.int .i64 yk) ∧ w'.cell? ⟨N + 1, 3, none⟩ = some (.int .i64 yt) ∧ w'.cell? ⟨N + 1, 4, none⟩ = some (.string yl) ∧ w'.cell? ⟨N + 1, 5, none⟩ = some (.slice yA yq yz) ∧ Grows w2 w') ((refine SOF.out _ ?_; (first | exact Grows.refl _ | exact (Grows.refl _).drew | assumption))) ((first | (go_at_call 39; (with_reducible refine (HX.out w2.drew).mono ?_); rintro e w4 ⟨rfl, hg4'⟩; have hg4 : Grows w2 w4 := ((Grows.refl w2).drew).trans hg4'; clear hg4') | (go_at_call 39; (with_reducible refine (HY.out w4).mono ?_); rintro e w5 ⟨rfl, hg5'⟩; have hg5 : Grows w2 w5 := hg4.trans hg5'; clear hg5') | (go_at_call 39; (with_reducible refine (HY.out w2.drew).mono ?_); rintro e w4 ⟨rfl, hg4'⟩; have hg4 : Grows w2 w4 := ((Grows.refl w2).drew).trans hg4'; clear hg4') | (go_at_call 39; (with_reducible refine (HX.out w4).mono ?_); rintro e w5 ⟨rfl, hg5'⟩; have hg5 : Grows w2 w5 := hg4.trans hg5'; clear hg5') | (go_at_call 96; (with_reducible refine (HC.out w5).mono ?_); rintro e w6 ⟨rfl, rfl⟩)))
  rename_i hH
  clear hH
  have GH := Lib.hid (G0.out.trans hg5)
  clear hg5 hg4
  go_wp2_with fail
  go_ret
  exact ⟨rfl, GH.out⟩
theorem insert_nil (A : Option Addr) (c : Nat) (fv : Value) (w : World) : Calls Tryz.prog 172 #[.slice A 0 c, .int .i64 0, .int .i64 0, fv] w fun e w' => e = .returned (.tuple #[]) ∧ w' = w := by
  go_enter Tryz.func172, Tryz.ntmps172
  go_wp2
  go_loopw [8] (fun i wx => i = .int .i64 1 ∧ wx = w) (fun i _ => 0)
  case atStart => exact ⟨rfl, rfl⟩
  case round =>
    obtain ⟨rfl, rfl⟩ := hrel
    go_wp2
    go_end0
    exact ⟨rfl, rfl⟩
theorem stable_nil (A : Option Addr) (c : Nat) (fv : Value) (w : World) : Calls Tryz.prog 141 #[.slice A 0 c, .int .i64 0, fv] w fun e w' => e = .returned (.tuple #[]) ∧ w' = w := by
  go_enter Tryz.func141, Tryz.ntmps141
  go_wp2
  go_loopw [7, 8] (fun i j wx => i = .int .i64 0 ∧ j = .int .i64 20 ∧ wx = w) (fun i _ _ => 0)
  case atStart => exact ⟨rfl, rfl, rfl⟩
  case round =>
    obtain ⟨rfl, rfl, rfl⟩ := hrel
    go_wp2_with (go_at_call 172; (with_reducible refine (insert_nil A c fv _).mono ?_); rintro e w' ⟨rfl, rfl⟩)
    go_loopw [6] (fun i wx => i = .int .i64 20 ∧ wx = w') (fun i _ => 0)
    case atStart => exact ⟨rfl, rfl⟩
    case round =>
      obtain ⟨rfl, rfl⟩ := hrel
      go_wp2
      go_end0
      exact ⟨rfl, rfl⟩
def OrdPost (w0 w : World) (A : Option Addr) (n c : Nat) (L : List Rec) (e : Ending) (w' : World) : Prop :=
  e = .returned (.tuple #[]) ∧ w.grownBy w' (Value.slice A n c).ownBlock ∧ ∃ L', OwnR rcR w0 w' (.slice A n c) L' ∧ (∀ x ∈ L', x ∈ L) ∧ (L.length < 20 → L' = (stabF cfT L.toArray).toList)
open Go.Sort in
theorem stable94 (L : List Rec) (A : Option Addr) (n c fb : Nat) (w0 w : World) (hO : OwnR rcR w0 w (.slice A n c) L) (hf : Blk w fb 115 #[.func (.func 39) #[] #[]]) (hn : n < 1000000000) :
    Calls Tryz.prog 94 #[.slice A n c, .func (.func 95) #[] #[.pointer (some ⟨fb, 0, none⟩)]] w (OrdPost w0 w A n c L) := by
  have hnl := own_lenR hO
  rcases Nat.eq_zero_or_pos n with h0 | hp
  · subst h0
    have hnil : L = [] := List.eq_nil_of_length_eq_zero hnl.symm
    subst hnil
    have HO := Lib.hid hO
    clear hO hf hn hnl
    go_enter Tryz.func94, Tryz.ntmps94
    go_wp2_with (go_at_call 141; (with_reducible refine (stable_nil A c _ _).mono ?_); rintro e w' ⟨rfl, rfl⟩)
    go_end0
    exact ⟨rfl, World.grownBy.refl _ _, [], HO.out, fun x hx => hx, fun _ => by simp [stabF, Go.Sort.insertionSort]; unfold Go.Sort.insOuter; simp⟩
  · obtain ⟨g, cap, e, hg1, hg2⟩ := hO.form (by omega)
    injection e with e1 e2 e3
    subst e1 e3 e2
    have eg : ∀ args w, (callFunc 95 args).run Tryz.prog w = .ok (.enter 95 args) w := enters_of Tryz.func95 (by kernel_rfl) rfl
    have hH : HoldsK recE 6 w g 0 L.toArray := holds_own rcOk hO
    have hcmp : CmpR cfT 95 #[.pointer (some ⟨fb, 0, none⟩)] g 0 L.toArray.size w := fun m os dk hdk x y => by
      have hK := (own_sorted rcOk hO m dk (by simpa using hdk) os).2
      exact cmp95 x y fb _ ((hf.grown hK (fun e => own_blk_ne hO.1 hf (by decide) e.symm)).cell 0)
    have HS := Lib.hid (stable141 cfT 95 #[.pointer (some ⟨fb, 0, none⟩)] g 0 c L.toArray w eg hcmp hH hg2 (by simpa using hn))
    have HE := Lib.hid (show ∀ m d' os, d'.size = L.length → OwnR rcR w0 (sortWorldK recE 6 w g 0 m d' os) (.slice (some ⟨g, 0, none⟩) L.length c) d'.toList ∧ w.grownBy (sortWorldK recE 6 w g 0 m d' os) (some g) from fun m d' os hd => own_sorted rcOk hO m d' hd os)
    have hsz : L.toArray.size = L.length := by simp
    rw [hsz] at HS
    clear hH hcmp eg hf hg1 hg2 hnl hp hn hO
    obtain ⟨N, hN⟩ : ∃ N, L.length = N := ⟨_, rfl⟩
    have HN := Lib.hid hN
    rw [hN] at HS HE ⊢
    clear hN hsz
    go_enter Tryz.func94, Tryz.ntmps94
    go_wp2_with (go_at_call 141; (with_reducible refine HS.out.mono ?_); rintro e w' ⟨rfl, m, d', os, hr, hs, rfl⟩; have HR := Lib.hid hr; have HSM := Lib.hid hs; clear hr hs)
    go_end0
    refine ⟨rfl, (HE.out m d' os (by rw [HR.out.1]; simpa using HN.out)).2, d'.toList, (HE.out m d' os (by rw [HR.out.1]; simpa using HN.out)).1, fun x hx => by simpa using HR.out.2 x (by simpa using hx), fun h => by rw [HSM.out (by simpa using h)]⟩
theorem order38 (L : List Rec) (A : Option Addr) (n c : Nat) (w0 w : World) (hO : OwnR rcR w0 w (.slice A n c) L) (hn : n < 1000000000) :
    Calls Tryz.prog 38 #[.slice A n c, .func (.func 39) #[] #[]] w (OrdPost w0 w A n c L) := by
  have HB := Blk.new w 115 #[.func (.func 39) #[] #[]]
  have HC := Lib.hid (stable94 L A n c w.heap.size w0 _ (hO.keep ((Keeps.refl w).alloc (.cells #[.func (.func 39) #[] #[]] 115))) HB hn)
  clear hO HB hn
  go_enter Tryz.func38, Tryz.ntmps38
  go_wp2_with (go_at_call 94; (with_reducible refine HC.out.mono ?_); rintro e w' ⟨rfl, h⟩; have H := Lib.hid h; clear h)
  go_end0
  exact ⟨rfl, grown_trans (grown_of_keeps ((Keeps.refl w).alloc _) _) H.out.1, H.out.2⟩
end Go.Proofs.YthkmpegpmpdhaaaGreatDoor
