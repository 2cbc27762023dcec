/- Part of the proof of TopOwnItem. Conditions: as stated in each theorem. -/
import Derived.Test.YthkmpegpmpdhaaaGreatDoorZFc
import Derived.Test.YthkmpegpmpdhaaaGreatDoorProg
import Derived.WalkMore
import Derived.Maps.OwnIn
import Derived.Deep.LoopGhost
import Derived.RangeFuncNested
import Derived.RangeFuncCalls
import Derived.RangeFuncLeaves
import Derived.RangeFuncWrites
import Derived.Shelf.Abstract
import Derived.Shelf.RegionOpen
import Derived.OwnWalkIn
import Derived.TacticsInMore
import Derived.LoopNIn
import Derived.LoopIn
import Derived.RangeFuncBound
import Derived.WalkKit
import Derived.WalkSpells
import Derived.WalkLawsBesides
import Derived.Laws.EntriesVeiled
import Derived.ProofKit
import Derived.OpenShut
import Derived.Lib.Hide
import Derived.BigQuiet
import Derived.Deep.QuietTactic
import Derived.Deep.CutRange
import Derived.StillTailTactics
import Derived.Lib.SliceRun
import Derived.RangeFuncRecord
import Derived.Carry
import Derived.ChangeKeysEq
import Derived.Below
import Derived.Laws.OwnMore
import Derived.Deep.AppendLies
import Derived.Deep.Draws
import Derived.Laws.Rows
import Derived.Maps.AppendAt
import Derived.RegionTactic
import Derived.OwnWalk
import Derived.Deep.RegionHeld3
namespace Go.Proofs.YthkmpegpmpdhaaaGreatDoor
open Go.Shelf Go.ChangeShapes Go.WideShapes Go.ChangeAt Go.RowKit
set_option linter.unusedSimpArgs false
set_option linter.unusedVariables false
def TreeP (L : List (List Int)) (w : World) (e : Ending) (w' : World) : Prop := ∃ A n c rows, e = .returned (.slice A n c) ∧ OwnR rwR w w' (.slice A n c) rows ∧ rows.map Rw.l = L ∧ ∀ r ∈ rows, NRow w' r
/-- Between the rounds of the tree's loop. -/
def TreeI (full : List (List Int)) (w : World) (a b : Value) (wx : World) : Prop :=
  ∃ (pre : List (List Int)) (f : Nat) (row : List Int) (A : Option Addr) (m c : Nat) (OA : Option Addr) (on oc : Nat) (rows : List Rw), a = .slice A m c ∧ b = .slice OA on oc ∧ m = row.length ∧ OwnR rwR w wx (.slice OA on oc) rows ∧ (∀ r ∈ rows, NRow wx r) ∧ NRow wx ⟨row, A, c⟩ ∧ rows.map Rw.l = pre ++ [row] ∧ full = pre ++ rowsF f row ∧ row.length ≤ f + 1 ∧ rows.length + row.length ≤ 2000
/-- Between the rounds of the loop that makes the row above. -/
def AboveI (row : List Int) (wz : World) (a b : Value) (wx : World) : Prop :=
  ∃ (j : Nat) (A : Option Addr) (m c : Nat) (done : List Int), a = .int .i64 (j : Int) ∧ b = .slice A m c ∧ j ≤ row.length + 1 ∧ OwnR intR wz wx (.slice A m c) done ∧ done.length ≤ j ∧ aboveF row = done ++ aboveF (row.drop j)
theorem leafF_snoc {labels : List ByteArray} {k : Nat} {s : ByteArray} (h : labels[k]? = some s) : leafF (labels.take (k + 1)) = leafF (labels.take k) ++ [dgF [0, dgF (codes s)]] := by
  unfold leafF
  rw [take_snoc' h, List.map_append]
  rfl
theorem drop_two {α : Type} {l : List α} {j : Nat} {a b : α} (h : l[j]? = some a) (h2 : l[j + 1]? = some b) : l.drop j = a :: b :: l.drop (j + 2) := by rw [drop_at h, drop_at h2]
theorem drop_last1 {α : Type} {l : List α} {j : Nat} {a : α} (h : l[j]? = some a) (h2 : l.length = j + 1) : l.drop j = [a] := by rw [drop_at h, List.drop_eq_nil_of_le (by omega)]
set_option maxHeartbeats 8000000 in
set_option maxRecDepth 100000 in
theorem tree56 (labels : List ByteArray) (A : Option Addr) (n c : Nat) (w : World) (h : RecIn strR w w.heap.size A labels) (hn : Hid (n = labels.length)) (h0 : n ≠ 0) (hl : n ≤ 1000) (hs : ∀ s ∈ labels, s.size ≤ 1000) :
    Calls Tryz.prog 56 #[.slice A n c] w (TreeP (treeF labels) w) := by
  have HD := Lib.hid h; have HS := Lib.hid hs
  clear h hs
  have z1 : (n == 0) = false := by simpa using h0
  have z2 : ((n : Int) == 0) = false := by simp; omega
  have z3 : decide ((n : Int) = 0) = false := by simp; omega
  have z4 : decide ((1000 : Int) < (n : Int)) = false := by simp; omega
  have z5 : decide (1000 < n) = false := by simp; omega
  have HTF := Lib.hid (show treeF labels = rowsF labels.length (leafF labels) by unfold treeF; rw [if_neg (fun e => h0 (by rw [hn.out, e]; rfl))])
  go_enter Tryz.func56, Tryz.ntmps56
  go_wp2_with fail
  go_loopw [4, 3] (fun a b wx => ∃ (i : Nat) (B : Option Addr) (m k : Nat), i ≤ n ∧ a = .int .i64 (i : Int) ∧ b = .slice B m k ∧ OwnR intR w wx (.slice B m k) (leafF (labels.take i))) (fun a b _ => n - (intOf a).toNat)
  case atStart => exact ⟨0, none, 0, 0, by omega, rfl, rfl, OwnR.nil w⟩
  case round =>
    obtain ⟨i, B, m, k, hi, rfl, rfl, hO⟩ := hrel
    have hnl := hn.out
    by_cases hin : i < n
    · obtain ⟨s, hs⟩ : ∃ s, labels[i]? = some s := ⟨_, List.getElem?_eq_getElem (by omega)⟩
      have HSN := Lib.hid (leafF_snoc hs)
      obtain ⟨b, o, rfl, hb, c0⟩ := (HD.out.keep hO.2).str hs
      have HLB := Lib.hid (label58 s wr (HS.out s (List.mem_of_getElem? hs)))
      have LE := Lib.hid (show (leafF (labels.take i)).length + [dgF [0, dgF (codes s)]].length ≤ 1000000 by unfold leafF; simp; omega)
      have ONE := Lib.hid (show (1 : Nat) = [dgF [0, dgF (codes s)]].length from rfl)
      have HO := Lib.hid hO
      have ii : (i : Int) < (n : Int) := by omega
      have i0 : (0 : Int) ≤ (i : Int) := by omega
      have iw : IntKind.i64.wrap ((i : Int) + 1) = (i : Int) + 1 := wrap_in (by omega) (by omega)
      clear hs hO hnl
      go_wp2_with (first | (go_at_call 58; (with_reducible refine HLB.out.mono ?_); rintro e w2 ⟨rfl, hk2⟩; have K2 := Lib.hid hk2; have HSM := Lib.hid (sum55 [0, dgF (codes s)] (some ⟨w2.heap.size, 0, none⟩) 2 2 (w2.alloc (.cells #[.int .i64 0, .int .i64 (dgF (codes s))] 3)) (RecIn.lit intOk w2 [0, dgF (codes s)] #[.int .i64 0, .int .i64 (dgF (codes s))] rfl) (Lib.hid rfl) (by omega)); clear hk2) | (go_at_call 55; (with_reducible refine HSM.out.mono ?_); rintro e w3 ⟨rfl, hk3⟩; have K3 := Lib.hid ((K2.out.alloc _).trans hk3); have O3 := Lib.hid (HO.out.keep (K3.out.alloc (.cells #[.int .i64 (dgF [0, dgF (codes s)])] 3))); have X3 := Lib.hid (RecIn.lit intOk w3 [dgF [0, dgF (codes s)]] #[.int .i64 (dgF [0, dgF (codes s)])] rfl); clear hk3) | (at_builtin; refine wpList_appR intOk (w0 := w) rfl (.tmp 22) (.tmp 30) rfl _ (leafF (labels.take i)) rfl O3.out _ _ _ [dgF [0, dgF (codes s)]] rfl X3.out ONE LE ?_; intro A4 n4 c4 w4 ho4 hg4; clear hg4; have O4 := Lib.hid ho4; clear ho4))
      go_roundw
      case rel => exact ⟨i + 1, A4, n4, c4, by omega, by go_num, rfl, by rw [HSN.out]; exact O4.out⟩
      case measure => simp [intOf]; omega
    · have e : labels.take i = labels := List.take_of_length_le (by omega)
      rw [e] at hO
      have hin' : ¬ ((i : Int) < (n : Int)) := by omega
      have HO := Lib.hid hO
      have HM := Lib.hid (own_lenR hO)
      have hml : m = labels.length := by rw [HM.out]; unfold leafF; simp
      have O1 := Lib.hid (OwnR.litN (R := rwR) rwOk.len hO.2 [⟨leafF labels, B, k⟩] #[.slice B m k] (by rw [HM.out]; rfl) (by simp))
      have TI := Lib.hid (show TreeI (treeF labels) w (.slice B m k) (.slice (some ⟨wr.heap.size, 0, none⟩) 1 1) (wr.alloc (.cells #[.slice B m k] 41)) from by
        refine ⟨[], labels.length, leafF labels, B, m, k, _, 1, 1, [⟨leafF labels, B, k⟩], rfl, rfl, HM.out, O1.out, fun r hr => ?_, (NRow.own hO).keep ((Keeps.refl _).alloc _), rfl, by rw [HTF.out]; rfl, by unfold leafF; simp, by simp [leafF]; omega⟩
        rw [List.mem_singleton] at hr
        subst hr
        exact (NRow.own hO).keep ((Keeps.refl _).alloc _))
      clear e hO hnl hml O1 HO HM
      go_wp2_with fail
      go_loopw [3, 5, 6, 7] (fun a b x y wx => TreeI (treeF labels) w a b wx) (fun a b x y _ => slLen a)
      case atStart => exact TI.out
      case round =>
        clear TI
        obtain ⟨pre, f, row, A, m, c, OA, on, oc, rows, rfl, rfl, hm, hO, hR, hN, hmap, hfull, hf, hlen⟩ := hrel
        have HM := Lib.hid hm; have HO := Lib.hid hO; have HR := Lib.hid hR; have HN := Lib.hid hN; have HMAP := Lib.hid hmap; have HFU := Lib.hid hfull
        by_cases h1 : 1 < m
        · have m1 : (1 : Int) < (m : Int) := by omega
          have hm2 : m ≤ 2000 := by omega
          have hrl : rows.length ≤ 2000 := by omega
          have hrm : rows.length + m ≤ 2000 := by omega
          have hfm : m ≤ f + 1 := by omega
          clear hm hO hR hN hmap hfull hf hlen
          go_wp2_with fail
          generalize hwz : wr = wz at *
          clear hwz
          go_loopw [7, 6] (fun a b wx => AboveI row wz a b wx) (fun a b _ => m + 1 - (intOf a).toNat)
          case atStart => exact ⟨0, none, 0, 0, [], rfl, rfl, by omega, OwnR.nil wz, by simp, rfl⟩
          case round =>
            obtain ⟨j, NA, nn, nc, done, rfl, rfl, hj, hD, hdl, hab⟩ := hrel
            have HDN := Lib.hid hD; have HAB := Lib.hid hab
            have hml := HM.out
            have RR := HN.out.recs
            simp only at RR
            have hkz := hD.2
            by_cases hjm : j < m
            · obtain ⟨a, ha⟩ : ∃ a, row[j]? = some a := ⟨_, List.getElem?_eq_getElem (by omega)⟩
              obtain ⟨ab, ao, rfl, hab2, c0⟩ := RR.int ha
              have jm : (j : Int) < (m : Int) := by omega
              have j0 : (0 : Int) ≤ (j : Int) := by omega
              have jw : IntKind.i64.wrap ((j : Int) + 1) = (j : Int) + 1 := wrap_in (by omega) (by omega)
              have jw2 : IntKind.i64.wrap ((j : Int) + 2) = (j : Int) + 2 := wrap_in (by omega) (by omega)
              by_cases hj1 : j + 1 < m
              · obtain ⟨b, hb⟩ : ∃ b, row[j + 1]? = some b := ⟨_, List.getElem?_eq_getElem (by omega)⟩
                obtain ⟨bb, bo, e2, hbb, c1⟩ := RR.int hb
                injection e2 with e2
                injection e2 with e3 e4
                subst e3 e4
                have HAB2 := Lib.hid (show aboveF row = (done ++ [dgF [1, a, b]]) ++ aboveF (row.drop (j + 2)) by rw [HAB.out, drop_two ha hb, aboveF, List.append_assoc]; rfl)
                have j10 : (0 : Int) ≤ (j : Int) + 1 := by omega
                have j1m : (j : Int) + 1 < (m : Int) := by omega
                have hj2 : j + 2 ≤ row.length + 1 := by omega
                have LE := Lib.hid (show done.length + [dgF [1, a, b]].length ≤ 1000000 by simp; omega)
                have ONE := Lib.hid (show (1 : Nat) = [dgF [1, a, b]].length from rfl)
                have HSM := Lib.hid (sum55 [1, a, b] (some ⟨wr.heap.size, 0, none⟩) 3 3 (wr.alloc (.cells #[.int .i64 1, .int .i64 a, .int .i64 b] 3)).drew ((RecIn.lit intOk wr [1, a, b] #[.int .i64 1, .int .i64 a, .int .i64 b] rfl).keep (Keeps.refl _).drew) (Lib.hid rfl) (by omega))
                have e5 : ao + (j + 1) = ao + j + 1 := by omega
                rw [e5] at c1
                have SOF := Lib.hid (show ∀ X, Keeps wz X → (fun w' => w'.cell? ⟨ab, ao + j, none⟩ = some (.int .i64 a) ∧ w'.cell? ⟨ab, ao + (j + 1), none⟩ = some (.int .i64 b) ∧ Keeps wz w') X from fun X hX => ⟨cell_keep c0 hX, by rw [e5]; exact cell_keep c1 hX, hX⟩)
                clear ha hb hD hab hml RR c0 c1 e5
                go_upto_region 15 with fail
                go_region_held3 (fun w' => w'.cell? ⟨ab, ao + j, none⟩ = some (.int .i64 a) ∧ w'.cell? ⟨ab, ao + (j + 1), none⟩ = some (.int .i64 b) ∧ Keeps wz w') ((refine SOF.out _ ?_; (repeat (first | exact Keeps.refl _ | assumption | apply Keeps.drew | apply Keeps.alloc)); done)) ((first | (go_at_call 55; (with_reducible refine HSM.out.mono ?_); rintro e w4 ⟨rfl, hk4'⟩; have hk4 : Keeps wr w4 := (((Keeps.refl wr).alloc _).drew).trans hk4'; have hk4z : Keeps wz w4 := hkz.trans hk4; clear hk4') | (refine step_appR intOk (w0 := wz) (by rfl) (.tmp 48) (.tmp 60) (by rfl) _ done (by rfl) (HDN.out.keep (hk4.alloc (.cells #[.int .i64 (dgF [1, a, b])] 3))) _ _ _ [dgF [1, a, b]] (by rfl) (RecIn.lit intOk w4 [dgF [1, a, b]] #[.int .i64 (dgF [1, a, b])] rfl) ONE LE ?_; intro A5 n5 c5 w5 ho5 hg5; have O5 := Lib.hid ho5; have hk5 : Keeps wz w5 := ho5.2; clear ho5 hg5)))
                rename_i hH
                clear hH
                go_wp2_with fail
                go_roundw
                case rel => exact ⟨j + 2, A5, n5, c5, done ++ [dgF [1, a, b]], by go_num, rfl, hj2, O5.out, by simp; omega, HAB2.out⟩
                case measure => simp [intOf]; omega
              · have e1 : m = j + 1 := by omega
                have HAB2 := Lib.hid (show aboveF row = (done ++ [a]) ++ aboveF (row.drop (j + 2)) by rw [HAB.out, drop_last1 ha (by omega), List.drop_eq_nil_of_le (by omega)]; simp [aboveF])
                have j1m : ¬ ((j : Int) + 1 < (m : Int)) := by omega
                have j1m2 : decide ((j : Int) + 1 < (m : Int)) = false := by simp; omega
                have hj2 : j + 2 ≤ row.length + 1 := by omega
                have LE := Lib.hid (show done.length + [a].length ≤ 1000000 by simp; omega)
                have ONE := Lib.hid (show (1 : Nat) = [a].length from rfl)
                have c0r := cell_keep c0 hkz
                have O3 := Lib.hid (hD.keep ((Keeps.refl wr).alloc (.cells #[.int .i64 a] 3)))
                have X3 := Lib.hid (RecIn.lit intOk wr [a] #[.int .i64 a] rfl)
                have hjmm : j < m := hjm
                clear ha hD hab hml RR c0
                go_wp2_with (at_builtin; refine wpList_appR intOk (w0 := wz) rfl (.tmp 62) (.tmp 67) rfl _ done rfl O3.out _ _ _ [a] rfl X3.out ONE LE ?_; intro A5 n5 c5 w5 ho5 hg5; clear hg5; have O5 := Lib.hid ho5; clear ho5)
                go_roundw
                case rel => exact ⟨j + 2, A5, n5, c5, done ++ [a], by go_num, rfl, hj2, O5.out, by simp; omega, HAB2.out⟩
                case measure => simp [intOf]; omega
            · have hjm' : ¬ ((j : Int) < (m : Int)) := by omega
              have hdone : aboveF row = done := by
                rw [hab, List.drop_eq_nil_of_le (by omega)]
                simp [aboveF]
              have HDONE := Lib.hid hdone
              have hnn := own_lenR hD
              have hal := aboveF_len row
              rw [hdone] at hal
              obtain ⟨f', rfl⟩ : ∃ f', f = f' + 1 := ⟨f - 1, by omega⟩
              have ND := Lib.hid (show NRow wr ⟨done, NA, nc⟩ from NRow.own hD)
              have OR := Lib.hid ((HO.out.keep hkz).keep ((Keeps.refl wr).alloc (.cells #[.slice NA nn nc] 41)))
              have NR := Lib.hid (show ∀ r ∈ rows, NRow wr r from fun r hr => (HR.out r hr).keep hkz)
              have X4 := Lib.hid (show RecIn rwR (wr.alloc (.cells #[.slice NA nn nc] 41)) (wr.alloc (.cells #[.slice NA nn nc] 41)).heap.size (some ⟨wr.heap.size, 0, none⟩) [⟨done, NA, nc⟩] from RecIn.lit rwOk wr [⟨done, NA, nc⟩] #[.slice NA nn nc] (by rw [hnn]; rfl))
              have ONE := Lib.hid (show (1 : Nat) = [(⟨done, NA, nc⟩ : Rw)].length from rfl)
              have LE := Lib.hid (show rows.length + [(⟨done, NA, nc⟩ : Rw)].length ≤ 1000000 by simp; omega)
              have HNN := Lib.hid hnn
              have HRF := Lib.hid (show treeF labels = (pre ++ [row]) ++ rowsF f' done by rw [HFU.out, rowsF, if_pos (by omega), hdone, List.append_assoc]; rfl)
              have hdl2 : done.length = (m + 1) / 2 := by rw [hal, HM.out]
              clear hD hab hml RR hdone hnn hal HAB HDN
              go_wp2_with (at_builtin; refine wpList_appR rwOk (w0 := w) rfl (.tmp 70) (.tmp 72) rfl _ rows rfl OR.out _ _ _ [⟨done, NA, nc⟩] rfl X4.out ONE LE ?_; intro A6 n6 c6 w6 ho6 hg6; have O6 := Lib.hid ho6; have G6 := Lib.hid (show (wr.alloc (.cells #[.slice NA nn nc] 41)).grownBy w6 (Value.slice OA on oc).ownBlock from hg6); clear ho6 hg6)
              have NK : ∀ r, NRow wr r → NRow w6 r := fun r hr => (hr.keep ((Keeps.refl wr).alloc _)).grown G6.out (fun g e => by obtain ⟨cs, hc⟩ := own_blk OR.out e; exact ⟨_, cs, hc, by decide⟩)
              go_roundw
              case rel =>
                refine ⟨pre ++ [row], f', done, NA, nn, nc, A6, n6, c6, rows ++ [⟨done, NA, nc⟩], rfl, rfl, HNN.out, O6.out, fun r hr => ?_, NK _ ND.out, ?_, HRF.out, by omega, by simp; omega⟩
                · rcases List.mem_append.1 hr with hr | hr
                  · exact NK r (NR.out r hr)
                  · rw [List.mem_singleton] at hr
                    subst hr
                    exact NK _ ND.out
                · rw [List.map_append, HMAP.out]
                  rfl
              case measure => simp only [slLen]; rw [HNN.out, hdl2]; omega
        · have m1 : ¬ ((1 : Int) < (m : Int)) := by omega
          have hlast : treeF labels = pre ++ [row] := by rw [hfull, rowsF_one (by omega)]
          have HLAST := Lib.hid hlast
          clear hm hO hR hN hmap hfull hf hlen hlast
          go_wp2_with fail
          go_ret
          exact ⟨OA, on, oc, rows, rfl, HO.out, by rw [HMAP.out, HLAST.out], HR.out⟩
theorem rowsF_len : ∀ (f : Nat) (row : List Int), (rowsF f row).length ≤ f + 1
  | 0, _ => by simp [rowsF]
  | f + 1, row => by
    rw [rowsF, List.length_cons]
    split
    · have := rowsF_len f (aboveF row); omega
    · simp
theorem rowsF_short : ∀ (f : Nat) (row : List Int), ∀ r ∈ rowsF f row, r.length ≤ row.length
  | 0, row, r, h => by simp only [rowsF, List.mem_singleton] at h; rw [h]; exact Nat.le_refl _
  | f + 1, row, r, h => by
    rw [rowsF] at h
    rcases List.mem_cons.1 h with h | h
    · rw [h]; exact Nat.le_refl _
    · split at h
      · have h1 := rowsF_short f (aboveF row) r h
        have h2 := aboveF_len row
        omega
      · cases h
def pairG (s : ByteArray) : List (List Int) := [codes s, [0, dgF (codes s)]]
theorem pairG_len : ∀ (l : List ByteArray), (l.flatMap pairG).length = 2 * l.length
  | [] => rfl
  | s :: l => by
    rw [List.flatMap_cons, List.length_append, pairG_len l]
    simp only [pairG, List.length_cons, List.length_nil]
    omega
theorem pairsF_len : ∀ (l : List Int), (pairsF l).length ≤ l.length
  | [] => by simp [pairsF]
  | [a] => by simp [pairsF]
  | a :: b :: l => by
    rw [pairsF, List.length_cons]
    have := pairsF_len l
    simp only [List.length_cons]
    omega
theorem flatP_len : ∀ (L : List (List Int)), (∀ r ∈ L, r.length ≤ 40) → (L.flatMap pairsF).length ≤ 40 * L.length
  | [], _ => by simp
  | r :: L, h => by
    rw [List.flatMap_cons, List.length_append, List.length_cons]
    have h1 := flatP_len L (fun x hx => h x (List.mem_cons_of_mem _ hx))
    have h2 := pairsF_len r
    have h3 := h r (by simp)
    omega
theorem flat_snoc {α β : Type} (g : α → List β) {l : List α} {k : Nat} {x : α} (h : l[k]? = some x) : (l.take (k + 1)).flatMap g = (l.take k).flatMap g ++ g x := by
  rw [take_snoc' h, List.flatMap_append]
  simp
theorem pairsF_two {l : List Int} {j : Nat} {a b : Int} (h : l[j]? = some a) (h2 : l[j + 1]? = some b) : pairsF (l.drop j) = [1, a, b] :: pairsF (l.drop (j + 2)) := by rw [drop_two h h2, pairsF]
theorem pairsF_end {l : List Int} {j : Nat} (h : l.length ≤ j + 1) : pairsF (l.drop j) = [] := by
  have hl : (l.drop j).length ≤ 1 := by rw [List.length_drop]; omega
  match l.drop j, hl with
  | [], _ => rfl
  | [a], _ => rfl
/-- Out's rows between the rounds. -/
def OutI (w1 : World) (L : List (List Int)) (v : Value) (wx : World) : Prop := ∃ (A : Option Addr) (m c : Nat) (rows : List Rw), v = .slice A m c ∧ OwnR rwR w1 wx (.slice A m c) rows ∧ (∀ r ∈ rows, NRow wx r) ∧ rows.map Rw.l = L
theorem OutI.keeps {w1 wx : World} {L : List (List Int)} {v : Value} (h : OutI w1 L v wx) : Keeps w1 wx := by
  obtain ⟨A, m, c, rows, _, ho, _⟩ := h
  exact ho.2
theorem OutI.drewN {w1 wx : World} {L : List (List Int)} {v : Value} (h : OutI w1 L v wx) (n : Nat) : OutI w1 L v (wx.drewN n) := by
  obtain ⟨A, m, c, rows, e, ho, hr, hm⟩ := h
  exact ⟨A, m, c, rows, e, ho.keep ((Keeps.refl _).drewN n), fun r h => (hr r h).keep ((Keeps.refl _).drewN n), hm⟩
theorem OutI.app {w1 wx wy w' : World} {L : List (List Int)} {A A' : Option Addr} {m c m' c' : Nat} {rows news : List Rw} (ho : OwnR rwR w1 wy (.slice A m c) rows) (hr : ∀ r ∈ rows, NRow wy r) (hm : rows.map Rw.l = L) (hn : ∀ r ∈ news, NRow wy r) (ho' : OwnR rwR w1 w' (.slice A' m' c') (rows ++ news)) (hg : wy.grownBy w' (Value.slice A m c).ownBlock) : OutI w1 (L ++ news.map Rw.l) (.slice A' m' c') w' := by
  have NK : ∀ r, NRow wy r → NRow w' r := fun r hr => hr.grown hg (fun g e => by obtain ⟨cs, hc⟩ := own_blk ho e; exact ⟨_, cs, hc, by decide⟩)
  refine ⟨A', m', c', rows ++ news, rfl, ho', fun r h => ?_, by rw [List.map_append, hm]⟩
  rcases List.mem_append.1 h with h | h
  · exact NK r (hr r h)
  · exact NK r (hn r h)
def ListsP (L : List (List Int)) (w : World) (e : Ending) (w' : World) : Prop := ∃ A n c rows, e = .returned (.slice A n c) ∧ n = rows.length ∧ RecIn rwR w' w'.heap.size A rows ∧ rows.map Rw.l = L ∧ (∀ r ∈ rows, NRow w' r) ∧ Keeps w w'
set_option maxHeartbeats 8000000 in
set_option maxRecDepth 100000 in
theorem lists23 (labels : List ByteArray) (A : Option Addr) (n c : Nat) (w : World) (h : RecIn strR w w.heap.size A labels) (hn : Hid (n = labels.length)) (h0 : n ≠ 0) (hl : n ≤ 40) (hs : ∀ s ∈ labels, s.size ≤ 1000) :
    Calls Tryz.prog 23 #[.slice A n c] w (ListsP (listsF labels) w) := by
  have HD := Lib.hid h; have HS := Lib.hid hs
  have HTR := Lib.hid (tree56 labels A n c w h hn h0 (by omega) hs)
  clear h hs
  have HTF := Lib.hid (show treeF labels = rowsF labels.length (leafF labels) by unfold treeF; rw [if_neg (fun e => h0 (by rw [hn.out, e]; rfl))])
  have HTL := Lib.hid (show 1 ≤ (treeF labels).length ∧ (treeF labels).length ≤ 41 ∧ ∀ r ∈ treeF labels, r.length ≤ 40 by
    rw [HTF.out]
    have e1 := rowsF_len labels.length (leafF labels)
    have e2 : (leafF labels).length = labels.length := by unfold leafF; simp
    have e3 := hn.out
    refine ⟨?_, by omega, fun r hr => by have := rowsF_short _ _ r hr; omega⟩
    cases hne : rowsF labels.length (leafF labels) with
    | nil => exact absurd hne (rowsF_ne _ _)
    | cons a b => simp)
  go_enter Tryz.func23, Tryz.ntmps23
  go_upto_region 3 with (go_at_call 56; (with_reducible refine HTR.out.mono ?_); rintro e w1 ⟨TA, tn, tc, trows, rfl, ht, htm, htr⟩; have TO := Lib.hid ht; have TM := Lib.hid htm; have TR := Lib.hid htr; clear ht htm htr)
  have HTN := Lib.hid (own_lenR TO.out)
  have htn1 : 1 ≤ tn ∧ tn ≤ 41 := by
    have h1 := HTN.out
    have h2 := HTL.out
    rw [← TM.out, List.length_map] at h2
    omega
  have htn := htn1.1
  have htn2 := htn1.2
  have tpos : (0 : Int) < (tn : Int) := by omega
  clear htn1
  go_wp2_with fail
  go_loopw [5, 3] (fun a b wx => ∃ i : Nat, i ≤ n ∧ a = .int .i64 (i : Int) ∧ OutI w1 ((labels.take i).flatMap pairG) b wx) (fun a b _ => n - (intOf a).toNat)
  case atStart => exact ⟨0, by omega, rfl, none, 0, 0, [], rfl, OwnR.nil w1, fun r hr => by simp at hr, rfl⟩
  case round =>
    obtain ⟨i, hi, rfl, B, m, k, rows, rfl, hO, hR, hmap⟩ := hrel
    have HO := Lib.hid hO; have HR := Lib.hid hR; have HMAP := Lib.hid hmap
    have hnl := hn.out
    have hrows : rows.length = 2 * min i labels.length := by
      have h1 := congrArg List.length hmap
      rw [List.length_map, pairG_len, List.length_take] at h1
      exact h1
    by_cases hin : i < n
    · obtain ⟨s, hs⟩ : ∃ s, labels[i]? = some s := ⟨_, List.getElem?_eq_getElem (by omega)⟩
      have HSN := Lib.hid (flat_snoc pairG hs)
      obtain ⟨b, o, rfl, hb, c0⟩ := (HD.out.keep TO.out.2).str hs
      have hsz := HS.out s (List.mem_of_getElem? hs)
      have HC := Lib.hid (codes57 s wr.drew hsz)
      have HLB := Lib.hid (fun W => label58 s W hsz)
      have kz := hO.2
      have ii : (i : Int) < (n : Int) := by omega
      have i0 : (0 : Int) ≤ (i : Int) := by omega
      have iw : IntKind.i64.wrap ((i : Int) + 1) = (i : Int) + 1 := wrap_in (by omega) (by omega)
      have rl : rows.length ≤ 80 := by omega
      have SOF := Lib.hid (show ∀ X, Keeps w1 X → (fun w' => w'.cell? ⟨b, o + i, none⟩ = some (.string s) ∧ Keeps w1 w') X from fun X hX => ⟨cell_keep c0 hX, hX⟩)
      clear hs hO hR hmap hnl c0 hrows
      go_upto_region 6 with fail
      go_region_held3 (fun w' => w'.cell? ⟨b, o + i, none⟩ = some (.string s) ∧ Keeps w1 w') ((refine SOF.out _ ?_; (repeat (first | exact kz | assumption | apply Keeps.drew | apply Keeps.alloc)); done)) ((first | (go_at_call 57; (with_reducible refine HC.out.mono ?_); rintro e w4 ⟨A4, n4, c4, rfl, ho4⟩; have N4 := Lib.hid (own_lenR ho4); have R4 := Lib.hid (show NRow w4 ⟨codes s, A4, c4⟩ from NRow.own ho4); have hk4 : Keeps wr w4 := ((Keeps.refl wr).drew).trans ho4.2; have hk4z : Keeps w1 w4 := kz.trans hk4; clear ho4) | (go_at_call 58; (with_reducible refine (HLB.out w4).mono ?_); rintro e w5 ⟨rfl, hk5'⟩; have K5 := Lib.hid hk5'; have hk5 : Keeps wr w5 := hk4.trans hk5'; have hk5z : Keeps w1 w5 := kz.trans hk5; clear hk5') | (refine step_appR rwOk (w0 := w1) (by rfl) (.tmp 21) (.tmp 33) (by rfl) _ rows (by rfl) (HO.out.keep ((hk5.alloc (.cells #[.int .i64 0, .int .i64 (dgF (codes s))] 3)).alloc (.cells #[.slice A4 n4 c4, .slice (some ⟨w5.heap.size, 0, none⟩) 2 2] 41))) _ _ _ [⟨codes s, A4, c4⟩, ⟨[0, dgF (codes s)], some ⟨w5.heap.size, 0, none⟩, 2⟩] (by rfl) (by have h := RecIn.lit rwOk (w5.alloc (.cells #[.int .i64 0, .int .i64 (dgF (codes s))] 3)) [⟨codes s, A4, c4⟩, ⟨[0, dgF (codes s)], some ⟨w5.heap.size, 0, none⟩, 2⟩] #[.slice A4 n4 c4, .slice (some ⟨w5.heap.size, 0, none⟩) 2 2] (by rw [N4.out]; rfl); rw [show (w5.alloc (.cells #[.int .i64 0, .int .i64 (dgF (codes s))] 3)).heap.size = w5.heap.size + 1 from World.size_alloc _ _] at h; exact h) (Lib.hid rfl) (Lib.hid (by simp; omega)) ?_; intro A6 n6 c6 w6 ho6 hg6; have O6 := Lib.hid ho6; have G6 := Lib.hid hg6; have hk6 : Keeps w1 w6 := ho6.2; clear ho6 hg6)))
      rename_i hH
      clear hH
      have OUT := Lib.hid (OutI.app (wx := wr) (HO.out.keep ((hk5.alloc (.cells #[.int .i64 0, .int .i64 (dgF (codes s))] 3)).alloc (.cells #[.slice A4 n4 c4, .slice (some ⟨w5.heap.size, 0, none⟩) 2 2] 41))) (fun r hr => (HR.out r hr).keep ((hk5.alloc _).alloc _)) HMAP.out (fun r hr => by
        have k6 := ((Keeps.refl w5).alloc (.cells #[.int .i64 0, .int .i64 (dgF (codes s))] 3)).alloc (.cells #[.slice A4 n4 c4, .slice (some ⟨w5.heap.size, 0, none⟩) 2 2] 41)
        have l2 : NRow (w5.alloc (.cells #[.int .i64 0, .int .i64 (dgF (codes s))] 3)) ⟨[0, dgF (codes s)], some ⟨w5.heap.size, 0, none⟩, 2⟩ := NRow.lit rfl
        simp only [List.mem_cons, List.not_mem_nil, or_false] at hr
        rcases hr with rfl | rfl
        · exact (R4.out.keep K5.out).keep k6
        · exact l2.keep ((Keeps.refl _).alloc _)) O6.out G6.out)
      go_wp2_with fail
      go_roundw
      case rel => exact ⟨i + 1, by omega, by go_num, by rw [HSN.out]; exact OUT.out⟩
      case measure => simp [intOf]; omega
    · have e : labels.take i = labels := List.take_of_length_le (by omega)
      rw [e] at HMAP
      have hin' : ¬ ((i : Int) < (n : Int)) := by omega
      have OUT := Lib.hid (show OutI w1 (labels.flatMap pairG) (.slice B m k) wr from ⟨B, m, k, rows, rfl, HO.out, HR.out, HMAP.out⟩)
      clear e hO hR hmap hnl hrows HO HR HMAP
      go_wp2_with fail
      go_loopw [6, 3, 7] (fun a b x wx => ∃ q : Nat, q + 1 ≤ tn ∧ a = .int .i64 (q : Int) ∧ OutI w1 (labels.flatMap pairG ++ ((treeF labels).take q).flatMap pairsF) b wx) (fun a b x _ => tn - (intOf a).toNat)
      case atStart => exact ⟨0, by omega, rfl, by simpa using OUT.out⟩
      case round =>
        clear OUT
        obtain ⟨q, hq, rfl, hO⟩ := hrel
        have qw : IntKind.i64.wrap ((q : Int) + 1) = (q : Int) + 1 := wrap_in (by omega) (by omega)
        have HTNO := HTN.out
        have hTl : (treeF labels).length = tn := by rw [← TM.out, List.length_map, HTNO]
        by_cases hqt : q + 1 < tn
        · obtain ⟨r, hr⟩ : ∃ r, trows[q]? = some r := ⟨_, List.getElem?_eq_getElem (by omega)⟩
          have hrl : (treeF labels)[q]? = some r.l := by rw [← TM.out, List.getElem?_map, hr]; rfl
          have HFS := Lib.hid (flat_snoc pairsF hrl)
          have hr40 := HTL.out.2.2 r.l (List.mem_of_getElem? hrl)
          have NR := Lib.hid (TR.out r (List.mem_of_getElem? hr))
          have qt : (q : Int) + 1 < (tn : Int) := by omega
          have q0 : (0 : Int) ≤ (q : Int) := by omega
          have qq : (q : Int) < (tn : Int) := by omega
          have hPL : ((treeF labels).take q).flatMap pairsF = ((treeF labels).take q).flatMap pairsF := rfl
          have HPL := Lib.hid (flatP_len ((treeF labels).take q) (fun r hr => HTL.out.2.2 r (List.mem_of_mem_take hr)))
          have HQL := Lib.hid (show ((treeF labels).take q).length ≤ 41 by rw [List.length_take]; omega)
          have HO := Lib.hid hO
          obtain ⟨tb, toff, rfl, htb, c0⟩ := (TO.out.recs rwOk).1.rw_ hr
          obtain ⟨rl, rA, rc⟩ := r
          simp only at c0 hr40 NR HFS
          obtain ⟨p, hp⟩ : ∃ p, rl.length = p := ⟨_, rfl⟩
          rw [hp] at c0
          have HP := Lib.hid hp
          have hp40 : p ≤ 40 := by rw [← hp]; exact hr40
          clear hr hrl hO hTl HTNO hPL hp hr40
          go_wp2_with fail
          go_loopw [7, 3] (fun a b wx => ∃ (j : Nat) (done : List (List Int)), j ≤ p + 1 ∧ a = .int .i64 (j : Int) ∧ done.length ≤ j ∧ pairsF rl = done ++ pairsF (rl.drop j) ∧ OutI w1 (labels.flatMap pairG ++ ((treeF labels).take q).flatMap pairsF ++ done) b wx) (fun a b _ => p + 1 - (intOf a).toNat)
          case atStart => exact ⟨0, [], by omega, rfl, by simp, rfl, by simpa using HO.out⟩
          case round =>
            clear HO
            obtain ⟨j, done, hj, rfl, hdl, hpf, hO⟩ := hrel
            have HPF := Lib.hid hpf
            have kz := hO.keeps
            have hpl := HP.out
            have jw : IntKind.i64.wrap ((j : Int) + 1) = (j : Int) + 1 := wrap_in (by omega) (by omega)
            have jw2 : IntKind.i64.wrap ((j : Int) + 2) = (j : Int) + 2 := wrap_in (by omega) (by omega)
            have c0r := cell_keep c0 kz
            by_cases hjp : j + 1 < p
            · obtain ⟨B, m, k, rows, rfl, ho, hR, hmap⟩ := hO
              obtain ⟨a, ha⟩ : ∃ a, rl[j]? = some a := ⟨_, List.getElem?_eq_getElem (by omega)⟩
              obtain ⟨b, hb⟩ : ∃ b, rl[j + 1]? = some b := ⟨_, List.getElem?_eq_getElem (by omega)⟩
              have HPF2 := Lib.hid (show pairsF rl = (done ++ [[1, a, b]]) ++ pairsF (rl.drop (j + 2)) by rw [HPF.out, pairsF_two ha hb, List.append_assoc]; rfl)
              have RR := NR.out.recs
              simp only at RR
              obtain ⟨ab, ao, rfl, hab, c1⟩ := RR.int ha
              obtain ⟨bb, bo, e2, hbb, c2⟩ := RR.int hb
              injection e2 with e2
              injection e2 with e3 e4
              subst e3 e4
              have e5 : ao + (j + 1) = ao + j + 1 := by omega
              have hrows : rows.length ≤ 2000 := by
                have h1 := congrArg List.length hmap
                rw [List.length_map, List.length_append, List.length_append, pairG_len] at h1
                have := HPL.out; have := HQL.out; have := hn.out
                omega
              have HO := Lib.hid ho; have HR := Lib.hid hR; have HMAP := Lib.hid hmap
              have j10 : (0 : Int) ≤ (j : Int) + 1 := by omega
              have j1p : (j : Int) + 1 < (p : Int) := by omega
              have jp : (j : Int) < (p : Int) := by omega
              have j0 : (0 : Int) ≤ (j : Int) := by omega
              have jpn : j < p := by omega
              have qqn : q < tn := by omega
              have SOF := Lib.hid (show ∀ X, Keeps w1 X → (fun w' => w'.cell? ⟨tb, toff + q, none⟩ = some (.slice (some ⟨ab, ao, none⟩) p rc) ∧ w'.cell? ⟨ab, ao + j, none⟩ = some (.int .i64 a) ∧ w'.cell? ⟨ab, ao + (j + 1), none⟩ = some (.int .i64 b) ∧ Keeps w1 w') X from fun X hX => ⟨cell_keep c0 hX, cell_keep c1 hX, by rw [e5]; exact cell_keep c2 hX, hX⟩)
              clear ha hb hpf RR c1 c2 ho hR hmap hpl e5
              go_upto_region 13 with fail
              clear c0r
              go_region_held3 (fun w' => w'.cell? ⟨tb, toff + q, none⟩ = some (.slice (some ⟨ab, ao, none⟩) p rc) ∧ w'.cell? ⟨ab, ao + j, none⟩ = some (.int .i64 a) ∧ w'.cell? ⟨ab, ao + (j + 1), none⟩ = some (.int .i64 b) ∧ Keeps w1 w') ((refine SOF.out _ ?_; (repeat (first | exact kz | assumption | apply Keeps.drew | apply Keeps.alloc)); done)) ((refine step_appR rwOk (w0 := w1) (by rfl) (.tmp 52) (.tmp 69) (by rfl) _ rows (by rfl) (HO.out.keep (((Keeps.refl wr).alloc (.cells #[.int .i64 1, .int .i64 a, .int .i64 b] 3)).alloc (.cells #[.slice (some ⟨wr.heap.size, 0, none⟩) 3 3] 41)).drew) _ _ _ [⟨[1, a, b], some ⟨wr.heap.size, 0, none⟩, 3⟩] (by rfl) (by have h := (RecIn.lit rwOk (wr.alloc (.cells #[.int .i64 1, .int .i64 a, .int .i64 b] 3)) [⟨[1, a, b], some ⟨wr.heap.size, 0, none⟩, 3⟩] #[.slice (some ⟨wr.heap.size, 0, none⟩) 3 3] rfl).keep (Keeps.refl _).drew; rw [show (wr.alloc (.cells #[.int .i64 1, .int .i64 a, .int .i64 b] 3)).heap.size = wr.heap.size + 1 from World.size_alloc _ _] at h; exact h) (Lib.hid rfl) (Lib.hid (by simp; omega)) ?_; intro A6 n6 c6 w6 ho6 hg6; have O6 := Lib.hid ho6; have G6 := Lib.hid hg6; have hk6 : Keeps w1 w6 := ho6.2; clear ho6 hg6))
              rename_i hH
              clear hH
              have OUT := Lib.hid (OutI.app (wx := wr) (HO.out.keep (((Keeps.refl wr).alloc (.cells #[.int .i64 1, .int .i64 a, .int .i64 b] 3)).alloc (.cells #[.slice (some ⟨wr.heap.size, 0, none⟩) 3 3] 41)).drew) (fun r hr => (HR.out r hr).keep (((Keeps.refl wr).alloc _).alloc _).drew) HMAP.out (fun r hr => by
                have l2 : NRow (wr.alloc (.cells #[.int .i64 1, .int .i64 a, .int .i64 b] 3)) ⟨[1, a, b], some ⟨wr.heap.size, 0, none⟩, 3⟩ := NRow.lit rfl
                rw [List.mem_singleton] at hr
                subst hr
                exact l2.keep ((Keeps.refl _).alloc _).drew) O6.out G6.out)
              go_wp2_with fail
              go_roundw
              case rel => exact ⟨j + 2, done ++ [[1, a, b]], by omega, by go_num, by simp; omega, HPF2.out, by have h := OUT.out; rw [List.append_assoc] at h; exact h⟩
              case measure => simp [intOf]; omega
            · have j1p : decide ((j : Int) + 1 < (p : Int)) = false := by simp; omega
              have j1p2 : ¬ ((j : Int) + 1 < (p : Int)) := by omega
              have hdone : pairsF rl = done := by rw [hpf, pairsF_end (by omega)]; simp
              have HO := Lib.hid (show OutI w1 (labels.flatMap pairG ++ ((treeF labels).take (q + 1)).flatMap pairsF) _ wr by rw [HFS.out, hdone, ← List.append_assoc]; exact hO)
              clear hpf hdone hO hpl
              go_wp2_with fail
              go_roundw
              case rel => exact ⟨q + 1, by omega, by go_num, HO.out⟩
              case measure => simp [intOf]; omega
        · have hlast : (treeF labels).take q = (treeF labels).dropLast := by rw [List.dropLast_eq_take]; congr 1; omega
          rw [hlast] at hO
          have HO := Lib.hid hO
          have qt : ¬ ((q : Int) + 1 < (tn : Int)) := by omega
          have qt2 : decide ((q : Int) + 1 < (tn : Int)) = false := by simp; omega
          obtain ⟨B, m, k, rows, rfl, ho, hR, hmap⟩ := hO
          clear ho hR hmap hlast hTl HTNO
          go_wp2_with fail
          go_ret
          obtain ⟨B', m', k', rows', e, ho, hR, hmap⟩ := HO.out
          cases e
          exact ⟨B, m, k, rows', rfl, (ho.recs rwOk).2, (ho.recs rwOk).1, hmap, hR, TO.out.2.trans ho.2⟩
end Go.Proofs.YthkmpegpmpdhaaaGreatDoor
