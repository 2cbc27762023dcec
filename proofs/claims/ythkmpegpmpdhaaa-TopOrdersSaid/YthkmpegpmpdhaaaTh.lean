/- Part of the proofs of TopMoney and TopOrders. Conditions: as stated in each theorem. -/
import Derived.Test.YthkmpegpmpdhaaaQt
import Derived.Deep.CutRange
import Derived.StillTailTactics
import Derived.Lib.SliceRun
import Derived.RangeFuncRecord
import Derived.Carry
import Derived.ChangeKeysEq
import Derived.Shelf.SlSortCmp.Insertion1
import Derived.Shelf.Lay
import Derived.Ground.SlsfProg
import Derived.Sort.LotA
import Derived.Test.YthkmpegpmpdhaaaRows
import Derived.WalkKit
import Derived.WalkSpells
import Derived.WalkLawsBesides
import Derived.Laws.EntriesVeiled
import Derived.ProofKit
import Derived.OpenShut
import Derived.Lib.Hide
import Derived.BigQuiet
import Derived.Deep.QuietTactic
import Derived.Below
import Derived.Laws.OwnMore
import Derived.Deep.AppendLies
import Derived.Deep.Draws
import Derived.Laws.Rows
import Derived.Maps.AppendAt
import Derived.RegionTactic
import Derived.OwnWalk
import Derived.Deep.RegionHeld3
namespace Go.Proofs.Ythkmpegpmpdhaaa
open Go.Shelf Go.Sort Go.ChangeShapes Go.WideShapes Go.ChangeAt Go.RowKit
set_option linter.unusedSimpArgs false
set_option linter.unusedVariables false
theorem own_setI {w0 w : World} {g n cap : Nat} {l : List Int} (h : OwnR intR w0 w (.slice (some ⟨g, 0, none⟩) n cap) l) {j : Nat} (y : Int) (hj : j < l.length) : OwnR intR w0 (w.setCell ⟨g, j, none⟩ (.int .i64 y)) (.slice (some ⟨g, 0, none⟩) n cap) (l.set j y) := by
  have := OwnR.put (R := intR) (fun _ => rfl) h (j := j) (i := 0) (x := at0 l j) (x' := y) (u := .int .i64 y) (get_at0 hj) (by decide) rfl
  simpa using this
theorem own_cellI {w0 w : World} {g n cap : Nat} {l : List Int} (h : OwnR intR w0 w (.slice (some ⟨g, 0, none⟩) n cap) l) {j : Nat} (hj : j < l.length) : w.cell? ⟨g, j, none⟩ = some (.int .i64 (at0 l j)) := by
  obtain ⟨b, off, e, _, hc⟩ := (h.recs intOk).1.int (get_at0 hj)
  cases e
  simpa using hc
def WritePost (ts : List Int) (tb n cap : Nat) (w0 w : World) (e : Ending) (w' : World) : Prop := e = .returned (.tuple #[]) ∧ OwnR intR w0 w' (.slice (some ⟨tb, 0, none⟩) n cap) ts ∧ w.grownBy w' (some tb)
theorem write_any (u : UnC) (ts : List Int) (tb n cap : Nat) (t : Int) (w0 w : World) (hO : OwnR intR w0 w (.slice (some ⟨tb, 0, none⟩) n cap) ts) (hu : u.1 < n) (hn : n ≤ 1000000) :
    Calls Try.prog 98 #[unA u, .slice (some ⟨tb, 0, none⟩) n cap, .int .i64 t] w (WritePost (ts.set u.1 t) tb n cap w0 w) := by
  obtain ⟨i, ⟨o, lo, hi⟩, hA, hq, hc⟩ := u
  unfold unA
  simp only [hdV] at hu ⊢
  have hl : ts.length = n := (hO.recs intOk).2.symm
  have kA : Keeps w (w.alloc (.cells #[.int .i64 (i : Int), .int .i64 o, .int .i64 lo, .int .i64 hi, .slice hA hq hc] 118)) := (Keeps.refl w).alloc _
  have O1 := Lib.hid (hO.keep kA)
  have G1 := Lib.hid (grown_of_keeps kA (some tb))
  have B1 := Lib.hid (Blk.new w 118 #[.int .i64 (i : Int), .int .i64 o, .int .i64 lo, .int .i64 hi, .slice hA hq hc])
  have HL := Lib.hid hl
  clear hO kA hl
  go_enter Try.func98, Try.ntmps98
  go_upto_region 1 with fail
  generalize w.alloc (.cells #[.int .i64 (i : Int), .int .i64 o, .int .i64 lo, .int .i64 hi, .slice hA hq hc] 118) = W1 at *
  have b0 : W1.cell? ⟨_, 0, none⟩ = some (.int .i64 (i : Int)) := B1.out.cell 0
  have s0 := own_cellI O1.out (j := i) (by rw [HL.out]; exact hu)
  have f0 := O1.out.frozen i
  have i01 : (0 : Int) ≤ (i : Int) ∧ (i : Int) < (n : Int) := ⟨by omega, by omega⟩
  go_wp2_with fail
  go_end0
  exact ⟨rfl, own_setI O1.out t (by rw [HL.out]; exact hu), grown_set G1.out i _⟩
/-- What Fit answers. -/
def FitPost (d : List (List Int)) (l : List EvC) (w : World) (e : Ending) (w' : World) : Prop :=
  (∃ A n c, e = .returned (.tuple #[.slice A n c, .bool false]) ∧ Keeps w w' ∧ ∀ f s, winB (unitsC l) = true → precJ d (plainU (sortU (unitsC l))) l.length = some f → quickK d (plainU (sortU (unitsC l))) f l.length = some s → False) ∨
  (∃ s A n c, e = .returned (.tuple #[.slice A n c, .bool true]) ∧ Hid (n = l.length) ∧ RecIn intR w' w'.heap.size A (timesF d (plainU (sortU (unitsC l))) l.length s) ∧ Keeps w w' ∧ winB (unitsC l) = true ∧ okP d (plainU (sortU (unitsC l))) s ∧ s.length = l.length ∧
    ∀ f s', precJ d (plainU (sortU (unitsC l))) l.length = some f → quickK d (plainU (sortU (unitsC l))) f l.length = some s' → s = s')
def QuickPost (o : Option (List Nat)) (w : World) (e : Ending) (w' : World) : Prop :=
  match o with
  | none => ∃ A n c, e = .returned (.tuple #[.slice A n c, .bool false]) ∧ Keeps w w'
  | some l => ∃ A n c, e = .returned (.tuple #[.slice A n c, .bool true]) ∧ Hid (n = l.length) ∧ RecIn natR w' w'.heap.size A l ∧ Keeps w w'
theorem quick_is (d : List (List Int)) (us : List UnC) (f : List Nat) (g : Nat) (dA uA fA : Option Addr) (dc uc fc : Nat) (w : World) (hs : SrIn d us w g dA uA dc uc (.slice fA us.length fc)) (hf : RecIn mkR w w.heap.size fA f) (hM : MasksOk us.length f)
    (hn16 : us.length < 16) (hd : DistOk d) (ho : ∀ u ∈ us, isOff d u.2.1.o) (o : Option (List Nat)) (hq : Hid (quickK d (plainU us) f us.length = o)) :
    Calls Try.prog 39 #[.pointer (some ⟨g, 0, none⟩)] w (QuickPost o w) := by
  have h := quick_any d us f g dA uA fA dc uc fc w hs hf hM hn16 hd ho
  rw [hq.out] at h
  refine h.mono fun e w' hp => ?_
  cases o with
  | none => exact hp
  | some l =>
    obtain ⟨A, c, e1, e2, e3⟩ := hp
    exact ⟨A, _, c, e1, Lib.hid rfl, e2, e3⟩
def FullQ (d : List (List Int)) (us : List UnC) (w : World) (e : Ending) (w' : World) : Prop := ∃ A n c b, e = .returned (.tuple #[.slice A n c, .bool b]) ∧ Keeps w w' ∧ (b = true → ∃ l, n = l.length ∧ RecIn natR w' w'.heap.size A l ∧ okP d (plainU us) l ∧ l.length = us.length)
theorem full_is (d : List (List Int)) (us : List UnC) (f : List Nat) (g : Nat) (dA uA fA : Option Addr) (dc uc fc : Nat) (w : World) (hs : SrIn d us w g dA uA dc uc (.slice fA us.length fc)) (hf : RecIn mkR w w.heap.size fA f) (hM : MasksOk us.length f)
    (hn16 : us.length < 16) (hd : DistOk d) (hd12 : d.length ≤ 12) (ho : ∀ u ∈ us, isOff d u.2.1.o) :
    Calls Try.prog 40 #[.pointer (some ⟨g, 0, none⟩)] w (FullQ d us w) := by
  refine (full_any d us f g dA uA fA dc uc fc w hs hf hM hn16 hd hd12 ho).mono fun e w' hp => ?_
  obtain ⟨o, h1, h2⟩ := hp
  cases o with
  | none =>
    obtain ⟨A, n, c, e1, e2⟩ := h1
    exact ⟨A, n, c, false, e1, e2, fun h => by cases h⟩
  | some l =>
    obtain ⟨A, c, e1, e2, e3⟩ := h1
    exact ⟨A, _, c, true, e1, e3, fun _ => ⟨l, rfl, e2, (h2 l rfl).1, (h2 l rfl).2⟩⟩
theorem split_is (l : List EvC) (dA eA : Option Addr) (dn dc ec : Nat) (w : World) (he : RecIn evR w w.heap.size eA l) (n : Nat) (hln : Hid (n = l.length)) (hn : n ≤ 15) (h : winB (unitsC l) = true) (us : List UnC) (hus : Hid (sortU (unitsC l) = us)) :
    Calls Try.prog 37 #[.slice dA dn dc, .slice eA n ec, .slice none 0 0] w fun e w' => ∃ A m c, e = .returned (.tuple #[.slice A m c, .bool true]) ∧ Hid (m = us.length) ∧ RecIn unR w' w'.heap.size A us ∧ Keeps w w' := by
  refine (split_any l dA eA dn dc ec w he n hln hn).mono fun e w' hp => ?_
  unfold SplitPost at hp
  rw [if_pos h, hus.out] at hp
  obtain ⟨A, m, c, e1, e2, e3, e4⟩ := hp
  refine ⟨A, m, c, e1, Lib.hid ?_, e3, e4⟩
  rw [e2.out, ← hus.out, (sortU_is _).2]
theorem split_bad (l : List EvC) (dA eA : Option Addr) (dn dc ec : Nat) (w : World) (he : RecIn evR w w.heap.size eA l) (n : Nat) (hln : Hid (n = l.length)) (hn : n ≤ 15) (h : winB (unitsC l) = false) :
    Calls Try.prog 37 #[.slice dA dn dc, .slice eA n ec, .slice none 0 0] w fun e w' => ∃ A m c, e = .returned (.tuple #[.slice A m c, .bool false]) ∧ Keeps w w' := by
  refine (split_any l dA eA dn dc ec w he n hln hn).mono fun e w' hp => ?_
  unfold SplitPost at hp
  rw [h] at hp
  exact hp
/-- What is known of the units of well-formed events. -/
theorem units_off {d : List (List Int)} {l : List EvC} (ho : ∀ e ∈ l, isOff d e.1.o) : ∀ u ∈ sortU (unitsC l), isOff d u.2.1.o := fun u hu => by
  have h1 := (sortU_is (unitsC l)).1.mem_iff.1 hu
  obtain ⟨k, hk⟩ := List.getElem?_of_mem h1
  have hkl : k < l.length := by have := (List.getElem?_eq_some_iff.1 hk).1; rwa [unitsC_len] at this
  rw [unitsC_at (List.getElem?_eq_getElem hkl)] at hk
  injection hk with hk
  subst hk
  exact ho _ (List.getElem_mem hkl)
theorem units_ok (l : List EvC) : UnitsOk (l.map (·.1)) (plainU (sortU (unitsC l))) := by
  have h0 : UnitsOk (l.map (·.1)) (plainU (unitsC l)) := by
    refine ⟨by rw [plainU_len, unitsC_len]; simp, fun k i e hk => ?_, ?_⟩
    · have hkl : k < l.length := by have := (List.getElem?_eq_some_iff.1 hk).1; rwa [plainU_len, unitsC_len] at this
      have hx := List.getElem?_eq_getElem hkl
      rw [(plainU_at (unitsC_at hx)).2.2] at hk
      injection hk with hk
      injection hk with h1 h2
      subst h1 h2
      simp [hkl]
    · have : (plainU (unitsC l)).map (·.1) = List.range l.length := by
        refine List.ext_getElem? fun k => ?_
        by_cases hkl : k < l.length
        · rw [List.getElem?_map, (plainU_at (unitsC_at (List.getElem?_eq_getElem hkl))).2.2]
          simp [hkl]
        · rw [List.getElem?_eq_none (by simp [plainU_len, unitsC_len]; omega), List.getElem?_eq_none (by simp; omega)]
      rw [this]
      exact List.nodup_range
  exact h0.perm ((sortU_is (unitsC l)).1.map _)
theorem win_ev {l : List EvC} (h : winB (unitsC l) = true) : ∀ e ∈ l.map (·.1), clampLo e ≤ clampHi e := fun e he => by
  obtain ⟨x, hx, rfl⟩ := List.mem_map.1 he
  obtain ⟨k, hk⟩ := List.getElem?_of_mem hx
  unfold winB at h
  rw [List.all_eq_true] at h
  simpa using h _ (List.mem_of_getElem? (unitsC_at hk))
/-- Fit's times are possible. -/
theorem fit_holds {d : List (List Int)} {l : List EvC} (hd : DistOk d) (ho : ∀ e ∈ l, isOff d e.1.o) (hw : winB (unitsC l) = true) {s : List Nat} (hp : okP d (plainU (sortU (unitsC l))) s) (hs : s.length = l.length) :
    HoldsP d (l.map (·.1)) (timesF d (plainU (sortU (unitsC l))) l.length s) := by
  have := path_holds hd (fun e he => by obtain ⟨x, hx, rfl⟩ := List.mem_map.1 he; exact ho x hx) (win_ev hw) (units_ok l) hp (by rw [plainU_len, (sortU_is _).2, unitsC_len]; exact hs)
  simpa using this
end Go.Proofs.Ythkmpegpmpdhaaa
