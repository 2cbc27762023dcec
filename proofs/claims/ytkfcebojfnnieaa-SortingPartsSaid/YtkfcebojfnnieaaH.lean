import Derived.Test.YtkfcebojfnnieaaG
import Derived.Test.YtkfcebojfnnieaaRows
import Derived.WalkKit
import Derived.WalkSpells
import Derived.WalkLawsBesides
import Derived.Laws.EntriesVeiled
import Derived.ProofKit
import Derived.OpenShut
import Derived.Lib.Hide
import Derived.BigQuiet
import Derived.Deep.QuietTactic
import Derived.Below
import Derived.Laws.OwnMore
import Derived.Deep.AppendLies
import Derived.Deep.Draws
import Derived.Laws.Rows
import Derived.Maps.AppendAt
import Derived.RegionTactic
import Derived.OwnWalk
import Derived.Deep.RegionHeld3
namespace Go.Proofs.Ytkfcebojfnnieaa
open Go.ChangeShapes Go.WideShapes Go.ChangeAt Go.RowKit
set_option linter.unusedSimpArgs false
set_option linter.unusedVariables false
def okRow (P : Int) (n : Nat) (r : List Int) : Bool := decide (r.length = n) && rowB r P
def wid (s : List (List Int)) : Nat := (s.headD []).length
def formedB (P : Int) (s : List (List Int)) : Bool := machB P && ((decide (1 ≤ s.length) && decide (s.length ≤ 4)) && (decide (wid s ≤ 2000) && s.all (okRow P (wid s))))
def okRun (P : Int) (s : List (List Int)) (d : List Int) : Bool := formedB P s && rowB d (wid s : Int)
theorem wid_of {s : List (List Int)} {r : List Int} (h : s[0]? = some r) : wid s = r.length := by
  cases s with
  | nil => simp at h
  | cons a s => simp at h; subst h; rfl
theorem formed_bad {P : Int} {s : List (List Int)} {k : Nat} {r : List Int} (hx : s[k]? = some r) (h : okRow P (wid s) r = false) : formedB P s = false := by
  have : s.all (okRow P (wid s)) = false := by rw [List.all_eq_false]; exact ⟨r, List.mem_of_getElem? hx, by simp [h]⟩
  simp [formedB, this]
theorem formed_take {P : Int} {s : List (List Int)} {n k : Nat} {r : List Int} (h : (s.take k).all (okRow P n) = true) (hx : s[k]? = some r) (hr : okRow P n r = true) : (s.take (k + 1)).all (okRow P n) = true := by
  rw [List.take_add_one, hx, List.all_append, h]; simp [hr]
theorem formed_all {P : Int} {s : List (List Int)} {k : Nat} (h : (s.take k).all (okRow P (wid s)) = true) (hk : s.length ≤ k) (h1 : machB P = true) (h2 : 1 ≤ s.length) (h3 : s.length ≤ 4) (h4 : wid s ≤ 2000) : formedB P s = true := by
  rw [List.take_of_length_le hk] at h; simp [formedB, h, h1, h2, h3, h4]
theorem run_bad {P : Int} {s : List (List Int)} {d : List Int} (h : formedB P s = false) : okRun P s d = false := by simp [okRun, h]
set_option maxHeartbeats 4000000 in
theorem runs_any (P : Int) (s : List (List Int)) (d : List Int) (A B : Option Addr) (n c n' c' : Nat) (w : World) (hs : NumRows w w.heap.size A s) (hd : Nums .i64 w w.heap.size B d) (hn : s.length ≤ 1000) (hr : ∀ r ∈ s, r.length ≤ 5000) (hn' : d.length ≤ 5000) (hln : n = s.length) (hlm : n' = d.length)
    (r : Bool) (he : okRun P s d = r) : Calls Try.prog 31 #[.int .i64 P, .slice A n c, .slice B n' c'] w (BoolPost r w) := by
  have HE := Lib.hid he; clear he
  have h1 : n ≤ 1000 := by omega
  have h2 : n' ≤ 5000 := by omega
  have HN := Lib.hid hln; clear hln
  have HM := Lib.hid hlm; clear hlm
  have HRR := Lib.hid hr; clear hr
  have t1 : decide (5000 < n') = false := by simp; omega
  have t1' : decide ((5000 : Int) < (n' : Int)) = false := by simp; omega
  cases hm : machB P
  · have E := Lib.hid (show okRun P s d = false by simp [okRun, formedB, hm])
    have HH := Lib.hid hm; clear hm
    go_enter Try.func31, Try.ntmps31
    go_wp2_with (go_at_call 29; (with_reducible refine (machine_any _ _ false HH.out).mono ?_); rintro e w' ⟨rfl, rfl⟩)
    go_ret
    exact bool_post (HE.out.symm.trans E.out) (Keeps.refl _)
  have HH := Lib.hid hm; clear hm
  by_cases p1 : n < 1
  · have E := Lib.hid (show okRun P s d = false by have := HN.out; simp [okRun, formedB]; intros; omega)
    have p1' : decide (n < 1) = true := by simpa using p1
    have p1'' : decide ((n : Int) < 1) = true := by simp; omega
    go_enter Try.func31, Try.ntmps31
    go_wp2_with (go_at_call 29; (with_reducible refine (machine_any _ _ true HH.out).mono ?_); rintro e w' ⟨rfl, rfl⟩)
    go_ret
    exact bool_post (HE.out.symm.trans E.out) (Keeps.refl _)
  have p1' : decide (n < 1) = false := by simpa using p1
  have p1'' : decide ((n : Int) < 1) = false := by simp; omega
  by_cases p2 : 4 < n
  · have E := Lib.hid (show okRun P s d = false by have := HN.out; simp [okRun, formedB]; intros; omega)
    have p2' : decide (4 < n) = true := by simpa using p2
    have p2'' : decide ((4 : Int) < (n : Int)) = true := by simp; omega
    go_enter Try.func31, Try.ntmps31
    go_wp2_with (go_at_call 29; (with_reducible refine (machine_any _ _ true HH.out).mono ?_); rintro e w' ⟨rfl, rfl⟩)
    go_ret
    exact bool_post (HE.out.symm.trans E.out) (Keeps.refl _)
  have p2' : decide (4 < n) = false := by simpa using p2
  have p2'' : decide ((4 : Int) < (n : Int)) = false := by simp; omega
  have ho0 : s[0]? = some (s[0]'(by rw [← HN.out]; omega)) := List.getElem?_eq_getElem _
  generalize s[0]'(by rw [← HN.out]; omega) = r0 at ho0
  have hw0 := wid_of ho0
  obtain ⟨m, hmw⟩ : ∃ m, m = r0.length := ⟨_, rfl⟩
  rw [← hmw] at hw0
  obtain ⟨b, off, A', c1, rfl, hb, c0, hx0⟩ := hs 0 r0 ho0
  rw [← hmw] at c0
  rw [Nat.add_zero] at c0
  have HW := Lib.hid hw0; have HO0 := Lib.hid ho0; have HX0 := Lib.hid hx0
  clear hw0 ho0 hx0 hmw
  by_cases p3 : 2000 < m
  · have E := Lib.hid (show okRun P s d = false by have := HW.out; simp [okRun, formedB]; intros; omega)
    have p3' : decide (2000 < m) = true := by simpa using p3
    have p3'' : decide ((2000 : Int) < (m : Int)) = true := by simp; omega
    go_enter Try.func31, Try.ntmps31
    go_wp2_with (go_at_call 29; (with_reducible refine (machine_any _ _ true HH.out).mono ?_); rintro e w' ⟨rfl, rfl⟩)
    go_ret
    exact bool_post (HE.out.symm.trans E.out) (Keeps.refl _)
  have p3' : decide (2000 < m) = false := by simpa using p3
  have p3'' : decide ((2000 : Int) < (m : Int)) = false := by simp; omega
  have hz1 : 0 < n := by omega
  have hz2 : (0 : Int) < (n : Int) := by omega
  go_enter Try.func31, Try.ntmps31
  go_wp2_with (go_at_call 29; (with_reducible refine (machine_any _ _ true HH.out).mono ?_); rintro e w' ⟨rfl, rfl⟩)
  go_loopw [9, 36] (fun _ i wr => ∃ k : Nat, k ≤ n ∧ i = .int .i64 (k : Int) ∧ Keeps w wr ∧ (s.take k).all (okRow P m) = true) (fun _ i _ => n - (intOf i).toNat)
  case atStart => exact ⟨0, by omega, rfl, Keeps.refl _, by simp⟩
  case round =>
    clear c0
    obtain ⟨k, hk, rfl, hK, hf⟩ := hrel
    have HF := Lib.hid hf; clear hf
    by_cases hkn : k < n
    · have hok : s[k]? = some (s[k]'(by rw [← HN.out]; exact hkn)) := List.getElem?_eq_getElem _
      generalize s[k]'(by rw [← HN.out]; exact hkn) = x at hok
      have hlx := HRR.out x (List.mem_of_getElem? hok)
      obtain ⟨b2, off2, A2, c2, he, hb2, cx, hx⟩ := (hs.keep hK) k x hok
      injection he with he; injection he with e1 e2; subst e1; subst e2
      obtain ⟨q, hq⟩ : ∃ q, q = x.length := ⟨_, rfl⟩
      rw [← hq] at cx hlx
      have HX := Lib.hid hx; have HO := Lib.hid hok; have HQ := Lib.hid hq
      clear hx hok hq
      have hki : (k : Int) < (n : Int) := by omega
      have hk0 : (0 : Int) ≤ (k : Int) := by omega
      have hkw : IntKind.i64.wrap ((k : Int) + 1) = (k : Int) + 1 := IntWalk.i64_in _ (by omega)
      by_cases hqm : q = m
      · subst hqm
        have u1 : ((q : Int) != (q : Int)) = false := by simp
        have u2 : (q != q) = false := by simp
        have hx5 : x.length ≤ 5000 := by rw [← HQ.out]; exact hlx
        cases hr1 : rowB x P
        · have E := Lib.hid (run_bad (d := d) (formed_bad (P := P) HO.out (by simp [okRow, hr1])))
          have HR1 := Lib.hid hr1; clear hr1
          go_wp2_with (go_at_call 35; (with_reducible refine (below_is x A2 _ _ P _ HX.out hx5 HQ false HR1).mono ?_); rintro e w1 ⟨rfl, hk1⟩)
          go_ret
          exact bool_post (HE.out.symm.trans E.out) (hK.trans hk1)
        · have HT := Lib.hid (formed_take HF.out HO.out (by simp [okRow, hr1, ← HQ.out]))
          have HR1 := Lib.hid hr1; clear hr1
          go_wp2_with (go_at_call 35; (with_reducible refine (below_is x A2 _ _ P _ HX.out hx5 HQ true HR1).mono ?_); rintro e w1 ⟨rfl, hk1⟩)
          go_roundw
          case rel => exact ⟨k + 1, by omega, by go_num, hK.trans hk1, HT.out⟩
          case measure => simp [intOf]; omega
      · have u1 : ((q : Int) != (m : Int)) = true := by simp; omega
        have u2 : (q != m) = true := by simp; omega
        have u3 : (q == m) = false := by simp; omega
        have E := Lib.hid (run_bad (d := d) (formed_bad (P := P) HO.out (by simp [okRow, ← HQ.out, HW.out]; intro h; omega)))
        go_wp2_with fail
        go_ret
        exact bool_post (HE.out.symm.trans E.out) hK
    · obtain rfl : k = n := by omega
      have HFT := Lib.hid (show formedB P s = true from formed_all (k := k) (by rw [HW.out]; exact HF.out) (by rw [← HN.out]; omega) HH.out (by rw [← HN.out]; omega) (by rw [← HN.out]; omega) (by rw [HW.out]; omega))
      have HR := Lib.hid (show rowB d (m : Int) = r by have := HE.out; simp only [okRun, HFT.out, HW.out, Bool.true_and] at this; exact this)
      go_wp2_with (go_at_call 35; (with_reducible refine (below_is d B _ _ m _ (hd.keep hK) hn' HM r HR).mono ?_); rintro e w1 ⟨rfl, hk1⟩)
      go_ret
      exact bool_post rfl (hK.trans hk1)
theorem row_is' (l : List Int) (A : Option Addr) (c : Nat) (m : Int) (w : World) (hl : Nums .i64 w w.heap.size A l) (hn : l.length ≤ 5000) (n : Nat) (hln : Hid (n = l.length)) (r : Bool) (hr : Hid (rowB l m = r)) :
    Calls Try.prog 34 #[.slice A n c, .int .i64 m] w fun e w' => e = .returned (.bool r) ∧ Keeps w w' := row_any l A n c m w hl (by omega) hln.out r hr.out
set_option maxHeartbeats 4000000 in
theorem formed_any (P : Int) (s : List (List Int)) (A : Option Addr) (n c : Nat) (w : World) (hs : NumRows w w.heap.size A s) (hn : s.length ≤ 1000) (hr : ∀ r ∈ s, r.length ≤ 5000) (hln : n = s.length)
    (r : Bool) (he : formedB P s = r) : Calls Try.prog 28 #[.int .i64 P, .slice A n c] w (BoolPost r w) := by
  have HE := Lib.hid he; clear he
  have h1 : n ≤ 1000 := by omega
  have HN := Lib.hid hln; clear hln
  have HRR := Lib.hid hr; clear hr
  by_cases q1 : P < 2
  · have E := Lib.hid (show formedB P s = false by simp [formedB, machB]; intros; omega)
    have q1' : decide (P < 2) = true := by simpa using q1
    go_enter Try.func28, Try.ntmps28
    go_wp2_with fail
    go_ret
    exact bool_post (HE.out.symm.trans E.out) (Keeps.refl _)
  have q1' : decide (P < 2) = false := by simpa using q1
  by_cases q2 : 64 < P
  · have E := Lib.hid (show formedB P s = false by simp [formedB, machB]; intros; omega)
    have q2' : decide (64 < P) = true := by simpa using q2
    go_enter Try.func28, Try.ntmps28
    go_wp2_with fail
    go_ret
    exact bool_post (HE.out.symm.trans E.out) (Keeps.refl _)
  have q2' : decide (64 < P) = false := by simpa using q2
  have HH := Lib.hid (show machB P = true by simp [machB]; omega)
  by_cases p1 : n < 1
  · have E := Lib.hid (show formedB P s = false by have := HN.out; simp [formedB]; intros; omega)
    have p1' : decide (n < 1) = true := by simpa using p1
    have p1'' : decide ((n : Int) < 1) = true := by simp; omega
    go_enter Try.func28, Try.ntmps28
    go_wp2_with fail
    go_ret
    exact bool_post (HE.out.symm.trans E.out) (Keeps.refl _)
  have p1' : decide (n < 1) = false := by simpa using p1
  have p1'' : decide ((n : Int) < 1) = false := by simp; omega
  by_cases p2 : 4 < n
  · have E := Lib.hid (show formedB P s = false by have := HN.out; simp [formedB]; intros; omega)
    have p2' : decide (4 < n) = true := by simpa using p2
    have p2'' : decide ((4 : Int) < (n : Int)) = true := by simp; omega
    go_enter Try.func28, Try.ntmps28
    go_wp2_with fail
    go_ret
    exact bool_post (HE.out.symm.trans E.out) (Keeps.refl _)
  have p2' : decide (4 < n) = false := by simpa using p2
  have p2'' : decide ((4 : Int) < (n : Int)) = false := by simp; omega
  have ho0 : s[0]? = some (s[0]'(by rw [← HN.out]; omega)) := List.getElem?_eq_getElem _
  generalize s[0]'(by rw [← HN.out]; omega) = r0 at ho0
  have hw0 := wid_of ho0
  obtain ⟨m, hmw⟩ : ∃ m, m = r0.length := ⟨_, rfl⟩
  rw [← hmw] at hw0
  obtain ⟨b, off, A', c1, rfl, hb, c0, hx0⟩ := hs 0 r0 ho0
  rw [← hmw] at c0
  rw [Nat.add_zero] at c0
  have HW := Lib.hid hw0; have HX0 := Lib.hid hx0
  clear hw0 hx0
  have hm0 : m ≤ 5000 := by rw [hmw]; exact HRR.out _ (List.mem_of_getElem? ho0)
  have HO0 := Lib.hid ho0
  clear hmw ho0
  have HC0 := Lib.hid c0; clear c0
  have hz1 : 0 < n := by omega
  have hz2 : (0 : Int) < (n : Int) := by omega
  go_enter Try.func28, Try.ntmps28
  go_wp2_with fail
  go_loopw [5] (fun i wr => ∃ k : Nat, k ≤ n ∧ i = .int .i64 (k : Int) ∧ Keeps w wr ∧ (s.take k).all (okRow P m) = true ∧ (k = 0 ∨ m ≤ 2000)) (fun i _ => n - (intOf i).toNat)
  case atStart => exact ⟨0, by omega, rfl, Keeps.refl _, by simp, .inl rfl⟩
  case round =>
    obtain ⟨k, hk, rfl, hK, hf, hm2⟩ := hrel
    have HF := Lib.hid hf; clear hf
    have HM2 := Lib.hid hm2; clear hm2
    by_cases hkn : k < n
    · have hok : s[k]? = some (s[k]'(by rw [← HN.out]; exact hkn)) := List.getElem?_eq_getElem _
      generalize s[k]'(by rw [← HN.out]; exact hkn) = x at hok
      have hlx := HRR.out x (List.mem_of_getElem? hok)
      obtain ⟨b2, off2, A2, c2, he, hb2, cx, hx⟩ := (hs.keep hK) k x hok
      injection he with he; injection he with e1 e2; subst e1; subst e2
      obtain ⟨q, hq⟩ : ∃ q, q = x.length := ⟨_, rfl⟩
      rw [← hq] at cx hlx
      have HX := Lib.hid hx; have HO := Lib.hid hok; have HQ := Lib.hid hq
      clear hx hok hq
      have hki : (k : Int) < (n : Int) := by omega
      have hk0 : (0 : Int) ≤ (k : Int) := by omega
      have hkw : IntKind.i64.wrap ((k : Int) + 1) = (k : Int) + 1 := IntWalk.i64_in _ (by omega)
      have cy := cell_keep HC0.out hK
      have ax := After.cell cx hb2
      have ay := After.cell cy hb2
      by_cases hqm : q = m
      · subst hqm
        have u1 : ((q : Int) != (q : Int)) = false := by simp
        have u2 : (q != q) = false := by simp
        have hx5 : x.length ≤ 5000 := by rw [← HQ.out]; exact hlx
        by_cases h20 : 2000 < q
        · have E := Lib.hid (show formedB P s = false by have := HW.out; simp [formedB]; intros; omega)
          have p3' : decide (2000 < q) = true := by simpa using h20
          have p3'' : decide ((2000 : Int) < (q : Int)) = true := by simp; omega
          go_wp2_with fail
          go_quiet (fail)
          go_wp2_with fail
          go_ret
          exact bool_post (HE.out.symm.trans E.out) (hK.drewN _)
        have p3' : decide (2000 < q) = false := by simpa using h20
        have p3'' : decide ((2000 : Int) < (q : Int)) = false := by simp; omega
        clear cx cy
        cases hr1 : rowB x P
        · have E := Lib.hid (formed_bad (P := P) HO.out (by simp [okRow, hr1]))
          have HR1 := Lib.hid hr1; clear hr1
          go_wp2_with fail
          refine wp_region_after (by kernel_rfl) (by kernel_rfl) ?_
          repeat (go_big_quiet_step ((go_at_call 34; with_reducible exact after_call (row_is' x A2 _ P _ (HX.out.keep (After.ok _)) hx5 _ HQ false HR1))))
          refine wpQuiet_nil ?_
          intro _ hw'
          obtain ⟨⟨W1, hk1⟩, rfl⟩ := hw'
          go_wp2
          go_ret
          exact bool_post (HE.out.symm.trans E.out) (hK.trans hk1)
        · have HT := Lib.hid (formed_take HF.out HO.out (by simp [okRow, hr1, ← HQ.out]))
          have HR1 := Lib.hid hr1; clear hr1
          go_wp2_with fail
          refine wp_region_after (by kernel_rfl) (by kernel_rfl) ?_
          repeat (go_big_quiet_step ((go_at_call 34; with_reducible exact after_call (row_is' x A2 _ P _ (HX.out.keep (After.ok _)) hx5 _ HQ true HR1))))
          refine wpQuiet_nil ?_
          intro _ hw'
          obtain ⟨⟨W1, hk1⟩, rfl⟩ := hw'
          go_wp2
          go_roundw
          case rel => exact ⟨k + 1, by omega, by go_num, hK.trans hk1, HT.out, .inr (by omega)⟩
          case measure => simp [intOf]; omega
      · have u1 : ((q : Int) != (m : Int)) = true := by simp; omega
        have u2 : (q != m) = true := by simp; omega
        have u3 : (q == m) = false := by simp; omega
        have E := Lib.hid (formed_bad (P := P) HO.out (by simp [okRow, ← HQ.out, HW.out]; intro h; omega))
        go_wp2_with fail
        go_quiet (fail)
        go_wp2_with fail
        go_ret
        exact bool_post (HE.out.symm.trans E.out) (hK.drewN _)
    · obtain rfl : k = n := by omega
      have HFT := Lib.hid (show formedB P s = true from formed_all (k := k) (by rw [HW.out]; exact HF.out) (by rw [← HN.out]; omega) HH.out (by rw [← HN.out]; omega) (by rw [← HN.out]; omega) (by rw [HW.out]; have := HM2.out; omega))
      go_wp2_with fail
      go_ret
      exact bool_post (HE.out.symm.trans HFT.out) hK
theorem okRun_spec {P : Int} {s : List (List Int)} {d : List Int} (h : okRun P s d = true) : ∃ Q : Nat, P = (Q : Int) ∧ 2 ≤ Q ∧ Q ≤ 64 ∧ 1 ≤ s.length ∧ s.length ≤ 4 ∧ wid s ≤ 2000 ∧ schemeOk Q (wid s) s ∧ ∀ x ∈ d, 0 ≤ x ∧ x < (wid s : Int) := by
  simp only [okRun, formedB, machB, Bool.and_eq_true, decide_eq_true_eq] at h
  obtain ⟨⟨⟨h1, h2⟩, ⟨h3, h4⟩, h5, h6⟩, h7⟩ := h
  refine ⟨P.toNat, by omega, by omega, by omega, h3, h4, h5, fun r hr => ?_, fun x hx => row_mem h7 hx⟩
  have := List.all_eq_true.1 h6 r hr
  simp only [okRow, Bool.and_eq_true, decide_eq_true_eq] at this
  exact ⟨this.1, fun x hx => by have := row_mem this.2 hx; omega⟩
/-- A list and a number, memory kept. -/
def RunPost (l : List Int) (b : Int) (w : World) (e : Ending) (w' : World) : Prop := ∃ A c, e = .returned (.tuple #[.slice A l.length c, .int .i64 b]) ∧ Nums .i64 w' w'.heap.size A l ∧ Keeps w w'
theorem run_nil (b : Int) (w w' : World) (h : Keeps w w') : RunPost [] b w (.returned (.tuple #[.slice none 0 0, .int .i64 b])) w' := ⟨none, 0, rfl, fun k l h => by simp at h, h⟩
def runK (P : Nat) (s : List (List Int)) (d : List Int) (k : Nat) : List Int := runF P (s.take k) d
theorem runK_zero (P : Nat) (s : List (List Int)) (d : List Int) : runK P s d 0 = itemsF d.length := by simp [runK, runF]
theorem runK_succ {P : Nat} {s : List (List Int)} {d p : List Int} {k : Nat} (h : s[k]? = some p) : runK P s d (k + 1) = passF P (keyF p d) (runK P s d k) := by
  unfold runK; rw [List.take_add_one, h]; exact runF_append ..
theorem runK_all {P : Nat} {s : List (List Int)} {d : List Int} {k : Nat} (h : s.length ≤ k) : runK P s d k = runF P s d := by unfold runK; rw [List.take_of_length_le h]
theorem runK_le (P : Nat) (s : List (List Int)) (d : List Int) : ∀ k, (runK P s d k).length ≤ d.length
  | 0 => by simp [runK_zero, itemsF]
  | k + 1 => by
    cases h : s[k]? with
    | none =>
      rw [List.getElem?_eq_none_iff] at h
      have e : runK P s d (k + 1) = runK P s d k := by unfold runK; rw [List.take_of_length_le (by omega), List.take_of_length_le h]
      rw [e]; exact runK_le P s d k
    | some p => rw [runK_succ h]; exact Nat.le_trans (passF_len_le _ _ _) (runK_le P s d k)
theorem runK_sub {P : Nat} {s : List (List Int)} {d : List Int} {k : Nat} {x : Int} (h : x ∈ runK P s d k) : 0 ≤ x ∧ x < (d.length : Int) := runF_sub h
theorem at_row_ok {P n : Nat} {r : List Int} {x : Int} (h : r.length = n ∧ ∀ x ∈ r, 0 ≤ x ∧ x < (P : Int)) (h0 : 0 ≤ x) (h1 : x < (n : Int)) : 0 ≤ at' r x ∧ at' r x < (P : Int) := by
  have hl : x.toNat < r.length := by omega
  unfold at'
  rw [List.getD_eq_getElem?_getD, List.getElem?_eq_getElem hl, Option.getD_some]
  exact h.2 _ (List.getElem_mem hl)
theorem items_row {w : World} {g n : Nat} (h : w.rowIs g 3 n (fun i => if i < n then .int .i64 (i : Int) else .int .i64 0)) : Nums .i64 w w.heap.size (some ⟨g, 0, none⟩) (itemsF n) := by
  refine Nums.of_row (f := fun i => (i : Int)) (h.congr (fun i hi => by rw [if_pos hi])) (by simp [itemsF]) ?_
  intro k x hx
  have hk : k < n := by have := (List.getElem?_eq_some_iff.1 hx).1; simpa [itemsF] using this
  have : x = (k : Int) := by simpa [itemsF, hk] using hx.symm
  exact this
set_option maxHeartbeats 4000000 in
set_option maxRecDepth 100000 in
theorem srun_any (P : Int) (s : List (List Int)) (d : List Int) (A B : Option Addr) (n c n' c' : Nat) (w : World) (hs : NumRows w w.heap.size A s) (hd : Nums .i64 w w.heap.size B d) (hn : s.length ≤ 1000) (hr : ∀ r ∈ s, r.length ≤ 5000) (hn' : d.length ≤ 5000) (hln : n = s.length) (hlm : n' = d.length) :
    Calls Try.prog 17 #[.int .i64 P, .slice A n c, .slice B n' c'] w (if okRun P s d then RunPost (runF P.toNat s d) 0 w else RunPost [] 1 w) := by
  have h1 : n ≤ 1000 := by omega
  have h2 : n' ≤ 5000 := by omega
  have HN := Lib.hid hln
  have HM := Lib.hid hlm
  have HRR := Lib.hid hr
  have hb := Blk.new w 22 #[.slice B n' c']
  have hk0 : Keeps w (w.alloc (.cells #[.slice B n' c'] 22)) := (Keeps.refl w).alloc _
  have HS := Lib.hid (hs.keep hk0); have HD := Lib.hid (hd.keep hk0); have HB := Lib.hid hb; have HK := Lib.hid hk0
  clear hs hd hk0 hb
  cases hok : okRun P s d
  · rw [if_neg (by simp)]
    have hr1 := runs_any P s d A B n c n' c' _ HS.out HD.out hn hr hn' hln hlm false hok
    have HR1 := Lib.hid hr1
    clear hln hlm hr hr1 hok
    go_enter Try.func17, Try.ntmps17
    go_wp2_with (go_at_call 31; (with_reducible refine HR1.out.mono ?_); rintro e w1 ⟨rfl, hk1⟩)
    go_ret2
    exact run_nil _ _ _ (HK.out.trans hk1)
  · rw [if_pos rfl]
    obtain ⟨Q, rfl, q1, q2, q3, q4, q5, q6, q7⟩ := okRun_spec hok
    have hr1 := runs_any Q s d A B n c n' c' _ HS.out HD.out hn hr hn' hln hlm true hok
    have HR1 := Lib.hid hr1
    have Q6 := Lib.hid q6; have Q7 := Lib.hid q7
    clear hln hlm hr hr1 hok q6 q7
    have hmk := run_make_row' (P := Try.prog) 53 3 (.int .i64 0) 8 Try.underlying53 info3' rfl .i64 .i64 n' (by omega) (by omega)
    go_enter Try.func17, Try.ntmps17
    go_wp2_with (go_at_call 31; (with_reducible refine HR1.out.mono ?_); rintro e w1 ⟨rfl, hk1⟩; have c1 : w1.cell? ⟨w.heap.size, 0, none⟩ = some (.slice B n' c') := (HB.out.below hk1 HB.out.lt).cell 0)
    clear hmk
    have HB1 := Lib.hid (HB.out.below hk1 HB.out.lt)
    have HS1 := Lib.hid (HS.out.keep hk1); have HD1 := Lib.hid (HD.out.keep hk1); have HK1 := Lib.hid (HK.out.trans hk1)
    clear hk1 c1
    have hrow0 := (World.rowIs_made w1 (.int .i64 0) n' 3).congr (g := fun i => if i < 0 then .int .i64 (i : Int) else .int .i64 0) (fun i _ => by simp)
    have hka : Keeps w1 (w1.alloc (.cells (madeCells #[.int .i64 0] n') 3)) := (Keeps.refl w1).alloc _
    go_loopw [9, 22] (fun _ i wr => ∃ k : Nat, k ≤ n' ∧ i = .int .i64 (k : Int) ∧ wr.rowIs w1.heap.size 3 n' (fun i => if i < k then .int .i64 (i : Int) else .int .i64 0) ∧ Keeps w1 wr) (fun _ i _ => n' - (intOf i).toNat)
    case atStart => exact ⟨0, by omega, rfl, hrow0, hka⟩
    case round =>
      clear hrow0 hka
      obtain ⟨k, hk, rfl, hrow, hK⟩ := hrel
      by_cases hkn : k < n'
      · have r1 := hrow.cell hkn
        have r2 := hrow.frozen k
        have hrow1 := (hrow.set k (.int .i64 (k : Int))).congr (g := fun i => if i < k + 1 then .int .i64 (i : Int) else .int .i64 0) (fun i _ => by
          by_cases e : i = k
          · subst e; simp
          · rw [if_neg e]
            by_cases hlt : i < k
            · rw [if_pos hlt, if_pos (by omega)]
            · rw [if_neg hlt, if_neg (by omega)])
        have hK1 : Keeps w1 (wr.setCell ⟨w1.heap.size, k, none⟩ (.int .i64 (k : Int))) := hK.setCell (Nat.le_refl _) _
        have R1 := Lib.hid hrow1; have R2 := Lib.hid hK1
        clear hrow hrow1 hK hK1
        have hki : (k : Int) < (n' : Int) := by omega
        have hkw : IntKind.i64.wrap ((k : Int) + 1) = (k : Int) + 1 := IntWalk.i64_in _ (by omega)
        rw [if_neg (by omega)] at r1
        go_wp2_with fail
        go_roundw
        case rel => exact ⟨k + 1, by omega, by go_num, R1.out, R2.out⟩
        case measure => simp [intOf]; omega
      · obtain rfl : k = n' := by omega
        have HI := Lib.hid (items_row hrow)
        rw [HM.out, ← runK_zero Q s] at HI
        have HKK := Lib.hid hK
        clear hrow hK
        go_wp2_with fail
        go_loopw [8, 11, 32] (fun v _ i wi => ∃ (j m : Nat) (A1 : Option Addr) (c1 : Nat), j ≤ n ∧ i = .int .i64 (j : Int) ∧ m = (runK Q s d j).length ∧ v = .slice A1 m c1 ∧ Nums .i64 wi wi.heap.size A1 (runK Q s d j) ∧ Keeps w1 wi) (fun _ _ i _ => n - (intOf i).toNat)
        case atStart => exact ⟨0, k, _, _, by omega, rfl, by rw [runK_zero]; simp [itemsF, HM.out], rfl, HI.out, HKK.out⟩
        case round =>
          clear HI HKK
          obtain ⟨j, m, A1, c1, hj, rfl, hm, rfl, hI, hK⟩ := hrel
          have hm5 := runK_le Q s d j
          rw [← hm, ← HM.out] at hm5
          have HMM := Lib.hid hm; have HI := Lib.hid hI; have HK2 := Lib.hid hK
          clear hm hI hK
          by_cases hjn : j < n
          · have ho : s[j]? = some (s[j]'(by rw [← HN.out]; exact hjn)) := List.getElem?_eq_getElem _
            generalize s[j]'(by rw [← HN.out]; exact hjn) = x at ho
            have hmem := List.mem_of_getElem? ho
            obtain ⟨b, off, A2, c2, rfl, hb, cx, hx⟩ := (HS1.out.keep HK2.out) j x ho
            have hkb : Keeps wr (wr.alloc (.cells #[.slice A2 x.length c2] 22)) := (Keeps.refl wr).alloc _
            have HX := Lib.hid (hx.keep hkb)
            have HNB := Lib.hid (Blk.new wr 22 #[.slice A2 x.length c2])
            have HDB := Lib.hid ((HB1.out.below HK2.out HB1.out.lt).below hkb (Nat.lt_of_lt_of_le HB1.out.lt HK2.out.size))
            have HDD := Lib.hid ((HD1.out.keep HK2.out).keep hkb)
            have HII := Lib.hid (HI.out.keep hkb)
            have HXM := Lib.hid (Q6.out x hmem)
            have HSS := Lib.hid (runK_succ (P := Q) (d := d) ho)
            have HKB := Lib.hid hkb
            obtain ⟨q, hq⟩ : ∃ q, q = x.length := ⟨_, rfl⟩
            rw [← hq] at cx HNB HX HDB HDD HII HKB
            have HQ := Lib.hid hq
            clear ho hmem hx hkb hq
            have hji : (j : Int) < (n : Int) := by omega
            have hj0 : (0 : Int) ≤ (j : Int) := by omega
            have hjw : IntKind.i64.wrap ((j : Int) + 1) = (j : Int) + 1 := IntWalk.i64_in _ (by omega)
            go_wp2_with fail
            refine (pass_any 33 #[.pointer (some ⟨wr.heap.size, 0, none⟩), .pointer (some ⟨w.heap.size, 0, none⟩)] (keyF x d) Q (runK Q s d j) A1 m c1 _ q1 q2 HII.out HMM.out (by rw [← HMM.out]; omega)
              (fun y hy => at_row_ok HXM.out (Q7.out _ (at_mem (runK_sub hy))).1 (Q7.out _ (at_mem (runK_sub hy))).2) enter33
              (fun w' hk y hy => clo33 x d wr.heap.size w.heap.size A2 B q c2 k c' y w' (HNB.out.below hk HNB.out.lt) (HDB.out.below hk HDB.out.lt) (HX.out.keep hk) (HDD.out.keep hk) HQ.out HM.out (runK_sub hy).1 (runK_sub hy).2
                (Q7.out _ (at_mem (runK_sub hy))).1 (by rw [HXM.out.1]; exact (Q7.out _ (at_mem (runK_sub hy))).2))).mono ?_
            rintro e w3 ⟨A3, c3, rfl, hn3, hk3⟩
            rw [← HSS.out] at hn3
            have HSL := Lib.hid (congrArg List.length HSS.out)
            obtain ⟨m3, hm3⟩ : ∃ m3, m3 = (runK Q s d (j + 1)).length := ⟨_, rfl⟩
            rw [← HSS.out, ← hm3]
            have HM3 := Lib.hid hm3
            have HN3 := Lib.hid hn3; have HK3 := Lib.hid ((HK2.out.trans HKB.out).trans hk3)
            clear hn3 hk3 hm3
            go_wp2_with fail
            go_roundw
            case rel => exact ⟨j + 1, m3, A3, c3, by omega, by go_num, HM3.out, rfl, HN3.out, HK3.out⟩
            case measure => simp [intOf]; omega
          · obtain rfl : j = n := by omega
            have HR := Lib.hid (runK_all (P := Q) (s := s) (d := d) (k := j) (by rw [← HN.out]; omega))
            rw [HR.out] at HI HMM
            have hR : RunPost (runF Q s d) 0 w (.returned (.tuple #[.slice A1 m c1, .int .i64 0])) wr := ⟨A1, c1, by rw [← HMM.out], HI.out, HK1.out.trans HK2.out⟩
            have HRR2 := Lib.hid hR; clear hR
            go_wp2_with fail
            go_ret2
            exact HRR2.out
theorem wid_mem {s : List (List Int)} (h : 1 ≤ s.length) : ∃ r, s[0]? = some r := ⟨s[0], List.getElem?_eq_getElem _⟩
def pocketF (row d : List Int) (k : Nat) : List Int := (d.take k).map (at' row)
theorem pocketF_succ {row d : List Int} {k : Nat} {x : Int} (h : d[k]? = some x) : pocketF row d (k + 1) = pocketF row d k ++ [at' row x] := by
  unfold pocketF; rw [List.take_add_one, h]; simp
theorem pocketF_len {row d : List Int} {k : Nat} (h : k ≤ d.length) : (pocketF row d k).length = k := by simp [pocketF]; omega
theorem pocket_at {row d : List Int} {x : Int} (h : 0 ≤ x ∧ x < (d.length : Int)) : at' (pocketF row d d.length) x = keyF row d x := by
  have hx : x.toNat < d.length := by omega
  unfold keyF at' pocketF
  simp [List.getD_eq_getElem?_getD, List.getElem?_eq_getElem hx, at']
theorem passE_run {P : Nat} {row d l : List Int} (hP1 : 2 ≤ P) (hP2 : P ≤ 64) (hl : ∀ x ∈ l, 0 ≤ x ∧ x < (d.length : Int)) (hr : ∀ x ∈ d, 0 ≤ at' row x ∧ at' row x < (P : Int)) : passE (P : Int) l (pocketF row d d.length) = passF P (keyF row d) l := by
  have h1 : okPass (P : Int) l (pocketF row d d.length) = true := by
    simp only [okPass, machB, Bool.and_eq_true, decide_eq_true_eq, rowB, List.all_eq_true, inB]
    refine ⟨⟨by omega, by omega⟩, fun x hx => ?_, fun x hx => ?_⟩
    · rw [pocketF_len (Nat.le_refl _)]; exact hl x hx
    · simp only [pocketF, List.take_length, List.mem_map] at hx
      obtain ⟨y, hy, rfl⟩ := hx
      exact hr y hy
  simp only [passE, h1, if_true, Int.toNat_natCast]
  exact passF_congr fun x hx => pocket_at (hl x hx)
theorem itemsF_succ (k : Nat) : itemsF (k + 1) = itemsF k ++ [(k : Int)] := by simp [itemsF, List.range_succ]
theorem formed_is (P : Int) (s : List (List Int)) (A : Option Addr) (n c : Nat) (w : World) (hs : NumRows w w.heap.size A s) (hn : s.length ≤ 1000) (hr : Hid (∀ r ∈ s, r.length ≤ 5000)) (hln : Hid (n = s.length))
    (r : Bool) (he : Hid (formedB P s = r)) : Calls Try.prog 28 #[.int .i64 P, .slice A n c] w (BoolPost r w) := formed_any P s A n c w hs hn hr.out hln.out r he.out
theorem rpass_is (P : Int) (order pocket : List Int) (A B : Option Addr) (n c n' c' : Nat) (w : World) (ho : Nums .i64 w w.heap.size A order) (hp : Nums .i64 w w.heap.size B pocket) (hn : order.length ≤ 5000) (hn' : pocket.length ≤ 5000) (hln : Hid (n = order.length)) (hlm : Hid (n' = pocket.length))
    (r : List Int) (hr : Hid (passE P order pocket = r)) : Calls Try.prog 22 #[.int .i64 P, .slice A n c, .slice B n' c'] w (ListPost r w) := rpass_any P order pocket A B n c n' c' w ho hp hn hn' hln.out hlm.out r hr.out
set_option maxHeartbeats 4000000 in
set_option maxRecDepth 100000 in
theorem rrun_bad (P : Int) (s : List (List Int)) (d : List Int) (A B : Option Addr) (n c n' c' : Nat) (w : World) (hs : NumRows w w.heap.size A s) (hd : Nums .i64 w w.heap.size B d) (hn : s.length ≤ 1000) (hr : ∀ r ∈ s, r.length ≤ 5000) (hn' : d.length ≤ 5000) (hln : n = s.length) (hlm : n' = d.length)
    (hok : okRun P s d = false) : Calls Try.prog 18 #[.int .i64 P, .slice A n c, .slice B n' c'] w (RunPost [] 1 w) := by
  have h1 : n ≤ 1000 := by omega
  have h2 : n' ≤ 5000 := by omega
  have HN := Lib.hid hln
  have HM := Lib.hid hlm
  have HRR := Lib.hid hr
  have HOK := Lib.hid hok
  clear hln hlm hr hok
  have HS := Lib.hid hs; have HD := Lib.hid hd
  have t1 : decide (5000 < n') = false := by simp; omega
  have t1' : decide ((5000 : Int) < (n' : Int)) = false := by simp; omega
  cases hf : formedB P s
  · have HF := Lib.hid hf; clear hf hs hd
    go_enter Try.func18, Try.ntmps18
    go_wp2_with (go_at_call 28; (with_reducible refine (formed_is P s A n c _ HS.out hn HRR HN false HF).mono ?_); rintro e w1 ⟨rfl, hk1⟩)
    go_ret2
    exact run_nil _ _ _ hk1
  · have hf1 := hf
    simp only [formedB, Bool.and_eq_true, decide_eq_true_eq] at hf1
    have hz : 0 < n := by rw [HN.out]; exact hf1.2.1.1
    have hrow : rowB d (wid s : Int) = false := by have := HOK.out; simpa [okRun, hf] using this
    obtain ⟨r0, ho0⟩ := wid_mem hf1.2.1.1
    obtain ⟨m, hm⟩ : ∃ m, m = wid s := ⟨_, rfl⟩
    have hw0 := wid_of ho0
    obtain ⟨b, off, A1, c1, rfl, hb, c0, hx0⟩ := hs 0 r0 ho0
    rw [← hw0, ← hm] at c0
    rw [Nat.add_zero] at c0
    have HROW := Lib.hid (show rowB d (m : Int) = false by rw [hm]; exact hrow)
    have HF := Lib.hid hf
    have hzi : (0 : Int) < (n : Int) := by omega
    have HC0 := Lib.hid c0
    clear hf hf1 hrow ho0 hm hw0 hx0 hs hd c0
    go_enter Try.func18, Try.ntmps18
    go_wp2_with (first | (go_at_call 28; (with_reducible refine (formed_is P s _ n c _ HS.out hn HRR HN true HF).mono ?_); rintro e w1 ⟨rfl, hk1⟩; have c1 := cell_keep HC0.out hk1) | (go_at_call 34; (with_reducible refine (row_is d B n' c' m _ (HD.out.keep hk1) hn' HM false HROW).mono ?_); rintro e w2 ⟨rfl, hk2⟩))
    go_ret2
    exact run_nil _ _ _ (hk1.trans hk2)
set_option maxHeartbeats 4000000 in
set_option maxRecDepth 100000 in
theorem rrun_ok (P : Nat) (s : List (List Int)) (d : List Int) (A B : Option Addr) (n c n' c' : Nat) (w : World) (hs : NumRows w w.heap.size A s) (hd : Nums .i64 w w.heap.size B d) (hn : s.length ≤ 1000) (hr : ∀ r ∈ s, r.length ≤ 5000) (hn' : d.length ≤ 5000) (hln : n = s.length) (hlm : n' = d.length)
    (q1 : 2 ≤ P) (q2 : P ≤ 64) (q3 : 1 ≤ s.length) (q4 : s.length ≤ 4) (q6 : schemeOk P (wid s) s) (q7 : ∀ x ∈ d, 0 ≤ x ∧ x < (wid s : Int)) (hf : formedB (P : Int) s = true) (hrw : rowB d (wid s : Int) = true) : Calls Try.prog 18 #[.int .i64 (P : Int), .slice A n c, .slice B n' c'] w (RunPost (runF P s d) 0 w) := by
  obtain ⟨i0, hi0, hz0, hz1, hz2⟩ := info3
  have h1 : n ≤ 1000 := by omega
  have h2 : n' ≤ 5000 := by omega
  have HN := Lib.hid hln
  have HM := Lib.hid hlm
  have HRR := Lib.hid hr
  clear hln hlm hr
  have HS := Lib.hid hs; have HD := Lib.hid hd
  have t1 : decide (5000 < n') = false := by simp; omega
  have t1' : decide ((5000 : Int) < (n' : Int)) = false := by simp; omega
  have hz : 0 < n := by rw [HN.out]; exact q3
  obtain ⟨r0, ho0⟩ := wid_mem q3
  obtain ⟨m, hm⟩ : ∃ m, m = wid s := ⟨_, rfl⟩
  have hw0 := wid_of ho0
  obtain ⟨b, off, A1, c1, rfl, hb, c0, hx0⟩ := hs 0 r0 ho0
  rw [← hw0, ← hm] at c0
  rw [Nat.add_zero] at c0
  have HROW := Lib.hid (show rowB d (m : Int) = true by rw [hm]; exact hrw)
  have HF := Lib.hid hf
  have Q6 := Lib.hid q6; have Q7 := Lib.hid q7
  have hzi : (0 : Int) < (n : Int) := by omega
  have HC0 := Lib.hid c0
  clear hf hrw ho0 hm hw0 hx0 hs hd c0 q6 q7
  go_enter Try.func18, Try.ntmps18
  go_wp2_with (first | (go_at_call 28; (with_reducible refine (formed_is P s _ n c _ HS.out hn HRR HN true HF).mono ?_); rintro e w1 ⟨rfl, hk1⟩; have c1 := cell_keep HC0.out hk1) | (go_at_call 34; (with_reducible refine (row_is d B n' c' m _ (HD.out.keep hk1) hn' HM true HROW).mono ?_); rintro e w2 ⟨rfl, hk2⟩))
  have HK := Lib.hid (hk1.trans hk2)
  clear hk1 hk2 c1
  go_loopw [8, 9] (fun v i wr => ∃ k : Nat, k ≤ n' ∧ i = .int .i64 (k : Int) ∧ wr.ownsRow w.heap.size 3 1 v k (intCells .i64 (itemsF k)) ∧ Keeps w wr) (fun _ i _ => n' - (intOf i).toNat)
  case atStart => exact ⟨0, by omega, rfl, World.ownsRow_nil _ _ _ _, HK.out⟩
  case round =>
    clear HK
    obtain ⟨k, hk, rfl, hown, hK⟩ := hrel
    by_cases hkn : k < n'
    · have hki : (k : Int) < (n' : Int) := by omega
      have hkw : IntKind.i64.wrap ((k : Int) + 1) = (k : Int) + 1 := IntWalk.i64_in _ (by omega)
      have nn := hown.alloc (.cells #[Value.int .i64 (k : Int)] 3)
      have G1 := Lib.hid (World.news_of_block (cs := #[.int .i64 (k : Int)]) (t := 3) (fr := (0, 0)) (heap_alloc_new wr (.cells #[.int .i64 (k : Int)] 3)))
      have G2 := Lib.hid (show ∀ u ∈ [Value.int .i64 (k : Int)], u.oneCell' = true by simp [Value.oneCell'])
      have g3 : k + 1 ≤ maxLen := by unfold maxLen; omega
      have g4 : (k + 1) * 8 ≤ 140737488355328 := by omega
      have hK4 := hK.alloc (.cells #[Value.int .i64 (k : Int)] 3)
      have G5 := Lib.hid hK4.size
      have NN := Lib.hid nn
      go_wp2_with (at_builtin; refine (wpList_append_own _ rfl (.tmp 37) (.tmp 39) 22 rfl w.heap.size 3 i0 (.int .i64 0) 1 8 Try.underlying22 hi0 hz0 hz1 hz2 rfl (by decide) _ _ _ rfl nn ⟨wr.heap.size, 0, none⟩ 1 1 [.int .i64 (k : Int)] rfl rfl G1.out G2.out g3 g4 G5.out ?_); intro v' w5 hown5 hgrow _)
      have hK5 : Keeps w w5 := grown_keeps hK4 hgrow (fun k hk => (own_lt NN.out hk).1)
      go_roundw
      case rel => exact ⟨k + 1, by omega, by go_num, by rw [itemsF_succ, intCells_append]; exact hown5, hK5⟩
      case measure => simp [intOf]; omega
    · obtain rfl : k = n' := by omega
      obtain ⟨A1, c1, rfl⟩ := own_slice hown
      have HI := Lib.hid (Nums.of_own hown (by simp [itemsF]))
      rw [HM.out, ← runK_zero P s] at HI
      have HKK := Lib.hid hK
      clear hown hK
      go_wp2_with fail
      go_loopw [8, 10] (fun v i wi => ∃ (j m : Nat) (A1 : Option Addr) (c1 : Nat), j ≤ n ∧ i = .int .i64 (j : Int) ∧ m = (runK P s d j).length ∧ v = .slice A1 m c1 ∧ Nums .i64 wi wi.heap.size A1 (runK P s d j) ∧ Keeps w wi) (fun _ i _ => n - (intOf i).toNat)
      case atStart => exact ⟨0, k, _, _, by omega, rfl, by rw [runK_zero]; simp [itemsF, HM.out], rfl, HI.out, HKK.out⟩
      case round =>
        clear HI HKK
        obtain ⟨j, m, A1, c1, hj, rfl, hm, rfl, hI, hK⟩ := hrel
        have hm5 := runK_le P s d j
        rw [← hm, ← HM.out] at hm5
        have HMM := Lib.hid hm; have HI := Lib.hid hI; have HK2 := Lib.hid hK
        obtain ⟨wo, rfl⟩ : ∃ wo : World, wo = wr := ⟨_, rfl⟩
        clear hm hI hK
        by_cases hjn : j < n
        · have ho : s[j]? = some (s[j]'(by rw [← HN.out]; exact hjn)) := List.getElem?_eq_getElem _
          generalize s[j]'(by rw [← HN.out]; exact hjn) = x at ho
          have HXM := Lib.hid (Q6.out x (List.mem_of_getElem? ho))
          have HSS := Lib.hid (runK_succ (P := P) (d := d) ho)
          have HSJ := Lib.hid ho
          clear ho
          have hji : (j : Int) < (n : Int) := by omega
          have hj0 : (0 : Int) ≤ (j : Int) := by omega
          have hjw : IntKind.i64.wrap ((j : Int) + 1) = (j : Int) + 1 := IntWalk.i64_in _ (by omega)
          go_wp2_with fail
          go_loopw [11, 12] (fun v i wi => ∃ a : Nat, a ≤ k ∧ i = .int .i64 (a : Int) ∧ wi.ownsRow wo.heap.size 3 1 v a (intCells .i64 (pocketF x d a)) ∧ Keeps wo wi) (fun _ i _ => k - (intOf i).toNat)
          case atStart => exact ⟨0, by omega, rfl, World.ownsRow_nil _ _ _ _, Keeps.refl _⟩
          case round =>
            obtain ⟨a, ha, rfl, hown, hK⟩ := hrel
            by_cases hak : a < k
            · have ho : d[a]? = some (d[a]'(by rw [← HM.out]; exact hak)) := List.getElem?_eq_getElem _
              generalize d[a]'(by rw [← HM.out]; exact hak) = y at ho
              have hy := Q7.out y (List.mem_of_getElem? ho)
              obtain ⟨t, rfl⟩ : ∃ t : Nat, y = (t : Int) := ⟨y.toNat, by omega⟩
              have htl : t < x.length := by rw [HXM.out.1]; omega
              have ho2 : x[t]? = some (x[t]'htl) := List.getElem?_eq_getElem _
              generalize x[t]'htl = z at ho2
              have HZ := Lib.hid (at_nat ho2)
              obtain ⟨b0, of0, A2, c2, he, hb2, cx, hx⟩ := (HS.out.keep HK2.out) j x HSJ.out
              injection he with he; injection he with e1 e2; subst e1; subst e2
              obtain ⟨b3, off3, rfl, hb3, c3⟩ := (HD.out.keep HK2.out) a _ ho
              obtain ⟨b4, off4, rfl, hb4, c4⟩ := hx t z ho2
              obtain ⟨q, hq⟩ : ∃ q, q = x.length := ⟨_, rfl⟩
              rw [← hq] at cx htl
              have HPS := Lib.hid (pocketF_succ (row := x) ho)
              clear hx ho ho2 hq hy
              have hai : (a : Int) < (k : Int) := by omega
              have ha0 : (0 : Int) ≤ (a : Int) := by omega
              have hti : (t : Int) < (q : Int) := by omega
              have haw : IntKind.i64.wrap ((a : Int) + 1) = (a : Int) + 1 := IntWalk.i64_in _ (by omega)
              have G2 := Lib.hid (show ∀ u ∈ [Value.int .i64 z], u.oneCell' = true by simp [Value.oneCell'])
              have g3 : a + 1 ≤ maxLen := by unfold maxLen; omega
              have g4 : (a + 1) * 8 ≤ 140737488355328 := by omega
              go_wp2_with fail
              have SOF := Lib.hid (show ∀ X, Keeps wo X → (fun w' => w'.cell? ⟨b, off + j, none⟩ = some (.slice (some ⟨b4, off4, none⟩) q c2) ∧ w'.cell? ⟨b3, off3 + a, none⟩ = some (.int .i64 (t : Int)) ∧ w'.cell? ⟨b4, off4 + t, none⟩ = some (.int .i64 z) ∧ Keeps wo w') X from fun X hX => ⟨cell_keep cx hX, cell_keep c3 hX, cell_keep c4 hX, hX⟩)
              have RL := Lib.hid (reads_lit wr (.int .i64 z) 3)
              have HOW := Lib.hid hown; have HKW := Lib.hid hK
              clear hown hK
              go_region_held3 (fun w' => w'.cell? ⟨b, off + j, none⟩ = some (.slice (some ⟨b4, off4, none⟩) q c2) ∧ w'.cell? ⟨b3, off3 + a, none⟩ = some (.int .i64 (t : Int)) ∧ w'.cell? ⟨b4, off4 + t, none⟩ = some (.int .i64 z) ∧ Keeps wo w') ((refine SOF.out _ ?_; (repeat (first | exact HKW.out | assumption | apply Keeps.drew | apply Keeps.alloc)); done))
                (first | (refine step_append_any _ (by rfl) _ _ _ (by rfl) wo.heap.size 3 i0 (.int .i64 0) 1 8 Try.underlying22 hi0 hz0 hz1 hz2 rfl (by decide) u11 a _ (by rfl) (by first | exact HOW.out.alloc _ | exact (HOW.out.alloc _).drew) (wr.heap.size + 1) (some ⟨wr.heap.size, 0, none⟩) 1 1 [.int .i64 z] (by rfl) (by first | exact RL.out | exact RL.out.drew) G2.out g3 g4 (by have := HKW.out.size; first | omega | (simp; done) | (simp; omega)) ?_; intro v' w5 hown5 hgrow hat5; have hK5 : Keeps wo w5 := (by first | exact grown_keeps (HKW.out.alloc _) hgrow (fun k hk => (own_lt HOW.out hk).1) | exact grown_keeps ((HKW.out.alloc _).drew) hgrow (fun k hk => (own_lt HOW.out hk).1))))
              have HO5 := Lib.hid hown5; have HK5 := Lib.hid hK5
              clear hown5 hK5 hgrow hat5
              go_wp2_with fail
              go_roundw
              case rel => exact ⟨a + 1, by omega, by go_num, by rw [HPS.out, intCells_append, HZ.out]; exact HO5.out, HK5.out⟩
              case measure => simp [intOf]; omega
            · obtain rfl : a = k := by omega
              obtain ⟨A3, c3, rfl⟩ := own_slice hown
              have HP3 := Lib.hid (Nums.of_own hown (pocketF_len (by rw [← HM.out]; exact Nat.le_refl _)).symm)
              have hpe := passE_run (P := P) (row := x) (d := d) (l := runK P s d j) q1 q2 (fun y hy => runK_sub hy) (fun y hy => at_row_ok HXM.out (Q7.out _ hy).1 (Q7.out _ hy).2)
              rw [← HSS.out, ← HM.out] at hpe
              have HPE := Lib.hid hpe
              have hla : (pocketF x d a).length = a := pocketF_len (by rw [← HM.out]; exact Nat.le_refl _)
              have HLA := Lib.hid hla.symm
              have hla5 : (pocketF x d a).length ≤ 5000 := by omega
              have hlr5 : (runK P s d j).length ≤ 5000 := by rw [← HMM.out]; omega
              have HK3 := Lib.hid hK
              clear hown hpe hla hK
              go_wp2_with (go_at_call 22; (with_reducible refine (rpass_is P (runK P s d j) (pocketF x d a) A1 A3 m c1 a c3 _ (HI.out.keep HK3.out) HP3.out hlr5 hla5 HMM HLA _ HPE).mono ?_); rintro e w3 ⟨A4, c4, rfl, hn3, hk3⟩)
              obtain ⟨m3, hm3⟩ : ∃ m3, m3 = (runK P s d (j + 1)).length := ⟨_, rfl⟩
              have HM3 := Lib.hid hm3
              have HN3 := Lib.hid hn3; have HK4 := Lib.hid ((HK2.out.trans HK3.out).trans hk3)
              rw [← hm3]
              clear hn3 hk3 hm3
              go_roundw
              case rel => exact ⟨j + 1, m3, A4, c4, by omega, by go_num, HM3.out, by rfl, HN3.out, HK4.out⟩
              case measure => simp [intOf]; omega
        · obtain rfl : j = n := by omega
          have HR := Lib.hid (runK_all (P := P) (s := s) (d := d) (k := j) (by rw [← HN.out]; omega))
          rw [HR.out] at HI HMM
          have hR : RunPost (runF P s d) 0 w (.returned (.tuple #[.slice A1 m c1, .int .i64 0])) wo := ⟨A1, c1, by rw [← HMM.out], HI.out, HK2.out⟩
          have HRR2 := Lib.hid hR; clear hR
          go_wp2_with fail
          go_ret2
          exact HRR2.out
theorem rrun_any (P : Int) (s : List (List Int)) (d : List Int) (A B : Option Addr) (n c n' c' : Nat) (w : World) (hs : NumRows w w.heap.size A s) (hd : Nums .i64 w w.heap.size B d) (hn : s.length ≤ 1000) (hr : ∀ r ∈ s, r.length ≤ 5000) (hn' : d.length ≤ 5000) (hln : n = s.length) (hlm : n' = d.length) :
    Calls Try.prog 18 #[.int .i64 P, .slice A n c, .slice B n' c'] w (if okRun P s d then RunPost (runF P.toNat s d) 0 w else RunPost [] 1 w) := by
  cases hok : okRun P s d
  · rw [if_neg (by simp)]; exact rrun_bad P s d A B n c n' c' w hs hd hn hr hn' hln hlm hok
  · rw [if_pos rfl]
    have h2 := hok
    simp only [okRun, Bool.and_eq_true] at h2
    obtain ⟨Q, rfl, q1, q2, q3, q4, q5, q6, q7⟩ := okRun_spec hok
    exact rrun_ok Q s d A B n c n' c' w hs hd hn hr hn' hln hlm q1 q2 q3 q4 q6 q7 h2.1 h2.2
end Go.Proofs.Ytkfcebojfnnieaa
