/- Part of the proof of x. Conditions: as stated in each theorem. -/
import Derived.Test.YthkmpegpmpdhaaaGreatDoorZF
import Derived.Test.YthkmpegpmpdhaaaGreatDoorProg
import Derived.WalkKit
import Derived.WalkSpells
import Derived.WalkLawsBesides
import Derived.Laws.EntriesVeiled
import Derived.ProofKit
import Derived.OpenShut
import Derived.Lib.Hide
import Derived.BigQuiet
import Derived.Deep.QuietTactic
import Derived.Deep.CutRange
import Derived.StillTailTactics
import Derived.Lib.SliceRun
import Derived.RangeFuncRecord
import Derived.Carry
import Derived.ChangeKeysEq
import Derived.Below
import Derived.Laws.OwnMore
import Derived.Deep.AppendLies
import Derived.Deep.Draws
import Derived.Laws.Rows
import Derived.Maps.AppendAt
import Derived.RegionTactic
import Derived.OwnWalk
import Derived.Deep.RegionHeld3
namespace Go.Proofs.YthkmpegpmpdhaaaGreatDoor
open Go.ChangeShapes Go.WideShapes Go.ChangeAt Go.RowKit
set_option linter.unusedSimpArgs false
set_option linter.unusedVariables false
/-- Cells that read so read so still. -/
def Surv (w w' : World) : Prop := ∀ (p : Addr) (v : Value), w.cell? p = some v → w'.cell? p = some v
theorem Surv.refl (w : World) : Surv w w := fun _ _ h => h
theorem Surv.trans {a b c : World} (h : Surv a b) (k : Surv b c) : Surv a c := fun p v hv => k p v (h p v hv)
theorem Surv.of_keeps {a b : World} (h : Keeps a b) : Surv a b := fun _ _ hv => cell_keep hv h
def MapAt (w : World) (r : Nat) : Prop := ∃ es cl, w.heap[r]? = some (.map es cl)
theorem MapTo.at_ {κ : Type} {kv : κ → Value} {eq : κ → κ → Bool} {W : World} {r : Nat} {g : κ → Option Value} (h : MapTo kv eq W r g) : MapAt W r := by
  obtain ⟨L, ⟨es, cl, hr, _⟩, _⟩ := h
  exact ⟨es, cl, hr⟩
theorem MapAt.lt {w : World} {r : Nat} (h : MapAt w r) : r < w.heap.size := by obtain ⟨es, cl, hr⟩ := h; exact (Array.getElem?_eq_some_iff.1 hr).1
theorem MapAt.keep {w w' : World} {r : Nat} (h : MapAt w r) (hk : Keeps w w') : MapAt w' r := by
  obtain ⟨es, cl, hr⟩ := h
  exact ⟨es, cl, (hk.block r (Array.getElem?_eq_some_iff.1 hr).1).trans hr⟩
theorem Surv.of_grown {a b : World} {r : Nat} (hr : MapAt a r) (h : a.grownBy b (some r)) : Surv a b := fun p v hv => by
  obtain ⟨es, cl, hr⟩ := hr
  have hne : p.block ≠ r := by
    intro e
    simp [World.cell?, e, hr] at hv
  have hlt := World.block_lt_of_cell? a _ hv
  rw [World.cell?_of_block (h.block p.block hlt (fun e => hne (Option.some.inj e)))]; exact hv
theorem RecIn.surv {α : Type} {R : RowTy α} {w w' : World} {B : Nat} {A : Option Addr} {l : List α} (h : RecIn R w B A l) (hs : Surv w w') : RecIn R w' B A l := fun j x hj => by
  obtain ⟨b, off, e, hlt, hc⟩ := h j x hj
  exact ⟨b, off, e, hlt, fun i u hu => hs _ _ (hc i u hu)⟩
/-- Whether a text of the list is no label, or one of S or of those ahead of it. -/
def badF : List ByteArray → List ByteArray → Bool
  | _, [] => false
  | S, s :: t => if (!labelF s || decide (s ∈ S)) then true else badF (s :: S) t
theorem drop_cons {α : Type} {l : List α} {i : Nat} {x : α} (h : l[i]? = some x) : l.drop i = x :: l.drop (i + 1) := by
  have hi := (List.getElem?_eq_some_iff.1 h).1
  rw [List.drop_eq_getElem_cons hi]
  rw [List.getElem?_eq_getElem hi] at h
  rw [Option.some.inj h]
def IdxG (b : Bool) (r : Nat) (w : World) (e : Ending) (w' : World) : Prop := ∃ I : Int, decide (0 ≤ I) = b ∧ -1 ≤ I ∧ I ≤ 9223372036854775807 ∧ e = .returned (.int .i64 I) ∧ w.grownBy w' (some r)
theorem idx_g {b : Bool} {r : Nat} {w w' : World} {I : Int} (h : decide (0 ≤ I) = b) (h1 : -1 ≤ I) (h2 : I ≤ 9223372036854775807) (hk : w.grownBy w' (some r)) : IdxG b r w (.returned (.int .i64 I)) w' := ⟨I, h, h1, h2, rfl, hk⟩
def BadR (cs S0 : List ByteArray) (r : Nat) (w : World) (v : Value) (wr : World) : Prop :=
  ∃ (i : Nat) (S : List ByteArray), i ≤ cs.length ∧ v = .int .i64 (i : Int) ∧ SetIs wr r S ∧ w.grownBy wr (some r) ∧ badF S (cs.drop i) = badF S0 cs
set_option maxRecDepth 100000 in
set_option maxHeartbeats 4000000 in
theorem index220 (cs S0 : List ByteArray) (A : Option Addr) (n c b r : Nat) (w : World) (h : RecIn strR w w.heap.size A cs) (hn : Hid (n = cs.length)) (hnm : n ≤ 9223372036854775807)
    (hb : w.cell? ⟨b, 0, none⟩ = some (.map (some r))) (hS : SetIs w r S0) (hs : ∀ s ∈ cs, s.size ≤ 9223372036854775807) :
    Calls Tryz.prog 220 #[.slice A n c, .func (.func 178) #[] #[.pointer (some ⟨b, 0, none⟩)]] w (IdxG (badF S0 cs) r w) := by
  obtain ⟨bb, hbb⟩ : ∃ x, badF S0 cs = x := ⟨_, rfl⟩
  have HBB := Lib.hid hbb
  have HD := Lib.hid h
  have HBx := Lib.hid hb
  have HS := Lib.hid hS
  have HM := Lib.hid (MapTo.at_ hS)
  have HSZ := Lib.hid hs
  rw [hbb]
  clear h hb hS hs hbb
  go_enter Tryz.func220, Tryz.ntmps220
  go_wp2_with fail
  go_loopw [8] (fun v wr => BadR cs S0 r w v wr) (fun v _ => n - (intOf v).toNat)
  case atStart => exact ⟨0, S0, by omega, rfl, HS.out, World.grownBy.refl w _, rfl⟩
  case round =>
    obtain ⟨i, S, hi, rfl, hS, hg, hbad⟩ := hrel
    have hsv := Surv.of_grown HM.out hg
    have c0 := hsv _ _ HBx.out
    have hnl := hn.out
    by_cases hin : i < n
    · obtain ⟨x, hx⟩ : ∃ x, cs[i]? = some x := ⟨_, List.getElem?_eq_getElem (by omega)⟩
      obtain ⟨bk, o, rfl, hbl, hc⟩ := (HD.out.surv hsv).str hx
      have hil : i < cs.length := by omega
      have ii : (i : Int) < (n : Int) := by omega
      have i0 : (0 : Int) ≤ (i : Int) := by omega
      have iw : IntKind.i64.wrap ((i : Int) + 1) = (i : Int) + 1 := wrap_in (by omega) (by omega)
      have HC := Lib.hid (closure178 x S b r wr c0 hS (HSZ.out x (List.mem_of_getElem? hx)))
      have hst := hbad
      rw [drop_cons hx] at hst
      simp only [badF] at hst
      have HST := Lib.hid hst
      have HG := Lib.hid hg
      clear hnl hx hS hg hbad hst c0 hsv
      cases hq : (!labelF x || decide (x ∈ S))
      · have HQ := Lib.hid hq
        clear hq
        go_wp2_with (go_at_call 178; (with_reducible refine HC.out.mono ?_); rintro e w' ⟨q, rfl, hq, hg2, hs2⟩; rw [HQ.out] at hq; subst hq; have HS2 := Lib.hid (hs2 rfl); have HG2 := Lib.hid (grown_trans HG.out hg2); clear hs2 hg2)
        go_roundw
        case rel => exact ⟨i + 1, x :: S, by omega, by go_num, HS2.out, HG2.out, by rw [← HST.out, HQ.out]; rfl⟩
        case measure => simp [intOf]; omega
      · have HQ := Lib.hid hq
        clear hq
        go_wp2_with (go_at_call 178; (with_reducible refine HC.out.mono ?_); rintro e w' ⟨q, rfl, hq, hg2, hs2⟩; rw [HQ.out] at hq; subst hq; have HG2 := Lib.hid (grown_trans HG.out hg2); clear hs2 hg2)
        go_ret
        exact idx_g (by rw [← HBB.out, ← HST.out, HQ.out]; simp) (by omega) (by omega) HG2.out
    · have e : cs.drop i = [] := List.drop_eq_nil_of_le (by omega)
      rw [e] at hbad
      have HB2 := Lib.hid hbad
      have HG := Lib.hid hg
      clear hnl hbad hg hS c0 hsv e
      go_wp2_with fail
      go_ret
      exact idx_g (by rw [← HBB.out, ← HB2.out]; rfl) (by omega) (by omega) HG.out
def BoolG (x : Bool) (r : Nat) (w : World) (e : Ending) (w' : World) : Prop := e = .returned (.bool x) ∧ w.grownBy w' (some r)
theorem bool_g {x y : Bool} {r : Nat} {w w' : World} (h : x = y) (hk : w.grownBy w' (some r)) : BoolG x r w (.returned (.bool y)) w' := ⟨by rw [h], hk⟩
theorem contains177 (cs S0 : List ByteArray) (A : Option Addr) (n c b r : Nat) (w : World) (h : RecIn strR w w.heap.size A cs) (hn : Hid (n = cs.length)) (hnm : n ≤ 9223372036854775807)
    (hb : w.cell? ⟨b, 0, none⟩ = some (.map (some r))) (hS : SetIs w r S0) (hs : ∀ s ∈ cs, s.size ≤ 9223372036854775807) :
    Calls Tryz.prog 177 #[.slice A n c, .func (.func 178) #[] #[.pointer (some ⟨b, 0, none⟩)]] w (BoolG (badF S0 cs) r w) := by
  have HC := Lib.hid (index220 cs S0 A n c b r w h hn hnm hb hS hs)
  generalize badF S0 cs = bb at HC ⊢
  clear h hb hS hs
  go_enter Tryz.func177, Tryz.ntmps177
  go_wp2_with (go_at_call 220; (with_reducible refine HC.out.mono ?_); rintro e w' ⟨I, h1, h2, h3, rfl, hk⟩; have H1 := Lib.hid h1; have HK := Lib.hid hk; clear h1 hk)
  go_ret
  exact bool_g H1.out.symm HK.out
theorem differ146 (lab : ByteArray) (cs : List ByteArray) (A : Option Addr) (n c : Nat) (w : World) (h : RecIn strR w w.heap.size A cs) (hn : Hid (n = cs.length)) (hnm : n ≤ 9223372036854775807) (hs : ∀ s ∈ cs, s.size ≤ 9223372036854775807) :
    Calls Tryz.prog 146 #[.string lab, .slice A n c] w (BoolPost (!badF [lab] cs) w) := by
  obtain ⟨W1, hp, hs1, hg1⟩ := (SetIs.made w).put lab
  have k1 : Keeps w W1 := grown_keepsr ((Keeps.refl w).alloc _) hg1 (Nat.le_refl _)
  have HS1 := Lib.hid (hs1.keep ((Keeps.refl W1).alloc (.cells #[.map (some w.heap.size)] 217)))
  have HB := Lib.hid ((Blk.new W1 217 #[.map (some w.heap.size)]).cell 0)
  have k2 := k1.alloc (.cells #[.map (some w.heap.size)] 217)
  have HC := Lib.hid (contains177 cs [lab] A n c W1.heap.size w.heap.size _ ((h.keep k2)) hn hnm HB.out HS1.out hs)
  have K2 := Lib.hid k2
  have hmm := @run_makeMap Tryz.prog
  generalize badF [lab] cs = bb at HC ⊢
  clear h hs k1 k2 hg1 hs1
  go_enter Tryz.func146, Tryz.ntmps146
  go_wp2_with (go_at_call 177; (with_reducible refine HC.out.mono ?_); rintro e w' ⟨rfl, hk⟩; have HK := Lib.hid hk; clear hk)
  go_ret
  exact bool_post rfl (grown_keepsr K2.out HK.out (Nat.le_refl _))
def fromB (x m : Int) : Bool := decide (0 ≤ x) && decide (x ≤ m)
/-- Whether the contents of a record fit its kind. -/
def kindF (x : Rec) : Bool := if x.ki = 1 then decide (x.con.length = 0) else if x.ki = 2 then (decide (x.con.length ≤ 40) && !badF [x.lab] x.con) else false
def completeF (x : Rec) : Bool := fromB x.sc 1000000 && (fromB x.nu 1000000 && (fromB x.ti 1000000 && (labelF x.lab && kindF x)))
/-- A record whose contents can be read, with lengths that are lengths. -/
structure RecOk (w : World) (B : Nat) (x : Rec) : Prop where
  con : RecIn strR w B x.A x.con
  lab : x.lab.size ≤ 9223372036854775807
  len : x.con.length ≤ 9223372036854775807
  cs : ∀ s ∈ x.con, s.size ≤ 9223372036854775807
theorem RecOk.surv {w w' : World} {B : Nat} {x : Rec} (h : RecOk w B x) (hs : Surv w w') : RecOk w' B x := ⟨h.con.surv hs, h.lab, h.len, h.cs⟩
theorem RecOk.keep {w w' : World} {x : Rec} (h : RecOk w w.heap.size x) (hk : Keeps w w') : RecOk w' w'.heap.size x := ⟨h.con.keep hk, h.lab, h.len, h.cs⟩
abbrev recA (x : Rec) : Value := .agg #[.int .i64 x.sc, .int .i64 x.nu, .int .i64 x.ki, .int .i64 x.ti, .string x.lab, .slice x.A x.con.length x.c]
theorem from144 (x m : Int) (b : Bool) (hb : Hid (fromB x m = b)) (w : World) : Calls Tryz.prog 144 #[.int .i64 x, .int .i64 m] w fun e w' => e = .returned (.bool b) ∧ w = w' := by
  have := closure144 x m w
  rw [show (decide (0 ≤ x) && decide (x ≤ m)) = b from hb.out] at this
  exact this
set_option maxRecDepth 100000 in
set_option maxHeartbeats 4000000 in
theorem complete105 (x : Rec) (w : World) (h : RecOk w w.heap.size x) : Calls Tryz.prog 105 #[recA x] w (BoolPost (completeF x) w) := by
  obtain ⟨r, hr⟩ : ∃ r, completeF x = r := ⟨_, rfl⟩
  have HR := Lib.hid hr
  rw [hr]
  clear hr
  obtain ⟨sc, nu, ki, ti, lab, con, A, c⟩ := x
  change Calls Tryz.prog 105 #[.agg #[.int .i64 sc, .int .i64 nu, .int .i64 ki, .int .i64 ti, .string lab, .slice A con.length c]] w _
  obtain ⟨q, hq⟩ : ∃ q, q = con.length := ⟨_, rfl⟩
  rw [← hq]
  have HQ := Lib.hid hq
  have hqm : q ≤ 9223372036854775807 := by rw [hq]; exact h.len
  clear hq
  have k1 := (Keeps.refl w).alloc (.cells #[.int .i64 sc, .int .i64 nu, .int .i64 ki, .int .i64 ti, .string lab, .slice A q c] 26)
  have K1 := Lib.hid k1
  have HK := Lib.hid (h.keep k1)
  have HOK := Lib.hid h
  clear h k1
  obtain ⟨b1, hb1⟩ : ∃ b, fromB sc 1000000 = b := ⟨_, rfl⟩
  obtain ⟨b2, hb2⟩ : ∃ b, fromB nu 1000000 = b := ⟨_, rfl⟩
  obtain ⟨b3, hb3⟩ : ∃ b, fromB ti 1000000 = b := ⟨_, rfl⟩
  obtain ⟨b4, hb4⟩ : ∃ b, labelF lab = b := ⟨_, rfl⟩
  have B1 := Lib.hid hb1; have B2 := Lib.hid hb2; have B3 := Lib.hid hb3; have B4 := Lib.hid hb4
  have HL := Lib.hid (fun W => label145 lab W HK.out.lab)
  rw [hb4] at HL
  clear hb1 hb2 hb3 hb4
  cases b1
  · go_enter Tryz.func105, Tryz.ntmps105
    go_wp2_with (first | (go_at_call 144; (with_reducible refine (from144 sc 1000000 false B1 _).mono ?_); rintro e w' ⟨rfl, rfl⟩))
    go_ret
    exact bool_post (by rw [← HR.out]; simp only [completeF]; rw [B1.out]; rfl) K1.out
  cases b2
  · go_enter Tryz.func105, Tryz.ntmps105
    go_wp2_with (first | (go_at_call 144; (with_reducible refine (from144 sc 1000000 true B1 _).mono ?_); rintro e w' ⟨rfl, rfl⟩) | (go_at_call 144; (with_reducible refine (from144 nu 1000000 false B2 _).mono ?_); rintro e w' ⟨rfl, rfl⟩))
    go_ret
    exact bool_post (by rw [← HR.out]; simp only [completeF]; rw [B1.out, B2.out]; rfl) K1.out
  cases b3
  · go_enter Tryz.func105, Tryz.ntmps105
    go_wp2_with (first | (go_at_call 144; (with_reducible refine (from144 sc 1000000 true B1 _).mono ?_); rintro e w' ⟨rfl, rfl⟩) | (go_at_call 144; (with_reducible refine (from144 nu 1000000 true B2 _).mono ?_); rintro e w' ⟨rfl, rfl⟩) | (go_at_call 144; (with_reducible refine (from144 ti 1000000 false B3 _).mono ?_); rintro e w' ⟨rfl, rfl⟩))
    go_ret
    exact bool_post (by rw [← HR.out]; simp only [completeF]; rw [B1.out, B2.out, B3.out]; rfl) K1.out
  cases b4
  · go_enter Tryz.func105, Tryz.ntmps105
    go_wp2_with (first | (go_at_call 144; (with_reducible refine (from144 sc 1000000 true B1 _).mono ?_); rintro e w' ⟨rfl, rfl⟩) | (go_at_call 144; (with_reducible refine (from144 nu 1000000 true B2 _).mono ?_); rintro e w' ⟨rfl, rfl⟩) | (go_at_call 144; (with_reducible refine (from144 ti 1000000 true B3 _).mono ?_); rintro e w' ⟨rfl, rfl⟩) | (go_at_call 145; (with_reducible refine (HL.out _).mono ?_); rintro e w' ⟨rfl, hk⟩; have KL := Lib.hid (K1.out.trans hk); clear hk))
    go_ret
    exact bool_post (by rw [← HR.out]; simp only [completeF]; rw [B1.out, B2.out, B3.out, B4.out]; rfl) KL.out
  have HRK := Lib.hid (show kindF ⟨sc, nu, ki, ti, lab, con, A, c⟩ = r by rw [← HR.out]; simp only [completeF]; rw [B1.out, B2.out, B3.out, B4.out]; rfl)
  have C2 := Lib.hid (cell_of_blk (Blk.new w 26 #[.int .i64 sc, .int .i64 nu, .int .i64 ki, .int .i64 ti, .string lab, .slice A q c]) 2 (v := .int .i64 ki) rfl)
  have C4 := Lib.hid (cell_of_blk (Blk.new w 26 #[.int .i64 sc, .int .i64 nu, .int .i64 ki, .int .i64 ti, .string lab, .slice A q c]) 4 (v := .string lab) rfl)
  have C5 := Lib.hid (cell_of_blk (Blk.new w 26 #[.int .i64 sc, .int .i64 nu, .int .i64 ki, .int .i64 ti, .string lab, .slice A q c]) 5 (v := .slice A q c) rfl)
  by_cases h1 : ki = 1
  · subst h1
    have HRQ := Lib.hid (show decide (q = 0) = r by rw [← HRK.out, HQ.out]; simp [kindF])
    by_cases h0 : q = 0
    · subst h0
      go_enter Tryz.func105, Tryz.ntmps105
      go_wp2_with (first | (go_at_call 144; (with_reducible refine (from144 sc 1000000 true B1 _).mono ?_); rintro e w' ⟨rfl, rfl⟩) | (go_at_call 144; (with_reducible refine (from144 nu 1000000 true B2 _).mono ?_); rintro e w' ⟨rfl, rfl⟩) | (go_at_call 144; (with_reducible refine (from144 ti 1000000 true B3 _).mono ?_); rintro e w' ⟨rfl, rfl⟩) | (go_at_call 145; (with_reducible refine (HL.out _).mono ?_); rintro e w' ⟨rfl, hk⟩; have KL := Lib.hid (K1.out.trans hk); have c2 := cell_keep C2.out hk; have c4 := cell_keep C4.out hk; have c5 := cell_keep C5.out hk; clear hk))
      go_ret
      exact bool_post (by rw [← HRQ.out]; rfl) KL.out
    · have d0 : ((q : Int) == 0) = false := by simp; omega
      have d1 : (q == 0) = false := by simp; omega
      go_enter Tryz.func105, Tryz.ntmps105
      go_wp2_with (first | (go_at_call 144; (with_reducible refine (from144 sc 1000000 true B1 _).mono ?_); rintro e w' ⟨rfl, rfl⟩) | (go_at_call 144; (with_reducible refine (from144 nu 1000000 true B2 _).mono ?_); rintro e w' ⟨rfl, rfl⟩) | (go_at_call 144; (with_reducible refine (from144 ti 1000000 true B3 _).mono ?_); rintro e w' ⟨rfl, rfl⟩) | (go_at_call 145; (with_reducible refine (HL.out _).mono ?_); rintro e w' ⟨rfl, hk⟩; have KL := Lib.hid (K1.out.trans hk); have c2 := cell_keep C2.out hk; have c4 := cell_keep C4.out hk; have c5 := cell_keep C5.out hk; clear hk))
      go_ret
      exact bool_post (by rw [← HRQ.out]; simp; omega) KL.out
  have d1 : (ki == 1) = false := by simpa using h1
  by_cases h2 : ki = 2
  · subst h2
    have HRQ := Lib.hid (show (decide (q ≤ 40) && !badF [lab] con) = r by rw [← HRK.out, HQ.out]; simp [kindF])
    by_cases h40 : q ≤ 40
    · have d40 : decide ((q : Int) ≤ 40) = true := by simp; omega
      have d40' : decide (q ≤ 40) = true := by simp; omega
      obtain ⟨bb, hbb⟩ : ∃ x, badF [lab] con = x := ⟨_, rfl⟩
      have HBB := Lib.hid hbb
      clear hbb
      go_enter Tryz.func105, Tryz.ntmps105
      go_wp2_with (first | (go_at_call 144; (with_reducible refine (from144 sc 1000000 true B1 _).mono ?_); rintro e w' ⟨rfl, rfl⟩) | (go_at_call 144; (with_reducible refine (from144 nu 1000000 true B2 _).mono ?_); rintro e w' ⟨rfl, rfl⟩) | (go_at_call 144; (with_reducible refine (from144 ti 1000000 true B3 _).mono ?_); rintro e w' ⟨rfl, rfl⟩) | (go_at_call 145; (with_reducible refine (HL.out _).mono ?_); rintro e w' ⟨rfl, hk⟩; have KL := Lib.hid (K1.out.trans hk); have c2 := cell_keep C2.out hk; have c4 := cell_keep C4.out hk; have c5 := cell_keep C5.out hk; have HD := Lib.hid (differ146 lab con A q c w' (HK.out.keep hk).con HQ hqm HK.out.cs); clear hk) | (go_at_call 146; (with_reducible refine HD.out.mono ?_); rintro e w2 ⟨rfl, hk⟩; have KD := Lib.hid hk; clear hk))
      go_ret
      exact bool_post (by rw [← HRQ.out]; rw [d40'] ; rw [HBB.out]; rfl) (KL.out.trans KD.out)
    · have d40 : decide ((q : Int) ≤ 40) = false := by simp; omega
      have d40' : decide (q ≤ 40) = false := by simp; omega
      have HRR := Lib.hid (show false = r by rw [← HRQ.out, d40']; rfl)
      go_enter Tryz.func105, Tryz.ntmps105
      go_wp2_with (first | (go_at_call 144; (with_reducible refine (from144 sc 1000000 true B1 _).mono ?_); rintro e w' ⟨rfl, rfl⟩) | (go_at_call 144; (with_reducible refine (from144 nu 1000000 true B2 _).mono ?_); rintro e w' ⟨rfl, rfl⟩) | (go_at_call 144; (with_reducible refine (from144 ti 1000000 true B3 _).mono ?_); rintro e w' ⟨rfl, rfl⟩) | (go_at_call 145; (with_reducible refine (HL.out _).mono ?_); rintro e w' ⟨rfl, hk⟩; have KL := Lib.hid (K1.out.trans hk); have c2 := cell_keep C2.out hk; have c4 := cell_keep C4.out hk; have c5 := cell_keep C5.out hk; clear hk))
      go_ret
      exact bool_post (by rw [← HRR.out]) KL.out
  have d2 : (ki == 2) = false := by simpa using h2
  have HRR := Lib.hid (show false = r by rw [← HRK.out]; simp [kindF, h1, h2])
  go_enter Tryz.func105, Tryz.ntmps105
  go_wp2_with (first | (go_at_call 144; (with_reducible refine (from144 sc 1000000 true B1 _).mono ?_); rintro e w' ⟨rfl, rfl⟩) | (go_at_call 144; (with_reducible refine (from144 nu 1000000 true B2 _).mono ?_); rintro e w' ⟨rfl, rfl⟩) | (go_at_call 144; (with_reducible refine (from144 ti 1000000 true B3 _).mono ?_); rintro e w' ⟨rfl, rfl⟩) | (go_at_call 145; (with_reducible refine (HL.out _).mono ?_); rintro e w' ⟨rfl, hk⟩; have KL := Lib.hid (K1.out.trans hk); have c2 := cell_keep C2.out hk; have c4 := cell_keep C4.out hk; have c5 := cell_keep C5.out hk; clear hk))
  go_ret
  exact bool_post (by rw [← HRR.out]) KL.out
end Go.Proofs.YthkmpegpmpdhaaaGreatDoor
