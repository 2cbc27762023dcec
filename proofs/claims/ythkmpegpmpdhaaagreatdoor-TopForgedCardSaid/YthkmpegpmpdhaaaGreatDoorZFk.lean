/- Part of the proof of TopOwnItem. Conditions: as stated in each theorem. -/
import Derived.Test.YthkmpegpmpdhaaaGreatDoorZFi
import Derived.Test.YthkmpegpmpdhaaaGreatDoorProg
import Derived.WalkMore
import Derived.Maps.OwnIn
import Derived.Deep.LoopGhost
import Derived.RangeFuncNested
import Derived.RangeFuncCalls
import Derived.RangeFuncLeaves
import Derived.RangeFuncWrites
import Derived.Shelf.Abstract
import Derived.Shelf.RegionOpen
import Derived.OwnWalkIn
import Derived.TacticsInMore
import Derived.LoopNIn
import Derived.LoopIn
import Derived.RangeFuncBound
import Derived.WalkKit
import Derived.WalkSpells
import Derived.WalkLawsBesides
import Derived.Laws.EntriesVeiled
import Derived.ProofKit
import Derived.OpenShut
import Derived.Lib.Hide
import Derived.BigQuiet
import Derived.Deep.QuietTactic
import Derived.Deep.CutRange
import Derived.StillTailTactics
import Derived.Lib.SliceRun
import Derived.RangeFuncRecord
import Derived.Carry
import Derived.ChangeKeysEq
import Derived.Below
import Derived.Laws.OwnMore
import Derived.Deep.AppendLies
import Derived.Deep.Draws
import Derived.Laws.Rows
import Derived.Maps.AppendAt
import Derived.RegionTactic
import Derived.OwnWalk
import Derived.Deep.RegionHeld3
namespace Go.Proofs.YthkmpegpmpdhaaaGreatDoor
section
open Go.Shelf Go.ChangeShapes Go.WideShapes Go.ChangeAt Go.RowKit
set_option linter.unusedSimpArgs false
set_option linter.unusedVariables false
/-- A check: a bound method, what it answers, and the error that it stands for. -/
structure Ck where
  fn : Nat
  args : Array Value
  er : Int
  b : Bool
abbrev ckR : RowTy Ck := { T := 122, S := 202, k := 2, by' := 16, enc := fun x => [.func (.func x.fn) x.args #[], .int .i64 x.er] }
theorem RecIn.ck {w : World} {B : Nat} {A : Option Addr} {l : List Ck} (h : RecIn ckR w B A l) {j : Nat} {x : Ck} (hj : l[j]? = some x) : ∃ b off, A = some ⟨b, off, none⟩ ∧ b < B ∧ w.cell? ⟨b, off + j * 2, none⟩ = some (.func (.func x.fn) x.args #[]) ∧ w.cell? ⟨b, off + j * 2 + 1, none⟩ = some (.int .i64 x.er) := by
  obtain ⟨b, off, e, hb, hc⟩ := h j x hj
  exact ⟨b, off, e, hb, hc 0 _ rfl, hc 1 _ rfl⟩
/-- The error of the first check that fails. -/
def firstE : List Ck → Int
  | [] => 0
  | c :: t => if c.b = true then c.er else firstE t
theorem drop_cons2 {α : Type} {l : List α} {k : Nat} {x : α} (hx : l[k]? = some x) : l.drop k = x :: l.drop (k + 1) := drop_cons hx
set_option maxRecDepth 100000 in
set_option maxHeartbeats 2000000 in
theorem firstError42 (l : List Ck) (A : Option Addr) (n c : Nat) (w : World) (h : RecIn ckR w w.heap.size A l) (hn : Hid (n = l.length)) (hnm : n ≤ 1000)
    (hcall : ∀ x ∈ l, (∀ args w, (callFunc x.fn args).run Tryz.prog w = .ok (.enter x.fn args) w) ∧ ∀ X, Keeps w X → Calls Tryz.prog x.fn x.args X (BoolPost x.b X)) :
    Calls Tryz.prog 42 #[.slice A n c] w fun e w' => e = .returned (.int .i64 (firstE l)) ∧ Keeps w w' := by
  have HD := Lib.hid h
  have HCA := Lib.hid hcall
  clear h hcall
  obtain ⟨r, hr⟩ : ∃ r, firstE l = r := ⟨_, rfl⟩
  have HR := Lib.hid hr
  rw [hr]
  clear hr
  go_enter Tryz.func42, Tryz.ntmps42
  go_wp2_with fail
  go_loopw [7, 4] (fun i z wx => ∃ k : Nat, k ≤ n ∧ i = .int .i64 (k : Int) ∧ Keeps w wx ∧ firstE (l.drop k) = r) (fun i _ _ => n - (intOf i).toNat)
  case atStart => exact ⟨0, by omega, rfl, Keeps.refl w, HR.out⟩
  case round =>
    obtain ⟨k, hk, rfl, hK, hall⟩ := hrel
    have HK := Lib.hid hK
    clear hK
    have hnl := hn.out
    by_cases hkn : k < n
    · obtain ⟨x, hx⟩ : ∃ x, l[k]? = some x := ⟨_, List.getElem?_eq_getElem (by omega)⟩
      rw [drop_cons hx] at hall
      have HALL := Lib.hid hall
      obtain ⟨fn, args, er, bo⟩ := x
      obtain ⟨b, o, rfl, hb, c0, c1⟩ := (HD.out.keep HK.out).ck hx
      have eg := (HCA.out _ (List.mem_of_getElem? hx)).1
      have HC := Lib.hid ((HCA.out _ (List.mem_of_getElem? hx)).2 (wr.alloc (.cells #[.func (.func fn) args #[], .int .i64 er] 122)) (HK.out.trans ((Keeps.refl wr).alloc _)))
      have kn : (k : Int) < (n : Int) := by omega
      have k0 : (0 : Int) ≤ (k : Int) := by omega
      have kw : IntKind.i64.wrap ((k : Int) + 1) = (k : Int) + 1 := wrap_in (by omega) (by omega)
      have K1 := Lib.hid (HK.out.trans ((Keeps.refl wr).alloc (.cells #[.func (.func fn) args #[], .int .i64 er] 122)))
      have HB := Blk.new wr 122 #[.func (.func fn) args #[], .int .i64 er]
      have SOF := Lib.hid (show ∀ X, Keeps (wr.alloc (.cells #[.func (.func fn) args #[], .int .i64 er] 122)) X → X.cell? ⟨wr.heap.size, 1, none⟩ = some (.int .i64 er) from fun X hX => cell_keep (HB.cell 1) hX)
      clear hx hnl hall HB
      cases bo
      · have HN := Lib.hid (show firstE (l.drop (k + 1)) = r from HALL.out)
        go_wp2_with fail
        refine HC.out.mono ?_
        rintro e w4 ⟨rfl, hk4⟩
        have K4 := Lib.hid (K1.out.trans hk4)
        clear hk4
        go_wp2_with fail
        go_roundw
        case rel => exact ⟨k + 1, by omega, by go_num, K4.out, HN.out⟩
        case measure => simp [intOf]; omega
      · have HF := Lib.hid (show er = r from HALL.out)
        go_wp2_with fail
        refine HC.out.mono ?_
        rintro e w4 ⟨rfl, hk4⟩
        have K4 := Lib.hid (K1.out.trans hk4)
        have c1b := SOF.out _ hk4
        clear hk4
        go_wp2_with fail
        go_ret
        exact ⟨by rw [← HF.out]; rfl, K4.out⟩
    · have e : l.drop k = [] := List.drop_eq_nil_of_le (by omega)
      rw [e] at hall
      have HF := Lib.hid (show r = 0 from hall.symm)
      have hkn' : ¬ ((k : Int) < (n : Int)) := by omega
      clear hnl e hall
      go_wp2_with fail
      go_ret
      exact ⟨by rw [HF.out]; rfl, HK.out⟩
end
section
open Go.Shelf Go.ChangeShapes Go.WideShapes Go.ChangeAt Go.RowKit
set_option linter.unusedSimpArgs false
set_option linter.unusedVariables false
def doc0 (fr tw : Int) (lab : ByteArray) (ti : Int) (con : List ByteArray) : Dc := ⟨lab, fr, tw, ti, con.length, rootF con, 0, 0⟩
def doc1 (ks : List Int) (d : Dc) : Dc := { d with gv := dgF (firstF ks d) }
def doc2 (ks : List Int) (d : Dc) : Dc := { doc1 ks d with tk := dgF (secondF ks (doc1 ks d)) }
def WriteP (ok : Bool) (d : Dc) (w : World) (e : Ending) (w' : World) : Prop := (∃ d' er, e = .returned (.tuple #[docA d', .int .i64 er]) ∧ (ok = true → er = 0 ∧ d' = d) ∧ (ok = false → er = 1)) ∧ Keeps w w'
theorem label_small {s : ByteArray} (h : labelF s = true) : s.size ≤ 20 := by
  by_cases h2 : 20 < s.size
  · rw [labelF_long h2] at h; exact absurd h (by simp)
  · omega
theorem malF_range {ks : List Int} {d : Dc} (h : malF ks d = false) : labelF d.sl = true ∧ 0 ≤ d.fr ∧ d.fr < ks.length ∧ 0 ≤ d.tw ∧ d.tw < ks.length := by
  simp only [malF, Bool.not_eq_false', Bool.and_eq_true, belowF, decide_eq_true_eq] at h
  exact ⟨h.2.1, h.2.2.1.1, h.2.2.1.2, h.2.2.2.1.1, h.2.2.2.1.2⟩
set_option maxRecDepth 100000 in
set_option maxHeartbeats 2000000 in
theorem write_bad (fr tw : Int) (lab : ByteArray) (ti : Int) (con : List ByteArray) (kv : Value) (CA : Option Addr) (cn cc : Nat) (w : World) (hc : RecIn strR w w.heap.size CA con) (hcn : Hid (cn = con.length)) (hcx : cn ≤ 1000000) (hcs : ∀ s ∈ con, s.size ≤ 9223372036854775807) (ht : Tab w) (hok : areContF con = false) (d : Dc) :
    Calls Tryz.prog 18 #[kv, .int .i64 fr, .int .i64 tw, .string lab, .int .i64 ti, .slice CA cn cc] w (WriteP false d w) := by
  have k1 := (Keeps.refl w).alloc (.cells #[.string ⟨#[]⟩, .int .i64 0, .int .i64 0, .int .i64 0, .int .i64 0, .int .i64 0, .int .i64 0, .int .i64 0] 54)
  have HC := Lib.hid (areContents40 con CA cn cc _ (hc.keep k1) hcn (by omega) (fun s hs => Nat.le_trans (hcs s hs) (by omega)) (ht.keep k1))
  rw [hok] at HC
  have HB := Lib.hid (Blk.new w 54 #[.string ⟨#[]⟩, .int .i64 0, .int .i64 0, .int .i64 0, .int .i64 0, .int .i64 0, .int .i64 0, .int .i64 0])
  have K1 := Lib.hid k1
  clear hc hcn hcs ht k1
  go_enter Tryz.func18, Tryz.ntmps18
  go_wp2_with (go_at_call 40; (with_reducible refine HC.out.mono ?_); rintro e w2 ⟨rfl, hk⟩; have HK := Lib.hid hk; have hB := HB.out.below hk (by simp); have q0 := hB.cell 0; have q1 := hB.cell 1; have q2 := hB.cell 2; have q3 := hB.cell 3; have q4 := hB.cell 4; have q5 := hB.cell 5; have q6 := hB.cell 6; have q7 := hB.cell 7; simp at q0 q1 q2 q3 q4 q5 q6 q7; have f0 := hB.frozen 0; have f1 := hB.frozen 1; have f2 := hB.frozen 2; have f3 := hB.frozen 3; have f4 := hB.frozen 4; have f5 := hB.frozen 5; have f6 := hB.frozen 6; have f7 := hB.frozen 7; clear hk hB)
  refine bodyPost_ret (v := .tuple #[docA ⟨⟨#[]⟩, 0, 0, 0, 0, 0, 0, 0⟩, .int .i64 1]) (by simp [results, Tryz.results18, go_sem, q0, q1, q2, q3, q4, q5, q6, q7]) rfl ?_
  have hk := K1.out.trans HK.out
  exact ⟨⟨_, _, rfl, fun e => (by cases e), fun _ => rfl⟩, (((((((hk.setCell (Nat.le_refl _) _).setCell (Nat.le_refl _) _).setCell (Nat.le_refl _) _).setCell (Nat.le_refl _) _).setCell (Nat.le_refl _) _).setCell (Nat.le_refl _) _).setCell (Nat.le_refl _) _).setCell (Nat.le_refl _) _⟩
set_option maxRecDepth 100000 in
theorem mal_check (d : Dc) (ks : List Int) (A : Option Addr) (n c : Nat) (w : World) (h : RecIn intR w w.heap.size A ks) (hn : Hid (n = ks.length)) (hnm : n ≤ 1000000) (hs : d.sl.size ≤ 9223372036854775807) (ht : Tab w) (b : Bool) (hb : malF ks d = b) :
    ∀ W, Keeps w W → Calls Tryz.prog 42 #[.slice (some ⟨W.heap.size, 0, none⟩) 1 1] (W.alloc (.cells #[.func (.func 43) #[sgA d (.slice A n c)] #[], .int .i64 1] 122)) fun e w' => e = .returned (.int .i64 (if b = true then 1 else 0)) ∧ Keeps (W.alloc (.cells #[.func (.func 43) #[sgA d (.slice A n c)] #[], .int .i64 1] 122)) w' := by
  intro W hW
  refine firstError42 [⟨43, #[sgA d (.slice A n c)], 1, b⟩] _ _ _ _ (RecIn.of_blk (fun _ => rfl) (Blk.new W 122 #[.func (.func 43) #[sgA d (.slice A n c)] #[], .int .i64 1]) rfl (by simp)) (Lib.hid rfl) (by omega) ?_
  intro x hx
  rw [List.mem_singleton] at hx
  subst hx
  refine ⟨fun _ _ => rfl, fun X hX => ?_⟩
  have hk : Keeps w X := (hW.trans ((Keeps.refl W).alloc _)).trans hX
  have := malformed43 d ks A n c X (h.keep hk) hn hnm hs (ht.keep hk)
  rw [hb] at this
  exact this
set_option maxRecDepth 100000 in
set_option maxHeartbeats 4000000 in
theorem write_mal (ks : List Int) (fr tw : Int) (lab : ByteArray) (ti : Int) (con : List ByteArray) (KA : Option Addr) (kn kc : Nat) (CA : Option Addr) (cn cc : Nat) (w : World) (hk : RecIn intR w w.heap.size KA ks) (hkn : Hid (kn = ks.length)) (hkx : kn ≤ 1000000) (hl : lab.size ≤ 9223372036854775807)
    (hc : RecIn strR w w.heap.size CA con) (hcn : Hid (cn = con.length)) (hcx : cn ≤ 1000000) (hcs : ∀ s ∈ con, s.size ≤ 1000000) (ht : Tab w) (hok : areContF con = true) (hm : malF ks (doc0 fr tw lab ti con) = true) (d : Dc) :
    Calls Tryz.prog 18 #[.slice KA kn kc, .int .i64 fr, .int .i64 tw, .string lab, .int .i64 ti, .slice CA cn cc] w (WriteP false d w) := by
  have hc0 : 1 ≤ cn ∧ cn ≤ 40 := by
    simp only [areContF, Bool.and_eq_true, decide_eq_true_eq] at hok
    have := hcn.out
    omega
  have hce := hcn.out
  have k1 := (Keeps.refl w).alloc (.cells #[.string ⟨#[]⟩, .int .i64 0, .int .i64 0, .int .i64 0, .int .i64 0, .int .i64 0, .int .i64 0, .int .i64 0] 54)
  have HC := Lib.hid (areContents40 con CA cn cc _ (hc.keep k1) hcn (by omega) (fun s hs => Nat.le_trans (hcs s hs) (by omega)) (ht.keep k1))
  rw [hok] at HC
  have HRT := Lib.hid (show ∀ X, Keeps w X → Calls Tryz.prog 41 #[.slice CA cn cc] X fun e w' => e = .returned (.int .i64 (rootF con)) ∧ Keeps X w' from fun X hX => root41 con CA cn cc X (hc.keep hX) hcn (by omega) (by omega) hcs)
  have HM := Lib.hid (mal_check (doc0 fr tw lab ti con) ks KA kn kc w hk hkn hkx hl ht true hm)
  have hd : doc0 fr tw lab ti con = ⟨lab, fr, tw, ti, (cn : Int), rootF con, 0, 0⟩ := by rw [hcn.out]; rfl
  rw [hd] at HM
  generalize rootF con = rt at *
  replace HM := Lib.hid (show ∀ W, Keeps w W → Calls Tryz.prog 42 #[.slice (some ⟨W.heap.size, 0, none⟩) 1 1] (W.alloc (.cells #[.func (.func 43) #[.agg #[.string lab, .int .i64 fr, .int .i64 tw, .int .i64 ti, .int .i64 (cn : Int), .int .i64 rt, .int .i64 0, .int .i64 0, .slice KA kn kc]] #[], .int .i64 1] 122)) fun e w' => e = .returned (.int .i64 1) ∧ Keeps (W.alloc (.cells #[.func (.func 43) #[.agg #[.string lab, .int .i64 fr, .int .i64 tw, .int .i64 ti, .int .i64 (cn : Int), .int .i64 rt, .int .i64 0, .int .i64 0, .slice KA kn kc]] #[], .int .i64 1] 122)) w' from HM.out)
  have HB := Lib.hid (Blk.new w 54 #[.string ⟨#[]⟩, .int .i64 0, .int .i64 0, .int .i64 0, .int .i64 0, .int .i64 0, .int .i64 0, .int .i64 0])
  have K1 := Lib.hid k1
  clear hc hce hcn hcs ht k1 hk hkn hd hm hok
  go_enter Tryz.func18, Tryz.ntmps18
  go_wp2_with (first | (go_at_call 40; (with_reducible refine HC.out.mono ?_); rintro e w2 ⟨rfl, hk⟩; have HK := Lib.hid (K1.out.trans hk); have HB2 := Lib.hid (HB.out.below hk (by simp)); clear hk) | (go_at_call 41; (with_reducible refine (HRT.out _ HK.out).mono ?_); rintro e w3 ⟨rfl, hk⟩; have HK3 := Lib.hid (HK.out.trans hk); have HB3 := Lib.hid (HB2.out.below hk HB2.out.lt); have hm4 := HM.out ((w3.alloc (.cells #[.string lab, .int .i64 fr, .int .i64 tw, .int .i64 ti, .int .i64 (cn : Int), .int .i64 rt, .int .i64 0, .int .i64 0] 54)).alloc (.cells #[.string lab, .int .i64 fr, .int .i64 tw, .int .i64 ti, .int .i64 (cn : Int), .int .i64 rt, .int .i64 0, .int .i64 0, .slice KA kn kc] 119)) ((HK3.out.alloc _).alloc _); simp only [World.size_alloc] at hm4; have HM4 := Lib.hid hm4; clear hk hm4) | (go_at_call 42; (with_reducible refine (HM4.out).mono ?_); rintro e w5 ⟨rfl, hk⟩; have HK5 := Lib.hid ((((HK3.out.alloc (.cells #[.string lab, .int .i64 fr, .int .i64 tw, .int .i64 ti, .int .i64 (cn : Int), .int .i64 rt, .int .i64 0, .int .i64 0] 54)).alloc (.cells #[.string lab, .int .i64 fr, .int .i64 tw, .int .i64 ti, .int .i64 (cn : Int), .int .i64 rt, .int .i64 0, .int .i64 0, .slice KA kn kc] 119)).alloc (.cells #[.func (.func 43) #[.agg #[.string lab, .int .i64 fr, .int .i64 tw, .int .i64 ti, .int .i64 (cn : Int), .int .i64 rt, .int .i64 0, .int .i64 0, .slice KA kn kc]] #[], .int .i64 1] 122)).trans hk); have hB := ((((HB3.out.alloc (.cells #[.string lab, .int .i64 fr, .int .i64 tw, .int .i64 ti, .int .i64 (cn : Int), .int .i64 rt, .int .i64 0, .int .i64 0] 54)).alloc (.cells #[.string lab, .int .i64 fr, .int .i64 tw, .int .i64 ti, .int .i64 (cn : Int), .int .i64 rt, .int .i64 0, .int .i64 0, .slice KA kn kc] 119)).alloc (.cells #[.func (.func 43) #[.agg #[.string lab, .int .i64 fr, .int .i64 tw, .int .i64 ti, .int .i64 (cn : Int), .int .i64 rt, .int .i64 0, .int .i64 0, .slice KA kn kc]] #[], .int .i64 1] 122)).below hk (by simp; have := HB3.out.lt; omega)); have q0 := hB.cell 0; have q1 := hB.cell 1; have q2 := hB.cell 2; have q3 := hB.cell 3; have q4 := hB.cell 4; have q5 := hB.cell 5; have q6 := hB.cell 6; have q7 := hB.cell 7; simp at q0 q1 q2 q3 q4 q5 q6 q7; have f0 := hB.frozen 0; have f1 := hB.frozen 1; have f2 := hB.frozen 2; have f3 := hB.frozen 3; have f4 := hB.frozen 4; have f5 := hB.frozen 5; have f6 := hB.frozen 6; have f7 := hB.frozen 7; clear hk hB))
  refine bodyPost_ret (v := .tuple #[docA ⟨⟨#[]⟩, 0, 0, 0, 0, 0, 0, 0⟩, .int .i64 1]) (by simp [results, Tryz.results18, go_sem, q0, q1, q2, q3, q4, q5, q6, q7]) rfl ?_
  have hk := HK5.out
  exact ⟨⟨_, _, rfl, fun e => (by cases e), fun _ => rfl⟩, (((((((hk.setCell (Nat.le_refl _) _).setCell (Nat.le_refl _) _).setCell (Nat.le_refl _) _).setCell (Nat.le_refl _) _).setCell (Nat.le_refl _) _).setCell (Nat.le_refl _) _).setCell (Nat.le_refl _) _).setCell (Nat.le_refl _) _⟩
set_option maxRecDepth 100000 in
set_option maxHeartbeats 8000000 in
theorem write_ok (ks : List Int) (fr tw : Int) (lab : ByteArray) (ti : Int) (con : List ByteArray) (KA : Option Addr) (kn kc : Nat) (CA : Option Addr) (cn cc : Nat) (w : World) (hk : RecIn intR w w.heap.size KA ks) (hkn : Hid (kn = ks.length)) (hkx : kn ≤ 1000000) (hl : lab.size ≤ 1000000)
    (hc : RecIn strR w w.heap.size CA con) (hcn : Hid (cn = con.length)) (hcx : cn ≤ 1000000) (hcs : ∀ s ∈ con, s.size ≤ 1000000) (ht : Tab w) (hok : areContF con = true) (hm : malF ks (doc0 fr tw lab ti con) = false) :
    Calls Tryz.prog 18 #[.slice KA kn kc, .int .i64 fr, .int .i64 tw, .string lab, .int .i64 ti, .slice CA cn cc] w (WriteP true (doc2 ks (doc0 fr tw lab ti con)) w) := by
  have hc0 : 1 ≤ cn ∧ cn ≤ 40 := by
    simp only [areContF, Bool.and_eq_true, decide_eq_true_eq] at hok
    have := hcn.out
    omega
  obtain ⟨hr1, hr2, hr3, hr4, hr5⟩ := malF_range hm
  rw [← hkn.out] at hr3 hr5
  have k1 := (Keeps.refl w).alloc (.cells #[.string ⟨#[]⟩, .int .i64 0, .int .i64 0, .int .i64 0, .int .i64 0, .int .i64 0, .int .i64 0, .int .i64 0] 54)
  have HC := Lib.hid (areContents40 con CA cn cc _ (hc.keep k1) hcn (by omega) (fun s hs => Nat.le_trans (hcs s hs) (by omega)) (ht.keep k1))
  rw [hok] at HC
  have HRT := Lib.hid (show ∀ X, Keeps w X → Calls Tryz.prog 41 #[.slice CA cn cc] X fun e w' => e = .returned (.int .i64 (rootF con)) ∧ Keeps X w' from fun X hX => root41 con CA cn cc X (hc.keep hX) hcn (by omega) (by omega) hcs)
  have HM := Lib.hid (mal_check (doc0 fr tw lab ti con) ks KA kn kc w hk hkn hkx (Nat.le_trans hl (by omega)) ht false hm)
  have HF := Lib.hid (show ∀ X, Keeps w X → _ from fun X hX => first44 (doc0 fr tw lab ti con) ks KA kn kc X (hk.keep hX) hkn hkx hl hr2 hr3)
  have HS := Lib.hid (show ∀ X, Keeps w X → _ from fun X hX => second45 (doc1 ks (doc0 fr tw lab ti con)) ks KA kn kc X (hk.keep hX) hkn hkx hr4 hr5)
  have L1 := Lib.hid (show (firstF ks (doc0 fr tw lab ti con)).length = 7 from rfl)
  have L2 := Lib.hid (show (secondF ks (doc1 ks (doc0 fr tw lab ti con))).length = 2 from rfl)
  have hd : doc2 ks (doc0 fr tw lab ti con) = ⟨lab, fr, tw, ti, (cn : Int), rootF con, dgF (firstF ks (doc0 fr tw lab ti con)), dgF (secondF ks (doc1 ks (doc0 fr tw lab ti con)))⟩ := by rw [hcn.out]; rfl
  have hd1 : doc1 ks (doc0 fr tw lab ti con) = ⟨lab, fr, tw, ti, (cn : Int), rootF con, dgF (firstF ks (doc0 fr tw lab ti con)), 0⟩ := by rw [hcn.out]; rfl
  have hd0 : doc0 fr tw lab ti con = ⟨lab, fr, tw, ti, (cn : Int), rootF con, 0, 0⟩ := by rw [hcn.out]; rfl
  rw [hd]
  generalize hl2 : secondF ks (doc1 ks (doc0 fr tw lab ti con)) = l2 at *
  rw [hd1] at HS
  generalize hl1 : firstF ks (doc0 fr tw lab ti con) = l1 at *
  rw [hd0] at HF HM
  clear hd hd1 hd0 hl1 hl2 hm hok hr1
  generalize rootF con = rt at *
  generalize hg1 : dgF l1 = g1 at *
  generalize hg2 : dgF l2 = g2 at *
  have HG1 := Lib.hid hg1; have HG2 := Lib.hid hg2
  clear hg1 hg2
  replace HM := Lib.hid (show ∀ W, Keeps w W → Calls Tryz.prog 42 #[.slice (some ⟨W.heap.size, 0, none⟩) 1 1] (W.alloc (.cells #[.func (.func 43) #[.agg #[.string lab, .int .i64 fr, .int .i64 tw, .int .i64 ti, .int .i64 (cn : Int), .int .i64 rt, .int .i64 0, .int .i64 0, .slice KA kn kc]] #[], .int .i64 1] 122)) fun e w' => e = .returned (.int .i64 0) ∧ Keeps (W.alloc (.cells #[.func (.func 43) #[.agg #[.string lab, .int .i64 fr, .int .i64 tw, .int .i64 ti, .int .i64 (cn : Int), .int .i64 rt, .int .i64 0, .int .i64 0, .slice KA kn kc]] #[], .int .i64 1] 122)) w' from HM.out)
  replace HF := Lib.hid (show ∀ X, Keeps w X → Calls Tryz.prog 44 #[.agg #[.string lab, .int .i64 fr, .int .i64 tw, .int .i64 ti, .int .i64 (cn : Int), .int .i64 rt, .int .i64 0, .int .i64 0, .slice KA kn kc]] X (RowPost l1 X) from HF.out)
  replace HS := Lib.hid (show ∀ X, Keeps w X → Calls Tryz.prog 45 #[.agg #[.string lab, .int .i64 fr, .int .i64 tw, .int .i64 ti, .int .i64 (cn : Int), .int .i64 rt, .int .i64 g1, .int .i64 0, .slice KA kn kc]] X (RowPost l2 X) from HS.out)
  have SG := Lib.hid (show ∀ (l : List Int) X A n c Y, l.length ≤ 7 → OwnR intR Y X (.slice A n c) l → Calls Tryz.prog 27 #[.slice A n c] X fun e w' => e = .returned (.int .i64 (dgF l)) ∧ Keeps X w' from fun l X A n c Y hl hO => sum27 l A n c X (hO.recs intOk).1 (Lib.hid (own_lenR hO)) (by have := own_lenR hO; omega))
  have HB := Lib.hid (Blk.new w 54 #[.string ⟨#[]⟩, .int .i64 0, .int .i64 0, .int .i64 0, .int .i64 0, .int .i64 0, .int .i64 0, .int .i64 0])
  have K1 := Lib.hid k1
  clear hc hcn hcs ht k1 hk hkn hr2 hr3 hr4 hr5 hl
  go_enter Tryz.func18, Tryz.ntmps18
  go_wp2_with (first | (go_at_call 40; (with_reducible refine HC.out.mono ?_); rintro e w2 ⟨rfl, hk⟩; have HK := Lib.hid (K1.out.trans hk); have HB2 := Lib.hid (HB.out.below hk (by simp)); clear hk) | (go_at_call 41; (with_reducible refine (HRT.out _ HK.out).mono ?_); rintro e w3 ⟨rfl, hk⟩; have HK3 := Lib.hid (HK.out.trans hk); have HB3 := Lib.hid (HB2.out.below hk HB2.out.lt); have hm4 := HM.out ((w3.alloc (.cells #[.string lab, .int .i64 fr, .int .i64 tw, .int .i64 ti, .int .i64 (cn : Int), .int .i64 rt, .int .i64 0, .int .i64 0] 54)).alloc (.cells #[.string lab, .int .i64 fr, .int .i64 tw, .int .i64 ti, .int .i64 (cn : Int), .int .i64 rt, .int .i64 0, .int .i64 0, .slice KA kn kc] 119)) ((HK3.out.alloc _).alloc _); simp only [World.size_alloc] at hm4; have HM4 := Lib.hid hm4; have b3 := (Blk.new (w3.alloc (.cells #[.string lab, .int .i64 fr, .int .i64 tw, .int .i64 ti, .int .i64 (cn : Int), .int .i64 rt, .int .i64 0, .int .i64 0] 54)) 119 #[.string lab, .int .i64 fr, .int .i64 tw, .int .i64 ti, .int .i64 (cn : Int), .int .i64 rt, .int .i64 0, .int .i64 0, .slice KA kn kc]).alloc (.cells #[.func (.func 43) #[.agg #[.string lab, .int .i64 fr, .int .i64 tw, .int .i64 ti, .int .i64 (cn : Int), .int .i64 rt, .int .i64 0, .int .i64 0, .slice KA kn kc]] #[], .int .i64 1] 122); rw [World.size_alloc] at b3; have B3 := Lib.hid b3; have HSZ := Lib.hid (show w.heap.size ≤ w3.heap.size + 1 from Nat.le_succ_of_le (Below.size HK3.out)); clear hk hm4 b3) | (go_at_call 42; (with_reducible refine (HM4.out).mono ?_); rintro e w5 ⟨rfl, hk⟩; have HK5 := Lib.hid ((((HK3.out.alloc (.cells #[.string lab, .int .i64 fr, .int .i64 tw, .int .i64 ti, .int .i64 (cn : Int), .int .i64 rt, .int .i64 0, .int .i64 0] 54)).alloc (.cells #[.string lab, .int .i64 fr, .int .i64 tw, .int .i64 ti, .int .i64 (cn : Int), .int .i64 rt, .int .i64 0, .int .i64 0, .slice KA kn kc] 119)).alloc (.cells #[.func (.func 43) #[.agg #[.string lab, .int .i64 fr, .int .i64 tw, .int .i64 ti, .int .i64 (cn : Int), .int .i64 rt, .int .i64 0, .int .i64 0, .slice KA kn kc]] #[], .int .i64 1] 122)).trans hk); have HB5 := Lib.hid ((((HB3.out.alloc (.cells #[.string lab, .int .i64 fr, .int .i64 tw, .int .i64 ti, .int .i64 (cn : Int), .int .i64 rt, .int .i64 0, .int .i64 0] 54)).alloc (.cells #[.string lab, .int .i64 fr, .int .i64 tw, .int .i64 ti, .int .i64 (cn : Int), .int .i64 rt, .int .i64 0, .int .i64 0, .slice KA kn kc] 119)).alloc (.cells #[.func (.func 43) #[.agg #[.string lab, .int .i64 fr, .int .i64 tw, .int .i64 ti, .int .i64 (cn : Int), .int .i64 rt, .int .i64 0, .int .i64 0, .slice KA kn kc]] #[], .int .i64 1] 122)).below hk (by simp; have := HB3.out.lt; omega)); have BT5 := Lib.hid (B3.out.below hk (by simp)); have hne : ¬ (w.heap.size = w3.heap.size + 1) := (by have h1 := HB3.out.lt; omega); have hne2 : ¬ (w3.heap.size + 1 = w.heap.size) := (by omega); have p0 := BT5.out.cell 0; have p1 := BT5.out.cell 1; have p2 := BT5.out.cell 2; have p3 := BT5.out.cell 3; have p4 := BT5.out.cell 4; have p5 := BT5.out.cell 5; have p6 := BT5.out.cell 6; have p7 := BT5.out.cell 7; have p8 := BT5.out.cell 8; simp at p0 p1 p2 p3 p4 p5 p6 p7 p8; clear hk) | (go_at_call 44; (with_reducible refine (HF.out _ HK5.out).mono ?_); rintro e w6 ⟨A6, n6, c6, rfl, ho6⟩; have O6 := Lib.hid ho6; clear ho6) | (go_at_call 27; (with_reducible refine (SG.out l1 _ _ _ _ _ (by rw [L1.out]; omega) O6.out).mono ?_); rintro e w7 ⟨rfl, hk⟩; rw [HG1.out]; have k57 := O6.out.2.trans hk; have HK7 := Lib.hid (HK5.out.trans k57); have HB7 := Lib.hid (HB5.out.below k57 HB5.out.lt); have BT7 := Lib.hid (BT5.out.below k57 BT5.out.lt); have r0 := BT7.out.cell 0; have r1 := BT7.out.cell 1; have r2 := BT7.out.cell 2; have r3 := BT7.out.cell 3; have r4 := BT7.out.cell 4; have r5 := BT7.out.cell 5; have r6 := BT7.out.cell 6; have r7 := BT7.out.cell 7; have r8 := BT7.out.cell 8; simp at r0 r1 r2 r3 r4 r5 r6 r7 r8; have rf6 := BT7.out.frozen 6; clear hk k57) | (go_at_call 45; (with_reducible refine (HS.out _ (HK7.out.setCell (p := ⟨w3.heap.size + 1, 6, none⟩) HSZ.out _)).mono ?_); rintro e w8 ⟨A8, n8, c8, rfl, ho8⟩; have O8 := Lib.hid ho8; clear ho8) | (go_at_call 27; (with_reducible refine (SG.out l2 _ _ _ _ _ (by rw [L2.out]; omega) O8.out).mono ?_); rintro e w9 ⟨rfl, hk⟩; rw [HG2.out]; have k79 := O8.out.2.trans hk; have HK9 := Lib.hid ((HK7.out.setCell (p := ⟨w3.heap.size + 1, 6, none⟩) HSZ.out _).trans k79); have hb9 := (HB7.out.far (p := ⟨w3.heap.size + 1, 6, none⟩) hne (.int .i64 g1)).below k79 (HB7.out.far (p := ⟨w3.heap.size + 1, 6, none⟩) hne (.int .i64 g1)).lt; have bt9 := (BT7.out.set_ 6 (.int .i64 g1)).below k79 (BT7.out.set_ 6 (.int .i64 g1)).lt; have s0 := bt9.cell 0; have s1 := bt9.cell 1; have s2 := bt9.cell 2; have s3 := bt9.cell 3; have s4 := bt9.cell 4; have s5 := bt9.cell 5; have s6 := bt9.cell 6; have s7 := bt9.cell 7; have s8 := bt9.cell 8; simp at s0 s1 s2 s3 s4 s5 s6 s7 s8; have sf7 := bt9.frozen 7; have q0 := hb9.cell 0; have q1 := hb9.cell 1; have q2 := hb9.cell 2; have q3 := hb9.cell 3; have q4 := hb9.cell 4; have q5 := hb9.cell 5; have q6 := hb9.cell 6; have q7 := hb9.cell 7; simp at q0 q1 q2 q3 q4 q5 q6 q7; have f0 := hb9.frozen 0; have f1 := hb9.frozen 1; have f2 := hb9.frozen 2; have f3 := hb9.frozen 3; have f4 := hb9.frozen 4; have f5 := hb9.frozen 5; have f6 := hb9.frozen 6; have f7 := hb9.frozen 7; clear hk k79 hb9 bt9))
  refine bodyPost_ret (v := .tuple #[docA ⟨lab, fr, tw, ti, (cn : Int), rt, g1, g2⟩, .int .i64 0]) (by simp [results, Tryz.results18, go_sem, q0, q1, q2, q3, q4, q5, q6, q7, hne, hne2]) rfl ?_
  have hk := HK9.out.setCell (p := ⟨w3.heap.size + 1, 7, none⟩) HSZ.out (.int .i64 g2)
  exact ⟨⟨_, _, rfl, fun _ => ⟨rfl, rfl⟩, fun e => (by cases e)⟩, (((((((hk.setCell (Nat.le_refl _) _).setCell (Nat.le_refl _) _).setCell (Nat.le_refl _) _).setCell (Nat.le_refl _) _).setCell (Nat.le_refl _) _).setCell (Nat.le_refl _) _).setCell (Nat.le_refl _) _).setCell (Nat.le_refl _) _⟩
end
section
open Go.Shelf Go.ChangeShapes Go.WideShapes Go.ChangeAt Go.RowKit
set_option linter.unusedSimpArgs false
set_option linter.unusedVariables false
theorem remF_dg (l : List Int) : remF (dgF l) = true := by
  have := dgF_in l 7 (by omega) (by omega)
  unfold dgF
  simp [remF, belowF, this.1, this.2]
theorem malF_doc2 {ks : List Int} {d : Dc} (h : malF ks d = false) : malF ks (doc2 ks d) = false := by
  simp only [malF, Bool.not_eq_false', Bool.and_eq_true, List.all_cons, List.all_nil] at h ⊢
  obtain ⟨h1, h2, h3, h4, h5, h6, h7, h8, -⟩ := h
  exact ⟨h1, h2, h3, h4, h5, h6, h7, h8, remF_dg _, remF_dg _, trivial⟩
abbrev ppA (d : Dc) (lab : ByteArray) (ix : Int) (pv : Value) : Value := .agg #[.string d.sl, .int .i64 d.fr, .int .i64 d.tw, .int .i64 d.ti, .int .i64 d.ct, .int .i64 d.rt, .int .i64 d.gv, .int .i64 d.tk, .string lab, .int .i64 ix, pv]
def verE (lab : ByteArray) (ix : Int) (path : List Int) (ct rt : Int) : Int := if misF lab ix ct = true then 1 else if unF lab ix path rt = true then 190 else 0
set_option maxRecDepth 100000 in
theorem ver_check (d : Dc) (ks : List Int) (A : Option Addr) (n c : Nat) (lab : ByteArray) (ix : Int) (path : List Int) (PA : Option Addr) (p pc : Nat) (w : World) (h : RecIn intR w w.heap.size A ks) (hn : Hid (n = ks.length)) (hnm : n ≤ 1000000) (hs : d.sl.size ≤ 1000000) (ht : Tab w)
    (hp : RecIn intR w w.heap.size PA path) (hpn : Hid (p = path.length)) (hpx : p ≤ 1000000) (hl : lab.size ≤ 1000000) (hi : ix ≤ 9223372036854775807)
    (hm : malF ks d = false) (hg : d.gv = dgF (firstF ks d)) (hk : d.tk = dgF (secondF ks d)) :
    ∀ W, Keeps w W → Calls Tryz.prog 42 #[.slice (some ⟨W.heap.size, 0, none⟩) 4 4] (W.alloc (.cells #[.func (.func 43) #[sgA d (.slice A n c)] #[], .int .i64 1, .func (.func 46) #[sgA d (.slice A n c)] #[], .int .i64 330, .func (.func 47) #[shA d (.slice A n c) lab ix (.slice PA p pc)] #[], .int .i64 1, .func (.func 48) #[shA d (.slice A n c) lab ix (.slice PA p pc)] #[], .int .i64 190] 122)) fun e w' => e = .returned (.int .i64 (verE lab ix path d.ct d.rt)) ∧ Keeps (W.alloc (.cells #[.func (.func 43) #[sgA d (.slice A n c)] #[], .int .i64 1, .func (.func 46) #[sgA d (.slice A n c)] #[], .int .i64 330, .func (.func 47) #[shA d (.slice A n c) lab ix (.slice PA p pc)] #[], .int .i64 1, .func (.func 48) #[shA d (.slice A n c) lab ix (.slice PA p pc)] #[], .int .i64 190] 122)) w' := by
  intro W hW
  obtain ⟨-, r1, r2, r3, r4⟩ := malF_range hm
  rw [← hn.out] at r2 r4
  refine firstError42 [⟨43, #[sgA d (.slice A n c)], 1, false⟩, ⟨46, #[sgA d (.slice A n c)], 330, false⟩, ⟨47, #[shA d (.slice A n c) lab ix (.slice PA p pc)], 1, misF lab ix d.ct⟩, ⟨48, #[shA d (.slice A n c) lab ix (.slice PA p pc)], 190, unF lab ix path d.rt⟩] _ _ _ _ (RecIn.of_blk (fun _ => rfl) (Blk.new W 122 #[.func (.func 43) #[sgA d (.slice A n c)] #[], .int .i64 1, .func (.func 46) #[sgA d (.slice A n c)] #[], .int .i64 330, .func (.func 47) #[shA d (.slice A n c) lab ix (.slice PA p pc)] #[], .int .i64 1, .func (.func 48) #[shA d (.slice A n c) lab ix (.slice PA p pc)] #[], .int .i64 190]) rfl (by simp)) (Lib.hid rfl) (by omega) ?_
  intro x hx
  have hkk : ∀ X, Keeps (W.alloc (.cells #[.func (.func 43) #[sgA d (.slice A n c)] #[], .int .i64 1, .func (.func 46) #[sgA d (.slice A n c)] #[], .int .i64 330, .func (.func 47) #[shA d (.slice A n c) lab ix (.slice PA p pc)] #[], .int .i64 1, .func (.func 48) #[shA d (.slice A n c) lab ix (.slice PA p pc)] #[], .int .i64 190] 122)) X → Keeps w X := fun X hX => (hW.trans ((Keeps.refl W).alloc _)).trans hX
  simp only [List.mem_cons, List.not_mem_nil, or_false] at hx
  rcases hx with rfl | rfl | rfl | rfl
  · refine ⟨fun _ _ => rfl, fun X hX => ?_⟩
    have := malformed43 d ks A n c X (h.keep (hkk X hX)) hn hnm (Nat.le_trans hs (by omega)) (ht.keep (hkk X hX))
    rw [hm] at this
    exact this
  · exact ⟨fun _ _ => rfl, fun X hX => forged46 d ks A n c X (h.keep (hkk X hX)) hn hnm hs r1 r2 r3 r4 hg hk⟩
  · exact ⟨fun _ _ => rfl, fun X hX => misplaced47 d (.slice A n c) lab ix (.slice PA p pc) X (Nat.le_trans hl (by omega)) (ht.keep (hkk X hX))⟩
  · exact ⟨fun _ _ => rfl, fun X hX => unproved48 d (.slice A n c) lab ix path PA p pc X (hp.keep (hkk X hX)) hpn hpx hl hi⟩
set_option maxRecDepth 100000 in
set_option maxHeartbeats 4000000 in
theorem verify19 (d : Dc) (ks : List Int) (A : Option Addr) (n c : Nat) (lab : ByteArray) (ix : Int) (path : List Int) (PA : Option Addr) (p pc : Nat) (w : World) (h : RecIn intR w w.heap.size A ks) (hn : Hid (n = ks.length)) (hnm : n ≤ 1000000) (hs : d.sl.size ≤ 1000000) (ht : Tab w)
    (hp : RecIn intR w w.heap.size PA path) (hpn : Hid (p = path.length)) (hpx : p ≤ 1000000) (hl : lab.size ≤ 1000000) (hi : ix ≤ 9223372036854775807)
    (hm : malF ks d = false) (hg : d.gv = dgF (firstF ks d)) (hk : d.tk = dgF (secondF ks d)) :
    Calls Tryz.prog 19 #[.slice A n c, ppA d lab ix (.slice PA p pc)] w fun e w' => e = .returned (.int .i64 (verE lab ix path d.ct d.rt)) ∧ Keeps w w' := by
  have HV := Lib.hid (ver_check d ks A n c lab ix path PA p pc w h hn hnm hs ht hp hpn hpx hl hi hm hg hk)
  clear h hn hnm hs ht hp hpn hpx hl hi hm hg hk
  obtain ⟨sl, fr, tw, ti, ct, rt, gv, tk⟩ := d
  change Calls Tryz.prog 19 #[.slice A n c, .agg #[.string sl, .int .i64 fr, .int .i64 tw, .int .i64 ti, .int .i64 ct, .int .i64 rt, .int .i64 gv, .int .i64 tk, .string lab, .int .i64 ix, .slice PA p pc]] w fun e w' => e = .returned (.int .i64 (verE lab ix path ct rt)) ∧ Keeps w w'
  replace HV := Lib.hid (show ∀ W, Keeps w W → _ → Calls Tryz.prog 42 #[.slice (some ⟨W.heap.size, 0, none⟩) 4 4] (W.alloc (.cells #[.func (.func 43) #[.agg #[.string sl, .int .i64 fr, .int .i64 tw, .int .i64 ti, .int .i64 ct, .int .i64 rt, .int .i64 gv, .int .i64 tk, .slice A n c]] #[], .int .i64 1, .func (.func 46) #[.agg #[.string sl, .int .i64 fr, .int .i64 tw, .int .i64 ti, .int .i64 ct, .int .i64 rt, .int .i64 gv, .int .i64 tk, .slice A n c]] #[], .int .i64 330, .func (.func 47) #[.agg #[.string sl, .int .i64 fr, .int .i64 tw, .int .i64 ti, .int .i64 ct, .int .i64 rt, .int .i64 gv, .int .i64 tk, .slice A n c, .string lab, .int .i64 ix, .slice PA p pc]] #[], .int .i64 1, .func (.func 48) #[.agg #[.string sl, .int .i64 fr, .int .i64 tw, .int .i64 ti, .int .i64 ct, .int .i64 rt, .int .i64 gv, .int .i64 tk, .slice A n c, .string lab, .int .i64 ix, .slice PA p pc]] #[], .int .i64 190] 122)) fun e w' => e = .returned (.int .i64 (verE lab ix path ct rt)) ∧ Keeps (W.alloc (.cells #[.func (.func 43) #[.agg #[.string sl, .int .i64 fr, .int .i64 tw, .int .i64 ti, .int .i64 ct, .int .i64 rt, .int .i64 gv, .int .i64 tk, .slice A n c]] #[], .int .i64 1, .func (.func 46) #[.agg #[.string sl, .int .i64 fr, .int .i64 tw, .int .i64 ti, .int .i64 ct, .int .i64 rt, .int .i64 gv, .int .i64 tk, .slice A n c]] #[], .int .i64 330, .func (.func 47) #[.agg #[.string sl, .int .i64 fr, .int .i64 tw, .int .i64 ti, .int .i64 ct, .int .i64 rt, .int .i64 gv, .int .i64 tk, .slice A n c, .string lab, .int .i64 ix, .slice PA p pc]] #[], .int .i64 1, .func (.func 48) #[.agg #[.string sl, .int .i64 fr, .int .i64 tw, .int .i64 ti, .int .i64 ct, .int .i64 rt, .int .i64 gv, .int .i64 tk, .slice A n c, .string lab, .int .i64 ix, .slice PA p pc]] #[], .int .i64 190] 122)) w' from fun W hW (_ : True) => HV.out W hW)
  generalize verE lab ix path ct rt = er at HV ⊢
  have hv := HV.out ((w.alloc (.cells #[.string sl, .int .i64 fr, .int .i64 tw, .int .i64 ti, .int .i64 ct, .int .i64 rt, .int .i64 gv, .int .i64 tk, .string lab, .int .i64 ix, .slice PA p pc] 59)).alloc (.cells #[.string sl, .int .i64 fr, .int .i64 tw, .int .i64 ti, .int .i64 ct, .int .i64 rt, .int .i64 gv, .int .i64 tk, .slice A n c, .string lab, .int .i64 ix, .slice PA p pc] 125)) (((Keeps.refl w).alloc _).alloc _) trivial
  simp only [World.size_alloc] at hv
  have HV2 := Lib.hid hv
  clear HV hv
  go_enter Tryz.func19, Tryz.ntmps19
  go_wp2_with (go_at_call 42; (with_reducible refine HV2.out.mono ?_); rintro e w5 ⟨rfl, hk⟩; have HK5 := Lib.hid ((((Keeps.refl w).alloc _).alloc _).alloc _ |>.trans hk); clear hk)
  go_ret
  exact ⟨rfl, HK5.out⟩
end
end Go.Proofs.YthkmpegpmpdhaaaGreatDoor
