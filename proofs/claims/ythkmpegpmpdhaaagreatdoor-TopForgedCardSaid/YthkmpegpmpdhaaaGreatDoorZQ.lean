/- Part of the proof of TopOwnItem. Conditions: as stated in each theorem. -/
import Derived.Test.YthkmpegpmpdhaaaGreatDoorZP
import Derived.Test.YthkmpegpmpdhaaaGreatDoorZG
import Derived.Test.YthkmpegpmpdhaaaGreatDoorProg
import Derived.Deep.Cut
import Derived.WalkKit
import Derived.WalkSpells
import Derived.WalkLawsBesides
import Derived.Laws.EntriesVeiled
import Derived.ProofKit
import Derived.OpenShut
import Derived.Lib.Hide
import Derived.BigQuiet
import Derived.Deep.QuietTactic
import Derived.Deep.CutRange
import Derived.StillTailTactics
import Derived.Lib.SliceRun
import Derived.RangeFuncRecord
import Derived.Carry
import Derived.ChangeKeysEq
import Derived.Below
import Derived.Laws.OwnMore
import Derived.Deep.AppendLies
import Derived.Deep.Draws
import Derived.Laws.Rows
import Derived.Maps.AppendAt
import Derived.RegionTactic
import Derived.OwnWalk
import Derived.Deep.RegionHeld3
namespace Go.Proofs.YthkmpegpmpdhaaaGreatDoor
open Go.ChangeShapes Go.WideShapes Go.ChangeAt Go.RowKit
set_option linter.unusedSimpArgs false
set_option linter.unusedVariables false
/-- What the closure that follows manifests finds: its captured variables, the source, the table. -/
structure FEnv (l : List Scn) (rs : List Rec) (lA : Option Addr) (n lc : Nat) (rA : Option Addr) (m rc h : Nat) (F : Bool → ByteArray → Option Gr) (N sb size b2 b3 b4 b5 rf : Nat) (W : World) : Prop where
  src : SrcIs l rs lA n lc rA m rc h F N W sb
  nW : N ≤ W.heap.size
  nr : N ≤ rf
  c2 : W.cell? ⟨b2, 0, none⟩ = some (.int .i64 (size : Int))
  c3 : W.cell? ⟨b3, 0, none⟩ = some (.pointer (some ⟨sb, 0, none⟩))
  c4 : W.cell? ⟨b4, 0, none⟩ = some (.map (some rf))
  c5 : W.cell? ⟨b5, 0, none⟩ = some (.func (.func 60) #[] #[.pointer (some ⟨b2, 0, none⟩), .pointer (some ⟨b3, 0, none⟩), .pointer (some ⟨b4, 0, none⟩), .pointer (some ⟨b5, 0, none⟩)])
  tab : Tab W
theorem below_of_keeps {a b : World} {N : Nat} (h : Keeps a b) (hN : N ≤ a.heap.size) : Below N a b := Below.mono h hN
theorem below_of_grown {a b : World} {N r : Nat} (h : a.grownBy b (some r)) (hN : N ≤ a.heap.size) (hr : N ≤ r) : Below N a b := Below.grown (Below.refl N a) h hN (fun x e => by cases e; exact hr)
/-- The events found so far: the map at rf, by their texts. -/
def LoB (N : Nat) (v : Ev) : Prop := ∀ b o t, v.A = some ⟨b, o, t⟩ → N ≤ b
def FM (N : Nat) (W : World) (rf : Nat) (S : List (ByteArray × EvC)) : Prop :=
  ∃ L : List (ByteArray × Ev), StIs W rf (L.map fun p => (sv p.1, evA p.2)) ∧ (∀ p ∈ L, EvOk W W.heap.size p.2 ∧ LoB N p.2) ∧ L.map (fun p => (p.1, p.2.say)) = S
theorem FM.at_ {N : Nat} {W : World} {rf : Nat} {S : List (ByteArray × EvC)} (h : FM N W rf S) : MapAt W rf := by obtain ⟨L, h1, _⟩ := h; exact h1.at_
theorem FM.keep {N : Nat} {W W' : World} {rf : Nat} {S : List (ByteArray × EvC)} (h : FM N W rf S) (hk : Keeps W W') : FM N W' rf S := by
  obtain ⟨L, h1, h2, h3⟩ := h
  exact ⟨L, h1.keep hk, fun p hp => ⟨(h2 p hp).1.keep hk, (h2 p hp).2⟩, h3⟩
theorem FM.put {N : Nat} {W : World} {rf : Nat} {S : List (ByteArray × EvC)} (h : FM N W rf S) (v : Ev) (hv : EvOk W W.heap.size v) (hlo : LoB N v) :
    ∃ W', (Instr.mapUpdate 135 (.map (some rf)) (.string (textF v.say)) (evA v)).run Tryz.prog W = .ok () W' ∧ FM N W' rf (putE S v.say) ∧ W.grownBy W' (some rf) := by
  obtain ⟨L, h1, h2, h3⟩ := h
  have h1' : StIs W rf ((L.map fun p => (p.1, evA p.2)).map fun e => (sv e.1, e.2)) := by rw [List.map_map]; exact h1
  obtain ⟨W', hp, hs, hg⟩ := StIs.put (strKeys Tryz.underlying9) Tryz.underlying135 (textF v.say) (evA v) W rf _ h1'
  have hsv := Surv.of_grown h1.at_ hg
  refine ⟨W', hp, ⟨setG sEq (textF v.say) v L, ?_, fun p hpm => ?_, ?_⟩, hg⟩
  · rw [← setG_F, ← setG_map sEq (textF v.say) v evA, List.map_map] at hs
    exact hs
  · rcases setG_mem hpm with rfl | hpm
    · exact ⟨(hv.surv hsv).more hg.size, hlo⟩
    · exact ⟨((h2 p hpm).1.surv hsv).more hg.size, (h2 p hpm).2⟩
  · rw [setG_map sEq (textF v.say) v Ev.say, h3]
    rfl
section
variable {l : List Scn} {rs : List Rec} {lA rA : Option Addr} {n lc m rc h N sb size b2 b3 b4 b5 rf : Nat} {F : Bool → ByteArray → Option Gr} {W W' : World}
theorem FEnv.keep (E : FEnv l rs lA n lc rA m rc h F N sb size b2 b3 b4 b5 rf W) (hk : Keeps W W') : FEnv l rs lA n lc rA m rc h F N sb size b2 b3 b4 b5 rf W' :=
  ⟨E.src.below (below_of_keeps hk E.nW), Nat.le_trans E.nW hk.size, E.nr, cell_keep E.c2 hk, cell_keep E.c3 hk, cell_keep E.c4 hk, cell_keep E.c5 hk, E.tab.keep hk⟩
theorem FEnv.grown (E : FEnv l rs lA n lc rA m rc h F N sb size b2 b3 b4 b5 rf W) (hm : MapAt W rf) (hg : W.grownBy W' (some rf)) : FEnv l rs lA n lc rA m rc h F N sb size b2 b3 b4 b5 rf W' := by
  have hs := Surv.of_grown hm hg
  exact ⟨E.src.below (below_of_grown hg E.nW E.nr), Nat.le_trans E.nW hg.size, E.nr, hs _ _ E.c2, hs _ _ E.c3, hs _ _ E.c4, hs _ _ E.c5, E.tab.grown hm hg⟩
end
def FoPost (N : Nat) (S : List (ByteArray × EvC)) (rf : Nat) (W : World) (e : Ending) (W' : World) : Prop := e = .returned (.tuple #[]) ∧ W.grownBy W' (some rf) ∧ FM N W' rf S
/-- Between the rounds of the first loop. -/
def Lp1 (N : Nat) (l : List Scn) (rs : List Rec) (size : Nat) (ch zs : List Int) (rf : Nat) (S : List (ByteArray × EvC)) (w : World) (v : Value) (wr : World) : Prop :=
  ∃ i : Nat, i ≤ zs.length ∧ v = .int .i64 (i : Int) ∧ w.grownBy wr (some rf) ∧ FM N wr rf ((outsF l rs size ch (zs.take i)).foldl putE S)
def goF (l : List Scn) (rs : List Rec) (size f : Nat) (ch zs : List Int) : List EvC := zs.flatMap fun m => if hasF ch m then [] else followF l rs size f (recOf rs m.toNat).lab (ch ++ [m])
theorem goF_snoc {l : List Scn} {rs : List Rec} {size f : Nat} {ch zs : List Int} {j : Nat} {z : Int} (h : zs[j]? = some z) :
    goF l rs size f ch (zs.take (j + 1)) = goF l rs size f ch (zs.take j) ++ (if hasF ch z then [] else followF l rs size f (recOf rs z.toNat).lab (ch ++ [z])) := by
  unfold goF
  rw [take_snoc' h, List.flatMap_append]
  simp
def Lp2 (N : Nat) (l : List Scn) (rs : List Rec) (size f : Nat) (ch zs : List Int) (rf : Nat) (S : List (ByteArray × EvC)) (w : World) (v : Value) (wr : World) : Prop :=
  ∃ i : Nat, i ≤ zs.length ∧ v = .int .i64 (i : Int) ∧ w.grownBy wr (some rf) ∧ FM N wr rf ((goF l rs size f ch (zs.take i)).foldl putE S)
def Mid (N : Nat) (rf : Nat) (S : List (ByteArray × EvC)) (w wx : World) : Prop := w.grownBy wx (some rf) ∧ FM N wx rf S
set_option maxRecDepth 100000 in
set_option maxHeartbeats 8000000 in
theorem follow60 (l : List Scn) (rs : List Rec) (lA rA : Option Addr) (n lc m rc h N sb size b2 b3 b4 b5 rf : Nat) (F : Bool → ByteArray → Option Gr) (hs : 1 ≤ size ∧ size ≤ 4) (hoff : OffOk l) (hm : m ≤ 100) (hml : m = rs.length) (hbl : ∀ t k, (bothF l rs t k).length ≤ 10000) :
    ∀ (f : Nat) (lab : ByteArray) (ch : List Int) (A : Option Addr) (cn cc : Nat) (w : World) (S : List (ByteArray × EvC)),
    FEnv l rs lA n lc rA m rc h F N sb size b2 b3 b4 b5 rf w → FM N w rf S → RecIn intR w w.heap.size A ch → Hid (cn = ch.length) → cn + f = min size 3 → ChOk rs ch →
    Calls Tryz.prog 60 #[.string lab, .slice A cn cc, .pointer (some ⟨b2, 0, none⟩), .pointer (some ⟨b3, 0, none⟩), .pointer (some ⟨b4, 0, none⟩), .pointer (some ⟨b5, 0, none⟩)] w (FoPost N ((followF l rs size f lab ch).foldl putE S) rf w) := by
  intro f
  induction f using Nat.strongRecOn with
  | _ f ih =>
    intro lab ch A cn cc w S E hM hc hcn hcl hok
    have HIH := Lib.hid ih
    have HE := Lib.hid E
    have HM := Lib.hid hM
    have HMA := Lib.hid hM.at_
    have HC := Lib.hid hc
    have HOK := Lib.hid hok
    have HOF := Lib.hid hoff
    have HBL := Lib.hid hbl
    have HML := Lib.hid hml
    have c2 := E.c2
    have hw : IntKind.i64.wrap ((size : Int) - 1) = (size : Int) - 1 := wrap_in (by omega) (by omega)
    have hcm : cn ≤ 3 := by omega
    obtain ⟨bb, hbb⟩ : ∃ b, decide ((size : Int) - 1 ≤ (cn : Int)) = b := ⟨_, rfl⟩
    have HBB := Lib.hid hbb
    clear E hM hc hok ih hoff hbl hml
    go_enter Tryz.func60, Tryz.ntmps60
    go_upto_if 17 with fail
    clear hbb
    go_cut [] from 18 (fun wx => Mid N rf ((hereF l rs size lab ch).foldl putE S) w wx)
    case first =>
      clear HIH
      cases bb
      case false =>
        have hsc : ¬ size ≤ cn + 1 := by have := of_decide_eq_false HBB.out; omega
        have HH := Lib.hid (show hereF l rs size lab ch = [] by unfold hereF; rw [if_neg (by rw [← hcn.out]; exact hsc)])
        go_wp2_with fail
        go_meet
        case rel => exact ⟨World.grownBy.refl w _, by rw [HH.out]; exact HM.out⟩
      have hsc : size ≤ cn + 1 := by have := of_decide_eq_true HBB.out; omega
      have HH := Lib.hid (show hereF l rs size lab ch = outsF l rs size ch (labsF l rs 0 lab) by unfold hereF; rw [if_pos (by rw [← hcn.out]; exact hsc)])
      have c3 := HE.out.c3; have s2 := HE.out.src.c2
      have lk : (Instr.lookup 131 (.map (some h)) (.string lab) false).run Tryz.prog w = .ok (grV (slotG F false lab)) w := HE.out.src.look false lab
      have hsl := HE.out.src.slot false lab
      have hzl : (slotG F false lab).zs.length = (bothF l rs false lab).length := by rw [slot_cont, HE.out.src.con]
      obtain ⟨g0, hg0⟩ : ∃ g, slotG F false lab = g := ⟨_, rfl⟩
      rw [hg0] at lk hsl hzl
      obtain ⟨gA, gc, gz⟩ := g0
      simp only [grV] at lk hsl hzl
      obtain ⟨zs, hzs⟩ : ∃ zs, bothF l rs false lab = zs := ⟨_, rfl⟩
      have hb0 := HBL.out false lab
      rw [hzs] at hsl hzl hb0
      rw [hzl] at lk
      have HZS := Lib.hid (show labsF l rs 0 lab = zs by rw [← hzs]; rfl)
      have HSL := Lib.hid hsl
      obtain ⟨q, hq⟩ : ∃ q, zs.length = q := ⟨_, rfl⟩
      have HQ := Lib.hid hq
      rw [hq] at lk hb0
      clear hg0 hsl hzl hzs hq hsc
      go_wp2_with fail
      clear lk
      go_loopw [25] (fun v wr => Lp1 N l rs size ch zs rf S w v wr) (fun v _ => q - (intOf v).toNat)
      case atStart => exact ⟨0, by omega, rfl, World.grownBy.refl w _, HM.out⟩
      case round =>
        obtain ⟨i, hi, rfl, hg, hM⟩ := hrel
        have hql := HQ.out
        by_cases hin : i < q
        · obtain ⟨x, hx⟩ : ∃ x, zs[i]? = some x := ⟨_, List.getElem?_eq_getElem (by omega)⟩
          have HX := Lib.hid hx
          have hmem : x ∈ labsF l rs 0 lab := by rw [HZS.out]; exact List.mem_of_getElem? hx
          obtain ⟨j, rc', hxj, hrj, hvj, hlj⟩ := labsF_mem hmem
          rw [Nat.zero_add] at hxj
          subst hxj
          have hE := HE.out.grown HMA.out hg
          have hsv := Surv.of_grown HMA.out hg
          have c2' := hE.c2; have c3' := hE.c3; have c4' := hE.c4
          obtain ⟨b, o, rfl, hbl, y0⟩ := (HSL.out.below (below_of_grown hg HE.out.nW HE.out.nr)).int hx
          have hil : i < zs.length := by omega
          have ii : (i : Int) < (q : Int) := by omega
          have i0 : (0 : Int) ≤ (i : Int) := by omega
          have iw : IntKind.i64.wrap ((i : Int) + 1) = (i : Int) + 1 := wrap_in (by omega) (by omega)
          obtain ⟨hb, hhb⟩ : ∃ b, hasF ch (j : Int) = b := ⟨_, rfl⟩
          obtain ⟨db, hdb⟩ : ∃ b, decide (ch.length = size) = b := ⟨_, rfl⟩
          have e35 : ((cn : Int) == (size : Int)) = db := by
            rw [← hdb, ← hcn.out]
            by_cases e : cn = size
            · simp [e]
            · have : ¬ ((cn : Int) = (size : Int)) := by omega
              simp [e, this]
          obtain ⟨cb, hcb⟩ : ∃ b, (hb == db) = b := ⟨_, rfl⟩
          have HST := Lib.hid (show outsF l rs size ch (zs.take (i + 1)) = outsF l rs size ch (zs.take i) ++ (if cb then [evF l rs ch j] else []) by rw [outsF_snoc hx, hhb, hdb, hcb, Int.toNat_natCast])
          have q61 : ∀ k, Calls Tryz.prog 61 #[.slice A cn cc, .int .i64 (j : Int)] (wr.drewN k) fun e w' => e = .returned (.bool hb) ∧ w' = wr.drewN k := fun k => by
            have := has61 ch (j : Int) A cn cc (wr.drewN k) (((HC.out.surv hsv).more hg.size).keep ((Keeps.refl wr).drewN k)) hcn (by omega)
            rw [hhb] at this
            exact this.mono fun e w' ⟨h1, h2⟩ => ⟨h1, h2.symm⟩
          have Q61 := Lib.hid q61
          have HEW := Lib.hid hE; have HMW := Lib.hid hM; have HGW := Lib.hid hg; have HHB := Lib.hid hhb; have HDB := Lib.hid hdb
          have HR := Lib.hid hrj; have HV := Lib.hid hvj;
          have HSV := Lib.hid hsv
          clear hx hmem hrj hvj hlj hE hsv hg hM hql hhb hdb q61
          go_wp2_with fail
          go_quiet ((go_at_call 61; exact Calls.quiet_of_same (Q61.out _)))
          have K1 := Lib.hid ((Keeps.refl wr).drewN nq)
          cases cb
          · go_wp2_with fail
            go_roundw
            case rel => exact ⟨i + 1, by omega, by go_num, grown_trans HGW.out (grown_of_keeps K1.out _), by rw [HST.out]; simpa using HMW.out.keep K1.out⟩
            case measure => simp [intOf]; omega
          · have HEV := Lib.hid (event62 l rs lA rA n lc m rc h N sb F ch A cn cc j (wr.drewN nq) rc' (HEW.out.keep K1.out).src (HEW.out.keep K1.out).nW (by omega) HR.out HV.out (((HC.out.surv HSV.out).more HGW.out.size).keep K1.out) hcn (by omega))
            have HBD := Lib.hid (evF_bd HR.out HV.out HOK.out HOF.out (by rw [← hcn.out]; omega) (by rw [← HML.out]; omega))
            have HNL := Lib.hid (show (evF l rs ch j).nd.length ≤ 1000 by have := needsF_len ch j; rw [← hcn.out] at this; simp only [evF]; omega)
            obtain ⟨ev, hev⟩ : ∃ e, evF l rs ch j = e := ⟨_, rfl⟩
            rw [hev] at HEV HBD HNL HST
            have HE1 := Lib.hid (HEW.out.keep K1.out)
            have HM1 := Lib.hid (HMW.out.keep K1.out)
            have HG1 := Lib.hid (grown_trans HGW.out (grown_of_keeps K1.out _))
            have HNW := Lib.hid HE1.out.nW
            obtain ⟨eo, el, eh, en⟩ := ev
            clear hev Q61 HEW HMW HGW HSV
            generalize hw1 : wr.drewN nq = w1 at *
            clear hw1
            have d3 := HE1.out.c3
            go_upto_region 6 with (go_at_call 62; (with_reducible refine HEV.out.mono ?_); rintro e w2 ⟨A2, k2, rfl, hr2, hk2, hb2⟩; have R2 := Lib.hid hr2; have K2 := Lib.hid hk2; have LO2 := Lib.hid hb2; clear hr2 hk2 hb2)
            have KB := Lib.hid ((Keeps.refl w2).alloc (.cells #[.int .i64 eo, .int .i64 el, .int .i64 eh, .slice A2 en.length k2] 43))
            have HE3 := Lib.hid ((HE1.out.keep K2.out).keep KB.out)
            have HM3 := Lib.hid ((HM1.out.keep K2.out).keep KB.out)
            have HG3 := Lib.hid (grown_trans HG1.out (grown_of_keeps (K2.out.trans KB.out) _))
            have B3 := Lib.hid (Blk.new w2 43 #[.int .i64 eo, .int .i64 el, .int .i64 eh, .slice A2 en.length k2])
            have HV3 := Lib.hid (show EvOk (w2.alloc (.cells #[.int .i64 eo, .int .i64 el, .int .i64 eh, .slice A2 en.length k2] 43)) (w2.alloc (.cells #[.int .i64 eo, .int .i64 el, .int .i64 eh, .slice A2 en.length k2] 43)).heap.size (⟨eo, el, eh, en, A2, k2⟩ : Ev) from ⟨R2.out.keep KB.out, HNL.out, HBD.out⟩)
            generalize hw3 : w2.alloc (.cells #[.int .i64 eo, .int .i64 el, .int .i64 eh, .slice A2 en.length k2] 43) = w3 at HE3 HM3 HG3 B3 HV3 ⊢
            clear hw3 KB HE1 HM1 HG1 K2 R2 K1 HEV d3 c2' c3' c4' y0
            have e4 := HE3.out.c4
            have x0 := cell_of_blk B3.out 0 (v := .int .i64 eo) rfl
            have x1 := cell_of_blk B3.out 1 (v := .int .i64 el) rfl
            have x2 := cell_of_blk B3.out 2 (v := .int .i64 eh) rfl
            have x3 := cell_of_blk B3.out 3 (v := .slice A2 en.length k2) rfl
            have TX := Lib.hid (show Calls Tryz.prog 63 #[.agg #[.int .i64 eo, .int .i64 el, .int .i64 eh, .slice A2 en.length k2]] w3.drew _ from text63 ⟨eo, el, eh, en, A2, k2⟩ w3.drew (HV3.out.keep (Keeps.refl w3).drew) (HE3.out.tab.keep (Keeps.refl w3).drew))
            obtain ⟨tx, htx⟩ : ∃ t, textF (Ev.say ⟨eo, el, eh, en, A2, k2⟩) = t := ⟨_, rfl⟩
            have PUT := Lib.hid (show ∀ X, Keeps w3 X → ∃ W', (Instr.mapUpdate 135 (.map (some rf)) (.string tx) (.agg #[.int .i64 eo, .int .i64 el, .int .i64 eh, .slice A2 en.length k2])).run Tryz.prog X = .ok () W' ∧ FM N W' rf (putE ((outsF l rs size ch (zs.take i)).foldl putE S) ⟨eo, el, eh, en⟩) ∧ w.grownBy W' (some rf) ∧ Surv w3 W' from fun X hX => by
              obtain ⟨W', p1, p2, p3⟩ := (HM3.out.keep hX).put ⟨eo, el, eh, en, A2, k2⟩ (HV3.out.keep hX) (fun b o t e => Nat.le_trans HNW.out (LO2.out b o t e))
              rw [htx] at p1
              exact ⟨W', p1, p2, grown_trans (grown_trans HG3.out (grown_of_keeps hX _)) p3, (Surv.of_keeps hX).trans (Surv.of_grown (HM3.out.keep hX).at_ p3)⟩)
            rw [htx] at TX
            have SOF := Lib.hid (show ∀ X, Surv w3 X → (fun w' => w'.cell? ⟨b4, 0, none⟩ = some (.map (some rf)) ∧ w'.cell? ⟨w2.heap.size, 0, none⟩ = some (.int .i64 eo) ∧ w'.cell? ⟨w2.heap.size, 1, none⟩ = some (.int .i64 el) ∧ w'.cell? ⟨w2.heap.size, 2, none⟩ = some (.int .i64 eh) ∧ w'.cell? ⟨w2.heap.size, 3, none⟩ = some (.slice A2 en.length k2)) X from fun X hX => ⟨hX _ _ e4, hX _ _ x0, hX _ _ x1, hX _ _ x2, hX _ _ x3⟩)
            clear htx
            go_region_held3 (fun w' => w'.cell? ⟨b4, 0, none⟩ = some (.map (some rf)) ∧ w'.cell? ⟨w2.heap.size, 0, none⟩ = some (.int .i64 eo) ∧ w'.cell? ⟨w2.heap.size, 1, none⟩ = some (.int .i64 el) ∧ w'.cell? ⟨w2.heap.size, 2, none⟩ = some (.int .i64 eh) ∧ w'.cell? ⟨w2.heap.size, 3, none⟩ = some (.slice A2 en.length k2)) ((refine SOF.out _ ?_; (first | exact hsv5 | exact Surv.refl _ | exact Surv.of_keeps (Keeps.refl _).drew | exact Surv.of_keeps hk4))) ((go_at_call 63; (with_reducible refine TX.out.mono ?_); rintro e w4 ⟨rfl, hk4'⟩; have hk4 : Keeps w3 w4 := ((Keeps.refl w3).drew).trans hk4'; obtain ⟨w5, hp5, hM5, hg5, hsv5⟩ := PUT.out w4 hk4; have HM5 := Lib.hid hM5; have HG5 := Lib.hid hg5; clear hM5 hg5 hk4'))
            all_goals (
              clear hp5 hk4 SOF PUT TX
              go_wp2_with fail
              go_roundw
              case rel => exact ⟨i + 1, by omega, by go_num, HG5.out, by rw [HST.out, List.foldl_append]; exact HM5.out⟩
              case measure => simp [intOf]; omega)
        · have e : zs.take i = zs := List.take_of_length_le (by omega)
          rw [e] at hM
          have HM5 := Lib.hid hM
          have HG5 := Lib.hid hg
          clear hM hg hql e
          go_wp2_with fail
          go_meet
          case rel => exact ⟨HG5.out, by rw [HH.out, HZS.out]; exact HM5.out⟩
    case rest =>
      obtain ⟨hgc, hMc⟩ := hcut
      have HGC := Lib.hid hgc
      have HMC := Lib.hid hMc
      have HEC := Lib.hid (HE.out.grown HMA.out hgc)
      have HMA2 := Lib.hid hMc.at_
      have c2c := HEC.out.c2; have c3c := HEC.out.c3; have s3c := HEC.out.src.c3
      have hmn1 : ((if (3 : Int) < (size : Int) then 3 else (size : Int)) : Int) = ((min size 3 : Nat) : Int) := by split <;> omega
      have hmn2 : ((if (size : Int) ≤ (3 : Int) then (size : Int) else 3) : Int) = ((min size 3 : Nat) : Int) := by split <;> omega
      have hmn3 : (min (size : Int) (3 : Int) : Int) = ((min size 3 : Nat) : Int) := by omega
      obtain ⟨mn, hmn⟩ : ∃ k, min size 3 = k := ⟨_, rfl⟩
      rw [hmn] at hcl hmn1 hmn2 hmn3
      clear hgc hMc
      cases f with
      | zero =>
        have d5 : ((cn : Int) == (mn : Int)) = true := by simp; omega
        go_wp2_with fail
        (try simp only [Exit.inBlock, Exit.then])
        refine bodyPost_ret (results_none rfl _ _ _) rfl ?_
        exact ⟨rfl, HGC.out, HMC.out⟩
      | succ f =>
        have d5 : ((cn : Int) == (mn : Int)) = false := by simp; omega
        have IH := Lib.hid (HIH.out f (by omega))
        have HFF := Lib.hid (show followF l rs size (f + 1) lab ch = hereF l rs size lab ch ++ goF l rs size f ch (holdsF l rs 0 lab) from rfl)
        have HMN := Lib.hid hmn
        have lk : (Instr.lookup 131 (.map (some (h + 1))) (.string lab) false).run Tryz.prog wc = .ok (grV (slotG F true lab)) wc := HEC.out.src.look true lab
        have hsl := HEC.out.src.slot true lab
        have hzl : (slotG F true lab).zs.length = (bothF l rs true lab).length := by rw [slot_cont, HEC.out.src.con]
        obtain ⟨g0, hg0⟩ : ∃ g, slotG F true lab = g := ⟨_, rfl⟩
        rw [hg0] at lk hsl hzl
        obtain ⟨gA, gc, gz⟩ := g0
        simp only [grV] at lk hsl hzl
        obtain ⟨zs, hzs⟩ : ∃ zs, bothF l rs true lab = zs := ⟨_, rfl⟩
        have hb0 := HBL.out true lab
        rw [hzs] at hsl hzl hb0
        rw [hzl] at lk
        have HZS := Lib.hid (show holdsF l rs 0 lab = zs by rw [← hzs]; rfl)
        have HSL := Lib.hid hsl
        obtain ⟨q, hq⟩ : ∃ q, zs.length = q := ⟨_, rfl⟩
        have HQ := Lib.hid hq
        rw [hq] at lk hb0
        clear hg0 hsl hzl hzs hq HIH c2 hmn HE HM
        go_wp2_with fail
        clear lk hmn1 hmn2 hmn3 c2c s3c
        go_loopw [58] (fun v wr => Lp2 N l rs size f ch zs rf ((hereF l rs size lab ch).foldl putE S) w v wr ∧ wc.grownBy wr (some rf)) (fun v _ => q - (intOf v).toNat)
        case atStart => exact ⟨⟨0, by omega, rfl, HGC.out, HMC.out⟩, World.grownBy.refl wc _⟩
        case round =>
          obtain ⟨⟨i, hi, rfl, hg, hM⟩, hgw⟩ := hrel
          have hql := HQ.out
          by_cases hin : i < q
          · obtain ⟨x, hx⟩ : ∃ x, zs[i]? = some x := ⟨_, List.getElem?_eq_getElem (by omega)⟩
            have hmem : x ∈ holdsF l rs 0 lab := by rw [HZS.out]; exact List.mem_of_getElem? hx
            obtain ⟨j, rc', hxj, hrj, hvj, hlj⟩ := holdsF_mem hmem
            rw [Nat.zero_add] at hxj
            subst hxj
            have HX := Lib.hid hx
            have hE := HEC.out.grown HMA2.out hgw
            have hsv := (Surv.of_grown HMA.out HGC.out).trans (Surv.of_grown HMA2.out hgw)
            have c3' := hE.c3; have c5' := hE.c5; have s1' := hE.src.c1
            obtain ⟨rb, ro, rfl, hrb, -, -, -, -, a4, -⟩ := hE.src.rc.rc hrj
            obtain ⟨b, o, rfl, hbl, y0⟩ := (HSL.out.below (below_of_grown hgw HEC.out.nW HEC.out.nr)).int hx
            have hro : recOf rs j = rc' := by unfold recOf; rw [hrj]; rfl
            have HRO := Lib.hid hro
            obtain ⟨lab', hlab⟩ : ∃ x, rc'.lab = x := ⟨_, rfl⟩
            rw [hlab] at a4
            have hjr := (List.getElem?_eq_some_iff.1 hrj).1
            have hjm : j < m := by rw [HML.out]; exact hjr
            have jj : (j : Int) < (m : Int) := by omega
            have j0 : (0 : Int) ≤ (j : Int) := by omega
            have hil : i < zs.length := by omega
            have ii : (i : Int) < (q : Int) := by omega
            have i0 : (0 : Int) ≤ (i : Int) := by omega
            have iw : IntKind.i64.wrap ((i : Int) + 1) = (i : Int) + 1 := wrap_in (by omega) (by omega)
            obtain ⟨hb, hhb⟩ : ∃ b, hasF ch (j : Int) = b := ⟨_, rfl⟩
            have HST := Lib.hid (show goF l rs size f ch (zs.take (i + 1)) = goF l rs size f ch (zs.take i) ++ (if hb then [] else followF l rs size f lab' (ch ++ [(j : Int)])) by rw [goF_snoc hx, hhb, Int.toNat_natCast, hro, hlab])
            have hcw := (HC.out.surv hsv).more (Nat.le_trans HGC.out.size hgw.size)
            have H61 := Lib.hid (has61 ch (j : Int) A cn cc wr hcw hcn (by omega))
            rw [hhb] at H61
            have HEW := Lib.hid hE; have HMW := Lib.hid hM; have HGW := Lib.hid hg; have HGW2 := Lib.hid hgw; have HCW := Lib.hid hcw
            have HOK2 := Lib.hid (show ChOk rs (ch ++ [(j : Int)]) from fun c hc => by
              rcases List.mem_append.1 hc with h | h
              · exact HOK.out c h
              · simp at h; subst h; omega)
            clear hx hmem hrj hvj hlj hro hlab hE hsv hg hgw hM hql hhb hcw hjr
            cases hb
            · go_wp2_with (go_at_call 61; (with_reducible refine H61.out.mono ?_); rintro e w' ⟨rfl, rfl⟩)
              have CL := Lib.hid (clone64 ch A cn cc wr.drew (HCW.out.keep (Keeps.refl wr).drew) hcn (by omega))
              have KA := (Keeps.refl wr).alloc (.cells #[.int .i64 (j : Int)] 3)
              have CLB := Lib.hid (clone64 ch A cn cc (wr.alloc (.cells #[.int .i64 (j : Int)] 3)).drew (HCW.out.keep KA.drew) hcn (by omega))
              have XB := Lib.hid ((RecIn.lit intOk wr [(j : Int)] #[.int .i64 (j : Int)] rfl).keep (Keeps.refl _).drew)
              have HKA := Lib.hid KA
              clear KA
              have ONE := Lib.hid (show (1 : Nat) = [(j : Int)].length from rfl)
              have LE := Lib.hid (show ch.length + [(j : Int)].length ≤ 1000000 by rw [← hcn.out]; simp; omega)
              have REC := Lib.hid (show ∀ V A' n' c' X, Keeps wr V → OwnR intR V X (.slice A' n' c') (ch ++ [(j : Int)]) → Calls Tryz.prog 60 #[.string lab', .slice A' n' c', .pointer (some ⟨b2, 0, none⟩), .pointer (some ⟨b3, 0, none⟩), .pointer (some ⟨b4, 0, none⟩), .pointer (some ⟨b5, 0, none⟩)] X (FoPost N ((followF l rs size f lab' (ch ++ [(j : Int)])).foldl putE ((goF l rs size f ch (zs.take i)).foldl putE ((hereF l rs size lab ch).foldl putE S))) rf X) from fun V A' n' c' X hV ho => by
                have hk : Keeps wr X := hV.trans ho.2
                have hr := ho.recs intOk
                exact IH.out lab' (ch ++ [(j : Int)]) A' n' c' X _ (HEW.out.keep hk) (HMW.out.keep hk) hr.1 (Lib.hid hr.2) (by rw [hr.2, HMN.out, List.length_append, ← hcn.out]; simp; omega) HOK2.out)
              have SOF := Lib.hid (show ∀ X, Surv wr X → (fun w' => w'.cell? ⟨b5, 0, none⟩ = some (.func (.func 60) #[] #[.pointer (some ⟨b2, 0, none⟩), .pointer (some ⟨b3, 0, none⟩), .pointer (some ⟨b4, 0, none⟩), .pointer (some ⟨b5, 0, none⟩)]) ∧ w'.cell? ⟨b3, 0, none⟩ = some (.pointer (some ⟨sb, 0, none⟩)) ∧ w'.cell? ⟨sb, 1, none⟩ = some (.slice (some ⟨rb, ro, none⟩) m rc) ∧ w'.cell? ⟨rb, ro + j * 6 + 4, none⟩ = some (.string lab')) X from fun X hX => ⟨hX _ _ c5', hX _ _ c3', hX _ _ s1', hX _ _ a4⟩)
              go_region_held3 (fun w' => w'.cell? ⟨b5, 0, none⟩ = some (.func (.func 60) #[] #[.pointer (some ⟨b2, 0, none⟩), .pointer (some ⟨b3, 0, none⟩), .pointer (some ⟨b4, 0, none⟩), .pointer (some ⟨b5, 0, none⟩)]) ∧ w'.cell? ⟨b3, 0, none⟩ = some (.pointer (some ⟨sb, 0, none⟩)) ∧ w'.cell? ⟨sb, 1, none⟩ = some (.slice (some ⟨rb, ro, none⟩) m rc) ∧ w'.cell? ⟨rb, ro + j * 6 + 4, none⟩ = some (.string lab')) ((refine SOF.out _ ?_; (first | exact hsv6 | exact Surv.refl _ | exact Surv.of_keeps (Keeps.refl _).drew | exact Surv.of_keeps HKA.out | exact Surv.of_keeps HKA.out.drew | exact Surv.of_keeps hk5 | exact Surv.of_keeps (hk4.alloc _) | exact Surv.of_keeps hk4))) ((first | (go_at_call 64; (with_reducible refine CL.out.mono ?_); rintro e w4 ⟨A4, c4, rfl, ho4⟩; have hk4 : Keeps wr w4 := ((Keeps.refl wr).drew).trans ho4.2; have O4 := Lib.hid (ho4.keep ((Keeps.refl w4).alloc (.cells #[.int .i64 (j : Int)] 3))); have X4 := Lib.hid (RecIn.lit intOk w4 [(j : Int)] #[.int .i64 (j : Int)] rfl); clear ho4) | (go_at_call 64; (with_reducible refine CLB.out.mono ?_); rintro e w4 ⟨A4, c4, rfl, ho4⟩; have hk4 : Keeps wr w4 := (HKA.out.drew).trans ho4.2; have O4B := Lib.hid ho4; have X4B := Lib.hid (XB.out.keep ho4.2); clear ho4) | (refine step_appR intOk (w0 := wr.drew) (by rfl) (.tmp 76) (.tmp 78) (by rfl) _ ch (by rfl) O4.out _ _ _ [(j : Int)] (by rfl) X4.out ONE LE ?_; intro A5 n5 c5 w5 ho5 hg5; have hk5 : Keeps wr w5 := ((Keeps.refl wr).drew).trans ho5.2; have HR5 := Lib.hid (REC.out _ _ _ _ _ (Keeps.refl wr).drew ho5); clear hg5 ho5) | (refine step_appR intOk (w0 := (wr.alloc (.cells #[.int .i64 (j : Int)] 3)).drew) (by rfl) (.tmp 76) (.tmp 78) (by rfl) _ ch (by rfl) O4B.out _ _ _ [(j : Int)] (by rfl) X4B.out ONE LE ?_; intro A5 n5 c5 w5 ho5 hg5; have hk5 : Keeps wr w5 := HKA.out.drew.trans ho5.2; have HR5 := Lib.hid (REC.out _ _ _ _ _ HKA.out.drew ho5); clear hg5 ho5) | (go_at_call 60; (with_reducible refine HR5.out.mono ?_); rintro e w6 ⟨rfl, hg6, hM6⟩; have hsv6 : Surv wr w6 := (Surv.of_keeps hk5).trans (Surv.of_grown (HMW.out.keep hk5).at_ hg6); have HG6 := Lib.hid (grown_trans (grown_of_keeps hk5 _) hg6); have HM6 := Lib.hid hM6; clear hg6 hM6)))
              all_goals (
                clear hsv6 hk5 hk4 SOF CL CLB XB REC
                (try clear O4 X4)
                (try clear O4B X4B)
                go_wp2_with fail
                go_roundw
                case rel => exact ⟨⟨i + 1, by omega, by go_num, grown_trans HGW.out HG6.out, by rw [HST.out, List.foldl_append]; simpa using HM6.out⟩, grown_trans HGW2.out HG6.out⟩
                case measure => simp [intOf]; omega)
            · go_wp2_with (go_at_call 61; (with_reducible refine H61.out.mono ?_); rintro e w' ⟨rfl, rfl⟩)
              go_roundw
              case rel => exact ⟨⟨i + 1, by omega, by go_num, HGW.out, by rw [HST.out]; simpa using HMW.out⟩, HGW2.out⟩
              case measure => simp [intOf]; omega
          · have e : zs.take i = zs := List.take_of_length_le (by omega)
            rw [e] at hM
            have HM5 := Lib.hid hM
            have HG5 := Lib.hid hg
            clear hM hg hql e
            go_wp2_with fail
            (try simp only [Exit.inBlock, Exit.then])
            refine bodyPost_ret (results_none rfl _ _ _) rfl ?_
            exact ⟨rfl, HG5.out, by rw [HFF.out, HZS.out, List.foldl_append]; exact HM5.out⟩
end Go.Proofs.YthkmpegpmpdhaaaGreatDoor
