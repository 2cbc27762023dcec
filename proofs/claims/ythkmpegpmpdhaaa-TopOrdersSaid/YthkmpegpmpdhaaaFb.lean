/- Part of the proofs of TopMoney and TopOrders. Conditions: as stated in each theorem. -/
import Derived.Test.YthkmpegpmpdhaaaFa
import Derived.Deep.CutRange
import Derived.StillTailTactics
import Derived.Lib.SliceRun
import Derived.RangeFuncRecord
import Derived.Carry
import Derived.ChangeKeysEq
import Derived.Test.YthkmpegpmpdhaaaRows
import Derived.WalkKit
import Derived.WalkSpells
import Derived.WalkLawsBesides
import Derived.Laws.EntriesVeiled
import Derived.ProofKit
import Derived.OpenShut
import Derived.Lib.Hide
import Derived.BigQuiet
import Derived.Deep.QuietTactic
import Derived.Below
import Derived.Laws.OwnMore
import Derived.Deep.AppendLies
import Derived.Deep.Draws
import Derived.Laws.Rows
import Derived.Maps.AppendAt
import Derived.RegionTactic
import Derived.OwnWalk
import Derived.Deep.RegionHeld3
namespace Go.Proofs.Ythkmpegpmpdhaaa
open Go.ChangeShapes Go.WideShapes Go.ChangeAt Go.RowKit
set_option linter.unusedSimpArgs false
set_option linter.unusedVariables false
theorem recIn_grown {α : Type} {R : RowTy α} {w w' : World} {A : Option Addr} {l : List α} {row : Option Nat} (h : RecIn R w w.heap.size A l) (hg : w.grownBy w' row) (hne : ∀ b off, A = some ⟨b, off, none⟩ → 0 < l.length → row ≠ some b) : RecIn R w' w'.heap.size A l := fun j x hj => by
  obtain ⟨b, off, e, hlt, hc⟩ := h j x hj
  have hl := (List.getElem?_eq_some_iff.1 hj).1
  have hr := hne b off e (by omega)
  refine ⟨b, off, e, Nat.lt_of_lt_of_le hlt hg.size, fun i u hu => ?_⟩
  have hbk := hg.block b hlt (fun e => hr e.symm)
  have := hc i u hu
  simp only [World.cell?, hbk] at this ⊢
  exact this
theorem RowG.lit {α : Type} {R : RowTy α} {base : Nat} {w : World} (hb : base ≤ w.heap.size) (l : List α) (cs : Array Value) (h : cs.toList = recCells R l) (hl : ∀ x, (R.enc x).length = R.k) (hm : l.length ≤ maxLen) : RowG R base (w.alloc (.cells cs R.T)) (.slice (some ⟨w.heap.size, 0, none⟩) l.length l.length) l := by
  have hs : cs.size = l.length * R.k := by rw [← recCells_length hl, ← h]; simp
  refine ⟨recCells_length hl l, .inr ⟨w.heap.size, l.length, cs, rfl, hb, heap_alloc_new w _, Nat.le_refl _, hm, hs, ?_⟩⟩
  rw [← hs, ← h]
  exact List.take_of_length_le (by simp)
structure Mid (wr : World) (R : Nat) (A : Option Addr) (L : List Ks) (wq : World) (v : Value) (N : List Ks) (G : Ks → Option (Int × Nat × Int)) : Prop where
  row : RowG ksR wr.heap.size wq v N
  grw : wr.grownBy wq (some R)
  best : BestIs wq R G
  lev : RecIn ksR wq wq.heap.size A L
  levb : ∀ b off, A = some ⟨b, off, none⟩ → 0 < L.length → b < wr.heap.size ∧ b ≠ R
structure Alg (d : List (List Int)) (us : List Un) (r : Nat) (L N : List Ks) (G : Ks → Option (Int × Nat × Int)) : Prop where
  fi : FI d us (r + 1) G
  lv : LvOk d us (r + 1) G N
  lvL : LvOk d us r G L
section
variable {wr wq w' : World} {R : Nat} {A : Option Addr} {L N : List Ks} {v v' : Value} {G G' : Ks → Option (Int × Nat × Int)}
theorem Mid.keep (h : Mid wr R A L wq v N G) (hk : Keeps wq w') : Mid wr R A L w' v N G := ⟨h.row.keep hk, grown_trans_keeps h.grw hk, h.best.keep hk, h.lev.keep hk, h.levb⟩
theorem grown_two {a b c : World} {row row' : Option Nat} (h : a.grownBy b row) (k : b.grownBy c row') (hr : ∀ g, row' = some g → row = some g ∨ a.heap.size ≤ g) : a.grownBy c row :=
  ⟨k.os.trans h.os, k.tape.trans h.tape, k.output.trans h.output, Nat.le_trans h.size k.size, fun i hi hne => (k.block i (Nat.lt_of_lt_of_le hi h.size) (fun e => by
    rcases hr i e.symm with e2 | e2
    · exact hne e2.symm
    · omega)).trans (h.block i hi hne)⟩
theorem Mid.app (h : Mid wr R A L wq v N G) {k : Ks} (hr : RowG ksR wr.heap.size w' v' (N ++ [k])) (hg : wq.grownBy w' v.ownBlock) : Mid wr R A L w' v' (N ++ [k]) G :=
  ⟨hr, grown_two h.grw hg (fun g e => .inr (own_lt h.row e).1), h.best.grown hg (h.best.ne h.row), recIn_grown h.lev hg (fun b off e hl e2 => by
    have := (own_lt h.row e2).1
    have := (h.levb b off e hl).1
    omega), h.levb⟩
theorem Mid.put (h : Mid wr R A L wq v N G) (hb : BestIs w' R G') (hg : wq.grownBy w' (some R)) : Mid wr R A L w' v N G' :=
  ⟨h.row.grown hg (h.best.ne h.row), grown_two h.grw hg (fun g e => .inl e), hb, recIn_grown h.lev hg (fun b off e hl e2 => (h.levb b off e hl).2 (by injection e2 with e2; exact e2.symm)), h.levb⟩
structure Inn (wr : World) (R : Nat) (A : Option Addr) (L : List Ks) (bn m : Nat) (now : Int) (Ac : Option Addr) (cl : List Nat) (wq : World) (v : Value) (N : List Ks) (G : Ks → Option (Int × Nat × Int)) : Prop where
  mid : Mid wr R A L wq v N G
  box : Blk wq bn 94 #[.int .u32 (m : Int), .int .i64 now]
  nb : v.ownBlock ≠ some bn ∧ bn ≠ R
  cho : RecIn natR wq wq.heap.size Ac cl
  nc : ∀ b off, Ac = some ⟨b, off, none⟩ → 0 < cl.length → v.ownBlock ≠ some b ∧ b ≠ R
variable {bn m : Nat} {now : Int} {Ac : Option Addr} {cl : List Nat}
theorem Inn.keep (h : Inn wr R A L bn m now Ac cl wq v N G) (hk : Keeps wq w') : Inn wr R A L bn m now Ac cl w' v N G := ⟨h.mid.keep hk, h.box.below hk h.box.lt, h.nb, h.cho.keep hk, h.nc⟩
theorem RecIn.blkLt {α : Type} {R : RowTy α} {w : World} {B b off : Nat} {l : List α} (h : RecIn R w B (some ⟨b, off, none⟩) l) (hl : 0 < l.length) : b < B := by
  obtain ⟨b', off', e, hb, _⟩ := h 0 _ (List.getElem?_eq_getElem hl)
  cases e
  exact hb
theorem Inn.app (h : Inn wr R A L bn m now Ac cl wq v N G) {k : Ks} (hr : RowG ksR wr.heap.size w' v' (N ++ [k])) (hg : wq.grownBy w' v.ownBlock) (hat : ∀ b, b < wq.heap.size → v.ownBlock ≠ some b → v'.ownBlock ≠ some b) : Inn wr R A L bn m now Ac cl w' v' (N ++ [k]) G :=
  ⟨h.mid.app hr hg, h.box.grown hg (fun e => h.nb.1 e.symm), ⟨hat _ h.box.lt h.nb.1, h.nb.2⟩, recIn_grown h.cho hg (fun b off e hl => (h.nc b off e hl).1), fun b off e hl => ⟨hat b (by subst e; exact h.cho.blkLt hl) (h.nc b off e hl).1, (h.nc b off e hl).2⟩⟩
theorem Inn.put (h : Inn wr R A L bn m now Ac cl wq v N G) (hb : BestIs w' R G') (hg : wq.grownBy w' (some R)) : Inn wr R A L bn m now Ac cl w' v N G' :=
  ⟨h.mid.put hb hg, h.box.grown hg (fun e => h.nb.2 (by injection e)), h.nb, recIn_grown h.cho hg (fun b off e hl e2 => (h.nc b off e hl).2 (by injection e2 with e2; exact e2.symm)), h.nc⟩
end
section
variable {d : List (List Int)} {us : List Un} {r : Nat} {L N : List Ks} {G : Ks → Option (Int × Nat × Int)}
theorem put_some {k0 : Ks} {v : Int × Nat × Int} (k : Ks) (h : (G k).isSome = true) : ((if k = k0 then some v else G k) : Option (Int × Nat × Int)).isSome = true := by
  split
  · rfl
  · exact h
/-- The map is told of a state. -/
theorem Alg.put (h : Alg d us r L N G) {now : Ks} (hL : now ∈ L) {t0 : Int} {v0 : Nat × Int} (hn : G now = some (t0, v0)) {u : Nat} (hu : okU d us (now.1, now.2, t0) u) : Alg d us r L N (fun k => if k = (now.1 ||| 2 ^ u, (evU us u).o) then some (beginF d now.2 t0 (evU us u), u, now.2) else G k) :=
  ⟨(h.fi.put hn (h.lvL.ok now hL).2.1 hu).1, h.lv.congr (fun k hk => put_some k hk), h.lvL.congr (fun k hk => put_some k hk)⟩
theorem Alg.new (h : Alg d us r L N G) {now : Ks} (hL : now ∈ L) {t0 : Int} {v0 : Nat × Int} (hn : G now = some (t0, v0)) {u : Nat} (hu : okU d us (now.1, now.2, t0) u) (ho : isOff d (evU us u).o) (h0 : G (now.1 ||| 2 ^ u, (evU us u).o) = none) :
    Alg d us r L (N ++ [(now.1 ||| 2 ^ u, (evU us u).o)]) (fun k => if k = (now.1 ||| 2 ^ u, (evU us u).o) then some (beginF d now.2 t0 (evU us u), u, now.2) else G k) :=
  ⟨(h.fi.put hn (h.lvL.ok now hL).2.1 hu).1, h.lv.more (fun k hk => put_some k hk) ⟨Nat.or_lt_two_pow (h.lvL.ok now hL).1.1 (Nat.pow_lt_pow_right (by decide) hu.1), .inr ho⟩ (h.fi.put hn (h.lvL.ok now hL).2.1 hu).2 h0 (by simp), h.lvL.congr (fun k hk => put_some k hk)⟩
theorem put_same {now k0 : Ks} {v v' : Int × Nat × Int} (h : G now = some v) (hc : cntB us.length now.1 = r) (hk : cntB us.length k0.1 = r + 1) : ((if now = k0 then some v' else G now) : Option (Int × Nat × Int)) = some v := by
  rw [if_neg]
  · exact h
  · rintro rfl
    omega
end
end Go.Proofs.Ythkmpegpmpdhaaa
