/- Part of the proof of TopOwnItem. Conditions: as stated in each theorem. -/
import Derived.Test.YthkmpegpmpdhaaaGreatDoorZNm
import Derived.Test.YthkmpegpmpdhaaaGreatDoorZNr
import Derived.Test.YthkmpegpmpdhaaaGreatDoorZJ
import Derived.Test.YthkmpegpmpdhaaaGreatDoorZU
import Derived.Test.YthkmpegpmpdhaaaGreatDoorZFa
import Derived.Test.YthkmpegpmpdhaaaGreatDoorProg
import Derived.WalkMore
import Derived.LoopN
import Derived.Lib.ConvBytes
import Derived.Maps.OwnIn
import Derived.Deep.LoopGhost
import Derived.RangeFuncNested
import Derived.RangeFuncCalls
import Derived.RangeFuncLeaves
import Derived.RangeFuncWrites
import Derived.Shelf.Abstract
import Derived.Shelf.RegionOpen
import Derived.OwnWalkIn
import Derived.TacticsInMore
import Derived.LoopNIn
import Derived.LoopIn
import Derived.RangeFuncBound
import Derived.Laws.IdiomCopy
import Derived.WalkKit
import Derived.WalkSpells
import Derived.WalkLawsBesides
import Derived.Laws.EntriesVeiled
import Derived.ProofKit
import Derived.OpenShut
import Derived.Lib.Hide
import Derived.BigQuiet
import Derived.Deep.QuietTactic
import Derived.Deep.CutRange
import Derived.StillTailTactics
import Derived.Lib.SliceRun
import Derived.RangeFuncRecord
import Derived.Carry
import Derived.ChangeKeysEq
import Derived.Below
import Derived.Laws.OwnMore
import Derived.Deep.AppendLies
import Derived.Deep.Draws
import Derived.Laws.Rows
import Derived.Maps.AppendAt
import Derived.RegionTactic
import Derived.OwnWalk
import Derived.Deep.RegionHeld3
namespace Go.Proofs.YthkmpegpmpdhaaaGreatDoor
open Go.Shelf Go.ChangeShapes Go.WideShapes Go.ChangeAt Go.RowKit
set_option linter.unusedSimpArgs false
set_option linter.unusedVariables false
theorem itoa_0 : itoaB 0 = ⟨#[48]⟩ := by first | decide | kernel_rfl
theorem itoa_480 : itoaB 480 = ⟨#[52, 56, 48]⟩ := by first | decide | kernel_rfl
theorem app_str (X : World) (q : Nat) (s : ByteArray) (base : Nat) (hb : base ≤ X.heap.size) (hq : X.cell? ⟨q, 0, none⟩ = some (.string s)) :
    ∃ g c' X', (Builtin.append_ #[24, 24] 24 #[.slice none 0 0, .slice (some ⟨q, 0, none⟩) 1 1]).run Tryz.prog X = .ok (.slice (some ⟨g, 0, none⟩) 1 c') X' ∧ X'.ownsRow base 9 1 (.slice (some ⟨g, 0, none⟩) 1 c') 1 [.string s] ∧ X.grownBy X' none := by
  obtain ⟨i0, z, hi0, hz0, hz1, hz2, hz3⟩ := strOk.info
  obtain ⟨v', X', hr, ho, hg, -, -⟩ := run_append_own_at (P := Tryz.prog) X base 24 24 9 i0 z 1 16 Tryz.underlying24 hi0 hz0 hz1 hz2 hz3 (by decide) (.slice none 0 0) 0 [] (World.ownsRow_nil _ _ _ _) ⟨q, 0, none⟩ 1 1 [.string s] rfl (by
    intro j u hj
    cases j with
    | zero =>
      simp only [List.getElem?_cons_zero, Option.some.injEq] at hj
      subst hj
      simpa [Addr.add] using hq
    | succ j => simp at hj) (by intro u hu; simp at hu; subst hu; rfl) (by decide) (by decide) hb
  obtain ⟨g, cap, rfl, -, -⟩ := ho.form (by decide)
  exact ⟨g, cap, X', hr, ho, hg⟩
theorem app_stp (X : World) (q sb : Nat) (a b c d a' b' c' d' : Int) (base : Nat) (hb : base ≤ X.heap.size) (hbs : base ≤ sb) (hs : Blk X sb 192 #[.int .i64 a, .int .i64 b, .int .i64 c, .int .i64 d]) (hq : Blk X q 192 #[.int .i64 a', .int .i64 b', .int .i64 c', .int .i64 d']) :
    ∃ g cp X', (Builtin.append_ #[62, 62] 62 #[.slice (some ⟨sb, 0, none⟩) 1 1, .slice (some ⟨q, 0, none⟩) 1 1]).run Tryz.prog X = .ok (.slice (some ⟨g, 0, none⟩) 2 cp) X' ∧ X'.ownsRow base 192 4 (.slice (some ⟨g, 0, none⟩) 2 cp) 2 [.int .i64 a, .int .i64 b, .int .i64 c, .int .i64 d, .int .i64 a', .int .i64 b', .int .i64 c', .int .i64 d'] ∧ X.grownBy X' (some sb) ∧ (g = sb ∨ g = X.heap.size) := by
  obtain ⟨i0, z, hi0, hz0, hz1, hz2, hz3⟩ := stOk.info
  obtain ⟨v', X', hr, ho, hg, -, he⟩ := run_append_own_at (P := Tryz.prog) X base 62 62 192 i0 z 4 32 Tryz.underlying62 hi0 hz0 hz1 hz2 hz3 (by decide) (.slice (some ⟨sb, 0, none⟩) 1 1) 1 [.int .i64 a, .int .i64 b, .int .i64 c, .int .i64 d] ⟨rfl, .inr ⟨sb, 1, _, rfl, hbs, hs, Nat.le_refl _, by decide, rfl, rfl⟩⟩ ⟨q, 0, none⟩ 1 1 [.int .i64 a', .int .i64 b', .int .i64 c', .int .i64 d'] rfl (by
    intro j u hj
    have := hq.cell j
    have e : (⟨q, 0, none⟩ : Addr).add j = ⟨q, j, none⟩ := by unfold Addr.add; split <;> simp_all
    rw [e, this, ← hj]
    simp [List.getElem?_toArray]) (by intro u hu; simp at hu; rcases hu with rfl | rfl | rfl | rfl <;> rfl) (by decide) (by decide) hb
  obtain ⟨g, cap, rfl, -, -⟩ := ho.form (by decide)
  refine ⟨g, cap, X', hr, ho, hg, ?_⟩
  simpa [Value.ownBlock] using he
theorem own_cell {w : World} {base g n c size : Nat} {e : TypeId} {xs : List Value} (h : w.ownsRow base e size (.slice (some ⟨g, 0, none⟩) n c) n xs) {j : Nat} {u : Value} (hj : xs[j]? = some u) : w.cell? ⟨g, j, none⟩ = some u := by
  rcases h.2 with ⟨e1, -⟩ | ⟨g', cap, cur, e1, hb, hh, -, -, hsz, htk⟩
  · cases e1
  · cases e1
    rw [cell_of_row w g j cur e (0, 0) hh]
    rw [← htk] at hj
    rw [List.getElem?_take] at hj
    split at hj
    · simpa using hj
    · cases hj
theorem exec_append {b : Act} {o : Oper} {s x : Operand} {t : TypeId} {v y v' : Value} {X X' : World} (ho : o.op = .call { callee := .builtin .append, args := #[s, x], argTypes := #[t, t] }) (hs : b.eval s = v) (hx : b.eval x = y) (hr : (Builtin.append_ #[t, t] o.type #[v, y]).run Tryz.prog X = .ok v' X') : (execOp b.eval o).run Tryz.prog X = .ok (.value v') X' := by
  unfold execOp
  simp only [ho, resolve, invoke, builtin, Sem.run_bind, Sem.run_pure, Result.andThen_ok, List.map_toArray, List.map_cons, List.map_nil, hs, hx, hr]
theorem cat1 : (⟨#[67]⟩ : ByteArray) ++ (⟨#[48]⟩ : ByteArray) = ⟨#[67, 48]⟩ := by decide
theorem cat2 : (⟨#[67, 48]⟩ : ByteArray) ++ (⟨#[46]⟩ : ByteArray) = ⟨#[67, 48, 46]⟩ := by decide
theorem cat3 : (⟨#[67, 48, 46]⟩ : ByteArray) ++ (⟨#[52, 56, 48]⟩ : ByteArray) = ⟨#[67, 48, 46, 52, 56, 48]⟩ := by decide
theorem put_none {a : Act} {d : Option Tmp} {v : Value} (h : d = none) : a.put d v = a := by subst h; rfl
theorem pure_eq {b b' : Act} {o : Oper} {d : Nat} {v : Value} {w : World} {r : Result Next} (hb : b = b') (h : b'.tmps.getD d undef = v ∧ (execOp b'.eval o).run Tryz.prog w = r) : b.tmps.getD d undef = v ∧ (execOp b.eval o).run Tryz.prog w = r := by subst hb; exact h
theorem fin_eq {Q : Exit → Act → World → Prop} {e : Exit} {b b' : Act} {w : World} (hb : b = b') (h : Q e b' w) : Q e b w := by subst hb; exact h
theorem put_eq {b b' : Act} {d : Option Tmp} {n : Nat} {v v' : Value} (hb : b = b') (hd : d = some n) (hv : v = v') : b.put d v = b'.put (some n) v' := by subst hb; subst hd; subst hv; rfl
theorem upV_okb {m : Nat} {K : Value → World → Prop} {b b' : Act} {o : Oper} {v : Value} {w w' : World} (hb : b = b') (h : (execOp b'.eval o).run Tryz.prog w = .ok (.value v) w') (hk : K v w') : UpV Tryz.prog m K ((execOp b.eval o).run Tryz.prog w) := by subst hb; exact upV_ok h hk
theorem upV_skipb {m : Nat} {K : Value → World → Prop} {b b' : Act} {o : Oper} {w w' : World} (hb : b = b') (h : (execOp b'.eval o).run Tryz.prog w = .ok .skip w') (hk : K undef w') : UpV Tryz.prog m K ((execOp b.eval o).run Tryz.prog w) := by subst hb; exact upV_skip h hk
theorem upV_callb {m : Nat} {K : Value → World → Prop} {b b' : Act} {o : Oper} {f : FuncId} {args : Array Value} {w w' : World} (hb : b = b') (h : (execOp b'.eval o).run Tryz.prog w = .ok (.enter f args) w') (hk : CallsIn Fence.wide (m - 1) Tryz.prog f args w' fun e w'' => ∃ v, e = .returned v ∧ K v w'') : UpV Tryz.prog m K ((execOp b.eval o).run Tryz.prog w) := by subst hb; exact upV_call h hk
theorem ownsRow_low {w : World} {b b' : Nat} {e : TypeId} {size n : Nat} {v : Value} {xs : List Value} (h : w.ownsRow b e size v n xs) (hb : b' ≤ b) : w.ownsRow b' e size v n xs := by
  refine ⟨h.1, ?_⟩
  rcases h.2 with h | ⟨g, cap, cur, h1, h2, h3⟩
  · exact .inl h
  · exact .inr ⟨g, cap, cur, h1, Nat.le_trans hb h2, h3⟩
theorem ne_new {g sb i n : Nat} (h : g = sb ∨ g = n) (h1 : sb ≠ i) (h2 : i < n) : g ≠ i := fun e => by
  rcases h with h | h
  · exact h1 (h.symm.trans e)
  · omega
/-- The frame of a move: other blocks are as they were. -/
structure MvF (i sb : Nat) (w w' : World) : Prop where
  size : w.heap.size ≤ w'.heap.size
  same : ∀ k, k < w.heap.size → k ≠ i → k ≠ sb → w'.heap[k]? = w.heap[k]?
theorem MvF.refl (i sb : Nat) (w : World) : MvF i sb w w := ⟨Nat.le_refl _, fun _ _ _ _ => rfl⟩
theorem MvF.keeps {i sb : Nat} {w X X' : World} (h : MvF i sb w X) (hk : Keeps X X') : MvF i sb w X' := ⟨Nat.le_trans h.size hk.size, fun k h1 h2 h3 => (hk.block k (Nat.lt_of_lt_of_le h1 h.size)).trans (h.same k h1 h2 h3)⟩
theorem MvF.grow {i sb k : Nat} {w X X' : World} (h : MvF i sb w X) (hg : X.grownBy X' (some k)) (hk : k = i ∨ k = sb) : MvF i sb w X' :=
  ⟨Nat.le_trans h.size hg.size, fun j h1 h2 h3 => (hg.block j (Nat.lt_of_lt_of_le h1 h.size) (fun e => by
    have e2 := Option.some.inj e
    rcases hk with h4 | h4
    · exact h2 (e2.trans h4)
    · exact h3 (e2.trans h4))).trans (h.same j h1 h2 h3)⟩
/-- An item before it leaves. -/
def Pre (c : UInt8) (i ib lb sb : Nat) (W : World) : Prop := ItS c i ib lb sb 1 1 (.slice none 0 0) 0 0 480 W ∧ Blk W sb 192 #[.int .i64 0, .int .i64 100, .int .i64 (-1), .int .i64 (-1)]
abbrev stops2 : List Value := [.int .i64 0, .int .i64 100, .int .i64 480, .int .i64 0, .int .i64 1, .int .i64 600, .int .i64 (-1), .int .i64 (-1)]
/-- An item that has come to its last stop. -/
def Aft (c : UInt8) (i ib lb sb : Nat) (W W' : World) : Prop := ∃ g g2 cp cp2 : Nat, ItS c i ib lb g2 2 cp2 (.slice (some ⟨g, 0, none⟩) 1 cp) 0 (-1) 480 W' ∧ W'.ownsRow 0 192 4 (.slice (some ⟨g2, 0, none⟩) 2 cp2) 2 stops2 ∧ W'.ownsRow 0 9 1 (.slice (some ⟨g, 0, none⟩) 1 cp) 1 [.string ⟨#[67, 48, 46, 52, 56, 48]⟩] ∧ (g2 = sb ∨ W.heap.size ≤ g2)
/-- Where the two items lie. -/
structure TwA where
  iA : Nat
  ibA : Nat
  lbA : Nat
  sbA : Nat
  iB : Nat
  ibB : Nat
  lbB : Nat
  sbB : Nat
/-- The same, with what is known of where its stops lie. -/
def AftS (c : UInt8) (i ib lb : Nat) (R : Nat → Prop) (W' : World) : Prop := ∃ g g2 cp cp2 : Nat, ItS c i ib lb g2 2 cp2 (.slice (some ⟨g, 0, none⟩) 1 cp) 0 (-1) 480 W' ∧ W'.ownsRow 0 192 4 (.slice (some ⟨g2, 0, none⟩) 2 cp2) 2 stops2 ∧ W'.ownsRow 0 9 1 (.slice (some ⟨g, 0, none⟩) 1 cp) 1 [.string ⟨#[67, 48, 46, 52, 56, 48]⟩] ∧ R g2
theorem own_same {w w' : World} {base g n c size : Nat} {e : TypeId} {xs : List Value} (h : w.ownsRow base e size (.slice (some ⟨g, 0, none⟩) n c) n xs) (hs : w'.heap[g]? = w.heap[g]?) : w'.ownsRow base e size (.slice (some ⟨g, 0, none⟩) n c) n xs := by
  refine ⟨h.1, ?_⟩
  rcases h.2 with ⟨e1, -⟩ | ⟨g', cap, cur, e1, h2, h3, h4⟩
  · cases e1
  · cases e1
    exact .inr ⟨g, c, cur, rfl, h2, hs.trans h3, h4⟩
theorem own_heap {w : World} {base g n c size : Nat} {e : TypeId} {xs : List Value} (h : w.ownsRow base e size (.slice (some ⟨g, 0, none⟩) n c) n xs) : ∃ cs, Blk w g e cs := by
  rcases h.2 with ⟨e1, -⟩ | ⟨g', cap, cur, e1, h2, h3, h4⟩
  · cases e1
  · cases e1
    exact ⟨cur, h3⟩
theorem Blk.mv {w w' : World} {i sb g : Nat} {t : TypeId} {cs : Array Value} (h : Blk w g t cs) (m : MvF i sb w w') (h1 : g ≠ i) (h2 : g ≠ sb) : Blk w' g t cs := (m.same g h.lt h1 h2).trans h
theorem Pre.mv {c : UInt8} {i ib lb sb x y : Nat} {w w' : World} {t1 t2 : Array Value} (h : Pre c i ib lb sb w) (m : MvF x y w w') (hx : Blk w x 176 t1) (hy : Blk w y 192 t2) (h1 : i ≠ x) (h2 : sb ≠ y) : Pre c i ib lb sb w' :=
  ⟨⟨h.1.it.mv m h1 (h.1.it.ne_ hy (by decide)), h.1.ib.mv m (h.1.ib.ne_ hx (by decide)) (h.1.ib.ne_ hy (by decide)), h.1.lb.mv m (h.1.lb.ne_ hx (by decide)) (h.1.lb.ne_ hy (by decide))⟩, h.2.mv m (h.2.ne_ hx (by decide)) h2⟩
theorem AftS.mv {c : UInt8} {i ib lb x y : Nat} {w w' : World} {t1 t2 : Array Value} (h : AftS c i ib lb (fun g2 => g2 ≠ y) w) (m : MvF x y w w') (hx : Blk w x 176 t1) (hy : Blk w y 192 t2) (h1 : i ≠ x) : AftS c i ib lb (fun g2 => g2 ≠ y) w' := by
  obtain ⟨g, g2, cp, cp2, hi, o1, o2, hr⟩ := h
  obtain ⟨c1, b1⟩ := own_heap o1
  obtain ⟨c2, b2⟩ := own_heap o2
  exact ⟨g, g2, cp, cp2, ⟨hi.it.mv m h1 (hi.it.ne_ hy (by decide)), hi.ib.mv m (hi.ib.ne_ hx (by decide)) (hi.ib.ne_ hy (by decide)), hi.lb.mv m (hi.lb.ne_ hx (by decide)) (hi.lb.ne_ hy (by decide))⟩, own_same o1 (m.same _ b1.lt (b1.ne_ hx (by decide)) hr), own_same o2 (m.same _ b2.lt (b2.ne_ hx (by decide)) (b2.ne_ hy (by decide))), hr⟩
theorem OwnR.mv {w0 w w' : World} {its : Value} {is : List Nat} {x y : Nat} {t1 t2 : Array Value} (h : OwnR ptR w0 w its is) (hk : Keeps w0 w') (m : MvF x y w w') (hx : Blk w x 176 t1) (hy : Blk w y 192 t2) : OwnR ptR w0 w' its is := by
  refine ⟨⟨h.1.1, ?_⟩, hk⟩
  rcases h.1.2 with h1 | ⟨g, cap, cur, e1, h2, h3, h4⟩
  · exact .inl h1
  · exact .inr ⟨g, cap, cur, e1, h2, (m.same g (Array.getElem?_eq_some_iff.1 h3).1 ((show Blk w g 174 cur from h3).ne_ hx (by decide)) ((show Blk w g 174 cur from h3).ne_ hy (by decide))).trans h3, h4⟩
theorem Blk.putL {W : World} {g l : Nat} {t : TypeId} {cs : Array Value} {r : Obj} (h : Blk W g t cs) (hl : W.heap[l]? = some r) (hc : r.isCells = false) (hmp : ∀ es cl, r ≠ .map es cl) (o : Obj) : Blk (W.putObj l o) g t cs := by
  have hne : g ≠ l := fun e => by
    unfold Blk at h
    rw [e, hl] at h
    have := Option.some.inj h
    rw [this] at hc
    simp [Obj.isCells] at hc
  exact (World.putObj_heap_other hne).trans h
theorem own_putL {w : World} {base g n c size l : Nat} {e : TypeId} {xs : List Value} {r : Obj} (h : w.ownsRow base e size (.slice (some ⟨g, 0, none⟩) n c) n xs) (hl : w.heap[l]? = some r) (hc : r.isCells = false) (hmp : ∀ es cl, r ≠ .map es cl) (o : Obj) : (w.putObj l o).ownsRow base e size (.slice (some ⟨g, 0, none⟩) n c) n xs := by
  obtain ⟨cs, b⟩ := own_heap h
  exact own_same h ((b.putL hl hc hmp o).trans b.symm)
theorem MapIs.putL {κ : Type} {kv : κ → Value} {W : World} {m l : Nat} {xs : List (κ × Value)} {r : Obj} (h : MapIs kv W m xs) (hl : W.heap[l]? = some r) (hc : r.isCells = false) (hmp : ∀ es cl, r ≠ .map es cl) (o : Obj) : MapIs kv (W.putObj l o) m xs := by
  refine h.same (World.putObj_heap_other fun e => ?_)
  obtain ⟨es, cl, hr, -⟩ := h
  rw [e, hl] at hr
  exact hmp _ _ (Option.some.inj hr)
theorem ItS.putL {c : UInt8} {i ib lb sb n sc l : Nat} {se : Value} {ho li le : Int} {W : World} {r : Obj} (h : ItS c i ib lb sb n sc se ho li le W) (hl : W.heap[l]? = some r) (hc : r.isCells = false) (hmp : ∀ es cl, r ≠ .map es cl) (o : Obj) : ItS c i ib lb sb n sc se ho li le (W.putObj l o) := ⟨h.it.putL hl hc hmp o, h.ib.putL hl hc hmp o, h.lb.putL hl hc hmp o⟩
theorem AftS.putL {c : UInt8} {i ib lb l : Nat} {R : Nat → Prop} {W : World} {r : Obj} (h : AftS c i ib lb R W) (hl : W.heap[l]? = some r) (hc : r.isCells = false) (hmp : ∀ es cl, r ≠ .map es cl) (o : Obj) : AftS c i ib lb R (W.putObj l o) := by
  obtain ⟨g, g2, cp, cp2, h1, h2, h3, h4⟩ := h
  exact ⟨g, g2, cp, cp2, h1.putL hl hc hmp o, own_putL h2 hl hc hmp o, own_putL h3 hl hc hmp o, h4⟩
/-- What holds when j items have gone. -/
structure TwS (w0 : World) (A : Ad) (its : Value) (L : List (ByteArray × Value)) (T : TwA) (NN t : Nat) (j : Nat) (W : World) : Prop where
  h : HiS w0 A its L W
  o : OwnR ptR w0 W its [T.iA, T.iB]
  b : Blk W NN 166 #[.pointer (some ⟨A.hb, 0, none⟩)]
  r : Blk W (NN + 1) 4 #[.bool false]
  t1 : Blk W t 166 #[.pointer (some ⟨A.hb, 0, none⟩)]
  t2 : Blk W (t + 1) 3 #[.int .i64 9223372036854775807]
  pA : j = 0 → Pre 65 T.iA T.ibA T.lbA T.sbA W
  qA : j ≠ 0 → AftS 65 T.iA T.ibA T.lbA (fun g2 => g2 ≠ T.sbB) W
  pB : j ≤ 1 → Pre 66 T.iB T.ibB T.lbB T.sbB W
  qB : 1 < j → AftS 66 T.iB T.ibB T.lbB (fun _ => True) W
theorem TwS.keep {w0 : World} {A : Ad} {its : Value} {L : List (ByteArray × Value)} {T : TwA} {NN t j : Nat} {W W' : World} (h : TwS w0 A its L T NN t j W) (hk : Keeps W W') : TwS w0 A its L T NN t j W' := by
  have ha : ∀ {c : UInt8} {i ib lb : Nat} {R : Nat → Prop}, AftS c i ib lb R W → AftS c i ib lb R W' := fun {c i ib lb R} ⟨g, g2, cp, cp2, h1, h2, h3, h4⟩ => ⟨g, g2, cp, cp2, h1.keep hk, own_keeps h2 hk, own_keeps h3 hk, h4⟩
  exact ⟨h.h.keep hk, h.o.keep hk, h.b.kp hk, h.r.kp hk, h.t1.kp hk, h.t2.kp hk, fun e => ⟨(h.pA e).1.keep hk, (h.pA e).2.kp hk⟩, fun e => ha (h.qA e), fun e => ⟨(h.pB e).1.keep hk, (h.pB e).2.kp hk⟩, fun e => ha (h.qB e)⟩
theorem TwS.putL {w0 : World} {A : Ad} {p cpp : Nat} {L : List (ByteArray × Value)} {T : TwA} {NN t j l : Nat} {W : World} {r : Obj} (h : TwS w0 A (.slice (some ⟨p, 0, none⟩) 2 cpp) L T NN t j W) (hl : W.heap[l]? = some r) (hc : r.isCells = false) (hmp : ∀ es cl, r ≠ .map es cl) (hw : w0.heap.size ≤ l) (o : Obj) : TwS w0 A (.slice (some ⟨p, 0, none⟩) 2 cpp) L T NN t j (W.putObj l o) :=
  ⟨⟨h.h.k.putO o hw, h.h.net, h.h.kw, h.h.pl, h.h.hb.putL hl hc hmp o, h.h.mm.putL hl hc hmp o, h.h.cm.putL hl hc hmp o, h.h.hl⟩, ⟨own_putL h.o.1 hl hc hmp o, h.o.2.putO o hw⟩, h.b.putL hl hc hmp o, h.r.putL hl hc hmp o, h.t1.putL hl hc hmp o, h.t2.putL hl hc hmp o, fun e => ⟨(h.pA e).1.putL hl hc hmp o, (h.pA e).2.putL hl hc hmp o⟩, fun e => (h.qA e).putL hl hc hmp o, fun e => ⟨(h.pB e).1.putL hl hc hmp o, (h.pB e).2.putL hl hc hmp o⟩, fun e => (h.qB e).putL hl hc hmp o⟩
theorem TwS.dpf {w0 : World} {A : Ad} {p cpp : Nat} {L : List (ByteArray × Value)} {T : TwA} {NN t j : Nat} {W : World} (h : TwS w0 A (.slice (some ⟨p, 0, none⟩) 2 cpp) L T NN t j W) : DpF A t 9223372036854775807 p cpp [T.iA, T.iB] j W := by
  refine ⟨h.t1.cell 0, h.t2.cell 0, h.h.hb.cell7, fun k i hk => ?_, fun k i hk hj => ?_, fun k i hk hj => ?_⟩
  · match k, hk with
    | 0, hk => cases hk; exact own_cell h.o.1 (j := 0) rfl
    | 1, hk => cases hk; exact own_cell h.o.1 (j := 1) rfl
  · match k, hk with
    | 0, hk => cases hk; obtain ⟨g, g2, cp, cp2, h1, -⟩ := h.qA (by omega); exact h1.it.cell 11
    | 1, hk => cases hk; obtain ⟨g, g2, cp, cp2, h1, -⟩ := h.qB hj; exact h1.it.cell 11
  · match k, hk with
    | 0, hk => cases hk; have := (h.pA (by omega)).1; exact ⟨this.it.cell 11, this.it.cell 12⟩
    | 1, hk => cases hk; have := (h.pB hj).1; exact ⟨this.it.cell 11, this.it.cell 12⟩
section
attribute [local go_sem] Oper.semAt_some cat1 cat2 cat3
set_option maxRecDepth 100000 in
set_option maxHeartbeats 64000000 in
theorem proceed_two (w0 : World) (A : Ad) (p cpp : Nat) (L : List (ByteArray × Value)) (T : TwA) (kA kB : Nat) (w : World) (H : HiS w0 A (.slice (some ⟨p, 0, none⟩) 2 cpp) L w) (O : OwnR ptR w0 w (.slice (some ⟨p, 0, none⟩) 2 cpp) [T.iA, T.iB]) (PA : Pre 65 T.iA T.ibA T.lbA T.sbA w) (PB : Pre 66 T.iB T.ibB T.lbB T.sbB w)
    (fA : lookF strE ⟨#[65]⟩ L 0 = some (kA, .pointer (some ⟨T.iA, 0, none⟩))) (fB : lookF strE ⟨#[66]⟩ L 0 = some (kB, .pointer (some ⟨T.iB, 0, none⟩))) (hlo : w0.heap.size ≤ T.iA ∧ w0.heap.size ≤ T.sbA ∧ w0.heap.size ≤ T.iB ∧ w0.heap.size ≤ T.sbB) (hne : T.iA ≠ T.iB ∧ T.sbA ≠ T.sbB) (hT : Tab w0) :
    Calls Tryz.prog 78 #[.pointer (some ⟨A.hb, 0, none⟩), .int .i64 9223372036854775807] w fun e w' => e = .returned (.bool true) ∧ HiS w0 A (.slice (some ⟨p, 0, none⟩) 2 cpp) L w' ∧ OwnR ptR w0 w' (.slice (some ⟨p, 0, none⟩) 2 cpp) [T.iA, T.iB] ∧ AftS 65 T.iA T.ibA T.lbA (fun g2 => g2 ≠ T.sbB) w' ∧ AftS 66 T.iB T.ibB T.lbB (fun _ => True) w' := by
  obtain ⟨NN, hN⟩ : ∃ N, w.heap.size = N := ⟨_, rfl⟩
  have k1 := ((Keeps.refl w).alloc (.cells #[.pointer (some ⟨A.hb, 0, none⟩)] 166)).alloc (.cells #[.bool false] 4)
  have b1 : Blk ((w.alloc (.cells #[.pointer (some ⟨A.hb, 0, none⟩)] 166)).alloc (.cells #[.bool false] 4)) NN 166 #[.pointer (some ⟨A.hb, 0, none⟩)] := (blk_at (w := w) w hN).alloc _
  have b2 : Blk ((w.alloc (.cells #[.pointer (some ⟨A.hb, 0, none⟩)] 166)).alloc (.cells #[.bool false] 4)) (NN + 1) 4 #[.bool false] := blk_at (w := w) _ (by simp [hN])
  have z1 : ((w.alloc (.cells #[.pointer (some ⟨A.hb, 0, none⟩)] 166)).alloc (.cells #[.bool false] 4)).heap.size = NN + 2 := by simp [hN]
  have hsA : T.sbA ≠ T.iA := PA.2.ne_ PA.1.it (by decide)
  have hsB : T.sbB ≠ T.iB := PB.2.ne_ PB.1.it (by decide)
  have S1 := Lib.hid (show ∀ V, V = (w.alloc (.cells #[.pointer (some ⟨A.hb, 0, none⟩)] 166)).alloc (.cells #[.bool false] 4) → Keeps w V ∧ Blk V NN 166 #[.pointer (some ⟨A.hb, 0, none⟩)] ∧ Blk V (NN + 1) 4 #[.bool false] ∧ V.heap.size = NN + 2 from fun V e => by subst e; exact ⟨k1, b1, b2, z1⟩)
  have GH := Lib.hid H
  have GO := Lib.hid O
  have GA := Lib.hid PA
  have GB := Lib.hid PB
  have HNN := Lib.hid hN
  have c1 : ((w.alloc (.cells #[.pointer (some ⟨A.hb, 0, none⟩)] 166)).alloc (.cells #[.bool false] 4)).cell? ⟨NN, 0, none⟩ = some (.pointer (some ⟨A.hb, 0, none⟩)) := b1.cell 0
  clear H O PA PB k1 b1 b2 z1
  refine (callsIn_wide (n := 3)).1 ?_
  refine callsIn_of_wp_marks Tryz.func78 rfl trivial ?_ rfl
  refine wpIn_wide.2 ?_
  simp only [Tryz.ntmps78, List.size_toArray, List.length_cons, List.length_nil, Nat.reduceAdd, Nat.reduceSub, Array.replicate_succ, Array.replicate_zero, List.push_toArray, List.append_toArray, List.nil_append, List.cons_append]
  go_upto_region 1 with fail
  generalize hV : (w.alloc (.cells #[.pointer (some ⟨A.hb, 0, none⟩)] 166)).alloc (.cells #[.bool false] 4) = V at *
  obtain ⟨kV, bV, rV, zV⟩ := S1.out V rfl
  clear S1 hV
  go_wp2_with (go_at_call 132; (with_reducible refine (departures132 A.hb 9223372036854775807 V).mono ?_); rintro e w2 ⟨t, rfl, hz, t1, t2, hk, hz2⟩)
  have hkw := kV.trans hk
  have I0 : TwS w0 A (.slice (some ⟨p, 0, none⟩) 2 cpp) L T NN t 0 w2 := ⟨GH.out.keep hkw, GO.out.keep hkw, bV.kp hk, rV.kp hk, t1, t2, fun _ => ⟨GA.out.1.keep hkw, GA.out.2.kp hkw⟩, fun h => absurd rfl h, fun _ => ⟨GB.out.1.keep hkw, GB.out.2.kp hkw⟩, fun h => absurd h (by decide)⟩
  refine (wpIn_wide (n := 3)).1 ?_
  refine range_list (n := 3) (gf := 168) (lb := #[.pointer (some ⟨t, 0, none⟩), .pointer (some ⟨t + 1, 0, none⟩)]) (by omega) rfl (enters_of Tryz.func168 (by kernel_rfl) rfl) (N := 2) (encs := fun j => #[.pointer (some ⟨if j = 0 then T.iA else T.iB, 0, none⟩)])
    (TwS w0 A (.slice (some ⟨p, 0, none⟩) 2 cpp) L T NN t) (dep168_2 A t p cpp T.iA T.iB _ ?dpf) (fun _ => rfl) (fun j W n h => h.keep ((Keeps.refl W).drewN n)) ?put (fun W o h => h.keep ((Keeps.refl W).alloc o)) I0 (fun j => { tmps := #[.pointer (some ⟨A.hb, 0, none⟩), .int .i64 9223372036854775807, .pointer (some ⟨NN, 0, none⟩), undef, .pointer (some ⟨NN + 1, 0, none⟩), .pointer (some ⟨if j = 0 then T.iA else T.iB, 0, none⟩), undef, undef, .pointer (some ⟨A.hb, 0, none⟩), .int .i64 9223372036854775807, .func (.func 168) #[] #[.pointer (some ⟨t, 0, none⟩), .pointer (some ⟨t + 1, 0, none⟩)], .pointer (some ⟨if j = 0 then T.iA else T.iB, 0, none⟩), undef, undef, undef, undef, undef, undef, undef, undef, undef, undef, undef, undef, undef, undef, undef, undef, undef, undef, undef, undef, undef, undef, undef, undef, undef, undef, undef, undef, undef, undef, undef, undef, undef, undef, undef, undef, undef, undef, undef, undef, undef, undef, undef, undef, undef, undef, undef, undef, undef, undef, undef, undef, undef, undef, undef, undef, undef, undef, undef, undef, undef, undef, undef, undef, undef, undef, undef, undef, undef, undef, undef, undef, undef, undef, undef, undef, undef, undef, undef, undef, undef, undef, undef, undef, undef], defers := [] })
    ?assign ?body ?done
  case dpf => exact fun j W h => h.dpf
  case put => exact fun j W l r o hl hr h => h.putL hr rfl (fun _ _ e => by cases e) (Nat.le_trans (GH.out.keep hkw).k.size hl) o
  case assign =>
    intro j l m W K hj hK
    generalize (if j = 0 then T.iA else T.iB) = x at *
    gi_wp2
    exact hK
  case body =>
    intro j l m W hj hw hI
    have HJ : ∃ c i ib lb sb kk, (if j = 0 then T.iA else T.iB) = i ∧ Pre c i ib lb sb W ∧ w0.heap.size ≤ sb ∧ w0.heap.size ≤ i ∧ lookF strE ⟨#[c]⟩ L 0 = some (kk, .pointer (some ⟨i, 0, none⟩)) ∧ ∀ W', HiS w0 A (.slice (some ⟨p, 0, none⟩) 2 cpp) L W' → Aft c i ib lb sb W W' → MvF i sb W W' → listP w2 (TwS w0 A (.slice (some ⟨p, 0, none⟩) 2 cpp) L T NN t (j + 1)) W .normal { tmps := #[], defers := [] } W' := by
      rcases (show j = 0 ∨ j = 1 by omega) with rfl | rfl
      · have P := hI.pA rfl
        have PB2 := hI.pB (by decide)
        refine ⟨65, T.iA, T.ibA, T.lbA, T.sbA, kA, rfl, P, hlo.2.1, hlo.1, fA, fun W' h1 h2 h3 => ?_⟩
        obtain ⟨g, g2, cp, cp2, a1, a2, a3, a4⟩ := h2
        have hg2 : g2 ≠ T.sbB := fun e => by
          rcases a4 with a4 | a4
          · exact hne.2 (a4.symm.trans e)
          · have := PB2.2.lt; omega
        have n1 : ∀ {q : Nat} {T0 : TypeId} {cs : Array Value}, Blk W q T0 cs → T0 ≠ 176 → T0 ≠ 192 → Blk W' q T0 cs := fun hb e1 e2 => hb.mv h3 (hb.ne_ P.1.it e1) (hb.ne_ P.2 e2)
        exact ⟨⟨h1, hI.o.mv h1.k h3 P.1.it P.2, n1 hI.b (by decide) (by decide), n1 hI.r (by decide) (by decide), n1 hI.t1 (by decide) (by decide), n1 hI.t2 (by decide) (by decide), fun e => absurd e (by decide), fun _ => ⟨g, g2, cp, cp2, a1, a2, a3, hg2⟩, fun _ => PB2.mv h3 P.1.it P.2 (fun e => hne.1 e.symm) (fun e => hne.2 e.symm), fun e => absurd e (by decide)⟩, h3.size,
          fun k hk1 hk2 => h3.same k hk2 (fun e => by have := (I0.pA rfl).1.it.lt; omega) (fun e => by have := (I0.pA rfl).2.lt; omega)⟩
      · have P := hI.pB (by decide)
        have QA := hI.qA (by decide)
        refine ⟨66, T.iB, T.ibB, T.lbB, T.sbB, kB, rfl, P, hlo.2.2.2, hlo.2.2.1, fB, fun W' h1 h2 h3 => ?_⟩
        obtain ⟨g, g2, cp, cp2, a1, a2, a3, a4⟩ := h2
        have n1 : ∀ {q : Nat} {T0 : TypeId} {cs : Array Value}, Blk W q T0 cs → T0 ≠ 176 → T0 ≠ 192 → Blk W' q T0 cs := fun hb e1 e2 => hb.mv h3 (hb.ne_ P.1.it e1) (hb.ne_ P.2 e2)
        exact ⟨⟨h1, hI.o.mv h1.k h3 P.1.it P.2, n1 hI.b (by decide) (by decide), n1 hI.r (by decide) (by decide), n1 hI.t1 (by decide) (by decide), n1 hI.t2 (by decide) (by decide), fun e => absurd e (by decide), fun _ => QA.mv h3 P.1.it P.2 hne.1, fun e => absurd e (by decide), fun _ => ⟨g, g2, cp, cp2, a1, a2, a3, trivial⟩⟩, h3.size,
          fun k hk1 hk2 => h3.same k hk2 (fun e => by have := (I0.pB (by decide)).1.it.lt; omega) (fun e => by have := (I0.pB (by decide)).2.lt; omega)⟩
    obtain ⟨c, i, ib, lb, sb, kk, hij, ⟨I, S⟩, hsl, hil, hf, hend⟩ := HJ
    have H := hI.h
    have B := hI.b
    have HEND := Lib.hid (show ∀ W', HiS w0 A (.slice (some ⟨p, 0, none⟩) 2 cpp) L W' → Aft c i ib lb sb W W' → MvF i sb W W' → ∀ a, listP w2 (TwS w0 A (.slice (some ⟨p, 0, none⟩) 2 cpp) L T NN t (j + 1)) W .normal a W' from fun W' h1 h2 h3 a => hend W' h1 h2 h3)
    rw [hij]
    have HT := Lib.hid hT
    clear hI hend hij I0 hkw hz hz2 t1 t2 hk kV bV rV zV c1 hw hj GH GO GA GB fA fB hlo hne hsA hsB HNN hN hT V
    generalize (.slice (some ⟨p, 0, none⟩) 2 cpp : Value) = its at *
    have b0 := B.cell 0
    obtain ⟨h0, h1, h2, h3, h4, h5, h6, h7, h8, h9⟩ := H.cells
    obtain ⟨i2, i5, i6, i7, i8, i9, i10, i11, i12, i13, i14, g5, g9, g10, g11, g12⟩ := I.cells
    have l0 : W.cell? ⟨A.bl, 0, none⟩ = some (.string ⟨#[108]⟩) := (H.net.li.kp H.k).cell 0
    have l1 : W.cell? ⟨A.bl, 1, none⟩ = some (.int .i64 0) := (H.net.li.kp H.k).cell 1
    have l2 : W.cell? ⟨A.bl, 2, none⟩ = some (.int .i64 1) := (H.net.li.kp H.k).cell 2
    have l3 : W.cell? ⟨A.bl, 3, none⟩ = some (.int .i64 480) := (H.net.li.kp H.k).cell 3
    have l4 : W.cell? ⟨A.bl, 4, none⟩ = some (.int .i64 120) := (H.net.li.kp H.k).cell 4
    have l5 : W.cell? ⟨A.bl, 5, none⟩ = some (.int .i64 1) := (H.net.li.kp H.k).cell 5
    have kz := (Keeps.refl W).alloc (.cells #[.string ⟨#[]⟩, .int .i64 0, .int .i64 0, .int .i64 0, .int .i64 0, .int .i64 0] 160)
    have BZ := Blk.new W 160 #[.string ⟨#[]⟩, .int .i64 0, .int .i64 0, .int .i64 0, .int .i64 0, .int .i64 0]
    have z0 := BZ.cell 0; have z1 := BZ.cell 1; have z2 := BZ.cell 2; have z3 := BZ.cell 3; have z4 := BZ.cell 4; have z5 := BZ.cell 5
    have y0 := BZ.frozen 0; have y1 := BZ.frozen 1; have y2 := BZ.frozen 2; have y3 := BZ.frozen 3; have y4 := BZ.frozen 4; have y5 := BZ.frozen 5
    have zb := (B.kp kz).cell 0
    have zh := (H.keep kz).cells.2.2.2.2.1
    have zi := (I.keep kz).cells.2.2.2.2.2.2.2.1
    have zl0 := ((H.net.li.kp H.k).kp kz).cell 0
    have zl1 := ((H.net.li.kp H.k).kp kz).cell 1
    have zl2 := ((H.net.li.kp H.k).kp kz).cell 2
    have zl3 := ((H.net.li.kp H.k).kp kz).cell 3
    have zl4 := ((H.net.li.kp H.k).kp kz).cell 4
    have zl5 := ((H.net.li.kp H.k).kp kz).cell 5
    clear i2 i6 i7 i8 i9 i10 i12 i13 i14 g5 g9 g10 g11 g12 h0 h1 h2 h3 h5 h6 h7 h8 h9
    have HNE := Lib.hid (show sb ≠ i from S.ne_ I.it (by decide))
    have HSL := Lib.hid hsl
    have HF := Lib.hid hf
    have HIL := Lib.hid hil
    have HH := Lib.hid H
    have II := Lib.hid I
    have SS := Lib.hid S
    have BB := Lib.hid B
    clear H I S B kz BZ
    gi_wp2
    refine region_pureF (b := ?B1) (by kernel_rfl) [11, 12] [⟨0, 19, .pointer (some ⟨A.hb, 0, none⟩), 1, [0, 12], 0, []⟩, ⟨1, 20, .pointer (some ⟨A.hb, 0, none⟩), 1, [1, 12], 0, []⟩, ⟨2, 21, .pointer (some ⟨A.hb, 0, none⟩), 1, [2, 12], 0, []⟩, ⟨3, 22, .pointer (some ⟨A.hb, 4, none⟩), 1, [3, 12], 0, []⟩, ⟨4, 23, .slice (some ⟨A.bl, 0, none⟩) 2 2, 1, [4, 12], 0, []⟩, ⟨5, 24, .pointer (some ⟨i, 0, none⟩), 1, [5, 12], 0, []⟩, ⟨6, 25, .pointer (some ⟨i, 0, none⟩), 1, [6, 12], 0, []⟩, ⟨7, 26, .pointer (some ⟨i, 11, none⟩), 1, [7, 12], 0, []⟩, ⟨8, 27, .int .i64 0, 1, [8, 12], 0, []⟩, ⟨9, 28, .pointer (some ⟨A.bl, 0, none⟩), 1, [9, 12], 0, []⟩, ⟨10, 29, .agg #[.string ⟨#[108]⟩, .int .i64 0, .int .i64 1, .int .i64 480, .int .i64 120, .int .i64 1], 1, [10, 12], 0, []⟩]
      (fun B k b w => (k = 0 ∧ b = B ∧ w = W.drew) ∨ (k = 1 ∧ b = B.put (some 6) (.pointer (some ⟨W.heap.size, 0, none⟩)) ∧ w = (W.alloc (.cells #[.string ⟨#[]⟩, .int .i64 0, .int .i64 0, .int .i64 0, .int .i64 0, .int .i64 0] 160)).drew) ∨ (k = 2 ∧ b = B.put (some 6) (.pointer (some ⟨W.heap.size, 0, none⟩)) ∧ w = (W.alloc (.cells #[.string ⟨#[108]⟩, .int .i64 0, .int .i64 1, .int .i64 480, .int .i64 120, .int .i64 1] 160)).drew))
      ?hb1 (by kernel_rfl) (by kernel_rfl) (by decide) (by kernel_rfl) (by kernel_rfl) (by kernel_rfl) ?h01 ?hpure1 ?heff1 ?hfin1
    case hb1 =>
      simp only [putsP, Act.put, List.setIfInBounds_toArray, List.set_cons_zero, List.set_cons_succ]
      rfl
    case h01 => exact .inl ⟨rfl, rfl, rfl⟩
    case hpure1 =>
      refine ⟨⟨_, rfl, fun k b w hl hk hΦ => ?_⟩, ?_⟩
      · have hk' : k ≤ 1 := hk
        have hl' : 0 ≤ k := hl
        rcases hΦ with ⟨hq, hb, hw⟩ | ⟨hq, hb, hw⟩ | ⟨hq, hb, hw⟩
        all_goals first | (exfalso; omega) | ((try subst hw); exact pure_eq hb ⟨rfl, by go_simp⟩)
      refine ⟨⟨_, rfl, fun k b w hl hk hΦ => ?_⟩, ?_⟩
      · have hk' : k ≤ 1 := hk
        have hl' : 0 ≤ k := hl
        rcases hΦ with ⟨hq, hb, hw⟩ | ⟨hq, hb, hw⟩ | ⟨hq, hb, hw⟩
        all_goals first | (exfalso; omega) | ((try subst hw); exact pure_eq hb ⟨rfl, by go_simp⟩)
      refine ⟨⟨_, rfl, fun k b w hl hk hΦ => ?_⟩, ?_⟩
      · have hk' : k ≤ 1 := hk
        have hl' : 0 ≤ k := hl
        rcases hΦ with ⟨hq, hb, hw⟩ | ⟨hq, hb, hw⟩ | ⟨hq, hb, hw⟩
        all_goals first | (exfalso; omega) | ((try subst hw); exact pure_eq hb ⟨rfl, by go_simp⟩)
      refine ⟨⟨_, rfl, fun k b w hl hk hΦ => ?_⟩, ?_⟩
      · have hk' : k ≤ 1 := hk
        have hl' : 0 ≤ k := hl
        rcases hΦ with ⟨hq, hb, hw⟩ | ⟨hq, hb, hw⟩ | ⟨hq, hb, hw⟩
        all_goals first | (exfalso; omega) | ((try subst hw); exact pure_eq hb ⟨rfl, by go_simp⟩)
      refine ⟨⟨_, rfl, fun k b w hl hk hΦ => ?_⟩, ?_⟩
      · have hk' : k ≤ 1 := hk
        have hl' : 0 ≤ k := hl
        rcases hΦ with ⟨hq, hb, hw⟩ | ⟨hq, hb, hw⟩ | ⟨hq, hb, hw⟩
        all_goals first | (exfalso; omega) | ((try subst hw); exact pure_eq hb ⟨rfl, by go_simp⟩)
      refine ⟨⟨_, rfl, fun k b w hl hk hΦ => ?_⟩, ?_⟩
      · have hk' : k ≤ 1 := hk
        have hl' : 0 ≤ k := hl
        rcases hΦ with ⟨hq, hb, hw⟩ | ⟨hq, hb, hw⟩ | ⟨hq, hb, hw⟩
        all_goals first | (exfalso; omega) | ((try subst hw); exact pure_eq hb ⟨rfl, by go_simp⟩)
      refine ⟨⟨_, rfl, fun k b w hl hk hΦ => ?_⟩, ?_⟩
      · have hk' : k ≤ 1 := hk
        have hl' : 0 ≤ k := hl
        rcases hΦ with ⟨hq, hb, hw⟩ | ⟨hq, hb, hw⟩ | ⟨hq, hb, hw⟩
        all_goals first | (exfalso; omega) | ((try subst hw); exact pure_eq hb ⟨rfl, by go_simp⟩)
      refine ⟨⟨_, rfl, fun k b w hl hk hΦ => ?_⟩, ?_⟩
      · have hk' : k ≤ 1 := hk
        have hl' : 0 ≤ k := hl
        rcases hΦ with ⟨hq, hb, hw⟩ | ⟨hq, hb, hw⟩ | ⟨hq, hb, hw⟩
        all_goals first | (exfalso; omega) | ((try subst hw); exact pure_eq hb ⟨rfl, by go_simp⟩)
      refine ⟨⟨_, rfl, fun k b w hl hk hΦ => ?_⟩, ?_⟩
      · have hk' : k ≤ 1 := hk
        have hl' : 0 ≤ k := hl
        rcases hΦ with ⟨hq, hb, hw⟩ | ⟨hq, hb, hw⟩ | ⟨hq, hb, hw⟩
        all_goals first | (exfalso; omega) | ((try subst hw); exact pure_eq hb ⟨rfl, by go_simp⟩)
      refine ⟨⟨_, rfl, fun k b w hl hk hΦ => ?_⟩, ?_⟩
      · have hk' : k ≤ 1 := hk
        have hl' : 0 ≤ k := hl
        rcases hΦ with ⟨hq, hb, hw⟩ | ⟨hq, hb, hw⟩ | ⟨hq, hb, hw⟩
        all_goals first | (exfalso; omega) | ((try subst hw); exact pure_eq hb ⟨rfl, by go_simp⟩)
      refine ⟨⟨_, rfl, fun k b w hl hk hΦ => ?_⟩, ?_⟩
      · have hk' : k ≤ 1 := hk
        have hl' : 0 ≤ k := hl
        rcases hΦ with ⟨hq, hb, hw⟩ | ⟨hq, hb, hw⟩ | ⟨hq, hb, hw⟩
        all_goals first | (exfalso; omega) | ((try subst hw); exact pure_eq hb ⟨rfl, by go_simp⟩)
      exact trivial
    case heff1 =>
      refine ⟨⟨_, rfl, fun b w hΦ => ?_⟩, ?_⟩
      · rcases hΦ with ⟨hq, hb, hw⟩ | ⟨hq, hb, hw⟩ | ⟨hq, hb, hw⟩
        all_goals first | (exfalso; omega) | (try subst hw)
        exact upV_okb hb (v := (.pointer (some ⟨W.heap.size, 0, none⟩))) (w' := (W.alloc (.cells #[.string ⟨#[]⟩, .int .i64 0, .int .i64 0, .int .i64 0, .int .i64 0, .int .i64 0] 160)).drew) (by go_simp) (.inr (.inl ⟨rfl, put_eq hb rfl rfl, rfl⟩))
      refine ⟨⟨_, rfl, fun b w hΦ => ?_⟩, ?_⟩
      · rcases hΦ with ⟨hq, hb, hw⟩ | ⟨hq, hb, hw⟩ | ⟨hq, hb, hw⟩
        all_goals first | (exfalso; omega) | (try subst hw)
        exact upV_skipb hb (w' := (W.alloc (.cells #[.string ⟨#[108]⟩, .int .i64 0, .int .i64 1, .int .i64 480, .int .i64 120, .int .i64 1] 160)).drew) (by go_simp) (.inr (.inr ⟨rfl, (put_none rfl).trans hb, rfl⟩))
      exact trivial
    case hfin1 =>
      intro k b w hk hΦ
      have hk' : 2 ≤ k := hk
      rcases hΦ with ⟨hq, hb, hw⟩ | ⟨hq, hb, hw⟩ | ⟨hq, hb, hw⟩
      all_goals first | (exfalso; omega) | ((try subst hw); refine fin_eq hb ?_; clear hb)
      simp only [Act.put, List.setIfInBounds_toArray, List.set_cons_zero, List.set_cons_succ]
      have K5 := ((Keeps.refl W).alloc (.cells #[.string ⟨#[108]⟩, .int .i64 0, .int .i64 1, .int .i64 480, .int .i64 120, .int .i64 1] 160)).drew
      have H5 := Lib.hid (HH.out.keep K5)
      have I5 := Lib.hid (II.out.keep K5)
      have S5 := Lib.hid (SS.out.kp K5)
      have B5 := Lib.hid (BB.out.kp K5)
      have F5 := Lib.hid (MvF.refl i sb W |>.keeps K5)
      have L5 := Lib.hid (Blk.new W 160 #[.string ⟨#[108]⟩, .int .i64 0, .int .i64 1, .int .i64 480, .int .i64 120, .int .i64 1]).drew
      clear HH II SS BB K5 b0 h4 i5 i11 l0 l1 l2 l3 l4 l5 z0 z1 z2 z3 z4 z5 y0 y1 y2 y3 y4 y5 zb zh zi zl0 zl1 zl2 zl3 zl4 zl5 hk hk' hq
      generalize (W.alloc (.cells #[.string ⟨#[108]⟩, .int .i64 0, .int .i64 1, .int .i64 480, .int .i64 120, .int .i64 1] 160)).drew = W5 at *
      generalize W.heap.size = LB at *
      have i5 := I5.out.cells.2.1
      gi_wp2_with (refine ⟨trivial, fun h => (by simp [Fence.wide] at h), ?_⟩; gi_at_call 133; (with_reducible refine (CallsIn.inRound l (callsIn_wide.2 (last133 i sb 1 1 W5 i5 (.inl rfl)))).mono ?_); rintro e w6 ⟨rfl, m6, rfl⟩)
      clear i5
      have K6 := (Keeps.refl W5).drewN m6
      have H6 := Lib.hid (H5.out.keep K6)
      have I6 := Lib.hid (I5.out.keep K6)
      have S6 := Lib.hid (S5.out.kp K6)
      have B6 := Lib.hid (B5.out.kp K6)
      have F6 := Lib.hid (F5.out.keeps K6)
      have L6 := Lib.hid (L5.out.kp K6)
      clear H5 I5 S5 B5 F5 L5 K6
      generalize W5.drewN m6 = W6 at *
      clear m6 W5
      have i11 := I6.out.it.cell 11
      have i12 := I6.out.it.cell 12
      have s2 := S6.out.cell 2
      have s3 := S6.out.cell 3
      have r2 := S6.out.frozen 2
      have r3 := S6.out.frozen 3
      have hne1 := HNE.out
      have hne2 : i ≠ sb := fun e => hne1 e.symm
      simp only [itC] at i11 i12
      refine region_pureF (b := ?B2) (by kernel_rfl) [12, 15] [⟨0, 32, .pointer (some ⟨sb, 0, none⟩), 1, [0, 15], 0, []⟩, ⟨1, 33, .pointer (some ⟨sb, 0, none⟩), 1, [1, 15], 0, []⟩, ⟨2, 34, .pointer (some ⟨i, 0, none⟩), 1, [2, 15], 0, []⟩, ⟨3, 35, .pointer (some ⟨i, 0, none⟩), 1, [3, 15], 0, []⟩, ⟨4, 36, .pointer (some ⟨i, 12, none⟩), 1, [4, 15], 0, []⟩, ⟨5, 37, .int .i64 480, 1, [5, 15], 0, []⟩, ⟨6, 38, .pointer (some ⟨i, 0, none⟩), 1, [6, 15], 0, []⟩, ⟨7, 39, .pointer (some ⟨i, 0, none⟩), 1, [7, 15], 0, []⟩, ⟨8, 40, .pointer (some ⟨i, 11, none⟩), 1, [8, 15], 0, []⟩, ⟨9, 41, .int .i64 0, 1, [9, 15], 0, []⟩, ⟨10, 42, .pointer (some ⟨sb, 0, none⟩), 1, [10, 15], 0, []⟩, ⟨11, 43, .pointer (some ⟨sb, 2, none⟩), 1, [11, 15], 0, []⟩, ⟨13, 44, .pointer (some ⟨sb, 0, none⟩), 1, [13, 14, 15], 0, []⟩, ⟨14, 45, .pointer (some ⟨sb, 3, none⟩), 1, [14, 15], 0, []⟩]
        (fun B k b w => (k = 0 ∧ b = B ∧ w = W6.drew) ∨ (k = 1 ∧ b = B ∧ w = (W6.setCell ⟨sb, 2, none⟩ (.int .i64 480)).drew) ∨ (k = 2 ∧ b = B ∧ w = ((W6.setCell ⟨sb, 2, none⟩ (.int .i64 480)).setCell ⟨sb, 3, none⟩ (.int .i64 0)).drew))
        ?hb2 (by kernel_rfl) (by kernel_rfl) (by decide) (by kernel_rfl) (by kernel_rfl) (by kernel_rfl) ?h02 ?hpure2 ?heff2 ?hfin2
      case hb2 =>
        simp only [putsP, Act.put, List.setIfInBounds_toArray, List.set_cons_zero, List.set_cons_succ]
        rfl
      case h02 => exact .inl ⟨rfl, rfl, rfl⟩
      case hpure2 =>
        refine ⟨⟨_, rfl, fun k b w hl hk hΦ => ?_⟩, ?_⟩
        · have hk' : k ≤ 1 := hk
          have hl' : 0 ≤ k := hl
          rcases hΦ with ⟨hq, hb, hw⟩ | ⟨hq, hb, hw⟩ | ⟨hq, hb, hw⟩
          all_goals first | (exfalso; omega) | ((try subst hw); exact pure_eq hb ⟨rfl, by go_simp⟩)
        refine ⟨⟨_, rfl, fun k b w hl hk hΦ => ?_⟩, ?_⟩
        · have hk' : k ≤ 1 := hk
          have hl' : 0 ≤ k := hl
          rcases hΦ with ⟨hq, hb, hw⟩ | ⟨hq, hb, hw⟩ | ⟨hq, hb, hw⟩
          all_goals first | (exfalso; omega) | ((try subst hw); exact pure_eq hb ⟨rfl, by go_simp⟩)
        refine ⟨⟨_, rfl, fun k b w hl hk hΦ => ?_⟩, ?_⟩
        · have hk' : k ≤ 1 := hk
          have hl' : 0 ≤ k := hl
          rcases hΦ with ⟨hq, hb, hw⟩ | ⟨hq, hb, hw⟩ | ⟨hq, hb, hw⟩
          all_goals first | (exfalso; omega) | ((try subst hw); exact pure_eq hb ⟨rfl, by go_simp⟩)
        refine ⟨⟨_, rfl, fun k b w hl hk hΦ => ?_⟩, ?_⟩
        · have hk' : k ≤ 1 := hk
          have hl' : 0 ≤ k := hl
          rcases hΦ with ⟨hq, hb, hw⟩ | ⟨hq, hb, hw⟩ | ⟨hq, hb, hw⟩
          all_goals first | (exfalso; omega) | ((try subst hw); exact pure_eq hb ⟨rfl, by go_simp⟩)
        refine ⟨⟨_, rfl, fun k b w hl hk hΦ => ?_⟩, ?_⟩
        · have hk' : k ≤ 1 := hk
          have hl' : 0 ≤ k := hl
          rcases hΦ with ⟨hq, hb, hw⟩ | ⟨hq, hb, hw⟩ | ⟨hq, hb, hw⟩
          all_goals first | (exfalso; omega) | ((try subst hw); exact pure_eq hb ⟨rfl, by go_simp⟩)
        refine ⟨⟨_, rfl, fun k b w hl hk hΦ => ?_⟩, ?_⟩
        · have hk' : k ≤ 1 := hk
          have hl' : 0 ≤ k := hl
          rcases hΦ with ⟨hq, hb, hw⟩ | ⟨hq, hb, hw⟩ | ⟨hq, hb, hw⟩
          all_goals first | (exfalso; omega) | ((try subst hw); exact pure_eq hb ⟨rfl, by go_simp⟩)
        refine ⟨⟨_, rfl, fun k b w hl hk hΦ => ?_⟩, ?_⟩
        · have hk' : k ≤ 1 := hk
          have hl' : 0 ≤ k := hl
          rcases hΦ with ⟨hq, hb, hw⟩ | ⟨hq, hb, hw⟩ | ⟨hq, hb, hw⟩
          all_goals first | (exfalso; omega) | ((try subst hw); exact pure_eq hb ⟨rfl, by go_simp⟩)
        refine ⟨⟨_, rfl, fun k b w hl hk hΦ => ?_⟩, ?_⟩
        · have hk' : k ≤ 1 := hk
          have hl' : 0 ≤ k := hl
          rcases hΦ with ⟨hq, hb, hw⟩ | ⟨hq, hb, hw⟩ | ⟨hq, hb, hw⟩
          all_goals first | (exfalso; omega) | ((try subst hw); exact pure_eq hb ⟨rfl, by go_simp⟩)
        refine ⟨⟨_, rfl, fun k b w hl hk hΦ => ?_⟩, ?_⟩
        · have hk' : k ≤ 1 := hk
          have hl' : 0 ≤ k := hl
          rcases hΦ with ⟨hq, hb, hw⟩ | ⟨hq, hb, hw⟩ | ⟨hq, hb, hw⟩
          all_goals first | (exfalso; omega) | ((try subst hw); exact pure_eq hb ⟨rfl, by go_simp⟩)
        refine ⟨⟨_, rfl, fun k b w hl hk hΦ => ?_⟩, ?_⟩
        · have hk' : k ≤ 1 := hk
          have hl' : 0 ≤ k := hl
          rcases hΦ with ⟨hq, hb, hw⟩ | ⟨hq, hb, hw⟩ | ⟨hq, hb, hw⟩
          all_goals first | (exfalso; omega) | ((try subst hw); exact pure_eq hb ⟨rfl, by go_simp⟩)
        refine ⟨⟨_, rfl, fun k b w hl hk hΦ => ?_⟩, ?_⟩
        · have hk' : k ≤ 1 := hk
          have hl' : 0 ≤ k := hl
          rcases hΦ with ⟨hq, hb, hw⟩ | ⟨hq, hb, hw⟩ | ⟨hq, hb, hw⟩
          all_goals first | (exfalso; omega) | ((try subst hw); exact pure_eq hb ⟨rfl, by go_simp⟩)
        refine ⟨⟨_, rfl, fun k b w hl hk hΦ => ?_⟩, ?_⟩
        · have hk' : k ≤ 1 := hk
          have hl' : 0 ≤ k := hl
          rcases hΦ with ⟨hq, hb, hw⟩ | ⟨hq, hb, hw⟩ | ⟨hq, hb, hw⟩
          all_goals first | (exfalso; omega) | ((try subst hw); exact pure_eq hb ⟨rfl, by go_simp⟩)
        refine ⟨⟨_, rfl, fun k b w hl hk hΦ => ?_⟩, ?_⟩
        · have hk' : k ≤ 1 := hk
          have hl' : 0 ≤ k := hl
          rcases hΦ with ⟨hq, hb, hw⟩ | ⟨hq, hb, hw⟩ | ⟨hq, hb, hw⟩
          all_goals first | (exfalso; omega) | ((try subst hw); exact pure_eq hb ⟨rfl, by go_simp⟩)
        refine ⟨⟨_, rfl, fun k b w hl hk hΦ => ?_⟩, ?_⟩
        · have hk' : k ≤ 1 := hk
          have hl' : 0 ≤ k := hl
          rcases hΦ with ⟨hq, hb, hw⟩ | ⟨hq, hb, hw⟩ | ⟨hq, hb, hw⟩
          all_goals first | (exfalso; omega) | ((try subst hw); exact pure_eq hb ⟨rfl, by go_simp⟩)
        exact trivial
      case heff2 =>
        refine ⟨⟨_, rfl, fun b w hΦ => ?_⟩, ?_⟩
        · rcases hΦ with ⟨hq, hb, hw⟩ | ⟨hq, hb, hw⟩ | ⟨hq, hb, hw⟩
          all_goals first | (exfalso; omega) | (try subst hw)
          exact upV_skipb hb (w' := (W6.setCell ⟨sb, 2, none⟩ (.int .i64 480)).drew) (by go_simp) (.inr (.inl ⟨rfl, (put_none rfl).trans hb, rfl⟩))
        refine ⟨⟨_, rfl, fun b w hΦ => ?_⟩, ?_⟩
        · rcases hΦ with ⟨hq, hb, hw⟩ | ⟨hq, hb, hw⟩ | ⟨hq, hb, hw⟩
          all_goals first | (exfalso; omega) | (try subst hw)
          exact upV_skipb hb (w' := ((W6.setCell ⟨sb, 2, none⟩ (.int .i64 480)).setCell ⟨sb, 3, none⟩ (.int .i64 0)).drew) (by go_simp) (.inr (.inr ⟨rfl, (put_none rfl).trans hb, rfl⟩))
        exact trivial
      case hfin2 =>
        intro k b w hk hΦ
        have hk' : 2 ≤ k := hk
        rcases hΦ with ⟨hq, hb, hw⟩ | ⟨hq, hb, hw⟩ | ⟨hq, hb, hw⟩
        all_goals first | (exfalso; omega) | ((try subst hw); refine fin_eq hb ?_; clear hb)
        have g1 := grown_set W6 sb 2 (.int .i64 480)
        have g2 := grown_set (W6.setCell ⟨sb, 2, none⟩ (.int .i64 480)) sb 3 (.int .i64 0)
        have hsl := HSL.out
        have s2b : Blk (W6.setCell ⟨sb, 2, none⟩ (.int .i64 480)) sb 192 #[.int .i64 0, .int .i64 100, .int .i64 480, .int .i64 (-1)] := by simpa using S6.out.set_ 2 (.int .i64 480)
        have s3b : Blk ((W6.setCell ⟨sb, 2, none⟩ (.int .i64 480)).setCell ⟨sb, 3, none⟩ (.int .i64 0)) sb 192 #[.int .i64 0, .int .i64 100, .int .i64 480, .int .i64 0] := by simpa using s2b.set_ 3 (.int .i64 0)
        have K7 := (Keeps.refl ((W6.setCell ⟨sb, 2, none⟩ (.int .i64 480)).setCell ⟨sb, 3, none⟩ (.int .i64 0))).drew
        have H7 := Lib.hid (((H6.out.grow g1 S6.out (by decide) hsl).grow g2 s2b (by decide) hsl).keep K7)
        have nb : ∀ {g : Nat} {T : TypeId} {cs : Array Value}, Blk W6 g T cs → T ≠ 192 → some g ≠ some sb := fun hb hT e => hb.ne_ S6.out hT (Option.some.inj e)
        have i6a := I6.out.other g1 (nb I6.out.it (by decide)) (nb I6.out.ib (by decide)) (nb I6.out.lb (by decide))
        have i6b := i6a.other g2 (nb I6.out.it (by decide)) (nb I6.out.ib (by decide)) (nb I6.out.lb (by decide))
        have I7 := Lib.hid (i6b.keep K7)
        have S7 := Lib.hid (s3b.kp K7)
        have B7 := Lib.hid (((B6.out.grown g1 (nb B6.out (by decide))).grown g2 (nb B6.out (by decide))).kp K7)
        have L7 := Lib.hid (((L6.out.grown g1 (nb L6.out (by decide))).grown g2 (nb L6.out (by decide))).kp K7)
        have F7 := Lib.hid (((F6.out.grow g1 (.inr rfl)).grow g2 (.inr rfl)).keeps K7)
        have X9F := Lib.hid (show ((W6.setCell ⟨sb, 2, none⟩ (.int .i64 480)).setCell ⟨sb, 3, none⟩ (.int .i64 0)).drew.cell? ⟨i, 9, none⟩ = some (.slice none 0 0) from I7.out.it.cell 9)
        have X11F := Lib.hid (show ((W6.setCell ⟨sb, 2, none⟩ (.int .i64 480)).setCell ⟨sb, 3, none⟩ (.int .i64 0)).drew.cell? ⟨i, 11, none⟩ = some (.int .i64 0) from I7.out.it.cell 11)
        have X12F := Lib.hid (show ((W6.setCell ⟨sb, 2, none⟩ (.int .i64 480)).setCell ⟨sb, 3, none⟩ (.int .i64 0)).drew.cell? ⟨i, 12, none⟩ = some (.int .i64 480) from I7.out.it.cell 12)
        have HTW := Lib.hid (HT.out.keep H7.out.k)
        have S7L := Lib.hid S7.out.lt
        clear g1 g2 s2b s3b K7 nb i6a i6b H6 I6 S6 B6 L6 F6 i11 i12 s2 s3 r2 r3 hk hk' hq
        generalize ((W6.setCell ⟨sb, 2, none⟩ (.int .i64 480)).setCell ⟨sb, 3, none⟩ (.int .i64 0)).drew = W7 at *
        clear W6
        gi_wp2
        refine region_pureF (b := ?B3) (by kernel_rfl) [10, 17, 18, 19, 20, 24] [⟨0, 46, .pointer (some ⟨i, 0, none⟩), 5, [0, 24], 0, []⟩, ⟨1, 47, .pointer (some ⟨i, 0, none⟩), 4, [1, 2, 3, 4, 5, 20], 0, []⟩, ⟨2, 48, .pointer (some ⟨i, 0, none⟩), 4, [2, 3, 4, 5, 20], 0, []⟩, ⟨3, 49, .pointer (some ⟨i, 0, none⟩), 4, [3, 4, 5, 20], 0, []⟩, ⟨4, 50, .pointer (some ⟨i, 9, none⟩), 4, [4, 5, 20], 0, []⟩, ⟨5, 51, .slice none 0 0, 4, [5, 20], 0, []⟩, ⟨6, 52, .pointer (some ⟨i, 0, none⟩), 0, [6, 7, 8, 9, 10], 0, []⟩, ⟨7, 53, .pointer (some ⟨i, 0, none⟩), 0, [7, 8, 9, 10], 0, []⟩, ⟨8, 54, .pointer (some ⟨i, 11, none⟩), 0, [8, 9, 10], 0, []⟩, ⟨9, 55, .int .i64 0, 0, [9, 10], 0, []⟩, ⟨11, 57, .string ⟨#[67, 48]⟩, 2, [11, 12, 18], 1, [10]⟩, ⟨12, 58, .string ⟨#[67, 48, 46]⟩, 2, [12, 18], 1, [10, 11]⟩, ⟨13, 59, .pointer (some ⟨i, 0, none⟩), 1, [13, 14, 15, 16, 17], 0, []⟩, ⟨14, 60, .pointer (some ⟨i, 0, none⟩), 1, [14, 15, 16, 17], 0, []⟩, ⟨15, 61, .pointer (some ⟨i, 12, none⟩), 1, [15, 16, 17], 0, []⟩, ⟨16, 62, .int .i64 480, 1, [16, 17], 0, []⟩, ⟨21, 67, .pointer (some ⟨i, 0, none⟩), 5, [21, 22, 23, 24], 5, [20]⟩, ⟨22, 68, .pointer (some ⟨i, 0, none⟩), 5, [22, 23, 24], 5, [20]⟩, ⟨23, 69, .pointer (some ⟨i, 9, none⟩), 5, [23, 24], 5, [20]⟩]
          (fun B k b w => (k = 0 ∧ b = B ∧ Keeps W7 w ∧ w.cell? ⟨i, 9, none⟩ = some (.slice none 0 0) ∧ w.cell? ⟨i, 11, none⟩ = some (.int .i64 0) ∧ w.cell? ⟨i, 12, none⟩ = some (.int .i64 480)) ∨ (k = 1 ∧ b = B.put (some 56) (.string ⟨#[48]⟩) ∧ Keeps W7 w ∧ w.cell? ⟨i, 9, none⟩ = some (.slice none 0 0) ∧ w.cell? ⟨i, 11, none⟩ = some (.int .i64 0) ∧ w.cell? ⟨i, 12, none⟩ = some (.int .i64 480)) ∨ (k = 2 ∧ b = (B.put (some 56) (.string ⟨#[48]⟩)).put (some 63) (.string ⟨#[52, 56, 48]⟩) ∧ Keeps W7 w ∧ w.cell? ⟨i, 9, none⟩ = some (.slice none 0 0) ∧ w.cell? ⟨i, 11, none⟩ = some (.int .i64 0) ∧ w.cell? ⟨i, 12, none⟩ = some (.int .i64 480)) ∨ (k = 3 ∧ b = ((B.put (some 56) (.string ⟨#[48]⟩)).put (some 63) (.string ⟨#[52, 56, 48]⟩)).put (some 64) (.string ⟨#[67, 48, 46, 52, 56, 48]⟩) ∧ Keeps W7 w ∧ w.cell? ⟨i, 9, none⟩ = some (.slice none 0 0) ∧ w.cell? ⟨i, 11, none⟩ = some (.int .i64 0) ∧ w.cell? ⟨i, 12, none⟩ = some (.int .i64 480)) ∨ (k = 4 ∧ ∃ q : Nat, b = (((B.put (some 56) (.string ⟨#[48]⟩)).put (some 63) (.string ⟨#[52, 56, 48]⟩)).put (some 64) (.string ⟨#[67, 48, 46, 52, 56, 48]⟩)).put (some 65) (.slice (some ⟨q, 0, none⟩) 1 1) ∧ Keeps W7 w ∧ w.cell? ⟨i, 9, none⟩ = some (.slice none 0 0) ∧ w.cell? ⟨i, 11, none⟩ = some (.int .i64 0) ∧ w.cell? ⟨i, 12, none⟩ = some (.int .i64 480) ∧ w.cell? ⟨q, 0, none⟩ = some (.string ⟨#[67, 48, 46, 52, 56, 48]⟩)) ∨ (k = 5 ∧ ∃ q g cp : Nat, b = ((((B.put (some 56) (.string ⟨#[48]⟩)).put (some 63) (.string ⟨#[52, 56, 48]⟩)).put (some 64) (.string ⟨#[67, 48, 46, 52, 56, 48]⟩)).put (some 65) (.slice (some ⟨q, 0, none⟩) 1 1)).put (some 66) (.slice (some ⟨g, 0, none⟩) 1 cp) ∧ Keeps W7 w ∧ Hid (World.ownsRow w W7.heap.size 9 1 (.slice (some ⟨g, 0, none⟩) 1 cp) 1 [.string ⟨#[67, 48, 46, 52, 56, 48]⟩]) ∧ w.cell? ⟨i, 9, none⟩ = some (.slice none 0 0) ∧ w.frozen? ⟨i, 9, none⟩ = false) ∨ (k = 6 ∧ ∃ (q g cp : Nat) (w5 : World), b = ((((B.put (some 56) (.string ⟨#[48]⟩)).put (some 63) (.string ⟨#[52, 56, 48]⟩)).put (some 64) (.string ⟨#[67, 48, 46, 52, 56, 48]⟩)).put (some 65) (.slice (some ⟨q, 0, none⟩) 1 1)).put (some 66) (.slice (some ⟨g, 0, none⟩) 1 cp) ∧ Keeps W7 w5 ∧ Hid (World.ownsRow w5 W7.heap.size 9 1 (.slice (some ⟨g, 0, none⟩) 1 cp) 1 [.string ⟨#[67, 48, 46, 52, 56, 48]⟩]) ∧ w = w5.setCell ⟨i, 9, none⟩ (.slice (some ⟨g, 0, none⟩) 1 cp)))
          ?hb3 (by kernel_rfl) (by kernel_rfl) (by decide) (by kernel_rfl) (by kernel_rfl) (by kernel_rfl) ?h03 ?hpure3 ?heff3 ?hfin3
        case hb3 =>
          simp only [putsP, Act.put, List.setIfInBounds_toArray, List.set_cons_zero, List.set_cons_succ]
          rfl
        case h03 => exact .inl ⟨rfl, rfl, (Keeps.refl W7).drew, X9F.out, X11F.out, X12F.out⟩
        case hpure3 =>
          refine ⟨⟨_, rfl, fun k b w hl hk hΦ => ?_⟩, ?_⟩
          · have hk' : k ≤ 5 := hk
            have hl' : 0 ≤ k := hl
            rcases hΦ with ⟨hq, hb, hK, x9, x11, x12⟩ | ⟨hq, hb, hK, x9, x11, x12⟩ | ⟨hq, hb, hK, x9, x11, x12⟩ | ⟨hq, hb, hK, x9, x11, x12⟩ | ⟨hq, q, hb, hK, x9, x11, x12, xq⟩ | ⟨hq, q, g, cp, hb, hK, ho, x9, xf⟩ | ⟨hq, q, g, cp, w5, hb, hK, ho, hw⟩
            all_goals first | (exfalso; omega) | ((try subst hw); exact pure_eq hb ⟨rfl, by go_simp⟩)
          refine ⟨⟨_, rfl, fun k b w hl hk hΦ => ?_⟩, ?_⟩
          · have hk' : k ≤ 4 := hk
            have hl' : 0 ≤ k := hl
            rcases hΦ with ⟨hq, hb, hK, x9, x11, x12⟩ | ⟨hq, hb, hK, x9, x11, x12⟩ | ⟨hq, hb, hK, x9, x11, x12⟩ | ⟨hq, hb, hK, x9, x11, x12⟩ | ⟨hq, q, hb, hK, x9, x11, x12, xq⟩ | ⟨hq, q, g, cp, hb, hK, ho, x9, xf⟩ | ⟨hq, q, g, cp, w5, hb, hK, ho, hw⟩
            all_goals first | (exfalso; omega) | ((try subst hw); exact pure_eq hb ⟨rfl, by go_simp⟩)
          refine ⟨⟨_, rfl, fun k b w hl hk hΦ => ?_⟩, ?_⟩
          · have hk' : k ≤ 4 := hk
            have hl' : 0 ≤ k := hl
            rcases hΦ with ⟨hq, hb, hK, x9, x11, x12⟩ | ⟨hq, hb, hK, x9, x11, x12⟩ | ⟨hq, hb, hK, x9, x11, x12⟩ | ⟨hq, hb, hK, x9, x11, x12⟩ | ⟨hq, q, hb, hK, x9, x11, x12, xq⟩ | ⟨hq, q, g, cp, hb, hK, ho, x9, xf⟩ | ⟨hq, q, g, cp, w5, hb, hK, ho, hw⟩
            all_goals first | (exfalso; omega) | ((try subst hw); exact pure_eq hb ⟨rfl, by go_simp⟩)
          refine ⟨⟨_, rfl, fun k b w hl hk hΦ => ?_⟩, ?_⟩
          · have hk' : k ≤ 4 := hk
            have hl' : 0 ≤ k := hl
            rcases hΦ with ⟨hq, hb, hK, x9, x11, x12⟩ | ⟨hq, hb, hK, x9, x11, x12⟩ | ⟨hq, hb, hK, x9, x11, x12⟩ | ⟨hq, hb, hK, x9, x11, x12⟩ | ⟨hq, q, hb, hK, x9, x11, x12, xq⟩ | ⟨hq, q, g, cp, hb, hK, ho, x9, xf⟩ | ⟨hq, q, g, cp, w5, hb, hK, ho, hw⟩
            all_goals first | (exfalso; omega) | ((try subst hw); exact pure_eq hb ⟨rfl, by go_simp⟩)
          refine ⟨⟨_, rfl, fun k b w hl hk hΦ => ?_⟩, ?_⟩
          · have hk' : k ≤ 4 := hk
            have hl' : 0 ≤ k := hl
            rcases hΦ with ⟨hq, hb, hK, x9, x11, x12⟩ | ⟨hq, hb, hK, x9, x11, x12⟩ | ⟨hq, hb, hK, x9, x11, x12⟩ | ⟨hq, hb, hK, x9, x11, x12⟩ | ⟨hq, q, hb, hK, x9, x11, x12, xq⟩ | ⟨hq, q, g, cp, hb, hK, ho, x9, xf⟩ | ⟨hq, q, g, cp, w5, hb, hK, ho, hw⟩
            all_goals first | (exfalso; omega) | ((try subst hw); exact pure_eq hb ⟨rfl, by go_simp⟩)
          refine ⟨⟨_, rfl, fun k b w hl hk hΦ => ?_⟩, ?_⟩
          · have hk' : k ≤ 4 := hk
            have hl' : 0 ≤ k := hl
            rcases hΦ with ⟨hq, hb, hK, x9, x11, x12⟩ | ⟨hq, hb, hK, x9, x11, x12⟩ | ⟨hq, hb, hK, x9, x11, x12⟩ | ⟨hq, hb, hK, x9, x11, x12⟩ | ⟨hq, q, hb, hK, x9, x11, x12, xq⟩ | ⟨hq, q, g, cp, hb, hK, ho, x9, xf⟩ | ⟨hq, q, g, cp, w5, hb, hK, ho, hw⟩
            all_goals first | (exfalso; omega) | ((try subst hw); exact pure_eq hb ⟨rfl, by go_simp⟩)
          refine ⟨⟨_, rfl, fun k b w hl hk hΦ => ?_⟩, ?_⟩
          · have hk' : k ≤ 0 := hk
            have hl' : 0 ≤ k := hl
            rcases hΦ with ⟨hq, hb, hK, x9, x11, x12⟩ | ⟨hq, hb, hK, x9, x11, x12⟩ | ⟨hq, hb, hK, x9, x11, x12⟩ | ⟨hq, hb, hK, x9, x11, x12⟩ | ⟨hq, q, hb, hK, x9, x11, x12, xq⟩ | ⟨hq, q, g, cp, hb, hK, ho, x9, xf⟩ | ⟨hq, q, g, cp, w5, hb, hK, ho, hw⟩
            all_goals first | (exfalso; omega) | ((try subst hw); exact pure_eq hb ⟨rfl, by go_simp⟩)
          refine ⟨⟨_, rfl, fun k b w hl hk hΦ => ?_⟩, ?_⟩
          · have hk' : k ≤ 0 := hk
            have hl' : 0 ≤ k := hl
            rcases hΦ with ⟨hq, hb, hK, x9, x11, x12⟩ | ⟨hq, hb, hK, x9, x11, x12⟩ | ⟨hq, hb, hK, x9, x11, x12⟩ | ⟨hq, hb, hK, x9, x11, x12⟩ | ⟨hq, q, hb, hK, x9, x11, x12, xq⟩ | ⟨hq, q, g, cp, hb, hK, ho, x9, xf⟩ | ⟨hq, q, g, cp, w5, hb, hK, ho, hw⟩
            all_goals first | (exfalso; omega) | ((try subst hw); exact pure_eq hb ⟨rfl, by go_simp⟩)
          refine ⟨⟨_, rfl, fun k b w hl hk hΦ => ?_⟩, ?_⟩
          · have hk' : k ≤ 0 := hk
            have hl' : 0 ≤ k := hl
            rcases hΦ with ⟨hq, hb, hK, x9, x11, x12⟩ | ⟨hq, hb, hK, x9, x11, x12⟩ | ⟨hq, hb, hK, x9, x11, x12⟩ | ⟨hq, hb, hK, x9, x11, x12⟩ | ⟨hq, q, hb, hK, x9, x11, x12, xq⟩ | ⟨hq, q, g, cp, hb, hK, ho, x9, xf⟩ | ⟨hq, q, g, cp, w5, hb, hK, ho, hw⟩
            all_goals first | (exfalso; omega) | ((try subst hw); exact pure_eq hb ⟨rfl, by go_simp⟩)
          refine ⟨⟨_, rfl, fun k b w hl hk hΦ => ?_⟩, ?_⟩
          · have hk' : k ≤ 0 := hk
            have hl' : 0 ≤ k := hl
            rcases hΦ with ⟨hq, hb, hK, x9, x11, x12⟩ | ⟨hq, hb, hK, x9, x11, x12⟩ | ⟨hq, hb, hK, x9, x11, x12⟩ | ⟨hq, hb, hK, x9, x11, x12⟩ | ⟨hq, q, hb, hK, x9, x11, x12, xq⟩ | ⟨hq, q, g, cp, hb, hK, ho, x9, xf⟩ | ⟨hq, q, g, cp, w5, hb, hK, ho, hw⟩
            all_goals first | (exfalso; omega) | ((try subst hw); exact pure_eq hb ⟨rfl, by go_simp⟩)
          refine ⟨⟨_, rfl, fun k b w hl hk hΦ => ?_⟩, ?_⟩
          · have hk' : k ≤ 2 := hk
            have hl' : 1 ≤ k := hl
            rcases hΦ with ⟨hq, hb, hK, x9, x11, x12⟩ | ⟨hq, hb, hK, x9, x11, x12⟩ | ⟨hq, hb, hK, x9, x11, x12⟩ | ⟨hq, hb, hK, x9, x11, x12⟩ | ⟨hq, q, hb, hK, x9, x11, x12, xq⟩ | ⟨hq, q, g, cp, hb, hK, ho, x9, xf⟩ | ⟨hq, q, g, cp, w5, hb, hK, ho, hw⟩
            all_goals first | (exfalso; omega) | ((try subst hw); exact pure_eq hb ⟨rfl, by go_simp⟩)
          refine ⟨⟨_, rfl, fun k b w hl hk hΦ => ?_⟩, ?_⟩
          · have hk' : k ≤ 2 := hk
            have hl' : 1 ≤ k := hl
            rcases hΦ with ⟨hq, hb, hK, x9, x11, x12⟩ | ⟨hq, hb, hK, x9, x11, x12⟩ | ⟨hq, hb, hK, x9, x11, x12⟩ | ⟨hq, hb, hK, x9, x11, x12⟩ | ⟨hq, q, hb, hK, x9, x11, x12, xq⟩ | ⟨hq, q, g, cp, hb, hK, ho, x9, xf⟩ | ⟨hq, q, g, cp, w5, hb, hK, ho, hw⟩
            all_goals first | (exfalso; omega) | ((try subst hw); exact pure_eq hb ⟨rfl, by go_simp⟩)
          refine ⟨⟨_, rfl, fun k b w hl hk hΦ => ?_⟩, ?_⟩
          · have hk' : k ≤ 1 := hk
            have hl' : 0 ≤ k := hl
            rcases hΦ with ⟨hq, hb, hK, x9, x11, x12⟩ | ⟨hq, hb, hK, x9, x11, x12⟩ | ⟨hq, hb, hK, x9, x11, x12⟩ | ⟨hq, hb, hK, x9, x11, x12⟩ | ⟨hq, q, hb, hK, x9, x11, x12, xq⟩ | ⟨hq, q, g, cp, hb, hK, ho, x9, xf⟩ | ⟨hq, q, g, cp, w5, hb, hK, ho, hw⟩
            all_goals first | (exfalso; omega) | ((try subst hw); exact pure_eq hb ⟨rfl, by go_simp⟩)
          refine ⟨⟨_, rfl, fun k b w hl hk hΦ => ?_⟩, ?_⟩
          · have hk' : k ≤ 1 := hk
            have hl' : 0 ≤ k := hl
            rcases hΦ with ⟨hq, hb, hK, x9, x11, x12⟩ | ⟨hq, hb, hK, x9, x11, x12⟩ | ⟨hq, hb, hK, x9, x11, x12⟩ | ⟨hq, hb, hK, x9, x11, x12⟩ | ⟨hq, q, hb, hK, x9, x11, x12, xq⟩ | ⟨hq, q, g, cp, hb, hK, ho, x9, xf⟩ | ⟨hq, q, g, cp, w5, hb, hK, ho, hw⟩
            all_goals first | (exfalso; omega) | ((try subst hw); exact pure_eq hb ⟨rfl, by go_simp⟩)
          refine ⟨⟨_, rfl, fun k b w hl hk hΦ => ?_⟩, ?_⟩
          · have hk' : k ≤ 1 := hk
            have hl' : 0 ≤ k := hl
            rcases hΦ with ⟨hq, hb, hK, x9, x11, x12⟩ | ⟨hq, hb, hK, x9, x11, x12⟩ | ⟨hq, hb, hK, x9, x11, x12⟩ | ⟨hq, hb, hK, x9, x11, x12⟩ | ⟨hq, q, hb, hK, x9, x11, x12, xq⟩ | ⟨hq, q, g, cp, hb, hK, ho, x9, xf⟩ | ⟨hq, q, g, cp, w5, hb, hK, ho, hw⟩
            all_goals first | (exfalso; omega) | ((try subst hw); exact pure_eq hb ⟨rfl, by go_simp⟩)
          refine ⟨⟨_, rfl, fun k b w hl hk hΦ => ?_⟩, ?_⟩
          · have hk' : k ≤ 1 := hk
            have hl' : 0 ≤ k := hl
            rcases hΦ with ⟨hq, hb, hK, x9, x11, x12⟩ | ⟨hq, hb, hK, x9, x11, x12⟩ | ⟨hq, hb, hK, x9, x11, x12⟩ | ⟨hq, hb, hK, x9, x11, x12⟩ | ⟨hq, q, hb, hK, x9, x11, x12, xq⟩ | ⟨hq, q, g, cp, hb, hK, ho, x9, xf⟩ | ⟨hq, q, g, cp, w5, hb, hK, ho, hw⟩
            all_goals first | (exfalso; omega) | ((try subst hw); exact pure_eq hb ⟨rfl, by go_simp⟩)
          refine ⟨⟨_, rfl, fun k b w hl hk hΦ => ?_⟩, ?_⟩
          · have hk' : k ≤ 5 := hk
            have hl' : 5 ≤ k := hl
            rcases hΦ with ⟨hq, hb, hK, x9, x11, x12⟩ | ⟨hq, hb, hK, x9, x11, x12⟩ | ⟨hq, hb, hK, x9, x11, x12⟩ | ⟨hq, hb, hK, x9, x11, x12⟩ | ⟨hq, q, hb, hK, x9, x11, x12, xq⟩ | ⟨hq, q, g, cp, hb, hK, ho, x9, xf⟩ | ⟨hq, q, g, cp, w5, hb, hK, ho, hw⟩
            all_goals first | (exfalso; omega) | ((try subst hw); exact pure_eq hb ⟨rfl, by go_simp⟩)
          refine ⟨⟨_, rfl, fun k b w hl hk hΦ => ?_⟩, ?_⟩
          · have hk' : k ≤ 5 := hk
            have hl' : 5 ≤ k := hl
            rcases hΦ with ⟨hq, hb, hK, x9, x11, x12⟩ | ⟨hq, hb, hK, x9, x11, x12⟩ | ⟨hq, hb, hK, x9, x11, x12⟩ | ⟨hq, hb, hK, x9, x11, x12⟩ | ⟨hq, q, hb, hK, x9, x11, x12, xq⟩ | ⟨hq, q, g, cp, hb, hK, ho, x9, xf⟩ | ⟨hq, q, g, cp, w5, hb, hK, ho, hw⟩
            all_goals first | (exfalso; omega) | ((try subst hw); exact pure_eq hb ⟨rfl, by go_simp⟩)
          refine ⟨⟨_, rfl, fun k b w hl hk hΦ => ?_⟩, ?_⟩
          · have hk' : k ≤ 5 := hk
            have hl' : 5 ≤ k := hl
            rcases hΦ with ⟨hq, hb, hK, x9, x11, x12⟩ | ⟨hq, hb, hK, x9, x11, x12⟩ | ⟨hq, hb, hK, x9, x11, x12⟩ | ⟨hq, hb, hK, x9, x11, x12⟩ | ⟨hq, q, hb, hK, x9, x11, x12, xq⟩ | ⟨hq, q, g, cp, hb, hK, ho, x9, xf⟩ | ⟨hq, q, g, cp, w5, hb, hK, ho, hw⟩
            all_goals first | (exfalso; omega) | ((try subst hw); exact pure_eq hb ⟨rfl, by go_simp⟩)
          exact trivial
        case heff3 =>
          refine ⟨⟨_, rfl, fun b w hΦ => ?_⟩, ?_⟩
          · rcases hΦ with ⟨hq, hb, hK, x9, x11, x12⟩ | ⟨hq, hb, hK, x9, x11, x12⟩ | ⟨hq, hb, hK, x9, x11, x12⟩ | ⟨hq, hb, hK, x9, x11, x12⟩ | ⟨hq, q, hb, hK, x9, x11, x12, xq⟩ | ⟨hq, q, g, cp, hb, hK, ho, x9, xf⟩ | ⟨hq, q, g, cp, w5, hb, hK, ho, hw⟩
            all_goals first | (exfalso; omega) | (try subst hw)
            refine upV_callb hb (f := 109) (args := #[.int .i64 0]) (w' := w) (by go_simp) (CallsIn.mono (callsIn_wide.2 (itoa_any 0 w (by decide) (by decide) (HTW.out.keep hK))) ?_)
            rintro e w9 ⟨rfl, hk9⟩
            exact ⟨_, rfl, (.inr (.inl (⟨rfl, put_eq hb rfl (by rw [itoa_0]), hK.trans hk9, cell_keep x9 hk9, cell_keep x11 hk9, cell_keep x12 hk9⟩)))⟩
          refine ⟨⟨_, rfl, fun b w hΦ => ?_⟩, ?_⟩
          · rcases hΦ with ⟨hq, hb, hK, x9, x11, x12⟩ | ⟨hq, hb, hK, x9, x11, x12⟩ | ⟨hq, hb, hK, x9, x11, x12⟩ | ⟨hq, hb, hK, x9, x11, x12⟩ | ⟨hq, q, hb, hK, x9, x11, x12, xq⟩ | ⟨hq, q, g, cp, hb, hK, ho, x9, xf⟩ | ⟨hq, q, g, cp, w5, hb, hK, ho, hw⟩
            all_goals first | (exfalso; omega) | (try subst hw)
            refine upV_callb hb (f := 109) (args := #[.int .i64 480]) (w' := w) (by go_simp) (CallsIn.mono (callsIn_wide.2 (itoa_any 480 w (by decide) (by decide) (HTW.out.keep hK))) ?_)
            rintro e w9 ⟨rfl, hk9⟩
            exact ⟨_, rfl, (.inr (.inr (.inl (⟨rfl, put_eq hb rfl (by rw [itoa_480]), hK.trans hk9, cell_keep x9 hk9, cell_keep x11 hk9, cell_keep x12 hk9⟩))))⟩
          refine ⟨⟨_, rfl, fun b w hΦ => ?_⟩, ?_⟩
          · rcases hΦ with ⟨hq, hb, hK, x9, x11, x12⟩ | ⟨hq, hb, hK, x9, x11, x12⟩ | ⟨hq, hb, hK, x9, x11, x12⟩ | ⟨hq, hb, hK, x9, x11, x12⟩ | ⟨hq, q, hb, hK, x9, x11, x12, xq⟩ | ⟨hq, q, g, cp, hb, hK, ho, x9, xf⟩ | ⟨hq, q, g, cp, w5, hb, hK, ho, hw⟩
            all_goals first | (exfalso; omega) | (try subst hw)
            exact upV_okb hb (v := .string ⟨#[67, 48, 46, 52, 56, 48]⟩) (w' := w) (by go_simp) (.inr (.inr (.inr (.inl (⟨rfl, put_eq hb rfl rfl, hK, x9, x11, x12⟩)))))
          refine ⟨⟨_, rfl, fun b w hΦ => ?_⟩, ?_⟩
          · rcases hΦ with ⟨hq, hb, hK, x9, x11, x12⟩ | ⟨hq, hb, hK, x9, x11, x12⟩ | ⟨hq, hb, hK, x9, x11, x12⟩ | ⟨hq, hb, hK, x9, x11, x12⟩ | ⟨hq, q, hb, hK, x9, x11, x12, xq⟩ | ⟨hq, q, g, cp, hb, hK, ho, x9, xf⟩ | ⟨hq, q, g, cp, w5, hb, hK, ho, hw⟩
            all_goals first | (exfalso; omega) | (try subst hw)
            have kA := (Keeps.refl w).alloc (.cells #[.string ⟨#[67, 48, 46, 52, 56, 48]⟩] 9)
            exact upV_okb hb (v := .slice (some ⟨w.heap.size, 0, none⟩) 1 1) (w' := w.alloc (.cells #[.string ⟨#[67, 48, 46, 52, 56, 48]⟩] 9)) (by go_simp) (.inr (.inr (.inr (.inr (.inl (⟨rfl, w.heap.size, put_eq hb rfl rfl, hK.trans kA, cell_keep x9 kA, cell_keep x11 kA, cell_keep x12 kA, (Blk.new w 9 #[.string ⟨#[67, 48, 46, 52, 56, 48]⟩]).cell 0⟩))))))
          refine ⟨⟨_, rfl, fun b w hΦ => ?_⟩, ?_⟩
          · rcases hΦ with ⟨hq, hb, hK, x9, x11, x12⟩ | ⟨hq, hb, hK, x9, x11, x12⟩ | ⟨hq, hb, hK, x9, x11, x12⟩ | ⟨hq, hb, hK, x9, x11, x12⟩ | ⟨hq, q, hb, hK, x9, x11, x12, xq⟩ | ⟨hq, q, g, cp, hb, hK, ho, x9, xf⟩ | ⟨hq, q, g, cp, w5, hb, hK, ho, hw⟩
            all_goals first | (exfalso; omega) | (try subst hw)
            obtain ⟨g, cp, X9, hr9, ho9, hg9⟩ := app_str w q _ W7.heap.size hK.size xq
            have kA := grown_keeps (Keeps.refl w) hg9 (fun k h => by cases h)
            exact upV_okb hb (v := .slice (some ⟨g, 0, none⟩) 1 cp) (w' := X9) (exec_append rfl rfl rfl hr9) (.inr (.inr (.inr (.inr (.inr (.inl (⟨rfl, q, g, cp, put_eq hb rfl rfl, hK.trans kA, Lib.hid ho9, cell_keep x9 kA, (I7.out.keep (hK.trans kA)).it.frozen 9⟩)))))))
          refine ⟨⟨_, rfl, fun b w hΦ => ?_⟩, ?_⟩
          · rcases hΦ with ⟨hq, hb, hK, x9, x11, x12⟩ | ⟨hq, hb, hK, x9, x11, x12⟩ | ⟨hq, hb, hK, x9, x11, x12⟩ | ⟨hq, hb, hK, x9, x11, x12⟩ | ⟨hq, q, hb, hK, x9, x11, x12, xq⟩ | ⟨hq, q, g, cp, hb, hK, ho, x9, xf⟩ | ⟨hq, q, g, cp, w5, hb, hK, ho, hw⟩
            all_goals first | (exfalso; omega) | (try subst hw)
            exact upV_skipb hb (w' := w.setCell ⟨i, 9, none⟩ (.slice (some ⟨g, 0, none⟩) 1 cp)) (by go_simp) (.inr (.inr (.inr (.inr (.inr (.inr (⟨rfl, q, g, cp, w, (put_none rfl).trans hb, hK, ho, rfl⟩)))))))
          exact trivial
        case hfin3 =>
          intro k b w hk hΦ
          have hk' : 6 ≤ k := hk
          rcases hΦ with ⟨hq, hb, hK, x9, x11, x12⟩ | ⟨hq, hb, hK, x9, x11, x12⟩ | ⟨hq, hb, hK, x9, x11, x12⟩ | ⟨hq, hb, hK, x9, x11, x12⟩ | ⟨hq, q, hb, hK, x9, x11, x12, xq⟩ | ⟨hq, q, g, cp, hb, hK, ho, x9, xf⟩ | ⟨hq, q, g, cp, w5, hb, hK, ho, hw⟩
          all_goals first | (exfalso; omega) | ((try subst hw); refine fin_eq hb ?_; clear hb)
          simp only [Act.put, List.setIfInBounds_toArray, List.set_cons_zero, List.set_cons_succ]
          have g9 := grown_set w5 i 9 (.slice (some ⟨g, 0, none⟩) 1 cp)
          have hil := HIL.out
          have hsl := HSL.out
          have i7 := I7.out.keep hK
          have hgi : g ≠ i := fun e => by have h1 := (own_lt ho.out rfl).1; have h2 := I7.out.it.lt; simp at h1; omega
          have H8 := Lib.hid ((H7.out.keep hK).grow g9 i7.it (by decide) hil)
          have I8 := Lib.hid (ItS.grow (sb' := sb) (n' := 1) (sc' := 1) (se' := .slice (some ⟨g, 0, none⟩) 1 cp) (ho' := 0) (li' := 0) (le' := 480) i7 g9 (by simpa using i7.it.set_ 9 (.slice (some ⟨g, 0, none⟩) 1 cp)))
          have nb : ∀ {q : Nat} {T : TypeId} {cs : Array Value}, Blk w5 q T cs → T ≠ 176 → some q ≠ some i := fun hb hT e => hb.ne_ i7.it hT (Option.some.inj e)
          have S8 := Lib.hid ((S7.out.kp hK).grown g9 (nb (S7.out.kp hK) (by decide)))
          have B8 := Lib.hid ((B7.out.kp hK).grown g9 (nb (B7.out.kp hK) (by decide)))
          have L8 := Lib.hid ((L7.out.kp hK).grown g9 (nb (L7.out.kp hK) (by decide)))
          have F8 := Lib.hid ((F7.out.keeps hK).grow g9 (.inl rfl))
          have Q8 := Lib.hid (ho.out.kept g9 (.inr (fun e => hgi (Option.some.inj e))))
          have GL := Lib.hid (own_lt ho.out rfl).1
          have GI := Lib.hid hgi
          clear g9 i7 nb H7 I7 S7 B7 L7 F7 hK ho X9F X11F X12F HTW hk hk' hq
          generalize w5.setCell ⟨i, 9, none⟩ (.slice (some ⟨g, 0, none⟩) 1 cp) = W8 at *
          clear w5
          obtain ⟨X1, hX1⟩ : ∃ X1, (W8.alloc (.cells #[.int .i64 1, .int .i64 600, .int .i64 (-1), .int .i64 (-1)] 192)).drew = X1 := ⟨_, rfl⟩
          obtain ⟨QB, hQB⟩ : ∃ QB, W8.heap.size = QB := ⟨_, rfl⟩
          have k1 : Keeps W8 X1 := hX1 ▸ ((Keeps.refl W8).alloc _).drew
          have bq : Blk X1 QB 192 #[.int .i64 1, .int .i64 600, .int .i64 (-1), .int .i64 (-1)] := by rw [← hX1, ← hQB]; exact (Blk.new W8 192 _).drew
          obtain ⟨g2, cp2, X2, hr2, ho2, hg2, hge⟩ := app_stp X1 QB sb _ _ _ _ _ _ _ _ w0.heap.size (Nat.le_trans H8.out.k.size k1.size) hsl (S8.out.kp k1) bq
          have i1 := I8.out.keep k1
          have s1 := S8.out.kp k1
          have nb2 : ∀ {q : Nat} {T : TypeId} {cs : Array Value}, Blk X1 q T cs → T ≠ 192 → some q ≠ some sb := fun hb hT e => hb.ne_ s1 hT (Option.some.inj e)
          have i2 := i1.other hg2 (nb2 i1.it (by decide)) (nb2 i1.ib (by decide)) (nb2 i1.lb (by decide))
          have c5 : W8.cell? ⟨i, 5, none⟩ = some (.slice (some ⟨sb, 0, none⟩) 1 1) := I8.out.it.cell 5
          have c12 : W8.cell? ⟨i, 12, none⟩ = some (.int .i64 480) := I8.out.it.cell 12
          have d5 : X1.cell? ⟨i, 5, none⟩ = some (.slice (some ⟨sb, 0, none⟩) 1 1) := i1.it.cell 5
          have l2 : W8.cell? ⟨LB, 2, none⟩ = some (.int .i64 1) := L8.out.cell 2
          have l4 : W8.cell? ⟨LB, 4, none⟩ = some (.int .i64 120) := L8.out.cell 4
          have e5 : X2.cell? ⟨i, 5, none⟩ = some (.slice (some ⟨sb, 0, none⟩) 1 1) := i2.it.cell 5
          have f5 : X2.frozen? ⟨i, 5, none⟩ = false := i2.it.frozen 5
          have I2 := Lib.hid i2
          have H2 := Lib.hid ((H8.out.keep k1).grow hg2 s1 (by decide) hsl)
          have B2 := Lib.hid ((B8.out.kp k1).grown hg2 (nb2 (B8.out.kp k1) (by decide)))
          have F2 := Lib.hid ((F8.out.keeps k1).grow hg2 (.inr rfl))
          have Q2 := Lib.hid ((own_keeps Q8.out k1).kept hg2 (.inr (fun e => by have h1 := GL.out; have h2 := S7L.out; have := Option.some.inj e; omega)))
          have O2 := Lib.hid ho2
          have hlt8 := I8.out.it.lt
          have GE := Lib.hid (show g2 = sb ∨ W.heap.size ≤ g2 from hge.imp id (fun h => by have h1 := F8.out.size; have h2 := k1.size; omega))
          have GI2 := Lib.hid (show g2 ≠ i from ne_new hge HNE.out (Nat.lt_of_lt_of_le hlt8 k1.size))
          have w600 : IntKind.i64.wrap 600 = 600 := by decide
          have HQB := Lib.hid hQB
          have K1 := Lib.hid k1
          clear H8 I8 S8 B8 L8 F8 Q8 k1 bq i1 s1 nb2 i2 ho2 hg2 hge
          gi_wp2
          refine region_pureF (b := ?B4) (by kernel_rfl) [16, 17, 21] [⟨0, 70, .pointer (some ⟨i, 0, none⟩), 2, [0, 21], 0, []⟩, ⟨1, 71, .pointer (some ⟨i, 0, none⟩), 1, [1, 2, 3, 4, 5, 17], 0, []⟩, ⟨2, 72, .pointer (some ⟨i, 0, none⟩), 1, [2, 3, 4, 5, 17], 0, []⟩, ⟨3, 73, .pointer (some ⟨i, 0, none⟩), 1, [3, 4, 5, 17], 0, []⟩, ⟨4, 74, .pointer (some ⟨i, 5, none⟩), 1, [4, 5, 17], 0, []⟩, ⟨5, 75, .slice (some ⟨sb, 0, none⟩) 1 1, 1, [5, 17], 0, []⟩, ⟨6, 76, .pointer (some ⟨LB, 2, none⟩), 0, [6, 7, 15, 16], 0, []⟩, ⟨7, 77, .int .i64 1, 0, [7, 15, 16], 0, []⟩, ⟨8, 78, .pointer (some ⟨i, 0, none⟩), 0, [8, 9, 10, 11, 14, 15, 16], 0, []⟩, ⟨9, 79, .pointer (some ⟨i, 0, none⟩), 0, [9, 10, 11, 14, 15, 16], 0, []⟩, ⟨10, 80, .pointer (some ⟨i, 12, none⟩), 0, [10, 11, 14, 15, 16], 0, []⟩, ⟨11, 81, .int .i64 480, 0, [11, 14, 15, 16], 0, []⟩, ⟨12, 82, .pointer (some ⟨LB, 4, none⟩), 0, [12, 13, 14, 15, 16], 0, []⟩, ⟨13, 83, .int .i64 120, 0, [13, 14, 15, 16], 0, []⟩, ⟨14, 84, .int .i64 600, 0, [14, 15, 16], 0, []⟩, ⟨15, 85, .agg #[.int .i64 1, .int .i64 600, .int .i64 (-1), .int .i64 (-1)], 0, [15, 16], 0, []⟩, ⟨18, 88, .pointer (some ⟨i, 0, none⟩), 2, [18, 19, 20, 21], 2, [17]⟩, ⟨19, 89, .pointer (some ⟨i, 0, none⟩), 2, [19, 20, 21], 2, [17]⟩, ⟨20, 90, .pointer (some ⟨i, 5, none⟩), 2, [20, 21], 2, [17]⟩]
            (fun B k b w => (k = 0 ∧ b = B ∧ w = W8.drew) ∨ (k = 1 ∧ b = B.put (some 86) (.slice (some ⟨QB, 0, none⟩) 1 1) ∧ w = X1) ∨ (k = 2 ∧ b = (B.put (some 86) (.slice (some ⟨QB, 0, none⟩) 1 1)).put (some 87) (.slice (some ⟨g2, 0, none⟩) 2 cp2) ∧ w = X2) ∨ (k = 3 ∧ b = (B.put (some 86) (.slice (some ⟨QB, 0, none⟩) 1 1)).put (some 87) (.slice (some ⟨g2, 0, none⟩) 2 cp2) ∧ w = X2.setCell ⟨i, 5, none⟩ (.slice (some ⟨g2, 0, none⟩) 2 cp2)))
            ?hb4 (by kernel_rfl) (by kernel_rfl) (by decide) (by kernel_rfl) (by kernel_rfl) (by kernel_rfl) ?h04 ?hpure4 ?heff4 ?hfin4
          case hb4 =>
            simp only [putsP, Act.put, List.setIfInBounds_toArray, List.set_cons_zero, List.set_cons_succ]
            rfl
          case h04 => exact .inl ⟨rfl, rfl, rfl⟩
          case hpure4 =>
            refine ⟨⟨_, rfl, fun k b w hl hk hΦ => ?_⟩, ?_⟩
            · have hk' : k ≤ 2 := hk
              have hl' : 0 ≤ k := hl
              rcases hΦ with ⟨hq, hb, hw⟩ | ⟨hq, hb, hw⟩ | ⟨hq, hb, hw⟩ | ⟨hq, hb, hw⟩
              all_goals first | (exfalso; omega) | ((try subst hw); exact pure_eq hb ⟨rfl, by go_simp⟩)
            refine ⟨⟨_, rfl, fun k b w hl hk hΦ => ?_⟩, ?_⟩
            · have hk' : k ≤ 1 := hk
              have hl' : 0 ≤ k := hl
              rcases hΦ with ⟨hq, hb, hw⟩ | ⟨hq, hb, hw⟩ | ⟨hq, hb, hw⟩ | ⟨hq, hb, hw⟩
              all_goals first | (exfalso; omega) | ((try subst hw); exact pure_eq hb ⟨rfl, by go_simp⟩)
            refine ⟨⟨_, rfl, fun k b w hl hk hΦ => ?_⟩, ?_⟩
            · have hk' : k ≤ 1 := hk
              have hl' : 0 ≤ k := hl
              rcases hΦ with ⟨hq, hb, hw⟩ | ⟨hq, hb, hw⟩ | ⟨hq, hb, hw⟩ | ⟨hq, hb, hw⟩
              all_goals first | (exfalso; omega) | ((try subst hw); exact pure_eq hb ⟨rfl, by go_simp⟩)
            refine ⟨⟨_, rfl, fun k b w hl hk hΦ => ?_⟩, ?_⟩
            · have hk' : k ≤ 1 := hk
              have hl' : 0 ≤ k := hl
              rcases hΦ with ⟨hq, hb, hw⟩ | ⟨hq, hb, hw⟩ | ⟨hq, hb, hw⟩ | ⟨hq, hb, hw⟩
              all_goals first | (exfalso; omega) | ((try subst hw); exact pure_eq hb ⟨rfl, by go_simp⟩)
            refine ⟨⟨_, rfl, fun k b w hl hk hΦ => ?_⟩, ?_⟩
            · have hk' : k ≤ 1 := hk
              have hl' : 0 ≤ k := hl
              rcases hΦ with ⟨hq, hb, hw⟩ | ⟨hq, hb, hw⟩ | ⟨hq, hb, hw⟩ | ⟨hq, hb, hw⟩
              all_goals first | (exfalso; omega) | ((try subst hw); exact pure_eq hb ⟨rfl, by go_simp⟩)
            refine ⟨⟨_, rfl, fun k b w hl hk hΦ => ?_⟩, ?_⟩
            · have hk' : k ≤ 1 := hk
              have hl' : 0 ≤ k := hl
              rcases hΦ with ⟨hq, hb, hw⟩ | ⟨hq, hb, hw⟩ | ⟨hq, hb, hw⟩ | ⟨hq, hb, hw⟩
              all_goals first | (exfalso; omega) | ((try subst hw); exact pure_eq hb ⟨rfl, by go_simp⟩)
            refine ⟨⟨_, rfl, fun k b w hl hk hΦ => ?_⟩, ?_⟩
            · have hk' : k ≤ 0 := hk
              have hl' : 0 ≤ k := hl
              rcases hΦ with ⟨hq, hb, hw⟩ | ⟨hq, hb, hw⟩ | ⟨hq, hb, hw⟩ | ⟨hq, hb, hw⟩
              all_goals first | (exfalso; omega) | ((try subst hw); exact pure_eq hb ⟨rfl, by go_simp⟩)
            refine ⟨⟨_, rfl, fun k b w hl hk hΦ => ?_⟩, ?_⟩
            · have hk' : k ≤ 0 := hk
              have hl' : 0 ≤ k := hl
              rcases hΦ with ⟨hq, hb, hw⟩ | ⟨hq, hb, hw⟩ | ⟨hq, hb, hw⟩ | ⟨hq, hb, hw⟩
              all_goals first | (exfalso; omega) | ((try subst hw); exact pure_eq hb ⟨rfl, by go_simp⟩)
            refine ⟨⟨_, rfl, fun k b w hl hk hΦ => ?_⟩, ?_⟩
            · have hk' : k ≤ 0 := hk
              have hl' : 0 ≤ k := hl
              rcases hΦ with ⟨hq, hb, hw⟩ | ⟨hq, hb, hw⟩ | ⟨hq, hb, hw⟩ | ⟨hq, hb, hw⟩
              all_goals first | (exfalso; omega) | ((try subst hw); exact pure_eq hb ⟨rfl, by go_simp⟩)
            refine ⟨⟨_, rfl, fun k b w hl hk hΦ => ?_⟩, ?_⟩
            · have hk' : k ≤ 0 := hk
              have hl' : 0 ≤ k := hl
              rcases hΦ with ⟨hq, hb, hw⟩ | ⟨hq, hb, hw⟩ | ⟨hq, hb, hw⟩ | ⟨hq, hb, hw⟩
              all_goals first | (exfalso; omega) | ((try subst hw); exact pure_eq hb ⟨rfl, by go_simp⟩)
            refine ⟨⟨_, rfl, fun k b w hl hk hΦ => ?_⟩, ?_⟩
            · have hk' : k ≤ 0 := hk
              have hl' : 0 ≤ k := hl
              rcases hΦ with ⟨hq, hb, hw⟩ | ⟨hq, hb, hw⟩ | ⟨hq, hb, hw⟩ | ⟨hq, hb, hw⟩
              all_goals first | (exfalso; omega) | ((try subst hw); exact pure_eq hb ⟨rfl, by go_simp⟩)
            refine ⟨⟨_, rfl, fun k b w hl hk hΦ => ?_⟩, ?_⟩
            · have hk' : k ≤ 0 := hk
              have hl' : 0 ≤ k := hl
              rcases hΦ with ⟨hq, hb, hw⟩ | ⟨hq, hb, hw⟩ | ⟨hq, hb, hw⟩ | ⟨hq, hb, hw⟩
              all_goals first | (exfalso; omega) | ((try subst hw); exact pure_eq hb ⟨rfl, by go_simp⟩)
            refine ⟨⟨_, rfl, fun k b w hl hk hΦ => ?_⟩, ?_⟩
            · have hk' : k ≤ 0 := hk
              have hl' : 0 ≤ k := hl
              rcases hΦ with ⟨hq, hb, hw⟩ | ⟨hq, hb, hw⟩ | ⟨hq, hb, hw⟩ | ⟨hq, hb, hw⟩
              all_goals first | (exfalso; omega) | ((try subst hw); exact pure_eq hb ⟨rfl, by go_simp⟩)
            refine ⟨⟨_, rfl, fun k b w hl hk hΦ => ?_⟩, ?_⟩
            · have hk' : k ≤ 0 := hk
              have hl' : 0 ≤ k := hl
              rcases hΦ with ⟨hq, hb, hw⟩ | ⟨hq, hb, hw⟩ | ⟨hq, hb, hw⟩ | ⟨hq, hb, hw⟩
              all_goals first | (exfalso; omega) | ((try subst hw); exact pure_eq hb ⟨rfl, by go_simp⟩)
            refine ⟨⟨_, rfl, fun k b w hl hk hΦ => ?_⟩, ?_⟩
            · have hk' : k ≤ 0 := hk
              have hl' : 0 ≤ k := hl
              rcases hΦ with ⟨hq, hb, hw⟩ | ⟨hq, hb, hw⟩ | ⟨hq, hb, hw⟩ | ⟨hq, hb, hw⟩
              all_goals first | (exfalso; omega) | ((try subst hw); exact pure_eq hb ⟨rfl, by go_simp⟩)
            refine ⟨⟨_, rfl, fun k b w hl hk hΦ => ?_⟩, ?_⟩
            · have hk' : k ≤ 0 := hk
              have hl' : 0 ≤ k := hl
              rcases hΦ with ⟨hq, hb, hw⟩ | ⟨hq, hb, hw⟩ | ⟨hq, hb, hw⟩ | ⟨hq, hb, hw⟩
              all_goals first | (exfalso; omega) | ((try subst hw); exact pure_eq hb ⟨rfl, by go_simp⟩)
            refine ⟨⟨_, rfl, fun k b w hl hk hΦ => ?_⟩, ?_⟩
            · have hk' : k ≤ 2 := hk
              have hl' : 2 ≤ k := hl
              rcases hΦ with ⟨hq, hb, hw⟩ | ⟨hq, hb, hw⟩ | ⟨hq, hb, hw⟩ | ⟨hq, hb, hw⟩
              all_goals first | (exfalso; omega) | ((try subst hw); exact pure_eq hb ⟨rfl, by go_simp⟩)
            refine ⟨⟨_, rfl, fun k b w hl hk hΦ => ?_⟩, ?_⟩
            · have hk' : k ≤ 2 := hk
              have hl' : 2 ≤ k := hl
              rcases hΦ with ⟨hq, hb, hw⟩ | ⟨hq, hb, hw⟩ | ⟨hq, hb, hw⟩ | ⟨hq, hb, hw⟩
              all_goals first | (exfalso; omega) | ((try subst hw); exact pure_eq hb ⟨rfl, by go_simp⟩)
            refine ⟨⟨_, rfl, fun k b w hl hk hΦ => ?_⟩, ?_⟩
            · have hk' : k ≤ 2 := hk
              have hl' : 2 ≤ k := hl
              rcases hΦ with ⟨hq, hb, hw⟩ | ⟨hq, hb, hw⟩ | ⟨hq, hb, hw⟩ | ⟨hq, hb, hw⟩
              all_goals first | (exfalso; omega) | ((try subst hw); exact pure_eq hb ⟨rfl, by go_simp⟩)
            exact trivial
          case heff4 =>
            refine ⟨⟨_, rfl, fun b w hΦ => ?_⟩, ?_⟩
            · rcases hΦ with ⟨hq, hb, hw⟩ | ⟨hq, hb, hw⟩ | ⟨hq, hb, hw⟩ | ⟨hq, hb, hw⟩
              all_goals first | (exfalso; omega) | (try subst hw)
              exact upV_okb hb (v := .slice (some ⟨QB, 0, none⟩) 1 1) (w' := X1) (by rw [← hX1, ← hQB]; go_simp) (.inr (.inl ⟨rfl, put_eq hb rfl rfl, rfl⟩))
            refine ⟨⟨_, rfl, fun b w hΦ => ?_⟩, ?_⟩
            · rcases hΦ with ⟨hq, hb, hw⟩ | ⟨hq, hb, hw⟩ | ⟨hq, hb, hw⟩ | ⟨hq, hb, hw⟩
              all_goals first | (exfalso; omega) | (try subst hw)
              exact upV_okb hb (v := .slice (some ⟨g2, 0, none⟩) 2 cp2) (w' := X2) (exec_append rfl rfl rfl hr2) (.inr (.inr (.inl ⟨rfl, put_eq hb rfl rfl, rfl⟩)))
            refine ⟨⟨_, rfl, fun b w hΦ => ?_⟩, ?_⟩
            · rcases hΦ with ⟨hq, hb, hw⟩ | ⟨hq, hb, hw⟩ | ⟨hq, hb, hw⟩ | ⟨hq, hb, hw⟩
              all_goals first | (exfalso; omega) | (try subst hw)
              exact upV_skipb hb (w' := w.setCell ⟨i, 5, none⟩ (.slice (some ⟨g2, 0, none⟩) 2 cp2)) (by go_simp) (.inr (.inr (.inr ⟨rfl, (put_none rfl).trans hb, rfl⟩)))
            exact trivial
          case hfin4 =>
            intro k b w hk hΦ
            have hk' : 3 ≤ k := hk
            rcases hΦ with ⟨hq, hb, hw⟩ | ⟨hq, hb, hw⟩ | ⟨hq, hb, hw⟩ | ⟨hq, hb, hw⟩
            all_goals first | (exfalso; omega) | ((try subst hw); refine fin_eq hb ?_; clear hb)
            simp only [Act.put, List.setIfInBounds_toArray, List.set_cons_zero, List.set_cons_succ]
            have g3 := grown_set X2 i 5 (.slice (some ⟨g2, 0, none⟩) 2 cp2)
            have I3 := Lib.hid (ItS.grow (sb' := g2) (n' := 2) (sc' := cp2) (se' := .slice (some ⟨g, 0, none⟩) 1 cp) (ho' := 0) (li' := 0) (le' := 480) I2.out g3 (by simpa using I2.out.it.set_ 5 (.slice (some ⟨g2, 0, none⟩) 2 cp2)))
            have H3 := Lib.hid (H2.out.grow g3 I2.out.it (by decide) hil)
            have B3 := Lib.hid (B2.out.grown g3 (fun e => B2.out.ne_ I2.out.it (by decide) (Option.some.inj e)))
            have F3 := Lib.hid (F2.out.grow g3 (.inl rfl))
            have Q3 := Lib.hid (Q2.out.kept g3 (.inr (fun e => GI.out (Option.some.inj e))))
            have O3 := Lib.hid (O2.out.kept g3 (.inr (fun e => GI2.out (Option.some.inj e))))
            clear g3 I2 H2 B2 F2 Q2 O2 c5 c12 d5 l2 l4 e5 f5 hr2 hX1 hQB hk hk' hq
            generalize X2.setCell ⟨i, 5, none⟩ (.slice (some ⟨g2, 0, none⟩) 2 cp2) = W9 at *
            have b0 : W9.cell? ⟨NN, 0, none⟩ = some (.pointer (some ⟨A.hb, 0, none⟩)) := B3.out.cell 0
            have i10 : W9.cell? ⟨i, 10, none⟩ = some (.int .i64 0) := I3.out.it.cell 10
            have r10 : W9.frozen? ⟨i, 10, none⟩ = false := I3.out.it.frozen 10
            have g4 := grown_set W9 i 10 (.int .i64 0)
            have I4 := Lib.hid (ItS.grow (sb' := g2) (n' := 2) (sc' := cp2) (se' := .slice (some ⟨g, 0, none⟩) 1 cp) (ho' := 0) (li' := 0) (le' := 480) I3.out g4 (by simpa using I3.out.it.set_ 10 (.int .i64 0)))
            have H4 := Lib.hid (H3.out.grow g4 I3.out.it (by decide) hil)
            have F4 := Lib.hid (F3.out.grow g4 (.inl rfl))
            have Q4 := Lib.hid (Q3.out.kept g4 (.inr (fun e => GI.out (Option.some.inj e))))
            have O4 := Lib.hid (O3.out.kept g4 (.inr (fun e => GI2.out (Option.some.inj e))))
            have DS := Lib.hid (decide_stay w0 A _ L c i ib lb g2 cp2 kk _ 0 480 _ H4.out I4.out (own_cell O4.out (j := 4) rfl) GI2.out HF.out hil)
            clear g4
            gi_wp2_with (refine ⟨trivial, fun h => (by simp [Fence.wide] at h), ?_⟩; gi_at_call 134; (with_reducible refine (CallsIn.inRound l (callsIn_wide.2 DS.out)).mono ?_); rintro e W11 ⟨⟨ve, rfl⟩, h11, i11, g11⟩)
            have hz9 := F4.out.size
            have FIN : Aft c i ib lb sb W W11 := by
              refine ⟨g, g2, cp, cp2, i11, ownsRow_low (O4.out.kept g11 (.inr (fun e => GI2.out (Option.some.inj e)))) (Nat.zero_le _), ?_, GE.out⟩
              exact ownsRow_low (Q4.out.kept g11 (.inr (fun e => GI.out (Option.some.inj e)))) (Nat.zero_le _)
            exact HEND.out W11 h11 FIN (F4.out.grow g11 (.inl rfl)) _
  case done =>
    intro D W hD hI hKD
    have hw0 : w0.heap.size ≤ NN + 1 := by have := GH.out.k.size; have := HNN.out; omega
    have hD0 : w0.heap.size ≤ D := by have := (GH.out.keep hkw).k.size; omega
    have hDN : NN + 1 < D := by have := zV; have := hk.size; omega
    have q0 := hI.r.cell 0
    have qf := hI.r.frozen 0
    have g1 := grown_set W (NN + 1) 0 (.bool true)
    have b4 : Blk (W.setCell ⟨NN + 1, 0, none⟩ (.bool true)) (NN + 1) 4 #[.bool true] := by simpa using hI.r.set_ 0 (.bool true)
    have hKD' : (W.setCell ⟨NN + 1, 0, none⟩ (.bool true)).heap[D]? = some (.deferred (some [])) := (Below.heap_setCell W _ _ D (by simp; omega)).trans hKD
    have hcc : (Obj.deferred (some [])).isCells = false := rfl
    have hmm : ∀ es cl, (Obj.deferred (some []) : Obj) ≠ .map es cl := fun _ _ e => by cases e
    have H1 := hI.h.grow g1 hI.r (by decide) hw0
    have O1 := hI.o.far g1 (own_other hI.o hI.r (by decide)).symm hw0
    have af : ∀ {c : UInt8} {i ib lb : Nat} {R : Nat → Prop}, AftS c i ib lb R W → AftS c i ib lb R ((W.setCell ⟨NN + 1, 0, none⟩ (.bool true)).putObj D (.deferred none)) := fun {c i ib lb R} ha => by
      obtain ⟨g, g2, cp, cp2, a1, a2, a3, a4⟩ := ha
      obtain ⟨c1, e1⟩ := own_heap a2
      obtain ⟨c2, e2⟩ := own_heap a3
      have nb : ∀ {q : Nat} {T0 : TypeId} {cs : Array Value}, Blk W q T0 cs → T0 ≠ 4 → some q ≠ some (NN + 1) := fun hb hT e => hb.ne_ hI.r hT (Option.some.inj e)
      have ha2 : AftS c i ib lb R (W.setCell ⟨NN + 1, 0, none⟩ (.bool true)) := ⟨g, g2, cp, cp2, a1.other g1 (nb a1.it (by decide)) (nb a1.ib (by decide)) (nb a1.lb (by decide)), own_same a2 (g1.block _ e1.lt (nb e1 (by decide))), own_same a3 (g1.block _ e2.lt (nb e2 (by decide))), a4⟩
      exact ha2.putL hKD' hcc hmm _
    have FIN := Lib.hid (show HiS w0 A (.slice (some ⟨p, 0, none⟩) 2 cpp) L ((W.setCell ⟨NN + 1, 0, none⟩ (.bool true)).putObj D (.deferred none)) ∧ OwnR ptR w0 ((W.setCell ⟨NN + 1, 0, none⟩ (.bool true)).putObj D (.deferred none)) (.slice (some ⟨p, 0, none⟩) 2 cpp) [T.iA, T.iB] ∧ AftS 65 T.iA T.ibA T.lbA (fun g2 => g2 ≠ T.sbB) ((W.setCell ⟨NN + 1, 0, none⟩ (.bool true)).putObj D (.deferred none)) ∧ AftS 66 T.iB T.ibB T.lbB (fun _ => True) ((W.setCell ⟨NN + 1, 0, none⟩ (.bool true)).putObj D (.deferred none)) from
      ⟨⟨H1.k.putO _ hD0, H1.net, H1.kw, H1.pl, H1.hb.putL hKD' hcc hmm _, H1.mm.putL hKD' hcc hmm _, H1.cm.putL hKD' hcc hmm _, H1.hl⟩, ⟨own_putL O1.1 hKD' hcc hmm _, O1.2.putO _ hD0⟩, af (hI.qA (by decide)), af (hI.qB (by decide))⟩)
    have c9 := (b4.putL hKD' hcc hmm (.deferred none)).cell 0
    have HKD := Lib.hid hKD'
    clear H1 O1 af b4 hKD' hI hKD g1
    go_wp2
    refine ⟨by simp, .inl ⟨_, _, rfl, run_takeDeferred (by exact HKD.out), ?_⟩⟩
    clear HKD
    generalize (W.setCell ⟨NN + 1, 0, none⟩ (.bool true)).putObj D (.deferred none) = W9 at *
    exact ⟨.bool true, by simp [results, Tryz.results78, go_sem, c9], rfl, FIN.out⟩
end
end Go.Proofs.YthkmpegpmpdhaaaGreatDoor
