/- Part of the proofs of TopMoney and TopOrders. Conditions: as stated in each theorem. -/
import Derived.Test.YthkmpegpmpdhaaaPr
import Derived.Test.YthkmpegpmpdhaaaM
import Derived.Deep.CutRange
import Derived.StillTailTactics
import Derived.Lib.SliceRun
import Derived.RangeFuncRecord
import Derived.Carry
import Derived.ChangeKeysEq
import Derived.Test.YthkmpegpmpdhaaaRows
import Derived.WalkKit
import Derived.WalkSpells
import Derived.WalkLawsBesides
import Derived.Laws.EntriesVeiled
import Derived.ProofKit
import Derived.OpenShut
import Derived.Lib.Hide
import Derived.BigQuiet
import Derived.Deep.QuietTactic
import Derived.Below
import Derived.Laws.OwnMore
import Derived.Deep.AppendLies
import Derived.Deep.Draws
import Derived.Laws.Rows
import Derived.Maps.AppendAt
import Derived.RegionTactic
import Derived.OwnWalk
import Derived.Deep.RegionHeld3
namespace Go.Proofs.Ythkmpegpmpdhaaa
open Go.ChangeShapes Go.WideShapes Go.ChangeAt Go.RowKit
set_option linter.unusedSimpArgs false
set_option linter.unusedVariables false
theorem run_eq_ks (a b c d : Int) (w : World) : (Op.equalIn 10000 94 (.agg #[.int .u32 a, .int .i64 b]) (.agg #[.int .u32 c, .int .i64 d])).run Try.prog w = .ok (a == c && b == d) w := by
  have u3 := Try.underlying3
  have a3 := Try.isAgg3
  have z3 := Try.sizeOf3
  have u27 := Try.underlying27
  have a27 := Try.isAgg27
  have z27 := Try.sizeOf27
  have hS : Try.prog.underlying 94 = some (.struct (Try.prog.fieldsOf 94)) := by kernel_rfl
  have hp : Try.prog.stoodInHeld 94 = false := by kernel_rfl
  rw [show (10000 : Nat) = 9999 + 1 from rfl, run_equalIn_agg w 9999 94 _ _ hS hp]
  simp only [Program.fieldsOf, Try.underlying94]
  go_simp
  by_cases h1 : a = c <;> by_cases h2 : b = d <;> simp [h1, h2]
def ksV (k : Ks) : Value := .agg #[.int .u32 (k.1 : Int), .int .i64 k.2]
def ksEq (a b : Ks) : Bool := a.1 == b.1 && a.2 == b.2
theorem ksEq_iff (a b : Ks) : ksEq a b = true ↔ a = b := by
  obtain ⟨a1, a2⟩ := a
  obtain ⟨b1, b2⟩ := b
  simp [ksEq]
set_option maxRecDepth 100000 in
theorem ksDeep : DeepKey Try.prog 94 ksV ksEq where
  equal := fun x y W => by
    have h := run_eq_ks (x.1 : Int) x.2 (y.1 : Int) y.2 W
    have e : (((x.1 : Int) == (y.1 : Int)) && (x.2 == y.2)) = ksEq x y := by
      have e1 : ((x.1 : Int) == (y.1 : Int)) = (x.1 == y.1) := by
        rw [Bool.eq_iff_iff, beq_iff_eq, beq_iff_eq]
        omega
      unfold ksEq
      rw [e1]
    rw [e] at h
    exact h
  check := fun e x W => by cases e <;> kernel_rfl
  stays := fun x y h => by
    have := (ksEq_iff x y).1 h
    subst this
    exact ⟨rfl, by simp [ksV, Instr.sameBits]⟩
  deep := ⟨_, Try.underlying94, fun x y => rfl⟩
theorem ksKeys : KeyLaws Try.prog 94 ksV ksEq := ksDeep.laws
def stepV (v : Int × Nat × Int) : Value := .agg #[.int .i64 v.1, .int .i64 (v.2.1 : Int), .int .i64 v.2.2]
/-- The map of full. -/
def BestIs (W : World) (r : Nat) (G : Ks → Option (Int × Nat × Int)) : Prop := MapTo ksV ksEq W r fun k => (G k).map stepV
theorem BestIs.keep {W W' : World} {r : Nat} {G : Ks → Option (Int × Nat × Int)} (h : BestIs W r G) (hk : Keeps W W') : BestIs W' r G := MapTo.keep h hk
theorem BestIs.grown {W W' : World} {r : Nat} {G : Ks → Option (Int × Nat × Int)} {row : Option Nat} (h : BestIs W r G) (hg : W.grownBy W' row) (hne : row ≠ some r) : BestIs W' r G := MapTo.grown h hg hne
theorem BestIs.look {W : World} {r : Nat} {G : Ks → Option (Int × Nat × Int)} (h : BestIs W r G) (m : Nat) (o : Int) {t : Int} {u : Nat} {p : Int} (hG : G (m, o) = some (t, u, p)) :
    (Instr.lookup 126 (.map (some r)) (.agg #[.int .u32 (m : Int), .int .i64 o]) false).run Try.prog W = .ok (.agg #[.int .i64 t, .int .i64 (u : Int), .int .i64 p]) W := by
  have := MapTo.look ksKeys Try.underlying126 false h (.agg #[.int .i64 0, .int .i64 0, .int .i64 0]) (by kernel_rfl) (m, o)
  rw [hG] at this
  exact this
theorem BestIs.look2 {W : World} {r : Nat} {G : Ks → Option (Int × Nat × Int)} (h : BestIs W r G) (m : Nat) (o : Int) :
    (Instr.lookup 126 (.map (some r)) (.agg #[.int .u32 (m : Int), .int .i64 o]) true).run Try.prog W = .ok (.tuple #[((G (m, o)).map stepV).getD (.agg #[.int .i64 0, .int .i64 0, .int .i64 0]), .bool (G (m, o)).isSome]) W := by
  have := MapTo.look ksKeys Try.underlying126 true h (.agg #[.int .i64 0, .int .i64 0, .int .i64 0]) (by kernel_rfl) (m, o)
  rw [if_pos rfl] at this
  rw [show (G (m, o)).isSome = ((G (m, o)).map stepV).isSome by cases G (m, o) <;> rfl]
  exact this
theorem BestIs.put {W : World} {r : Nat} {G : Ks → Option (Int × Nat × Int)} (h : BestIs W r G) (m : Nat) (o : Int) (t : Int) (u : Nat) (p : Int) :
    ∃ W', (Instr.mapUpdate 126 (.map (some r)) (.agg #[.int .u32 (m : Int), .int .i64 o]) (.agg #[.int .i64 t, .int .i64 (u : Int), .int .i64 p])).run Try.prog W = .ok () W' ∧ BestIs W' r (fun k => if k = (m, o) then some (t, u, p) else G k) ∧ W.grownBy W' (some r) := by
  obtain ⟨W', h1, h2, h3⟩ := MapTo.put ksKeys ksEq_iff Try.underlying126 h (m, o) (stepV (t, u, p))
  refine ⟨W', h1, MapTo.congr h2 (fun k => ?_), h3⟩
  by_cases e : k = (m, o)
  · simp [e]
  · simp [e]
theorem BestIs.made (W : World) : BestIs (W.alloc (.map #[] 0)) W.heap.size (fun _ => none) := MapTo.made W
theorem BestIs.lt {W : World} {r : Nat} {G : Ks → Option (Int × Nat × Int)} (h : BestIs W r G) : r < W.heap.size := MapTo.lt h
/-- A map is no row of cells. -/
theorem BestIs.ne {W : World} {r : Nat} {G : Ks → Option (Int × Nat × Int)} (h : BestIs W r G) {base n : Nat} {e : TypeId} {size : Nat} {v : Value} {xs : List Value} (k : W.ownsRow base e size v n xs) : v.ownBlock ≠ some r := by
  obtain ⟨L, ⟨es, cl, hr, _⟩, _⟩ := h
  rcases k.2 with ⟨rfl, _⟩ | ⟨g, cap, cur, rfl, _, hg, _⟩
  · simp [Value.ownBlock]
  · intro he
    simp [Value.ownBlock] at he
    subst he
    rw [hr] at hg
    cases hg
theorem BestIs.neBlk {W : World} {r g : Nat} {t : TypeId} {cs : Array Value} {G : Ks → Option (Int × Nat × Int)} (h : BestIs W r G) (k : Blk W g t cs) : g ≠ r := by
  obtain ⟨L, ⟨es, cl, hr, _⟩, _⟩ := h
  rintro rfl
  unfold Blk at k
  rw [hr] at k
  cases k
/-- A list of the call's own, in a block that was not there before. -/
def RowG {α : Type} (R : RowTy α) (base : Nat) (w : World) (v : Value) (l : List α) : Prop := w.ownsRow base R.T R.k v l.length (recCells R l)
section
variable {α : Type} {R : RowTy α} {base : Nat} {w w' : World} {v : Value} {l : List α}
theorem RowG.keep (h : RowG R base w v l) (hk : Keeps w w') : RowG R base w' v l := own_keeps h hk
theorem RowG.grown {row : Option Nat} (h : RowG R base w v l) (hg : w.grownBy w' row) (hne : v.ownBlock ≠ row) : RowG R base w' v l := h.kept hg (.inr hne)
theorem RowG.nil (base : Nat) (w : World) : RowG R base w (.slice none 0 0) [] := World.ownsRow_nil _ _ _ _
theorem RowG.recs {P : Program} (ok : RowOk P R) {A : Option Addr} {n c : Nat} (h : RowG R base w (.slice A n c) l) : RecIn R w w.heap.size A l ∧ n = l.length := by
  have hn : n = l.length := by
    rcases h.2 with ⟨e, h0⟩ | ⟨g, cap, cur, e, _⟩
    · injection e with e1 e2 e3; omega
    · injection e
  subst hn
  exact ⟨RecIn.of_own ok h rfl, rfl⟩
theorem RowG.at_ {A : Option Addr} {n c b off : Nat} (h : RowG R base w (.slice A n c) l) (e : A = some ⟨b, off, none⟩) : (Value.slice A n c).ownBlock = some b ∧ base ≤ b := by
  subst e
  rcases h.2 with ⟨e, _⟩ | ⟨g, cap, cur, e, hb, _⟩
  · cases e
  · cases e; exact ⟨rfl, hb⟩
end
theorem wpList_appG {α : Type} {R : RowTy α} {P : Program} (ok : RowOk P R) {base : Nat} {w : World} {ops : Array Oper} {rest : List Oper} {o : Oper} {a : Act} {Q : Exit → Act → World → Prop} (hgd : o.guard = none) (s x : Operand)
    (ho : o.op = .call { callee := .builtin .append, args := #[s, x], argTypes := #[R.S, R.S] })
    (v : Value) (l : List α) (hs : a.eval s = v) (hown : RowG R base w v l) (hbase : base ≤ w.heap.size)
    (A : Option Addr) (m c : Nat) (l2 : List α) (hx : a.eval x = .slice A m c) (hr : RecIn R w w.heap.size A l2) (hm : Hid (m = l2.length)) (hle : Hid (l.length + l2.length ≤ 1000000))
    (h : ∀ A' n' c' w', RowG R base w' (.slice A' n' c') (l ++ l2) → w.grownBy w' v.ownBlock → (∀ b, b < w.heap.size → v.ownBlock ≠ some b → (Value.slice A' n' c').ownBlock ≠ some b) → wpList P ops Q rest (a.put o.dst (.slice A' n' c')) w') : wpList P ops Q (o :: rest) a w := by
  obtain ⟨i0, z, hi0, hz0, hz1, hz2, hz3⟩ := ok.info
  have hle' := hle.out
  have hm' := hm.out
  subst hm'
  have hby : (l.length + l2.length) * R.by' ≤ 1000000 * 1000 := Nat.mul_le_mul hle' ok.few
  refine wpList_append_any w hgd s x R.S ho base R.T i0 z R.k R.by' ok.und hi0 hz0 hz1 hz2 hz3 ok.pos v l.length (recCells R l) hs hown w.heap.size A l2.length c (recCells R l2) hx (hr.reads ok) (recCells_oneCell ok l2) (by unfold maxLen; omega) (by omega) hbase ?_
  intro v' w' h1 h2 h3
  obtain ⟨A', c', rfl⟩ := own_slice h1
  refine h A' _ c' w' ?_ h2 (fun b hb hne => ?_)
  · rw [← List.length_append, ← recCells_append] at h1
    rw [← List.length_append]
    exact h1
  · rcases h3 with h3 | h3
    · rw [h3]; exact hne
    · rw [h3]; exact fun e => by injection e with e; omega
/-- The states of a level. -/
def KsOk (d : List (List Int)) (n : Nat) (k : Ks) : Prop := k.1 < 2 ^ n ∧ (k.2 = -1 ∨ isOff d k.2)
structure LvOk (d : List (List Int)) (us : List Un) (r : Nat) (G : Ks → Option (Int × Nat × Int)) (L : List Ks) : Prop where
  ok : ∀ k ∈ L, KsOk d us.length k ∧ cntB us.length k.1 = r ∧ (G k).isSome = true
  nd : L.Nodup
theorem LvOk.nil (d : List (List Int)) (us : List Un) (r : Nat) (G : Ks → Option (Int × Nat × Int)) : LvOk d us r G [] := ⟨by simp, by simp⟩
def codeK (k : Ks) : Nat := k.1 * 14 + (k.2 + 1).toNat
theorem LvOk.few {d : List (List Int)} {us : List Un} {r : Nat} {G : Ks → Option (Int × Nat × Int)} {L : List Ks} (h : LvOk d us r G L) (hn : us.length < 16) (hd : d.length ≤ 12) : L.length ≤ 500000 := by
  have h1 : (L.map codeK).length ≤ 2 ^ us.length * 14 := by
    refine (nodup_full (2 ^ us.length * 14) (L.map codeK) ?_ ?_).1
    · refine List.pairwise_map.2 (List.Pairwise.imp_of_mem ?_ h.nd)
      intro a b ha hb hne e
      have oa := (h.ok a ha).1.2
      have ob := (h.ok b hb).1.2
      unfold codeK at e
      refine hne ?_
      have e1 : (a.2 + 1).toNat < 14 ∧ -1 ≤ a.2 := by
        rcases oa with h | h
        · omega
        · have := h.1; have := h.2; omega
      have e2 : (b.2 + 1).toNat < 14 ∧ -1 ≤ b.2 := by
        rcases ob with h | h
        · omega
        · have := h.1; have := h.2; omega
      exact Prod.ext (by omega) (by omega)
    · intro x hx
      obtain ⟨k, hk, rfl⟩ := List.mem_map.1 hx
      have o1 := (h.ok k hk).1
      have e1 : (k.2 + 1).toNat < 14 := by
        rcases o1.2 with h | h
        · omega
        · have := h.1; have := h.2; omega
      have := o1.1
      unfold codeK
      omega
  have h2 : 2 ^ us.length ≤ 2 ^ 15 := Nat.pow_le_pow_right (by decide) (by omega)
  simp at h1
  omega
theorem LvOk.congr {d : List (List Int)} {us : List Un} {r : Nat} {G G' : Ks → Option (Int × Nat × Int)} {L : List Ks} (h : LvOk d us r G L) (hG : ∀ k, (G k).isSome = true → (G' k).isSome = true) : LvOk d us r G' L := ⟨fun k hk => ⟨(h.ok k hk).1, (h.ok k hk).2.1, hG k (h.ok k hk).2.2⟩, h.nd⟩
theorem LvOk.more {d : List (List Int)} {us : List Un} {r : Nat} {G G' : Ks → Option (Int × Nat × Int)} {L : List Ks} (h : LvOk d us r G L) (hG : ∀ k, (G k).isSome = true → (G' k).isSome = true) {k : Ks} (hk : KsOk d us.length k) (hc : cntB us.length k.1 = r) (hn : G k = none) (hs : (G' k).isSome = true) : LvOk d us r G' (L ++ [k]) where
  ok := fun x hx => by
    rcases List.mem_append.1 hx with hx | hx
    · exact ⟨(h.ok x hx).1, (h.ok x hx).2.1, hG x (h.ok x hx).2.2⟩
    · simp at hx; subst hx; exact ⟨hk, hc, hs⟩
  nd := by
    rw [List.nodup_append]
    refine ⟨h.nd, by simp, fun a ha b hb e => ?_⟩
    simp at hb
    subst hb
    subst e
    have := (h.ok a ha).2.2
    rw [hn] at this
    cases this
theorem FI.time {d : List (List Int)} {us : List Un} {r : Nat} {G : Ks → Option (Int × Nat × Int)} (h : FI d us r G) {k : Ks} {t : Int} {v : Nat × Int} (hG : G k = some (t, v)) : -1 ≤ t ∧ t ≤ 1000001 := by
  rcases h.ent k t v.1 v.2 hG with ⟨_, e⟩ | ⟨_, _, _, _, _, _, _, _, e⟩
  · omega
  · rw [e]; exact begin_le
theorem FI.unit {d : List (List Int)} {us : List Un} {r : Nat} {G : Ks → Option (Int × Nat × Int)} (h : FI d us r G) {k : Ks} {t : Int} {u : Nat} {o : Int} (hG : G k = some (t, u, o)) : u < us.length ∨ (k = (0, -1)) := by
  rcases h.ent k t u o hG with ⟨e, _⟩ | ⟨e, _⟩
  · exact .inr e
  · exact .inl e
end Go.Proofs.Ythkmpegpmpdhaaa
