/- Part of the proof of TopOwnItem. Conditions: as stated in each theorem. -/
import Derived.Test.YthkmpegpmpdhaaaGreatDoorZA
import Derived.Test.YthkmpegpmpdhaaaGreatDoorProg
import Derived.WalkMore
import Derived.Maps.OwnIn
import Derived.Deep.LoopGhost
import Derived.RangeFuncNested
import Derived.RangeFuncCalls
import Derived.RangeFuncLeaves
import Derived.RangeFuncWrites
import Derived.Shelf.Abstract
import Derived.Shelf.RegionOpen
import Derived.OwnWalkIn
import Derived.TacticsInMore
import Derived.LoopNIn
import Derived.LoopIn
import Derived.RangeFuncBound
import Derived.Shelf.SlSortCmp.InsertionK
import Derived.WalkKit
import Derived.WalkSpells
import Derived.WalkLawsBesides
import Derived.Laws.EntriesVeiled
import Derived.ProofKit
import Derived.OpenShut
import Derived.Lib.Hide
import Derived.BigQuiet
import Derived.Deep.QuietTactic
import Derived.Deep.CutRange
import Derived.StillTailTactics
import Derived.Lib.SliceRun
import Derived.RangeFuncRecord
import Derived.Carry
import Derived.ChangeKeysEq
import Derived.Below
import Derived.Laws.OwnMore
import Derived.Deep.AppendLies
import Derived.Deep.Draws
import Derived.Laws.Rows
import Derived.Maps.AppendAt
import Derived.RegionTactic
import Derived.OwnWalk
import Derived.Deep.RegionHeld3
namespace Go.Proofs.YthkmpegpmpdhaaaGreatDoor
open Go.Shelf Go.ChangeShapes Go.WideShapes Go.ChangeAt Go.RowKit
set_option linter.unusedSimpArgs false
set_option linter.unusedVariables false
instance : Inhabited Rec := ⟨⟨0, 0, 0, 0, ByteArray.empty, [], none, 0⟩⟩
open Go.Sort
/-- The bodies of the stable sort, at elements of k cells. -/
structure SrtL (P : Program) (k : Nat) : Prop where
  mixed : P.follows .mixedOrders = true
  g264 : P.funcs[264]? = some Tryz.f264
  g218 : P.funcs[218]? = some Tryz.f218
  g173 : P.funcs[173]? = some Tryz.f173
  t0 : P.underlying 0 = some (TypeDesc.tuple #[])
  a0 : ∀ w, (isAgg 0).run P w = .ok false w
  z0 : ∀ w, (Go.sizeOf 0).run P w = .ok 1 w
  v0 : ∀ w, (zeroValue 0).run P w = .ok (Value.tuple #[]) w
  t3 : P.underlying 3 = some (TypeDesc.int IntKind.i64)
  a3 : ∀ w, (isAgg 3).run P w = .ok false w
  z3 : ∀ w, (Go.sizeOf 3).run P w = .ok 1 w
  v3 : ∀ w, (zeroValue 3).run P w = .ok (Value.int IntKind.i64 0) w
  t4 : P.underlying 4 = some TypeDesc.bool
  a4 : ∀ w, (isAgg 4).run P w = .ok false w
  z4 : ∀ w, (Go.sizeOf 4).run P w = .ok 1 w
  v4 : ∀ w, (zeroValue 4).run P w = .ok (Value.bool false) w
  t214 : P.underlying 214 = some (TypeDesc.int IntKind.u64)
  a214 : ∀ w, (isAgg 214).run P w = .ok false w
  z214 : ∀ w, (Go.sizeOf 214).run P w = .ok 1 w
  v214 : ∀ w, (zeroValue 214).run P w = .ok (Value.int IntKind.u64 0) w
  t23 : P.underlying 23 = some (TypeDesc.slice 26)
  a23 : ∀ w, (isAgg 23).run P w = .ok false w
  z23 : ∀ w, (Go.sizeOf 23).run P w = .ok 1 w
  v23 : ∀ w, (zeroValue 23).run P w = .ok (Value.slice none 0 0) w
  t199 : P.underlying 199 = some (TypeDesc.func #[26, 26] #[3] false)
  a199 : ∀ w, (isAgg 199).run P w = .ok false w
  z199 : ∀ w, (Go.sizeOf 199).run P w = .ok 1 w
  v199 : ∀ w, (zeroValue 199).run P w = .ok Value.nilFunc w
  aE : ∀ w, (isAgg 26).run P w = .ok true w
  zE : ∀ w, (Go.sizeOf 26).run P w = .ok k w
theorem Tryz.srtL : SrtL Tryz.prog 6 := ⟨by kernel_rfl, Tryz.func264, Tryz.func218, Tryz.func173, Tryz.underlying0, Tryz.isAgg0, Tryz.sizeOf0, Tryz.zeroValue0, Tryz.underlying3, Tryz.isAgg3, Tryz.sizeOf3, Tryz.zeroValue3, Tryz.underlying4, Tryz.isAgg4, Tryz.sizeOf4, Tryz.zeroValue4, Tryz.underlying214, Tryz.isAgg214, Tryz.sizeOf214, Tryz.zeroValue214, Tryz.underlying23, Tryz.isAgg23, Tryz.sizeOf23, Tryz.zeroValue23, Tryz.underlying199, Tryz.isAgg199, Tryz.sizeOf199, Tryz.zeroValue199, Tryz.isAgg26, Tryz.sizeOf26⟩
/-- The same elements, elsewhere. -/
def Rea {α : Type} (d d' : Array α) : Prop := d'.size = d.size ∧ ∀ x ∈ d', x ∈ d
theorem Rea.refl {α : Type} (d : Array α) : Rea d d := ⟨rfl, fun _ h => h⟩
theorem Rea.trans {α : Type} {a b c : Array α} (h : Rea a b) (k : Rea b c) : Rea a c := ⟨k.1.trans h.1, fun x hx => h.2 x (k.2 x hx)⟩
theorem Rea.swp {α : Type} [Inhabited α] {d e : Array α} (h : Rea d e) (i j : Nat) (hi : i < e.size) (hj : j < e.size) : Rea d (swp e i j) := by
  refine h.trans ⟨by rw [size_swp], fun x hx => ?_⟩
  unfold Go.Sort.swp at hx
  have hi2 : e[i]! ∈ e := by rw [getElem!_pos e i hi]; exact Array.getElem_mem hi
  have hj2 : e[j]! ∈ e := by rw [getElem!_pos e j hj]; exact Array.getElem_mem hj
  rcases Array.mem_or_eq_of_mem_setIfInBounds hx with hx | rfl
  · rcases Array.mem_or_eq_of_mem_setIfInBounds hx with hx | rfl
    · exact hx
    · exact hj2
  · exact hi2
section
variable {P : Program} {α : Type} [Inhabited α] {enc : α → List Value} {k : Nat}
theorem swp_facts (hk : ∀ x, (enc x).length = k) (h1 : ∀ x, ∀ v ∈ enc x, v.oneCell' = true) {W : World} {blk off : Nat} {dj : Array α} (hH : HoldsK enc k W blk off dj) (p q : Nat) (hp : p < dj.size) (hq : q < dj.size) :
    Sem.run P (loadCellsFrom ⟨blk, off + p * k, none⟩ 0 k #[]) W = .ok (enc dj[p]!).toArray W ∧
    Sem.run P (loadCellsFrom ⟨blk, off + q * k, none⟩ 0 k #[]) W = .ok (enc dj[q]!).toArray W ∧
    Sem.run P (storeCells ⟨blk, off + p * k, none⟩ (enc dj[q]!) 0) W = .ok () (W.setCells blk (off + p * k) (enc dj[q]!)) ∧
    Sem.run P (storeCells ⟨blk, off + q * k, none⟩ (enc dj[p]!) 0) (W.setCells blk (off + p * k) (enc dj[q]!)) = .ok () ((W.setCells blk (off + p * k) (enc dj[q]!)).setCells blk (off + q * k) (enc dj[p]!)) := by
  have bnd : ∀ x, x < dj.size → x * k + k ≤ dj.size * k := fun x hx => by
    have := Nat.mul_le_mul_right k (show x + 1 ≤ dj.size from hx); rwa [Nat.add_mul, Nat.one_mul] at this
  refine ⟨run_loadCellsFrom_list P _ _ _ k (hk _) (HoldsK.cells hH hk hp), run_loadCellsFrom_list P _ _ _ k (hk _) (HoldsK.cells hH hk hq), ?_, ?_⟩
  · exact stores_of_holds P hH (p * k) _ (by rw [hk, size_flatK]; exact bnd p hp) (h1 _)
  · exact stores_of_holds P (holds_setCells_c hH (p * k) _ (by rw [hk, size_flatK]; exact bnd p hp)) (q * k) _ (by rw [hk, size_setMany, size_flatK]; exact bnd q hq) (h1 _)
/-- How a part of the sort ends: the row holds the same elements, elsewhere. -/
def ReaPost (enc : α → List Value) (k : Nat) (w : World) (blk off : Nat) (d : Array α) (e : Ending) (w' : World) : Prop :=
  e = .returned (.tuple #[]) ∧ ∃ n d' os, Rea d d' ∧ w' = sortWorldK enc k w blk off n d' os
set_option maxHeartbeats 4000000 in
set_option maxRecDepth 1000000 in
theorem swaps264 (L : SrtL P k) (hk : ∀ x, (enc x).length = k) (h1 : ∀ x, ∀ v ∈ enc x, v.oneCell' = true) (blk off cap a b n m0 : Nat) (fv : Value) (d dk0 : Array α) (os0 : Array Obj) (w : World)
    (hH : HoldsK enc k w blk off d) (hblk : blk < w.heap.size) (hs0 : dk0.size = d.size) (ha : a + n ≤ d.size) (hb : b + n ≤ d.size) (hsz : d.size < 4611686018427387904) :
    Calls P 264 #[.slice (some ⟨blk, off, none⟩) d.size cap, .int .i64 a, .int .i64 b, .int .i64 n, fv] (sortWorldK enc k w blk off m0 dk0 os0) (ReaPost enc k w blk off dk0) := by
  have mixed := L.mixed; have t0 := L.t0; have a0 := L.a0; have z0 := L.z0; have v0 := L.v0; have t3 := L.t3; have a3 := L.a3; have z3 := L.z3; have v3 := L.v3; have t4 := L.t4; have a4 := L.a4; have z4 := L.z4; have v4 := L.v4; have t22 := L.t23; have a22 := L.a23; have z22 := L.z23; have v22 := L.v23; have t25 := L.t199; have a25 := L.a199; have z25 := L.z199; have v25 := L.v199; have aE := L.aE; have zE := L.zE
  have u22 := run_underlying L.t23
  have F := L.g264
  have HH : Hid (HoldsK enc k w blk off d) := hH
  have HK : Hid (∀ x, (enc x).length = k) := hk
  have H1 : Hid (∀ x, ∀ v ∈ enc x, v.oneCell' = true) := h1
  clear hH hk h1 L
  go_enter F, Tryz.ntmps264
  clear F
  go_wp2
  go_loopg [10] n (fun g1 vi wr => ∃ (i m : Nat) (dk : Array α) (os : Array Obj), vi = .int .i64 i ∧ i ≤ n ∧ n ≤ i + g1 ∧ Rea dk0 dk ∧ wr = sortWorldK enc k w blk off m dk os)
  case atStart => exact ⟨0, m0, dk0, os0, rfl, by omega, by omega, Rea.refl _, rfl⟩
  case round =>
    obtain ⟨i, m, dk, os, rfl, hin, hg1, hR, rfl⟩ := hrel
    have HR := Lib.hid hR
    have hsk : dk.size = d.size := hR.1.trans hs0
    clear hR
    by_cases hlt : i < n
    · have hltz : (i : Int) < (n : Int) := by omega
      have p0 : (0 : Int) ≤ (a : Int) + (i : Int) := by omega
      have q0 : (0 : Int) ≤ (b : Int) + (i : Int) := by omega
      have pz : (a : Int) + (i : Int) < (d.size : Int) := by omega
      have qz : (b : Int) + (i : Int) < (d.size : Int) := by omega
      have hHd : HoldsK enc k (sortWorldK enc k w blk off m dk os).drew blk off dk := holdsK_sortWorldK_c enc k w blk off d dk _ _ HH.out hblk hsk
      obtain ⟨l1, l2, s1, s2⟩ := swp_facts (P := P) HK.out H1.out hHd (a + i) (b + i) (by omega) (by omega)
      have e1 : ((a : Int) + (i : Int)).toNat = a + i := by omega
      have e2 : ((b : Int) + (i : Int)).toNat = b + i := by omega
      have HSW := Lib.hid (sortWorldK_swp_c enc k w blk off HK.out m dk os hblk (a + i) (b + i) (by omega) (by omega))
      have HRS := Lib.hid (HR.out.swp (a + i) (b + i) (by omega) (by omega))
      have hl1 : (enc dk[a + i]!).length = k := HK.out _
      have hl2 : (enc dk[b + i]!).length = k := HK.out _
      generalize sortWorldK enc k w blk off m dk os = W at *
      generalize enc dk[a + i]! = x1 at *
      generalize enc dk[b + i]! = x2 at *
      clear hHd
      go_wp2
      go_big_region_o
      all_goals go_wp2
      go_roundg (n - (i + 1))
      case measure => omega
      case rel => exact ⟨i + 1, m + 1, _, os, by go_num, by omega, by omega, HRS.out, HSW.out⟩
    · have hltz : ¬ (i : Int) < (n : Int) := by omega
      go_wp2
      go_end0
      exact ⟨rfl, m, dk, os, HR.out, rfl⟩
end
section
variable {P : Program} {α : Type} [Inhabited α] {enc : α → List Value} {k : Nat}
theorem ReaPost.more {enc : α → List Value} {k : Nat} {w : World} {blk off : Nat} {d d' : Array α} (h : Rea d d') {e : Ending} {w' : World} (hp : ReaPost enc k w blk off d' e w') : ReaPost enc k w blk off d e w' := by
  obtain ⟨he, n, d2, os, hr, hw⟩ := hp
  exact ⟨he, n, d2, os, h.trans hr, hw⟩
theorem swaps264i (L : SrtL P k) (hk : ∀ x, (enc x).length = k) (h1 : ∀ x, ∀ v ∈ enc x, v.oneCell' = true) (blk off cap a b n m0 : Nat) (A B N : Int) (fv : Value) (d dk0 : Array α) (os0 : Array Obj) (w : World)
    (hH : HoldsK enc k w blk off d) (hblk : blk < w.heap.size) (hs0 : dk0.size = d.size) (ha : a + n ≤ d.size) (hb : b + n ≤ d.size) (hsz : d.size < 4611686018427387904) (hA : A = (a : Int)) (hB : B = (b : Int)) (hN : N = (n : Int)) :
    Calls P 264 #[.slice (some ⟨blk, off, none⟩) d.size cap, .int .i64 A, .int .i64 B, .int .i64 N, fv] (sortWorldK enc k w blk off m0 dk0 os0) (ReaPost enc k w blk off dk0) := by
  subst hA hB hN
  exact swaps264 L hk h1 blk off cap a b n m0 fv d dk0 os0 w hH hblk hs0 ha hb hsz
set_option maxHeartbeats 4000000 in
set_option maxRecDepth 1000000 in
theorem rotate218 (L : SrtL P k) (hk : ∀ x, (enc x).length = k) (h1 : ∀ x, ∀ v ∈ enc x, v.oneCell' = true) (blk off cap a m b m0 : Nat) (fv : Value) (d dk0 : Array α) (os0 : Array Obj) (w : World)
    (hH : HoldsK enc k w blk off d) (hblk : blk < w.heap.size) (hs0 : dk0.size = d.size) (ham : a < m) (hmb : m < b) (hb : b ≤ d.size) (hsz : d.size < 4611686018427387904) :
    Calls P 218 #[.slice (some ⟨blk, off, none⟩) d.size cap, .int .i64 a, .int .i64 m, .int .i64 b, fv] (sortWorldK enc k w blk off m0 dk0 os0) (ReaPost enc k w blk off dk0) := by
  have mixed := L.mixed; have t0 := L.t0; have a0 := L.a0; have z0 := L.z0; have v0 := L.v0; have t3 := L.t3; have a3 := L.a3; have z3 := L.z3; have v3 := L.v3; have t4 := L.t4; have a4 := L.a4; have z4 := L.z4; have v4 := L.v4; have t22 := L.t23; have a22 := L.a23; have z22 := L.z23; have v22 := L.v23; have t25 := L.t199; have a25 := L.a199; have z25 := L.z199; have v25 := L.v199
  have u22 := run_underlying L.t23
  have F := L.g218
  have eg : ∀ args w, (callFunc 264 args).run P w = .ok (.enter 264 args) w := enters_of L.g264 (by kernel_rfl) rfl
  have HS := Lib.hid (fun (a b n m0 : Nat) (A B N : Int) (dk0 : Array α) (os0 : Array Obj) hs0 ha hb hA hB hN => swaps264i L hk h1 blk off cap a b n m0 A B N fv d dk0 os0 w hH hblk hs0 ha hb hsz hA hB hN)
  clear hH hk h1 L
  go_enter F, Tryz.ntmps218
  clear F
  go_wp2
  go_loopg [10, 11] (b - a) (fun g1 vi vj wr => ∃ (i j n : Nat) (dk : Array α) (os : Array Obj), vi = .int .i64 i ∧ vj = .int .i64 j ∧ 0 < i ∧ 0 < j ∧ i ≤ m - a ∧ j ≤ b - m ∧ i + j ≤ g1 ∧ Rea dk0 dk ∧ wr = sortWorldK enc k w blk off n dk os)
  case atStart => exact ⟨m - a, b - m, m0, dk0, os0, by congr 1; omega, by congr 1; omega, by omega, by omega, by omega, by omega, by omega, Rea.refl _, rfl⟩
  case round =>
    obtain ⟨i, j, n, dk, os, rfl, rfl, hi, hj, hia, hjb, hg1, hR, rfl⟩ := hrel
    have HR := Lib.hid hR
    have hsk : dk.size = d.size := hR.1.trans hs0
    clear hR
    by_cases hij : i = j
    · subst hij
      have d0 : ((i : Int) != (i : Int)) = false := by simp
      go_wp2_with (go_at_call 264; (with_reducible refine (HS.out (m - i) m i n _ _ _ dk os hsk (by omega) (by omega) (by omega) rfl rfl).mono ?_); rintro e w' ⟨rfl, n2, d2, os2, hr2, rfl⟩)
      go_end0
      exact ⟨rfl, n2, d2, os2, HR.out.trans hr2, rfl⟩
    · have d0 : ((i : Int) != (j : Int)) = true := by simp; omega
      by_cases hgt : j < i
      · have d1 : (j : Int) < (i : Int) := by omega
        go_wp2_with (go_at_call 264; (with_reducible refine (HS.out (m - i) m j n _ _ _ dk os hsk (by omega) (by omega) (by omega) rfl rfl).mono ?_); rintro e w' ⟨rfl, n2, d2, os2, hr2, rfl⟩)
        go_roundg (i - j + j)
        case measure => omega
        case rel => exact ⟨i - j, j, n2, d2, os2, by congr 1; omega, rfl, by omega, by omega, by omega, by omega, by omega, HR.out.trans hr2, rfl⟩
      · have d1 : ¬ (j : Int) < (i : Int) := by omega
        go_wp2_with (go_at_call 264; (with_reducible refine (HS.out (m - i) (m + j - i) i n _ _ _ dk os hsk (by omega) (by omega) (by omega) (by omega) rfl).mono ?_); rintro e w' ⟨rfl, n2, d2, os2, hr2, rfl⟩)
        go_roundg (i + (j - i))
        case measure => omega
        case rel => exact ⟨i, j - i, n2, d2, os2, rfl, by congr 1; omega, by omega, by omega, by omega, by omega, by omega, HR.out.trans hr2, rfl⟩
end
section
variable {P : Program} {α : Type} [Inhabited α] {enc : α → List Value} {k : Nat}
/-- What is asked of the order, in every world that the sort passes through. -/
def CmpL (P : Program) (g : Nat) (cb : Array Value) (enc : α → List Value) (k : Nat) (cf : α → α → Int) (blk off size : Nat) (w : World) : Prop :=
  ∀ (m : Nat) (os : Array Obj) (dk : Array α), dk.size = size → ∀ x y : α,
    Calls P g (#[.agg (enc x).toArray, .agg (enc y).toArray] ++ cb) (sortWorldK enc k w blk off m dk os) fun e w' => e = .returned (.int .i64 (cf x y)) ∧ ∃ q os', w' = grow ((sortWorldK enc k w blk off m dk os).drewN q) os'
/-- The loads and the call of a test in the sort. -/
theorem cmp_facts (hk : ∀ x, (enc x).length = k) {g : Nat} {cb : Array Value} {cf : α → α → Int} {blk off m : Nat} {d dj : Array α} {oj : Array Obj} {w : World} (hH : HoldsK enc k w blk off d) (hblk : blk < w.heap.size) (hsj : dj.size = d.size) (hcmp : CmpL P g cb enc k cf blk off d.size w) (p q : Nat) (hp : p < d.size) (hq : q < d.size) :
    (∀ n' os', Sem.run P (loadCellsFrom ⟨blk, off + p * k, none⟩ 0 k #[]) (grow ((sortWorldK enc k w blk off m dj oj).drewN n') os') = .ok (enc dj[p]!).toArray (grow ((sortWorldK enc k w blk off m dj oj).drewN n') os')) ∧
    (∀ n' os', Sem.run P (loadCellsFrom ⟨blk, off + q * k, none⟩ 0 k #[]) (grow ((sortWorldK enc k w blk off m dj oj).drewN n') os') = .ok (enc dj[q]!).toArray (grow ((sortWorldK enc k w blk off m dj oj).drewN n') os')) ∧
    (∀ n' os', Calls P g (#[.agg (enc dj[p]!).toArray, .agg (enc dj[q]!).toArray] ++ cb) (grow ((sortWorldK enc k w blk off m dj oj).drewN n') os') fun e w' => e = .returned (.int .i64 (cf dj[p]! dj[q]!)) ∧ ∃ q os'', w' = grow ((grow ((sortWorldK enc k w blk off m dj oj).drewN n') os').drewN q) os'') ∧
    (∀ n' os', grow ((sortWorldK enc k w blk off m dj oj).drewN n') os' = sortWorldK enc k w blk off (m + n') dj (oj ++ os')) := by
  have hcls : ∀ n' os', grow ((sortWorldK enc k w blk off m dj oj).drewN n') os' = sortWorldK enc k w blk off (m + n') dj (oj ++ os') := fun n' os' => sortWorldK_grown_c enc k w blk off m n' dj oj os'
  have hHc : ∀ n' os', HoldsK enc k (grow ((sortWorldK enc k w blk off m dj oj).drewN n') os') blk off dj := fun n' os' => by rw [hcls]; exact holdsK_sortWorldK_c enc k w blk off d dj _ _ hH hblk hsj
  exact ⟨fun n' os' => run_loadCellsFrom_list P _ _ _ k (hk _) (HoldsK.cells (hHc n' os') hk (by omega)), fun n' os' => run_loadCellsFrom_list P _ _ _ k (hk _) (HoldsK.cells (hHc n' os') hk (by omega)), fun n' os' => by rw [hcls]; exact hcmp _ _ dj hsj _ _, hcls⟩
set_option maxHeartbeats 8000000 in
set_option maxRecDepth 1000000 in
theorem merge173 (L : SrtL P k) (hk : ∀ x, (enc x).length = k) (h1 : ∀ x, ∀ v ∈ enc x, v.oneCell' = true) (cf : α → α → Int) (g : Nat) (cb : Array Value) (blk off cap : Nat) (d : Array α) (w : World)
    (eg : ∀ args w, (callFunc g args).run P w = .ok (.enter g args) w) (hcmp : CmpL P g cb enc k cf blk off d.size w) (hH : HoldsK enc k w blk off d) (hblk : blk < w.heap.size) (hsz : d.size < 4611686018427387904) :
    ∀ (gas a m b m0 : Nat) (A M B : Int) (dk0 : Array α) (os0 : Array Obj), b ≤ a + gas → dk0.size = d.size → a < m → m < b → b ≤ d.size → A = (a : Int) → M = (m : Int) → B = (b : Int) →
    Calls P 173 #[.slice (some ⟨blk, off, none⟩) d.size cap, .int .i64 A, .int .i64 M, .int .i64 B, .func (.func g) #[] cb] (sortWorldK enc k w blk off m0 dk0 os0) (ReaPost enc k w blk off dk0) := by
  have mixed := L.mixed; have t0 := L.t0; have a0 := L.a0; have z0 := L.z0; have v0 := L.v0; have t3 := L.t3; have a3 := L.a3; have z3 := L.z3; have v3 := L.v3; have t4 := L.t4; have a4 := L.a4; have z4 := L.z4; have v4 := L.v4; have t22 := L.t23; have a22 := L.a23; have z22 := L.z23; have v22 := L.v23; have t25 := L.t199; have a25 := L.a199; have z25 := L.z199; have v25 := L.v199; have aE := L.aE; have zE := L.zE; have t214 := L.t214; have a214 := L.a214; have z214 := L.z214; have v214 := L.v214
  have u22 := run_underlying L.t23
  have uu := run_underlying L.t214
  have F := L.g173
  have eg1 : ∀ args w, (callFunc 218 args).run P w = .ok (.enter 218 args) w := enters_of L.g218 (by kernel_rfl) rfl
  have eg2 : ∀ args w, (callFunc 173 args).run P w = .ok (.enter 173 args) w := enters_of L.g173 (by kernel_rfl) rfl
  have HRO := Lib.hid (fun (a m b m0 : Nat) (dk0 : Array α) (os0 : Array Obj) hs0 ham hmb hb => rotate218 L hk h1 blk off cap a m b m0 (.func (.func g) #[] cb) d dk0 os0 w hH hblk hs0 ham hmb hb hsz)
  have HH := Lib.hid hH
  have HK := Lib.hid hk
  have H1 := Lib.hid h1
  have HC := Lib.hid hcmp
  clear hH hk h1 hcmp L
  intro gas
  induction gas with
  | zero => intro a m b m0 A M B dk0 os0 h1 h2 h3 h4; omega
  | succ gas ih =>
  intro a m b m0 A M B dk0 os0 hgas hs0 ham hmb hb hA hM hB
  subst hA hM hB
  have IH := Lib.hid ih
  clear ih
  by_cases hc1 : m = a + 1
  · subst hc1
    have d0 : (((a : Int) + 1) - (a : Int) == 1) = true := by simp; omega
    have d0' : (((a : Int) + 1) - (a : Int)) = 1 := by omega
    go_enter F, Tryz.ntmps173
    clear F
    go_wp2
    go_loopg [10, 11] (b - (a + 1)) (fun g1 vi vj wr => ∃ (i j n : Nat) (os : Array Obj), vi = .int .i64 i ∧ vj = .int .i64 j ∧ a + 1 ≤ i ∧ i ≤ j ∧ j ≤ b ∧ j - i ≤ g1 ∧ wr = sortWorldK enc k w blk off n dk0 os)
    case atStart => exact ⟨a + 1, b, m0, os0, by congr 1, rfl, by omega, by omega, by omega, by omega, rfl⟩
    case round =>
      obtain ⟨i, j, n, os, rfl, rfl, hai, hij, hjb, hg1, rfl⟩ := hrel
      by_cases hlt : i < j
      · have hltz : (i : Int) < (j : Int) := by omega
        obtain ⟨h, hh⟩ : ∃ h, (i + j) / 2 = h := ⟨_, rfl⟩
        have hh1 : i ≤ h ∧ h < j := by omega
        have hhz : ((i : Int) + (j : Int)) / 2 = (h : Int) := by omega
        have hz : (h : Int) < (d.size : Int) := by omega
        have h0 : (0 : Int) ≤ (h : Int) := by omega
        have az : (a : Int) < (d.size : Int) := by omega
        have a0' : (0 : Int) ≤ (a : Int) := by omega
        obtain ⟨l1, l2, hcg, CL⟩ := cmp_facts (P := P) (m := n) (oj := os) (dj := dk0) HK.out HH.out hblk hs0 HC.out h a (by omega) (by omega)
        have CLS := Lib.hid CL
        clear CL
        generalize sortWorldK enc k w blk off n dk0 os = W at *
        generalize hx : cf dk0[h]! dk0[a]! = r at *
        generalize (enc dk0[h]!).toArray = x1 at *
        generalize (enc dk0[a]!).toArray = x2 at *
        clear hh hx
        by_cases hr : r < 0
        · go_wp2_with fail
          go_quiet_grown (first | (go_at_fn g; refine Calls.grown_of (hcg _ _)))
          go_wp2_with fail
          go_roundg (j - (h + 1))
          case measure => omega
          case rel => exact ⟨h + 1, j, _, _, by go_num, rfl, by omega, by omega, by omega, by omega, CLS.out nq osq⟩
        · have hr2 : decide (r < 0) = false := by simpa using hr
          go_wp2_with fail
          go_quiet_grown (first | (go_at_fn g; refine Calls.grown_of (hcg _ _)))
          go_wp2_with fail
          go_roundg (h - i)
          case measure => omega
          case rel => exact ⟨i, h, _, _, rfl, rfl, by omega, by omega, by omega, by omega, CLS.out nq osq⟩
      · have hltz : ¬ (i : Int) < (j : Int) := by omega
        have hije : i = j := by omega
        go_wp2
        go_loopg [13] (i - 1 - a) (fun g2 vi wr => ∃ (x n2 : Nat) (dk : Array α) (os2 : Array Obj), vi = .int .i64 x ∧ a ≤ x ∧ x ≤ i - 1 ∧ i - 1 - x ≤ g2 ∧ Rea dk0 dk ∧ wr = sortWorldK enc k w blk off n2 dk os2)
        case atStart => exact ⟨a, n, dk0, os, rfl, by omega, by omega, by omega, Rea.refl _, rfl⟩
        case round =>
          obtain ⟨x, n2, dk, os2, rfl, hax, hxi, hg2, hR, rfl⟩ := hrel
          have HR := Lib.hid hR
          have hsk : dk.size = d.size := hR.1.trans hs0
          clear hR
          by_cases hlt2 : x < i - 1
          · have hlt2z : (x : Int) < (i : Int) - 1 := by omega
            have p0 : (0 : Int) ≤ (x : Int) := by omega
            have q0 : (0 : Int) ≤ (x : Int) + 1 := by omega
            have pz : (x : Int) < (d.size : Int) := by omega
            have qz : (x : Int) + 1 < (d.size : Int) := by omega
            have e2 : ((x : Int) + 1).toNat = x + 1 := by omega
            obtain ⟨l1, l2, s1, s2⟩ := swp_facts (P := P) HK.out H1.out (show HoldsK enc k (sortWorldK enc k w blk off n2 dk os2).drew blk off dk from holdsK_sortWorldK_c enc k w blk off d dk _ _ HH.out hblk hsk) x (x + 1) (by omega) (by omega)
            have HSW := Lib.hid (sortWorldK_swp_c enc k w blk off HK.out n2 dk os2 hblk x (x + 1) (by omega) (by omega))
            have HRS := Lib.hid (HR.out.swp x (x + 1) (by omega) (by omega))
            have hl1 : (enc dk[x]!).length = k := HK.out _
            have hl2 : (enc dk[(x + 1)]!).length = k := HK.out _
            generalize sortWorldK enc k w blk off n2 dk os2 = W at *
            generalize enc dk[x]! = x1 at *
            generalize enc dk[(x + 1)]! = x2 at *
            go_wp2
            go_big_region_o
            all_goals go_wp2
            go_roundg (i - 1 - (x + 1))
            case measure => omega
            case rel => exact ⟨x + 1, n2 + 1, _, os2, by go_num, by omega, by omega, by omega, HRS.out, HSW.out⟩
          · have hlt2z : ¬ (x : Int) < (i : Int) - 1 := by omega
            go_wp2
            go_end0
            exact ⟨rfl, n2, dk, os2, HR.out, rfl⟩
  have d1 : ((m : Int) - (a : Int) == 1) = false := by simp; omega
  by_cases hc2 : b = m + 1
  · subst hc2
    have d0 : (((m : Int) + 1) - (m : Int) == 1) = true := by simp; omega
    have d0' : (((m : Int) + 1) - (m : Int)) = 1 := by omega
    go_enter F, Tryz.ntmps173
    clear F
    go_wp2
    go_loopg [14, 15] (m - (a)) (fun g1 vi vj wr => ∃ (i j n : Nat) (os : Array Obj), vi = .int .i64 i ∧ vj = .int .i64 j ∧ a ≤ i ∧ i ≤ j ∧ j ≤ m ∧ j - i ≤ g1 ∧ wr = sortWorldK enc k w blk off n dk0 os)
    case atStart => exact ⟨a, m, m0, os0, rfl, rfl, by omega, by omega, by omega, by omega, rfl⟩
    case round =>
      obtain ⟨i, j, n, os, rfl, rfl, hai, hij, hjb, hg1, rfl⟩ := hrel
      by_cases hlt : i < j
      · have hltz : (i : Int) < (j : Int) := by omega
        obtain ⟨h, hh⟩ : ∃ h, (i + j) / 2 = h := ⟨_, rfl⟩
        have hh1 : i ≤ h ∧ h < j := by omega
        have hhz : ((i : Int) + (j : Int)) / 2 = (h : Int) := by omega
        have hz : (h : Int) < (d.size : Int) := by omega
        have h0 : (0 : Int) ≤ (h : Int) := by omega
        have az : (m : Int) < (d.size : Int) := by omega
        have a0' : (0 : Int) ≤ (m : Int) := by omega
        obtain ⟨l1, l2, hcg, CL⟩ := cmp_facts (P := P) (m := n) (oj := os) (dj := dk0) HK.out HH.out hblk hs0 HC.out m h (by omega) (by omega)
        have CLS := Lib.hid CL
        clear CL
        generalize sortWorldK enc k w blk off n dk0 os = W at *
        generalize hx : cf dk0[m]! dk0[h]! = r at *
        generalize (enc dk0[m]!).toArray = x1 at *
        generalize (enc dk0[h]!).toArray = x2 at *
        clear hh hx
        by_cases hr : r < 0
        · go_wp2_with fail
          go_quiet_grown (first | (go_at_fn g; refine Calls.grown_of (hcg _ _)))
          go_wp2_with fail
          go_roundg (h - i)
          case measure => omega
          case rel => exact ⟨i, h, _, _, rfl, rfl, by omega, by omega, by omega, by omega, CLS.out nq osq⟩
        · have hr2 : decide (r < 0) = false := by simpa using hr
          go_wp2_with fail
          go_quiet_grown (first | (go_at_fn g; refine Calls.grown_of (hcg _ _)))
          go_wp2_with fail
          go_roundg (j - (h + 1))
          case measure => omega
          case rel => exact ⟨h + 1, j, _, _, by go_num, rfl, by omega, by omega, by omega, by omega, CLS.out nq osq⟩
      · have hltz : ¬ (i : Int) < (j : Int) := by omega
        have hije : i = j := by omega
        go_wp2
        go_loopg [17] (m - i) (fun g2 vi wr => ∃ (x n2 : Nat) (dk : Array α) (os2 : Array Obj), vi = .int .i64 x ∧ i ≤ x ∧ x ≤ m ∧ x - i ≤ g2 ∧ Rea dk0 dk ∧ wr = sortWorldK enc k w blk off n2 dk os2)
        case atStart => exact ⟨m, n, dk0, os, rfl, by omega, by omega, by omega, Rea.refl _, rfl⟩
        case round =>
          obtain ⟨x, n2, dk, os2, rfl, hax, hxi, hg2, hR, rfl⟩ := hrel
          have HR := Lib.hid hR
          have hsk : dk.size = d.size := hR.1.trans hs0
          clear hR
          by_cases hlt2 : i < x
          · obtain ⟨y, rfl⟩ : ∃ y, x = y + 1 := ⟨x - 1, by omega⟩
            have hlt2z : (i : Int) < (y : Int) + 1 := by omega
            have p0 : (0 : Int) ≤ (y : Int) := by omega
            have q0 : (0 : Int) ≤ (y : Int) + 1 := by omega
            have pz : (y : Int) < (d.size : Int) := by omega
            have qz : (y : Int) + 1 < (d.size : Int) := by omega
            have e2 : ((y : Int) + 1).toNat = y + 1 := by omega
            have hwp : IntKind.i64.wrap (y : Int) = (y : Int) := by rw [IntKind.wrap_i64]; omega
            obtain ⟨l1, l2, s1, s2⟩ := swp_facts (P := P) HK.out H1.out (show HoldsK enc k (sortWorldK enc k w blk off n2 dk os2).drew blk off dk from holdsK_sortWorldK_c enc k w blk off d dk _ _ HH.out hblk hsk) (y + 1) y (by omega) (by omega)
            have HSW := Lib.hid (sortWorldK_swp_c enc k w blk off HK.out n2 dk os2 hblk (y + 1) y (by omega) (by omega))
            have HRS := Lib.hid (HR.out.swp (y + 1) y (by omega) (by omega))
            have hl1 : (enc dk[(y + 1)]!).length = k := HK.out _
            have hl2 : (enc dk[y]!).length = k := HK.out _
            generalize sortWorldK enc k w blk off n2 dk os2 = W at *
            generalize enc dk[(y + 1)]! = x1 at *
            generalize enc dk[y]! = x2 at *
            go_wp2
            go_big_region_o
            all_goals go_wp2
            go_roundg (y - i)
            case measure => omega
            case rel => exact ⟨y, n2 + 1, _, os2, (by first | rfl | go_num | (congr 1; omega)), by omega, by omega, by omega, HRS.out, HSW.out⟩
          · have hlt2z : ¬ (i : Int) < (x : Int) := by omega
            go_wp2
            go_end0
            exact ⟨rfl, n2, dk, os2, HR.out, rfl⟩
  have d2 : ((b : Int) - (m : Int) == 1) = false := by simp; omega
  obtain ⟨mid, hmid⟩ : ∃ mid, (a + b) / 2 = mid := ⟨_, rfl⟩
  have hmz : ((a : Int) + (b : Int)) / 2 = (mid : Int) := by omega
  have hm1 : 2 * mid ≤ a + b ∧ a + b ≤ 2 * mid + 1 := by omega
  clear hmid
  by_cases hmm : mid < m
  · have hmmz : (mid : Int) < (m : Int) := by omega
    obtain ⟨s0, hs00⟩ : ∃ s0, mid + m - b = s0 := ⟨_, rfl⟩
    have hs0z : (mid : Int) + (m : Int) - (b : Int) = (s0 : Int) := by omega
    have hs01 : a ≤ s0 ∧ s0 ≤ mid ∧ s0 + b = mid + m := by omega
    clear hs00
    go_enter F, Tryz.ntmps173
    clear F
    go_wp2
    go_loopg [20, 21] (mid - s0) (fun g1 vi vj wr => ∃ (i j n : Nat) (os : Array Obj), vi = .int .i64 i ∧ vj = .int .i64 j ∧ s0 ≤ i ∧ i ≤ j ∧ j ≤ mid ∧ j - i ≤ g1 ∧ wr = sortWorldK enc k w blk off n dk0 os)
    case atStart => exact ⟨s0, mid, m0, os0, rfl, rfl, by omega, by omega, by omega, by omega, rfl⟩
    case round =>
      obtain ⟨i, j, n, os, rfl, rfl, hai, hij, hjb, hg1, rfl⟩ := hrel
      by_cases hlt : i < j
      · have hltz : (i : Int) < (j : Int) := by omega
        obtain ⟨h, hh⟩ : ∃ h, (i + j) / 2 = h := ⟨_, rfl⟩
        have hh1 : i ≤ h ∧ h < j := by omega
        have hhz : ((i : Int) + (j : Int)) / 2 = (h : Int) := by omega
        obtain ⟨q, hq⟩ : ∃ q, mid + m - 1 - h = q := ⟨_, rfl⟩
        have hqz : (mid : Int) + (m : Int) - 1 - (h : Int) = (q : Int) := by omega
        have hqd : q < d.size := by omega
        have hwq : IntKind.i64.wrap (q : Int) = (q : Int) := by rw [IntKind.wrap_i64]; omega
        have hz : (h : Int) < (d.size : Int) := by omega
        have h0 : (0 : Int) ≤ (h : Int) := by omega
        have az : (q : Int) < (d.size : Int) := by omega
        have a0' : (0 : Int) ≤ (q : Int) := by omega
        clear hq
        obtain ⟨l1, l2, hcg, CL⟩ := cmp_facts (P := P) (m := n) (oj := os) (dj := dk0) HK.out HH.out hblk hs0 HC.out q h (by omega) (by omega)
        have CLS := Lib.hid CL
        clear CL
        generalize sortWorldK enc k w blk off n dk0 os = W at *
        generalize hx : cf dk0[q]! dk0[h]! = r at *
        generalize (enc dk0[q]!).toArray = x1 at *
        generalize (enc dk0[h]!).toArray = x2 at *
        clear hh hx
        by_cases hr : r < 0
        · go_wp2_with fail
          go_quiet_grown (first | (go_at_fn g; refine Calls.grown_of (hcg _ _)))
          go_wp2_with fail
          go_roundg (h - i)
          case measure => omega
          case rel => exact ⟨i, h, _, _, rfl, rfl, by omega, by omega, by omega, by omega, CLS.out nq osq⟩
        · have hr2 : decide (r < 0) = false := by simpa using hr
          go_wp2_with fail
          go_quiet_grown (first | (go_at_fn g; refine Calls.grown_of (hcg _ _)))
          go_wp2_with fail
          go_roundg (j - (h + 1))
          case measure => omega
          case rel => exact ⟨h + 1, j, _, _, by go_num, rfl, by omega, by omega, by omega, by omega, CLS.out nq osq⟩
      · have hltz : ¬ (i : Int) < (j : Int) := by omega
        obtain ⟨en, hen⟩ : ∃ en, mid + m - i = en := ⟨_, rfl⟩
        have henz : (mid : Int) + (m : Int) - (i : Int) = (en : Int) := by omega
        have he1 : en ≤ b := by omega
        have he2 : mid ≤ en ∨ m ≤ en := by omega
        have hR0 : Rea dk0 dk0 := Rea.refl _
        have hu1 : (a : Int) < (i : Int) ∨ decide ((a : Int) < (i : Int)) = false := by simp; omega
        have hu2 : (en : Int) < (b : Int) ∨ decide ((en : Int) < (b : Int)) = false := by simp; omega
        clear hen he2
        have hu : ((i : Int) < (m : Int) ∧ (m : Int) < (en : Int) ∧ (i : Int) < (mid : Int) ∧ (mid : Int) < (en : Int)) ∨ ((i : Int) < (m : Int) ∧ decide ((m : Int) < (en : Int)) = false ∧ decide ((i : Int) < (mid : Int)) = false ∧ (mid : Int) < (en : Int)) := by simp; omega
        rcases hu with ⟨c1, c2, c3, c4⟩ | ⟨c1, c2, c3, c4⟩ <;> rcases hu1 with u1 | u1 <;> rcases hu2 with u2 | u2
        all_goals go_wp2_with (first
          | (go_at_call 218; (with_reducible refine (HRO.out i m en _ _ _ (by assumption) (by omega) (by omega) (by omega)).mono ?_); rintro e w' ⟨rfl, n2, d2, os2, hr2, rfl⟩; have hr3 := Rea.trans (show Rea dk0 _ by assumption) hr2; have hs3 := hr3.1.trans hs0; clear hr2)
          | (go_at_call 173; (with_reducible refine (IH.out a i mid _ _ _ _ _ _ (by omega) (by assumption) (by omega) (by omega) (by omega) (by rfl) (by rfl) (by rfl)).mono ?_); rintro e w' ⟨rfl, n2, d2, os2, hr2, rfl⟩; have hr3 := Rea.trans (show Rea dk0 _ by assumption) hr2; have hs3 := hr3.1.trans hs0; clear hr2)
          | (go_at_call 173; (with_reducible refine (IH.out mid en b _ _ _ _ _ _ (by omega) (by assumption) (by omega) (by omega) (by omega) (by rfl) (by rfl) (by rfl)).mono ?_); rintro e w' ⟨rfl, n2, d2, os2, hr2, rfl⟩; have hr3 := Rea.trans (show Rea dk0 _ by assumption) hr2; have hs3 := hr3.1.trans hs0; clear hr2))
        all_goals (go_end0; exact ⟨rfl, _, _, _, by assumption, rfl⟩)
  · have hmmz : ¬ (mid : Int) < (m : Int) := by omega
    go_enter F, Tryz.ntmps173
    clear F
    go_wp2
    go_loopg [20, 21] (m - a) (fun g1 vi vj wr => ∃ (i j n : Nat) (os : Array Obj), vi = .int .i64 i ∧ vj = .int .i64 j ∧ a ≤ i ∧ i ≤ j ∧ j ≤ m ∧ j - i ≤ g1 ∧ wr = sortWorldK enc k w blk off n dk0 os)
    case atStart => exact ⟨a, m, m0, os0, rfl, rfl, by omega, by omega, by omega, by omega, rfl⟩
    case round =>
      obtain ⟨i, j, n, os, rfl, rfl, hai, hij, hjb, hg1, rfl⟩ := hrel
      by_cases hlt : i < j
      · have hltz : (i : Int) < (j : Int) := by omega
        obtain ⟨h, hh⟩ : ∃ h, (i + j) / 2 = h := ⟨_, rfl⟩
        have hh1 : i ≤ h ∧ h < j := by omega
        have hhz : ((i : Int) + (j : Int)) / 2 = (h : Int) := by omega
        obtain ⟨q, hq⟩ : ∃ q, mid + m - 1 - h = q := ⟨_, rfl⟩
        have hqz : (mid : Int) + (m : Int) - 1 - (h : Int) = (q : Int) := by omega
        have hqd : q < d.size := by omega
        have hwq : IntKind.i64.wrap (q : Int) = (q : Int) := by rw [IntKind.wrap_i64]; omega
        have hz : (h : Int) < (d.size : Int) := by omega
        have h0 : (0 : Int) ≤ (h : Int) := by omega
        have az : (q : Int) < (d.size : Int) := by omega
        have a0' : (0 : Int) ≤ (q : Int) := by omega
        clear hq
        obtain ⟨l1, l2, hcg, CL⟩ := cmp_facts (P := P) (m := n) (oj := os) (dj := dk0) HK.out HH.out hblk hs0 HC.out q h (by omega) (by omega)
        have CLS := Lib.hid CL
        clear CL
        generalize sortWorldK enc k w blk off n dk0 os = W at *
        generalize hx : cf dk0[q]! dk0[h]! = r at *
        generalize (enc dk0[q]!).toArray = x1 at *
        generalize (enc dk0[h]!).toArray = x2 at *
        clear hh hx
        by_cases hr : r < 0
        · go_wp2_with fail
          go_quiet_grown (first | (go_at_fn g; refine Calls.grown_of (hcg _ _)))
          go_wp2_with fail
          go_roundg (h - i)
          case measure => omega
          case rel => exact ⟨i, h, _, _, rfl, rfl, by omega, by omega, by omega, by omega, CLS.out nq osq⟩
        · have hr2 : decide (r < 0) = false := by simpa using hr
          go_wp2_with fail
          go_quiet_grown (first | (go_at_fn g; refine Calls.grown_of (hcg _ _)))
          go_wp2_with fail
          go_roundg (j - (h + 1))
          case measure => omega
          case rel => exact ⟨h + 1, j, _, _, by go_num, rfl, by omega, by omega, by omega, by omega, CLS.out nq osq⟩
      · have hltz : ¬ (i : Int) < (j : Int) := by omega
        obtain ⟨en, hen⟩ : ∃ en, mid + m - i = en := ⟨_, rfl⟩
        have henz : (mid : Int) + (m : Int) - (i : Int) = (en : Int) := by omega
        have he1 : en ≤ b := by omega
        have he2 : mid ≤ en ∨ m ≤ en := by omega
        have hR0 : Rea dk0 dk0 := Rea.refl _
        have hu1 : (a : Int) < (i : Int) ∨ decide ((a : Int) < (i : Int)) = false := by simp; omega
        have hu2 : (en : Int) < (b : Int) ∨ decide ((en : Int) < (b : Int)) = false := by simp; omega
        clear hen he2
        have hu : ((i : Int) < (m : Int) ∧ (m : Int) < (en : Int) ∧ (i : Int) < (mid : Int) ∧ (mid : Int) < (en : Int)) ∨ (decide ((i : Int) < (m : Int)) = false ∧ True ∧ (decide ((i : Int) < (mid : Int)) = false ∨ (i : Int) < (mid : Int)) ∧ decide ((mid : Int) < (en : Int)) = false) := by simp; omega
        rcases hu with ⟨c1, c2, c3, c4⟩ | ⟨c1, c2, (c3 | c3), c4⟩ <;> rcases hu1 with u1 | u1 <;> rcases hu2 with u2 | u2
        all_goals go_wp2_with (first
          | (go_at_call 218; (with_reducible refine (HRO.out i m en _ _ _ (by assumption) (by omega) (by omega) (by omega)).mono ?_); rintro e w' ⟨rfl, n2, d2, os2, hr2, rfl⟩; have hr3 := Rea.trans (show Rea dk0 _ by assumption) hr2; have hs3 := hr3.1.trans hs0; clear hr2)
          | (go_at_call 173; (with_reducible refine (IH.out a i mid _ _ _ _ _ _ (by omega) (by assumption) (by omega) (by omega) (by omega) (by rfl) (by rfl) (by rfl)).mono ?_); rintro e w' ⟨rfl, n2, d2, os2, hr2, rfl⟩; have hr3 := Rea.trans (show Rea dk0 _ by assumption) hr2; have hs3 := hr3.1.trans hs0; clear hr2)
          | (go_at_call 173; (with_reducible refine (IH.out mid en b _ _ _ _ _ _ (by omega) (by assumption) (by omega) (by omega) (by omega) (by rfl) (by rfl) (by rfl)).mono ?_); rintro e w' ⟨rfl, n2, d2, os2, hr2, rfl⟩; have hr3 := Rea.trans (show Rea dk0 _ by assumption) hr2; have hs3 := hr3.1.trans hs0; clear hr2))
        all_goals (go_end0; exact ⟨rfl, _, _, _, by assumption, rfl⟩)
end
end Go.Proofs.YthkmpegpmpdhaaaGreatDoor
