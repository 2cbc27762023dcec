/- Part of the proof of x. Conditions: as stated in each theorem. -/
import Derived.Test.YthkmpegpmpdhaaaGreatDoorZE
import Derived.Test.YthkmpegpmpdhaaaGreatDoorProg
import Derived.Shelf.Strconv.Itoa3
import Derived.Shelf.Strings.OnBuilder
import Derived.Ground.NamesProg
import Derived.Shelf.Lay
import Derived.Lib.ItoaLen
import Derived.WalkKit
import Derived.WalkSpells
import Derived.WalkLawsBesides
import Derived.Laws.EntriesVeiled
import Derived.ProofKit
import Derived.OpenShut
import Derived.Lib.Hide
import Derived.BigQuiet
import Derived.Deep.QuietTactic
import Derived.Deep.CutRange
import Derived.StillTailTactics
import Derived.Lib.SliceRun
import Derived.RangeFuncRecord
import Derived.Carry
import Derived.ChangeKeysEq
import Derived.Below
import Derived.Laws.OwnMore
import Derived.Deep.AppendLies
import Derived.Deep.Draws
import Derived.Laws.Rows
import Derived.Maps.AppendAt
import Derived.RegionTactic
import Derived.OwnWalk
import Derived.Deep.RegionHeld3
namespace Go.Proofs.YthkmpegpmpdhaaaGreatDoor
open Go.ChangeShapes Go.WideShapes Go.ChangeAt Go.RowKit
set_option linter.unusedSimpArgs false
set_option linter.unusedVariables false
open Go.Shelf Go.Sort
def Tryz.itoa171_ren : Go.Shelf.Ren := ⟨fun | 171 => 109 | 243 => 148 | 246 => 187 | 283 => 224 | 284 => 225 | 285 => 226 | 286 => 227 | 129 => 163 | 317 => 267 | 318 => 268 | 319 => 269 | 320 => 270 | 337 => 280 | 338 => 281 | n => n, fun | 3 => 3 | 9 => 9 | 2 => 2 | 4 => 4 | 171 => 306 | 0 => 0 | 53 => 257 | 37 => 236 | 5 => 5 | 173 => 308 | 212 => 337 | 51 => 255 | 20 => 20 | 213 => 338 | 46 => 214 | 232 => 346 | 233 => 347 | n => n, fun | 17 => 0 | 18 => 3 | 19 => 4 | n => n⟩
theorem Tryz.itoa171 : Go.Proofs.LaysM.n171 Tryz.prog Tryz.itoa171_ren := {
  mixed := by kernel_rfl
  f129 := Tryz.func163.trans (congrArg some (by kernel_rfl))
  f171 := Tryz.func109.trans (congrArg some (by kernel_rfl))
  f243 := Tryz.func148.trans (congrArg some (by kernel_rfl))
  f246 := Tryz.func187.trans (congrArg some (by kernel_rfl))
  f283 := Tryz.func224.trans (congrArg some (by kernel_rfl))
  f284 := Tryz.func225.trans (congrArg some (by kernel_rfl))
  f285 := Tryz.func226.trans (congrArg some (by kernel_rfl))
  f286 := Tryz.func227.trans (congrArg some (by kernel_rfl))
  f317 := Tryz.func267.trans (congrArg some (by kernel_rfl))
  f318 := Tryz.func268.trans (congrArg some (by kernel_rfl))
  f319 := Tryz.func269.trans (congrArg some (by kernel_rfl))
  f320 := Tryz.func270.trans (congrArg some (by kernel_rfl))
  f337 := Tryz.func280.trans (congrArg some (by kernel_rfl))
  f338 := Tryz.func281.trans (congrArg some (by kernel_rfl))
  t0 := Tryz.underlying0
  a0 := Tryz.isAgg0
  z0 := Tryz.sizeOf0
  v0 := Tryz.zeroValue0
  t2 := Tryz.underlying2
  a2 := Tryz.isAgg2
  z2 := Tryz.sizeOf2
  v2 := Tryz.zeroValue2
  t3 := Tryz.underlying3
  a3 := Tryz.isAgg3
  z3 := Tryz.sizeOf3
  v3 := Tryz.zeroValue3
  t4 := Tryz.underlying4
  a4 := Tryz.isAgg4
  z4 := Tryz.sizeOf4
  v4 := Tryz.zeroValue4
  t5 := Tryz.underlying5
  a5 := Tryz.isAgg5
  z5 := Tryz.sizeOf5
  v5 := Tryz.zeroValue5
  t9 := Tryz.underlying9
  a9 := Tryz.isAgg9
  z9 := Tryz.sizeOf9
  v9 := Tryz.zeroValue9
  t20 := Tryz.underlying20
  a20 := Tryz.isAgg20
  z20 := Tryz.sizeOf20
  v20 := Tryz.zeroValue20
  t37 := Tryz.underlying236
  a37 := Tryz.isAgg236
  z37 := Tryz.sizeOf236
  v37 := Tryz.zeroValue236
  t46 := Tryz.underlying214
  a46 := Tryz.isAgg214
  z46 := Tryz.sizeOf214
  v46 := Tryz.zeroValue214
  t51 := Tryz.underlying255
  a51 := Tryz.isAgg255
  z51 := Tryz.sizeOf255
  v51 := Tryz.zeroValue255
  t53 := Tryz.underlying257
  a53 := Tryz.isAgg257
  z53 := Tryz.sizeOf257
  v53 := Tryz.zeroValue257
  t171 := Tryz.underlying306
  a171 := Tryz.isAgg306
  z171 := Tryz.sizeOf306
  v171 := Tryz.zeroValue306
  t173 := Tryz.underlying308
  a173 := Tryz.isAgg308
  z173 := Tryz.sizeOf308
  v173 := Tryz.zeroValue308
  t212 := Tryz.underlying337
  a212 := Tryz.isAgg337
  z212 := Tryz.sizeOf337
  v212 := Tryz.zeroValue337
  t213 := Tryz.underlying338
  a213 := Tryz.isAgg338
  z213 := Tryz.sizeOf338
  t232 := Tryz.underlying346
  a232 := Tryz.isAgg346
  z232 := Tryz.sizeOf346
  v232 := Tryz.zeroValue346
  t233 := Tryz.underlying347
  a233 := Tryz.isAgg347
  z233 := Tryz.sizeOf347
  v233 := Tryz.zeroValue347
  g17 := by kernel_rfl
  g18 := by kernel_rfl
  g19 := by kernel_rfl
  i0 := by kernel_rfl
  i2 := by kernel_rfl
  i3 := by kernel_rfl
  i4 := by kernel_rfl
  i5 := by kernel_rfl
  i9 := by kernel_rfl
  i20 := by kernel_rfl
  i37 := by kernel_rfl
  i46 := by kernel_rfl
  i51 := by kernel_rfl
  i53 := by kernel_rfl
  i171 := by kernel_rfl
  i173 := by kernel_rfl
  i212 := by kernel_rfl
  i232 := by kernel_rfl
  i233 := by kernel_rfl
  m17 := by kernel_rfl
  m18 := by kernel_rfl
  m19 := by kernel_rfl
}
def Tryz.join156_ren : Go.Shelf.Ren := ⟨fun | 156 => 110 | 165 => 149 | 166 => 150 | 169 => 151 | 240 => 188 | 241 => 189 | 276 => 228 | 277 => 229 | n => n, fun | 31 => 24 | 9 => 9 | 3 => 3 | 4 => 4 | 0 => 0 | 20 => 20 | 72 => 238 | 76 => 242 | 70 => 235 | 37 => 236 | 75 => 241 | 127 => 278 | 164 => 310 | 5 => 5 | 80 => 244 | n => n, fun | n => n⟩
theorem Tryz.join156 : Go.Proofs.Lays.n156 Tryz.prog Tryz.join156_ren := {
  mixed := by kernel_rfl
  f156 := Tryz.func110.trans (congrArg some (by kernel_rfl))
  f165 := Tryz.func149.trans (congrArg some (by kernel_rfl))
  f166 := Tryz.func150.trans (congrArg some (by kernel_rfl))
  f169 := Tryz.func151.trans (congrArg some (by kernel_rfl))
  f240 := Tryz.func188.trans (congrArg some (by kernel_rfl))
  f241 := Tryz.func189.trans (congrArg some (by kernel_rfl))
  f276 := Tryz.func228.trans (congrArg some (by kernel_rfl))
  f277 := Tryz.func229.trans (congrArg some (by kernel_rfl))
  t0 := Tryz.underlying0
  a0 := Tryz.isAgg0
  z0 := Tryz.sizeOf0
  v0 := Tryz.zeroValue0
  t3 := Tryz.underlying3
  a3 := Tryz.isAgg3
  z3 := Tryz.sizeOf3
  v3 := Tryz.zeroValue3
  t4 := Tryz.underlying4
  a4 := Tryz.isAgg4
  z4 := Tryz.sizeOf4
  v4 := Tryz.zeroValue4
  t9 := Tryz.underlying9
  a9 := Tryz.isAgg9
  z9 := Tryz.sizeOf9
  v9 := Tryz.zeroValue9
  t20 := Tryz.underlying20
  a20 := Tryz.isAgg20
  z20 := Tryz.sizeOf20
  v20 := Tryz.zeroValue20
  t31 := Tryz.underlying24
  a31 := Tryz.isAgg24
  z31 := Tryz.sizeOf24
  v31 := Tryz.zeroValue24
  t37 := Tryz.underlying236
  a37 := Tryz.isAgg236
  z37 := Tryz.sizeOf236
  v37 := Tryz.zeroValue236
  t70 := Tryz.underlying235
  a70 := Tryz.isAgg235
  z70 := Tryz.sizeOf235
  v70 := Tryz.zeroValue235
  t72 := Tryz.underlying238
  a72 := Tryz.isAgg238
  z72 := Tryz.sizeOf238
  v72 := Tryz.zeroValue238
  t75 := Tryz.underlying241
  a75 := Tryz.isAgg241
  z75 := Tryz.sizeOf241
  v75 := Tryz.zeroValue241
  t76 := Tryz.underlying242
  a76 := Tryz.isAgg242
  z76 := Tryz.sizeOf242
  v76 := Tryz.zeroValue242
  t127 := Tryz.underlying278
  a127 := Tryz.isAgg278
  z127 := Tryz.sizeOf278
  v127 := Tryz.zeroValue278
  t164 := Tryz.underlying310
  a164 := Tryz.isAgg310
  z164 := Tryz.sizeOf310
  v164 := Tryz.zeroValue310
}
theorem joinExtra : Builder.Extra Tryz.prog Tryz.join156_ren where
  sizeBuilder := by kernel_rfl
  liesBuilder := by kernel_rfl
  t5 := by kernel_rfl
  a5 := by intro w; kernel_rfl
  z5 := by intro w; kernel_rfl
  v5 := by intro w; kernel_rfl
  infoByte := by kernel_rfl
  cellsByte := by kernel_rfl
  sizeByte := by kernel_rfl
  neB5 := by decide
/-- The table of the powers of ten lies where it lay at the start. -/
def Tab (w : World) : Prop := Lib.TabIs Tryz.prog w "internal/strconv.uint64pow10" .u64 Lib.pow10Tab
theorem tab_global : Tryz.prog.globalNamed "internal/strconv.uint64pow10" = some 0 := by kernel_rfl
theorem Tab.of_block {w w' : World} (h : Tab w) (hb : w'.heap[0]? = w.heap[0]?) : Tab w' := by
  unfold Tab Lib.TabIs World.var? at *
  rw [tab_global] at *
  simp only [Option.bind_some] at *
  rw [hb]; exact h
theorem Tab.zero {w : World} (h : Tab w) : 0 < w.heap.size ∧ ¬ MapAt w 0 := by
  unfold Tab Lib.TabIs World.var? at h
  rw [tab_global] at h
  simp only [Option.bind_some] at h
  cases hb : w.heap[0]? with
  | none => rw [hb] at h; cases h
  | some o =>
    refine ⟨(Array.getElem?_eq_some_iff.1 hb).1, ?_⟩
    rintro ⟨es, cl, hm⟩
    rw [hm] at h
    cases h
theorem Tab.keep {w w' : World} (h : Tab w) (hk : Keeps w w') : Tab w' := h.of_block (hk.block 0 h.zero.1)
theorem Tab.grown {w w' : World} {r : Nat} (h : Tab w) (hr : MapAt w r) (hg : w.grownBy w' (some r)) : Tab w' :=
  h.of_block (hg.block 0 h.zero.1 (fun e => h.zero.2 (by cases e; exact hr)))
theorem keeps_grow (w : World) (k : Nat) (os : Array Obj) : Keeps w (grow (w.drewN k) os) :=
  ⟨rfl, rfl, rfl, by simp [grow], fun i hi => by
    simp only [grow]
    rw [Array.getElem?_append_left (by simpa using hi)]
    rfl⟩
def itoaB (n : Int) : ByteArray := ⟨(Lib.itoa n).toArray⟩
theorem itoa_any (n : Int) (w : World) (h0 : -9223372036854775808 ≤ n) (h1 : n ≤ 9223372036854775807) (ht : Tab w) :
    Calls Tryz.prog 109 #[.int .i64 n] w fun e w' => e = .returned (.string (itoaB n)) ∧ Keeps w w' := by
  have h := Any.strconv_Itoa Tryz.itoa171 n h0 h1 w ht
  change Calls Tryz.prog 109 _ _ _ at h
  exact h.mono fun e w' ⟨he, k, os, hw⟩ => ⟨he, hw ▸ keeps_grow w k os⟩
def joinB (xs : List ByteArray) : ByteArray := ⟨(Lib.join (xs.map (·.data.toList)) [32]).toArray⟩
theorem join_any (xs : List ByteArray) (A : Option Addr) (n c : Nat) (w0 w : World) (h : OwnR strR w0 w (.slice A n c) xs) (hn : n ≤ 1000000) (hp : 0 < xs.length) (hlen : (Lib.join (xs.map (·.data.toList)) [32]).length ≤ 140737488355328) :
    Calls Tryz.prog 110 #[.slice A n c, .string ⟨#[32]⟩] w fun e w' => e = .returned (.string (joinB xs)) ∧ Keeps w w' := by
  have hl := (h.recs strOk).2
  obtain ⟨g, cap, hv, hg1, hg2⟩ := h.form hp
  have hA : A = some ⟨g, 0, none⟩ := by injection hv
  subst hA
  have hc : n ≤ c := by
    rcases h.1.2 with ⟨e, _⟩ | ⟨g', cap', cur, e, hb, hg, hnc, _⟩
    · cases e
    · injection e with e1 e2 e3
      subst e3
      rw [hl]; exact hnc
  subst hl
  have hcon := Any.strings_Join Tryz.join156 joinExtra g 0 c xs ⟨#[32]⟩ w (fun j x hx => by
    obtain ⟨b, o, e, _, hcc⟩ := (h.recs strOk).1.str hx
    cases e
    exact hcc) hg2 (by omega) hc hlen
  exact hcon
/-- A literal of the call's own. -/
theorem OwnR.litN {α : Type} {R : RowTy α} (hl : ∀ x, (R.enc x).length = R.k) {w0 w : World} (h : Keeps w0 w) (l : List α) (cs : Array Value) (hcs : cs.toList = recCells R l) (hn : l.length ≤ 1000000) : OwnR R w0 (w.alloc (.cells cs R.T)) (.slice (some ⟨w.heap.size, 0, none⟩) l.length l.length) l := by
  have hsz : cs.size = l.length * R.k := by rw [← recCells_length hl, ← hcs]; simp
  refine ⟨⟨recCells_length hl l, .inr ⟨w.heap.size, l.length, cs, rfl, h.size, heap_alloc_new w _, Nat.le_refl _, ?_, hsz, ?_⟩⟩, h.alloc _⟩
  · unfold maxLen; omega
  · rw [hcs]
    exact List.take_of_length_le (by rw [recCells_length hl]; exact Nat.le_refl _)
def keyF (v : EvC) : List Int := [(v.nd.length : Int), v.off, v.lo, v.hi] ++ v.nd
def Ev.say (v : Ev) : EvC := ⟨v.off, v.lo, v.hi, v.nd⟩
/-- An event whose needs can be read. -/
structure EvOk (w : World) (B : Nat) (v : Ev) : Prop where
  nd : RecIn intR w B v.A v.nd
  len : v.nd.length ≤ 1000
  bd : ∀ x ∈ keyF v.say, -9223372036854775808 ≤ x ∧ x ≤ 9223372036854775807
theorem EvOk.keep {w w' : World} {v : Ev} (h : EvOk w w.heap.size v) (hk : Keeps w w') : EvOk w' w'.heap.size v := ⟨h.nd.keep hk, h.len, h.bd⟩
theorem EvOk.surv {w w' : World} {B : Nat} {v : Ev} (h : EvOk w B v) (hk : Surv w w') : EvOk w' B v := ⟨h.nd.surv hk, h.len, h.bd⟩
theorem EvOk.more {w : World} {B B' : Nat} {v : Ev} (h : EvOk w B v) (hb : B ≤ B') : EvOk w B' v := ⟨h.nd.more hb, h.len, h.bd⟩
abbrev evA (v : Ev) : Value := .agg #[.int .i64 v.off, .int .i64 v.lo, .int .i64 v.hi, .slice v.A v.nd.length v.c]
def KeyPost (l : List Int) (w : World) (e : Ending) (w' : World) : Prop := ∃ A n c, e = .returned (.slice A n c) ∧ OwnR intR w w' (.slice A n c) l
set_option maxRecDepth 100000 in
theorem key67 (v : Ev) (w : World) (h : EvOk w w.heap.size v) : Calls Tryz.prog 67 #[evA v] w (KeyPost (keyF v.say) w) := by
  obtain ⟨off, lo, hi, nd, A, c⟩ := v
  change Calls Tryz.prog 67 #[.agg #[.int .i64 off, .int .i64 lo, .int .i64 hi, .slice A nd.length c]] w (KeyPost ([(nd.length : Int), off, lo, hi] ++ nd) w)
  have hlen : nd.length ≤ 1000 := h.len
  obtain ⟨q, hq⟩ : ∃ q, nd.length = q := ⟨_, rfl⟩
  have HQ := Lib.hid hq
  rw [hq] at hlen ⊢
  have k1 := (Keeps.refl w).alloc (.cells #[.int .i64 off, .int .i64 lo, .int .i64 hi, .slice A q c] 43)
  have O1 := Lib.hid (show OwnR intR w ((w.alloc (.cells #[.int .i64 off, .int .i64 lo, .int .i64 hi, .slice A q c] 43)).alloc (.cells #[.int .i64 (q : Int), .int .i64 off, .int .i64 lo, .int .i64 hi] 3)) (.slice (some ⟨w.heap.size + 1, 0, none⟩) 4 4) [(q : Int), off, lo, hi] by have := OwnR.litN (R := intR) (fun _ => rfl) k1 [(q : Int), off, lo, hi] #[.int .i64 (q : Int), .int .i64 off, .int .i64 lo, .int .i64 hi] rfl (by simp); rwa [World.size_alloc] at this)
  have X1 := Lib.hid ((h.keep k1).nd.keep ((Keeps.refl _).alloc (.cells #[.int .i64 (q : Int), .int .i64 off, .int .i64 lo, .int .i64 hi] 3)))
  have HL := Lib.hid hq.symm
  have LE := Lib.hid (show [(q : Int), off, lo, hi].length + nd.length ≤ 1000000 by rw [hq]; simp; omega)
  clear h hq k1
  go_enter Tryz.func67, Tryz.ntmps67
  go_wp2_with (at_builtin; refine wpList_appR intOk (w0 := w) rfl (.tmp 12) (.tmp 14) rfl _ [(q : Int), off, lo, hi] rfl O1.out _ _ _ nd rfl X1.out HL LE ?_; intro A2 n2 c2 w2 ho2 hg2; clear hg2; have O2 := Lib.hid ho2; clear ho2)
  go_ret
  exact ⟨A2, n2, c2, rfl, O2.out⟩
def textF (v : EvC) : ByteArray := joinB ((keyF v).map itoaB)
def TxtR (ks : List Int) (w : World) (a b : Value) (wr : World) : Prop := ∃ (i : Nat) (A : Option Addr) (n c : Nat), i ≤ ks.length ∧ a = .slice A n c ∧ b = .int .i64 (i : Int) ∧ OwnR strR w wr (.slice A n c) ((ks.take i).map itoaB)
theorem itoa_join_len : ∀ (ks : List Int), (∀ x ∈ ks, -9223372036854775808 ≤ x ∧ x ≤ 9223372036854775807) → (Lib.join ((ks.map itoaB).map (·.data.toList)) [32]).length ≤ ks.length * 22
  | [], _ => by simp [Lib.join, List.intercalate]
  | [x], h => by
    have := Lib.itoa_length_le x (h x (by simp)).1 (h x (by simp)).2
    simp [Lib.join, itoaB, List.intercalate]
    omega
  | x :: y :: t, h => by
    have ih := itoa_join_len (y :: t) (fun z hz => h z (by simp at hz; simp [hz]))
    have := Lib.itoa_length_le x (h x (by simp)).1 (h x (by simp)).2
    simp [Lib.join, itoaB, List.intercalate] at ih ⊢
    omega
set_option maxRecDepth 100000 in
set_option maxHeartbeats 4000000 in
theorem text63 (v : Ev) (w : World) (h : EvOk w w.heap.size v) (ht : Tab w) : Calls Tryz.prog 63 #[evA v] w fun e w' => e = .returned (.string (textF v.say)) ∧ Keeps w w' := by
  have HBD := Lib.hid h.bd
  have hlen : (keyF v.say).length ≤ 1004 := by have := h.len; simp [keyF, Ev.say]; omega
  have hpos : 4 ≤ (keyF v.say).length := by simp [keyF]
  obtain ⟨off, lo, hi, nd, A, c⟩ := v
  have k1 := (Keeps.refl w).alloc (.cells #[.int .i64 off, .int .i64 lo, .int .i64 hi, .slice A nd.length c] 43)
  have HK := Lib.hid (key67 ⟨off, lo, hi, nd, A, c⟩ _ (h.keep k1))
  obtain ⟨ks, hks⟩ : ∃ ks, keyF (Ev.say ⟨off, lo, hi, nd, A, c⟩) = ks := ⟨_, rfl⟩
  have htx : textF (Ev.say ⟨off, lo, hi, nd, A, c⟩) = joinB (ks.map itoaB) := by unfold textF; rw [hks]
  rw [htx]
  rw [hks] at HK HBD hlen hpos
  change Calls Tryz.prog 63 #[.agg #[.int .i64 off, .int .i64 lo, .int .i64 hi, .slice A nd.length c]] w _
  replace HK := Lib.hid (show Calls Tryz.prog 67 #[.agg #[.int .i64 off, .int .i64 lo, .int .i64 hi, .slice A nd.length c]] _ _ from HK.out)
  have K1 := Lib.hid k1
  have HT := Lib.hid ht
  generalize nd.length = q at HK K1 ⊢
  have HBJ := Lib.hid (itoa_join_len ks HBD.out)
  clear h k1 ht hks htx
  go_enter Tryz.func63, Tryz.ntmps63
  go_wp2_with (go_at_call 67; (with_reducible refine HK.out.mono ?_); rintro e w2 ⟨A2, n2, c2, rfl, ho2⟩; have O2 := Lib.hid ho2; clear ho2)
  have hn2 := (O2.out.recs intOk).2
  have HN2 := Lib.hid hn2
  have N1 := Lib.hid (OwnR.nil (R := strR) w2)
  clear hn2
  go_loopw [3, 9] (fun a b wr => TxtR ks w2 a b wr) (fun _ b _ => n2 - (intOf b).toNat)
  case atStart => exact ⟨0, none, 0, 0, by omega, rfl, rfl, N1.out⟩
  case round =>
    clear N1
    obtain ⟨i, A3, n3, c3, hi', rfl, rfl, hO⟩ := hrel
    have hk := hO.2
    have hn2 := HN2.out
    have hn3 := (hO.recs strOk).2
    by_cases hin : i < n2
    · obtain ⟨x, hx⟩ : ∃ x, ks[i]? = some x := ⟨_, List.getElem?_eq_getElem (by omega)⟩
      have hbx := HBD.out x (List.mem_of_getElem? hx)
      have HSN := Lib.hid (show (ks.take (i + 1)).map itoaB = (ks.take i).map itoaB ++ [itoaB x] by rw [take_snoc' hx]; simp)
      obtain ⟨b, o, rfl, hbl, d0⟩ := ((O2.out.recs intOk).1.keep hk).int hx
      have HI := Lib.hid (itoa_any x wr hbx.1 hbx.2 (HT.out.keep ((K1.out.trans O2.out.2).trans hk)))
      have ii : (i : Int) < (n2 : Int) := by omega
      have i0 : (0 : Int) ≤ (i : Int) := by omega
      have iw : IntKind.i64.wrap ((i : Int) + 1) = (i : Int) + 1 := wrap_in (by omega) (by omega)
      have HO := Lib.hid hO
      have HK3 := Lib.hid hk
      have ONE := Lib.hid (show (1 : Nat) = [itoaB x].length from rfl)
      have LE := Lib.hid (show ((ks.take i).map itoaB).length + [itoaB x].length ≤ 1000000 by simp; omega)
      have hik : i < ks.length := by omega
      clear hx hbx hO hk hn2 hn3
      go_wp2_with (first | (go_at_call 109; (with_reducible refine HI.out.mono ?_); rintro e w4 ⟨rfl, hk4⟩; have O4 := Lib.hid (HO.out.keep (hk4.alloc (.cells #[.string (itoaB x)] 9))); have X4 := Lib.hid (RecIn.lit strOk w4 [itoaB x] #[.string (itoaB x)] rfl); clear hk4) | (at_builtin; refine wpList_appR strOk (w0 := w2) rfl (.tmp 13) (.tmp 16) rfl _ ((ks.take i).map itoaB) rfl O4.out _ _ _ [itoaB x] rfl X4.out ONE LE ?_; intro A5 n5 c5 w5 ho5 hg5; clear hg5; have O5 := Lib.hid ho5; clear ho5 O4 X4))
      go_roundw
      case rel => exact ⟨i + 1, A5, n5, c5, by omega, rfl, by go_num, by rw [HSN.out]; exact O5.out⟩
      case measure => simp [intOf]; omega
    · have e : ks.take i = ks := List.take_of_length_le (by omega)
      rw [e] at hO
      have HJ := Lib.hid (join_any (ks.map itoaB) A3 n3 c3 w2 wr hO (by rw [hn3, e]; simp; omega) (by simp; omega) (by have := HBJ.out; omega))
      have HK3 := Lib.hid ((K1.out.trans O2.out.2).trans hO.2)
      clear hO hk hn2 hn3 e
      go_wp2_with (go_at_call 110; (with_reducible refine HJ.out.mono ?_); rintro e w' ⟨rfl, hk⟩; have HK5 := Lib.hid (HK3.out.trans hk); clear hk)
      go_ret
      exact ⟨rfl, HK5.out⟩
end Go.Proofs.YthkmpegpmpdhaaaGreatDoor
