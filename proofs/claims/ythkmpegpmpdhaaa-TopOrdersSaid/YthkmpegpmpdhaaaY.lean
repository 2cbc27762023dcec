/- Part of the proofs of TopMoney and TopOrders. Conditions: as stated in each theorem. -/
import Derived.Test.YthkmpegpmpdhaaaX
import Derived.Deep.CutRange
import Derived.StillTailTactics
import Derived.Lib.SliceRun
import Derived.RangeFuncRecord
import Derived.Carry
import Derived.ChangeKeysEq
import Derived.Test.YthkmpegpmpdhaaaRows
import Derived.WalkKit
import Derived.WalkSpells
import Derived.WalkLawsBesides
import Derived.Laws.EntriesVeiled
import Derived.ProofKit
import Derived.OpenShut
import Derived.Lib.Hide
import Derived.BigQuiet
import Derived.Deep.QuietTactic
import Derived.Below
import Derived.Laws.OwnMore
import Derived.Deep.AppendLies
import Derived.Deep.Draws
import Derived.Laws.Rows
import Derived.Maps.AppendAt
import Derived.RegionTactic
import Derived.OwnWalk
import Derived.Deep.RegionHeld3
namespace Go.Proofs.Ythkmpegpmpdhaaa
open Go.ChangeShapes Go.WideShapes Go.ChangeAt Go.RowKit
set_option linter.unusedSimpArgs false
set_option linter.unusedVariables false
/-- Two lists of the call's own with elements of different types lie apart. -/
theorem own_apart {α β : Type} {R : RowTy α} {S : RowTy β} {w0 w1 w : World} {v u : Value} {l : List α} {m : List β} (h : OwnR R w0 w v l) (k : OwnR S w1 w u m) (hne : R.T ≠ S.T) (hv : v.ownBlock ≠ none) : v.ownBlock ≠ u.ownBlock := by
  intro e
  rcases h.1.2 with ⟨rfl, _⟩ | ⟨g, cap, cur, rfl, _, hg, _⟩
  · exact hv rfl
  · rcases k.1.2 with ⟨rfl, _⟩ | ⟨g', cap', cur', rfl, _, hg', _⟩
    · cases e
    · simp [Value.ownBlock] at e
      subst e
      rw [hg] at hg'
      injection hg' with hg'
      injection hg' with _ ht
      exact hne ht
theorem OwnR.grown {α : Type} {R : RowTy α} {w0 w w' : World} {v : Value} {l : List α} {row : Option Nat} (h : OwnR R w0 w v l) (hg : w.grownBy w' row) (hne : v.ownBlock = none ∨ v.ownBlock ≠ row) (hr : ∀ k, row = some k → w0.heap.size ≤ k) : OwnR R w0 w' v l := ⟨h.1.kept hg hne, grown_keeps h.2 hg hr⟩
theorem grown_drew {a b : World} {row : Option Nat} (h : a.grownBy b row) : a.grownBy b.drew row := ⟨h.os, h.tape, h.output, h.size, h.block⟩
theorem grown_alloc {a b : World} {row : Option Nat} (h : a.grownBy b row) (o : Obj) : a.grownBy (b.alloc o) row := ⟨(World.grownBy_alloc b o row).os.trans h.os, (World.grownBy_alloc b o row).tape.trans h.tape, (World.grownBy_alloc b o row).output.trans h.output, Nat.le_trans h.size (World.grownBy_alloc b o row).size, fun k hk hne => (Below.heap_alloc b o k (Nat.lt_of_lt_of_le hk h.size)).trans (h.block k hk hne)⟩
theorem grown_set {a b : World} {g : Nat} (h : a.grownBy b (some g)) (i : Nat) (v : Value) : a.grownBy (b.setCell ⟨g, i, none⟩ v) (some g) := ⟨h.os, h.tape, h.output, by simpa [World.setCell] using h.size, fun k hk hne => (Below.heap_setCell b ⟨g, i, none⟩ v k (fun e => hne (by rw [e]))).trans (h.block k hk hne)⟩
theorem path_st {d : List (List Int)} {us : List UnC} (hn : us.length < 16) (ho : ∀ u ∈ us, isOff d u.2.1.o) : ∀ (k : Nat) (s : List Nat), s.length = k → okP d (plainU us) s → StOk d (pathF d (plainU us) s)
  | 0, s, h, _ => by
    have : s = [] := List.eq_nil_of_length_eq_zero h
    subst this
    exact st0_ok d
  | k + 1, s, h, hp => by
    obtain ⟨t, u, rfl⟩ := snoc_of h
    have ih := path_st hn ho k t (by simpa using h) (okP_pre hp)
    have hu := (okP_last hp).1
    rw [plainU_len] at hu
    rw [pathF_snoc]
    refine stepU_ok ih (by omega) ?_
    rw [(plainU_at (List.getElem?_eq_getElem hu)).1]
    exact ho _ (List.getElem_mem hu)
/-- A list of numbers, or none. -/
def FindPost (o : Option (List Nat)) (w : World) (e : Ending) (w' : World) : Prop :=
  match o with
  | none => ∃ A n c, e = .returned (.tuple #[.slice A n c, .bool false]) ∧ Keeps w w'
  | some l => ∃ A c, e = .returned (.tuple #[.slice A l.length c, .bool true]) ∧ RecIn natR w' w'.heap.size A l ∧ Keeps w w'
theorem find_none {o : Option (List Nat)} {w w' : World} {A : Option Addr} {n c : Nat} (h : o = none) (hk : Keeps w w') : FindPost o w (.returned (.tuple #[.slice A n c, .bool false])) w' := by subst h; exact ⟨A, n, c, rfl, hk⟩
theorem find_some {o : Option (List Nat)} {l : List Nat} {w w' : World} {A : Option Addr} {n c : Nat} (h : o = some l) (ho : OwnR natR w w' (.slice A n c) l) : FindPost o w (.returned (.tuple #[.slice A n c, .bool true])) w' := by
  subst h
  obtain ⟨h1, rfl⟩ := ho.recs natOk
  exact ⟨A, c, rfl, h1, ho.2⟩
theorem choices_is (d : List (List Int)) (us : List UnC) (f : List Nat) (g : Nat) (dA uA fA : Option Addr) (dc uc fc : Nat) (w : World) (hs : SrIn d us w g dA uA dc uc (.slice fA us.length fc)) (hf : RecIn mkR w w.heap.size fA f) (hM : MasksOk us.length f)
    (hn16 : us.length < 16) (hd : DistOk d) (ho : ∀ u ∈ us, isOff d u.2.1.o) (m : Nat) (now time : Int) (hst : StOk d (m, now, time)) (r : List Nat) (hr : Hid (choF d (plainU us) f (m, now, time) = r)) :
    Calls Try.prog 60 #[.pointer (some ⟨g, 0, none⟩), .agg #[.int .u32 (m : Int), .int .i64 now], .int .i64 time] w (NatsPost r w) :=
  choices_any d us f g dA uA fA dc uc fc w hs hf hM hn16 hd ho (m, now, time) hst r hr
set_option maxRecDepth 100000 in
set_option maxHeartbeats 4000000 in
theorem quick_any (d : List (List Int)) (us : List UnC) (f : List Nat) (g : Nat) (dA uA fA : Option Addr) (dc uc fc : Nat) (w : World) (hs : SrIn d us w g dA uA dc uc (.slice fA us.length fc)) (hf : RecIn mkR w w.heap.size fA f) (hM : MasksOk us.length f)
    (hn16 : us.length < 16) (hd : DistOk d) (ho : ∀ u ∈ us, isOff d u.2.1.o) :
    Calls Try.prog 39 #[.pointer (some ⟨g, 0, none⟩)] w (FindPost (quickK d (plainU us) f us.length) w) := by
  have HS := Lib.hid hs
  have HFI := Lib.hid hf
  have B0 := Lib.hid (Blk.new w 94 #[.int .u32 0, .int .i64 (-1)])
  have K0 := Lib.hid ((Keeps.refl w).alloc (.cells #[.int .u32 0, .int .i64 (-1)] 94))
  have O0 := Lib.hid ((OwnR.nil (R := natR) w).keep K0.out)
  have c1 : w.cell? ⟨g, 1, none⟩ = some (.slice uA us.length uc) := hs.blk.cell 1
  have hg := hs.blk.lt
  have PL := Lib.hid (plainU_len us)
  have ms := meth_span
  have HO1 := Lib.hid ho
  clear ho
  obtain ⟨n, hn⟩ : ∃ n, us.length = n := ⟨_, rfl⟩
  have HN := Lib.hid hn
  have HMK := Lib.hid hM
  clear hs hf hM
  rw [hn] at c1
  have hn16' : n < 16 := by omega
  rw [hn]
  have HN16 := Lib.hid hn16
  clear hn hn16
  go_enter Try.func39, Try.ntmps39
  go_wp2_with fail
  go_loopw [5, 6, 7, 8, 15] (fun t v _ _ i wr => ∃ (k : Nat) (l : List Nat) (A : Option Addr) (n1 cc : Nat), k ≤ n ∧ i = .int .i64 (k : Int) ∧ v = .slice A n1 cc ∧ OwnR natR w wr (.slice A n1 cc) l ∧ quickK d (plainU us) f k = some l ∧ t = .int .i64 (pathF d (plainU us) l).2.2 ∧ Blk wr w.heap.size 94 #[.int .u32 ((pathF d (plainU us) l).1 : Int), .int .i64 (pathF d (plainU us) l).2.1]) (fun _ _ _ _ i _ => n - (intOf i).toNat)
  case atStart => exact ⟨0, [], none, 0, 0, by omega, rfl, rfl, O0.out, rfl, rfl, B0.out⟩
  case round =>
    obtain ⟨k, l, A, n1, cc, hk, rfl, rfl, hO, hq, rfl, hB⟩ := hrel
    have HKR := Lib.hid (show Keeps w wr from hO.2)
    have HO := Lib.hid hO; have HQ := Lib.hid hq; have HB := Lib.hid hB
    by_cases hkn : k < n
    · have hqo := quick_ok k l hq
      have hso := path_st HN16.out HO1.out k l hqo.2 hqo.1
      have HLK := Lib.hid hqo.2
      obtain ⟨⟨m, now, time⟩, hp⟩ : ∃ s, pathF d (plainU us) l = s := ⟨_, rfl⟩
      rw [hp] at hso hB HB
      rw [hp]
      simp only at hB HB
      simp only
      have HP := Lib.hid hp
      have HSO := Lib.hid hso
      obtain ⟨cl, hcl⟩ : ∃ cl, choF d (plainU us) f (m, now, time) = cl := ⟨_, rfl⟩
      have HCL := Lib.hid hcl
      have d0 : wr.cell? ⟨w.heap.size, 0, none⟩ = some (.int .u32 (m : Int)) := hB.cell 0
      have d1 : wr.cell? ⟨w.heap.size, 1, none⟩ = some (.int .i64 now) := hB.cell 1
      have hki : (k : Int) < (n : Int) := by omega
      have hk0 : (0 : Int) ≤ (k : Int) := by omega
      have hkw : IntKind.i64.wrap ((k : Int) + 1) = (k : Int) + 1 := wrap_in (by omega) (by omega)
      cases cl with
      | nil =>
        have E := Lib.hid (quick_bad hq hkn (by rw [hp]; exact hcl))
        clear hqo hso hp hcl hO hq hB
        go_wp2_with (go_at_call 60; (with_reducible refine (choices_is d us f g dA uA fA dc uc fc _ (HS.out.keep HKR.out) (HFI.out.keep HKR.out) HMK.out HN16.out hd HO1.out m now time HSO.out _ HCL).mono ?_); rintro e w2 ⟨A2, n2, c2, rfl, hn2, hr2, hk2, _⟩; have z1 : ((n2 : Int) == 0) = true := (by have := hn2.out; subst this; rfl);  have R2 := Lib.hid hr2; have O2 := Lib.hid (HO.out.keep hk2); have B2 := Lib.hid (HB.out.below hk2 HB.out.lt); clear hr2 hk2)
        go_ret2
        exact find_none E.out O2.out.2
      | cons u cl' =>
        have hux : okU d (plainU us) (m, now, time) u := cho_ok (f := f) (by rw [hcl]; simp)
        have hun : u < us.length := by have := hux.1; rwa [plainU_len] at this
        have E := Lib.hid (quick_step hq (by rw [hp]; exact hcl))
        have hpn := pathF_snoc d (plainU us) l u
        obtain ⟨x, hx⟩ : ∃ x, us[u]? = some x := ⟨_, List.getElem?_eq_getElem hun⟩
        rw [hp] at hpn
        unfold stepU at hpn
        rw [(plainU_at hx).1] at hpn
        simp only at hpn
        have HPN := Lib.hid hpn
        have HX := Lib.hid hx
        have HUX := Lib.hid hux
        have hu16 : u < 16 := by have := HN16.out; omega
        clear hqo hso hp hcl hO hq hB hx hux hpn
        go_wp2_with (go_at_call 60; (with_reducible refine (choices_is d us f g dA uA fA dc uc fc _ (HS.out.keep HKR.out) (HFI.out.keep HKR.out) HMK.out HN16.out hd HO1.out m now time HSO.out _ HCL).mono ?_); rintro e w2 ⟨A2, n2, c2, rfl, hn2, hr2, hk2, _⟩; have hn2' := hn2.out; rw [List.length_cons] at hn2'; have z1 : ((n2 : Int) == 0) = false := (by simp; omega); have z2 : (0 : Int) < (n2 : Int) := (by omega); clear hn2'; obtain ⟨rb, ro, rfl, hrb, cr⟩ := hr2.nat (j := 0) (x := u) rfl; rw [Nat.add_zero] at cr;  have R2 := Lib.hid hr2; have O2 := Lib.hid (HO.out.keep hk2); have B2 := Lib.hid (HB.out.below hk2 HB.out.lt); have d20 : w2.cell? ⟨w.heap.size, 0, none⟩ = some (.int .u32 (m : Int)) := B2.out.cell 0; have d21 : w2.cell? ⟨w.heap.size, 1, none⟩ = some (.int .i64 now) := B2.out.cell 1; clear hr2 hk2)
        obtain ⟨ub, uo, huA, hub, _, _, F⟩ := HS.out.reads HX.out
        clear huA
        have hK2 : Keeps w w2 := O2.out.2
        obtain ⟨_, e1, _, eu⟩ := F w2 hK2
        have hsz := hK2.size
        have a0 := After.cell d20 B2.out.lt
        have a1 := After.cell d21 B2.out.lt
        have ae1 := After.cell e1 (by show g < w2.heap.size; omega)
        have aeu := After.cell eu (by show ub < w2.heap.size; omega)
        rw [HN.out] at ae1
        have hu0 : (0 : Int) ≤ (u : Int) ∧ (u : Int) < (n : Int) := ⟨by omega, by rw [← HN.out]; omega⟩
        have HOX := Lib.hid (HO1.out x (List.mem_of_getElem? HX.out))
        obtain ⟨_, HNW, ht0, ht1⟩ := HSO.out
        simp only at HNW ht0 ht1
        have HNOW := Lib.hid HNW
        have K2 := Lib.hid hK2
        have S2 := Lib.hid (HS.out.keep hK2)
        have hbl := begin_le (d := d) (now := now) (time := time) (e := x.2.1)
        have hbw : IntKind.i64.wrap (beginF d now time x.2.1) = beginF d now time x.2.1 := wrap_in (by omega) (by omega)
        clear F e1 eu HNW hK2 hbl
        refine wp_region_after (by kernel_rfl) (by kernel_rfl) ?_
        repeat (go_big_quiet_step ((first | (go_at_call 41; with_reducible exact after_call (begin_any d us g dA uA dc uc _ _ (S2.out.keep (After.ok _)) hd x u HX.out HOX.out m now time HNOW.out ht0 ht1 _ (Lib.hid rfl))) | (go_at_call 96; with_reducible exact after_call (span_any x _)))))
        refine wpQuiet_nil ?_
        intro W1 hw'
        obtain ⟨X1, hX1⟩ := hw'
        have hk1 := X1.ok
        rw [← hX1] at hk1
        clear hX1 X1
        have hm16 := HSO.out.1
        simp only at hm16
        have B3 := Lib.hid (B2.out.below hk1 B2.out.lt)
        have O3 := Lib.hid (O2.out.keep hk1)
        have b0 : W1.cell? ⟨w.heap.size, 0, none⟩ = some (.int .u32 (m : Int)) := B3.out.cell 0
        have b1 : W1.cell? ⟨w.heap.size, 1, none⟩ = some (.int .i64 now) := B3.out.cell 1
        clear a0 a1 ae1 aeu d20 d21 cr z1 z2
        go_upto_region 11 with (go_at_call 42; (with_reducible refine (after_any d us g dA uA dc uc _ _ (S2.out.keep hk1) x u HX.out m now hm16 hu16).mono ?_); rintro e w5 ⟨rfl, hk5⟩; have K5 := Lib.hid ((K2.out.trans hk1).trans hk5); have B5 := Lib.hid (B3.out.below hk5 B3.out.lt); have O5 := Lib.hid (O3.out.keep hk5); have y0 : w5.cell? ⟨w.heap.size, 0, none⟩ = some (.int .u32 (m : Int)) := B5.out.cell 0; have y1 : w5.cell? ⟨w.heap.size, 1, none⟩ = some (.int .i64 now) := B5.out.cell 1; have f6 := B5.out.frozen; clear hk5)
        have B6 := Lib.hid ((B5.out.set_ 0 (.int .u32 ((orN m u : Nat) : Int))).set_ 1 (.int .i64 x.2.1.o))
        have G6 : w5.grownBy ((w5.setCell ⟨w.heap.size, 0, none⟩ (.int .u32 ((orN m u : Nat) : Int))).setCell ⟨w.heap.size, 1, none⟩ (.int .i64 x.2.1.o)) (some w.heap.size) := grown_set (grown_set (World.grownBy.refl w5 _) 0 _) 1 _
        have O6 := Lib.hid (O5.out.grown G6 (.inr (own_blk_ne O5.out.1 B5.out (by decide))) (fun k hk => by cases hk; exact Nat.le_refl _))
        clear y0 y1 f6 G6 b0 b1
        have B6' : Hid (Blk ((w5.setCell ⟨w.heap.size, 0, none⟩ (.int .u32 ((orN m u : Nat) : Int))).setCell ⟨w.heap.size, 1, none⟩ (.int .i64 x.2.1.o)) w.heap.size 94 #[.int .u32 ((orN m u : Nat) : Int), .int .i64 x.2.1.o]) := B6
        clear B6
        generalize (w5.setCell ⟨w.heap.size, 0, none⟩ (.int .u32 ((orN m u : Nat) : Int))).setCell ⟨w.heap.size, 1, none⟩ (.int .i64 x.2.1.o) = W6 at *
        have B7 := Lib.hid (B6'.out.alloc (.cells #[.int .i64 (u : Int)] 3))
        have O7 := Lib.hid (O6.out.keep ((Keeps.refl W6).alloc (.cells #[.int .i64 (u : Int)] 3)))
        have X7 := Lib.hid (RecIn.lit natOk W6 [u] #[.int .i64 (u : Int)] rfl)
        have ONE := Lib.hid (show 1 = [u].length from rfl)
        have L1 := Lib.hid (show l.length + [u].length ≤ 1000000 by rw [HLK.out]; simp; omega)
        go_wp2_with (at_builtin; refine wpList_appR natOk rfl (.tmp 45) (.tmp 47) rfl (.slice A n1 cc) l rfl O7.out _ _ _ [u] rfl X7.out ONE L1 ?_; intro A8 n8 c8 w8 ho8 hg8; have O8 := Lib.hid ho8; have B8 := Lib.hid (B7.out.grown hg8 (fun e => own_blk_ne O7.out.1 B7.out (by decide) e.symm)); clear ho8 hg8)
        go_roundw
        case rel => first | exact ⟨k + 1, l ++ [u], A8, n8, c8, by omega, by go_num, rfl, O8.out, E.out, by rw [HPN.out], by rw [HPN.out]; exact B8.out⟩ | ((repeat apply Exists.intro); exact ⟨⟨k + 1, l ++ [u], A8, n8, c8, by omega, by go_num, rfl, O8.out, E.out, by rw [HPN.out], by rw [HPN.out]; exact B8.out⟩, rfl⟩)
        case measure => simp [intOf]; omega
    · have hkn' : k = n := by omega
      subst hkn'
      have HQF := Lib.hid hq
      clear hO hq hB
      go_wp2_with fail
      go_ret2
      exact find_some HQF.out HO.out
end Go.Proofs.Ythkmpegpmpdhaaa
