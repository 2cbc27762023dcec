/- Part of the proof of TopOwnItem. Conditions: as stated in each theorem. -/
import Derived.Test.YthkmpegpmpdhaaaGreatDoorCe
import Derived.WalkMore
import Derived.Maps.OwnIn
import Derived.Deep.LoopGhost
import Derived.RangeFuncNested
import Derived.RangeFuncCalls
import Derived.RangeFuncLeaves
import Derived.RangeFuncWrites
import Derived.Shelf.Abstract
import Derived.Shelf.RegionOpen
import Derived.OwnWalkIn
import Derived.TacticsInMore
import Derived.LoopNIn
import Derived.LoopIn
import Derived.RangeFuncBound
import Derived.Test.YthkmpegpmpdhaaaGreatDoorProg
import Derived.WalkKit
import Derived.WalkSpells
import Derived.WalkLawsBesides
import Derived.Laws.EntriesVeiled
import Derived.ProofKit
import Derived.OpenShut
import Derived.Lib.Hide
import Derived.BigQuiet
import Derived.Deep.QuietTactic
import Derived.Deep.CutRange
import Derived.StillTailTactics
import Derived.Lib.SliceRun
import Derived.RangeFuncRecord
import Derived.Carry
import Derived.ChangeKeysEq
import Derived.Below
import Derived.Laws.OwnMore
import Derived.Deep.AppendLies
import Derived.Deep.Draws
import Derived.Laws.Rows
import Derived.Maps.AppendAt
import Derived.RegionTactic
import Derived.OwnWalk
import Derived.Deep.RegionHeld3
namespace Go.Proofs.YthkmpegpmpdhaaaGreatDoor
open Go.Shelf Go.ChangeShapes Go.WideShapes Go.ChangeAt Go.RowKit
set_option linter.unusedSimpArgs false
set_option linter.unusedVariables false
def hitF (rows : List Rw) (nd : List Int) : Bool := rows.any fun r => r.l.any fun x => decide (x ∈ nd)
def sightOf (v : EvC) : Si := ⟨v.off, v.lo, v.hi⟩
def stepSee (rows : List Rw) (S : List Si) (v : EvC) : List Si := if sightOf v ∈ S then S else if hitF rows v.nd then S else S ++ [sightOf v]
/-- The sights of the events that no world of the holder's needs. -/
def seenF (rows : List Rw) (evs : List EvC) : List Si := evs.foldl (stepSee rows) []
def seeF (rows : List Rw) (evs : List EvC) : List Si := sortS (seenF rows evs)
theorem seenF_snoc {rows : List Rw} {evs : List EvC} {k : Nat} {v : EvC} (h : evs[k]? = some v) : seenF rows (evs.take (k + 1)) = stepSee rows (seenF rows (evs.take k)) v := by
  unfold seenF
  rw [take_snoc' h, List.foldl_append]
  rfl
theorem SeenIs.keep' {W W' : World} {r : Nat} {S : List Si} (h : SeenIs W r S) (hk : Keeps W W') : SeenIs W' r S := StIs.keep h hk
theorem seenF_len (rows : List Rw) : ∀ (evs : List EvC) (S : List Si), (evs.foldl (stepSee rows) S).length ≤ evs.length + S.length
  | [], S => by simp
  | v :: evs, S => by
    rw [List.foldl_cons]
    have h1 := seenF_len rows evs (stepSee rows S v)
    have h2 : (stepSee rows S v).length ≤ S.length + 1 := by
      unfold stepSee
      split
      · omega
      · split
        · omega
        · simp
    simp only [List.length_cons]
    omega
def RowsOk (w : World) (B : Nat) (rows : List Rw) : Prop := ∀ r ∈ rows, RecIn intR w B r.A r.l
/-- What See answers. -/
def SeeR (secret token : Int) (lab : ByteArray) (rows : List Rw) (evs : List EvC) (w : World) (e : Ending) (w' : World) : Prop :=
  Keeps w w' ∧ if token = tokF secret lab then ∃ A n c, e = .returned (.tuple #[.slice A n c, .int .i64 0]) ∧ n = (if rows = [] then [] else seeF rows evs).length ∧ RecIn siR w' w'.heap.size A (if rows = [] then [] else seeF rows evs)
    else e = .returned (.tuple #[.slice none 0 0, .int .i64 340])
set_option maxRecDepth 100000 in
set_option maxHeartbeats 4000000 in
theorem see12 (secret token : Int) (lab : ByteArray) (rows : List Rw) (evs : List Ev) (EA WA : Option Addr) (n ec m wc : Nat) (w : World) (he : RecIn evR w w.heap.size EA evs) (hn : Hid (n = evs.length)) (hr : RecIn rwR w w.heap.size WA rows) (hm : Hid (m = rows.length))
    (hok : ∀ v ∈ evs, EvOk w w.heap.size v) (hrk : RowsOk w w.heap.size rows) (hn1 : n ≤ 1000) (hm1 : m ≤ 1000) (hrl : ∀ r ∈ rows, r.l.length ≤ 1000) (hlab : lab.size ≤ 1000) :
    Calls Tryz.prog 12 #[.int .i64 secret, .int .i64 token, .string lab, .slice EA n ec, .slice WA m wc] w (SeeR secret token lab rows (evs.map Ev.say) w) := by
  have HT := Lib.hid (token_any secret lab w hlab)
  obtain ⟨tk, htk⟩ : ∃ t, tokF secret lab = t := ⟨_, rfl⟩
  have HTK := Lib.hid htk
  rw [htk] at HT
  clear htk
  have HE := Lib.hid he; have HR := Lib.hid hr; have HOK := Lib.hid hok; have HRK := Lib.hid hrk; have HRL := Lib.hid hrl
  clear he hr hok hrk hrl
  by_cases heq : token = tk
  · subst heq
    have hne : (token != token) = false := by simp
    by_cases hm0 : m = 0
    · subst hm0
      go_enter Tryz.func12, Tryz.ntmps12
      go_wp2
      go_step3
      go_wp2_with (go_at_call 11; (with_reducible refine HT.out.mono ?_); rintro e w1 ⟨rfl, hk1⟩)
      (try rw [Exit.noGoto_ret])
      go_ret2
      refine ⟨hk1, ?_⟩
      have hr0 : rows = [] := List.eq_nil_of_length_eq_zero hm.out.symm
      rw [if_pos HTK.out.symm, if_pos hr0]
      exact ⟨none, 0, 0, rfl, rfl, fun j x hj => by simp at hj⟩
    · have hmz : decide ((m : Int) = 0) = false := by simp; omega
      have hmz2 : ((m : Int) == 0) = false := by simp; omega
      have hmm := @run_makeMap Tryz.prog
      go_enter Tryz.func12, Tryz.ntmps12
      go_wp2
      go_step3
      go_wp2_with (go_at_call 11; (with_reducible refine HT.out.mono ?_); rintro e w1 ⟨rfl, hk1⟩)
      go_step3
      go_wp2
      have K1 := Lib.hid (hk1.alloc (.map #[] 0))
      have S0 : SeenIs (w1.alloc (.map #[] 0)) w1.heap.size [] := StIs.made w1
      have HS0 := Lib.hid S0
      have hlow := hk1.size
      clear S0 hk1 hne hmz hmz2
      go_loopg [34] n (fun g i wx => ∃ k : Nat, k + g = n ∧ i = .int .i64 (k : Int) ∧ Keeps w wx ∧ SeenIs wx w1.heap.size (seenF rows ((evs.map Ev.say).take k)))
      case atStart => exact ⟨0, by omega, rfl, K1.out, HS0.out⟩
      case round =>
        clear K1 HS0
        obtain ⟨k, hkg, rfl, hK, hS⟩ := hrel
        have HK := Lib.hid hK; have HS := Lib.hid hS
        clear hK hS
        cases gk with
        | zero =>
          have hkz : ¬ ((k : Int) < (n : Int)) := by omega
          have hall : (evs.map Ev.say).take k = evs.map Ev.say := List.take_of_length_le (by rw [List.length_map]; have := hn.out; omega)
          have HS2 := Lib.hid (show SeenIs wr w1.heap.size (seenF rows (evs.map Ev.say)) by have := HS.out; rwa [hall] at this)
          have HSO := Lib.hid (sorted28 (seenF rows (evs.map Ev.say)) w1.heap.size wr HS2.out (Lib.hid (by have := seenF_len rows (evs.map Ev.say) []; have := hn.out; unfold seenF; simp only [List.length_map, List.length_nil] at *; omega)))
          clear hall
          go_wp2_with (go_at_call 28; (with_reducible refine HSO.out.mono ?_); rintro e w5 ⟨A5, n5, c5, rfl, ho5⟩; have O5 := Lib.hid ho5; clear ho5)
          (try rw [Exit.noGoto_ret])
          go_ret2
          refine ⟨HK.out.trans O5.out.2, ?_⟩
          have hr0 : ¬ rows = [] := fun e => hm0 (by rw [hm.out, e]; rfl)
          rw [if_pos HTK.out.symm, if_neg hr0]
          exact ⟨A5, n5, c5, rfl, own_lenR O5.out, (O5.out.recs siOk).1⟩
        | succ gk =>
          obtain ⟨v, hv⟩ : ∃ v, evs[k]? = some v := ⟨_, List.getElem?_eq_getElem (by have := hn.out; omega)⟩
          have HSN := Lib.hid (seenF_snoc (rows := rows) (evs := evs.map Ev.say) (k := k) (v := v.say) (by rw [List.getElem?_map, hv]; rfl))
          have HV := Lib.hid ((HOK.out v (List.mem_of_getElem? hv)).keep HK.out)
          obtain ⟨b, o, rfl, hbl, a0, a1, a2, a3⟩ := (HE.out.keep HK.out).ev hv
          obtain ⟨vo, vl, vh, nd, nA, nc⟩ := v
          change World.cell? _ _ = some (.int .i64 vo) at a0
          change World.cell? _ _ = some (.int .i64 vl) at a1
          change World.cell? _ _ = some (.int .i64 vh) at a2
          change World.cell? _ _ = some (.slice nA nd.length nc) at a3
          have kn : (k : Int) < (n : Int) := by omega
          have k0 : (0 : Int) ≤ (k : Int) := by omega
          have kw : IntKind.i64.wrap ((k : Int) + 1) = (k : Int) + 1 := wrap_in (by omega) (by omega)
          obtain ⟨q, hq⟩ : ∃ q, nd.length = q := ⟨_, rfl⟩
          have HQ := Lib.hid hq
          rw [hq] at a3
          clear hv hq
          go_upto_region 10 with fail
          have K3 := Lib.hid (((Keeps.refl wr).alloc (.cells #[.int .i64 vo, .int .i64 vl, .int .i64 vh, .slice nA q nc] 43)).alloc (.cells #[.int .i64 vo, .int .i64 vl, .int .i64 vh] 45))
          have BV := Lib.hid ((Blk.new wr 43 #[.int .i64 vo, .int .i64 vl, .int .i64 vh, .slice nA q nc]).alloc (.cells #[.int .i64 vo, .int .i64 vl, .int .i64 vh] 45))
          have BS := Lib.hid (show Blk ((wr.alloc (.cells #[.int .i64 vo, .int .i64 vl, .int .i64 vh, .slice nA q nc] 43)).alloc (.cells #[.int .i64 vo, .int .i64 vl, .int .i64 vh] 45)) (wr.heap.size + 1) 45 #[.int .i64 vo, .int .i64 vl, .int .i64 vh] by have := Blk.new (wr.alloc (.cells #[.int .i64 vo, .int .i64 vl, .int .i64 vh, .slice nA q nc] 43)) 45 #[.int .i64 vo, .int .i64 vl, .int .i64 vh]; rwa [World.size_alloc] at this)
          generalize hw3 : (wr.alloc (.cells #[.int .i64 vo, .int .i64 vl, .int .i64 vh, .slice nA q nc] 43)).alloc (.cells #[.int .i64 vo, .int .i64 vl, .int .i64 vh] 45) = w3 at *
          clear hw3 a0 a1 a2 a3
          have S3 := Lib.hid (HS.out.keep K3.out)
          have look : (Instr.lookup 78 (.map (some w1.heap.size)) (.agg #[.int .i64 vo, .int .i64 vl, .int .i64 vh]) false).run Tryz.prog w3 = .ok (.bool (decide ((⟨vo, vl, vh⟩ : Si) ∈ seenF rows ((evs.map Ev.say).take k)))) w3 := SeenIs.has S3.out ⟨vo, vl, vh⟩
          have s0 := cell_of_blk BS.out 0 (v := .int .i64 vo) rfl
          have s1 := cell_of_blk BS.out 1 (v := .int .i64 vl) rfl
          have s2 := cell_of_blk BS.out 2 (v := .int .i64 vh) rfl
          obtain ⟨S, hS⟩ : ∃ S, seenF rows ((evs.map Ev.say).take k) = S := ⟨_, rfl⟩
          rw [hS] at look HSN S3
          have HSN2 := Lib.hid (show seenF rows ((evs.map Ev.say).take (k + 1)) = (if (⟨vo, vl, vh⟩ : Si) ∈ S then S else if hitF rows nd then S else S ++ [⟨vo, vl, vh⟩]) from HSN.out)
          clear HSN hS
          by_cases hin : (⟨vo, vl, vh⟩ : Si) ∈ S
          · rw [show decide ((⟨vo, vl, vh⟩ : Si) ∈ S) = true by simpa using hin] at look
            go_wp2_with fail
            go_roundg gk
            case rel =>
              refine ⟨k + 1, by omega, by go_num, HK.out.trans K3.out, ?_⟩
              rw [HSN2.out, if_pos hin]
              exact S3.out
            exact Nat.lt_succ_self gk
          · rw [show decide ((⟨vo, vl, vh⟩ : Si) ∈ S) = false by simpa using hin] at look
            have NS := Lib.hid (NumSet.made w3)
            have K4 := Lib.hid ((Keeps.refl w3).alloc (.map #[] 0))
            go_upto_region 12 with fail
            have n3 := cell_keep (cell_of_blk BV.out 3 (v := .slice nA q nc) rfl) K4.out
            generalize hw4 : w3.alloc (.map #[] 0) = w4 at *
            clear hw4 look s0 s1 s2
            have W4 := Lib.hid (HK.out.trans (K3.out.trans K4.out))
            have HND := Lib.hid ((HV.out.keep (K3.out.trans K4.out)).nd)
            have S4 := Lib.hid (SeenIs.keep' S3.out K4.out)
            have BS4 := Lib.hid (BS.out.below K4.out BS.out.lt)
            have hns : w3.heap.size < w4.heap.size := MapTo.lt NS.out
            have HZ3 := Lib.hid (HK.out.trans K3.out).size
            have HNE := Lib.hid (StIs.lt S3.out)
            have T0 := Lib.hid (cell_of_blk BS4.out 0 (v := .int .i64 vo) rfl)
            have T1 := Lib.hid (cell_of_blk BS4.out 1 (v := .int .i64 vl) rfl)
            have T2 := Lib.hid (cell_of_blk BS4.out 2 (v := .int .i64 vh) rfl)
            go_upto_region 13 with fail
            go_loopw [52, 18] (fun i x wx => ∃ j : Nat, j ≤ q ∧ i = .int .i64 (j : Int) ∧ NumSet wx w3.heap.size (nd.take j) ∧ w4.grownBy wx (some w3.heap.size)) (fun i x _ => q - (intOf i).toNat)
            case atStart => exact ⟨0, by omega, rfl, NS.out, World.grownBy.refl w4 _⟩
            case round =>
              obtain ⟨j, hj, rfl, hNS, hg⟩ := hrel
              have MA : MapAt w4 w3.heap.size := by obtain ⟨L0, ⟨es, cl, h, _⟩, _⟩ := NS.out; exact ⟨es, cl, h⟩
              have hsv := Surv.of_grown MA hg
              have hql := HQ.out
              by_cases hjq : j < q
              · obtain ⟨x, hx⟩ : ∃ x, nd[j]? = some x := ⟨_, List.getElem?_eq_getElem (by omega)⟩
                obtain ⟨nb, no, rfl, hnb, c0⟩ := HND.out.int hx
                have c1 := hsv _ _ c0
                obtain ⟨W', hp, hNS', hg'⟩ := hNS.put x
                have jq : (j : Int) < (q : Int) := by omega
                have j0 : (0 : Int) ≤ (j : Int) := by omega
                have jw : IntKind.i64.wrap ((j : Int) + 1) = (j : Int) + 1 := wrap_in (by omega) (by have := HV.out.len; simp only at this; omega)
                have NS' := Lib.hid (show NumSet W' w3.heap.size (nd.take (j + 1)) by rw [take_snoc' hx]; exact hNS')
                have G' := Lib.hid (World.grownBy.trans hg hg')
                clear hNS hg hNS' hg' hx c0 hsv
                go_wp2_with fail
                go_roundw
                case rel => exact ⟨j + 1, by omega, by go_num, NS'.out, G'.out⟩
                case measure => simp [intOf]; omega
              · obtain rfl : j = q := by omega
                have NF := Lib.hid (show NumSet wr w3.heap.size nd by rwa [List.take_of_length_le (by omega)] at hNS)
                have K5 := Lib.hid (grown_keeps W4.out hg (fun x e => by cases e; exact HZ3.out))
                have S5 := Lib.hid (show SeenIs wr w1.heap.size S from StIs.grown S4.out hg (fun e => by injection e with e; have := HNE.out; omega))
                have t0 := hsv _ _ T0.out
                have t1 := hsv _ _ T1.out
                have t2 := hsv _ _ T2.out
                clear hNS hg hsv
                go_upto_region 18 with fail
                have HR5 := Lib.hid (HR.out.keep K5.out)
                have HRK5 := Lib.hid (show RowsOk wr wr.heap.size rows from fun r hr => (HRK.out r hr).keep K5.out)
                generalize hwz : wr = wz at *
                clear hwz
                go_loopw [61, 20, 22] (fun i y z wx => ∃ i' : Nat, i' ≤ m ∧ i = .int .i64 (i' : Int) ∧ wx = wz ∧ hitF (rows.take i') nd = false) (fun i y z _ => m - (intOf i).toNat)
                case atStart => exact ⟨0, by omega, rfl, rfl, rfl⟩
                case round =>
                  obtain ⟨i, hi, rfl, rfl, hno⟩ := hrel
                  have hml := hm.out
                  by_cases him : i < m
                  · obtain ⟨r, hr⟩ : ∃ r, rows[i]? = some r := ⟨_, List.getElem?_eq_getElem (by omega)⟩
                    have HRR := Lib.hid (HRK5.out r (List.mem_of_getElem? hr))
                    have hrl := HRL.out r (List.mem_of_getElem? hr)
                    have HTS := Lib.hid (take_snoc' hr)
                    obtain ⟨rb, ro, rfl, hrb, c0⟩ := HR5.out.rw_ hr
                    have im : (i : Int) < (m : Int) := by omega
                    have i0 : (0 : Int) ≤ (i : Int) := by omega
                    have iw : IntKind.i64.wrap ((i : Int) + 1) = (i : Int) + 1 := wrap_in (by omega) (by omega)
                    obtain ⟨p, hp⟩ : ∃ p, r.l.length = p := ⟨_, rfl⟩
                    have HP := Lib.hid hp
                    rw [hp] at c0 hrl
                    have HNO := Lib.hid hno
                    clear hr hp hno
                    obtain ⟨rl, rA, rcc⟩ := r
                    simp only at c0 HRR HP
                    go_upto_region 21 with fail
                    clear c0
                    go_loopw [67, 22] (fun a z wx => ∃ j' : Nat, j' ≤ p ∧ a = .int .i64 (j' : Int) ∧ wx = wr ∧ ((rl.take j').any fun x => decide (x ∈ nd)) = false) (fun a z _ => p - (intOf a).toNat)
                    case atStart => exact ⟨0, by omega, rfl, rfl, rfl⟩
                    case round =>
                      obtain ⟨j, hj, rfl, rfl, hnj⟩ := hrel
                      have hpl := HP.out
                      by_cases hjp : j < p
                      · obtain ⟨x, hx⟩ : ∃ x, rl[j]? = some x := ⟨_, List.getElem?_eq_getElem (by omega)⟩
                        obtain ⟨nb, no, rfl, hnb, c1⟩ := HRR.out.int hx
                        have HTX := Lib.hid (take_snoc' hx)
                        have HMX := Lib.hid (List.mem_of_getElem? hx)
                        have look := NumSet.has NF.out x
                        have jp : (j : Int) < (p : Int) := by omega
                        have j0 : (0 : Int) ≤ (j : Int) := by omega
                        have jw : IntKind.i64.wrap ((j : Int) + 1) = (j : Int) + 1 := wrap_in (by omega) (by omega)
                        by_cases hit : x ∈ nd
                        · rw [show decide (x ∈ nd) = true by simpa using hit] at look
                          have HH := Lib.hid (show hitF rows nd = true by
                            unfold hitF
                            rw [List.any_eq_true]
                            refine ⟨⟨rl, some ⟨nb, no, none⟩, rcc⟩, ?_, ?_⟩
                            · exact List.mem_of_mem_take (i := i + 1) (by rw [HTS.out]; simp)
                            · rw [List.any_eq_true]
                              exact ⟨x, HMX.out, by simpa using hit⟩)
                          clear hx hnj
                          go_wp2_with fail
                          go_roundg gk
                          case rel =>
                            refine ⟨k + 1, by omega, by go_num, K5.out, ?_⟩
                            rw [HSN2.out, if_neg hin, if_pos HH.out]
                            exact S5.out
                          exact Nat.lt_succ_self gk
                        · rw [show decide (x ∈ nd) = false by simpa using hit] at look
                          have HNJ := Lib.hid (show ((rl.take (j + 1)).any fun x => decide (x ∈ nd)) = false by
                            rw [HTX.out, List.any_append, hnj]
                            simpa using hit)
                          clear hx hnj
                          go_wp2_with fail
                          go_roundw
                          case rel => exact ⟨j + 1, by omega, by go_num, (by first | rfl | trivial), HNJ.out⟩
                          case measure => simp [intOf]; omega
                      · have HNR := Lib.hid (show hitF (rows.take (i + 1)) nd = false by
                          have h1 := HNO.out
                          unfold hitF at h1 ⊢
                          rw [HTS.out, List.any_append, h1]
                          rw [List.take_of_length_le (by omega)] at hnj
                          simpa using hnj)
                        clear hnj
                        go_wp2_with fail
                        go_roundw
                        case rel => exact ⟨i + 1, by omega, by go_num, (by first | rfl | trivial), HNR.out⟩
                        case measure => simp [intOf]; omega
                  · have HNR := Lib.hid (show hitF rows nd = false by rwa [List.take_of_length_le (by omega)] at hno)
                    obtain ⟨W', hp, hS', hg'⟩ := S5.out.put ⟨vo, vl, vh⟩ hin
                    simp only [siV] at hp
                    have KF := Lib.hid (grown_keeps K5.out hg' (fun x e => by cases e; exact hlow))
                    have SF := Lib.hid hS'
                    clear hno hS' hg'
                    go_wp2_with fail
                    go_roundg gk
                    case rel =>
                      refine ⟨k + 1, by omega, by go_num, KF.out, ?_⟩
                      rw [HSN2.out, if_neg hin, if_neg (by rw [HNR.out]; simp)]
                      exact SF.out
                    exact Nat.lt_succ_self gk
  · have hne : (token != tk) = true := by simpa using heq
    go_enter Tryz.func12, Tryz.ntmps12
    go_wp2
    go_step3
    go_wp2_with (go_at_call 11; (with_reducible refine HT.out.mono ?_); rintro e w1 ⟨rfl, hk1⟩)
    (try rw [Exit.noGoto_ret])
    go_ret2
    refine ⟨hk1, ?_⟩
    rw [if_neg (by rw [HTK.out]; exact heq)]
    rfl
end Go.Proofs.YthkmpegpmpdhaaaGreatDoor
