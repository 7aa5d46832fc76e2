/- Chapter 46: Reduced, the program's: the walk. -/
import Derived.Test.YtccmchmemafjdaaGreatDoorPg
set_option linter.unusedSimpArgs false
set_option linter.unusedVariables false
namespace Go.Proofs.YtccmchmemafjdaaGreatDoor
open Go.RowKit

theorem grpsL_head {ls : List Lst} {z : List Int} (hz : z ∈ grpsL ls) : ∃ r t, z = r :: t := by
  unfold grpsL groupsOf at hz
  obtain ⟨r, hr, rfl⟩ := List.mem_map.1 hz
  rw [List.mem_filter, sortI_mem, decide_eq_true_iff] at hr
  have hm : r ∈ grpOf (idsL ls) (nmU ls []) r := mem_grp.2 hr
  cases h : grpOf (idsL ls) (nmU ls []) r with
  | nil => rw [h] at hm; cases hm
  | cons a t => exact ⟨a, t, rfl⟩
set_option maxRecDepth 100000 in
set_option maxHeartbeats 4000000 in
theorem preduced_any (A : Option Addr) (n c : Nat) (ls : List Lst) (w : World) (hn : n ≤ 1000000) (hS : LsS w A n ls) :
    Calls Tryz.prog 33 #[.slice A n c] w fun e w' => ListsOut (redS ls) (redE ls) e w' ∧ Below w.heap.size w w' := by
  obtain ⟨i0, hi, hz0, hz1, hz2⟩ := info_parts Tryz.infoLst
  have HC := Lib.hid (pcheck_any A n c ls w hn hS)
  have HS := Lib.hid hS; clear hS
  go_enter Tryz.func33, Tryz.ntmps33
  go_wp2_with fail
  go_fit HC.out
  rintro e w1 ⟨rfl, hb1⟩
  by_cases h0 : chkL ls = 0
  · obtain ⟨h64, hv, hnd⟩ := chkL_zero h0
    have HG := Lib.hid (groups_any A n c ls none 0 0 [] w1 (by rw [HS.out.len] at h64; exact h64) (by omega) (HS.out.up hb1) Sl.nil hv hnd (inIds_of hv (by simp)))
    have HV := Lib.hid hv
    have HND := Lib.hid hnd
    have H64 := Lib.hid h64
    have hb0 : (chkL ls == 0) = true := by simpa using h0
    have HZ := Lib.hid h0
    rw [h0] at hb0 ⊢
    clear h0 h64 hv hnd HC
    go_wp2_with fail
    go_fit HG.out
    rintro e w2 ⟨A2, n2, c2, rfl, hn2, hL2, hb2⟩
    have hb3 := below_keep' hb1 hb2
    have HL2 := Lib.hid (show LoS w2 A2 n2 (grpsL ls) from hL2)
    have hn64 : n2 ≤ 64 := by rw [← HL2.out.len]; exact Nat.le_trans (grpsL_count ls) H64.out
    have HB3 := Lib.hid hb3
    clear hL2 HG hb1 hb2
    go_wp2_with fail
    go_loopw [17, 5] (fun i o wr => ∃ (k : Nat) (vs : List LV), k ≤ n2 ∧ i = .int .i64 (k : Int) ∧ (∀ z ∈ (grpsL ls).take k, decide (8 < (salesOf ls z).length) = false) ∧ wr.ownsRow w2.heap.size 24 2 o k (vs.flatMap encLV) ∧ vs.length = k ∧ RdS wr o.ownBlock vs (((grpsL ls).take k).map (redL ls)) ∧ Below w2.heap.size w2 wr) (fun i _ _ => n2 - (intOf i).toNat)
    case atStart => exact ⟨0, [], by omega, rfl, by simp, World.ownsRow_nil _ _ _ _, rfl, RdS.start _ _, Below.refl _ _⟩
    case round =>
      obtain ⟨k, vs, hk, rfl, hno, hown, hvl, hrd, hb⟩ := hrel
      obtain ⟨Ao, co, rfl, _⟩ := own_form hown
      have HNO := Lib.hid hno; clear hno
      have hbw := below_keep' HB3.out hb
      by_cases hlt : k < n2
      · obtain ⟨b, off, z, a, m, cz, rfl, hbb, hz, c0, hm, hSz⟩ := (HL2.out.up hb).at_ hlt
        have HZZ := Lib.hid hz
        have HZM := Lib.hid (List.mem_of_getElem? hz)
        have HSz := Lib.hid hSz
        have HZL := Lib.hid (Sl.len hSz)
        have HPS := Lib.hid (psales_any A n c ls a m cz z wr (by rw [← HS.out.len]; exact H64.out) (by rw [← HZL.out]; exact Nat.le_trans (grpsL_len HZM.out) H64.out) (HS.out.up hbw) hSz HV.out HND.out (grpsL_in HZM.out))
        obtain ⟨r, t, hzr⟩ := grpsL_head HZM.out
        have HZR := Lib.hid hzr; clear hzr
        have hm0 : 0 < m := by rw [← HZL.out, HZR.out]; simp
        clear hz hSz
        go_wp2_with fail
        go_fit HPS.out
        rintro e w5 ⟨A3, n3, c3, rfl, hn3, hS3, hb5⟩
        have HSL := Lib.hid (Sl.len hS3)
        have hbw5 := below_keep' hbw hb5
        by_cases h8 : 8 < n3
        · have HE : Hid (redE ls = 6) := by
            show _ = _
            unfold redE
            rw [if_pos HZ.out, if_pos (any_hit HZZ.out (by rw [HSL.out]; exact decide_eq_true h8))]
          have HP : Hid (redS ls = []) := by show _ = _; unfold redS; rw [HE.out]; rfl
          clear hS3 hown hrd
          go_wp2_with fail
          refine bodyPost_ret (v := .tuple #[.slice none 0 0, .int .i64 6]) (by simp [results, Tryz.results33, go_sem]) rfl ?_
          exact ⟨by rw [HE.out, HP.out]; exact ⟨none, 0, 0, rfl, by omega, LsS.nil, fun _ => ⟨rfl, rfl, rfl⟩⟩, hbw5⟩
        · obtain ⟨bz, oz, r', e1, hbz, hr', g0⟩ := Sl.in_ (Sl.up HSz.out hb5 (Nat.le_refl _) (Nat.le_refl _)) hm0
          have : r' = r := by rw [HZR.out] at hr'; simpa using hr'.symm
          subst this
          subst e1
          rw [Nat.add_zero] at g0
          have hown5 := own_below' hown hb5
          have hrd5 := hrd.up hb5
          have HS3 := Lib.hid hS3
          have HRD := Lib.hid hrd5
          have hg0 : wr.heap.size ≤ w5.heap.size := hb5.size
          have HOLT := Lib.hid (fun g hg => hown.lt g hg)
          have hb25 : Below w2.heap.size w2 w5 := below_keep' hb hb5
          have hs25 := hb25.size
          clear hown hrd hrd5 hS3 hr' HPS
          go_wp2_with (at_builtin; refine wpList_append_own_at _ rfl _ _ 33 rfl w2.heap.size 24 i0 (.agg #[.int .i64 0, .slice none 0 0]) 2 32 Tryz.underlying33 hi hz0 hz1 hz2 rfl (by decide) _ _ _ rfl (hown5.alloc _) ⟨w5.heap.size, 0, none⟩ 1 1 [.int .i64 r', .slice A3 n3 c3] rfl rfl ?c1 ?c2 ?c3 ?c4 ?c5 ?_)
          case c1 => exact cell_list_at rfl _ _
          case c2 => simp [Value.oneCell']
          case c3 => unfold maxLen; omega
          case c4 => omega
          case c5 => simp; omega
          intro v' w6 hown6 hgrow _ hat
          have hb26 : Below w2.heap.size w2 w6 := Below.grown (hb25.alloc hs25 _) hgrow (by simp; omega) (fun g hg => (hown5.lt g hg).1)
          have hrd6 := ((HRD.out.up (one_alloc w5 (.cells #[.int .i64 r', .slice A3 n3 c3] 24))).snoc (v := ⟨r', A3, n3, c3⟩) (r := redL ls z) (by unfold redL; rw [HZR.out]; rfl) (show n3 ≤ maxLen by unfold maxLen; omega) (SaS.up (Sl.any HS3.out) (one_alloc w5 _)) (fun b off hA h0 e => by
            obtain ⟨g, o, f1, f2, _⟩ := HS3.out.2 h0
            change A3 = _ at hA
            rw [hA] at f1
            cases f1
            have := (HOLT.out b e.symm).2
            omega)).grown (row' := v'.ownBlock) hgrow (by rw [World.size_alloc]; exact hat)
          have HRD6 := Lib.hid hrd6
          have h8i : decide (8 < (salesOf ls z).length) = false := by rw [HSL.out]; exact decide_eq_false h8
          have HNO' := Lib.hid (all_take (p := fun z => decide (8 < (salesOf ls z).length) = false) HZZ.out HNO.out h8i)
          clear hrd6 hat hgrow h8i
          go_wp2_with fail
          refine ⟨⟨k + 1, vs ++ [⟨r', A3, n3, c3⟩], by omega, by go_num, HNO'.out, ?_, by simp [hvl], ?_, hb26⟩, by simp [intOf]; omega⟩
          · rw [List.flatMap_append]; exact hown6
          · rw [take_snocS HZZ.out, List.map_append]; exact HRD6.out
      · obtain rfl : k = n2 := by omega
        have hno := HNO.out
        rw [take_all HL2.out.len] at hno hrd
        have HE : Hid (redE ls = 0) := by
          show _ = _
          unfold redE
          rw [if_pos HZ.out, if_neg (by rw [any_miss hno]; decide)]
        have HP : Hid (redS ls = (grpsL ls).map (redL ls)) := by show _ = _; unfold redS; rw [if_pos HE.out]
        have HLS : Hid (LsS wr Ao k ((grpsL ls).map (redL ls))) := by
          refine ⟨vs, (Sl.of_own encLV_len hown hvl).any, hrd.len, fun i v x hv hx => ?_⟩
          obtain ⟨k1, k2, k3, _⟩ := hrd.each i v x hv hx
          exact ⟨k1, k2, k3⟩
        clear hno hown hrd
        go_wp2_with fail
        refine bodyPost_ret (v := .tuple #[.slice Ao k co, .int .i64 0]) (by simp [results, Tryz.results33, go_sem]) rfl ?_
        exact ⟨by rw [HE.out, HP.out]; exact ⟨Ao, k, co, rfl, by omega, HLS.out, fun h => absurd rfl h⟩, hbw⟩
  · have hb0 : (chkL ls == 0) = false := by simpa using h0
    have H0 := Lib.hid h0
    have HE : Hid (redE ls = chkL ls) := by show _ = _; unfold redE; rw [if_neg h0]
    have HP : Hid (redS ls = []) := by show _ = _; unfold redS; rw [HE.out, if_neg h0]
    clear h0
    go_wp2_with fail
    refine bodyPost_ret (v := .tuple #[.slice none 0 0, .int .i64 (chkL ls)]) (by simp [results, Tryz.results33, go_sem]) rfl ?_
    exact ⟨by rw [HE.out, HP.out]; exact ⟨none, 0, 0, rfl, by omega, LsS.nil, fun _ => ⟨rfl, rfl, rfl⟩⟩, hb1⟩
end Go.Proofs.YtccmchmemafjdaaGreatDoor
