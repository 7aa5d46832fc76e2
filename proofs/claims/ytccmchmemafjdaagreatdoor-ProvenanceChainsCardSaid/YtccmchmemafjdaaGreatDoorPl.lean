/- Chapter 46: Suspects, the program's: the walk. -/
import Derived.Test.YtccmchmemafjdaaGreatDoorPk
set_option linter.unusedSimpArgs false
set_option linter.unusedVariables false
namespace Go.Proofs.YtccmchmemafjdaaGreatDoor
open Go.RowKit

def PairsOut (xs : List (Int × Int)) (err : Int) (e : Ending) (w' : World) : Prop :=
  ∃ A2 n2 c2, e = .returned (.tuple #[.slice A2 n2 c2, .int .i64 err]) ∧ n2 ≤ 1000000 ∧ Sl w' 0 w'.heap.size 2 encE A2 n2 xs ∧ (err ≠ 0 → A2 = none ∧ n2 = 0 ∧ c2 = 0)
def susS (ls : List Lst) : List (Int × Int) := if chkL ls = 0 then susL ls else []
theorem Tryz.infoPr : (Tryz.prog.info? 59).map (fun i => (i.zero, i.size, i.bytes)) = some (some (.agg #[.int .i64 0, .int .i64 0]), 2, 16) := by kernel_rfl
set_option maxRecDepth 100000 in
set_option maxHeartbeats 4000000 in
theorem psuspects_any (A : Option Addr) (n c : Nat) (ls : List Lst) (w : World) (hn : n ≤ 1000000) (hS : LsS w A n ls) :
    Calls Tryz.prog 30 #[.slice A n c] w fun e w' => PairsOut (susS ls) (chkL ls) e w' ∧ Below w.heap.size w w' := by
  obtain ⟨i0, hi, hz0, hz1, hz2⟩ := info_parts Tryz.infoPr
  have HC := Lib.hid (pcheck_any A n c ls w hn hS)
  have HS := Lib.hid hS; clear hS
  go_enter Tryz.func30, Tryz.ntmps30
  go_wp2_with fail
  go_fit HC.out
  rintro e w1 ⟨rfl, hb1⟩
  by_cases h0 : chkL ls = 0
  · obtain ⟨h64, hv, hnd⟩ := chkL_zero h0
    have HG := Lib.hid (groups_any A n c ls none 0 0 [] w1 (by rw [HS.out.len] at h64; exact h64) (by omega) (HS.out.up hb1) Sl.nil hv hnd (inIds_of hv (by simp)))
    have HV := Lib.hid hv
    have HND := Lib.hid hnd
    have H64 := Lib.hid h64
    have hb0 : (chkL ls == 0) = true := by simpa using h0
    have HZ := Lib.hid h0
    rw [h0] at hb0 ⊢
    clear h0 h64 hv hnd HC
    go_wp2_with fail
    go_fit HG.out
    rintro e w2 ⟨A2, n2, c2, rfl, hn2, hL2, hb2⟩
    have hb3 := below_keep' hb1 hb2
    have HL2 := Lib.hid (show LoS w2 A2 n2 (grpsL ls) from hL2)
    have hn64 : n2 ≤ 64 := by rw [← HL2.out.len]; exact Nat.le_trans (grpsL_count ls) H64.out
    have HB3 := Lib.hid hb3
    clear hL2 HG hb1 hb2
    go_wp2_with fail
    go_loopw [20, 5] (fun i o wr => ∃ (k : Nat) (ps : List (Int × Int)), k ≤ n2 ∧ i = .int .i64 (k : Int) ∧ ps = ((grpsL ls).take k).flatMap (susZ ls) ∧ ps.length ≤ 4096 * k ∧ wr.ownsRow w2.heap.size 59 2 o ps.length (ps.flatMap encE) ∧ Below w2.heap.size w2 wr) (fun i _ _ => n2 - (intOf i).toNat)
    case atStart => exact ⟨0, [], by omega, rfl, by simp, by simp, World.ownsRow_nil _ _ _ _, Below.refl _ _⟩
    case round =>
      obtain ⟨k, ps, hk, rfl, hps, hpl, hown, hb⟩ := hrel
      obtain ⟨Ao, co, rfl, _⟩ := own_form hown
      have HPS := Lib.hid hps; clear hps
      by_cases hlt : k < n2
      · obtain ⟨b, off, z, a, m, cz, rfl, hbb0, hz, c00, hm, hSz0⟩ := HL2.out.at_ hlt
        have c0 := (hb.cell (p := ⟨b, off + k, none⟩) hbb0).trans c00
        have hbb : b < wr.heap.size := Nat.lt_of_lt_of_le hbb0 hb.size
        have HSz0 := Lib.hid (fun (U : World) (hU : Below w2.heap.size w2 U) => Sl.up hSz0 hU (Nat.le_refl _) (Nat.le_refl _))
        have hSz := HSz0.out _ hb
        clear c00 hSz0
        have HZZ := Lib.hid hz
        have HSz := Lib.hid hSz
        have HZL := Lib.hid (Sl.len hSz)
        have hm64 : m ≤ 64 := by rw [← HZL.out]; exact Nat.le_trans (grpsL_len (List.mem_of_getElem? hz)) H64.out
        have HZI := Lib.hid (grpsL_in (List.mem_of_getElem? hz))
        clear hz hSz
        go_wp2_with fail
        obtain ⟨W0, hW0⟩ : ∃ W, W = wr := ⟨_, rfl⟩
        have HW0 := Lib.hid hW0
        go_loopw [26, 5] (fun s o wi => ∃ (i : Nat) (qs : List (Int × Int)), i ≤ m ∧ s = .int .i64 (i : Int) ∧ qs = ((grpsL ls).take k).flatMap (susZ ls) ++ susI ls z i ∧ qs.length ≤ 4096 * k + 64 * i ∧ wi.ownsRow w2.heap.size 59 2 o qs.length (qs.flatMap encE) ∧ Below w2.heap.size w2 wi ∧ Sl wi 0 wi.heap.size 1 encI a m z) (fun s _ _ => m - (intOf s).toNat)
        case atStart => exact ⟨0, ps, by omega, rfl, by rw [HPS.out]; simp [susI], by omega, hown, hb, HSz.out⟩
        case round =>
          clear hown hb hpl HPS
          obtain ⟨i, qs, hi', rfl, hqs, hql, hown, hb, hSz⟩ := hrel
          obtain ⟨Ao, co, rfl, _⟩ := own_form hown
          have HQS := Lib.hid hqs; clear hqs
          have HSz := Lib.hid hSz; clear hSz
          by_cases hlt2 : i < m
          · obtain ⟨bz, oz, r, hAe, hbz, hr, g0⟩ := HSz.out.in_ hlt2
            subst hAe
            have HR := Lib.hid hr; clear hr
            have hmc := hm.2
            have hic : (i : Int) ≤ (cz : Int) := by omega
            have hic2 : i < cz := by omega
            go_wp2_with fail
            go_loopw [35, 5] (fun s o wi => ∃ (j : Nat) (us : List (Int × Int)), j ≤ m - i ∧ s = .int .i64 (j : Int) ∧ us = qs ++ susA ls r ((z.drop i).take j) ∧ us.length ≤ 4096 * k + 64 * i + j ∧ wi.ownsRow w2.heap.size 59 2 o us.length (us.flatMap encE) ∧ Below w2.heap.size w2 wi ∧ Sl wi 0 wi.heap.size 1 encI (some ⟨bz, oz, none⟩) m z) (fun s _ _ => m - (intOf s).toNat)
            case atStart => exact ⟨0, qs, by omega, rfl, by simp [susA], by omega, hown, hb, HSz.out⟩
            case round =>
              clear hown hb HSz
              obtain ⟨j, us, hj, rfl, hus, hul, hown, hb, hSz⟩ := hrel
              obtain ⟨Ao, co, rfl, _⟩ := own_form hown
              have HUS := Lib.hid hus; clear hus
              have HSz := Lib.hid hSz; clear hSz
              by_cases hlt3 : j < m - i
              · obtain ⟨bz', oz', b', hAe', hbz', hb'', g1⟩ := HSz.out.in_ (show i + j < m by omega)
                cases hAe'
                rw [← Nat.add_assoc] at g1
                obtain ⟨p, x, hp, hx, hxa, hpl⟩ := placeI_at (HZI.out r (List.mem_of_getElem? HR.out))
                obtain ⟨q, y, hq, hy, hya, hql⟩ := placeI_at (HZI.out b' (List.mem_of_getElem? hb''))
                have hbw := below_keep' HB3.out hb
                have HFA : Hid (∀ U, Below wr.heap.size wr U → Calls Tryz.prog 52 #[.slice A n c, .int .i64 r] U fun e w' => e = .returned (.int .i64 (p : Int)) ∧ Below U.heap.size U w') := fun U hU => by
                  have := pfind_any A n c ls r U hn (HS.out.up (below_keep' hbw hU))
                  rwa [hp] at this
                have HFB : Hid (∀ U, Below wr.heap.size wr U → Calls Tryz.prog 52 #[.slice A n c, .int .i64 b'] U fun e w' => e = .returned (.int .i64 (q : Int)) ∧ Below U.heap.size U w') := fun U hU => by
                  have := pfind_any A n c ls b' U hn (HS.out.up (below_keep' hbw hU))
                  rwa [hq] at this
                obtain ⟨bl, ol, x', ax, mx, cx, hAx, hbl, hx', e0, e1, hmx, hSx⟩ := HS.out.at_ (i := p) (by rw [← HS.out.len]; exact hpl)
                obtain ⟨bl', ol', y', ay, my, cy, hAy, hbl', hy', f0, f1, hmy, hSy⟩ := HS.out.at_ (i := q) (by rw [← HS.out.len]; exact hql)
                have hxx : x' = x := Option.some.inj (hx'.symm.trans hx)
                have hyy : y' = y := Option.some.inj (hy'.symm.trans hy)
                subst hxx
                subst hyy
                subst hAx
                cases hAy
                have hmx8 : mx ≤ 1000000 := by have := (HV.out x' (List.mem_of_getElem? hx)).2.1; rw [Sl.len hSx] at this; omega
                have hmy8 : my ≤ 1000000 := by have := (HV.out y' (List.mem_of_getElem? hy)).2.1; rw [Sl.len hSy] at this; omega
                have HTW : Hid (∀ U, Below wr.heap.size wr U → Calls Tryz.prog 58 #[.agg #[.int .i64 x'.id, .slice ax mx cx], .agg #[.int .i64 y'.id, .slice ay my cy]] U fun e w' => e = .returned (.bool (twiceB x'.sales y'.sales)) ∧ Below U.heap.size U w') := fun U hU =>
                  ptwice_any x'.id ax mx cx x'.sales y'.id ay my cy y'.sales U hmx8 hmy8 (hSx.up (below_keep' hbw hU)) (hSy.up (below_keep' hbw hU))
                have HTI : Hid (twiceI ls r b' = twiceB x'.sales y'.sales) := by
                  show _ = _
                  unfold twiceI
                  rw [← hxa, ← hya, salesAt_mem HND.out (List.mem_of_getElem? hx), salesAt_mem HND.out (List.mem_of_getElem? hy)]
                have hblw : bl < wr.heap.size := Nat.lt_of_lt_of_le hbl hbw.size
                have E0 := (hbw.cell (p := ⟨bl, ol + p * 2, none⟩) hbl).trans e0
                have E1 := (hbw.cell (p := ⟨bl, ol + p * 2 + 1, none⟩) hbl).trans e1
                have F0 := (hbw.cell (p := ⟨bl, ol + q * 2, none⟩) hbl).trans f0
                have F1 := (hbw.cell (p := ⟨bl, ol + q * 2 + 1, none⟩) hbl).trans f1
                have HB := Lib.hid hb''
                have hpn : p < n := by rw [← HS.out.len]; exact hpl
                have hqn : q < n := by rw [← HS.out.len]; exact hql
                clear e0 e1 f0 f1 hx hy hx' hy' hxa hya hp hq hSx hSy hb''
                generalize twiceB x'.sales y'.sales = tw at *
                have hji : (j : Int) < (m : Int) - (i : Int) := by omega
                go_wp2_with fail
                go_region_held3 (fun U => U.cell? ⟨bl, ol + p * 2, none⟩ = some (.int .i64 x'.id) ∧ U.cell? ⟨bl, ol + p * 2 + 1, none⟩ = some (.slice ax mx cx) ∧ U.cell? ⟨bl, ol + q * 2, none⟩ = some (.int .i64 y'.id) ∧ U.cell? ⟨bl, ol + q * 2 + 1, none⟩ = some (.slice ay my cy) ∧ Below wr.heap.size wr U)
                  (first | exact keep4P E0 E1 F0 F1 hblw hblw hblw hblw (Below.drew (Below.refl _ _)) | exact keep4P E0 E1 F0 F1 hblw hblw hblw hblw (below_keep' (last5P (by assumption)) (by assumption)) | go_keep)
                  (first
                    | (go_at_call 52; refine (HFA.out _ (last5P (by assumption))).mono ?_; rintro e wz ⟨rfl, hbz2⟩)
                    | (go_at_call 52; refine (HFB.out _ (last5P (by assumption))).mono ?_; rintro e wz ⟨rfl, hbz2⟩)
                    | (go_at_call 58; refine (HTW.out _ (last5P (by assumption))).mono ?_; rintro e wz ⟨rfl, hbz2⟩))
                all_goals
                  rename_i hH
                  have hb7 := last5P hH
                  have hb8 := below_keep' hb hb7
                  have hown8 := own_below' hown hb7
                  have hSz8 := Sl.up HSz.out hb7 (Nat.le_refl _) (Nat.le_refl _)
                  have HTI2 := Lib.hid (susA_snoc (ls := ls) (a := r) (zs := z.drop i) (j := j) (b := b') (by rw [List.getElem?_drop]; exact HB.out))
                  clear hH
                  cases tw
                  · have HT : Hid (twiceI ls r b' = false) := HTI.out
                    go_wp2_with fail
                    refine ⟨⟨j + 1, us, by omega, by go_num, ?_, by omega, hown8, hb8, hSz8⟩, by simp [intOf]; omega⟩
                    rw [HTI2.out, HT.out, HUS.out]
                    simp
                  · have HT : Hid (twiceI ls r b' = true) := HTI.out
                    have hs8 := hb8.size
                    go_wp2_with (at_builtin; refine wpList_append_own _ rfl _ _ 43 rfl w2.heap.size 59 i0 (.agg #[.int .i64 0, .int .i64 0]) 2 16 Tryz.underlying43 hi hz0 hz1 hz2 rfl (by decide) _ _ _ rfl (hown8.alloc _) ⟨_, 0, none⟩ 1 1 [.int .i64 r, .int .i64 b'] rfl rfl (cell_list_at rfl _ _) (by simp [Value.oneCell']) (by unfold maxLen; omega) (by omega) (by simp; omega) ?_)
                    intro v' w6 hown6 hgrow _
                    have hb9 := Below.grown (hb8.alloc hs8 (.cells #[.int .i64 r, .int .i64 b'] 59)) hgrow (by simp; omega) (fun g hg => (hown8.lt g hg).1)
                    have hSz9 := HSz0.out _ hb9
                    go_wp2_with fail
                    refine ⟨⟨j + 1, us ++ [(r, b')], by omega, by go_num, ?_, by simp; omega, ?_, hb9, hSz9⟩, by simp [intOf]; omega⟩
                    · rw [HTI2.out, HT.out, HUS.out]
                      simp
                    · rw [List.length_append, List.flatMap_append]
                      exact hown6
              · obtain rfl : j = m - i := by omega
                go_wp2_with fail
                have hlen : (z.drop i).length = m - i := by rw [List.length_drop, HZL.out]
                refine ⟨⟨i + 1, us, by omega, by go_num, ?_, by omega, hown, hb, HSz.out⟩, by simp [intOf]; omega⟩
                rw [HUS.out, HQS.out, susI_snoc, take_all hlen, List.append_assoc]
                congr 2
                rw [List.getD_eq_getElem?_getD, HR.out]
                rfl
          · obtain rfl : i = m := by omega
            go_wp2_with fail
            refine ⟨⟨k + 1, qs, by omega, by go_num, ?_, by omega, hown, hb⟩, by simp [intOf]; omega⟩
            rw [HQS.out, susRaw_snoc HZZ.out, susZ_eq, HZL.out]
      · obtain rfl : k = n2 := by omega
        have HRW : Hid (ps = susRaw ls) := by
          show _ = _
          rw [HPS.out, take_all HL2.out.len]
          rfl
        have HSS : Hid (susS ls = susL ls) := by show _ = _; unfold susS; rw [if_pos HZ.out]
        have hbw := below_keep' HB3.out hb
        rcases hown.2 with ⟨hv0, h0⟩ | ⟨g, cap, cur, hv0, hg, hh, hn3, hcap, _⟩
        · simp only [Value.slice.injEq] at hv0
          obtain ⟨rfl, _, rfl⟩ := hv0
          have HE : Hid (susL ls = []) := by
            show _ = _
            unfold susL
            rw [← HRW.out, List.length_eq_zero_iff.1 h0]
            exact List.mergeSort_nil
          clear hown
          generalize ps.length = len at *
          subst h0
          go_wp2_with fail
          refine (sortPair_none none 0 _ wr).mono ?_
          rintro e w4 ⟨rfl, rfl⟩
          go_wp2_with fail
          refine bodyPost_ret (v := .tuple #[.slice none 0 0, .int .i64 0]) (by simp [results, Tryz.results30, go_sem]) rfl ?_
          exact ⟨by rw [HZ.out, HSS.out, HE.out]; exact ⟨none, 0, 0, rfl, by omega, Sl.nil, fun h => absurd rfl h⟩, hbw⟩
        · simp only [Value.slice.injEq, true_and] at hv0
          obtain ⟨rfl, rfl⟩ := hv0
          have hgl : g < wr.heap.size := (Array.getElem?_eq_some_iff.1 hh).1
          have HSO := Lib.hid (sortPair_any w2.heap.size g ps.length co ps wr hown rfl hg hgl (by omega))
          have hg0 : w.heap.size ≤ g := Nat.le_trans HB3.out.size hg
          clear hown hh
          go_wp2_with fail
          refine HSO.out.mono ?_
          rintro e w4 ⟨rfl, ys, hp, hs, hSy, hg4⟩
          have hb4 : Below w.heap.size w w4 := below_of_map hbw hg4 hg0 (Nat.le_refl _)
          have HYS : Hid (ys = susL ls) := by
            show _ = _
            rw [sus_unique hp hs, HRW.out]
            rfl
          clear hp hs
          go_wp2_with fail
          refine bodyPost_ret (v := .tuple #[.slice (some ⟨g, 0, none⟩) ps.length co, .int .i64 0]) (by simp [results, Tryz.results30, go_sem]) rfl ?_
          exact ⟨by rw [HZ.out, HSS.out, ← HYS.out]; exact ⟨_, _, co, rfl, by omega, hSy.any, fun h => absurd rfl h⟩, hb4⟩
  · have hb0 : (chkL ls == 0) = false := by simpa using h0
    have H0 := Lib.hid h0
    have HP : Hid (susS ls = []) := by show _ = _; unfold susS; rw [if_neg h0]
    clear h0
    go_wp2_with fail
    refine bodyPost_ret (v := .tuple #[.slice none 0 0, .int .i64 (chkL ls)]) (by simp [results, Tryz.results30, go_sem]) rfl ?_
    exact ⟨by rw [HP.out]; exact ⟨none, 0, 0, rfl, by omega, Sl.nil, fun _ => ⟨rfl, rfl, rfl⟩⟩, hb1⟩
end Go.Proofs.YtccmchmemafjdaaGreatDoor
