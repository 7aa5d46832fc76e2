/- Chapter 46: the reference's Joined and Groups: the walk. -/
import Derived.Test.YtccmchmemafjdaaGreatDoorPo
import Derived.RegionTactic
import Derived.BigRegion
set_option linter.unusedSimpArgs false
set_option linter.unusedVariables false
namespace Go.Proofs.YtccmchmemafjdaaGreatDoor
open Go.RowKit

theorem own_swap {w : World} {B g N cap : Nat} {e : TypeId} {s : List Int} {x y : Int} {k : Nat} (h : w.ownsRow B e 1 (.slice (some ⟨g, 0, none⟩) N cap) N ((insT s x (k + 1)).flatMap encI)) (hy : s[k]? = some y) :
    ((w.setCell ⟨g, k + 1, none⟩ (.int .i64 y)).setCell ⟨g, k, none⟩ (.int .i64 x)).ownsRow B e 1 (.slice (some ⟨g, 0, none⟩) N cap) N ((insT s x k).flatMap encI) := by
  have h2 := ((h.stored (k + 1) (.int .i64 y)).1.stored k (.int .i64 x)).1
  have e1 : ∀ xs : List Int, xs.flatMap encI = xs.map (Value.int .i64) := fun xs => flat_one (Value.int .i64) xs
  rw [e1, ← List.map_set, ← List.map_set, insT_swap hy, ← e1] at h2
  exact h2
set_option maxRecDepth 100000 in
set_option maxHeartbeats 8000000 in
theorem rjoined_any (A : Option Addr) (n c : Nat) (ls : List Lst) (A' : Option Addr) (m c' : Nat) (P : List (Int × Int)) (w : World) (hn : n ≤ 1000000) (hm : m ≤ 1000000) (hS : LsS w A n ls) (hP : Sl w 0 w.heap.size 2 encE A' m P) :
    Calls Tryz.prog 26 #[.slice A n c, .slice A' m c'] w fun e w' => GroupsOut ls P (joinE ls P) e w' ∧ Below w.heap.size w w' := by
  obtain ⟨i0, hi, hz0, hz1, hz2⟩ := info_parts Tryz.infoI
  obtain ⟨s0, si, sz0, sz1, sz2⟩ := info_parts Tryz.infoRow
  have HC := Lib.hid (rcheck_any A n c ls w hn hS)
  have HS := Lib.hid hS; clear hS
  have HP := Lib.hid hP
  have HPL := Lib.hid (Sl.len hP); clear hP
  go_enter Tryz.func26, Tryz.ntmps26
  go_wp2_with fail
  go_fit HC.out
  rintro e w1 ⟨rfl, hb1⟩
  by_cases h0 : chkL ls = 0
  · obtain ⟨h64, hv, hnd⟩ := chkL_zero h0
    have HV := Lib.hid hv
    have HND := Lib.hid hnd
    have HL := Lib.hid HS.out.len
    have hn64 : n ≤ 64 := by rw [← HL.out]; exact h64
    have hb0 : (chkL ls != 0) = false := by simp [h0]
    have HZ := Lib.hid h0
    rw [h0] at hb0 ⊢
    clear h0 h64 hv hnd HC
    by_cases hp64 : 64 < m
    · have HJ : Hid (joinE ls P = 6) := by show _ = _; unfold joinE; rw [if_pos HZ.out, if_pos (by rw [HPL.out]; exact hp64)]
      go_wp2_with fail
      refine bodyPost_ret (v := .tuple #[.slice none 0 0, .int .i64 6]) (by simp [results, Tryz.results26, go_sem]) rfl ?_
      exact ⟨by rw [HJ.out]; exact groupsOut_bad (by decide) w1, hb1⟩
    · go_wp2_with fail
      go_loopw [7] (fun i wr => ∃ k : Nat, k ≤ m ∧ i = .int .i64 (k : Int) ∧ (∀ p ∈ P.take k, lostP ls p = false) ∧ Below w.heap.size w wr) (fun i _ => m - (intOf i).toNat)
      case atStart => exact ⟨0, by omega, rfl, by simp, hb1⟩
      case round =>
        clear hb1
        obtain ⟨k, hk, rfl, hl, hb⟩ := hrel
        have HLO := Lib.hid hl; clear hl
        by_cases hlt : k < m
        · obtain ⟨bp, offp, p, rfl, hbp, hp, d0, d1⟩ := Sl.en (Sl.up HP.out hb (Nat.le_refl _) (Nat.le_refl _)) hlt
          have Hp := Lib.hid hp; clear hp
          have HF := Lib.hid (rplace_any A n c ls p.1 wr hn (HS.out.up hb))
          have HG := Lib.hid (rplace_any A n c ls p.2 wr hn (HS.out.up hb))
          go_wp2_with fail
          go_fit HF.out
          rintro e w2 ⟨rfl, rfl⟩
          cases h1 : decide (placeI ls p.1 < 0)
          · go_wp2_with fail
            go_fit HG.out
            rintro e w3 ⟨rfl, rfl⟩
            cases h2 : decide (placeI ls p.2 < 0)
            · have HL : Hid (lostP ls p = false) := by show _ = _; unfold lostP; rw [h1, h2]; rfl
              go_wp2_with fail
              exact ⟨⟨k + 1, by omega, by go_num, all_take (p := fun p => lostP ls p = false) Hp.out HLO.out HL.out, hb⟩, by simp [intOf]; omega⟩
            · have HJ : Hid (joinE ls P = 7) := by
                show _ = _
                unfold joinE
                rw [if_pos HZ.out, if_neg (by rw [HPL.out]; exact hp64), if_pos (any_hit Hp.out (by unfold lostP; rw [h1, h2]; rfl))]
              go_wp2_with fail
              refine bodyPost_ret (v := .tuple #[.slice none 0 0, .int .i64 7]) (by simp [results, Tryz.results26, go_sem]) rfl ?_
              exact ⟨by rw [HJ.out]; exact groupsOut_bad (by decide) _, hb⟩
          · have HJ : Hid (joinE ls P = 7) := by
              show _ = _
              unfold joinE
              rw [if_pos HZ.out, if_neg (by rw [HPL.out]; exact hp64), if_pos (any_hit Hp.out (by unfold lostP; rw [h1]; rfl))]
            go_wp2_with fail
            refine bodyPost_ret (v := .tuple #[.slice none 0 0, .int .i64 7]) (by simp [results, Tryz.results26, go_sem]) rfl ?_
            exact ⟨by rw [HJ.out]; exact groupsOut_bad (by decide) _, hb⟩
        · obtain rfl : k = m := by omega
          have HL2 := HLO.out
          rw [take_all HPL.out] at HL2
          have HJ : Hid (joinE ls P = 0) := by
            show _ = _
            unfold joinE
            rw [if_pos HZ.out, if_neg (by rw [HPL.out]; exact hp64), if_neg (by rw [any_miss HL2]; decide)]
          have HLI := Lib.hid (lost_in HL2)
          have HN := Lib.hid (rnames_any A n c ls A' k c' P wr hn64 (by omega) (HS.out.up hb) (Sl.up HP.out hb (Nat.le_refl _) (Nat.le_refl _)) HV.out HND.out HLI.out)
          have HNM := Lib.hid (nmU_nm (inIds_of HV.out HLI.out))
          clear HL2
          go_wp2_with fail
          go_fit HN.out
          rintro e wN ⟨AN, cN, rfl, hSN, hbN⟩
          have HbN := Lib.hid (below_keep' hb hbN)
          have HSN := Lib.hid hSN
          clear hSN hb hbN HN HLO
          go_wp2_with fail
          go_loopw [9, 10] (fun o t wr => ∃ (i : Nat) (s : List Int), i ≤ n ∧ t = .int .i64 (i : Int) ∧ InsI ls i s ∧ wr.ownsRow wN.heap.size 3 1 o i (s.flatMap encI) ∧ Below wN.heap.size wN wr) (fun _ t _ => n - (intOf t).toNat)
          case atStart => exact ⟨0, [], by omega, rfl, InsI.start ls, World.ownsRow_nil _ _ _ _, Below.refl _ _⟩
          case round =>
            obtain ⟨i, s, hin, rfl, hins, hown, hb⟩ := hrel
            obtain ⟨Ao, co, rfl, _⟩ := own_form hown
            have HINS := Lib.hid hins; clear hins
            by_cases hlt2 : i < n
            · obtain ⟨b, off, x, a, m', c1', rfl, hbb, hx, c0, c1, _, _⟩ := (HS.out.up (below_keep' HbN.out hb)).at_ hlt2
              have HX := Lib.hid hx; clear hx c1
              have hs := hb.size
              have hsl : s.length = i := HINS.out.len (by rw [HL.out]; exact hin)
              go_wp2_with (at_builtin; refine wpList_append_own _ rfl _ _ 40 rfl wN.heap.size 3 i0 (.int .i64 0) 1 8 Tryz.underlying40 hi hz0 hz1 hz2 rfl (by decide) _ _ _ rfl (hown.alloc _) ⟨wr.heap.size, 0, none⟩ 1 1 [.int .i64 x.id] rfl rfl ?c1 ?c2 ?c3 ?c4 ?c5 ?_)
              case c1 => exact cell_list_at rfl _ _
              case c2 => simp [Value.oneCell']
              case c3 => unfold maxLen; omega
              case c4 => omega
              case c5 => simp; omega
              intro v' w6 hown6 hgrow _
              have hb6 : Below wN.heap.size wN w6 := Below.grown (hb.alloc hs _) hgrow (by simp; omega) (fun g hg => (hown.lt g hg).1)
              obtain ⟨g, cq, hv⟩ := ownsRow_succ hown6
              subst hv
              have hown7 : w6.ownsRow wN.heap.size 3 1 (.slice (some ⟨g, 0, none⟩) (i + 1) cq) (i + 1) ((insT s x.id i).flatMap encI) := by
                rw [← hsl, insT_start, List.flatMap_append, hsl]
                exact hown6
              clear hown6 hgrow hown hb c0
              go_wp2_with fail
              go_loopw [11] (fun t wq => ∃ k : Nat, k ≤ i ∧ t = .int .i64 (k : Int) ∧ (∀ y ∈ s.drop k, x.id < y) ∧ wq.ownsRow wN.heap.size 3 1 (.slice (some ⟨g, 0, none⟩) (i + 1) cq) (i + 1) ((insT s x.id k).flatMap encI) ∧ Below wN.heap.size wN wq) (fun t _ => (intOf t).toNat)
              case atStart => exact ⟨i, Nat.le_refl _, rfl, by rw [List.drop_of_length_le (by omega)]; simp, hown7, hb6⟩
              case round =>
                clear hown7 hb6
                obtain ⟨k, hki, rfl, hgt, hown, hb⟩ := hrel
                have HGT := Lib.hid hgt; clear hgt
                have HIX : Hid ((k = 0 ∨ ∃ y, s[k - 1]? = some y ∧ ¬ x.id < y) → InsI ls (i + 1) (insT s x.id k)) := fun h => HINS.out.snoc HND.out HX.out (by omega) HGT.out h
                rcases Nat.eq_zero_or_pos k with rfl | hk0
                · go_wp2_with fail
                  go_quiet (fail)
                  go_wp2_with fail
                  exact ⟨⟨i + 1, insT s x.id 0, by omega, by go_num, HIX.out (by simp), own_below' hown (below_drewN (Below.refl _ _) _), below_drewN hb _⟩, by simp [intOf]; omega⟩
                · obtain ⟨kp, rfl⟩ : ∃ kp, k = kp + 1 := ⟨k - 1, by omega⟩
                  obtain ⟨y, hy⟩ : ∃ y, s[kp]? = some y := ⟨_, List.getElem?_eq_getElem (by omega)⟩
                  have HY := Lib.hid hy
                  have hBX := Bx.of_ownI hown (by rw [insT_len (by omega)]; omega)
                  have cx := hBX.atI (insT_at (s := s) (x := x.id) (k := kp + 1) (by omega))
                  have cy := hBX.atI (insT_before (x := x.id) hy)
                  have fx := hBX.frz (kp + 1)
                  have fy := hBX.frz kp
                  have gl := hBX.lt
                  have hOW := Lib.hid hown; clear hown
                  have HBB := Lib.hid hb; clear hb
                  have k1 : (kp : Int) + 1 < (i : Int) + 1 := by omega
                  have k2 : (kp : Int) < (i : Int) + 1 := by omega
                  have k3 : (0 : Int) ≤ (kp : Int) + 1 := by omega
                  have k4 : (0 : Int) ≤ (kp : Int) := by omega
                  have k5 : (0 : Int) < (kp : Int) + 1 := by omega
                  have k6 : IntKind.i64.wrap (kp : Int) = (kp : Int) := by rw [IntKind.wrap_i64]; omega
                  have k7 : ((kp : Int) + 1).toNat = kp + 1 := by omega
                  clear hy hBX hk0
                  by_cases hlv : x.id < y
                  · go_wp2_with fail
                    go_quiet (fail)
                    go_wp2_with fail
                    go_region
                    all_goals go_wp2_with fail
                    refine ⟨⟨kp, by omega, by go_num, drop_gt HY.out hlv HGT.out, own_below' (own_swap (own_below' hOW.out (below_drewN (Below.refl _ _) nq)) HY.out) (Below.drew (Below.refl _ _)), ?_⟩, by simp [intOf]⟩
                    have hg0 := (hOW.out.lt g rfl).1
                    exact Below.drew (((below_drewN HBB.out nq).setCell hg0 _).setCell hg0 _)
                  · go_wp2_with fail
                    go_quiet (fail)
                    go_wp2_with fail
                    exact ⟨⟨i + 1, insT s x.id (kp + 1), by omega, by go_num, HIX.out (.inr ⟨y, by simpa using HY.out, hlv⟩), own_below' hOW.out (below_drewN (Below.refl _ _) _), below_drewN HBB.out _⟩, by simp [intOf]; omega⟩
            · obtain rfl : i = n := by omega
              rename World => wI
              have hsl : s.length = i := HINS.out.len (by rw [HL.out]; exact hin)
              have HSS : Hid (s = sortI (idsL ls)) := by
                have h := HINS.out
                rw [← HL.out] at h
                exact h.all HND.out
              have HSI : Hid (Sl wI 0 wI.heap.size 1 encI Ao i s) := (Sl.of_own encI_len hown hsl).any
              have HSM : Hid (∀ a ∈ s, a ∈ idsL ls) := fun a ha => by rw [HSS.out] at ha; exact (sortI_mem _ _).1 ha
              have HNU : Hid (Sl wI 0 wI.heap.size 1 encI AN i ((idsL ls).map (nmU ls P))) := Sl.up HSN.out hb (Nat.le_refl _) (Nat.le_refl _)
              have HbI := Lib.hid (below_keep' HbN.out hb)
              have HGR : Hid (grpsT s (nmU ls P) i = groupsOf (idsL ls) (nmU ls P)) := by
                show _ = _
                rw [← hsl, HSS.out, grpsT_all]
                exact groupsR_eq HNM.out.mem (fun a ha => HNM.out.idem ha)
              clear hown hb HINS HSN
              go_wp2_with fail
              go_loopw [12, 13] (fun o t wr => ∃ (k : Nat) (vs : List Value), k ≤ i ∧ t = .int .i64 (k : Int) ∧ wr.ownsRow wI.heap.size 40 1 o vs.length vs ∧ RoD wr o.ownBlock vs (grpsT s (nmU ls P) k) ∧ Below wI.heap.size wI wr) (fun _ t _ => i - (intOf t).toNat)
              case atStart => exact ⟨0, [], by omega, rfl, World.ownsRow_nil _ _ _ _, by simpa [grpsT] using RoD.start wI _, Below.refl _ _⟩
              case round =>
                rename World => wo
                obtain ⟨k, vs, hk, rfl, hown, hrd, hb⟩ := hrel
                obtain ⟨Ag, cg, rfl, _⟩ := own_form hown
                have hvl : vs.length ≤ k := by rw [hrd.len]; exact grpsT_len
                by_cases hlt3 : k < i
                · obtain ⟨bI, oI, r, rfl, hbI, hr, g0⟩ := (Sl.up HSI.out hb (Nat.le_refl _) (Nat.le_refl _)).in_ hlt3
                  have HR := Lib.hid hr
                  have HOWN := Lib.hid hown
                  have HRD := Lib.hid hrd
                  have HBO := Lib.hid hb
                  clear hr hown hrd hb
                  go_wp2_with fail
                  go_loopw [14, 15] (fun o t wr => ∃ (j : Nat) (gr : List Int), j ≤ i ∧ t = .int .i64 (j : Int) ∧ wr.ownsRow wo.heap.size 3 1 o gr.length (gr.flatMap encI) ∧ gr = (s.take j).filter (fun a => decide (nmU ls P a = r)) ∧ gr.length ≤ j ∧ Below wo.heap.size wo wr) (fun _ t _ => i - (intOf t).toNat)
                  case atStart => exact ⟨0, [], by omega, rfl, World.ownsRow_nil _ _ _ _, by simp, by simp, Below.refl _ _⟩
                  case round =>
                    rename World => wi
                    obtain ⟨j, gr, hj, rfl, hown, hgr, hgl, hb⟩ := hrel
                    obtain ⟨Ar, cr, rfl, hcr⟩ := own_form hown
                    have HGL := Lib.hid hgr; clear hgr
                    by_cases hlt4 : j < i
                    · have hbw := below_keep' HBO.out hb
                      obtain ⟨bI', oI', a, hAe, hbI', ha, g1⟩ := (Sl.up HSI.out hbw (Nat.le_refl _) (Nat.le_refl _)).in_ hlt4
                      cases hAe
                      obtain ⟨p, x, hp, hx, hxa, hpl⟩ := placeI_at (HSM.out a (List.mem_of_getElem? ha))
                      have hpn : p < i := by rw [← HL.out]; exact hpl
                      have g0' : wi.cell? ⟨bI, oI + k, none⟩ = some (.int .i64 r) := (hb.cell (p := ⟨bI, oI + k, none⟩) hbI).trans g0
                      obtain ⟨bN, oN, z, rfl, hbN, hz, n0⟩ := (Sl.up HNU.out hbw (Nat.le_refl _) (Nat.le_refl _)).in_ hpn
                      have HZA : Hid (z = nmU ls P a) := by
                        show _ = _
                        rw [List.getElem?_map] at hz
                        unfold idsL at hz
                        rw [List.getElem?_map, hx] at hz
                        rw [← hxa]
                        simpa using hz.symm
                      have HFA : Hid (∀ U, Below wi.heap.size wi U → Calls Tryz.prog 53 #[.slice A i c, .int .i64 a] U fun e w' => e = .returned (.int .i64 (p : Int)) ∧ Below U.heap.size U w') := fun U hU => by
                        have := rplace_any A i c ls a U hn (HS.out.up (below_keep' (below_keep' HbI.out hbw) hU))
                        rw [hp] at this
                        exact this.mono fun e w' ⟨h1, h2⟩ => ⟨h1, by rw [h2]; exact Below.refl _ _⟩
                      have HAA := Lib.hid ha
                      have hpi : (p : Int) < (i : Int) := by omega
                      have hji : (j : Int) < (i : Int) := by omega
                      have hki : (k : Int) < (i : Int) := by omega
                      clear hp hx hxa hz ha hbw
                      cases he : (z == r)
                      · have HE : Hid (decide (nmU ls P a = r) = false) := by show _ = _; rw [← HZA.out]; simpa using he
                        go_wp2_with fail
                        go_region_held3 (fun U => U.cell? ⟨bI, oI + j, none⟩ = some (.int .i64 a) ∧ U.cell? ⟨bN, oN + p, none⟩ = some (.int .i64 z) ∧ U.cell? ⟨bI, oI + k, none⟩ = some (.int .i64 r) ∧ U.cell? ⟨bI, oI + k, none⟩ = some (.int .i64 r) ∧ Below wi.heap.size wi U)
                          (first | exact keep4P g1 n0 g0' g0' hbI' hbN hbI' hbI' (Below.drew (Below.refl _ _)) | exact keep4P g1 n0 g0' g0' hbI' hbN hbI' hbI' (below_keep' (last5P (by assumption)) (by assumption)) | go_keep)
                          ((go_at_call 53; refine (HFA.out _ (last5P (by assumption))).mono ?_; rintro e wz ⟨rfl, hbz2⟩))
                        all_goals
                          rename_i hH
                          have hb7 := last5P hH
                          have hb8 := below_keep' hb hb7
                          have hown8 := own_below' hown hb7
                          clear hH
                          go_wp2_with fail
                          refine ⟨⟨j + 1, gr, by omega, by go_num, hown8, ?_, by omega, hb8⟩, by simp [intOf]; omega⟩
                          rw [filt_snoc HAA.out, HE.out, ← HGL.out]
                          simp
                      · have HE : Hid (decide (nmU ls P a = r) = true) := by show _ = _; rw [← HZA.out]; simpa using he
                        go_wp2_with fail
                        go_region_held3 (fun U => U.cell? ⟨bI, oI + j, none⟩ = some (.int .i64 a) ∧ U.cell? ⟨bN, oN + p, none⟩ = some (.int .i64 z) ∧ U.cell? ⟨bI, oI + k, none⟩ = some (.int .i64 r) ∧ U.cell? ⟨bI, oI + k, none⟩ = some (.int .i64 r) ∧ Below wi.heap.size wi U)
                          (first | exact keep4P g1 n0 g0' g0' hbI' hbN hbI' hbI' (Below.drew (Below.refl _ _)) | exact keep4P g1 n0 g0' g0' hbI' hbN hbI' hbI' (below_keep' (last5P (by assumption)) (by assumption)) | go_keep)
                          ((go_at_call 53; refine (HFA.out _ (last5P (by assumption))).mono ?_; rintro e wz ⟨rfl, hbz2⟩))
                        all_goals
                          rename_i hH
                          rename World => w8
                          have hb7 := last5P hH
                          have g1' := hH.1
                          have hb8 := below_keep' hb hb7
                          have hown8 := own_below' hown hb7
                          have hs8 := hb8.size
                          clear hH hown
                          go_wp2_with (at_builtin; refine wpList_append_own _ rfl _ _ 40 rfl wo.heap.size 3 i0 (.int .i64 0) 1 8 Tryz.underlying40 hi hz0 hz1 hz2 rfl (by decide) _ _ _ rfl (hown8.alloc _) ⟨w8.heap.size, 0, none⟩ 1 1 [.int .i64 a] rfl rfl ?c1 ?c2 ?c3 ?c4 ?c5 ?_)
                          case c1 => exact cell_list_at rfl _ _
                          case c2 => simp [Value.oneCell']
                          case c3 => unfold maxLen; omega
                          case c4 => omega
                          case c5 => simp; omega
                          intro v' w6 hown6 hgrow _
                          have hb6 : Below wo.heap.size wo w6 := Below.grown (hb8.alloc hs8 _) hgrow (by simp; omega) (fun g hg => (hown8.lt g hg).1)
                          go_wp2_with fail
                          refine ⟨⟨j + 1, gr ++ [a], by omega, by go_num, ?_, ?_, by simp; omega, hb6⟩, by simp [intOf]; omega⟩
                          · rw [List.length_append, List.flatMap_append]
                            exact hown6
                          · rw [filt_snoc HAA.out, HE.out, ← HGL.out]
                            simp
                    · obtain rfl : j = i := by omega
                      have HGF : Hid (gr = s.filter (fun a => decide (nmU ls P a = r))) := by
                        show _ = _
                        rw [HGL.out, take_all hsl]
                      have hownO := own_below' HOWN.out hb
                      have hrdO := HRD.out.up hb
                      have hbI2 := below_keep' HBO.out hb
                      have hs2 := hbI2.size
                      by_cases h0 : gr.length = 0
                      · have HSN2 : Hid (grpsT s (nmU ls P) (k + 1) = grpsT s (nmU ls P) k) := by
                          show _ = _
                          rw [grpsT_snoc HR.out, ← HGF.out, List.length_eq_zero_iff.1 h0]
                          simp
                        have HRO := Lib.hid hrdO
                        clear hown hrdO
                        go_wp2_with fail
                        exact ⟨⟨k + 1, vs, by omega, by go_num, hownO, by rw [HSN2.out]; exact HRO.out, hbI2⟩, by simp [intOf]; omega⟩
                      · have HSN2 : Hid (grpsT s (nmU ls P) (k + 1) = grpsT s (nmU ls P) k ++ [gr]) := by
                          show _ = _
                          rw [grpsT_snoc HR.out, ← HGF.out]
                          have : gr.isEmpty = false := by rw [List.isEmpty_eq_false_iff]; intro e; exact h0 (by rw [e]; rfl)
                          rw [this]
                          rfl
                        have HSG : Hid (Sl wi wo.heap.size wi.heap.size 1 encI Ar gr.length gr) := Sl.of_own encI_len hown rfl
                        have HRO := Lib.hid hrdO
                        have HOL := Lib.hid (fun g hg => (HOWN.out.lt g hg).2)
                        have hg0 : (0 : Int) < (gr.length : Int) := by omega
                        clear hown hrdO
                        go_wp2_with (at_builtin; refine wpList_append_own_at _ rfl _ _ 35 rfl wI.heap.size 40 s0 (.slice none 0 0) 1 24 Tryz.underlying35 si sz0 sz1 sz2 rfl (by decide) _ _ _ rfl (hownO.alloc _) ⟨wi.heap.size, 0, none⟩ 1 1 [.slice Ar gr.length cr] rfl rfl ?c1 ?c2 ?c3 ?c4 ?c5 ?_)
                        case c1 => exact cell_list_at rfl _ _
                        case c2 => simp [Value.oneCell']
                        case c3 => unfold maxLen; omega
                        case c4 => omega
                        case c5 => simp; omega
                        intro v' w6 hown6 hgrow _ hat
                        have hb26 : Below wI.heap.size wI w6 := Below.grown (hbI2.alloc hs2 _) hgrow (by simp; omega) (fun g hg => (hownO.lt g hg).1)
                        have hrd6 := ((HRO.out.up (one_alloc wi (.cells #[.slice Ar gr.length cr] 40))).snoc (a := Ar) (m := gr.length) (c := cr) (z := gr) ⟨by omega, hcr⟩ (Sl.up (Sl.any HSG.out) (one_alloc wi _) (Nat.le_refl _) (Nat.le_refl _)) (fun b off hA h0 e => by
                          obtain ⟨g, o, f1, f2, _⟩ := HSG.out.2 h0
                          rw [hA] at f1
                          cases f1
                          have := HOL.out b e.symm
                          omega)).grown (row' := v'.ownBlock) hgrow (by rw [World.size_alloc]; exact hat)
                        have HRD6 := Lib.hid hrd6
                        clear hrd6 hat hgrow
                        go_wp2_with fail
                        refine ⟨⟨k + 1, vs ++ [.slice Ar gr.length cr], by omega, by go_num, ?_, by rw [HSN2.out]; exact HRD6.out, hb26⟩, by simp [intOf]; omega⟩
                        rw [List.length_append]
                        exact hown6
                · obtain rfl : k = i := by omega
                  have HLO2 : Hid (LoS wo Ag vs.length (groupsOf (idsL ls) (nmU ls P))) := by
                    rw [HGR.out] at hrd
                    refine hrd.los ?_
                    refine (Sl.of_own (k := 1) (enc := fun v : Value => [v]) (fun _ => rfl) (base := wI.heap.size) (e := 40) (c := cg) ?_ rfl).any
                    rw [flat_one (fun v : Value => v), List.map_id']
                    exact hown
                  have HBO := Lib.hid (below_keep' HbI.out hb)
                  clear hown hrd hb
                  go_wp2_with fail
                  refine bodyPost_ret (v := .tuple #[.slice Ag vs.length cg, .int .i64 0]) (by simp [results, Tryz.results26, go_sem]) rfl ?_
                  exact ⟨by rw [HJ.out]; exact groupsOut_ok (by omega) HLO2.out, HBO.out⟩
  · have hb0 : (chkL ls != 0) = true := by simpa using h0
    have H0 := Lib.hid h0
    have HJ : Hid (joinE ls P = chkL ls) := by show _ = _; unfold joinE; rw [if_neg h0]
    clear h0
    go_wp2_with fail
    refine bodyPost_ret (v := .tuple #[.slice none 0 0, .int .i64 (chkL ls)]) (by simp [results, Tryz.results26, go_sem]) rfl ?_
    exact ⟨by rw [HJ.out]; exact groupsOut_bad H0.out w1, hb1⟩
end Go.Proofs.YtccmchmemafjdaaGreatDoor
