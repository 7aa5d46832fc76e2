/- Chapter 46: the reference's Suspects: the walk. -/
import Derived.Test.YtccmchmemafjdaaGreatDoorPs
import Derived.Test.YtccmchmemafjdaaGreatDoorPl
import Derived.StillTailTactics
import Derived.RegionTactic
import Derived.Deep.AppendLies
import Derived.BigRegion
set_option linter.unusedSimpArgs false
set_option linter.unusedVariables false
namespace Go.Proofs.YtccmchmemafjdaaGreatDoor
open Go.RowKit

theorem susI_sub {ls : List Lst} {z : List Int} {i : Nat} : ∀ m, i ≤ m → (susI ls z i).Sublist (susI ls z m)
  | 0, h => by obtain rfl : i = 0 := by omega
               exact List.Sublist.refl _
  | m + 1, h => by
    rcases Nat.lt_or_ge m i with h1 | h1
    · obtain rfl : i = m + 1 := by omega
      exact List.Sublist.refl _
    · rw [susI_snoc]
      exact (susI_sub m h1).trans (List.sublist_append_left _ _)
theorem flat_take_sub {α β : Type} (f : α → List β) (l : List α) (k : Nat) : ((l.take k).flatMap f).Sublist (l.flatMap f) := by
  have h : l.flatMap f = (l.take k).flatMap f ++ (l.drop k).flatMap f := by rw [← List.flatMap_append, List.take_append_drop]
  rw [h]
  exact List.sublist_append_left _ _
theorem sus_pref {ls : List Lst} {z : List Int} {k i j : Nat} {r : Int} (hz : (grpsL ls)[k]? = some z) (hr : z[i]? = some r) :
    (((grpsL ls).take k).flatMap (susZ ls) ++ susI ls z i ++ susA ls r ((z.drop i).take j)).Sublist (susRaw ls) := by
  have hi := (List.getElem?_eq_some_iff.1 hr).1
  have h1 : (susI ls z i ++ susA ls r ((z.drop i).take j)).Sublist (susZ ls z) := by
    rw [susZ_eq]
    refine List.Sublist.trans ?_ (susI_sub (i := i + 1) z.length hi)
    rw [susI_snoc]
    have e : z.getD i 0 = r := by rw [List.getD_eq_getElem?_getD, hr]; rfl
    rw [e]
    exact (susA_sub ls r (z.drop i) j).append_left _
  rw [List.append_assoc]
  refine List.Sublist.trans (h1.append_left _) ?_
  rw [← susRaw_snoc hz]
  exact flat_take_sub _ _ _
theorem flat_set2 (xs : List (Int × Int)) (i : Nat) (y : Int × Int) : (xs.set i y).flatMap encE = ((xs.flatMap encE).set (i * 2) (.int .i64 y.1)).set (i * 2 + 1) (.int .i64 y.2) := by
  by_cases hi : i < xs.length
  · obtain ⟨p, q, e, hp⟩ := split_at (List.getElem?_eq_getElem hi)
    generalize xs[i] = z at *
    subst e
    subst hp
    have hP : (p.flatMap encE).length = p.length * 2 := flat_len encE_len p
    rw [List.set_append_right _ _ (Nat.le_refl _), Nat.sub_self, List.set_cons_zero, List.flatMap_append, List.flatMap_append, List.flatMap_cons, List.flatMap_cons]
    rw [List.set_append_right _ _ (by omega), List.set_append_right _ _ (by omega), hP, Nat.sub_self, show p.length * 2 + 1 - p.length * 2 = 1 by omega]
    rfl
  · have hl : (xs.flatMap encE).length = xs.length * 2 := flat_len encE_len xs
    have e1 : xs.set i y = xs := List.set_eq_of_length_le (by omega)
    have e2 : (xs.flatMap encE).set (i * 2) (.int .i64 y.1) = xs.flatMap encE := List.set_eq_of_length_le (by omega)
    have e3 : (xs.flatMap encE).set (i * 2 + 1) (.int .i64 y.2) = xs.flatMap encE := List.set_eq_of_length_le (by omega)
    rw [e1, e2, e3]
theorem own_swapP {w : World} {B g N cap : Nat} {e : TypeId} {s : List (Int × Int)} {x y : Int × Int} {k : Nat} (h : w.ownsRow B e 2 (.slice (some ⟨g, 0, none⟩) N cap) N ((insT s x (k + 1)).flatMap encE)) (hy : s[k]? = some y) :
    ((((w.setCell ⟨g, (k + 1) * 2, none⟩ (.int .i64 y.1)).setCell ⟨g, (k + 1) * 2 + 1, none⟩ (.int .i64 y.2)).setCell ⟨g, k * 2, none⟩ (.int .i64 x.1)).setCell ⟨g, k * 2 + 1, none⟩ (.int .i64 x.2)).ownsRow B e 2 (.slice (some ⟨g, 0, none⟩) N cap) N ((insT s x k).flatMap encE) := by
  have h2 := ((((h.stored ((k + 1) * 2) (.int .i64 y.1)).1.stored ((k + 1) * 2 + 1) (.int .i64 y.2)).1.stored (k * 2) (.int .i64 x.1)).1.stored (k * 2 + 1) (.int .i64 x.2)).1
  rw [← flat_set2, ← flat_set2, insT_swap hy] at h2
  exact h2
theorem own_at2 {w : World} {B g N cap : Nat} {e : TypeId} {s : List (Int × Int)} {x : Int × Int} {k : Nat} (h : w.ownsRow B e 2 (.slice (some ⟨g, 0, none⟩) N cap) N (s.flatMap encE)) (hs : s.length = N) (hx : s[k]? = some x) :
    w.cell? ⟨g, k * 2, none⟩ = some (.int .i64 x.1) ∧ w.cell? ⟨g, k * 2 + 1, none⟩ = some (.int .i64 x.2) := by
  have hk := (List.getElem?_eq_some_iff.1 hx).1
  have h1 := flat_at encE_len s k x 0 _ hx rfl
  have h2 := flat_at encE_len s k x 1 _ hx rfl
  exact ⟨(h.cellAt _ (by omega)).trans h1, (h.cellAt _ (by omega)).trans h2⟩
set_option maxRecDepth 100000 in
set_option maxHeartbeats 8000000 in
theorem rsuspects_any (A : Option Addr) (n c : Nat) (ls : List Lst) (w : World) (hn : n ≤ 1000000) (hS : LsS w A n ls) :
    Calls Tryz.prog 31 #[.slice A n c] w fun e w' => PairsOut (susS ls) (chkL ls) e w' ∧ Below w.heap.size w w' := by
  obtain ⟨i0, hi, hz0, hz1, hz2⟩ := info_parts Tryz.infoPr
  have HC := Lib.hid (rgroups_any A n c ls w hn hS)
  have HS := Lib.hid hS; clear hS
  go_enter Tryz.func31, Tryz.ntmps31
  go_wp2_with fail
  go_fit HC.out
  rintro e w2 ⟨⟨A2, n2, c2, rfl, hn2, hL2, _⟩, hb3⟩
  by_cases h0 : chkL ls = 0
  · obtain ⟨h64, hv, hnd⟩ := chkL_zero h0
    have HV := Lib.hid hv
    have HND := Lib.hid hnd
    have H64 := Lib.hid h64
    have hb0 : (chkL ls != 0) = false := by simp [h0]
    have HZ := Lib.hid h0
    rw [h0] at hb0 hL2 ⊢
    rw [if_pos rfl] at hL2
    have HL2 := Lib.hid (show LoS w2 A2 n2 (grpsL ls) from hL2)
    have hn64 : n2 ≤ 64 := by rw [← HL2.out.len]; exact Nat.le_trans (grpsL_count ls) H64.out
    have HB3 := Lib.hid hb3
    clear h0 h64 hv hnd HC hL2 hb3
    go_wp2_with fail
    go_loopw [6, 7] (fun o t wr => ∃ (k : Nat) (ps s : List (Int × Int)), k ≤ n2 ∧ t = .int .i64 (k : Int) ∧ StI ps s ∧ ps = ((grpsL ls).take k).flatMap (susZ ls) ∧ s.length ≤ 4096 * k ∧ wr.ownsRow w2.heap.size 59 2 o s.length (s.flatMap encE) ∧ Below w2.heap.size w2 wr) (fun _ t _ => n2 - (intOf t).toNat)
    case atStart => exact ⟨0, [], [], by omega, rfl, StI.start, by simp, by simp, World.ownsRow_nil _ _ _ _, Below.refl _ _⟩
    case round =>
      obtain ⟨k, ps, s, hk, rfl, hst, hps, hpl, hown, hb⟩ := hrel
      obtain ⟨Ao, co, rfl, _⟩ := own_form hown
      have HST := Lib.hid hst; clear hst
      have HPS := Lib.hid hps; clear hps
      by_cases hlt : k < n2
      · obtain ⟨b, off, z, a, m, cz, rfl, hbb, hz, c0, hm, hSz⟩ := HL2.out.at_ hlt
        have HZZ := Lib.hid hz
        have HZL := Lib.hid (Sl.len hSz)
        have hm64 : m ≤ 64 := by rw [← HZL.out]; exact Nat.le_trans (grpsL_len (List.mem_of_getElem? hz)) H64.out
        have HZI := Lib.hid (grpsL_in (List.mem_of_getElem? hz))
        have HSZ := Lib.hid hSz
        have hkn : (k : Int) < (n2 : Int) := by omega
        clear hz hSz hm
        go_wp2_with fail
        go_loopw [6, 8] (fun o t wr => ∃ (i : Nat) (qs s : List (Int × Int)), i ≤ m ∧ t = .int .i64 (i : Int) ∧ StI qs s ∧ qs = ((grpsL ls).take k).flatMap (susZ ls) ++ susI ls z i ∧ s.length ≤ 4096 * k + 64 * i ∧ wr.ownsRow w2.heap.size 59 2 o s.length (s.flatMap encE) ∧ Below w2.heap.size w2 wr) (fun _ t _ => m - (intOf t).toNat)
        case atStart => exact ⟨0, ps, s, by omega, rfl, HST.out, by rw [HPS.out]; simp [susI], by omega, hown, hb⟩
        case round =>
          clear hown hb hpl HPS HST
          obtain ⟨i, qs, s, hi', rfl, hst, hqs, hql, hown, hb⟩ := hrel
          obtain ⟨Ao, co, rfl, _⟩ := own_form hown
          have HST := Lib.hid hst; clear hst
          have HQS := Lib.hid hqs; clear hqs
          have d0 := (hb.cell (p := ⟨b, off + k, none⟩) hbb).trans c0
          by_cases hlt2 : i < m
          · obtain ⟨bz, oz, r, rfl, hbz, hr, g0⟩ := HSZ.out.in_ hlt2
            have HR := Lib.hid hr; clear hr
            have him : (i : Int) < (m : Int) := by omega
            go_wp2_with fail
            clear d0
            go_loopw [6, 9] (fun o t wr => ∃ (q : Nat) (us s : List (Int × Int)), i ≤ q ∧ q ≤ m ∧ t = .int .i64 (q : Int) ∧ StI us s ∧ us = qs ++ susA ls r ((z.drop i).take (q - i)) ∧ s.length ≤ 4096 * k + 64 * i + (q - i) ∧ wr.ownsRow w2.heap.size 59 2 o s.length (s.flatMap encE) ∧ Below w2.heap.size w2 wr) (fun _ t _ => m - (intOf t).toNat)
            case atStart => exact ⟨i, qs, s, by omega, by omega, rfl, HST.out, by simp [susA], by omega, hown, hb⟩
            case round =>
              clear hown hb HST
              obtain ⟨q, us, s, hiq, hqm, rfl, hst, hus, hul, hown, hb⟩ := hrel
              obtain ⟨Ao, co, rfl, _⟩ := own_form hown
              have HST := Lib.hid hst; clear hst
              have HUS := Lib.hid hus; clear hus
              have d0 := (hb.cell (p := ⟨b, off + k, none⟩) hbb).trans c0
              by_cases hlt3 : q < m
              · obtain ⟨bz', oz', b', hAe, hbz', hb'', g1⟩ := HSZ.out.in_ hlt3
                cases hAe
                obtain ⟨p, x, hp, hx, hxa, hpl⟩ := placeI_at (HZI.out r (List.mem_of_getElem? HR.out))
                obtain ⟨t, y, hq, hy, hya, hql⟩ := placeI_at (HZI.out b' (List.mem_of_getElem? hb''))
                have hbw := below_keep' HB3.out hb
                have e0 := (hb.cell (p := ⟨bz, oz + i, none⟩) hbz).trans g0
                have e1 := (hb.cell (p := ⟨bz, oz + q, none⟩) hbz').trans g1
                have HFA : Hid (∀ U, Below wr.heap.size wr U → Calls Tryz.prog 53 #[.slice A n c, .int .i64 r] U fun e w' => e = .returned (.int .i64 (p : Int)) ∧ Below U.heap.size U w') := fun U hU => by
                  have := rplace_any A n c ls r U hn (HS.out.up (below_keep' hbw hU))
                  rw [hp] at this
                  exact this.mono fun e w' ⟨h1, h2⟩ => ⟨h1, by rw [h2]; exact Below.refl _ _⟩
                have HFB : Hid (∀ U, Below wr.heap.size wr U → Calls Tryz.prog 53 #[.slice A n c, .int .i64 b'] U fun e w' => e = .returned (.int .i64 (t : Int)) ∧ Below U.heap.size U w') := fun U hU => by
                  have := rplace_any A n c ls b' U hn (HS.out.up (below_keep' hbw hU))
                  rw [hq] at this
                  exact this.mono fun e w' ⟨h1, h2⟩ => ⟨h1, by rw [h2]; exact Below.refl _ _⟩
                obtain ⟨bl, ol, x', ax, mx, cx, hAx, hbl, hx', f0, f1, hmx, hSx⟩ := (HS.out.up hbw).at_ (i := p) (by rw [← HS.out.len]; exact hpl)
                obtain ⟨bl', ol', y', ay, my, cy, hAy, hbl', hy', f2, f3, hmy, hSy⟩ := (HS.out.up hbw).at_ (i := t) (by rw [← HS.out.len]; exact hql)
                have hxx : x' = x := Option.some.inj (hx'.symm.trans hx)
                have hyy : y' = y := Option.some.inj (hy'.symm.trans hy)
                subst hxx
                subst hyy
                subst hAx
                cases hAy
                have hmx8 : mx ≤ 1000000 := by have := (HV.out x' (List.mem_of_getElem? hx)).2.1; rw [Sl.len hSx] at this; omega
                have hmy8 : my ≤ 1000000 := by have := (HV.out y' (List.mem_of_getElem? hy)).2.1; rw [Sl.len hSy] at this; omega
                have HTW : Hid (∀ U, Below wr.heap.size wr U → Calls Tryz.prog 63 #[.agg #[.int .i64 x'.id, .slice ax mx cx], .agg #[.int .i64 y'.id, .slice ay my cy]] U fun e w' => e = .returned (.bool (twiceB x'.sales y'.sales)) ∧ Below U.heap.size U w') := fun U hU =>
                  rtwice_any x'.id ax mx cx x'.sales y'.id ay my cy y'.sales U hmx8 hmy8 (hSx.up hU) (hSy.up hU)
                have HTI : Hid (twiceI ls r b' = twiceB x'.sales y'.sales) := by
                  show _ = _
                  unfold twiceI
                  rw [← hxa, ← hya, salesAt_mem HND.out (List.mem_of_getElem? hx), salesAt_mem HND.out (List.mem_of_getElem? hy)]
                have HBQ : Hid (z[q]? = some b') := hb''
                have HDQ : Hid ((z.drop i)[q - i]? = some b') := by show _ = _; rw [List.getElem?_drop, show i + (q - i) = q by omega]; exact hb''
                have hpn : p < n := by rw [← HS.out.len]; exact hpl
                have htn : t < n := by rw [← HS.out.len]; exact hql
                have hbbw : b < wr.heap.size := Nat.lt_of_lt_of_le hbb hb.size
                have hbzw : bz < wr.heap.size := Nat.lt_of_lt_of_le hbz hb.size
                have hqm' : (q : Int) < (m : Int) := by omega
                clear hx hy hx' hy' hxa hya hp hq hSx hSy hb'' hmx hmy hbz' hbl'
                generalize twiceB x'.sales y'.sales = tw at *
                go_wp2_with fail
                go_region_held3 (fun U => U.cell? ⟨b, off + k, none⟩ = some (.slice (some ⟨bz, oz, none⟩) m cz) ∧ U.cell? ⟨bz, oz + i, none⟩ = some (.int .i64 r) ∧ U.cell? ⟨bz, oz + q, none⟩ = some (.int .i64 b') ∧ U.cell? ⟨bl, ol + p * 2, none⟩ = some (.int .i64 x'.id) ∧ U.cell? ⟨bl, ol + p * 2 + 1, none⟩ = some (.slice ax mx cx) ∧ U.cell? ⟨bl, ol + t * 2, none⟩ = some (.int .i64 y'.id) ∧ U.cell? ⟨bl, ol + t * 2 + 1, none⟩ = some (.slice ay my cy) ∧ Below wr.heap.size wr U)
                  (first | exact keep7P d0 e0 e1 f0 f1 f2 f3 hbbw hbzw hbzw hbl hbl hbl hbl (Below.drew (Below.refl _ _)) | exact keep7P d0 e0 e1 f0 f1 f2 f3 hbbw hbzw hbzw hbl hbl hbl hbl (below_keep' (last8P (by assumption)) (by assumption)) | go_keep)
                  (first
                    | (go_at_call 53; ((with_reducible refine (HFA.out _ (last8P (by assumption))).mono ?_); rintro e wz ⟨rfl, hbz2⟩))
                    | (go_at_call 53; ((with_reducible refine (HFB.out _ (last8P (by assumption))).mono ?_); rintro e wz ⟨rfl, hbz2⟩))
                    | (go_at_call 63; ((with_reducible refine (HTW.out _ (last8P (by assumption))).mono ?_); rintro e wz ⟨rfl, hbz2⟩)))
                all_goals
                  rename_i hH
                  rename World => w8
                  have hb7 := last8P hH
                  have hb8 := below_keep' hb hb7
                  have hown8 := own_below' hown hb7
                  have HTI2 := Lib.hid (susA_snoc (ls := ls) (a := r) (zs := z.drop i) (j := q - i) (b := b') HDQ.out)
                  obtain ⟨d0', e0', e1', _⟩ := hH
                  have hs8 := hb8.size
                  have hbb8 := Nat.lt_of_lt_of_le hbbw hb7.size
                  have hbz8 := Nat.lt_of_lt_of_le hbzw hb7.size
                  clear d0 e0 e1 f0 f1 f2 f3 hbl hb7 hown
                  cases tw
                  · have HT : Hid (twiceI ls r b' = false) := HTI.out
                    go_wp2_with fail
                    refine ⟨⟨q + 1, us, s, by omega, by omega, by go_num, HST.out, ?_, by omega, hown8, hb8⟩, by simp [intOf]; omega⟩
                    rw [show q + 1 - i = (q - i) + 1 by omega, HTI2.out, HT.out, HUS.out]
                    simp
                  · have HT : Hid (twiceI ls r b' = true) := HTI.out
                    have HPW : Hid ((us ++ [(r, b')]).Pairwise StabP) := by
                      show List.Pairwise _ _
                      refine (susRaw_pw HND.out).sublist ?_
                      have h9 := sus_pref (j := (q - i) + 1) HZZ.out HR.out
                      rw [HTI2.out, HT.out] at h9
                      rw [HUS.out, HQS.out]
                      simpa using h9
                    have HUN : Hid (us ++ [(r, b')] = qs ++ susA ls r ((z.drop i).take (q + 1 - i))) := by
                      show _ = _
                      rw [show q + 1 - i = (q - i) + 1 by omega, HTI2.out, HT.out, HUS.out]
                      simp
                    have hkn2 := hkn
                    have hbd : Below w2.heap.size w2 w8.drew := Below.drew hb8
                    have hownd : w8.drew.ownsRow w2.heap.size 59 2 (.slice Ao s.length co) s.length (s.flatMap encE) := own_below' hown8 (Below.drew (Below.refl _ _))
                    have hsd := hbd.size
                    have HSL : Hid (s.length ≤ 1000000) := by show _ ≤ _; omega
                    clear hown8 hb8 HTI HTI2 HFA HFB HTW hbw
                    have HCELL : Hid (∀ U, Below w2.heap.size w2 U → U.cell? ⟨b, off + k, none⟩ = some (.slice (some ⟨bz, oz, none⟩) m cz) ∧ U.cell? ⟨bz, oz + i, none⟩ = some (.int .i64 r) ∧ U.cell? ⟨bz, oz + q, none⟩ = some (.int .i64 b')) := fun U hU =>
                      ⟨(hU.cell (p := ⟨b, off + k, none⟩) hbb).trans c0, (hU.cell (p := ⟨bz, oz + i, none⟩) hbz).trans g0, (hU.cell (p := ⟨bz, oz + q, none⟩) hbz).trans g1⟩
                    go_wp2_with fail
                    refine wp_region_noPanic ?_
                    refine wp_region_held_drew (S := fun U => U.cell? ⟨b, off + k, none⟩ = some (.slice (some ⟨bz, oz, none⟩) m cz) ∧ U.cell? ⟨bz, oz + i, none⟩ = some (.int .i64 r) ∧ U.cell? ⟨bz, oz + q, none⟩ = some (.int .i64 b')) (by kernel_rfl) (HCELL.out _ hbd) (fun hHeld => ?_)
                    refine' takeW 0 ?_ ?_ ?_ (by kernel_rfl) (by kernel_rfl) (by kernel_rfl) (fun _ _ _ h => h) hHeld ?_
                    rotate_left 2
                    · (simp only [List.getElem?_toArray, List.getElem?_cons_succ, List.getElem?_cons_zero]; rfl)
                    · rfl
                    · (intro w hSw; (try dsimp only at hSw); go_simp; first | done | with_reducible rfl)
                    (try simp only [Act.put, List.setIfInBounds_toArray, List.set_cons_zero, List.set_cons_succ])
                    refine' takeW 1 ?_ ?_ ?_ (by kernel_rfl) (by kernel_rfl) (by kernel_rfl) (fun _ _ _ h => h) hHeld ?_
                    rotate_left 2
                    · (simp only [List.getElem?_toArray, List.getElem?_cons_succ, List.getElem?_cons_zero]; rfl)
                    · rfl
                    · (intro w hSw; (try dsimp only at hSw); go_simp; first | done | with_reducible rfl)
                    (try simp only [Act.put, List.setIfInBounds_toArray, List.set_cons_zero, List.set_cons_succ])
                    refine' takeW 2 ?_ ?_ ?_ (by kernel_rfl) (by kernel_rfl) (by kernel_rfl) (fun _ _ _ h => h) hHeld ?_
                    rotate_left 2
                    · (simp only [List.getElem?_toArray, List.getElem?_cons_succ, List.getElem?_cons_zero]; rfl)
                    · rfl
                    · (intro w hSw; (try dsimp only at hSw); go_simp; first | done | with_reducible rfl)
                    (try simp only [Act.put, List.setIfInBounds_toArray, List.set_cons_zero, List.set_cons_succ])
                    refine' takeW 3 ?_ ?_ ?_ (by kernel_rfl) (by kernel_rfl) (by kernel_rfl) (fun _ _ _ h => h) hHeld ?_
                    rotate_left 2
                    · (simp only [List.getElem?_toArray, List.getElem?_cons_succ, List.getElem?_cons_zero]; rfl)
                    · rfl
                    · (intro w hSw; (try dsimp only at hSw); go_simp; first | done | with_reducible rfl)
                    (try simp only [Act.put, List.setIfInBounds_toArray, List.set_cons_zero, List.set_cons_succ])
                    refine' takeW 4 ?_ ?_ ?_ (by kernel_rfl) (by kernel_rfl) (by kernel_rfl) (fun _ _ _ h => h) hHeld ?_
                    rotate_left 2
                    · (simp only [List.getElem?_toArray, List.getElem?_cons_succ, List.getElem?_cons_zero]; rfl)
                    · rfl
                    · (intro w hSw; (try dsimp only at hSw); go_simp; first | done | with_reducible rfl)
                    (try simp only [Act.put, List.setIfInBounds_toArray, List.set_cons_zero, List.set_cons_succ])
                    refine' takeW 5 ?_ ?_ ?_ (by kernel_rfl) (by kernel_rfl) (by kernel_rfl) (fun _ _ _ h => h) hHeld ?_
                    rotate_left 2
                    · (simp only [List.getElem?_toArray, List.getElem?_cons_succ, List.getElem?_cons_zero]; rfl)
                    · rfl
                    · (intro w hSw; (try dsimp only at hSw); go_simp; first | done | with_reducible rfl)
                    (try simp only [Act.put, List.setIfInBounds_toArray, List.set_cons_zero, List.set_cons_succ])
                    refine' takeW 6 ?_ ?_ ?_ (by kernel_rfl) (by kernel_rfl) (by kernel_rfl) (fun _ _ _ h => h) hHeld ?_
                    rotate_left 2
                    · (simp only [List.getElem?_toArray, List.getElem?_cons_succ, List.getElem?_cons_zero]; rfl)
                    · rfl
                    · (intro w hSw; (try dsimp only at hSw); go_simp; first | done | with_reducible rfl)
                    (try simp only [Act.put, List.setIfInBounds_toArray, List.set_cons_zero, List.set_cons_succ])
                    refine' takeW 7 ?_ ?_ ?_ (by kernel_rfl) (by kernel_rfl) (by kernel_rfl) (fun _ _ _ h => h) hHeld ?_
                    rotate_left 2
                    · (simp only [List.getElem?_toArray, List.getElem?_cons_succ, List.getElem?_cons_zero]; rfl)
                    · rfl
                    · (intro w hSw; (try dsimp only at hSw); go_simp; first | done | with_reducible rfl)
                    (try simp only [Act.put, List.setIfInBounds_toArray, List.set_cons_zero, List.set_cons_succ])
                    refine' takeW 8 ?_ ?_ ?_ (by kernel_rfl) (by kernel_rfl) (by kernel_rfl) (fun _ _ _ h => h) hHeld ?_
                    rotate_left 2
                    · (simp only [List.getElem?_toArray, List.getElem?_cons_succ, List.getElem?_cons_zero]; rfl)
                    · rfl
                    · (intro w hSw; (try dsimp only at hSw); go_simp; first | done | with_reducible rfl)
                    (try simp only [Act.put, List.setIfInBounds_toArray, List.set_cons_zero, List.set_cons_succ])
                    refine' takeW 9 ?_ ?_ ?_ (by kernel_rfl) (by kernel_rfl) (by kernel_rfl) (fun _ _ _ h => h) hHeld ?_
                    rotate_left 2
                    · (simp only [List.getElem?_toArray, List.getElem?_cons_succ, List.getElem?_cons_zero]; rfl)
                    · rfl
                    · (intro w hSw; (try dsimp only at hSw); go_simp; first | done | with_reducible rfl)
                    (try simp only [Act.put, List.setIfInBounds_toArray, List.set_cons_zero, List.set_cons_succ])
                    refine' takeW 10 ?_ ?_ ?_ (by kernel_rfl) (by kernel_rfl) (by kernel_rfl) (fun _ _ _ h => h) hHeld ?_
                    rotate_left 2
                    · (simp only [List.getElem?_toArray, List.getElem?_cons_succ, List.getElem?_cons_zero]; rfl)
                    · rfl
                    · (intro w hSw; (try dsimp only at hSw); go_simp; first | done | with_reducible rfl)
                    (try simp only [Act.put, List.setIfInBounds_toArray, List.set_cons_zero, List.set_cons_succ])
                    refine' takeW 11 ?_ ?_ ?_ (by kernel_rfl) (by kernel_rfl) (by kernel_rfl) (fun _ _ _ h => h) hHeld ?_
                    rotate_left 2
                    · (simp only [List.getElem?_toArray, List.getElem?_cons_succ, List.getElem?_cons_zero]; rfl)
                    · rfl
                    · (intro w hSw; (try dsimp only at hSw); go_simp; first | done | with_reducible rfl)
                    (try simp only [Act.put, List.setIfInBounds_toArray, List.set_cons_zero, List.set_cons_succ])
                    refine' takeW 12 ?_ ?_ ?_ (by kernel_rfl) (by kernel_rfl) (by kernel_rfl) (fun _ _ _ h => h) hHeld ?_
                    rotate_left 2
                    · (simp only [List.getElem?_toArray, List.getElem?_cons_succ, List.getElem?_cons_zero]; rfl)
                    · rfl
                    · (intro w hSw; (try dsimp only at hSw); go_simp; first | done | with_reducible rfl)
                    (try simp only [Act.put, List.setIfInBounds_toArray, List.set_cons_zero, List.set_cons_succ])
                    refine' takeW 13 ?_ ?_ ?_ (by kernel_rfl) (by kernel_rfl) (by kernel_rfl) (fun _ _ _ h => h) hHeld ?_
                    rotate_left 2
                    · (simp only [List.getElem?_toArray, List.getElem?_cons_succ, List.getElem?_cons_zero]; rfl)
                    · rfl
                    · (intro w hSw; (try dsimp only at hSw); go_simp; first | done | with_reducible rfl)
                    (try simp only [Act.put, List.setIfInBounds_toArray, List.set_cons_zero, List.set_cons_succ])
                    refine' takeW 14 ?_ ?_ ?_ (by kernel_rfl) (by kernel_rfl) (by kernel_rfl) (fun _ _ _ h => h) hHeld ?_
                    rotate_left 2
                    · (simp only [List.getElem?_toArray, List.getElem?_cons_succ, List.getElem?_cons_zero]; rfl)
                    · rfl
                    · (intro w hSw; (try dsimp only at hSw); go_simp; first | done | with_reducible rfl)
                    (try simp only [Act.put, List.setIfInBounds_toArray, List.set_cons_zero, List.set_cons_succ])
                    refine' takeW 15 ?_ ?_ ?_ (by kernel_rfl) (by kernel_rfl) (by kernel_rfl) (fun _ _ _ h => h) hHeld ?_
                    rotate_left 2
                    · (simp only [List.getElem?_toArray, List.getElem?_cons_succ, List.getElem?_cons_zero]; rfl)
                    · rfl
                    · (intro w hSw; (try dsimp only at hSw); go_simp; first | done | with_reducible rfl)
                    (try simp only [Act.put, List.setIfInBounds_toArray, List.set_cons_zero, List.set_cons_succ])
                    refine wpAnyH_ready (rs := [16]) (by kernel_rfl) (by simp) ?_
                    refine' AllReadyH.cons ?_ (fun K hK => ?_) AllReadyH.nil
                    rotate_left 1
                    · (simp only [List.getElem?_toArray, List.getElem?_cons_succ, List.getElem?_cons_zero]; rfl)
                    (try go_simp)
                    have hb5 := hbd.alloc hsd (.cells #[.int .i64 r, .int .i64 b'] 59)
                    have hownd2 := hownd.alloc (.cells #[.int .i64 r, .int .i64 b'] 59)
                    refine hK.out _ _ (HCELL.out _ hb5) (fun hHeld => ?_)
                    clear hK K
                    (try simp only [Act.put, List.setIfInBounds_toArray, List.set_cons_zero, List.set_cons_succ])
                    refine wpAnyH_ready (rs := [17]) (by kernel_rfl) (by simp) ?_
                    refine' AllReadyH.cons ?_ (fun K hK => ?_) AllReadyH.nil
                    rotate_left 1
                    · (simp only [List.getElem?_toArray, List.getElem?_cons_succ, List.getElem?_cons_zero]; rfl)
                    refine step_append_lies _ rfl (.tmp 70) (.tmp 86) 43 rfl w2.heap.size 59 i0 (.agg #[.int .i64 0, .int .i64 0]) 2 16 Tryz.underlying43 hi hz0 hz1 hz2 rfl (by decide) _ _ _ rfl hownd2 _ 1 1 [.int .i64 r, .int .i64 b'] rfl rfl (cell_list_at rfl _ _) (by simp [Value.oneCell']) (by decide) (by unfold maxLen; omega) (by omega) (by simp; omega) _ rfl ?_
                    intro g cq w6 hown6 hgrow hat hlt6
                    have hb9 : Below w2.heap.size w2 w6 := Below.grown hb5 hgrow (by simp; omega) (fun g hg => (hownd.lt g hg).1)
                    refine hK.out _ _ (HCELL.out _ hb9) (fun hHeld => ?_)
                    clear hK K
                    (try simp only [Act.put, List.setIfInBounds_toArray, List.set_cons_zero, List.set_cons_succ])
                    refine' takeW 18 ?_ ?_ ?_ (by kernel_rfl) (by kernel_rfl) (by kernel_rfl) (fun _ _ _ h => h) hHeld ?_
                    rotate_left 2
                    · (simp only [List.getElem?_toArray, List.getElem?_cons_succ, List.getElem?_cons_zero]; rfl)
                    · rfl
                    · (intro w hSw; (try dsimp only at hSw); go_simp; first | done | with_reducible rfl)
                    (try simp only [Act.put, List.setIfInBounds_toArray, List.set_cons_zero, List.set_cons_succ])
                    refine wpAnyH_done (by kernel_rfl) ?_ _
                    refine NoPanic.normal ?_
                    clear hownd2 hb5 hat hlt6 hHeld
                    have hown7 : w6.ownsRow w2.heap.size 59 2 (.slice (some ⟨g, 0, none⟩) (s.length + 1) cq) (s.length + 1) ((insT s (r, b') s.length).flatMap encE) := by
                      rw [insT_start, List.flatMap_append]
                      exact hown6
                    have hwl : IntKind.i64.wrap ((s.length : Int) + 1 - 1) = (s.length : Int) := by rw [IntKind.wrap_i64]; omega
                    clear hown6 hgrow hownd hbd hsd hb d0' e0' e1'
                    go_wp2_with fail
                    go_loopw [10] (fun t wq => ∃ kk : Nat, kk ≤ s.length ∧ t = .int .i64 (kk : Int) ∧ (∀ y ∈ s.drop kk, (r, b').1 < y.1) ∧ wq.ownsRow w2.heap.size 59 2 (.slice (some ⟨g, 0, none⟩) (s.length + 1) cq) (s.length + 1) ((insT s (r, b') kk).flatMap encE) ∧ Below w2.heap.size w2 wq) (fun t _ => (intOf t).toNat)
                    case atStart => exact ⟨s.length, Nat.le_refl _, rfl, by rw [List.drop_of_length_le (Nat.le_refl _)]; simp, hown7, hb9⟩
                    case round =>
                      clear hown7 hb9
                      obtain ⟨kk, hki, rfl, hgt, hown, hb⟩ := hrel
                      have HGT := Lib.hid hgt; clear hgt
                      have HIX : Hid ((kk = 0 ∨ ∃ y, s[kk - 1]? = some y ∧ ¬ (r, b').1 < y.1) → StI (us ++ [(r, b')]) (insT s (r, b') kk)) := fun h => HST.out.snoc HPW.out hki HGT.out h
                      have HLN : Hid ((insT s (r, b') kk).length = s.length + 1) := insT_len hki
                      rcases Nat.eq_zero_or_pos kk with rfl | hk0
                      · go_wp2_with fail
                        go_quiet (fail)
                        go_wp2_with fail
                        refine ⟨⟨q + 1, us ++ [(r, b')], insT s (r, b') 0, by omega, by omega, by go_num, HIX.out (by simp), HUN.out, by rw [HLN.out]; omega, ?_, below_drewN hb _⟩, by simp [intOf]; omega⟩
                        rw [HLN.out]
                        exact own_below' hown (below_drewN (Below.refl _ _) _)
                      · obtain ⟨kp, rfl⟩ : ∃ kp, kk = kp + 1 := ⟨kk - 1, by omega⟩
                        obtain ⟨y, hy⟩ : ∃ y, s[kp]? = some y := ⟨_, List.getElem?_eq_getElem (by omega)⟩
                        have HY := Lib.hid hy
                        obtain ⟨cx0, cx1⟩ := own_at2 hown HLN.out (insT_at (s := s) (x := (r, b')) (k := kp + 1) (by omega))
                        obtain ⟨cy0, cy1⟩ := own_at2 hown HLN.out (insT_before (x := (r, b')) hy)
                        dsimp only at cx0 cx1
                        have fx0 := hown.frozenAt ((kp + 1) * 2)
                        have fx1 := hown.frozenAt ((kp + 1) * 2 + 1)
                        have fy0 := hown.frozenAt (kp * 2)
                        have fy1 := hown.frozenAt (kp * 2 + 1)
                        have hgl := hown.lt g rfl
                        have gl := hgl.2
                        have hg0 := hgl.1
                        have HOW := Lib.hid hown; clear hown
                        have HBB := Lib.hid hb; clear hb
                        have k1 : (kp : Int) + 1 < (s.length : Int) + 1 := by omega
                        have k2 : (kp : Int) < (s.length : Int) + 1 := by omega
                        have k3 : (0 : Int) ≤ (kp : Int) + 1 := by omega
                        have k4 : (0 : Int) ≤ (kp : Int) := by omega
                        have k5 : (0 : Int) < (kp : Int) + 1 := by omega
                        have k6 : IntKind.i64.wrap (kp : Int) = (kp : Int) := by rw [IntKind.wrap_i64]; omega
                        have k7 : ((kp : Int) + 1).toNat = kp + 1 := by omega
                        clear hy hk0 hgl hwl
                        by_cases hlv : r < y.1
                        · go_wp2_with fail
                          go_quiet (fail)
                          go_wp2_with fail
                          have q0 : ¬ (kp + 1) * 2 = kp * 2 := by omega
                          have q0' : ¬ kp * 2 = (kp + 1) * 2 := by omega
                          have q1a : ¬ (kp + 1) * 2 + 1 = kp * 2 := by omega
                          have q1b : ¬ (kp + 1) * 2 = kp * 2 + 1 := by omega
                          have q1c : ¬ kp * 2 = (kp + 1) * 2 + 1 := by omega
                          have q1d : ¬ kp * 2 + 1 = (kp + 1) * 2 := by omega
                          go_region
                          all_goals go_wp2_with fail
                          refine ⟨⟨kp, by omega, by go_num, drop_gtP (x := (r, b')) HY.out hlv HGT.out, own_below' (own_swapP (own_below' HOW.out (below_drewN (Below.refl _ _) nq)) HY.out) (Below.drew (Below.refl _ _)), ?_⟩, by simp [intOf]⟩
                          exact Below.drew (((((below_drewN HBB.out nq).setCell hg0 _).setCell hg0 _).setCell hg0 _).setCell hg0 _)
                        · go_wp2_with fail
                          go_quiet (fail)
                          go_wp2_with fail
                          refine ⟨⟨q + 1, us ++ [(r, b')], insT s (r, b') (kp + 1), by omega, by omega, by go_num, HIX.out (.inr ⟨y, by simpa using HY.out, hlv⟩), HUN.out, by rw [HLN.out]; omega, ?_, below_drewN HBB.out _⟩, by simp [intOf]; omega⟩
                          rw [HLN.out]
                          exact own_below' HOW.out (below_drewN (Below.refl _ _) _)
              · obtain rfl : q = m := by omega
                have hlen : (z.drop i).length = q - i := by rw [List.length_drop, HZL.out]
                go_wp2_with fail
                refine ⟨⟨i + 1, us, s, by omega, by go_num, HST.out, ?_, by omega, hown, hb⟩, by simp [intOf]; omega⟩
                rw [HUS.out, HQS.out, susI_snoc, take_all hlen, List.append_assoc]
                congr 2
                rw [List.getD_eq_getElem?_getD, HR.out]
                rfl
          · obtain rfl : i = m := by omega
            go_wp2_with fail
            refine ⟨⟨k + 1, qs, s, by omega, by go_num, HST.out, ?_, by omega, hown, hb⟩, by simp [intOf]; omega⟩
            rw [HQS.out, susRaw_snoc HZZ.out, susZ_eq, HZL.out]
      · obtain rfl : k = n2 := by omega
        have HRW : Hid (ps = susRaw ls) := by
          show _ = _
          rw [HPS.out, take_all HL2.out.len]
          rfl
        have HSS : Hid (susS ls = s) := by
          show _ = _
          have h9 := HST.out
          rw [HRW.out] at h9
          unfold susS
          rw [if_pos HZ.out, h9.all]
        have hbw := below_keep' HB3.out hb
        have HSL : Hid (Sl wr 0 wr.heap.size 2 encE Ao s.length s) := (Sl.of_own encE_len hown rfl).any
        clear hown
        go_wp2_with fail
        refine bodyPost_ret (v := .tuple #[.slice Ao s.length co, .int .i64 0]) (by simp [results, Tryz.results31, go_sem]) rfl ?_
        exact ⟨by rw [HZ.out, HSS.out]; exact ⟨_, _, co, rfl, by omega, HSL.out, fun h => absurd rfl h⟩, hbw⟩
  · have hb0 : (chkL ls != 0) = true := by simpa using h0
    have H0 := Lib.hid h0
    have HP : Hid (susS ls = []) := by show _ = _; unfold susS; rw [if_neg h0]
    clear h0
    go_wp2_with fail
    refine bodyPost_ret (v := .tuple #[.slice none 0 0, .int .i64 (chkL ls)]) (by simp [results, Tryz.results31, go_sem]) rfl ?_
    exact ⟨by rw [HP.out]; exact ⟨none, 0, 0, rfl, by omega, Sl.nil, fun _ => ⟨rfl, rfl, rfl⟩⟩, hb3⟩
end Go.Proofs.YtccmchmemafjdaaGreatDoor
