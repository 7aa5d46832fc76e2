/- Chapter 46: the reference's sales of a group: the walk. (Printed by mkpr.py.) -/
import Derived.Test.YtccmchmemafjdaaGreatDoorPn
import Derived.Test.YtccmchmemafjdaaGreatDoorPe
import Derived.Deep.RegionHeld3
set_option linter.unusedSimpArgs false
set_option linter.unusedVariables false
namespace Go.Proofs.YtccmchmemafjdaaGreatDoor
open Go.RowKit

theorem own_capS {w : World} {base : Nat} {e : TypeId} {k : Nat} {A : Option Addr} {n c : Nat} {xs : List Value} (h : w.ownsRow base e k (.slice A n c) n xs) : A = none → c = 0 := fun hA => by
  subst hA
  rcases h.2 with ⟨hv, _⟩ | ⟨g, cap, cur, hv, _⟩
  · cases hv; rfl
  · cases hv
theorem Sl.drop_at {α : Type} {w : World} {L B K n k : Nat} {enc : α → List Value} {b off : Nat} {xs : List α} (h : Sl w L B K enc (some ⟨b, off, none⟩) n xs) (hk : k ≤ n) : Sl w L B K enc (some ⟨b, off + k * K, none⟩) (n - k) (xs.drop k) := by
  refine ⟨by rw [List.length_drop, h.1], fun hn => ?_⟩
  obtain ⟨b', off', e, ha, hb, hc⟩ := h.2 (by omega)
  cases e
  refine ⟨b, off + k * K, rfl, ha, hb, fun i x hx j u hu => ?_⟩
  rw [List.getElem?_drop] at hx
  have := hc (k + i) x hx j u hu
  rw [Nat.add_mul] at this
  rw [show off + k * K + i * K + j = off + (k * K + i * K) + j from by omega]
  exact this
theorem keep7P {w0 w1 : World} {p1 p2 p3 p4 p5 p6 p7 : Addr} {v1 v2 v3 v4 v5 v6 v7 : Value} (h1 : w0.cell? p1 = some v1) (h2 : w0.cell? p2 = some v2) (h3 : w0.cell? p3 = some v3) (h4 : w0.cell? p4 = some v4) (h5 : w0.cell? p5 = some v5) (h6 : w0.cell? p6 = some v6) (h7 : w0.cell? p7 = some v7)
    (l1 : p1.block < w0.heap.size) (l2 : p2.block < w0.heap.size) (l3 : p3.block < w0.heap.size) (l4 : p4.block < w0.heap.size) (l5 : p5.block < w0.heap.size) (l6 : p6.block < w0.heap.size) (l7 : p7.block < w0.heap.size) (hb : Below w0.heap.size w0 w1) :
    w1.cell? p1 = some v1 ∧ w1.cell? p2 = some v2 ∧ w1.cell? p3 = some v3 ∧ w1.cell? p4 = some v4 ∧ w1.cell? p5 = some v5 ∧ w1.cell? p6 = some v6 ∧ w1.cell? p7 = some v7 ∧ Below w0.heap.size w0 w1 :=
  ⟨(hb.cell l1).trans h1, (hb.cell l2).trans h2, (hb.cell l3).trans h3, (hb.cell l4).trans h4, (hb.cell l5).trans h5, (hb.cell l6).trans h6, (hb.cell l7).trans h7, hb⟩
theorem last8P {a1 a2 a3 a4 a5 a6 a7 z : Prop} (h : a1 ∧ a2 ∧ a3 ∧ a4 ∧ a5 ∧ a6 ∧ a7 ∧ z) : z := h.2.2.2.2.2.2.2
set_option maxRecDepth 100000 in
set_option maxHeartbeats 8000000 in
theorem rsales_any (A : Option Addr) (n c : Nat) (ls : List Lst) (A' : Option Addr) (m c' : Nat) (grp : List Int) (w : World) (hn : n ≤ 64) (hm : m ≤ 64) (hS : LsS w A n ls) (hG : Sl w 0 w.heap.size 1 encI A' m grp)
    (hv : ∀ x ∈ ls, validL x) (hnd : (idsL ls).Nodup) (hin : ∀ a ∈ grp, a ∈ idsL ls) :
    Calls Tryz.prog 57 #[.slice A n c, .slice A' m c'] w fun e w' => ∃ A2 n2 c2, e = .returned (.slice A2 n2 c2) ∧ n2 ≤ 1000000 ∧ Sl w' w.heap.size w'.heap.size 3 encS A2 n2 (salesOf ls grp) ∧ Below w.heap.size w w' := by
  obtain ⟨i0, hi, hz0, hz1, hz2⟩ := info_parts Tryz.infoSa
  have HS := Lib.hid hS
  have HL := Lib.hid hS.len
  have HG := Lib.hid hG
  have HGL := Lib.hid (Sl.len hG)
  have HV := Lib.hid hv
  have HND := Lib.hid hnd
  have HIN := Lib.hid hin
  clear hS hG hv hnd hin
  go_enter Tryz.func57, Tryz.ntmps57
  go_wp2_with fail
  go_loopw [5, 6] (fun o t wr => ∃ (i : Nat) (out : List Sal) (Ao : Option Addr) (co : Nat), i ≤ m ∧ t = .int .i64 (i : Int) ∧ o = .slice Ao out.length co ∧ out = mergeS (catS ls grp i) ∧ out.length ≤ 8 * i ∧ (out.length ≤ co ∧ (Ao = none → co = 0)) ∧ Sl wr w.heap.size wr.heap.size 3 encS Ao out.length out ∧ Below w.heap.size w wr) (fun _ t _ => m - (intOf t).toNat)
  case atStart => exact ⟨0, [], none, 0, by omega, rfl, rfl, rfl, by simp, ⟨by simp, fun _ => rfl⟩, Sl.nil, Below.refl _ _⟩
  case round =>
    obtain ⟨i, out, Ao, co, hi', rfl, rfl, hout, hol, hcap, hSo, hb⟩ := hrel
    have HOUT := Lib.hid hout; clear hout
    by_cases hlt : i < m
    · obtain ⟨bg, og, a, rfl, hbg, ha, g0⟩ := (Sl.up HG.out hb (Nat.le_refl _) (Nat.le_refl _)).in_ hlt
      obtain ⟨p, x, hp, hx, hxa, hpl⟩ := placeI_at (HIN.out a (List.mem_of_getElem? ha))
      have HFA : Hid (Calls Tryz.prog 53 #[.slice A n c, .int .i64 a] wr fun e w' => e = .returned (.int .i64 (p : Int)) ∧ w' = wr) := by
        show Calls _ _ _ _ _
        have := rplace_any A n c ls a wr (by omega) (HS.out.up hb)
        rwa [hp] at this
      have hpn : p < n := by rw [← HL.out]; exact hpl
      obtain ⟨bl, ol, x', ax, mx, cx, hAx, hbl, hx', e0, e1, hmx, hSx⟩ := (HS.out.up hb).at_ hpn
      have hxx : x' = x := Option.some.inj (hx'.symm.trans hx)
      subst hxx
      subst hAx
      have hmx8 : mx ≤ 8 := by have := (HV.out x' (List.mem_of_getElem? hx)).2.1; rw [Sl.len hSx] at this; exact this
      have HXL := Lib.hid (Sl.len hSx)
      have HCAT : Hid (catS ls grp (i + 1) = catS ls grp i ++ x'.sales) := by
        show _ = _
        rw [catS_snoc ha, ← hxa, salesAt_mem HND.out (List.mem_of_getElem? hx)]
      have hpi : (p : Int) < (n : Int) := by omega
      clear ha hp hx hx' hxa hmx
      go_wp2_with fail
      go_fit HFA.out
      rintro e w2 ⟨rfl, hw2⟩
      subst w2
      have Z := Bx.new wr [.int .i64 x'.id, .slice ax mx cx] 24
      have hbZ : Below wr.heap.size wr (wr.alloc (.cells #[.int .i64 x'.id, .slice ax mx cx] 24)) := one_alloc _ _
      have hbw := below_keep' hb hbZ
      have hSx2 : SaS _ ax mx x'.sales := hSx.up hbZ
      have hSo2 := Sl.up hSo hbZ (Nat.le_refl _) (Nat.le_refl _)
      go_wp2_with fail
      generalize wr.alloc (.cells #[.int .i64 x'.id, .slice ax mx cx] 24) = W0 at *
      generalize wr.heap.size = bx at *
      clear HFA e0 e1 g0 hbg hbl hSx hSo hb hbZ
      have HX0 := Lib.hid hSx2; clear hSx2
      go_loopw [5, 8] (fun o t wq => ∃ (j : Nat) (q : List Sal) (Aq : Option Addr) (cq : Nat), j ≤ mx ∧ t = .int .i64 (j : Int) ∧ o = .slice Aq q.length cq ∧ q = mergeS (catS ls grp i ++ x'.sales.take j) ∧ q.length ≤ 8 * i + j ∧ (q.length ≤ cq ∧ (Aq = none → cq = 0)) ∧ Sl wq w.heap.size wq.heap.size 3 encS Aq q.length q ∧ Bx wq bx [.int .i64 x'.id, .slice ax mx cx] ∧ Below w.heap.size w wq ∧ Below W0.heap.size W0 wq) (fun _ t _ => mx - (intOf t).toNat)
      case atStart => exact ⟨0, out, Ao, co, by omega, rfl, rfl, by rw [HOUT.out]; simp, by omega, hcap, hSo2, Z, hbw, Below.refl _ _⟩
      case round =>
        clear hSo2 Z hbw hcap
        rename World => wq
        obtain ⟨j, q, Aq, cq, hj', rfl, rfl, hqm, hql, hcap, hSq, Z, hbw, hb0⟩ := hrel
        have HQM := Lib.hid hqm; clear hqm
        have hcq := hcap.1
        have HX := Lib.hid (SaS.up HX0.out hb0)
        by_cases hlt2 : j < mx
        · obtain ⟨bs, os, s, rfl, hbs, hs, s0, s1, s2⟩ := Sl.sa HX.out hlt2
          have HSS := Lib.hid hs; clear hs
          have HSQ0 := Lib.hid hSq
          have HB0 := Lib.hid hb0
          clear s0 s1 s2 hbs hSq hb0
          have Z0 := Z.cell 0 _ rfl; have Z1 := Z.cell 1 _ rfl; have Zlt := Z.lt
          go_wp2_with fail
          clear Z0 Z1 Zlt
          have HZ := Lib.hid Z
          have HBQ := Lib.hid hbw
          clear Z hbw
          go_loopw [9] (fun t wc => ∃ k : Nat, k ≤ q.length ∧ t = .int .i64 (k : Int) ∧ (∀ y ∈ q.take k, ltSal y s) ∧ Below wq.heap.size wq wc) (fun t _ => q.length - (intOf t).toNat)
          case atStart => exact ⟨0, by omega, rfl, by simp, Below.refl _ _⟩
          case round =>
            rename World => wc
            obtain ⟨k, hkq, rfl, hlt', hbq⟩ := hrel
            have HLT := Lib.hid hlt'; clear hlt'
            have HBW : Hid (Below w.heap.size w wc) := below_keep' HBQ.out hbq
            have HBC0 : Hid (Below W0.heap.size W0 wc) := below_keep' HB0.out hbq
            have HQ : Hid (∀ U, Below wc.heap.size wc U → Sl U w.heap.size wc.heap.size 3 encS Aq q.length q ∧ Bx U bx [.int .i64 x'.id, .slice (some ⟨bs, os, none⟩) mx cx] ∧ SaS U (some ⟨bs, os, none⟩) mx x'.sales) := fun U hU =>
              ⟨(Sl.up HSQ0.out hbq (Nat.le_refl _) (Nat.le_refl _)).below hU (Nat.le_refl _), (HZ.out.up hbq).up hU, (SaS.up HX.out hbq).up hU⟩
            have HBQW := Lib.hid hbq
            clear hbq
            by_cases hkl : k < q.length
            · obtain ⟨_, Z, hX⟩ := HQ.out _ (Below.refl _ _)
              obtain ⟨hSq, _, _⟩ := HQ.out _ (Below.refl _ _)
              obtain ⟨bs', os', s', hA, hbs, hs', d0, d1, d2⟩ := Sl.sa hX hlt2
              have hss : s' = s := Option.some.inj (hs'.symm.trans HSS.out)
              subst hss
              cases hA
              obtain ⟨bq, oq, y, rfl, hbq, hy, c0, c1, c2⟩ := Sl.sa hSq hkl
              have HY := Lib.hid hy
              have hzc : wc.heap.size ≤ wc.heap.size := Nat.le_refl _
              have HBF : Hid (∀ U, Below wc.heap.size wc U → Calls Tryz.prog 48 #[.agg #[.int .i64 y.y, .int .i64 y.h, .int .i64 y.l], .agg #[.int .i64 s'.y, .int .i64 s'.h, .int .i64 s'.l]] U fun e w' => e = .returned (.bool (decide (ltSal y s'))) ∧ Below U.heap.size U w') := fun U _ => rbefore_any y s' U
              have Z0 := Z.cell 0 _ rfl; have Z1 := Z.cell 1 _ rfl; have Zlt := Z.lt
              clear hs' hy hX hSq hzc
              cases hbl : decide (ltSal y s')
              · rw [hbl] at HBF
                have HNB := Lib.hid (of_decide_eq_false hbl); clear hbl
                go_wp2_with fail
                go_region_held3 (fun U => U.cell? ⟨bq, oq + k * 3, none⟩ = some (.int .i64 y.y) ∧ U.cell? ⟨bq, oq + k * 3 + 1, none⟩ = some (.int .i64 y.h) ∧ U.cell? ⟨bq, oq + k * 3 + 2, none⟩ = some (.int .i64 y.l) ∧ U.cell? ⟨bs, os + j * 3, none⟩ = some (.int .i64 s'.y) ∧ U.cell? ⟨bs, os + j * 3 + 1, none⟩ = some (.int .i64 s'.h) ∧ U.cell? ⟨bs, os + j * 3 + 2, none⟩ = some (.int .i64 s'.l) ∧ U.cell? ⟨bx, 1, none⟩ = some (.slice (some ⟨bs, os, none⟩) mx cx) ∧ Below wc.heap.size wc U)
                  (first | exact keep7P c0 c1 c2 d0 d1 d2 Z1 hbq hbq hbq hbs hbs hbs Zlt (Below.drew (Below.refl _ _)) | exact keep7P c0 c1 c2 d0 d1 d2 Z1 hbq hbq hbq hbs hbs hbs Zlt (below_keep' (last8P (by assumption)) (by assumption)) | go_keep)
                  ((go_at_call 48; refine (HBF.out _ (last8P (by assumption))).mono ?_; rintro e wz ⟨rfl, hbz⟩))
                all_goals
                  rename_i hH
                  rename World => wd
                  have hbd := last8P hH
                  obtain ⟨c0', c1', c2', d0', d1', d2', z1', _⟩ := hH
                  have hbq' := Nat.lt_of_lt_of_le hbq hbd.size
                  have hbs' := Nat.lt_of_lt_of_le hbs hbd.size
                  have HQ2 : Hid (∀ U, Below wd.heap.size wd U → Sl U w.heap.size wd.heap.size 3 encS (some ⟨bq, oq, none⟩) q.length q ∧ Bx U bx [.int .i64 x'.id, .slice (some ⟨bs, os, none⟩) mx cx] ∧ SaS U (some ⟨bs, os, none⟩) mx x'.sales) := fun U hU => by
                    obtain ⟨t1, t2, t3⟩ := HQ.out U (below_keep' hbd hU)
                    exact ⟨t1.more hbd.size, t2, t3⟩
                  have HBW2 : Hid (Below w.heap.size w wd) := below_keep' HBW.out hbd
                  have HBC2 : Hid (Below W0.heap.size W0 wd) := below_keep' HBC0.out hbd
                  clear hbd c0 c1 c2 d0 d1 d2 Z0 Z1 Zlt Z hbq hbs HBF HQ HBW HBC0
                  have HEND : Hid (k = q.length ∨ ∃ y, q[k]? = some y ∧ ¬ ltSal y s') := .inr ⟨y, HY.out, HNB.out⟩
                  by_cases hey : y = s'
                  · have heq := fun W => eqSaleT hey W
                    have HQE : Hid (insS s' q = q) := by
                      show _ = _
                      rw [insS_cut k q HLT.out HEND.out]
                      exact if_pos (by rw [← hey]; exact HY.out)
                    obtain ⟨hSq, Z, _⟩ := HQ2.out _ (Below.refl _ _)
                    clear hey
                    go_wp2_with fail
                    go_quiet (fail)
                    go_wp2_with fail
                    refine ⟨⟨j + 1, q, some ⟨bq, oq, none⟩, cq, by omega, by go_num, rfl, ?_, by omega, hcap, Sl.up hSq (below_drewN (Below.refl _ _) _) (Nat.le_refl _) (Nat.le_refl _), Z.drewN _, below_drewN HBW2.out _, below_drewN HBC2.out _⟩, by simp [intOf]; omega⟩
                    rw [take_snocS HSS.out, ← List.append_assoc, mergeS_snoc, ← HQM.out, HQE.out]
                  · have heq := fun W => eqSaleF hey W
                    have HNE : Hid (¬ q[k]? = some s') := fun h => hey (Option.some.inj (HY.out.symm.trans h))
                    clear hey
                    go_wp2_with fail
                    go_quiet (fail)
                    have HQ3 := Lib.hid (fun U (hU : Below (wd.drewN nq).heap.size (wd.drewN nq) U) => HQ2.out U (below_keep' (below_drewN (Below.refl _ _) nq) hU))
                    have HBW := Lib.hid (below_drewN HBW2.out nq)
                    have HBC0 := Lib.hid (below_drewN HBC2.out nq)
                    have hqz := HBW.out.size
                    have HZX := Lib.hid (below_drewN (Below.refl wd.heap.size wd) nq).size
                    generalize wd.drewN nq = wx at *
                    clear HQ2 HBW2 HBC2 c0' c1' c2' d0' d1' d2' z1' hbq' hbs' heq
                    have HQ : Hid (∀ U, Below wx.heap.size wx U → Sl U w.heap.size wx.heap.size 3 encS (some ⟨bq, oq, none⟩) q.length q ∧ Bx U bx [.int .i64 x'.id, .slice (some ⟨bs, os, none⟩) mx cx] ∧ SaS U (some ⟨bs, os, none⟩) mx x'.sales) := fun U hU => by
                      obtain ⟨t1, t2, t3⟩ := HQ3.out U hU
                      exact ⟨t1.more HZX.out, t2, t3⟩
                    clear HQ3
                    have HINS : Hid (insS s' q = q.take k ++ s' :: q.drop k) := by
                      show _ = _
                      rw [insS_cut k q HLT.out HEND.out]
                      exact if_neg HNE.out
                    have HINL : Hid ((insS s' q).length = q.length + 1) := by show _ = _; rw [HINS.out]; simp; omega
                    have HO : Hid ((wx.alloc (.cells #[] 57)).ownsRow wx.heap.size 57 3 (.slice (some ⟨wx.heap.size, 0, none⟩) 0 0) 0 []) := World.ownsRow_lit wx #[] 0 (Nat.le_refl _) (by unfold maxLen; omega) rfl
                    have q0 : (0 : Int) ≤ (k : Int) := by omega
                    have q1 : (k : Int) ≤ (cq : Int) := by omega
                    have q2 : (k : Int) ≤ (q.length : Int) := by omega
                    obtain ⟨hSq, _, _⟩ := HQ.out _ (Below.refl _ _)
                    have HS1 : Hid (Sl (wx.alloc (.cells #[] 57)) w.heap.size wx.heap.size 3 encS (some ⟨bq, oq, none⟩) k (q.take k)) := (hSq.cut k hkq).below (one_alloc _ _) (Nat.le_refl _)
                    clear hSq
                    go_wp2_with (at_builtin; refine wpList_append_sl (ys := q.take k) (L := w.heap.size) (B := wx.heap.size) _ rfl _ _ 22 rfl wx.heap.size 57 i0 (.agg #[.int .i64 0, .int .i64 0, .int .i64 0]) 3 24 encS_len encS_one Tryz.underlying22 hi hz0 hz1 hz2 rfl (by decide) _ _ _ rfl HO.out _ rfl HS1.out (by unfold maxLen; omega) (by omega) (by simp) ?_)
                    intro v5 w5 hown5 hgrow5
                    have hb5 : Below wx.heap.size wx w5 := Below.grown (one_alloc wx _) hgrow5 (by simp) (fun g hg => by simp [Value.ownBlock] at hg; omega)
                    obtain ⟨A5, c5, rfl, _⟩ := own_form hown5
                    obtain ⟨_, Z5, hX5⟩ := HQ.out _ hb5
                    obtain ⟨bs5, os5, s5, hA5, hbs5, hs5, d0, d1, d2⟩ := Sl.sa hX5 hlt2
                    have hss : s5 = s' := Option.some.inj (hs5.symm.trans HSS.out)
                    subst hss
                    cases hA5
                    have hz5 := hb5.size
                    clear hs5 hX5 hgrow5
                    have Z50 := Z5.cell 0 _ rfl; have Z51 := Z5.cell 1 _ rfl; have Z5lt := Z5.lt
                    have HB5 := Lib.hid hb5
                    clear hb5
                    have hc0 : ¬ cq = 0 := by omega
                    have hck2 : ¬ cq = k := by omega
                    have hck3 : ¬ k = cq := by omega
                    go_wp2_with (at_builtin; refine wpList_append_own _ rfl _ _ 22 rfl wx.heap.size 57 i0 (.agg #[.int .i64 0, .int .i64 0, .int .i64 0]) 3 24 Tryz.underlying22 hi hz0 hz1 hz2 rfl (by decide) _ _ _ rfl (hown5.alloc _) ⟨w5.heap.size, 0, none⟩ 1 1 [.int .i64 s5.y, .int .i64 s5.h, .int .i64 s5.l] rfl rfl ?c1 ?c2 ?c3 ?c4 ?c5 ?_)
                    case c1 => exact cell_list_at rfl _ _
                    case c2 => simp [Value.oneCell']
                    case c3 => unfold maxLen; omega
                    case c4 => omega
                    case c5 => simp; omega
                    intro v6 w6 hown6 hgrow6 _
                    have hb6 : Below wx.heap.size wx w6 := Below.grown (HB5.out.alloc (by omega) _) hgrow6 (by simp; omega) (fun g hg => (hown5.lt g hg).1)
                    obtain ⟨A6, c6, rfl, _⟩ := own_form hown6
                    have hz6 := hb6.size
                    have HB6 := Lib.hid hb6
                    obtain ⟨hSq, _, _⟩ := HQ.out _ hb6
                    clear hb6 hgrow6 hown5 Z50 Z51 Z5lt Z5 d0 d1 d2 hbs5
                    have HS7 : Hid (Sl w6 w.heap.size wx.heap.size 3 encS (some ⟨bq, oq + k * 3, none⟩) (q.length - k) (q.drop k)) := hSq.drop_at hkq
                    clear hSq
                    go_wp2_with (at_builtin; refine wpList_append_sl (m := q.length - k) (ys := q.drop k) (L := w.heap.size) (B := wx.heap.size) _ rfl _ _ 22 rfl wx.heap.size 57 i0 (.agg #[.int .i64 0, .int .i64 0, .int .i64 0]) 3 24 encS_len encS_one Tryz.underlying22 hi hz0 hz1 hz2 rfl (by decide) _ _ _ rfl hown6 _ rfl HS7.out (by unfold maxLen; omega) (by omega) (by omega) ?_)
                    intro v7 w7 hown7 hgrow7
                    have hb7 : Below wx.heap.size wx w7 := Below.grown HB6.out hgrow7 (by omega) (fun g hg => (hown6.lt g hg).1)
                    have hN : ∀ (N : Nat) (xs : List Value), w7.ownsRow wx.heap.size 57 3 v7 N xs → N = (insS s5 q).length → w7.ownsRow wx.heap.size 57 3 v7 (insS s5 q).length xs := fun N xs h e => e ▸ h
                    have hfl : (insS s5 q).flatMap encS = (q.take k).flatMap encS ++ (.int .i64 s5.y :: .int .i64 s5.h :: .int .i64 s5.l :: (q.drop k).flatMap encS) := by rw [HINS.out]; simp [List.flatMap_append, encS]
                    replace hown7 : w7.ownsRow wx.heap.size 57 3 v7 (insS s5 q).length ((insS s5 q).flatMap encS) := by rw [hfl]; simpa using hN _ _ hown7 (by rw [HINL.out]; omega)
                    obtain ⟨A7, c7, rfl, hc7⟩ := own_form hown7
                    have HC7 := Lib.hid (own_capS hown7)
                    have hS7 := Sl.of_own (enc := encS) encS_len hown7 rfl
                    obtain ⟨_, Z7, _⟩ := HQ.out _ hb7
                    have hz7 := hb7.size
                    have hbw7 := HBW.out.trans (hb7.mono (by have := HBW.out.size; omega))
                    have hbw8 := HBC0.out.trans (hb7.mono (by have := HBC0.out.size; omega))
                    clear hb7 hgrow7 hown7 hown6 HS7 HB6 hN hfl
                    go_wp2_with fail
                    refine ⟨⟨j + 1, insS s5 q, A7, c7, by omega, by go_num, rfl, ?_, by rw [HINL.out]; omega, ⟨hc7, HC7.out⟩, hS7.less (by have := HBW.out.size; omega), Z7, hbw7, hbw8⟩, by simp [intOf]; omega⟩
                    rw [take_snocS HSS.out, ← List.append_assoc, mergeS_snoc, ← HQM.out]
              · rw [hbl] at HBF
                have HNB := Lib.hid (of_decide_eq_true hbl); clear hbl
                go_wp2_with fail
                go_region_held3 (fun U => U.cell? ⟨bq, oq + k * 3, none⟩ = some (.int .i64 y.y) ∧ U.cell? ⟨bq, oq + k * 3 + 1, none⟩ = some (.int .i64 y.h) ∧ U.cell? ⟨bq, oq + k * 3 + 2, none⟩ = some (.int .i64 y.l) ∧ U.cell? ⟨bs, os + j * 3, none⟩ = some (.int .i64 s'.y) ∧ U.cell? ⟨bs, os + j * 3 + 1, none⟩ = some (.int .i64 s'.h) ∧ U.cell? ⟨bs, os + j * 3 + 2, none⟩ = some (.int .i64 s'.l) ∧ U.cell? ⟨bx, 1, none⟩ = some (.slice (some ⟨bs, os, none⟩) mx cx) ∧ Below wc.heap.size wc U)
                  (first | exact keep7P c0 c1 c2 d0 d1 d2 Z1 hbq hbq hbq hbs hbs hbs Zlt (Below.drew (Below.refl _ _)) | exact keep7P c0 c1 c2 d0 d1 d2 Z1 hbq hbq hbq hbs hbs hbs Zlt (below_keep' (last8P (by assumption)) (by assumption)) | go_keep)
                  ((go_at_call 48; refine (HBF.out _ (last8P (by assumption))).mono ?_; rintro e wz ⟨rfl, hbz⟩))
                all_goals
                  rename_i hH
                  rename World => wd
                  have hbd := last8P hH
                  clear hH
                  go_wp2_with fail
                  refine ⟨⟨k + 1, by omega, by go_num, all_take (p := fun y => ltSal y s') HY.out HLT.out HNB.out, below_keep' HBQW.out hbd⟩, by simp [intOf]; omega⟩
            · have hke : q.length ≤ k := by omega
              have HEND : Hid (k = q.length ∨ ∃ y, q[k]? = some y ∧ ¬ ltSal y s) := .inl (by omega)
              have HNE : Hid (¬ q[k]? = some s) := by
                show ¬ _
                rw [List.getElem?_eq_none (by omega)]
                simp
              go_wp2_with fail
              go_quiet (fail)
              have hbz1 : Below wc.heap.size wc (wc.drewN nq) := below_drewN (Below.refl _ _) nq
              generalize wc.drewN nq = wz at *
              go_wp2_with fail
              go_quiet (fail)
              have hbz := below_drewN hbz1 nq
              generalize wz.drewN nq = wx at *
              have HQ4 : Hid (∀ U, Below wx.heap.size wx U → Sl U w.heap.size wx.heap.size 3 encS Aq q.length q ∧ Bx U bx [.int .i64 x'.id, .slice (some ⟨bs, os, none⟩) mx cx] ∧ SaS U (some ⟨bs, os, none⟩) mx x'.sales) := fun U hU => by
                obtain ⟨t1, t2, t3⟩ := HQ.out U (below_keep' hbz hU)
                exact ⟨t1.more hbz.size, t2, t3⟩
              replace HBW := Lib.hid (below_keep' HBW.out hbz)
              replace HBC0 := Lib.hid (below_keep' HBC0.out hbz)
              clear HQ hbz hbz1 HBQW
              have HQ := HQ4
              clear HQ4
              rcases Nat.eq_zero_or_pos q.length with hq0 | hq0
              · have hq1 : q.length ≤ 0 := by omega
                clear hq0
                by_cases hck : k = cq
                · subst hck
                  have HINS : Hid (insS s q = q.take k ++ s :: q.drop k) := by
                    show _ = _
                    rw [insS_cut k q HLT.out HEND.out]
                    exact if_neg HNE.out
                  have HINL : Hid ((insS s q).length = q.length + 1) := by show _ = _; rw [HINS.out]; simp; omega
                  have HO : Hid ((wx.alloc (.cells #[] 57)).ownsRow wx.heap.size 57 3 (.slice (some ⟨wx.heap.size, 0, none⟩) 0 0) 0 []) := World.ownsRow_lit wx #[] 0 (Nat.le_refl _) (by unfold maxLen; omega) rfl
                  have q0 : (0 : Int) ≤ (k : Int) := by omega
                  have q1 : (k : Int) ≤ (k : Int) := by omega
                  have q2 : (k : Int) ≤ (q.length : Int) := by omega
                  obtain ⟨hSq, _, _⟩ := HQ.out _ (Below.refl _ _)
                  have HS1 : Hid (∀ A : Option Addr, Sl (wx.alloc (.cells #[] 57)) w.heap.size wx.heap.size 3 encS A k (q.take k)) := fun A => ⟨by rw [List.length_take]; omega, fun h => absurd h (by omega)⟩
                  clear hSq
                  go_wp2_with (at_builtin; refine wpList_append_sl (ys := q.take k) (L := w.heap.size) (B := wx.heap.size) _ rfl _ _ 22 rfl wx.heap.size 57 i0 (.agg #[.int .i64 0, .int .i64 0, .int .i64 0]) 3 24 encS_len encS_one Tryz.underlying22 hi hz0 hz1 hz2 rfl (by decide) _ _ _ rfl HO.out _ rfl (HS1.out _) (by unfold maxLen; omega) (by omega) (by simp) ?_)
                  intro v5 w5 hown5 hgrow5
                  have hb5 : Below wx.heap.size wx w5 := Below.grown (one_alloc wx _) hgrow5 (by simp) (fun g hg => by simp [Value.ownBlock] at hg; omega)
                  obtain ⟨A5, c5, rfl, _⟩ := own_form hown5
                  obtain ⟨_, Z5, hX5⟩ := HQ.out _ hb5
                  obtain ⟨bs5, os5, s5, hA5, hbs5, hs5, d0, d1, d2⟩ := Sl.sa hX5 hlt2
                  have hss : s5 = s := Option.some.inj (hs5.symm.trans HSS.out)
                  subst hss
                  cases hA5
                  have hz5 := hb5.size
                  clear hs5 hX5 hgrow5
                  have Z50 := Z5.cell 0 _ rfl; have Z51 := Z5.cell 1 _ rfl; have Z5lt := Z5.lt
                  have HB5 := Lib.hid hb5
                  clear hb5
                  go_wp2_with (at_builtin; refine wpList_append_own _ rfl _ _ 22 rfl wx.heap.size 57 i0 (.agg #[.int .i64 0, .int .i64 0, .int .i64 0]) 3 24 Tryz.underlying22 hi hz0 hz1 hz2 rfl (by decide) _ _ _ rfl (hown5.alloc _) ⟨w5.heap.size, 0, none⟩ 1 1 [.int .i64 s5.y, .int .i64 s5.h, .int .i64 s5.l] rfl rfl ?c1 ?c2 ?c3 ?c4 ?c5 ?_)
                  case c1 => exact cell_list_at rfl _ _
                  case c2 => simp [Value.oneCell']
                  case c3 => unfold maxLen; omega
                  case c4 => omega
                  case c5 => simp; omega
                  intro v6 w6 hown6 hgrow6 _
                  have hb6 : Below wx.heap.size wx w6 := Below.grown (HB5.out.alloc (by omega) _) hgrow6 (by simp; omega) (fun g hg => (hown5.lt g hg).1)
                  obtain ⟨A6, c6, rfl, _⟩ := own_form hown6
                  have hz6 := hb6.size
                  have HB6 := Lib.hid hb6
                  obtain ⟨hSq, _, _⟩ := HQ.out _ hb6
                  clear hb6 hgrow6 hown5 Z50 Z51 Z5lt Z5 d0 d1 d2 hbs5
                  have HS7 : Hid (∀ A : Option Addr, Sl w6 w.heap.size wx.heap.size 3 encS A 0 (q.drop k)) := fun A => ⟨by rw [List.length_drop]; omega, fun h => absurd h (by omega)⟩
                  clear hSq
                  go_wp2_with (at_builtin; refine wpList_append_sl (m := 0) (ys := q.drop k) (L := w.heap.size) (B := wx.heap.size) _ rfl _ _ 22 rfl wx.heap.size 57 i0 (.agg #[.int .i64 0, .int .i64 0, .int .i64 0]) 3 24 encS_len encS_one Tryz.underlying22 hi hz0 hz1 hz2 rfl (by decide) _ _ _ rfl hown6 _ rfl (HS7.out _) (by unfold maxLen; omega) (by omega) (by omega) ?_)
                  intro v7 w7 hown7 hgrow7
                  have hb7 : Below wx.heap.size wx w7 := Below.grown HB6.out hgrow7 (by omega) (fun g hg => (hown6.lt g hg).1)
                  have hN : ∀ (N : Nat) (xs : List Value), w7.ownsRow wx.heap.size 57 3 v7 N xs → N = (insS s5 q).length → w7.ownsRow wx.heap.size 57 3 v7 (insS s5 q).length xs := fun N xs h e => e ▸ h
                  have hfl : (insS s5 q).flatMap encS = (q.take k).flatMap encS ++ (.int .i64 s5.y :: .int .i64 s5.h :: .int .i64 s5.l :: (q.drop k).flatMap encS) := by rw [HINS.out]; simp [List.flatMap_append, encS]
                  replace hown7 : w7.ownsRow wx.heap.size 57 3 v7 (insS s5 q).length ((insS s5 q).flatMap encS) := by rw [hfl]; simpa using hN _ _ hown7 (by rw [HINL.out]; omega)
                  obtain ⟨A7, c7, rfl, hc7⟩ := own_form hown7
                  have HC7 := Lib.hid (own_capS hown7)
                  have hS7 := Sl.of_own (enc := encS) encS_len hown7 rfl
                  obtain ⟨_, Z7, _⟩ := HQ.out _ hb7
                  have hz7 := hb7.size
                  have hbw7 := HBW.out.trans (hb7.mono (by have := HBW.out.size; omega))
                  have hbw8 := HBC0.out.trans (hb7.mono (by have := HBC0.out.size; omega))
                  clear hb7 hgrow7 hown7 hown6 HS7 HB6 hN hfl
                  go_wp2_with fail
                  refine ⟨⟨j + 1, insS s5 q, A7, c7, by omega, by go_num, rfl, ?_, by rw [HINL.out]; omega, ⟨hc7, HC7.out⟩, hS7.less (by have := HBW.out.size; omega), Z7, hbw7, hbw8⟩, by simp [intOf]; omega⟩
                  rw [take_snocS HSS.out, ← List.append_assoc, mergeS_snoc, ← HQM.out]
                · have HINS : Hid (insS s q = q.take k ++ s :: q.drop k) := by
                    show _ = _
                    rw [insS_cut k q HLT.out HEND.out]
                    exact if_neg HNE.out
                  have HINL : Hid ((insS s q).length = q.length + 1) := by show _ = _; rw [HINS.out]; simp; omega
                  have HO : Hid ((wx.alloc (.cells #[] 57)).ownsRow wx.heap.size 57 3 (.slice (some ⟨wx.heap.size, 0, none⟩) 0 0) 0 []) := World.ownsRow_lit wx #[] 0 (Nat.le_refl _) (by unfold maxLen; omega) rfl
                  have q0 : (0 : Int) ≤ (k : Int) := by omega
                  have q1 : (k : Int) ≤ (cq : Int) := by omega
                  have q2 : (k : Int) ≤ (q.length : Int) := by omega
                  obtain ⟨hSq, _, _⟩ := HQ.out _ (Below.refl _ _)
                  have HS1 : Hid (∀ A : Option Addr, Sl (wx.alloc (.cells #[] 57)) w.heap.size wx.heap.size 3 encS A k (q.take k)) := fun A => ⟨by rw [List.length_take]; omega, fun h => absurd h (by omega)⟩
                  clear hSq
                  go_wp2_with (at_builtin; refine wpList_append_sl (ys := q.take k) (L := w.heap.size) (B := wx.heap.size) _ rfl _ _ 22 rfl wx.heap.size 57 i0 (.agg #[.int .i64 0, .int .i64 0, .int .i64 0]) 3 24 encS_len encS_one Tryz.underlying22 hi hz0 hz1 hz2 rfl (by decide) _ _ _ rfl HO.out _ rfl (HS1.out _) (by unfold maxLen; omega) (by omega) (by simp) ?_)
                  intro v5 w5 hown5 hgrow5
                  have hb5 : Below wx.heap.size wx w5 := Below.grown (one_alloc wx _) hgrow5 (by simp) (fun g hg => by simp [Value.ownBlock] at hg; omega)
                  obtain ⟨A5, c5, rfl, _⟩ := own_form hown5
                  obtain ⟨_, Z5, hX5⟩ := HQ.out _ hb5
                  obtain ⟨bs5, os5, s5, hA5, hbs5, hs5, d0, d1, d2⟩ := Sl.sa hX5 hlt2
                  have hss : s5 = s := Option.some.inj (hs5.symm.trans HSS.out)
                  subst hss
                  cases hA5
                  have hz5 := hb5.size
                  clear hs5 hX5 hgrow5
                  have Z50 := Z5.cell 0 _ rfl; have Z51 := Z5.cell 1 _ rfl; have Z5lt := Z5.lt
                  have HB5 := Lib.hid hb5
                  clear hb5
                  have hck2 : ¬ cq = k := by omega
                  have hck3 : ¬ k = cq := by omega
                  go_wp2_with (at_builtin; refine wpList_append_own _ rfl _ _ 22 rfl wx.heap.size 57 i0 (.agg #[.int .i64 0, .int .i64 0, .int .i64 0]) 3 24 Tryz.underlying22 hi hz0 hz1 hz2 rfl (by decide) _ _ _ rfl (hown5.alloc _) ⟨w5.heap.size, 0, none⟩ 1 1 [.int .i64 s5.y, .int .i64 s5.h, .int .i64 s5.l] rfl rfl ?c1 ?c2 ?c3 ?c4 ?c5 ?_)
                  case c1 => exact cell_list_at rfl _ _
                  case c2 => simp [Value.oneCell']
                  case c3 => unfold maxLen; omega
                  case c4 => omega
                  case c5 => simp; omega
                  intro v6 w6 hown6 hgrow6 _
                  have hb6 : Below wx.heap.size wx w6 := Below.grown (HB5.out.alloc (by omega) _) hgrow6 (by simp; omega) (fun g hg => (hown5.lt g hg).1)
                  obtain ⟨A6, c6, rfl, _⟩ := own_form hown6
                  have hz6 := hb6.size
                  have HB6 := Lib.hid hb6
                  obtain ⟨hSq, _, _⟩ := HQ.out _ hb6
                  clear hb6 hgrow6 hown5 Z50 Z51 Z5lt Z5 d0 d1 d2 hbs5
                  have HS7 : Hid (∀ A : Option Addr, Sl w6 w.heap.size wx.heap.size 3 encS A 0 (q.drop k)) := fun A => ⟨by rw [List.length_drop]; omega, fun h => absurd h (by omega)⟩
                  clear hSq
                  go_wp2_with (at_builtin; refine wpList_append_sl (m := 0) (ys := q.drop k) (L := w.heap.size) (B := wx.heap.size) _ rfl _ _ 22 rfl wx.heap.size 57 i0 (.agg #[.int .i64 0, .int .i64 0, .int .i64 0]) 3 24 encS_len encS_one Tryz.underlying22 hi hz0 hz1 hz2 rfl (by decide) _ _ _ rfl hown6 _ rfl (HS7.out _) (by unfold maxLen; omega) (by omega) (by omega) ?_)
                  intro v7 w7 hown7 hgrow7
                  have hb7 : Below wx.heap.size wx w7 := Below.grown HB6.out hgrow7 (by omega) (fun g hg => (hown6.lt g hg).1)
                  have hN : ∀ (N : Nat) (xs : List Value), w7.ownsRow wx.heap.size 57 3 v7 N xs → N = (insS s5 q).length → w7.ownsRow wx.heap.size 57 3 v7 (insS s5 q).length xs := fun N xs h e => e ▸ h
                  have hfl : (insS s5 q).flatMap encS = (q.take k).flatMap encS ++ (.int .i64 s5.y :: .int .i64 s5.h :: .int .i64 s5.l :: (q.drop k).flatMap encS) := by rw [HINS.out]; simp [List.flatMap_append, encS]
                  replace hown7 : w7.ownsRow wx.heap.size 57 3 v7 (insS s5 q).length ((insS s5 q).flatMap encS) := by rw [hfl]; simpa using hN _ _ hown7 (by rw [HINL.out]; omega)
                  obtain ⟨A7, c7, rfl, hc7⟩ := own_form hown7
                  have HC7 := Lib.hid (own_capS hown7)
                  have hS7 := Sl.of_own (enc := encS) encS_len hown7 rfl
                  obtain ⟨_, Z7, _⟩ := HQ.out _ hb7
                  have hz7 := hb7.size
                  have hbw7 := HBW.out.trans (hb7.mono (by have := HBW.out.size; omega))
                  have hbw8 := HBC0.out.trans (hb7.mono (by have := HBC0.out.size; omega))
                  clear hb7 hgrow7 hown7 hown6 HS7 HB6 hN hfl
                  go_wp2_with fail
                  refine ⟨⟨j + 1, insS s5 q, A7, c7, by omega, by go_num, rfl, ?_, by rw [HINL.out]; omega, ⟨hc7, HC7.out⟩, hS7.less (by have := HBW.out.size; omega), Z7, hbw7, hbw8⟩, by simp [intOf]; omega⟩
                  rw [take_snocS HSS.out, ← List.append_assoc, mergeS_snoc, ← HQM.out]
              · obtain ⟨bq, oq, _, rfl, _⟩ := Sl.sa (HQ.out _ (Below.refl _ _)).1 (show 0 < q.length by omega)
                by_cases hck : k = cq
                · subst hck
                  have HINS : Hid (insS s q = q.take k ++ s :: q.drop k) := by
                    show _ = _
                    rw [insS_cut k q HLT.out HEND.out]
                    exact if_neg HNE.out
                  have HINL : Hid ((insS s q).length = q.length + 1) := by show _ = _; rw [HINS.out]; simp; omega
                  have HO : Hid ((wx.alloc (.cells #[] 57)).ownsRow wx.heap.size 57 3 (.slice (some ⟨wx.heap.size, 0, none⟩) 0 0) 0 []) := World.ownsRow_lit wx #[] 0 (Nat.le_refl _) (by unfold maxLen; omega) rfl
                  have q0 : (0 : Int) ≤ (k : Int) := by omega
                  have q1 : (k : Int) ≤ (k : Int) := by omega
                  have q2 : (k : Int) ≤ (q.length : Int) := by omega
                  obtain ⟨hSq, _, _⟩ := HQ.out _ (Below.refl _ _)
                  have HS1 : Hid (Sl (wx.alloc (.cells #[] 57)) w.heap.size wx.heap.size 3 encS (some ⟨bq, oq, none⟩) k (q.take k)) := (hSq.cut k hkq).below (one_alloc _ _) (Nat.le_refl _)
                  clear hSq
                  go_wp2_with (at_builtin; refine wpList_append_sl (ys := q.take k) (L := w.heap.size) (B := wx.heap.size) _ rfl _ _ 22 rfl wx.heap.size 57 i0 (.agg #[.int .i64 0, .int .i64 0, .int .i64 0]) 3 24 encS_len encS_one Tryz.underlying22 hi hz0 hz1 hz2 rfl (by decide) _ _ _ rfl HO.out _ rfl HS1.out (by unfold maxLen; omega) (by omega) (by simp) ?_)
                  intro v5 w5 hown5 hgrow5
                  have hb5 : Below wx.heap.size wx w5 := Below.grown (one_alloc wx _) hgrow5 (by simp) (fun g hg => by simp [Value.ownBlock] at hg; omega)
                  obtain ⟨A5, c5, rfl, _⟩ := own_form hown5
                  obtain ⟨_, Z5, hX5⟩ := HQ.out _ hb5
                  obtain ⟨bs5, os5, s5, hA5, hbs5, hs5, d0, d1, d2⟩ := Sl.sa hX5 hlt2
                  have hss : s5 = s := Option.some.inj (hs5.symm.trans HSS.out)
                  subst hss
                  cases hA5
                  have hz5 := hb5.size
                  clear hs5 hX5 hgrow5
                  have Z50 := Z5.cell 0 _ rfl; have Z51 := Z5.cell 1 _ rfl; have Z5lt := Z5.lt
                  have HB5 := Lib.hid hb5
                  clear hb5
                  have hc0 : ¬ k = 0 := by omega
                  go_wp2_with (at_builtin; refine wpList_append_own _ rfl _ _ 22 rfl wx.heap.size 57 i0 (.agg #[.int .i64 0, .int .i64 0, .int .i64 0]) 3 24 Tryz.underlying22 hi hz0 hz1 hz2 rfl (by decide) _ _ _ rfl (hown5.alloc _) ⟨w5.heap.size, 0, none⟩ 1 1 [.int .i64 s5.y, .int .i64 s5.h, .int .i64 s5.l] rfl rfl ?c1 ?c2 ?c3 ?c4 ?c5 ?_)
                  case c1 => exact cell_list_at rfl _ _
                  case c2 => simp [Value.oneCell']
                  case c3 => unfold maxLen; omega
                  case c4 => omega
                  case c5 => simp; omega
                  intro v6 w6 hown6 hgrow6 _
                  have hb6 : Below wx.heap.size wx w6 := Below.grown (HB5.out.alloc (by omega) _) hgrow6 (by simp; omega) (fun g hg => (hown5.lt g hg).1)
                  obtain ⟨A6, c6, rfl, _⟩ := own_form hown6
                  have hz6 := hb6.size
                  have HB6 := Lib.hid hb6
                  obtain ⟨hSq, _, _⟩ := HQ.out _ hb6
                  clear hb6 hgrow6 hown5 Z50 Z51 Z5lt Z5 d0 d1 d2 hbs5
                  have HS7 : Hid (∀ A : Option Addr, Sl w6 w.heap.size wx.heap.size 3 encS A 0 (q.drop k)) := fun A => ⟨by rw [List.length_drop]; omega, fun h => absurd h (by omega)⟩
                  clear hSq
                  go_wp2_with (at_builtin; refine wpList_append_sl (m := 0) (ys := q.drop k) (L := w.heap.size) (B := wx.heap.size) _ rfl _ _ 22 rfl wx.heap.size 57 i0 (.agg #[.int .i64 0, .int .i64 0, .int .i64 0]) 3 24 encS_len encS_one Tryz.underlying22 hi hz0 hz1 hz2 rfl (by decide) _ _ _ rfl hown6 _ rfl (HS7.out _) (by unfold maxLen; omega) (by omega) (by omega) ?_)
                  intro v7 w7 hown7 hgrow7
                  have hb7 : Below wx.heap.size wx w7 := Below.grown HB6.out hgrow7 (by omega) (fun g hg => (hown6.lt g hg).1)
                  have hN : ∀ (N : Nat) (xs : List Value), w7.ownsRow wx.heap.size 57 3 v7 N xs → N = (insS s5 q).length → w7.ownsRow wx.heap.size 57 3 v7 (insS s5 q).length xs := fun N xs h e => e ▸ h
                  have hfl : (insS s5 q).flatMap encS = (q.take k).flatMap encS ++ (.int .i64 s5.y :: .int .i64 s5.h :: .int .i64 s5.l :: (q.drop k).flatMap encS) := by rw [HINS.out]; simp [List.flatMap_append, encS]
                  replace hown7 : w7.ownsRow wx.heap.size 57 3 v7 (insS s5 q).length ((insS s5 q).flatMap encS) := by rw [hfl]; simpa using hN _ _ hown7 (by rw [HINL.out]; omega)
                  obtain ⟨A7, c7, rfl, hc7⟩ := own_form hown7
                  have HC7 := Lib.hid (own_capS hown7)
                  have hS7 := Sl.of_own (enc := encS) encS_len hown7 rfl
                  obtain ⟨_, Z7, _⟩ := HQ.out _ hb7
                  have hz7 := hb7.size
                  have hbw7 := HBW.out.trans (hb7.mono (by have := HBW.out.size; omega))
                  have hbw8 := HBC0.out.trans (hb7.mono (by have := HBC0.out.size; omega))
                  clear hb7 hgrow7 hown7 hown6 HS7 HB6 hN hfl
                  go_wp2_with fail
                  refine ⟨⟨j + 1, insS s5 q, A7, c7, by omega, by go_num, rfl, ?_, by rw [HINL.out]; omega, ⟨hc7, HC7.out⟩, hS7.less (by have := HBW.out.size; omega), Z7, hbw7, hbw8⟩, by simp [intOf]; omega⟩
                  rw [take_snocS HSS.out, ← List.append_assoc, mergeS_snoc, ← HQM.out]
                · have HINS : Hid (insS s q = q.take k ++ s :: q.drop k) := by
                    show _ = _
                    rw [insS_cut k q HLT.out HEND.out]
                    exact if_neg HNE.out
                  have HINL : Hid ((insS s q).length = q.length + 1) := by show _ = _; rw [HINS.out]; simp; omega
                  have HO : Hid ((wx.alloc (.cells #[] 57)).ownsRow wx.heap.size 57 3 (.slice (some ⟨wx.heap.size, 0, none⟩) 0 0) 0 []) := World.ownsRow_lit wx #[] 0 (Nat.le_refl _) (by unfold maxLen; omega) rfl
                  have q0 : (0 : Int) ≤ (k : Int) := by omega
                  have q1 : (k : Int) ≤ (cq : Int) := by omega
                  have q2 : (k : Int) ≤ (q.length : Int) := by omega
                  obtain ⟨hSq, _, _⟩ := HQ.out _ (Below.refl _ _)
                  have HS1 : Hid (Sl (wx.alloc (.cells #[] 57)) w.heap.size wx.heap.size 3 encS (some ⟨bq, oq, none⟩) k (q.take k)) := (hSq.cut k hkq).below (one_alloc _ _) (Nat.le_refl _)
                  clear hSq
                  go_wp2_with (at_builtin; refine wpList_append_sl (ys := q.take k) (L := w.heap.size) (B := wx.heap.size) _ rfl _ _ 22 rfl wx.heap.size 57 i0 (.agg #[.int .i64 0, .int .i64 0, .int .i64 0]) 3 24 encS_len encS_one Tryz.underlying22 hi hz0 hz1 hz2 rfl (by decide) _ _ _ rfl HO.out _ rfl HS1.out (by unfold maxLen; omega) (by omega) (by simp) ?_)
                  intro v5 w5 hown5 hgrow5
                  have hb5 : Below wx.heap.size wx w5 := Below.grown (one_alloc wx _) hgrow5 (by simp) (fun g hg => by simp [Value.ownBlock] at hg; omega)
                  obtain ⟨A5, c5, rfl, _⟩ := own_form hown5
                  obtain ⟨_, Z5, hX5⟩ := HQ.out _ hb5
                  obtain ⟨bs5, os5, s5, hA5, hbs5, hs5, d0, d1, d2⟩ := Sl.sa hX5 hlt2
                  have hss : s5 = s := Option.some.inj (hs5.symm.trans HSS.out)
                  subst hss
                  cases hA5
                  have hz5 := hb5.size
                  clear hs5 hX5 hgrow5
                  have Z50 := Z5.cell 0 _ rfl; have Z51 := Z5.cell 1 _ rfl; have Z5lt := Z5.lt
                  have HB5 := Lib.hid hb5
                  clear hb5
                  have hc0 : ¬ cq = 0 := by omega
                  have hck2 : ¬ cq = k := by omega
                  have hck3 : ¬ k = cq := by omega
                  go_wp2_with (at_builtin; refine wpList_append_own _ rfl _ _ 22 rfl wx.heap.size 57 i0 (.agg #[.int .i64 0, .int .i64 0, .int .i64 0]) 3 24 Tryz.underlying22 hi hz0 hz1 hz2 rfl (by decide) _ _ _ rfl (hown5.alloc _) ⟨w5.heap.size, 0, none⟩ 1 1 [.int .i64 s5.y, .int .i64 s5.h, .int .i64 s5.l] rfl rfl ?c1 ?c2 ?c3 ?c4 ?c5 ?_)
                  case c1 => exact cell_list_at rfl _ _
                  case c2 => simp [Value.oneCell']
                  case c3 => unfold maxLen; omega
                  case c4 => omega
                  case c5 => simp; omega
                  intro v6 w6 hown6 hgrow6 _
                  have hb6 : Below wx.heap.size wx w6 := Below.grown (HB5.out.alloc (by omega) _) hgrow6 (by simp; omega) (fun g hg => (hown5.lt g hg).1)
                  obtain ⟨A6, c6, rfl, _⟩ := own_form hown6
                  have hz6 := hb6.size
                  have HB6 := Lib.hid hb6
                  obtain ⟨hSq, _, _⟩ := HQ.out _ hb6
                  clear hb6 hgrow6 hown5 Z50 Z51 Z5lt Z5 d0 d1 d2 hbs5
                  have HS7 : Hid (∀ A : Option Addr, Sl w6 w.heap.size wx.heap.size 3 encS A 0 (q.drop k)) := fun A => ⟨by rw [List.length_drop]; omega, fun h => absurd h (by omega)⟩
                  clear hSq
                  go_wp2_with (at_builtin; refine wpList_append_sl (m := 0) (ys := q.drop k) (L := w.heap.size) (B := wx.heap.size) _ rfl _ _ 22 rfl wx.heap.size 57 i0 (.agg #[.int .i64 0, .int .i64 0, .int .i64 0]) 3 24 encS_len encS_one Tryz.underlying22 hi hz0 hz1 hz2 rfl (by decide) _ _ _ rfl hown6 _ rfl (HS7.out _) (by unfold maxLen; omega) (by omega) (by omega) ?_)
                  intro v7 w7 hown7 hgrow7
                  have hb7 : Below wx.heap.size wx w7 := Below.grown HB6.out hgrow7 (by omega) (fun g hg => (hown6.lt g hg).1)
                  have hN : ∀ (N : Nat) (xs : List Value), w7.ownsRow wx.heap.size 57 3 v7 N xs → N = (insS s5 q).length → w7.ownsRow wx.heap.size 57 3 v7 (insS s5 q).length xs := fun N xs h e => e ▸ h
                  have hfl : (insS s5 q).flatMap encS = (q.take k).flatMap encS ++ (.int .i64 s5.y :: .int .i64 s5.h :: .int .i64 s5.l :: (q.drop k).flatMap encS) := by rw [HINS.out]; simp [List.flatMap_append, encS]
                  replace hown7 : w7.ownsRow wx.heap.size 57 3 v7 (insS s5 q).length ((insS s5 q).flatMap encS) := by rw [hfl]; simpa using hN _ _ hown7 (by rw [HINL.out]; omega)
                  obtain ⟨A7, c7, rfl, hc7⟩ := own_form hown7
                  have HC7 := Lib.hid (own_capS hown7)
                  have hS7 := Sl.of_own (enc := encS) encS_len hown7 rfl
                  obtain ⟨_, Z7, _⟩ := HQ.out _ hb7
                  have hz7 := hb7.size
                  have hbw7 := HBW.out.trans (hb7.mono (by have := HBW.out.size; omega))
                  have hbw8 := HBC0.out.trans (hb7.mono (by have := HBC0.out.size; omega))
                  clear hb7 hgrow7 hown7 hown6 HS7 HB6 hN hfl
                  go_wp2_with fail
                  refine ⟨⟨j + 1, insS s5 q, A7, c7, by omega, by go_num, rfl, ?_, by rw [HINL.out]; omega, ⟨hc7, HC7.out⟩, hS7.less (by have := HBW.out.size; omega), Z7, hbw7, hbw8⟩, by simp [intOf]; omega⟩
                  rw [take_snocS HSS.out, ← List.append_assoc, mergeS_snoc, ← HQM.out]
        · obtain rfl : j = mx := by omega
          have Z0 := Z.cell 0 _ rfl; have Z1 := Z.cell 1 _ rfl; have Zlt := Z.lt
          go_wp2_with fail
          refine ⟨⟨i + 1, q, Aq, cq, by omega, by go_num, rfl, ?_, by omega, hcap, hSq, hbw⟩, by simp [intOf]; omega⟩
          rw [HQM.out, HCAT.out, take_all HXL.out]
    · obtain rfl : i = m := by omega
      have HE : Hid (out = salesOf ls grp) := by
        show _ = _
        rw [HOUT.out]
        unfold salesOf catS
        rw [take_all HGL.out]
      go_wp2_with fail
      go_ret
      exact ⟨Ao, out.length, co, rfl, by omega, by rw [← HE.out]; exact hSo, hb⟩
end Go.Proofs.YtccmchmemafjdaaGreatDoor
