/- Chapter 46: the reference's names: the walk. -/
import Derived.Test.YtccmchmemafjdaaGreatDoorPn
import Derived.Test.YtccmchmemafjdaaGreatDoorPk
import Derived.Test.YtccmchmemafjdaaGreatDoorOl
import Derived.Laws.OwnMore
import Derived.StillTailTactics
set_option linter.unusedSimpArgs false
set_option linter.unusedVariables false
namespace Go.Proofs.YtccmchmemafjdaaGreatDoor
open Go.RowKit

theorem getElem?_enc {xs : List Int} {j : Nat} {u : Value} (h : (xs.map (Value.int .i64))[j]? = some u) : ∃ x, xs[j]? = some x ∧ u = .int .i64 x := by
  rw [List.getElem?_map] at h
  cases hx : xs[j]? with
  | none => rw [hx] at h; cases h
  | some x => rw [hx] at h; exact ⟨x, rfl, by injection h with h; exact h.symm⟩
theorem Bx.of_ownI {w : World} {base g n cap : Nat} {e : TypeId} {xs : List Int} (h : w.ownsRow base e 1 (.slice (some ⟨g, 0, none⟩) n cap) n (xs.flatMap encI)) (hn : xs.length = n) : Bx w g (xs.map (Value.int .i64)) := by
  have e1 : xs.flatMap encI = xs.map (Value.int .i64) := flat_one (Value.int .i64) xs
  rw [e1] at h
  refine ⟨(h.lt g rfl).2, fun j u hu => ?_, fun j => h.frozenAt j⟩
  have hj := (List.getElem?_eq_some_iff.1 hu).1
  rw [List.length_map] at hj
  rw [h.cellAt j (by omega)]
  exact hu
theorem Bx.atI {w : World} {g : Nat} {xs : List Int} (h : Bx w g (xs.map (Value.int .i64))) {i : Nat} {x : Int} (hx : xs[i]? = some x) : w.cell? ⟨g, i, none⟩ = some (.int .i64 x) := h.cell i _ (by rw [List.getElem?_map, hx]; rfl)
theorem Bx.slI {w : World} {g n : Nat} {xs : List Int} (h : Bx w g (xs.map (Value.int .i64))) (hn : xs.length = n) : Sl w 0 w.heap.size 1 encI (some ⟨g, 0, none⟩) n xs := by
  refine ⟨hn, fun _ => ⟨g, 0, rfl, Nat.zero_le _, h.lt, fun i x hx j u hu => ?_⟩⟩
  have hj : j = 0 := by have := (List.getElem?_eq_some_iff.1 hu).1; simp [encI] at this; exact this
  subst hj
  have hu' : u = .int .i64 x := by simpa [encI] using hu.symm
  subst hu'
  rw [Nat.zero_add, Nat.mul_one, Nat.add_zero]
  exact h.atI hx
theorem Bx.setI {w : World} {g : Nat} {xs : List Int} (h : Bx w g (xs.map (Value.int .i64))) {i : Nat} (hi : i < xs.length) (x : Int) : Bx (w.setCell ⟨g, i, none⟩ (.int .i64 x)) g ((xs.set i x).map (Value.int .i64)) := by
  rw [List.map_set]
  exact h.set (by rw [List.length_map]; exact hi) _
theorem ids_len (ls : List Lst) : (idsL ls).length = ls.length := by unfold idsL; exact List.length_map _
set_option maxRecDepth 100000 in
set_option maxHeartbeats 8000000 in
theorem rnames_any (A : Option Addr) (n c : Nat) (ls : List Lst) (A' : Option Addr) (m c' : Nat) (P : List (Int × Int)) (w : World) (hn : n ≤ 64) (hm : m ≤ 64) (hS : LsS w A n ls) (hP : Sl w 0 w.heap.size 2 encE A' m P) (hv : ∀ x ∈ ls, validL x) (hnd : (idsL ls).Nodup) (hin : ∀ p ∈ P, p.1 ∈ idsL ls ∧ p.2 ∈ idsL ls) :
    Calls Tryz.prog 54 #[.slice A n c, .slice A' m c'] w fun e w' => ∃ A2 c2, e = .returned (.slice A2 n c2) ∧ Sl w' 0 w'.heap.size 1 encI A2 n ((idsL ls).map (nmU ls P)) ∧ Below w.heap.size w w' := by
  obtain ⟨i0, hi, hz0, hz1, hz2⟩ := info_parts Tryz.infoI
  have HIN := Lib.hid (inIds_of hv hin)
  have HNM := Lib.hid (nmU_nm (inIds_of hv hin))
  have HPI := Lib.hid hin
  have HND := Lib.hid hnd
  have HV := Lib.hid hv
  have HL := Lib.hid hS.len
  have HPL := Lib.hid hP.len
  have HS := Lib.hid hS
  have HP := Lib.hid (fun (U : World) (hU : Below w.heap.size w U) => Sl.up hP hU (Nat.le_refl _) (Nat.le_refl _))
  clear hS hP hv hnd hin
  go_enter Tryz.func54, Tryz.ntmps54
  go_wp2_with fail
  go_loopw [5, 6] (fun o i wr => ∃ k : Nat, k ≤ n ∧ i = .int .i64 (k : Int) ∧ wr.ownsRow w.heap.size 3 1 o k (((idsL ls).take k).flatMap encI) ∧ Below w.heap.size w wr) (fun _ i _ => n - (intOf i).toNat)
  case atStart => exact ⟨0, by omega, rfl, World.ownsRow_nil _ _ _ _, Below.refl _ _⟩
  case round =>
    obtain ⟨k, hk, rfl, hown, hb⟩ := hrel
    obtain ⟨Ao, co, rfl, _⟩ := own_form hown
    by_cases hlt : k < n
    · obtain ⟨b, off, x, a, m', c1', rfl, hbb, hx, c0, c1, _, _⟩ := (HS.out.up hb).at_ hlt
      have HX : Hid ((idsL ls)[k]? = some x.id) := by show _ = _; unfold idsL; rw [List.getElem?_map, hx]; rfl
      clear hx c1
      have hs := hb.size
      go_wp2_with (at_builtin; refine wpList_append_own _ rfl _ _ 40 rfl w.heap.size 3 i0 (.int .i64 0) 1 8 Tryz.underlying40 hi hz0 hz1 hz2 rfl (by decide) _ _ _ rfl (hown.alloc _) ⟨wr.heap.size, 0, none⟩ 1 1 [.int .i64 x.id] rfl rfl ?c1 ?c2 ?c3 ?c4 ?c5 ?_)
      case c1 => exact cell_list_at rfl _ _
      case c2 => simp [Value.oneCell']
      case c3 => unfold maxLen; omega
      case c4 => omega
      case c5 => simp; omega
      intro v' w6 hown6 hgrow _
      have hb6 : Below w.heap.size w w6 := Below.grown (hb.alloc hs _) hgrow (by simp; omega) (fun g hg => (hown.lt g hg).1)
      go_wp2_with fail
      refine ⟨⟨k + 1, by omega, by go_num, ?_, hb6⟩, by simp [intOf]; omega⟩
      rw [take_snocS HX.out, List.flatMap_append]
      exact hown6
    · obtain rfl : k = n := by omega
      rw [take_all (by rw [ids_len]; exact HL.out)] at hown
      rcases hown.2 with ⟨hv0, h0⟩ | ⟨g, cap, cur, hv0, hg, hh, _⟩
      · simp only [Value.slice.injEq] at hv0
        obtain ⟨rfl, rfl, rfl⟩ := hv0
        have HE : Hid ((idsL ls).map (nmU ls P) = []) := by
          show _ = _
          have := HL.out
          rw [List.length_eq_zero_iff] at this
          rw [this]
          rfl
        clear hown h0
        go_wp2_with fail
        go_loopw [7] (fun r wq => r = .int .i64 0 ∧ wq = wr) (fun _ _ => 0)
        case atStart => exact ⟨rfl, rfl⟩
        case round =>
          obtain ⟨rfl, rfl⟩ := hrel
          go_wp2_with fail
          go_ret
          exact ⟨none, 0, rfl, by rw [HE.out]; exact Sl.nil, hb⟩
      · simp only [Value.slice.injEq, true_and] at hv0
        obtain ⟨rfl, rfl⟩ := hv0
        have hB := Bx.of_ownI hown (by rw [ids_len]; exact HL.out)
        have hg0 : w.heap.size ≤ g := hg
        clear hown hh
        go_wp2_with fail
        go_loopw [7] (fun r wq => ∃ (t : Nat) (out : List Int), t ≤ k ∧ r = .int .i64 (t : Int) ∧ RI (nmU ls P) ls out ∧ (t ≤ cntG (nmU ls P) ls out ∨ ∀ j < ls.length, goodB (nmU ls P) ls out j = true) ∧ Bx wq g (out.map (Value.int .i64)) ∧ Below w.heap.size w wq) (fun r _ => k - (intOf r).toNat)
        case atStart => exact ⟨0, idsL ls, by omega, rfl, RI.start, .inl (Nat.zero_le _), hB, hb⟩
        case round =>
          clear hB hb
          obtain ⟨t, out, ht, rfl, hri, hcnt, hB, hb⟩ := hrel
          have HRI := Lib.hid hri; clear hri
          have HCN := Lib.hid hcnt; clear hcnt
          by_cases hlt : t < k
          · go_wp2_with fail
            go_loopw [8] (fun s wq => ∃ (i : Nat) (o1 : List Int), i ≤ k ∧ s = .int .i64 (i : Int) ∧ RW (nmU ls P) ls P (goodB (nmU ls P) ls out) i 0 0 o1 ∧ Bx wq g (o1.map (Value.int .i64)) ∧ Below w.heap.size w wq) (fun s _ => k - (intOf s).toNat)
            case atStart => exact ⟨0, out, by omega, rfl, RW.start HRI.out, hB, hb⟩
            case round =>
              clear hB hb
              obtain ⟨i, o1, hi', rfl, hrw, hB, hb⟩ := hrel
              have HRW := Lib.hid hrw; clear hrw
              by_cases hlt2 : i < k
              · go_wp2_with fail
                go_loopw [9] (fun s wq => ∃ (j : Nat) (o2 : List Int), j ≤ k ∧ s = .int .i64 (j : Int) ∧ RW (nmU ls P) ls P (goodB (nmU ls P) ls out) i j 0 o2 ∧ Bx wq g (o2.map (Value.int .i64)) ∧ Below w.heap.size w wq) (fun s _ => k - (intOf s).toNat)
                case atStart => exact ⟨0, o1, by omega, rfl, HRW.out, hB, hb⟩
                case round =>
                  clear hB hb HRW
                  obtain ⟨j, o2, hj', rfl, hrw, hB, hb⟩ := hrel
                  have HRW := Lib.hid hrw; clear hrw
                  by_cases hlt3 : j < k
                  · obtain ⟨b, off, x, ax, mx, cx, rfl, hbb, hx, e0, e1, hmx, hSx⟩ := (HS.out.up hb).at_ hlt2
                    obtain ⟨b', off', y, ay, my, cy, hAy, hbb', hy, f0, f1, hmy, hSy⟩ := (HS.out.up hb).at_ hlt3
                    cases hAy
                    have HX := Lib.hid hx
                    have HY := Lib.hid hy
                    have hmx8 : mx ≤ 1000000 := by have := (HV.out x (List.mem_of_getElem? hx)).2.1; rw [Sl.len hSx] at this; omega
                    have hmy8 : my ≤ 1000000 := by have := (HV.out y (List.mem_of_getElem? hy)).2.1; rw [Sl.len hSy] at this; omega
                    have HSH : Hid (∀ U, Below wr.heap.size wr U → Calls Tryz.prog 23 #[.agg #[.int .i64 x.id, .slice ax mx cx], .agg #[.int .i64 y.id, .slice ay my cy]] U fun e w' => e = .returned (.bool (shareB x.sales y.sales)) ∧ Below U.heap.size U w') := fun U hU =>
                      rshare_any x.id ax mx cx x.sales y.id ay my cy y.sales U hmx8 hmy8 (hSx.up hU) (hSy.up hU)
                    obtain ⟨a, ha, _⟩ := HRW.out.ri.at_ hx
                    obtain ⟨bv, hbv, _⟩ := HRW.out.ri.at_ hy
                    have HA := Lib.hid ha
                    have HBV := Lib.hid hbv
                    have HSI := Lib.hid (shareB_iff x y)
                    have ho2 : i < o2.length := (List.getElem?_eq_some_iff.1 ha).1
                    clear hx hy hSx hSy hmx hmy ha hbv
                    generalize shareB x.sales y.sales = sh at *
                    go_wp2_with fail
                    go_region_held3 (fun U => U.cell? ⟨b, off + i * 2, none⟩ = some (.int .i64 x.id) ∧ U.cell? ⟨b, off + i * 2 + 1, none⟩ = some (.slice ax mx cx) ∧ U.cell? ⟨b, off + j * 2, none⟩ = some (.int .i64 y.id) ∧ U.cell? ⟨b, off + j * 2 + 1, none⟩ = some (.slice ay my cy) ∧ Below wr.heap.size wr U)
                      (first | exact keep4P e0 e1 f0 f1 hbb hbb hbb hbb (Below.drew (Below.refl _ _)) | exact keep4P e0 e1 f0 f1 hbb hbb hbb hbb (below_keep' (last5P (by assumption)) (by assumption)) | go_keep)
                      ((go_at_call 23; refine (HSH.out _ (last5P (by assumption))).mono ?_; rintro e wz ⟨rfl, hbz2⟩))
                    all_goals
                      rename_i hH
                      have hb7 := last5P hH
                      have hb8 := below_keep' hb hb7
                      have hB8 := hB.up hb7
                      clear hH
                      cases sh
                      · have HNS := Lib.hid (fun h => Bool.false_ne_true (HSI.out.2 h))
                        go_wp2_with fail
                        exact ⟨⟨j + 1, o2, by omega, by go_num, HRW.out.skip HX.out HY.out HNS.out, hB8, hb8⟩, by simp [intOf]; omega⟩
                      · have HSH2 := Lib.hid (HSI.out.1 rfl)
                        have ca := hB8.atI HA.out
                        have cb := hB8.atI HBV.out
                        have fa := hB8.frz i
                        have gl := hB8.lt
                        have hik : (i : Int) < (k : Int) := by omega
                        have hjk : (j : Int) < (k : Int) := by omega
                        have HB8 := Lib.hid hB8; clear hB8
                        have HBB := Lib.hid hb8; clear hb8
                        have HGE : Hid (nmU ls P x.id = nmU ls P y.id) := by
                          obtain ⟨s, h1, h2⟩ := HSH2.out
                          exact HNM.out.same _ _ (.inl ⟨s, mem_holds.2 ⟨x, List.mem_of_getElem? HX.out, rfl, h1⟩, mem_holds.2 ⟨y, List.mem_of_getElem? HY.out, rfl, h2⟩⟩)
                        clear hb7
                        go_wp2_with fail
                        go_still_tail 12, (by kernel_rfl)
                        change wpList _ _ _ _ _ (World.drew _)
                        go_wp2_with fail
                        refine ⟨⟨j + 1, o2.set i (min a bv), by omega, by go_num, HRW.out.set_ HNM.out.le HX.out HY.out HGE.out HA.out HBV.out, ?_, Below.drew (HBB.out.setCell hg0 _)⟩, by simp [intOf]; omega⟩
                        rw [← mnI_eq]
                        exact (HB8.out.setI ho2 (mnI a bv)).up (Below.drew (Below.refl _ _))
                  · obtain rfl : j = k := by omega
                    go_wp2_with fail
                    have h2 := HRW.out
                    rw [← HL.out] at h2
                    exact ⟨⟨i + 1, o2, by omega, by go_num, h2.next, hB, hb⟩, by simp [intOf]; omega⟩
              · obtain rfl : i = k := by omega
                go_wp2_with fail
                go_loopw [10] (fun s wq => ∃ (q : Nat) (o2 : List Int), q ≤ m ∧ s = .int .i64 (q : Int) ∧ RW (nmU ls P) ls P (goodB (nmU ls P) ls out) i 0 q o2 ∧ Bx wq g (o2.map (Value.int .i64)) ∧ Below w.heap.size w wq) (fun s _ => m - (intOf s).toNat)
                case atStart => exact ⟨0, o1, by omega, rfl, HRW.out, hB, hb⟩
                case round =>
                  clear hB hb HRW
                  obtain ⟨q, o2, hq', rfl, hrw, hB, hb⟩ := hrel
                  have HRW := Lib.hid hrw; clear hrw
                  by_cases hlt3 : q < m
                  · obtain ⟨b, off, p, rfl, hbb, hp, e0, e1⟩ := (HP.out _ hb).en hlt3
                    obtain ⟨ia, x, hpa, hx, hxi, hial⟩ := placeI_at (HPI.out p (List.mem_of_getElem? hp)).1
                    obtain ⟨ib, y, hpb, hy, hyi, hibl⟩ := placeI_at (HPI.out p (List.mem_of_getElem? hp)).2
                    have HFA : Hid (Calls Tryz.prog 53 #[.slice A i c, .int .i64 p.1] wr fun e w' => e = .returned (.int .i64 (ia : Int)) ∧ w' = wr) := by
                      show Calls _ _ _ _ _
                      have := rplace_any A i c ls p.1 wr (by omega) (HS.out.up hb)
                      rwa [hpa] at this
                    have HFB : Hid (Calls Tryz.prog 53 #[.slice A i c, .int .i64 p.2] wr fun e w' => e = .returned (.int .i64 (ib : Int)) ∧ w' = wr) := by
                      show Calls _ _ _ _ _
                      have := rplace_any A i c ls p.2 wr (by omega) (HS.out.up hb)
                      rwa [hpb] at this
                    have HPQ : Hid (P[q]? = some (x.id, y.id)) := by show _ = _; rw [hxi, hyi]; exact hp
                    obtain ⟨a, ha, _⟩ := HRW.out.ri.at_ hx
                    obtain ⟨bv, hbv, _⟩ := HRW.out.ri.at_ hy
                    have HX := Lib.hid hx
                    have HY := Lib.hid hy
                    have HA := Lib.hid ha
                    have HBV := Lib.hid hbv
                    have ha2 : ia < o2.length := (List.getElem?_eq_some_iff.1 ha).1
                    have hb2 : ib < o2.length := (List.getElem?_eq_some_iff.1 hbv).1
                    have ca := hB.atI ha
                    have cb := hB.atI hbv
                    have fa := hB.frz ia
                    have fb := hB.frz ib
                    have gl := hB.lt
                    have hol : o2.length = i := by rw [HRW.out.ri.len]; exact HL.out
                    have hik : (ia : Int) < (i : Int) := by omega
                    have hjk : (ib : Int) < (i : Int) := by omega
                    have HBX := Lib.hid hB; clear hB
                    have HBB := Lib.hid hb; clear hb
                    have HGE : Hid (nmU ls P x.id = nmU ls P y.id) := HNM.out.same _ _ (.inr (List.mem_of_getElem? HPQ.out))
                    clear hp hx hy ha hbv hpa hpb hxi hyi
                    go_wp2_with fail
                    go_fit HFA.out
                    rintro e w2 ⟨rfl, rfl⟩
                    go_wp2_with fail
                    go_fit HFB.out
                    rintro e w3 ⟨rfl, rfl⟩
                    by_cases hab : ia = ib
                    · subst hab
                      have hee : bv = a := Option.some.inj (HBV.out.symm.trans HA.out)
                      subst hee
                      go_wp2_with fail
                      go_still_tail 12, (by kernel_rfl)
                      change wpList _ _ _ _ _ (World.drew _)
                      go_wp2_with fail
                      refine ⟨⟨q + 1, (o2.set ia (min bv bv)).set ia (min bv bv), by omega, by go_num, HRW.out.pair HNM.out.le HND.out HPQ.out HX.out HY.out HGE.out HA.out HBV.out, ?_, ?_⟩, by simp [intOf]; omega⟩
                      · rw [Int.min_self]
                        exact ((HBX.out.setI ha2 bv).setI (by rw [List.length_set]; exact ha2) bv).up (Below.drew (Below.refl _ _))
                      · exact Below.drew ((HBB.out.setCell hg0 _).setCell hg0 _)
                    · have hba : ¬ ib = ia := fun e => hab e.symm
                      go_wp2_with fail
                      go_still_tail 12, (by kernel_rfl)
                      change wpList _ _ _ _ _ (World.drew _)
                      go_wp2_with fail
                      refine ⟨⟨q + 1, (o2.set ia (min a bv)).set ib (min a bv), by omega, by go_num, HRW.out.pair HNM.out.le HND.out HPQ.out HX.out HY.out HGE.out HA.out HBV.out, ?_, ?_⟩, by simp [intOf]; omega⟩
                      · rw [← mnI_eq]
                        exact (((HBX.out.setI ha2 (mnI a bv)).setI (by rw [List.length_set]; exact hb2) (mnI a bv))).up (Below.drew (Below.refl _ _))
                      · exact Below.drew ((HBB.out.setCell hg0 _).setCell hg0 _)
                  · obtain rfl : q = m := by omega
                    go_wp2_with fail
                    have h3 : RW (nmU ls P) ls P (goodB (nmU ls P) ls out) ls.length 0 P.length o2 := by rw [HL.out, HPL.out]; exact HRW.out
                    refine ⟨⟨t + 1, o2, by omega, by go_num, h3.ri, ?_, hB, hb⟩, by simp [intOf]; omega⟩
                    rcases RW.done HNM.out HIN.out HND.out HRI.out h3 with h | h
                    · exact .inr h
                    · rcases HCN.out with h4 | h4
                      · exact .inl (by omega)
                      · exact .inr (fun j hj => h3.keep j (h4 j hj))
          · obtain rfl : t = k := by omega
            have HE : Hid (out = (idsL ls).map (nmU ls P)) := names_done HRI.out (by
              rcases HCN.out with h | h
              · exact cntG_all (by rw [HL.out]; exact h)
              · exact h)
            have HO := Lib.hid (show out.length = t by rw [HRI.out.len]; exact HL.out)
            go_wp2_with fail
            go_ret
            exact ⟨_, _, rfl, by rw [← HE.out]; exact hB.slI HO.out, hb⟩
end Go.Proofs.YtccmchmemafjdaaGreatDoor
