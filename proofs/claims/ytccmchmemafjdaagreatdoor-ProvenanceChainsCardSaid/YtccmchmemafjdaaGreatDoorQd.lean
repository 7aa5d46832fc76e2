/- ProvenanceChains: the law's walk (chapter 46). Printed by mkqd.py from qd.txt. -/
import Derived.Test.YtccmchmemafjdaaGreatDoorQj
import Derived.Deep.RegionHeld3
set_option linter.unusedSimpArgs false
set_option linter.unusedVariables false
namespace Go.Proofs.YtccmchmemafjdaaGreatDoor
open Go.RowKit

theorem made_bx {w : World} {base g n : Nat} {e : TypeId} (h : w.ownsRow base e 1 (.slice (some ⟨g, 0, none⟩) n n) n (madeCells (Value.int .i64 0).cells (n * 1)).toList) : Bx w g ((List.replicate n (0 : Int)).map (Value.int .i64)) := by
  have e1 : (madeCells (Value.int .i64 0).cells (n * 1)).toList = (List.replicate n (0 : Int)).flatMap encI := by
    rw [Nat.mul_one]
    have e2 : (List.replicate n (0 : Int)).flatMap encI = (List.replicate n (0 : Int)).map (Value.int .i64) := flat_one (Value.int .i64) _
    rw [e2, List.map_replicate]
    exact toList_madeCells_one _ _
  rw [e1] at h
  exact Bx.of_ownI h (by rw [List.length_replicate])
theorem Sl.dropC {α : Type} {w : World} {L B K n k : Nat} {enc : α → List Value} {b off : Nat} {xs : List α} (h : Sl w L B K enc (some ⟨b, off, none⟩) n xs) (hk : k ≤ n) : Sl w L B K enc (some ⟨b, off + k * K, none⟩) (n - k) (xs.drop k) := by
  refine ⟨by rw [List.length_drop, h.1], fun hn => ?_⟩
  obtain ⟨b', off', e, ha, hb, hc⟩ := h.2 (by omega)
  cases e
  refine ⟨b, off + k * K, rfl, ha, hb, fun i x hx j u hu => ?_⟩
  rw [List.getElem?_drop] at hx
  have := hc (k + i) x hx j u hu
  rw [Nat.add_mul] at this
  rw [show off + k * K + i * K + j = off + (k * K + i * K) + j from by omega]
  exact this
theorem u8_range {m : Int} (h : (Lit.int .u8 m).wf = true) : 0 ≤ m ∧ m ≤ 255 := by
  simp only [Lit.wf, Bool.and_eq_true, decide_eq_true_eq] at h
  exact h
theorem flat_snoc {gs : List (List Int)} {i : Nat} {z : List Int} (h : gs[i]? = some z) : (gs.take (i + 1)).flatten.length = (gs.take i).flatten.length + z.length := by
  rw [take_snocS h, List.flatten_append, List.length_append]
  simp
theorem flat_le {gs : List (List Int)} (i : Nat) : (gs.take i).flatten.length ≤ gs.flatten.length := by
  have h : gs.flatten = (gs.take i).flatten ++ (gs.drop i).flatten := by rw [← List.flatten_append, List.take_append_drop]
  rw [h, List.length_append]
  omega
/-- joined, behind the pairs of listings ahead of (ia, ib). -/
def JI (ls : List Lst) (z : List Int) (kc ia ib : Nat) (jb : Bool) : Prop := ∀ (a b : Nat) (x y : Lst), (a < ia ∨ a = ia ∧ b < ib) → ls[a]? = some x → ls[b]? = some y → shareB x.sales y.sales = true → x.id ∈ z.take kc → y.id ∈ z.drop kc → jb = true
theorem JI.start (ls : List Lst) (z : List Int) (kc : Nat) : JI ls z kc 0 0 false := fun a b x y h => by omega
theorem JI.yes (ls : List Lst) (z : List Int) (kc ia ib : Nat) : JI ls z kc ia ib true := fun _ _ _ _ _ _ _ _ _ _ => rfl
theorem JI.next {ls : List Lst} {z : List Int} {kc ia ib : Nat} {jb : Bool} (h : JI ls z kc ia ib jb) (hn : ls.length = ib) : JI ls z kc (ia + 1) 0 jb := fun a b x y h1 hx hy => h a b x y (by
  have := (List.getElem?_eq_some_iff.1 hy).1
  omega) hx hy
theorem JI.skip {ls : List Lst} {z : List Int} {kc ia ib : Nat} {jb : Bool} (h : JI ls z kc ia ib jb) {x y : Lst} (hx : ls[ia]? = some x) (hy : ls[ib]? = some y) (hno : ¬ (shareB x.sales y.sales = true ∧ x.id ∈ z.take kc ∧ y.id ∈ z.drop kc)) : JI ls z kc ia (ib + 1) jb := fun a b x' y' h1 hx' hy' h2 h3 h4 => by
  by_cases h5 : a < ia ∨ a = ia ∧ b < ib
  · exact h a b x' y' h5 hx' hy' h2 h3 h4
  · obtain ⟨rfl, rfl⟩ : a = ia ∧ b = ib := by omega
    have e1 : x' = x := Option.some.inj (hx'.symm.trans hx)
    have e2 : y' = y := Option.some.inj (hy'.symm.trans hy)
    subst e1
    subst e2
    exact absurd ⟨h2, h3, h4⟩ hno
set_option maxRecDepth 100000 in
set_option maxHeartbeats 16000000 in
theorem chains_law (A : Option Addr) (n c : Nat) (ls : List Lst) (m0 : Int) (w : World) (hE : Env w) (hS : LsS w A n ls) (hm0 : 0 ≤ m0 ∧ m0 ≤ 255) :
    Calls Tryz.prog 5 #[.slice A n c, .int .u8 m0] w fun r w' => r = .returned (.bool true) ∧ Below w.heap.size w w' := by
  obtain ⟨i0, hi, hz0, hz1, hz2⟩ := info_parts Tryz.infoI
  have HEN : Hid (∀ W, Below w.heap.size w W → Env W) := fun W hW => hE.step hW
  have HU : Hid (∀ W, Below w.heap.size w W → LsS W A n ls) := fun W hW => hS.up hW
  have HLN := Lib.hid hS.len
  have HM0 := Lib.hid hm0
  clear hE hS hm0
  go_enter Tryz.func5, Tryz.ntmps5
  go_wp2_with fail
  refine (awake_any _ (HEN.out _ (Below.refl _ _))).mono ?_; rintro r w1 ⟨rfl, hb⟩
  go_wp2_with fail
  refine (few_any A n c _).mono ?_; rintro r w2 ⟨rfl, hw2⟩
  subst w2
  by_cases hf : n ≤ 12 ∨ n = 65
  rotate_left 1
  · rw [decide_eq_false hf]
    clear hf
    go_wp2_with fail
    refine (awake_any _ (HEN.out _ hb)).mono ?_; rintro r w3 ⟨rfl, hb3⟩
    (replace hb := hb.trans (hb3.mono hb.size)); clear hb3
    go_wp2_with fail
    go_ret
    exact ⟨rfl, hb⟩
  rw [decide_eq_true hf]
  have hn : n ≤ 1000000 := by omega
  clear hf
  have HG : Hid (∀ W, Below w.heap.size w W → Calls Tryz.prog 19 #[.slice A n c] W fun e w' => GroupsOut ls [] (chkL ls) e w' ∧ Below W.heap.size W w') := fun W hW => pgroups_any A n c ls W hn (HU.out W hW)
  have HC : Hid (∀ W, Below w.heap.size w W → Calls Tryz.prog 22 #[.slice A n c] W fun e w' => e = .returned (.int .i64 (chkL ls)) ∧ Below W.heap.size W w') := fun W hW => rcheck_any A n c ls W hn (HU.out W hW)
  by_cases h0 : ¬ chkL ls = 0
  · have hne : (chkL ls != 0) = true := by simpa using h0
    unfold GroupsOut at HG
    clear HU
    generalize chkL ls = ce at *
    go_wp2_with fail
    refine (HG.out _ hb).mono ?_; rintro r w3 ⟨⟨A2, n2, c2, rfl, hn2, hL, hz⟩, hb3⟩
    obtain ⟨rfl, rfl, rfl⟩ := hz h0
    clear hL
    (replace hb := hb.trans (hb3.mono hb.size)); clear hb3
    go_wp2_with fail
    refine (HC.out _ hb).mono ?_; rintro r w4 ⟨rfl, hb4⟩
    (replace hb := hb.trans (hb4.mono hb.size)); clear hb4
    go_wp2_with fail
    refine (HC.out _ hb).mono ?_; rintro r w5 ⟨rfl, hb5⟩
    (replace hb := hb.trans (hb5.mono hb.size)); clear hb5
    go_wp2_with fail
    go_ret
    exact ⟨by simp, hb⟩
  replace h0 := Classical.not_not.1 h0
  rw [h0] at HG HC
  have HGF := Lib.hid (grF h0)
  have HGH : Hid (∀ a ∈ idsL ls, ∃ t : Nat, (grpsL ls)[t]? = some (grpOf (idsL ls) (nmU ls []) (nmU ls [] a)) ∧ a ∈ grpOf (idsL ls) (nmU ls []) (nmU ls [] a)) := fun a ha => grps_has h0 ha
  have HSS : Hid (∀ x ∈ ls, ∀ y ∈ ls, shareL x y → nmU ls [] x.id = nmU ls [] y.id) := fun x hx y hy h => share_same h0 hx hy h
  have HFL := Lib.hid (grps_flat h0)
  have HCUT : Hid (∀ z ∈ grpsL ls, ∀ k, 0 < k → k < z.length → ∃ (i j : Nat) (x y : Lst), ls[i]? = some x ∧ ls[j]? = some y ∧ shareL x y ∧ x.id ∈ z.take k ∧ y.id ∈ z.drop k) := fun z hz k h1 h2 => grps_cut h0 hz h1 h2
  obtain ⟨h64, hv, hnd⟩ := chkL_zero h0
  have HV := Lib.hid hv
  have hn64 : n ≤ 64 := by rw [← HLN.out]; exact h64
  clear h0 h64 hv hnd
  have HG2 : Hid (∀ W, Below w.heap.size w W → Calls Tryz.prog 19 #[.slice A n c] W fun e w' => (∃ A2 n2 c2, e = .returned (.tuple #[.slice A2 n2 c2, .int .i64 0]) ∧ n2 ≤ 1000000 ∧ LoS w' A2 n2 (grpsL ls)) ∧ Below W.heap.size W w') := fun W hW => (HG.out W hW).mono (by
    rintro e w' ⟨⟨A2, n2, c2, h1, h2, h3, _⟩, h4⟩
    rw [if_pos rfl] at h3
    exact ⟨⟨A2, n2, c2, h1, h2, h3⟩, h4⟩)
  clear HG
  go_wp2_with fail
  refine (HG2.out _ hb).mono ?_; rintro r w3 ⟨⟨A2, n2, c2, rfl, hn2, hL⟩, hb3⟩
  (replace hb := hb.trans (hb3.mono hb.size)); clear hb3
  go_wp2_with fail
  refine (HC.out _ hb).mono ?_; rintro r w4 ⟨rfl, hb4⟩
  (replace hb := hb.trans (hb4.mono hb.size)); replace hL := hL.up hb4; clear hb4
  have HB := Lib.hid hb
  have HL := Lib.hid hL
  have HGL := Lib.hid hL.len
  clear hb hL HG2 HC
  obtain ⟨gb, hgb⟩ : ∃ gb, gb = w4.heap.size := ⟨_, rfl⟩
  go_wp2_with (at_make; refine wpList_make_full _ rfl _ _ 40 rfl w4.heap.size 3 i0 (.int .i64 0) 1 Tryz.underlying40 hi hz0 hz1 .i64 .i64 10000 10000 10000 rfl rfl rfl rfl ?c1 ?c2 (Nat.le_refl _) ?_)
  case c1 => rw [hz2]; decide
  case c2 => decide
  intro w6 hown hgrow
  have hb6 : Below w4.heap.size w4 w6 := Below.grown (Below.refl _ _) hgrow (Nat.le_refl _) (fun g hg => by cases hg)
  have hB := made_bx hown
  rw [← hgb] at hB ⊢
  clear hown hgrow
  have hAT : AtI (grpsL ls) 0 0 (List.replicate 10000 (0 : Int)) := AtI.start List.length_replicate
  generalize List.replicate 10000 (0 : Int) = av0 at *
  have hgbB : w4.heap.size ≤ gb := by omega
  clear hgb
  go_wp2_with fail
  go_loopw [8, 9] (fun v t wr => ∃ (i : Nat) (av : List Int), i ≤ n2 ∧ t = .int .i64 (i : Int) ∧ v = .int .i64 ((((grpsL ls).take i).flatten.length : Nat) : Int) ∧ AtI (grpsL ls) i 0 av ∧ Bx wr gb (av.map (Value.int .i64)) ∧ Below w4.heap.size w4 wr) (fun _ t _ => n2 - (intOf t).toNat)
  case atStart => exact ⟨0, av0, by omega, rfl, rfl, hAT, hB, hb6⟩
  case round =>
    clear hAT hB hb6
    obtain ⟨i, av, hi', rfl, rfl, hAT, hB, hb⟩ := hrel
    have HAT := Lib.hid hAT; clear hAT
    by_cases hlt : i < n2
    · obtain ⟨bg, og, z, a, m, cz, rfl, hbg, hz, c0, hm, hSz⟩ := HL.out.at_ hlt
      have HZ := Lib.hid hz
      have HSZ := Lib.hid hSz
      have HZL := Lib.hid (Sl.len hSz)
      have hin : (i : Int) < (n2 : Int) := by omega
      have HFS := Lib.hid (flat_snoc hz)
      have hm9 := hm.1
      have hmn : (List.take i (grpsL ls)).flatten.length + m ≤ 64 := by
        have h1 := flat_snoc hz
        have h2 := flat_le (gs := grpsL ls) (i + 1)
        have h3 := HFL.out
        have h4 := HLN.out
        have h5 := Sl.len hSz
        omega
      clear hz hSz hm
      have d0 := (hb.cell (p := ⟨bg, og + i, none⟩) hbg).trans c0
      generalize (List.take i (grpsL ls)).flatten.length = cnt at *
      go_wp2_with fail
      clear d0
      go_loopw [8, 10] (fun v t wr => ∃ (k : Nat) (av : List Int), k ≤ m ∧ t = .int .i64 (k : Int) ∧ v = .int .i64 ((cnt + k : Nat) : Int) ∧ AtI (grpsL ls) i k av ∧ Bx wr gb (av.map (Value.int .i64)) ∧ Below w4.heap.size w4 wr) (fun _ t _ => m - (intOf t).toNat)
      case atStart => exact ⟨0, av, by omega, rfl, rfl, HAT.out, hB, hb⟩
      case round =>
        clear hB hb HAT
        obtain ⟨k, av, hk, rfl, rfl, hAT, hB, hb⟩ := hrel
        have d0 := (hb.cell (p := ⟨bg, og + i, none⟩) hbg).trans c0
        by_cases hlt2 : k < m
        · obtain ⟨bz, oz, x, rfl, hbz, hx, g0⟩ := HSZ.out.in_ hlt2
          have d1 := (hb.cell (p := ⟨bz, oz + k, none⟩) hbz).trans g0
          obtain ⟨hx1, hx2⟩ := HGF.out.range i z x HZ.out (List.mem_of_getElem? hx)
          obtain ⟨q, rfl⟩ : ∃ q : Nat, x = (q : Int) := ⟨x.toNat, by omega⟩
          have HAT2 := Lib.hid (hAT.set HGF.out HZ.out hx)
          have hql : q < av.length := by rw [hAT.len]; omega
          obtain ⟨v, hv⟩ : ∃ v, av[q]? = some v := ⟨_, List.getElem?_eq_getElem hql⟩
          have ca := hB.atI hv
          have fa := hB.frz q
          have gl := hB.lt
          have hkm : (k : Int) < (m : Int) := by omega
          have q1 : (q : Int) < 10000 := by omega
          have q2 : ¬ ((q : Int) < 1) := by omega
          have q3 : ¬ (9999 < (q : Int)) := by omega
          have HBX := Lib.hid hB
          have HBB := Lib.hid hb
          clear hx hAT hv hB hb g0 hx1 hx2
          go_wp2_with fail
          refine ⟨⟨k + 1, av.set q ((i : Int) + 1), by omega, by go_num, by go_num, ?_, HBX.out.setI hql _, HBB.out.setCell hgbB _⟩, by simp [intOf]; omega⟩
          have h9 := HAT2.out
          rwa [Int.toNat_natCast] at h9
        · obtain rfl : k = m := by omega
          go_wp2_with fail
          exact ⟨⟨i + 1, av, by omega, by go_num, by rw [HFS.out, HZL.out], hAT.next HZ.out HZL.out, hB, hb⟩, by simp [intOf]; omega⟩
    · obtain rfl : i = n2 := by omega
      have HTOT : Hid (((grpsL ls).take i).flatten.length = n) := by
        show _ = _
        rw [take_all HGL.out, HFL.out, HLN.out]
      rw [HTOT.out]
      rename World => w7
      have HBX := Lib.hid hB
      have HBB := Lib.hid hb
      have HBW7 := Lib.hid hb
      have hgl7 := hB.lt
      have HLS := Lib.hid (HU.out w7 (below_keep' HB.out hb))
      have HL7 := Lib.hid (HL.out.up hb)
      clear hB hb HU HL
      go_wp2_with fail
      go_loopw [11] (fun t wr => ∃ i : Nat, i ≤ n ∧ t = .int .i64 (i : Int) ∧ Below w7.heap.size w7 wr) (fun t _ => n - (intOf t).toNat)
      case atStart => exact ⟨0, by omega, rfl, Below.refl _ _⟩
      case round =>
        obtain ⟨j, hj, rfl, hb⟩ := hrel
        by_cases hlt2 : j < n
        · obtain ⟨b, off, x, ax, mx, cx, rfl, hbl7, hx, e07, e17, hmx, hSx⟩ := HLS.out.at_ hlt2
          have hxm := List.mem_of_getElem? hx
          obtain ⟨tx, htx, hxz⟩ := HGH.out x.id (by unfold idsL; exact List.mem_map_of_mem hxm)
          have hvx := (HV.out x hxm).1
          obtain ⟨qx, hqx⟩ : ∃ q : Nat, x.id = (q : Int) := ⟨x.id.toNat, by omega⟩
          have gx0 := at_has HAT.out HGL.out htx hxz
          rw [hqx, Int.toNat_natCast] at gx0
          rw [hqx] at e07
          have GX := Lib.hid (fun (U : World) (hU : Below w7.heap.size w7 U) => (HBX.out.up hU).atI gx0)
          have gx := GX.out _ hb
          have e0 := (hb.cell (p := ⟨b, off + j * 2, none⟩) hbl7).trans e07
          have hqx1 : (qx : Int) < 10000 := by omega
          have hjn : (j : Int) < (n : Int) := by omega
          have htx0 : ((tx : Int) + 1 == 0) = false := by simp; omega
          have HX := Lib.hid hx
          have HTX := Lib.hid htx
          have HXZ := Lib.hid hxz
          have hmx8 : mx ≤ 1000000 := by have := (HV.out x hxm).2.1; rw [Sl.len hSx] at this; omega
          have HSX := Lib.hid hSx
          have HXI := Lib.hid hqx
          clear hx hxm htx hxz hvx hSx hmx gx0 hqx
          go_wp2_with fail
          clear e0 gx
          go_loopw [12] (fun t wr => ∃ k : Nat, k ≤ n ∧ t = .int .i64 (k : Int) ∧ Below w7.heap.size w7 wr) (fun t _ => n - (intOf t).toNat)
          case atStart => exact ⟨0, by omega, rfl, hb⟩
          case round =>
            clear hb
            obtain ⟨k, hk, rfl, hb⟩ := hrel
            by_cases hlt3 : k < n
            · obtain ⟨b', off', y, ay, my, cy, hAy, _, hy, f07, f17, hmy, hSy⟩ := HLS.out.at_ hlt3
              cases hAy
              have hym := List.mem_of_getElem? hy
              obtain ⟨ty, hty, hyz⟩ := HGH.out y.id (by unfold idsL; exact List.mem_map_of_mem hym)
              have hvy := (HV.out y hym).1
              obtain ⟨qy, hqy⟩ : ∃ q : Nat, y.id = (q : Int) := ⟨y.id.toNat, by omega⟩
              have gy0 := at_has HAT.out HGL.out hty hyz
              rw [hqy, Int.toNat_natCast] at gy0
              rw [hqy] at f07
              have gy := (HBX.out.up hb).atI gy0
              have gx := GX.out _ hb
              have e0 := (hb.cell (p := ⟨b, off + j * 2, none⟩) hbl7).trans e07
              have e1 := (hb.cell (p := ⟨b, off + j * 2 + 1, none⟩) hbl7).trans e17
              have f0 := (hb.cell (p := ⟨b, off + k * 2, none⟩) hbl7).trans f07
              have f1 := (hb.cell (p := ⟨b, off + k * 2 + 1, none⟩) hbl7).trans f17
              have hbl : b < wr.heap.size := Nat.lt_of_lt_of_le hbl7 hb.size
              have hgl : gb < wr.heap.size := Nat.lt_of_lt_of_le hgl7 hb.size
              have hqy1 : (qy : Int) < 10000 := by omega
              have hkn : (k : Int) < (n : Int) := by omega
              have hmy8 : my ≤ 1000000 := by have := (HV.out y hym).2.1; rw [Sl.len hSy] at this; omega
              have HSH : Hid (∀ U, Below wr.heap.size wr U → Calls Tryz.prog 23 #[.agg #[.int .i64 (qx : Int), .slice ax mx cx], .agg #[.int .i64 (qy : Int), .slice ay my cy]] U fun e w' => e = .returned (.bool (shareB x.sales y.sales)) ∧ Below U.heap.size U w') := fun U hU =>
                rshare_any (qx : Int) ax mx cx x.sales (qy : Int) ay my cy y.sales U hmx8 hmy8 (HSX.out.up (below_keep' hb hU)) (hSy.up (below_keep' hb hU))
              cases hsh : shareB x.sales y.sales
              · rw [hsh] at HSH
                clear hsh hy hym hty hyz hvy hqy gy0 f07 f17 hSy hmy
                go_wp2_with fail
                refine wp_region_noPanic ?_
                refine wp_region_held_drew (S := fun U => U.cell? ⟨b, off + j * 2, none⟩ = some (.int .i64 (qx : Int)) ∧ U.cell? ⟨b, off + j * 2 + 1, none⟩ = some (.slice ax mx cx) ∧ U.cell? ⟨b, off + k * 2, none⟩ = some (.int .i64 (qy : Int)) ∧ U.cell? ⟨b, off + k * 2 + 1, none⟩ = some (.slice ay my cy) ∧ U.cell? ⟨gb, qx, none⟩ = some (.int .i64 ((tx : Int) + 1)) ∧ U.cell? ⟨gb, qy, none⟩ = some (.int .i64 ((ty : Int) + 1)) ∧ Below wr.heap.size wr U) (by kernel_rfl) (keep6P e0 e1 f0 f1 gx gy hbl hbl hbl hbl hgl hgl (Below.drew (Below.refl _ _))) (fun hHeld => ?_)
                refine' takeW 0 ?_ ?_ ?_ (by kernel_rfl) (by kernel_rfl) (by kernel_rfl) (fun _ _ _ h => h) hHeld ?_
                rotate_left 2
                · (simp only [List.getElem?_toArray, List.getElem?_cons_succ, List.getElem?_cons_zero]; rfl)
                · rfl
                · (intro w hSw; (try dsimp only at hSw); go_simp; first | done | with_reducible rfl)
                (try simp only [Act.put, List.setIfInBounds_toArray, List.set_cons_zero, List.set_cons_succ])
                refine' takeW 1 ?_ ?_ ?_ (by kernel_rfl) (by kernel_rfl) (by kernel_rfl) (fun _ _ _ h => h) hHeld ?_
                rotate_left 2
                · (simp only [List.getElem?_toArray, List.getElem?_cons_succ, List.getElem?_cons_zero]; rfl)
                · rfl
                · (intro w hSw; (try dsimp only at hSw); go_simp; first | done | with_reducible rfl)
                (try simp only [Act.put, List.setIfInBounds_toArray, List.set_cons_zero, List.set_cons_succ])
                refine' takeW 2 ?_ ?_ ?_ (by kernel_rfl) (by kernel_rfl) (by kernel_rfl) (fun _ _ _ h => h) hHeld ?_
                rotate_left 2
                · (simp only [List.getElem?_toArray, List.getElem?_cons_succ, List.getElem?_cons_zero]; rfl)
                · rfl
                · (intro w hSw; (try dsimp only at hSw); go_simp; first | done | with_reducible rfl)
                (try simp only [Act.put, List.setIfInBounds_toArray, List.set_cons_zero, List.set_cons_succ])
                refine' takeW 3 ?_ ?_ ?_ (by kernel_rfl) (by kernel_rfl) (by kernel_rfl) (fun _ _ _ h => h) hHeld ?_
                rotate_left 2
                · (simp only [List.getElem?_toArray, List.getElem?_cons_succ, List.getElem?_cons_zero]; rfl)
                · rfl
                · (intro w hSw; (try dsimp only at hSw); go_simp; first | done | with_reducible rfl)
                (try simp only [Act.put, List.setIfInBounds_toArray, List.set_cons_zero, List.set_cons_succ])
                refine' takeW 4 ?_ ?_ ?_ (by kernel_rfl) (by kernel_rfl) (by kernel_rfl) (fun _ _ _ h => h) hHeld ?_
                rotate_left 2
                · (simp only [List.getElem?_toArray, List.getElem?_cons_succ, List.getElem?_cons_zero]; rfl)
                · rfl
                · (intro w hSw; (try dsimp only at hSw); go_simp; first | done | with_reducible rfl)
                (try simp only [Act.put, List.setIfInBounds_toArray, List.set_cons_zero, List.set_cons_succ])
                refine' takeW 5 ?_ ?_ ?_ (by kernel_rfl) (by kernel_rfl) (by kernel_rfl) (fun _ _ _ h => h) hHeld ?_
                rotate_left 2
                · (simp only [List.getElem?_toArray, List.getElem?_cons_succ, List.getElem?_cons_zero]; rfl)
                · rfl
                · (intro w hSw; (try dsimp only at hSw); go_simp; first | done | with_reducible rfl)
                (try simp only [Act.put, List.setIfInBounds_toArray, List.set_cons_zero, List.set_cons_succ])
                refine' takeW 6 ?_ ?_ ?_ (by kernel_rfl) (by kernel_rfl) (by kernel_rfl) (fun _ _ _ h => h) hHeld ?_
                rotate_left 2
                · (simp only [List.getElem?_toArray, List.getElem?_cons_succ, List.getElem?_cons_zero]; rfl)
                · rfl
                · (intro w hSw; (try dsimp only at hSw); go_simp; first | done | with_reducible rfl)
                (try simp only [Act.put, List.setIfInBounds_toArray, List.set_cons_zero, List.set_cons_succ])
                refine' takeW 7 ?_ ?_ ?_ (by kernel_rfl) (by kernel_rfl) (by kernel_rfl) (fun _ _ _ h => h) hHeld ?_
                rotate_left 2
                · (simp only [List.getElem?_toArray, List.getElem?_cons_succ, List.getElem?_cons_zero]; rfl)
                · rfl
                · (intro w hSw; (try dsimp only at hSw); go_simp; first | done | with_reducible rfl)
                (try simp only [Act.put, List.setIfInBounds_toArray, List.set_cons_zero, List.set_cons_succ])
                refine wpAnyH_ready (rs := [8]) (by kernel_rfl) (by simp) ?_
                refine' AllReadyH.cons ?_ (fun K hK => ?_) AllReadyH.nil
                rotate_left 1
                · (simp only [List.getElem?_toArray, List.getElem?_cons_succ, List.getElem?_cons_zero]; rfl)
                (try go_simp)
                go_at_call 23
                refine (HSH.out _ (last7P hHeld)).mono ?_
                rintro e wz ⟨rfl, hbz⟩
                (try go_simp)
                refine hK.out _ _ ?_ (fun hHeld => ?_)
                · exact keep6P e0 e1 f0 f1 gx gy hbl hbl hbl hbl hgl hgl (below_keep' (last7P hHeld) hbz)
                clear hK K
                (try simp only [Act.put, List.setIfInBounds_toArray, List.set_cons_zero, List.set_cons_succ])
                refine' takeW 9 ?_ ?_ ?_ (by kernel_rfl) (by kernel_rfl) (by kernel_rfl) (fun _ _ _ h => h) hHeld ?_
                rotate_left 2
                · (simp only [List.getElem?_toArray, List.getElem?_cons_succ, List.getElem?_cons_zero]; rfl)
                · rfl
                · (intro w hSw; (try dsimp only at hSw); go_simp; first | done | with_reducible rfl)
                (try simp only [Act.put, List.setIfInBounds_toArray, List.set_cons_zero, List.set_cons_succ])
                refine' takeN 10 ?_ ?_ (by kernel_rfl) (by kernel_rfl) (by kernel_rfl) (fun _ _ _ h => h) hHeld ?_
                rotate_left 1
                · (simp only [List.getElem?_toArray, List.getElem?_cons_succ, List.getElem?_cons_zero]; rfl)
                · rfl
                (try simp only [Act.put, List.setIfInBounds_toArray, List.set_cons_zero, List.set_cons_succ])
                refine' takeN 11 ?_ ?_ (by kernel_rfl) (by kernel_rfl) (by kernel_rfl) (fun _ _ _ h => h) hHeld ?_
                rotate_left 1
                · (simp only [List.getElem?_toArray, List.getElem?_cons_succ, List.getElem?_cons_zero]; rfl)
                · rfl
                (try simp only [Act.put, List.setIfInBounds_toArray, List.set_cons_zero, List.set_cons_succ])
                refine' takeN 12 ?_ ?_ (by kernel_rfl) (by kernel_rfl) (by kernel_rfl) (fun _ _ _ h => h) hHeld ?_
                rotate_left 1
                · (simp only [List.getElem?_toArray, List.getElem?_cons_succ, List.getElem?_cons_zero]; rfl)
                · rfl
                (try simp only [Act.put, List.setIfInBounds_toArray, List.set_cons_zero, List.set_cons_succ])
                refine' takeN 13 ?_ ?_ (by kernel_rfl) (by kernel_rfl) (by kernel_rfl) (fun _ _ _ h => h) hHeld ?_
                rotate_left 1
                · (simp only [List.getElem?_toArray, List.getElem?_cons_succ, List.getElem?_cons_zero]; rfl)
                · rfl
                (try simp only [Act.put, List.setIfInBounds_toArray, List.set_cons_zero, List.set_cons_succ])
                refine' takeN 14 ?_ ?_ (by kernel_rfl) (by kernel_rfl) (by kernel_rfl) (fun _ _ _ h => h) hHeld ?_
                rotate_left 1
                · (simp only [List.getElem?_toArray, List.getElem?_cons_succ, List.getElem?_cons_zero]; rfl)
                · rfl
                (try simp only [Act.put, List.setIfInBounds_toArray, List.set_cons_zero, List.set_cons_succ])
                refine' takeN 15 ?_ ?_ (by kernel_rfl) (by kernel_rfl) (by kernel_rfl) (fun _ _ _ h => h) hHeld ?_
                rotate_left 1
                · (simp only [List.getElem?_toArray, List.getElem?_cons_succ, List.getElem?_cons_zero]; rfl)
                · rfl
                (try simp only [Act.put, List.setIfInBounds_toArray, List.set_cons_zero, List.set_cons_succ])
                refine' takeN 16 ?_ ?_ (by kernel_rfl) (by kernel_rfl) (by kernel_rfl) (fun _ _ _ h => h) hHeld ?_
                rotate_left 1
                · (simp only [List.getElem?_toArray, List.getElem?_cons_succ, List.getElem?_cons_zero]; rfl)
                · rfl
                (try simp only [Act.put, List.setIfInBounds_toArray, List.set_cons_zero, List.set_cons_succ])
                refine' takeN 17 ?_ ?_ (by kernel_rfl) (by kernel_rfl) (by kernel_rfl) (fun _ _ _ h => h) hHeld ?_
                rotate_left 1
                · (simp only [List.getElem?_toArray, List.getElem?_cons_succ, List.getElem?_cons_zero]; rfl)
                · rfl
                (try simp only [Act.put, List.setIfInBounds_toArray, List.set_cons_zero, List.set_cons_succ])
                refine' takeN 18 ?_ ?_ (by kernel_rfl) (by kernel_rfl) (by kernel_rfl) (fun _ _ _ h => h) hHeld ?_
                rotate_left 1
                · (simp only [List.getElem?_toArray, List.getElem?_cons_succ, List.getElem?_cons_zero]; rfl)
                · rfl
                (try simp only [Act.put, List.setIfInBounds_toArray, List.set_cons_zero, List.set_cons_succ])
                refine' takeN 19 ?_ ?_ (by kernel_rfl) (by kernel_rfl) (by kernel_rfl) (fun _ _ _ h => h) hHeld ?_
                rotate_left 1
                · (simp only [List.getElem?_toArray, List.getElem?_cons_succ, List.getElem?_cons_zero]; rfl)
                · rfl
                (try simp only [Act.put, List.setIfInBounds_toArray, List.set_cons_zero, List.set_cons_succ])
                refine' takeN 20 ?_ ?_ (by kernel_rfl) (by kernel_rfl) (by kernel_rfl) (fun _ _ _ h => h) hHeld ?_
                rotate_left 1
                · (simp only [List.getElem?_toArray, List.getElem?_cons_succ, List.getElem?_cons_zero]; rfl)
                · rfl
                (try simp only [Act.put, List.setIfInBounds_toArray, List.set_cons_zero, List.set_cons_succ])
                refine' takeN 21 ?_ ?_ (by kernel_rfl) (by kernel_rfl) (by kernel_rfl) (fun _ _ _ h => h) hHeld ?_
                rotate_left 1
                · (simp only [List.getElem?_toArray, List.getElem?_cons_succ, List.getElem?_cons_zero]; rfl)
                · rfl
                (try simp only [Act.put, List.setIfInBounds_toArray, List.set_cons_zero, List.set_cons_succ])
                refine' takeN 22 ?_ ?_ (by kernel_rfl) (by kernel_rfl) (by kernel_rfl) (fun _ _ _ h => h) hHeld ?_
                rotate_left 1
                · (simp only [List.getElem?_toArray, List.getElem?_cons_succ, List.getElem?_cons_zero]; rfl)
                · rfl
                (try simp only [Act.put, List.setIfInBounds_toArray, List.set_cons_zero, List.set_cons_succ])
                refine' takeN 23 ?_ ?_ (by kernel_rfl) (by kernel_rfl) (by kernel_rfl) (fun _ _ _ h => h) hHeld ?_
                rotate_left 1
                · (simp only [List.getElem?_toArray, List.getElem?_cons_succ, List.getElem?_cons_zero]; rfl)
                · rfl
                (try simp only [Act.put, List.setIfInBounds_toArray, List.set_cons_zero, List.set_cons_succ])
                refine' takeN 24 ?_ ?_ (by kernel_rfl) (by kernel_rfl) (by kernel_rfl) (fun _ _ _ h => h) hHeld ?_
                rotate_left 1
                · (simp only [List.getElem?_toArray, List.getElem?_cons_succ, List.getElem?_cons_zero]; rfl)
                · rfl
                (try simp only [Act.put, List.setIfInBounds_toArray, List.set_cons_zero, List.set_cons_succ])
                refine' takeN 25 ?_ ?_ (by kernel_rfl) (by kernel_rfl) (by kernel_rfl) (fun _ _ _ h => h) hHeld ?_
                rotate_left 1
                · (simp only [List.getElem?_toArray, List.getElem?_cons_succ, List.getElem?_cons_zero]; rfl)
                · rfl
                (try simp only [Act.put, List.setIfInBounds_toArray, List.set_cons_zero, List.set_cons_succ])
                refine' takeN 26 ?_ ?_ (by kernel_rfl) (by kernel_rfl) (by kernel_rfl) (fun _ _ _ h => h) hHeld ?_
                rotate_left 1
                · (simp only [List.getElem?_toArray, List.getElem?_cons_succ, List.getElem?_cons_zero]; rfl)
                · rfl
                (try simp only [Act.put, List.setIfInBounds_toArray, List.set_cons_zero, List.set_cons_succ])
                refine' takeW 27 ?_ ?_ ?_ (by kernel_rfl) (by kernel_rfl) (by kernel_rfl) (fun _ _ _ h => h) hHeld ?_
                rotate_left 2
                · (simp only [List.getElem?_toArray, List.getElem?_cons_succ, List.getElem?_cons_zero]; rfl)
                · rfl
                · (intro w hSw; (try dsimp only at hSw); go_simp; first | done | with_reducible rfl)
                (try simp only [Act.put, List.setIfInBounds_toArray, List.set_cons_zero, List.set_cons_succ])
                refine wpAnyH_done (by kernel_rfl) ?_ _
                refine NoPanic.normal ?_
                go_wp2_with fail
                exact ⟨⟨k + 1, by omega, by go_num, below_keep' hb (last7P hHeld)⟩, by simp [intOf]; omega⟩
              · rw [hsh] at HSH
                have htt : tx = ty := by
                  have h9 := HSS.out x (List.mem_of_getElem? HX.out) y hym ((shareB_iff x y).1 hsh)
                  rw [← h9] at hty hyz
                  refine (HGF.out.uniq ty tx _ _ x.id hty HTX.out ?_ HXZ.out).symm
                  exact HXZ.out
                subst htt
                clear hsh hy hym hyz hvy hqy gy0 f07 f17 hSy hmy hty
                go_wp2_with fail
                refine wp_region_noPanic ?_
                refine wp_region_held_drew (S := fun U => U.cell? ⟨b, off + j * 2, none⟩ = some (.int .i64 (qx : Int)) ∧ U.cell? ⟨b, off + j * 2 + 1, none⟩ = some (.slice ax mx cx) ∧ U.cell? ⟨b, off + k * 2, none⟩ = some (.int .i64 (qy : Int)) ∧ U.cell? ⟨b, off + k * 2 + 1, none⟩ = some (.slice ay my cy) ∧ U.cell? ⟨gb, qx, none⟩ = some (.int .i64 ((tx : Int) + 1)) ∧ U.cell? ⟨gb, qy, none⟩ = some (.int .i64 ((tx : Int) + 1)) ∧ Below wr.heap.size wr U) (by kernel_rfl) (keep6P e0 e1 f0 f1 gx gy hbl hbl hbl hbl hgl hgl (Below.drew (Below.refl _ _))) (fun hHeld => ?_)
                refine' takeW 0 ?_ ?_ ?_ (by kernel_rfl) (by kernel_rfl) (by kernel_rfl) (fun _ _ _ h => h) hHeld ?_
                rotate_left 2
                · (simp only [List.getElem?_toArray, List.getElem?_cons_succ, List.getElem?_cons_zero]; rfl)
                · rfl
                · (intro w hSw; (try dsimp only at hSw); go_simp; first | done | with_reducible rfl)
                (try simp only [Act.put, List.setIfInBounds_toArray, List.set_cons_zero, List.set_cons_succ])
                refine' takeW 1 ?_ ?_ ?_ (by kernel_rfl) (by kernel_rfl) (by kernel_rfl) (fun _ _ _ h => h) hHeld ?_
                rotate_left 2
                · (simp only [List.getElem?_toArray, List.getElem?_cons_succ, List.getElem?_cons_zero]; rfl)
                · rfl
                · (intro w hSw; (try dsimp only at hSw); go_simp; first | done | with_reducible rfl)
                (try simp only [Act.put, List.setIfInBounds_toArray, List.set_cons_zero, List.set_cons_succ])
                refine' takeW 2 ?_ ?_ ?_ (by kernel_rfl) (by kernel_rfl) (by kernel_rfl) (fun _ _ _ h => h) hHeld ?_
                rotate_left 2
                · (simp only [List.getElem?_toArray, List.getElem?_cons_succ, List.getElem?_cons_zero]; rfl)
                · rfl
                · (intro w hSw; (try dsimp only at hSw); go_simp; first | done | with_reducible rfl)
                (try simp only [Act.put, List.setIfInBounds_toArray, List.set_cons_zero, List.set_cons_succ])
                refine' takeW 3 ?_ ?_ ?_ (by kernel_rfl) (by kernel_rfl) (by kernel_rfl) (fun _ _ _ h => h) hHeld ?_
                rotate_left 2
                · (simp only [List.getElem?_toArray, List.getElem?_cons_succ, List.getElem?_cons_zero]; rfl)
                · rfl
                · (intro w hSw; (try dsimp only at hSw); go_simp; first | done | with_reducible rfl)
                (try simp only [Act.put, List.setIfInBounds_toArray, List.set_cons_zero, List.set_cons_succ])
                refine' takeW 4 ?_ ?_ ?_ (by kernel_rfl) (by kernel_rfl) (by kernel_rfl) (fun _ _ _ h => h) hHeld ?_
                rotate_left 2
                · (simp only [List.getElem?_toArray, List.getElem?_cons_succ, List.getElem?_cons_zero]; rfl)
                · rfl
                · (intro w hSw; (try dsimp only at hSw); go_simp; first | done | with_reducible rfl)
                (try simp only [Act.put, List.setIfInBounds_toArray, List.set_cons_zero, List.set_cons_succ])
                refine' takeW 5 ?_ ?_ ?_ (by kernel_rfl) (by kernel_rfl) (by kernel_rfl) (fun _ _ _ h => h) hHeld ?_
                rotate_left 2
                · (simp only [List.getElem?_toArray, List.getElem?_cons_succ, List.getElem?_cons_zero]; rfl)
                · rfl
                · (intro w hSw; (try dsimp only at hSw); go_simp; first | done | with_reducible rfl)
                (try simp only [Act.put, List.setIfInBounds_toArray, List.set_cons_zero, List.set_cons_succ])
                refine' takeW 6 ?_ ?_ ?_ (by kernel_rfl) (by kernel_rfl) (by kernel_rfl) (fun _ _ _ h => h) hHeld ?_
                rotate_left 2
                · (simp only [List.getElem?_toArray, List.getElem?_cons_succ, List.getElem?_cons_zero]; rfl)
                · rfl
                · (intro w hSw; (try dsimp only at hSw); go_simp; first | done | with_reducible rfl)
                (try simp only [Act.put, List.setIfInBounds_toArray, List.set_cons_zero, List.set_cons_succ])
                refine' takeW 7 ?_ ?_ ?_ (by kernel_rfl) (by kernel_rfl) (by kernel_rfl) (fun _ _ _ h => h) hHeld ?_
                rotate_left 2
                · (simp only [List.getElem?_toArray, List.getElem?_cons_succ, List.getElem?_cons_zero]; rfl)
                · rfl
                · (intro w hSw; (try dsimp only at hSw); go_simp; first | done | with_reducible rfl)
                (try simp only [Act.put, List.setIfInBounds_toArray, List.set_cons_zero, List.set_cons_succ])
                refine wpAnyH_ready (rs := [8]) (by kernel_rfl) (by simp) ?_
                refine' AllReadyH.cons ?_ (fun K hK => ?_) AllReadyH.nil
                rotate_left 1
                · (simp only [List.getElem?_toArray, List.getElem?_cons_succ, List.getElem?_cons_zero]; rfl)
                (try go_simp)
                go_at_call 23
                refine (HSH.out _ (last7P hHeld)).mono ?_
                rintro e wz ⟨rfl, hbz⟩
                (try go_simp)
                refine hK.out _ _ ?_ (fun hHeld => ?_)
                · exact keep6P e0 e1 f0 f1 gx gy hbl hbl hbl hbl hgl hgl (below_keep' (last7P hHeld) hbz)
                clear hK K
                (try simp only [Act.put, List.setIfInBounds_toArray, List.set_cons_zero, List.set_cons_succ])
                refine' takeW 9 ?_ ?_ ?_ (by kernel_rfl) (by kernel_rfl) (by kernel_rfl) (fun _ _ _ h => h) hHeld ?_
                rotate_left 2
                · (simp only [List.getElem?_toArray, List.getElem?_cons_succ, List.getElem?_cons_zero]; rfl)
                · rfl
                · (intro w hSw; (try dsimp only at hSw); go_simp; first | done | with_reducible rfl)
                (try simp only [Act.put, List.setIfInBounds_toArray, List.set_cons_zero, List.set_cons_succ])
                refine' takeW 10 ?_ ?_ ?_ (by kernel_rfl) (by kernel_rfl) (by kernel_rfl) (fun _ _ _ h => h) hHeld ?_
                rotate_left 2
                · (simp only [List.getElem?_toArray, List.getElem?_cons_succ, List.getElem?_cons_zero]; rfl)
                · rfl
                · (intro w hSw; (try dsimp only at hSw); go_simp; first | done | with_reducible rfl)
                (try simp only [Act.put, List.setIfInBounds_toArray, List.set_cons_zero, List.set_cons_succ])
                refine' takeW 11 ?_ ?_ ?_ (by kernel_rfl) (by kernel_rfl) (by kernel_rfl) (fun _ _ _ h => h) hHeld ?_
                rotate_left 2
                · (simp only [List.getElem?_toArray, List.getElem?_cons_succ, List.getElem?_cons_zero]; rfl)
                · rfl
                · (intro w hSw; (try dsimp only at hSw); go_simp; first | done | with_reducible rfl)
                (try simp only [Act.put, List.setIfInBounds_toArray, List.set_cons_zero, List.set_cons_succ])
                refine' takeW 12 ?_ ?_ ?_ (by kernel_rfl) (by kernel_rfl) (by kernel_rfl) (fun _ _ _ h => h) hHeld ?_
                rotate_left 2
                · (simp only [List.getElem?_toArray, List.getElem?_cons_succ, List.getElem?_cons_zero]; rfl)
                · rfl
                · (intro w hSw; (try dsimp only at hSw); go_simp; first | done | with_reducible rfl)
                (try simp only [Act.put, List.setIfInBounds_toArray, List.set_cons_zero, List.set_cons_succ])
                refine' takeW 13 ?_ ?_ ?_ (by kernel_rfl) (by kernel_rfl) (by kernel_rfl) (fun _ _ _ h => h) hHeld ?_
                rotate_left 2
                · (simp only [List.getElem?_toArray, List.getElem?_cons_succ, List.getElem?_cons_zero]; rfl)
                · rfl
                · (intro w hSw; (try dsimp only at hSw); go_simp; first | done | with_reducible rfl)
                (try simp only [Act.put, List.setIfInBounds_toArray, List.set_cons_zero, List.set_cons_succ])
                refine' takeW 14 ?_ ?_ ?_ (by kernel_rfl) (by kernel_rfl) (by kernel_rfl) (fun _ _ _ h => h) hHeld ?_
                rotate_left 2
                · (simp only [List.getElem?_toArray, List.getElem?_cons_succ, List.getElem?_cons_zero]; rfl)
                · rfl
                · (intro w hSw; (try dsimp only at hSw); go_simp; first | done | with_reducible rfl)
                (try simp only [Act.put, List.setIfInBounds_toArray, List.set_cons_zero, List.set_cons_succ])
                refine' takeW 15 ?_ ?_ ?_ (by kernel_rfl) (by kernel_rfl) (by kernel_rfl) (fun _ _ _ h => h) hHeld ?_
                rotate_left 2
                · (simp only [List.getElem?_toArray, List.getElem?_cons_succ, List.getElem?_cons_zero]; rfl)
                · rfl
                · (intro w hSw; (try dsimp only at hSw); go_simp; first | done | with_reducible rfl)
                (try simp only [Act.put, List.setIfInBounds_toArray, List.set_cons_zero, List.set_cons_succ])
                refine' takeW 16 ?_ ?_ ?_ (by kernel_rfl) (by kernel_rfl) (by kernel_rfl) (fun _ _ _ h => h) hHeld ?_
                rotate_left 2
                · (simp only [List.getElem?_toArray, List.getElem?_cons_succ, List.getElem?_cons_zero]; rfl)
                · rfl
                · (intro w hSw; (try dsimp only at hSw); go_simp; first | done | with_reducible rfl)
                (try simp only [Act.put, List.setIfInBounds_toArray, List.set_cons_zero, List.set_cons_succ])
                refine' takeW 17 ?_ ?_ ?_ (by kernel_rfl) (by kernel_rfl) (by kernel_rfl) (fun _ _ _ h => h) hHeld ?_
                rotate_left 2
                · (simp only [List.getElem?_toArray, List.getElem?_cons_succ, List.getElem?_cons_zero]; rfl)
                · rfl
                · (intro w hSw; (try dsimp only at hSw); go_simp; first | done | with_reducible rfl)
                (try simp only [Act.put, List.setIfInBounds_toArray, List.set_cons_zero, List.set_cons_succ])
                refine' takeW 18 ?_ ?_ ?_ (by kernel_rfl) (by kernel_rfl) (by kernel_rfl) (fun _ _ _ h => h) hHeld ?_
                rotate_left 2
                · (simp only [List.getElem?_toArray, List.getElem?_cons_succ, List.getElem?_cons_zero]; rfl)
                · rfl
                · (intro w hSw; (try dsimp only at hSw); go_simp; first | done | with_reducible rfl)
                (try simp only [Act.put, List.setIfInBounds_toArray, List.set_cons_zero, List.set_cons_succ])
                refine' takeW 19 ?_ ?_ ?_ (by kernel_rfl) (by kernel_rfl) (by kernel_rfl) (fun _ _ _ h => h) hHeld ?_
                rotate_left 2
                · (simp only [List.getElem?_toArray, List.getElem?_cons_succ, List.getElem?_cons_zero]; rfl)
                · rfl
                · (intro w hSw; (try dsimp only at hSw); go_simp; first | done | with_reducible rfl)
                (try simp only [Act.put, List.setIfInBounds_toArray, List.set_cons_zero, List.set_cons_succ])
                refine' takeW 20 ?_ ?_ ?_ (by kernel_rfl) (by kernel_rfl) (by kernel_rfl) (fun _ _ _ h => h) hHeld ?_
                rotate_left 2
                · (simp only [List.getElem?_toArray, List.getElem?_cons_succ, List.getElem?_cons_zero]; rfl)
                · rfl
                · (intro w hSw; (try dsimp only at hSw); go_simp; first | done | with_reducible rfl)
                (try simp only [Act.put, List.setIfInBounds_toArray, List.set_cons_zero, List.set_cons_succ])
                refine' takeW 21 ?_ ?_ ?_ (by kernel_rfl) (by kernel_rfl) (by kernel_rfl) (fun _ _ _ h => h) hHeld ?_
                rotate_left 2
                · (simp only [List.getElem?_toArray, List.getElem?_cons_succ, List.getElem?_cons_zero]; rfl)
                · rfl
                · (intro w hSw; (try dsimp only at hSw); go_simp; first | done | with_reducible rfl)
                (try simp only [Act.put, List.setIfInBounds_toArray, List.set_cons_zero, List.set_cons_succ])
                refine' takeW 22 ?_ ?_ ?_ (by kernel_rfl) (by kernel_rfl) (by kernel_rfl) (fun _ _ _ h => h) hHeld ?_
                rotate_left 2
                · (simp only [List.getElem?_toArray, List.getElem?_cons_succ, List.getElem?_cons_zero]; rfl)
                · rfl
                · (intro w hSw; (try dsimp only at hSw); go_simp; first | done | with_reducible rfl)
                (try simp only [Act.put, List.setIfInBounds_toArray, List.set_cons_zero, List.set_cons_succ])
                refine' takeW 23 ?_ ?_ ?_ (by kernel_rfl) (by kernel_rfl) (by kernel_rfl) (fun _ _ _ h => h) hHeld ?_
                rotate_left 2
                · (simp only [List.getElem?_toArray, List.getElem?_cons_succ, List.getElem?_cons_zero]; rfl)
                · rfl
                · (intro w hSw; (try dsimp only at hSw); go_simp; first | done | with_reducible rfl)
                (try simp only [Act.put, List.setIfInBounds_toArray, List.set_cons_zero, List.set_cons_succ])
                refine' takeW 24 ?_ ?_ ?_ (by kernel_rfl) (by kernel_rfl) (by kernel_rfl) (fun _ _ _ h => h) hHeld ?_
                rotate_left 2
                · (simp only [List.getElem?_toArray, List.getElem?_cons_succ, List.getElem?_cons_zero]; rfl)
                · rfl
                · (intro w hSw; (try dsimp only at hSw); go_simp; first | done | with_reducible rfl)
                (try simp only [Act.put, List.setIfInBounds_toArray, List.set_cons_zero, List.set_cons_succ])
                refine' takeW 25 ?_ ?_ ?_ (by kernel_rfl) (by kernel_rfl) (by kernel_rfl) (fun _ _ _ h => h) hHeld ?_
                rotate_left 2
                · (simp only [List.getElem?_toArray, List.getElem?_cons_succ, List.getElem?_cons_zero]; rfl)
                · rfl
                · (intro w hSw; (try dsimp only at hSw); go_simp; first | done | with_reducible rfl)
                (try simp only [Act.put, List.setIfInBounds_toArray, List.set_cons_zero, List.set_cons_succ])
                refine' takeW 26 ?_ ?_ ?_ (by kernel_rfl) (by kernel_rfl) (by kernel_rfl) (fun _ _ _ h => h) hHeld ?_
                rotate_left 2
                · (simp only [List.getElem?_toArray, List.getElem?_cons_succ, List.getElem?_cons_zero]; rfl)
                · rfl
                · (intro w hSw; (try dsimp only at hSw); go_simp; first | done | with_reducible rfl)
                (try simp only [Act.put, List.setIfInBounds_toArray, List.set_cons_zero, List.set_cons_succ])
                refine' takeW 27 ?_ ?_ ?_ (by kernel_rfl) (by kernel_rfl) (by kernel_rfl) (fun _ _ _ h => h) hHeld ?_
                rotate_left 2
                · (simp only [List.getElem?_toArray, List.getElem?_cons_succ, List.getElem?_cons_zero]; rfl)
                · rfl
                · (intro w hSw; (try dsimp only at hSw); go_simp; first | done | with_reducible rfl)
                (try simp only [Act.put, List.setIfInBounds_toArray, List.set_cons_zero, List.set_cons_succ])
                refine wpAnyH_done (by kernel_rfl) ?_ _
                refine NoPanic.normal ?_
                go_wp2_with fail
                exact ⟨⟨k + 1, by omega, by go_num, below_keep' hb (last7P hHeld)⟩, by simp [intOf]; omega⟩
            · obtain rfl : k = n := by omega
              go_wp2_with fail
              exact ⟨⟨j + 1, by omega, by go_num, hb⟩, by simp [intOf]; omega⟩
        · obtain rfl : n = j := by omega
          clear HBX HGH HGF HSS HAT HBB HTOT
          go_wp2_with fail
          go_loopw [13] (fun t wr => ∃ p : Nat, p ≤ i ∧ t = .int .i64 (p : Int) ∧ Below w7.heap.size w7 wr) (fun t _ => i - (intOf t).toNat)
          case atStart => exact ⟨0, by omega, rfl, hb⟩
          case round =>
            clear hb
            obtain ⟨p, hp, rfl, hb⟩ := hrel
            by_cases hlt3 : p < i
            · obtain ⟨bg, og, z, a, m, cz, rfl, hbg, hz, c0, hm, hSz⟩ := HL7.out.at_ hlt3
              have HZM := Lib.hid (List.mem_of_getElem? hz)
              have HSZ := Lib.hid hSz
              have HZL := Lib.hid (Sl.len hSz)
              have hpi : (p : Int) < (i : Int) := by omega
              have hm9 := hm.1
              have hmc := hm.2
              have d0 := (hb.cell (p := ⟨bg, og + p, none⟩) hbg).trans c0
              clear hz hSz hm
              by_cases hm2 : m < 2
              · go_wp2_with fail
                exact ⟨⟨p + 1, by omega, by go_num, hb⟩, by simp [intOf]; omega⟩
              obtain ⟨rr, hrr⟩ : ∃ rr : Nat, rr = m0.toNat % (m - 1) := ⟨_, rfl⟩
              have hrl : rr < m - 1 := by rw [hrr]; exact Nat.mod_lt _ (by omega)
              obtain ⟨q0, rfl⟩ : ∃ q0 : Nat, m0 = (q0 : Int) := ⟨m0.toNat, by have := HM0.out; omega⟩
              obtain ⟨ml, rfl⟩ : ∃ ml : Nat, m = ml + 1 := ⟨m - 1, by omega⟩
              have ht : ((q0 : Int)).tmod (ml : Int) = (rr : Int) := by
                rw [hrr, Int.toNat_natCast, Nat.add_sub_cancel]
                rw [Int.tmod_eq_emod_of_nonneg (by omega)]
                exact (Int.natCast_emod q0 ml).symm
              obtain ⟨kc, hkc⟩ : ∃ kc : Nat, kc = rr + 1 := ⟨_, rfl⟩
              have hs1 : (1 : Int) + (rr : Int) = (kc : Int) := by omega
              have hs2 : IntKind.i64.wrap (kc : Int) = (kc : Int) := by rw [IntKind.wrap_i64]; omega
              have hs3 : IntKind.i64.wrap (q0 : Int) = (q0 : Int) := by have := HM0.out; rw [IntKind.wrap_i64]; omega
              have hs4 : IntKind.i64.wrap (ml : Int) = (ml : Int) := by rw [IntKind.wrap_i64]; omega
              have hs5 : IntKind.i64.wrap (rr : Int) = (rr : Int) := by rw [IntKind.wrap_i64]; omega
              have hs6 : ((ml : Int) == 0) = false := by simp; omega
              have hk1 : 0 < kc := by omega
              have hk2 : kc < ml + 1 := by omega
              clear hrr hkc
              obtain ⟨bz, oz, _, rfl, hbz, _, _⟩ := HSZ.out.in_ (show 0 < ml + 1 by omega)
              have hkz1 : ¬ kc = cz := by omega
              have hkz2 : ¬ cz = kc := by omega
              have hkz3 : (kc : Int) ≤ (cz : Int) := by omega
              have hkz4 : (kc : Int) ≤ (ml : Int) + 1 := by omega
              have hkz5 : (0 : Int) ≤ (kc : Int) := by omega
              go_wp2_with fail
              clear d0
              go_loopw [15, 16] (fun J t wr => ∃ (ia : Nat) (jb : Bool), ia ≤ n ∧ t = .int .i64 (ia : Int) ∧ J = .bool jb ∧ JI ls z kc ia 0 jb ∧ Below w7.heap.size w7 wr) (fun _ t _ => n - (intOf t).toNat)
              case atStart => exact ⟨0, false, by omega, rfl, rfl, JI.start _ _ _, hb⟩
              case round =>
                clear hb
                obtain ⟨ia, jb, hia, rfl, rfl, hJ, hb⟩ := hrel
                have HJ := Lib.hid hJ; clear hJ
                by_cases hlt4 : ia < n
                · go_wp2_with fail
                  go_loopw [15, 17] (fun J t wr => ∃ (ib : Nat) (jb : Bool), ib ≤ n ∧ t = .int .i64 (ib : Int) ∧ J = .bool jb ∧ JI ls z kc ia ib jb ∧ Below w7.heap.size w7 wr) (fun _ t _ => n - (intOf t).toNat)
                  case atStart => exact ⟨0, jb, by omega, rfl, rfl, HJ.out, hb⟩
                  case round =>
                    clear HJ hb
                    obtain ⟨ib, jb, hib, rfl, rfl, hJ, hb⟩ := hrel
                    have HJ := Lib.hid hJ; clear hJ
                    by_cases hlt5 : ib < n
                    · obtain ⟨b, off, x, ax, mx, cx, rfl, hbl7, hx, e07, e17, hmx, hSx⟩ := HLS.out.at_ hlt4
                      obtain ⟨b', off', y, ay, my, cy, hAy, _, hy, f07, f17, hmy, hSy⟩ := HLS.out.at_ hlt5
                      cases hAy
                      have e0 := (hb.cell (p := ⟨b, off + ia * 2, none⟩) hbl7).trans e07
                      have e1 := (hb.cell (p := ⟨b, off + ia * 2 + 1, none⟩) hbl7).trans e17
                      have f0 := (hb.cell (p := ⟨b, off + ib * 2, none⟩) hbl7).trans f07
                      have f1 := (hb.cell (p := ⟨b, off + ib * 2 + 1, none⟩) hbl7).trans f17
                      have hd := (hb.cell (p := ⟨bg, og + p, none⟩) hbg).trans c0
                      have hbl : b < wr.heap.size := Nat.lt_of_lt_of_le hbl7 hb.size
                      have hbgl : bg < wr.heap.size := Nat.lt_of_lt_of_le hbg hb.size
                      have hian : (ia : Int) < (n : Int) := by omega
                      have hibn : (ib : Int) < (n : Int) := by omega
                      have HX := Lib.hid hx
                      have HY := Lib.hid hy
                      have hmx8 : mx ≤ 1000000 := by have := (HV.out x (List.mem_of_getElem? hx)).2.1; rw [Sl.len hSx] at this; omega
                      have hmy8 : my ≤ 1000000 := by have := (HV.out y (List.mem_of_getElem? hy)).2.1; rw [Sl.len hSy] at this; omega
                      have HSH : Hid (∀ U, Below wr.heap.size wr U → Calls Tryz.prog 23 #[.agg #[.int .i64 x.id, .slice ax mx cx], .agg #[.int .i64 y.id, .slice ay my cy]] U fun e w' => e = .returned (.bool (shareB x.sales y.sales)) ∧ Below U.heap.size U w') := fun U hU =>
                        rshare_any x.id ax mx cx x.sales y.id ay my cy y.sales U hmx8 hmy8 (hSx.up (below_keep' hb hU)) (hSy.up (below_keep' hb hU))
                      have HH1 : Hid (∀ U, Below wr.heap.size wr U → Calls Tryz.prog 24 #[.slice (some ⟨bz, oz, none⟩) kc cz, .int .i64 x.id] U fun e w' => e = .returned (.bool (decide (x.id ∈ z.take kc))) ∧ Below U.heap.size U w') := fun U hU => by
                        have hSU := Sl.up HSZ.out (below_keep' hb hU) (Nat.le_refl _) (Nat.le_refl _)
                        exact (has_any (some ⟨bz, oz, none⟩) kc cz (z.take kc) x.id U (by omega) (hSU.cut kc (by omega))).mono fun e w' h => ⟨h.1, by rw [← h.2]; exact Below.refl _ _⟩
                      have HH2 : Hid (∀ U, Below wr.heap.size wr U → Calls Tryz.prog 24 #[.slice (some ⟨bz, oz + kc, none⟩) (ml + 1 - kc) (cz - kc), .int .i64 y.id] U fun e w' => e = .returned (.bool (decide (y.id ∈ z.drop kc))) ∧ Below U.heap.size U w') := fun U hU => by
                        have hSU := (Sl.up HSZ.out (below_keep' hb hU) (Nat.le_refl _) (Nat.le_refl _)).dropC (k := kc) (by omega)
                        rw [Nat.mul_one] at hSU
                        exact (has_any (some ⟨bz, oz + kc, none⟩) (ml + 1 - kc) (cz - kc) (z.drop kc) y.id U (by omega) hSU).mono fun e w' h => ⟨h.1, by rw [← h.2]; exact Below.refl _ _⟩
                      clear hx hy hSx hSy hmx hmy e07 e17 f07 f17
                      cases jb
                      rotate_left 1
                      · clear HSH HH1 HH2
                        go_wp2_with fail
                        refine wp_region_noPanic ?_
                        refine wp_region_held_drew (S := fun U => U.cell? ⟨b, off + ia * 2, none⟩ = some (.int .i64 x.id) ∧ U.cell? ⟨b, off + ia * 2 + 1, none⟩ = some (.slice ax mx cx) ∧ U.cell? ⟨b, off + ib * 2, none⟩ = some (.int .i64 y.id) ∧ U.cell? ⟨b, off + ib * 2 + 1, none⟩ = some (.slice ay my cy) ∧ U.cell? ⟨bg, og + p, none⟩ = some (.slice (some ⟨bz, oz, none⟩) (ml + 1) cz) ∧ U.cell? ⟨bg, og + p, none⟩ = some (.slice (some ⟨bz, oz, none⟩) (ml + 1) cz) ∧ Below wr.heap.size wr U) (by kernel_rfl) (keep6P e0 e1 f0 f1 hd hd hbl hbl hbl hbl hbgl hbgl (Below.drew (Below.refl _ _))) (fun hHeld => ?_)
                        refine' takeW 0 ?_ ?_ ?_ (by kernel_rfl) (by kernel_rfl) (by kernel_rfl) (fun _ _ _ h => h) hHeld ?_
                        rotate_left 2
                        · (simp only [List.getElem?_toArray, List.getElem?_cons_succ, List.getElem?_cons_zero]; rfl)
                        · rfl
                        · (intro w hSw; (try dsimp only at hSw); go_simp; first | done | with_reducible rfl)
                        (try simp only [Act.put, List.setIfInBounds_toArray, List.set_cons_zero, List.set_cons_succ])
                        refine' takeW 1 ?_ ?_ ?_ (by kernel_rfl) (by kernel_rfl) (by kernel_rfl) (fun _ _ _ h => h) hHeld ?_
                        rotate_left 2
                        · (simp only [List.getElem?_toArray, List.getElem?_cons_succ, List.getElem?_cons_zero]; rfl)
                        · rfl
                        · (intro w hSw; (try dsimp only at hSw); go_simp; first | done | with_reducible rfl)
                        (try simp only [Act.put, List.setIfInBounds_toArray, List.set_cons_zero, List.set_cons_succ])
                        refine' takeN 2 ?_ ?_ (by kernel_rfl) (by kernel_rfl) (by kernel_rfl) (fun _ _ _ h => h) hHeld ?_
                        rotate_left 1
                        · (simp only [List.getElem?_toArray, List.getElem?_cons_succ, List.getElem?_cons_zero]; rfl)
                        · rfl
                        (try simp only [Act.put, List.setIfInBounds_toArray, List.set_cons_zero, List.set_cons_succ])
                        refine' takeN 3 ?_ ?_ (by kernel_rfl) (by kernel_rfl) (by kernel_rfl) (fun _ _ _ h => h) hHeld ?_
                        rotate_left 1
                        · (simp only [List.getElem?_toArray, List.getElem?_cons_succ, List.getElem?_cons_zero]; rfl)
                        · rfl
                        (try simp only [Act.put, List.setIfInBounds_toArray, List.set_cons_zero, List.set_cons_succ])
                        refine' takeN 4 ?_ ?_ (by kernel_rfl) (by kernel_rfl) (by kernel_rfl) (fun _ _ _ h => h) hHeld ?_
                        rotate_left 1
                        · (simp only [List.getElem?_toArray, List.getElem?_cons_succ, List.getElem?_cons_zero]; rfl)
                        · rfl
                        (try simp only [Act.put, List.setIfInBounds_toArray, List.set_cons_zero, List.set_cons_succ])
                        refine' takeN 5 ?_ ?_ (by kernel_rfl) (by kernel_rfl) (by kernel_rfl) (fun _ _ _ h => h) hHeld ?_
                        rotate_left 1
                        · (simp only [List.getElem?_toArray, List.getElem?_cons_succ, List.getElem?_cons_zero]; rfl)
                        · rfl
                        (try simp only [Act.put, List.setIfInBounds_toArray, List.set_cons_zero, List.set_cons_succ])
                        refine' takeN 6 ?_ ?_ (by kernel_rfl) (by kernel_rfl) (by kernel_rfl) (fun _ _ _ h => h) hHeld ?_
                        rotate_left 1
                        · (simp only [List.getElem?_toArray, List.getElem?_cons_succ, List.getElem?_cons_zero]; rfl)
                        · rfl
                        (try simp only [Act.put, List.setIfInBounds_toArray, List.set_cons_zero, List.set_cons_succ])
                        refine' takeN 7 ?_ ?_ (by kernel_rfl) (by kernel_rfl) (by kernel_rfl) (fun _ _ _ h => h) hHeld ?_
                        rotate_left 1
                        · (simp only [List.getElem?_toArray, List.getElem?_cons_succ, List.getElem?_cons_zero]; rfl)
                        · rfl
                        (try simp only [Act.put, List.setIfInBounds_toArray, List.set_cons_zero, List.set_cons_succ])
                        refine' takeN 8 ?_ ?_ (by kernel_rfl) (by kernel_rfl) (by kernel_rfl) (fun _ _ _ h => h) hHeld ?_
                        rotate_left 1
                        · (simp only [List.getElem?_toArray, List.getElem?_cons_succ, List.getElem?_cons_zero]; rfl)
                        · rfl
                        (try simp only [Act.put, List.setIfInBounds_toArray, List.set_cons_zero, List.set_cons_succ])
                        refine' takeN 9 ?_ ?_ (by kernel_rfl) (by kernel_rfl) (by kernel_rfl) (fun _ _ _ h => h) hHeld ?_
                        rotate_left 1
                        · (simp only [List.getElem?_toArray, List.getElem?_cons_succ, List.getElem?_cons_zero]; rfl)
                        · rfl
                        (try simp only [Act.put, List.setIfInBounds_toArray, List.set_cons_zero, List.set_cons_succ])
                        refine' takeN 10 ?_ ?_ (by kernel_rfl) (by kernel_rfl) (by kernel_rfl) (fun _ _ _ h => h) hHeld ?_
                        rotate_left 1
                        · (simp only [List.getElem?_toArray, List.getElem?_cons_succ, List.getElem?_cons_zero]; rfl)
                        · rfl
                        (try simp only [Act.put, List.setIfInBounds_toArray, List.set_cons_zero, List.set_cons_succ])
                        refine' takeN 11 ?_ ?_ (by kernel_rfl) (by kernel_rfl) (by kernel_rfl) (fun _ _ _ h => h) hHeld ?_
                        rotate_left 1
                        · (simp only [List.getElem?_toArray, List.getElem?_cons_succ, List.getElem?_cons_zero]; rfl)
                        · rfl
                        (try simp only [Act.put, List.setIfInBounds_toArray, List.set_cons_zero, List.set_cons_succ])
                        refine' takeN 12 ?_ ?_ (by kernel_rfl) (by kernel_rfl) (by kernel_rfl) (fun _ _ _ h => h) hHeld ?_
                        rotate_left 1
                        · (simp only [List.getElem?_toArray, List.getElem?_cons_succ, List.getElem?_cons_zero]; rfl)
                        · rfl
                        (try simp only [Act.put, List.setIfInBounds_toArray, List.set_cons_zero, List.set_cons_succ])
                        refine' takeN 13 ?_ ?_ (by kernel_rfl) (by kernel_rfl) (by kernel_rfl) (fun _ _ _ h => h) hHeld ?_
                        rotate_left 1
                        · (simp only [List.getElem?_toArray, List.getElem?_cons_succ, List.getElem?_cons_zero]; rfl)
                        · rfl
                        (try simp only [Act.put, List.setIfInBounds_toArray, List.set_cons_zero, List.set_cons_succ])
                        refine' takeN 14 ?_ ?_ (by kernel_rfl) (by kernel_rfl) (by kernel_rfl) (fun _ _ _ h => h) hHeld ?_
                        rotate_left 1
                        · (simp only [List.getElem?_toArray, List.getElem?_cons_succ, List.getElem?_cons_zero]; rfl)
                        · rfl
                        (try simp only [Act.put, List.setIfInBounds_toArray, List.set_cons_zero, List.set_cons_succ])
                        refine' takeN 15 ?_ ?_ (by kernel_rfl) (by kernel_rfl) (by kernel_rfl) (fun _ _ _ h => h) hHeld ?_
                        rotate_left 1
                        · (simp only [List.getElem?_toArray, List.getElem?_cons_succ, List.getElem?_cons_zero]; rfl)
                        · rfl
                        (try simp only [Act.put, List.setIfInBounds_toArray, List.set_cons_zero, List.set_cons_succ])
                        refine' takeN 16 ?_ ?_ (by kernel_rfl) (by kernel_rfl) (by kernel_rfl) (fun _ _ _ h => h) hHeld ?_
                        rotate_left 1
                        · (simp only [List.getElem?_toArray, List.getElem?_cons_succ, List.getElem?_cons_zero]; rfl)
                        · rfl
                        (try simp only [Act.put, List.setIfInBounds_toArray, List.set_cons_zero, List.set_cons_succ])
                        refine' takeN 17 ?_ ?_ (by kernel_rfl) (by kernel_rfl) (by kernel_rfl) (fun _ _ _ h => h) hHeld ?_
                        rotate_left 1
                        · (simp only [List.getElem?_toArray, List.getElem?_cons_succ, List.getElem?_cons_zero]; rfl)
                        · rfl
                        (try simp only [Act.put, List.setIfInBounds_toArray, List.set_cons_zero, List.set_cons_succ])
                        refine' takeN 18 ?_ ?_ (by kernel_rfl) (by kernel_rfl) (by kernel_rfl) (fun _ _ _ h => h) hHeld ?_
                        rotate_left 1
                        · (simp only [List.getElem?_toArray, List.getElem?_cons_succ, List.getElem?_cons_zero]; rfl)
                        · rfl
                        (try simp only [Act.put, List.setIfInBounds_toArray, List.set_cons_zero, List.set_cons_succ])
                        refine' takeN 19 ?_ ?_ (by kernel_rfl) (by kernel_rfl) (by kernel_rfl) (fun _ _ _ h => h) hHeld ?_
                        rotate_left 1
                        · (simp only [List.getElem?_toArray, List.getElem?_cons_succ, List.getElem?_cons_zero]; rfl)
                        · rfl
                        (try simp only [Act.put, List.setIfInBounds_toArray, List.set_cons_zero, List.set_cons_succ])
                        refine' takeN 20 ?_ ?_ (by kernel_rfl) (by kernel_rfl) (by kernel_rfl) (fun _ _ _ h => h) hHeld ?_
                        rotate_left 1
                        · (simp only [List.getElem?_toArray, List.getElem?_cons_succ, List.getElem?_cons_zero]; rfl)
                        · rfl
                        (try simp only [Act.put, List.setIfInBounds_toArray, List.set_cons_zero, List.set_cons_succ])
                        refine' takeN 21 ?_ ?_ (by kernel_rfl) (by kernel_rfl) (by kernel_rfl) (fun _ _ _ h => h) hHeld ?_
                        rotate_left 1
                        · (simp only [List.getElem?_toArray, List.getElem?_cons_succ, List.getElem?_cons_zero]; rfl)
                        · rfl
                        (try simp only [Act.put, List.setIfInBounds_toArray, List.set_cons_zero, List.set_cons_succ])
                        refine' takeN 22 ?_ ?_ (by kernel_rfl) (by kernel_rfl) (by kernel_rfl) (fun _ _ _ h => h) hHeld ?_
                        rotate_left 1
                        · (simp only [List.getElem?_toArray, List.getElem?_cons_succ, List.getElem?_cons_zero]; rfl)
                        · rfl
                        (try simp only [Act.put, List.setIfInBounds_toArray, List.set_cons_zero, List.set_cons_succ])
                        refine' takeN 23 ?_ ?_ (by kernel_rfl) (by kernel_rfl) (by kernel_rfl) (fun _ _ _ h => h) hHeld ?_
                        rotate_left 1
                        · (simp only [List.getElem?_toArray, List.getElem?_cons_succ, List.getElem?_cons_zero]; rfl)
                        · rfl
                        (try simp only [Act.put, List.setIfInBounds_toArray, List.set_cons_zero, List.set_cons_succ])
                        refine' takeN 24 ?_ ?_ (by kernel_rfl) (by kernel_rfl) (by kernel_rfl) (fun _ _ _ h => h) hHeld ?_
                        rotate_left 1
                        · (simp only [List.getElem?_toArray, List.getElem?_cons_succ, List.getElem?_cons_zero]; rfl)
                        · rfl
                        (try simp only [Act.put, List.setIfInBounds_toArray, List.set_cons_zero, List.set_cons_succ])
                        refine' takeN 25 ?_ ?_ (by kernel_rfl) (by kernel_rfl) (by kernel_rfl) (fun _ _ _ h => h) hHeld ?_
                        rotate_left 1
                        · (simp only [List.getElem?_toArray, List.getElem?_cons_succ, List.getElem?_cons_zero]; rfl)
                        · rfl
                        (try simp only [Act.put, List.setIfInBounds_toArray, List.set_cons_zero, List.set_cons_succ])
                        refine' takeN 26 ?_ ?_ (by kernel_rfl) (by kernel_rfl) (by kernel_rfl) (fun _ _ _ h => h) hHeld ?_
                        rotate_left 1
                        · (simp only [List.getElem?_toArray, List.getElem?_cons_succ, List.getElem?_cons_zero]; rfl)
                        · rfl
                        (try simp only [Act.put, List.setIfInBounds_toArray, List.set_cons_zero, List.set_cons_succ])
                        refine' takeN 27 ?_ ?_ (by kernel_rfl) (by kernel_rfl) (by kernel_rfl) (fun _ _ _ h => h) hHeld ?_
                        rotate_left 1
                        · (simp only [List.getElem?_toArray, List.getElem?_cons_succ, List.getElem?_cons_zero]; rfl)
                        · rfl
                        (try simp only [Act.put, List.setIfInBounds_toArray, List.set_cons_zero, List.set_cons_succ])
                        refine' takeN 28 ?_ ?_ (by kernel_rfl) (by kernel_rfl) (by kernel_rfl) (fun _ _ _ h => h) hHeld ?_
                        rotate_left 1
                        · (simp only [List.getElem?_toArray, List.getElem?_cons_succ, List.getElem?_cons_zero]; rfl)
                        · rfl
                        (try simp only [Act.put, List.setIfInBounds_toArray, List.set_cons_zero, List.set_cons_succ])
                        refine' takeN 29 ?_ ?_ (by kernel_rfl) (by kernel_rfl) (by kernel_rfl) (fun _ _ _ h => h) hHeld ?_
                        rotate_left 1
                        · (simp only [List.getElem?_toArray, List.getElem?_cons_succ, List.getElem?_cons_zero]; rfl)
                        · rfl
                        (try simp only [Act.put, List.setIfInBounds_toArray, List.set_cons_zero, List.set_cons_succ])
                        refine' takeN 30 ?_ ?_ (by kernel_rfl) (by kernel_rfl) (by kernel_rfl) (fun _ _ _ h => h) hHeld ?_
                        rotate_left 1
                        · (simp only [List.getElem?_toArray, List.getElem?_cons_succ, List.getElem?_cons_zero]; rfl)
                        · rfl
                        (try simp only [Act.put, List.setIfInBounds_toArray, List.set_cons_zero, List.set_cons_succ])
                        refine' takeN 31 ?_ ?_ (by kernel_rfl) (by kernel_rfl) (by kernel_rfl) (fun _ _ _ h => h) hHeld ?_
                        rotate_left 1
                        · (simp only [List.getElem?_toArray, List.getElem?_cons_succ, List.getElem?_cons_zero]; rfl)
                        · rfl
                        (try simp only [Act.put, List.setIfInBounds_toArray, List.set_cons_zero, List.set_cons_succ])
                        refine' takeN 32 ?_ ?_ (by kernel_rfl) (by kernel_rfl) (by kernel_rfl) (fun _ _ _ h => h) hHeld ?_
                        rotate_left 1
                        · (simp only [List.getElem?_toArray, List.getElem?_cons_succ, List.getElem?_cons_zero]; rfl)
                        · rfl
                        (try simp only [Act.put, List.setIfInBounds_toArray, List.set_cons_zero, List.set_cons_succ])
                        refine' takeN 33 ?_ ?_ (by kernel_rfl) (by kernel_rfl) (by kernel_rfl) (fun _ _ _ h => h) hHeld ?_
                        rotate_left 1
                        · (simp only [List.getElem?_toArray, List.getElem?_cons_succ, List.getElem?_cons_zero]; rfl)
                        · rfl
                        (try simp only [Act.put, List.setIfInBounds_toArray, List.set_cons_zero, List.set_cons_succ])
                        refine' takeN 34 ?_ ?_ (by kernel_rfl) (by kernel_rfl) (by kernel_rfl) (fun _ _ _ h => h) hHeld ?_
                        rotate_left 1
                        · (simp only [List.getElem?_toArray, List.getElem?_cons_succ, List.getElem?_cons_zero]; rfl)
                        · rfl
                        (try simp only [Act.put, List.setIfInBounds_toArray, List.set_cons_zero, List.set_cons_succ])
                        refine' takeN 35 ?_ ?_ (by kernel_rfl) (by kernel_rfl) (by kernel_rfl) (fun _ _ _ h => h) hHeld ?_
                        rotate_left 1
                        · (simp only [List.getElem?_toArray, List.getElem?_cons_succ, List.getElem?_cons_zero]; rfl)
                        · rfl
                        (try simp only [Act.put, List.setIfInBounds_toArray, List.set_cons_zero, List.set_cons_succ])
                        refine' takeN 36 ?_ ?_ (by kernel_rfl) (by kernel_rfl) (by kernel_rfl) (fun _ _ _ h => h) hHeld ?_
                        rotate_left 1
                        · (simp only [List.getElem?_toArray, List.getElem?_cons_succ, List.getElem?_cons_zero]; rfl)
                        · rfl
                        (try simp only [Act.put, List.setIfInBounds_toArray, List.set_cons_zero, List.set_cons_succ])
                        refine' takeN 37 ?_ ?_ (by kernel_rfl) (by kernel_rfl) (by kernel_rfl) (fun _ _ _ h => h) hHeld ?_
                        rotate_left 1
                        · (simp only [List.getElem?_toArray, List.getElem?_cons_succ, List.getElem?_cons_zero]; rfl)
                        · rfl
                        (try simp only [Act.put, List.setIfInBounds_toArray, List.set_cons_zero, List.set_cons_succ])
                        refine' takeN 38 ?_ ?_ (by kernel_rfl) (by kernel_rfl) (by kernel_rfl) (fun _ _ _ h => h) hHeld ?_
                        rotate_left 1
                        · (simp only [List.getElem?_toArray, List.getElem?_cons_succ, List.getElem?_cons_zero]; rfl)
                        · rfl
                        (try simp only [Act.put, List.setIfInBounds_toArray, List.set_cons_zero, List.set_cons_succ])
                        refine' takeW 39 ?_ ?_ ?_ (by kernel_rfl) (by kernel_rfl) (by kernel_rfl) (fun _ _ _ h => h) hHeld ?_
                        rotate_left 2
                        · (simp only [List.getElem?_toArray, List.getElem?_cons_succ, List.getElem?_cons_zero]; rfl)
                        · rfl
                        · (intro w hSw; (try dsimp only at hSw); go_simp; first | done | with_reducible rfl)
                        (try simp only [Act.put, List.setIfInBounds_toArray, List.set_cons_zero, List.set_cons_succ])
                        refine' takeW 40 ?_ ?_ ?_ (by kernel_rfl) (by kernel_rfl) (by kernel_rfl) (fun _ _ _ h => h) hHeld ?_
                        rotate_left 2
                        · (simp only [List.getElem?_toArray, List.getElem?_cons_succ, List.getElem?_cons_zero]; rfl)
                        · rfl
                        · (intro w hSw; (try dsimp only at hSw); go_simp; first | done | with_reducible rfl)
                        (try simp only [Act.put, List.setIfInBounds_toArray, List.set_cons_zero, List.set_cons_succ])
                        refine wpAnyH_done (by kernel_rfl) ?_ _
                        refine NoPanic.normal ?_
                        go_wp2_with fail
                        exact ⟨⟨ib + 1, true, by omega, by go_num, rfl, JI.yes _ _ _ _ _, below_keep' hb (last7P hHeld)⟩, by simp [intOf]; omega⟩
                      cases hsh : shareB x.sales y.sales
                      · rw [hsh] at HSH
                        have HNO := Lib.hid (HJ.out.skip HX.out HY.out (by rintro ⟨h, _⟩; rw [hsh] at h; cases h))
                        clear hsh HH1 HH2
                        go_wp2_with fail
                        refine wp_region_noPanic ?_
                        refine wp_region_held_drew (S := fun U => U.cell? ⟨b, off + ia * 2, none⟩ = some (.int .i64 x.id) ∧ U.cell? ⟨b, off + ia * 2 + 1, none⟩ = some (.slice ax mx cx) ∧ U.cell? ⟨b, off + ib * 2, none⟩ = some (.int .i64 y.id) ∧ U.cell? ⟨b, off + ib * 2 + 1, none⟩ = some (.slice ay my cy) ∧ U.cell? ⟨bg, og + p, none⟩ = some (.slice (some ⟨bz, oz, none⟩) (ml + 1) cz) ∧ U.cell? ⟨bg, og + p, none⟩ = some (.slice (some ⟨bz, oz, none⟩) (ml + 1) cz) ∧ Below wr.heap.size wr U) (by kernel_rfl) (keep6P e0 e1 f0 f1 hd hd hbl hbl hbl hbl hbgl hbgl (Below.drew (Below.refl _ _))) (fun hHeld => ?_)
                        refine' takeW 0 ?_ ?_ ?_ (by kernel_rfl) (by kernel_rfl) (by kernel_rfl) (fun _ _ _ h => h) hHeld ?_
                        rotate_left 2
                        · (simp only [List.getElem?_toArray, List.getElem?_cons_succ, List.getElem?_cons_zero]; rfl)
                        · rfl
                        · (intro w hSw; (try dsimp only at hSw); go_simp; first | done | with_reducible rfl)
                        (try simp only [Act.put, List.setIfInBounds_toArray, List.set_cons_zero, List.set_cons_succ])
                        refine' takeW 1 ?_ ?_ ?_ (by kernel_rfl) (by kernel_rfl) (by kernel_rfl) (fun _ _ _ h => h) hHeld ?_
                        rotate_left 2
                        · (simp only [List.getElem?_toArray, List.getElem?_cons_succ, List.getElem?_cons_zero]; rfl)
                        · rfl
                        · (intro w hSw; (try dsimp only at hSw); go_simp; first | done | with_reducible rfl)
                        (try simp only [Act.put, List.setIfInBounds_toArray, List.set_cons_zero, List.set_cons_succ])
                        refine' takeW 2 ?_ ?_ ?_ (by kernel_rfl) (by kernel_rfl) (by kernel_rfl) (fun _ _ _ h => h) hHeld ?_
                        rotate_left 2
                        · (simp only [List.getElem?_toArray, List.getElem?_cons_succ, List.getElem?_cons_zero]; rfl)
                        · rfl
                        · (intro w hSw; (try dsimp only at hSw); go_simp; first | done | with_reducible rfl)
                        (try simp only [Act.put, List.setIfInBounds_toArray, List.set_cons_zero, List.set_cons_succ])
                        refine' takeW 3 ?_ ?_ ?_ (by kernel_rfl) (by kernel_rfl) (by kernel_rfl) (fun _ _ _ h => h) hHeld ?_
                        rotate_left 2
                        · (simp only [List.getElem?_toArray, List.getElem?_cons_succ, List.getElem?_cons_zero]; rfl)
                        · rfl
                        · (intro w hSw; (try dsimp only at hSw); go_simp; first | done | with_reducible rfl)
                        (try simp only [Act.put, List.setIfInBounds_toArray, List.set_cons_zero, List.set_cons_succ])
                        refine' takeW 4 ?_ ?_ ?_ (by kernel_rfl) (by kernel_rfl) (by kernel_rfl) (fun _ _ _ h => h) hHeld ?_
                        rotate_left 2
                        · (simp only [List.getElem?_toArray, List.getElem?_cons_succ, List.getElem?_cons_zero]; rfl)
                        · rfl
                        · (intro w hSw; (try dsimp only at hSw); go_simp; first | done | with_reducible rfl)
                        (try simp only [Act.put, List.setIfInBounds_toArray, List.set_cons_zero, List.set_cons_succ])
                        refine' takeW 5 ?_ ?_ ?_ (by kernel_rfl) (by kernel_rfl) (by kernel_rfl) (fun _ _ _ h => h) hHeld ?_
                        rotate_left 2
                        · (simp only [List.getElem?_toArray, List.getElem?_cons_succ, List.getElem?_cons_zero]; rfl)
                        · rfl
                        · (intro w hSw; (try dsimp only at hSw); go_simp; first | done | with_reducible rfl)
                        (try simp only [Act.put, List.setIfInBounds_toArray, List.set_cons_zero, List.set_cons_succ])
                        refine' takeW 6 ?_ ?_ ?_ (by kernel_rfl) (by kernel_rfl) (by kernel_rfl) (fun _ _ _ h => h) hHeld ?_
                        rotate_left 2
                        · (simp only [List.getElem?_toArray, List.getElem?_cons_succ, List.getElem?_cons_zero]; rfl)
                        · rfl
                        · (intro w hSw; (try dsimp only at hSw); go_simp; first | done | with_reducible rfl)
                        (try simp only [Act.put, List.setIfInBounds_toArray, List.set_cons_zero, List.set_cons_succ])
                        refine' takeW 7 ?_ ?_ ?_ (by kernel_rfl) (by kernel_rfl) (by kernel_rfl) (fun _ _ _ h => h) hHeld ?_
                        rotate_left 2
                        · (simp only [List.getElem?_toArray, List.getElem?_cons_succ, List.getElem?_cons_zero]; rfl)
                        · rfl
                        · (intro w hSw; (try dsimp only at hSw); go_simp; first | done | with_reducible rfl)
                        (try simp only [Act.put, List.setIfInBounds_toArray, List.set_cons_zero, List.set_cons_succ])
                        refine' takeW 8 ?_ ?_ ?_ (by kernel_rfl) (by kernel_rfl) (by kernel_rfl) (fun _ _ _ h => h) hHeld ?_
                        rotate_left 2
                        · (simp only [List.getElem?_toArray, List.getElem?_cons_succ, List.getElem?_cons_zero]; rfl)
                        · rfl
                        · (intro w hSw; (try dsimp only at hSw); go_simp; first | done | with_reducible rfl)
                        (try simp only [Act.put, List.setIfInBounds_toArray, List.set_cons_zero, List.set_cons_succ])
                        refine' takeW 9 ?_ ?_ ?_ (by kernel_rfl) (by kernel_rfl) (by kernel_rfl) (fun _ _ _ h => h) hHeld ?_
                        rotate_left 2
                        · (simp only [List.getElem?_toArray, List.getElem?_cons_succ, List.getElem?_cons_zero]; rfl)
                        · rfl
                        · (intro w hSw; (try dsimp only at hSw); go_simp; first | done | with_reducible rfl)
                        (try simp only [Act.put, List.setIfInBounds_toArray, List.set_cons_zero, List.set_cons_succ])
                        refine wpAnyH_ready (rs := [10]) (by kernel_rfl) (by simp) ?_
                        refine' AllReadyH.cons ?_ (fun K hK => ?_) AllReadyH.nil
                        rotate_left 1
                        · (simp only [List.getElem?_toArray, List.getElem?_cons_succ, List.getElem?_cons_zero]; rfl)
                        (try go_simp)
                        go_at_call 23
                        refine (HSH.out _ (last7P hHeld)).mono ?_
                        rintro e wz ⟨rfl, hbz⟩
                        (try go_simp)
                        refine hK.out _ _ ?_ (fun hHeld => ?_)
                        · exact keep6P e0 e1 f0 f1 hd hd hbl hbl hbl hbl hbgl hbgl (below_keep' (last7P hHeld) hbz)
                        clear hK K
                        (try simp only [Act.put, List.setIfInBounds_toArray, List.set_cons_zero, List.set_cons_succ])
                        refine' takeW 11 ?_ ?_ ?_ (by kernel_rfl) (by kernel_rfl) (by kernel_rfl) (fun _ _ _ h => h) hHeld ?_
                        rotate_left 2
                        · (simp only [List.getElem?_toArray, List.getElem?_cons_succ, List.getElem?_cons_zero]; rfl)
                        · rfl
                        · (intro w hSw; (try dsimp only at hSw); go_simp; first | done | with_reducible rfl)
                        (try simp only [Act.put, List.setIfInBounds_toArray, List.set_cons_zero, List.set_cons_succ])
                        refine' takeN 12 ?_ ?_ (by kernel_rfl) (by kernel_rfl) (by kernel_rfl) (fun _ _ _ h => h) hHeld ?_
                        rotate_left 1
                        · (simp only [List.getElem?_toArray, List.getElem?_cons_succ, List.getElem?_cons_zero]; rfl)
                        · rfl
                        (try simp only [Act.put, List.setIfInBounds_toArray, List.set_cons_zero, List.set_cons_succ])
                        refine' takeN 13 ?_ ?_ (by kernel_rfl) (by kernel_rfl) (by kernel_rfl) (fun _ _ _ h => h) hHeld ?_
                        rotate_left 1
                        · (simp only [List.getElem?_toArray, List.getElem?_cons_succ, List.getElem?_cons_zero]; rfl)
                        · rfl
                        (try simp only [Act.put, List.setIfInBounds_toArray, List.set_cons_zero, List.set_cons_succ])
                        refine' takeN 14 ?_ ?_ (by kernel_rfl) (by kernel_rfl) (by kernel_rfl) (fun _ _ _ h => h) hHeld ?_
                        rotate_left 1
                        · (simp only [List.getElem?_toArray, List.getElem?_cons_succ, List.getElem?_cons_zero]; rfl)
                        · rfl
                        (try simp only [Act.put, List.setIfInBounds_toArray, List.set_cons_zero, List.set_cons_succ])
                        refine' takeN 15 ?_ ?_ (by kernel_rfl) (by kernel_rfl) (by kernel_rfl) (fun _ _ _ h => h) hHeld ?_
                        rotate_left 1
                        · (simp only [List.getElem?_toArray, List.getElem?_cons_succ, List.getElem?_cons_zero]; rfl)
                        · rfl
                        (try simp only [Act.put, List.setIfInBounds_toArray, List.set_cons_zero, List.set_cons_succ])
                        refine' takeN 16 ?_ ?_ (by kernel_rfl) (by kernel_rfl) (by kernel_rfl) (fun _ _ _ h => h) hHeld ?_
                        rotate_left 1
                        · (simp only [List.getElem?_toArray, List.getElem?_cons_succ, List.getElem?_cons_zero]; rfl)
                        · rfl
                        (try simp only [Act.put, List.setIfInBounds_toArray, List.set_cons_zero, List.set_cons_succ])
                        refine' takeN 17 ?_ ?_ (by kernel_rfl) (by kernel_rfl) (by kernel_rfl) (fun _ _ _ h => h) hHeld ?_
                        rotate_left 1
                        · (simp only [List.getElem?_toArray, List.getElem?_cons_succ, List.getElem?_cons_zero]; rfl)
                        · rfl
                        (try simp only [Act.put, List.setIfInBounds_toArray, List.set_cons_zero, List.set_cons_succ])
                        refine' takeN 18 ?_ ?_ (by kernel_rfl) (by kernel_rfl) (by kernel_rfl) (fun _ _ _ h => h) hHeld ?_
                        rotate_left 1
                        · (simp only [List.getElem?_toArray, List.getElem?_cons_succ, List.getElem?_cons_zero]; rfl)
                        · rfl
                        (try simp only [Act.put, List.setIfInBounds_toArray, List.set_cons_zero, List.set_cons_succ])
                        refine' takeN 19 ?_ ?_ (by kernel_rfl) (by kernel_rfl) (by kernel_rfl) (fun _ _ _ h => h) hHeld ?_
                        rotate_left 1
                        · (simp only [List.getElem?_toArray, List.getElem?_cons_succ, List.getElem?_cons_zero]; rfl)
                        · rfl
                        (try simp only [Act.put, List.setIfInBounds_toArray, List.set_cons_zero, List.set_cons_succ])
                        refine' takeN 20 ?_ ?_ (by kernel_rfl) (by kernel_rfl) (by kernel_rfl) (fun _ _ _ h => h) hHeld ?_
                        rotate_left 1
                        · (simp only [List.getElem?_toArray, List.getElem?_cons_succ, List.getElem?_cons_zero]; rfl)
                        · rfl
                        (try simp only [Act.put, List.setIfInBounds_toArray, List.set_cons_zero, List.set_cons_succ])
                        refine' takeN 21 ?_ ?_ (by kernel_rfl) (by kernel_rfl) (by kernel_rfl) (fun _ _ _ h => h) hHeld ?_
                        rotate_left 1
                        · (simp only [List.getElem?_toArray, List.getElem?_cons_succ, List.getElem?_cons_zero]; rfl)
                        · rfl
                        (try simp only [Act.put, List.setIfInBounds_toArray, List.set_cons_zero, List.set_cons_succ])
                        refine' takeN 22 ?_ ?_ (by kernel_rfl) (by kernel_rfl) (by kernel_rfl) (fun _ _ _ h => h) hHeld ?_
                        rotate_left 1
                        · (simp only [List.getElem?_toArray, List.getElem?_cons_succ, List.getElem?_cons_zero]; rfl)
                        · rfl
                        (try simp only [Act.put, List.setIfInBounds_toArray, List.set_cons_zero, List.set_cons_succ])
                        refine' takeN 23 ?_ ?_ (by kernel_rfl) (by kernel_rfl) (by kernel_rfl) (fun _ _ _ h => h) hHeld ?_
                        rotate_left 1
                        · (simp only [List.getElem?_toArray, List.getElem?_cons_succ, List.getElem?_cons_zero]; rfl)
                        · rfl
                        (try simp only [Act.put, List.setIfInBounds_toArray, List.set_cons_zero, List.set_cons_succ])
                        refine' takeW 24 ?_ ?_ ?_ (by kernel_rfl) (by kernel_rfl) (by kernel_rfl) (fun _ _ _ h => h) hHeld ?_
                        rotate_left 2
                        · (simp only [List.getElem?_toArray, List.getElem?_cons_succ, List.getElem?_cons_zero]; rfl)
                        · rfl
                        · (intro w hSw; (try dsimp only at hSw); go_simp; first | done | with_reducible rfl)
                        (try simp only [Act.put, List.setIfInBounds_toArray, List.set_cons_zero, List.set_cons_succ])
                        refine' takeW 25 ?_ ?_ ?_ (by kernel_rfl) (by kernel_rfl) (by kernel_rfl) (fun _ _ _ h => h) hHeld ?_
                        rotate_left 2
                        · (simp only [List.getElem?_toArray, List.getElem?_cons_succ, List.getElem?_cons_zero]; rfl)
                        · rfl
                        · (intro w hSw; (try dsimp only at hSw); go_simp; first | done | with_reducible rfl)
                        (try simp only [Act.put, List.setIfInBounds_toArray, List.set_cons_zero, List.set_cons_succ])
                        refine' takeN 26 ?_ ?_ (by kernel_rfl) (by kernel_rfl) (by kernel_rfl) (fun _ _ _ h => h) hHeld ?_
                        rotate_left 1
                        · (simp only [List.getElem?_toArray, List.getElem?_cons_succ, List.getElem?_cons_zero]; rfl)
                        · rfl
                        (try simp only [Act.put, List.setIfInBounds_toArray, List.set_cons_zero, List.set_cons_succ])
                        refine' takeN 27 ?_ ?_ (by kernel_rfl) (by kernel_rfl) (by kernel_rfl) (fun _ _ _ h => h) hHeld ?_
                        rotate_left 1
                        · (simp only [List.getElem?_toArray, List.getElem?_cons_succ, List.getElem?_cons_zero]; rfl)
                        · rfl
                        (try simp only [Act.put, List.setIfInBounds_toArray, List.set_cons_zero, List.set_cons_succ])
                        refine' takeN 28 ?_ ?_ (by kernel_rfl) (by kernel_rfl) (by kernel_rfl) (fun _ _ _ h => h) hHeld ?_
                        rotate_left 1
                        · (simp only [List.getElem?_toArray, List.getElem?_cons_succ, List.getElem?_cons_zero]; rfl)
                        · rfl
                        (try simp only [Act.put, List.setIfInBounds_toArray, List.set_cons_zero, List.set_cons_succ])
                        refine' takeN 29 ?_ ?_ (by kernel_rfl) (by kernel_rfl) (by kernel_rfl) (fun _ _ _ h => h) hHeld ?_
                        rotate_left 1
                        · (simp only [List.getElem?_toArray, List.getElem?_cons_succ, List.getElem?_cons_zero]; rfl)
                        · rfl
                        (try simp only [Act.put, List.setIfInBounds_toArray, List.set_cons_zero, List.set_cons_succ])
                        refine' takeN 30 ?_ ?_ (by kernel_rfl) (by kernel_rfl) (by kernel_rfl) (fun _ _ _ h => h) hHeld ?_
                        rotate_left 1
                        · (simp only [List.getElem?_toArray, List.getElem?_cons_succ, List.getElem?_cons_zero]; rfl)
                        · rfl
                        (try simp only [Act.put, List.setIfInBounds_toArray, List.set_cons_zero, List.set_cons_succ])
                        refine' takeN 31 ?_ ?_ (by kernel_rfl) (by kernel_rfl) (by kernel_rfl) (fun _ _ _ h => h) hHeld ?_
                        rotate_left 1
                        · (simp only [List.getElem?_toArray, List.getElem?_cons_succ, List.getElem?_cons_zero]; rfl)
                        · rfl
                        (try simp only [Act.put, List.setIfInBounds_toArray, List.set_cons_zero, List.set_cons_succ])
                        refine' takeN 32 ?_ ?_ (by kernel_rfl) (by kernel_rfl) (by kernel_rfl) (fun _ _ _ h => h) hHeld ?_
                        rotate_left 1
                        · (simp only [List.getElem?_toArray, List.getElem?_cons_succ, List.getElem?_cons_zero]; rfl)
                        · rfl
                        (try simp only [Act.put, List.setIfInBounds_toArray, List.set_cons_zero, List.set_cons_succ])
                        refine' takeN 33 ?_ ?_ (by kernel_rfl) (by kernel_rfl) (by kernel_rfl) (fun _ _ _ h => h) hHeld ?_
                        rotate_left 1
                        · (simp only [List.getElem?_toArray, List.getElem?_cons_succ, List.getElem?_cons_zero]; rfl)
                        · rfl
                        (try simp only [Act.put, List.setIfInBounds_toArray, List.set_cons_zero, List.set_cons_succ])
                        refine' takeN 34 ?_ ?_ (by kernel_rfl) (by kernel_rfl) (by kernel_rfl) (fun _ _ _ h => h) hHeld ?_
                        rotate_left 1
                        · (simp only [List.getElem?_toArray, List.getElem?_cons_succ, List.getElem?_cons_zero]; rfl)
                        · rfl
                        (try simp only [Act.put, List.setIfInBounds_toArray, List.set_cons_zero, List.set_cons_succ])
                        refine' takeN 35 ?_ ?_ (by kernel_rfl) (by kernel_rfl) (by kernel_rfl) (fun _ _ _ h => h) hHeld ?_
                        rotate_left 1
                        · (simp only [List.getElem?_toArray, List.getElem?_cons_succ, List.getElem?_cons_zero]; rfl)
                        · rfl
                        (try simp only [Act.put, List.setIfInBounds_toArray, List.set_cons_zero, List.set_cons_succ])
                        refine' takeN 36 ?_ ?_ (by kernel_rfl) (by kernel_rfl) (by kernel_rfl) (fun _ _ _ h => h) hHeld ?_
                        rotate_left 1
                        · (simp only [List.getElem?_toArray, List.getElem?_cons_succ, List.getElem?_cons_zero]; rfl)
                        · rfl
                        (try simp only [Act.put, List.setIfInBounds_toArray, List.set_cons_zero, List.set_cons_succ])
                        refine' takeN 37 ?_ ?_ (by kernel_rfl) (by kernel_rfl) (by kernel_rfl) (fun _ _ _ h => h) hHeld ?_
                        rotate_left 1
                        · (simp only [List.getElem?_toArray, List.getElem?_cons_succ, List.getElem?_cons_zero]; rfl)
                        · rfl
                        (try simp only [Act.put, List.setIfInBounds_toArray, List.set_cons_zero, List.set_cons_succ])
                        refine' takeW 38 ?_ ?_ ?_ (by kernel_rfl) (by kernel_rfl) (by kernel_rfl) (fun _ _ _ h => h) hHeld ?_
                        rotate_left 2
                        · (simp only [List.getElem?_toArray, List.getElem?_cons_succ, List.getElem?_cons_zero]; rfl)
                        · rfl
                        · (intro w hSw; (try dsimp only at hSw); go_simp; first | done | with_reducible rfl)
                        (try simp only [Act.put, List.setIfInBounds_toArray, List.set_cons_zero, List.set_cons_succ])
                        refine' takeW 39 ?_ ?_ ?_ (by kernel_rfl) (by kernel_rfl) (by kernel_rfl) (fun _ _ _ h => h) hHeld ?_
                        rotate_left 2
                        · (simp only [List.getElem?_toArray, List.getElem?_cons_succ, List.getElem?_cons_zero]; rfl)
                        · rfl
                        · (intro w hSw; (try dsimp only at hSw); go_simp; first | done | with_reducible rfl)
                        (try simp only [Act.put, List.setIfInBounds_toArray, List.set_cons_zero, List.set_cons_succ])
                        refine' takeW 40 ?_ ?_ ?_ (by kernel_rfl) (by kernel_rfl) (by kernel_rfl) (fun _ _ _ h => h) hHeld ?_
                        rotate_left 2
                        · (simp only [List.getElem?_toArray, List.getElem?_cons_succ, List.getElem?_cons_zero]; rfl)
                        · rfl
                        · (intro w hSw; (try dsimp only at hSw); go_simp; first | done | with_reducible rfl)
                        (try simp only [Act.put, List.setIfInBounds_toArray, List.set_cons_zero, List.set_cons_succ])
                        refine wpAnyH_done (by kernel_rfl) ?_ _
                        refine NoPanic.normal ?_
                        go_wp2_with fail
                        exact ⟨⟨ib + 1, false, by omega, by go_num, rfl, HNO.out, below_keep' hb (last7P hHeld)⟩, by simp [intOf]; omega⟩
                      rw [hsh] at HSH
                      clear hsh
                      cases h1 : decide (x.id ∈ z.take kc)
                      · rw [h1] at HH1
                        have HNO := Lib.hid (HJ.out.skip HX.out HY.out (by rintro ⟨_, h, _⟩; exact of_decide_eq_false h1 h))
                        clear h1 HH2
                        go_wp2_with fail
                        refine wp_region_noPanic ?_
                        refine wp_region_held_drew (S := fun U => U.cell? ⟨b, off + ia * 2, none⟩ = some (.int .i64 x.id) ∧ U.cell? ⟨b, off + ia * 2 + 1, none⟩ = some (.slice ax mx cx) ∧ U.cell? ⟨b, off + ib * 2, none⟩ = some (.int .i64 y.id) ∧ U.cell? ⟨b, off + ib * 2 + 1, none⟩ = some (.slice ay my cy) ∧ U.cell? ⟨bg, og + p, none⟩ = some (.slice (some ⟨bz, oz, none⟩) (ml + 1) cz) ∧ U.cell? ⟨bg, og + p, none⟩ = some (.slice (some ⟨bz, oz, none⟩) (ml + 1) cz) ∧ Below wr.heap.size wr U) (by kernel_rfl) (keep6P e0 e1 f0 f1 hd hd hbl hbl hbl hbl hbgl hbgl (Below.drew (Below.refl _ _))) (fun hHeld => ?_)
                        refine' takeW 0 ?_ ?_ ?_ (by kernel_rfl) (by kernel_rfl) (by kernel_rfl) (fun _ _ _ h => h) hHeld ?_
                        rotate_left 2
                        · (simp only [List.getElem?_toArray, List.getElem?_cons_succ, List.getElem?_cons_zero]; rfl)
                        · rfl
                        · (intro w hSw; (try dsimp only at hSw); go_simp; first | done | with_reducible rfl)
                        (try simp only [Act.put, List.setIfInBounds_toArray, List.set_cons_zero, List.set_cons_succ])
                        refine' takeW 1 ?_ ?_ ?_ (by kernel_rfl) (by kernel_rfl) (by kernel_rfl) (fun _ _ _ h => h) hHeld ?_
                        rotate_left 2
                        · (simp only [List.getElem?_toArray, List.getElem?_cons_succ, List.getElem?_cons_zero]; rfl)
                        · rfl
                        · (intro w hSw; (try dsimp only at hSw); go_simp; first | done | with_reducible rfl)
                        (try simp only [Act.put, List.setIfInBounds_toArray, List.set_cons_zero, List.set_cons_succ])
                        refine' takeW 2 ?_ ?_ ?_ (by kernel_rfl) (by kernel_rfl) (by kernel_rfl) (fun _ _ _ h => h) hHeld ?_
                        rotate_left 2
                        · (simp only [List.getElem?_toArray, List.getElem?_cons_succ, List.getElem?_cons_zero]; rfl)
                        · rfl
                        · (intro w hSw; (try dsimp only at hSw); go_simp; first | done | with_reducible rfl)
                        (try simp only [Act.put, List.setIfInBounds_toArray, List.set_cons_zero, List.set_cons_succ])
                        refine' takeW 3 ?_ ?_ ?_ (by kernel_rfl) (by kernel_rfl) (by kernel_rfl) (fun _ _ _ h => h) hHeld ?_
                        rotate_left 2
                        · (simp only [List.getElem?_toArray, List.getElem?_cons_succ, List.getElem?_cons_zero]; rfl)
                        · rfl
                        · (intro w hSw; (try dsimp only at hSw); go_simp; first | done | with_reducible rfl)
                        (try simp only [Act.put, List.setIfInBounds_toArray, List.set_cons_zero, List.set_cons_succ])
                        refine' takeW 4 ?_ ?_ ?_ (by kernel_rfl) (by kernel_rfl) (by kernel_rfl) (fun _ _ _ h => h) hHeld ?_
                        rotate_left 2
                        · (simp only [List.getElem?_toArray, List.getElem?_cons_succ, List.getElem?_cons_zero]; rfl)
                        · rfl
                        · (intro w hSw; (try dsimp only at hSw); go_simp; first | done | with_reducible rfl)
                        (try simp only [Act.put, List.setIfInBounds_toArray, List.set_cons_zero, List.set_cons_succ])
                        refine' takeW 5 ?_ ?_ ?_ (by kernel_rfl) (by kernel_rfl) (by kernel_rfl) (fun _ _ _ h => h) hHeld ?_
                        rotate_left 2
                        · (simp only [List.getElem?_toArray, List.getElem?_cons_succ, List.getElem?_cons_zero]; rfl)
                        · rfl
                        · (intro w hSw; (try dsimp only at hSw); go_simp; first | done | with_reducible rfl)
                        (try simp only [Act.put, List.setIfInBounds_toArray, List.set_cons_zero, List.set_cons_succ])
                        refine' takeW 6 ?_ ?_ ?_ (by kernel_rfl) (by kernel_rfl) (by kernel_rfl) (fun _ _ _ h => h) hHeld ?_
                        rotate_left 2
                        · (simp only [List.getElem?_toArray, List.getElem?_cons_succ, List.getElem?_cons_zero]; rfl)
                        · rfl
                        · (intro w hSw; (try dsimp only at hSw); go_simp; first | done | with_reducible rfl)
                        (try simp only [Act.put, List.setIfInBounds_toArray, List.set_cons_zero, List.set_cons_succ])
                        refine' takeW 7 ?_ ?_ ?_ (by kernel_rfl) (by kernel_rfl) (by kernel_rfl) (fun _ _ _ h => h) hHeld ?_
                        rotate_left 2
                        · (simp only [List.getElem?_toArray, List.getElem?_cons_succ, List.getElem?_cons_zero]; rfl)
                        · rfl
                        · (intro w hSw; (try dsimp only at hSw); go_simp; first | done | with_reducible rfl)
                        (try simp only [Act.put, List.setIfInBounds_toArray, List.set_cons_zero, List.set_cons_succ])
                        refine' takeW 8 ?_ ?_ ?_ (by kernel_rfl) (by kernel_rfl) (by kernel_rfl) (fun _ _ _ h => h) hHeld ?_
                        rotate_left 2
                        · (simp only [List.getElem?_toArray, List.getElem?_cons_succ, List.getElem?_cons_zero]; rfl)
                        · rfl
                        · (intro w hSw; (try dsimp only at hSw); go_simp; first | done | with_reducible rfl)
                        (try simp only [Act.put, List.setIfInBounds_toArray, List.set_cons_zero, List.set_cons_succ])
                        refine' takeW 9 ?_ ?_ ?_ (by kernel_rfl) (by kernel_rfl) (by kernel_rfl) (fun _ _ _ h => h) hHeld ?_
                        rotate_left 2
                        · (simp only [List.getElem?_toArray, List.getElem?_cons_succ, List.getElem?_cons_zero]; rfl)
                        · rfl
                        · (intro w hSw; (try dsimp only at hSw); go_simp; first | done | with_reducible rfl)
                        (try simp only [Act.put, List.setIfInBounds_toArray, List.set_cons_zero, List.set_cons_succ])
                        refine wpAnyH_ready (rs := [10]) (by kernel_rfl) (by simp) ?_
                        refine' AllReadyH.cons ?_ (fun K hK => ?_) AllReadyH.nil
                        rotate_left 1
                        · (simp only [List.getElem?_toArray, List.getElem?_cons_succ, List.getElem?_cons_zero]; rfl)
                        (try go_simp)
                        go_at_call 23
                        refine (HSH.out _ (last7P hHeld)).mono ?_
                        rintro e wz ⟨rfl, hbz⟩
                        (try go_simp)
                        refine hK.out _ _ ?_ (fun hHeld => ?_)
                        · exact keep6P e0 e1 f0 f1 hd hd hbl hbl hbl hbl hbgl hbgl (below_keep' (last7P hHeld) hbz)
                        clear hK K
                        (try simp only [Act.put, List.setIfInBounds_toArray, List.set_cons_zero, List.set_cons_succ])
                        refine' takeW 11 ?_ ?_ ?_ (by kernel_rfl) (by kernel_rfl) (by kernel_rfl) (fun _ _ _ h => h) hHeld ?_
                        rotate_left 2
                        · (simp only [List.getElem?_toArray, List.getElem?_cons_succ, List.getElem?_cons_zero]; rfl)
                        · rfl
                        · (intro w hSw; (try dsimp only at hSw); go_simp; first | done | with_reducible rfl)
                        (try simp only [Act.put, List.setIfInBounds_toArray, List.set_cons_zero, List.set_cons_succ])
                        refine' takeW 12 ?_ ?_ ?_ (by kernel_rfl) (by kernel_rfl) (by kernel_rfl) (fun _ _ _ h => h) hHeld ?_
                        rotate_left 2
                        · (simp only [List.getElem?_toArray, List.getElem?_cons_succ, List.getElem?_cons_zero]; rfl)
                        · rfl
                        · (intro w hSw; (try dsimp only at hSw); go_simp; first | done | with_reducible rfl)
                        (try simp only [Act.put, List.setIfInBounds_toArray, List.set_cons_zero, List.set_cons_succ])
                        refine' takeW 13 ?_ ?_ ?_ (by kernel_rfl) (by kernel_rfl) (by kernel_rfl) (fun _ _ _ h => h) hHeld ?_
                        rotate_left 2
                        · (simp only [List.getElem?_toArray, List.getElem?_cons_succ, List.getElem?_cons_zero]; rfl)
                        · rfl
                        · (intro w hSw; (try dsimp only at hSw); go_simp; first | done | with_reducible rfl)
                        (try simp only [Act.put, List.setIfInBounds_toArray, List.set_cons_zero, List.set_cons_succ])
                        refine' takeW 14 ?_ ?_ ?_ (by kernel_rfl) (by kernel_rfl) (by kernel_rfl) (fun _ _ _ h => h) hHeld ?_
                        rotate_left 2
                        · (simp only [List.getElem?_toArray, List.getElem?_cons_succ, List.getElem?_cons_zero]; rfl)
                        · rfl
                        · (intro w hSw; (try dsimp only at hSw); go_simp; first | done | with_reducible rfl)
                        (try simp only [Act.put, List.setIfInBounds_toArray, List.set_cons_zero, List.set_cons_succ])
                        refine' takeW 15 ?_ ?_ ?_ (by kernel_rfl) (by kernel_rfl) (by kernel_rfl) (fun _ _ _ h => h) hHeld ?_
                        rotate_left 2
                        · (simp only [List.getElem?_toArray, List.getElem?_cons_succ, List.getElem?_cons_zero]; rfl)
                        · rfl
                        · (intro w hSw; (try dsimp only at hSw); go_simp; first | done | with_reducible rfl)
                        (try simp only [Act.put, List.setIfInBounds_toArray, List.set_cons_zero, List.set_cons_succ])
                        refine' takeW 16 ?_ ?_ ?_ (by kernel_rfl) (by kernel_rfl) (by kernel_rfl) (fun _ _ _ h => h) hHeld ?_
                        rotate_left 2
                        · (simp only [List.getElem?_toArray, List.getElem?_cons_succ, List.getElem?_cons_zero]; rfl)
                        · rfl
                        · (intro w hSw; (try dsimp only at hSw); go_simp; first | done | with_reducible rfl)
                        (try simp only [Act.put, List.setIfInBounds_toArray, List.set_cons_zero, List.set_cons_succ])
                        refine' takeW 17 ?_ ?_ ?_ (by kernel_rfl) (by kernel_rfl) (by kernel_rfl) (fun _ _ _ h => h) hHeld ?_
                        rotate_left 2
                        · (simp only [List.getElem?_toArray, List.getElem?_cons_succ, List.getElem?_cons_zero]; rfl)
                        · rfl
                        · (intro w hSw; (try dsimp only at hSw); go_simp; first | done | with_reducible rfl)
                        (try simp only [Act.put, List.setIfInBounds_toArray, List.set_cons_zero, List.set_cons_succ])
                        refine' takeW 18 ?_ ?_ ?_ (by kernel_rfl) (by kernel_rfl) (by kernel_rfl) (fun _ _ _ h => h) hHeld ?_
                        rotate_left 2
                        · (simp only [List.getElem?_toArray, List.getElem?_cons_succ, List.getElem?_cons_zero]; rfl)
                        · rfl
                        · (intro w hSw; (try dsimp only at hSw); go_simp; first | done | with_reducible rfl)
                        (try simp only [Act.put, List.setIfInBounds_toArray, List.set_cons_zero, List.set_cons_succ])
                        refine' takeW 19 ?_ ?_ ?_ (by kernel_rfl) (by kernel_rfl) (by kernel_rfl) (fun _ _ _ h => h) hHeld ?_
                        rotate_left 2
                        · (simp only [List.getElem?_toArray, List.getElem?_cons_succ, List.getElem?_cons_zero]; rfl)
                        · rfl
                        · (intro w hSw; (try dsimp only at hSw); go_simp; first | done | with_reducible rfl)
                        (try simp only [Act.put, List.setIfInBounds_toArray, List.set_cons_zero, List.set_cons_succ])
                        refine' takeW 20 ?_ ?_ ?_ (by kernel_rfl) (by kernel_rfl) (by kernel_rfl) (fun _ _ _ h => h) hHeld ?_
                        rotate_left 2
                        · (simp only [List.getElem?_toArray, List.getElem?_cons_succ, List.getElem?_cons_zero]; rfl)
                        · rfl
                        · (intro w hSw; (try dsimp only at hSw); go_simp; first | done | with_reducible rfl)
                        (try simp only [Act.put, List.setIfInBounds_toArray, List.set_cons_zero, List.set_cons_succ])
                        refine' takeW 21 ?_ ?_ ?_ (by kernel_rfl) (by kernel_rfl) (by kernel_rfl) (fun _ _ _ h => h) hHeld ?_
                        rotate_left 2
                        · (simp only [List.getElem?_toArray, List.getElem?_cons_succ, List.getElem?_cons_zero]; rfl)
                        · rfl
                        · (intro w hSw; (try dsimp only at hSw); go_simp; first | done | with_reducible rfl)
                        (try simp only [Act.put, List.setIfInBounds_toArray, List.set_cons_zero, List.set_cons_succ])
                        refine' takeW 22 ?_ ?_ ?_ (by kernel_rfl) (by kernel_rfl) (by kernel_rfl) (fun _ _ _ h => h) hHeld ?_
                        rotate_left 2
                        · (simp only [List.getElem?_toArray, List.getElem?_cons_succ, List.getElem?_cons_zero]; rfl)
                        · rfl
                        · (intro w hSw; (try dsimp only at hSw); go_simp; first | done | with_reducible rfl)
                        (try simp only [Act.put, List.setIfInBounds_toArray, List.set_cons_zero, List.set_cons_succ])
                        refine wpAnyH_ready (rs := [23]) (by kernel_rfl) (by simp) ?_
                        refine' AllReadyH.cons ?_ (fun K hK => ?_) AllReadyH.nil
                        rotate_left 1
                        · (simp only [List.getElem?_toArray, List.getElem?_cons_succ, List.getElem?_cons_zero]; rfl)
                        (try go_simp)
                        go_at_call 24
                        refine (HH1.out _ (last7P hHeld)).mono ?_
                        rintro e wz ⟨rfl, hbz⟩
                        (try go_simp)
                        refine hK.out _ _ ?_ (fun hHeld => ?_)
                        · exact keep6P e0 e1 f0 f1 hd hd hbl hbl hbl hbl hbgl hbgl (below_keep' (last7P hHeld) hbz)
                        clear hK K
                        (try simp only [Act.put, List.setIfInBounds_toArray, List.set_cons_zero, List.set_cons_succ])
                        refine' takeW 24 ?_ ?_ ?_ (by kernel_rfl) (by kernel_rfl) (by kernel_rfl) (fun _ _ _ h => h) hHeld ?_
                        rotate_left 2
                        · (simp only [List.getElem?_toArray, List.getElem?_cons_succ, List.getElem?_cons_zero]; rfl)
                        · rfl
                        · (intro w hSw; (try dsimp only at hSw); go_simp; first | done | with_reducible rfl)
                        (try simp only [Act.put, List.setIfInBounds_toArray, List.set_cons_zero, List.set_cons_succ])
                        refine' takeW 25 ?_ ?_ ?_ (by kernel_rfl) (by kernel_rfl) (by kernel_rfl) (fun _ _ _ h => h) hHeld ?_
                        rotate_left 2
                        · (simp only [List.getElem?_toArray, List.getElem?_cons_succ, List.getElem?_cons_zero]; rfl)
                        · rfl
                        · (intro w hSw; (try dsimp only at hSw); go_simp; first | done | with_reducible rfl)
                        (try simp only [Act.put, List.setIfInBounds_toArray, List.set_cons_zero, List.set_cons_succ])
                        refine' takeN 26 ?_ ?_ (by kernel_rfl) (by kernel_rfl) (by kernel_rfl) (fun _ _ _ h => h) hHeld ?_
                        rotate_left 1
                        · (simp only [List.getElem?_toArray, List.getElem?_cons_succ, List.getElem?_cons_zero]; rfl)
                        · rfl
                        (try simp only [Act.put, List.setIfInBounds_toArray, List.set_cons_zero, List.set_cons_succ])
                        refine' takeN 27 ?_ ?_ (by kernel_rfl) (by kernel_rfl) (by kernel_rfl) (fun _ _ _ h => h) hHeld ?_
                        rotate_left 1
                        · (simp only [List.getElem?_toArray, List.getElem?_cons_succ, List.getElem?_cons_zero]; rfl)
                        · rfl
                        (try simp only [Act.put, List.setIfInBounds_toArray, List.set_cons_zero, List.set_cons_succ])
                        refine' takeN 28 ?_ ?_ (by kernel_rfl) (by kernel_rfl) (by kernel_rfl) (fun _ _ _ h => h) hHeld ?_
                        rotate_left 1
                        · (simp only [List.getElem?_toArray, List.getElem?_cons_succ, List.getElem?_cons_zero]; rfl)
                        · rfl
                        (try simp only [Act.put, List.setIfInBounds_toArray, List.set_cons_zero, List.set_cons_succ])
                        refine' takeN 29 ?_ ?_ (by kernel_rfl) (by kernel_rfl) (by kernel_rfl) (fun _ _ _ h => h) hHeld ?_
                        rotate_left 1
                        · (simp only [List.getElem?_toArray, List.getElem?_cons_succ, List.getElem?_cons_zero]; rfl)
                        · rfl
                        (try simp only [Act.put, List.setIfInBounds_toArray, List.set_cons_zero, List.set_cons_succ])
                        refine' takeN 30 ?_ ?_ (by kernel_rfl) (by kernel_rfl) (by kernel_rfl) (fun _ _ _ h => h) hHeld ?_
                        rotate_left 1
                        · (simp only [List.getElem?_toArray, List.getElem?_cons_succ, List.getElem?_cons_zero]; rfl)
                        · rfl
                        (try simp only [Act.put, List.setIfInBounds_toArray, List.set_cons_zero, List.set_cons_succ])
                        refine' takeN 31 ?_ ?_ (by kernel_rfl) (by kernel_rfl) (by kernel_rfl) (fun _ _ _ h => h) hHeld ?_
                        rotate_left 1
                        · (simp only [List.getElem?_toArray, List.getElem?_cons_succ, List.getElem?_cons_zero]; rfl)
                        · rfl
                        (try simp only [Act.put, List.setIfInBounds_toArray, List.set_cons_zero, List.set_cons_succ])
                        refine' takeN 32 ?_ ?_ (by kernel_rfl) (by kernel_rfl) (by kernel_rfl) (fun _ _ _ h => h) hHeld ?_
                        rotate_left 1
                        · (simp only [List.getElem?_toArray, List.getElem?_cons_succ, List.getElem?_cons_zero]; rfl)
                        · rfl
                        (try simp only [Act.put, List.setIfInBounds_toArray, List.set_cons_zero, List.set_cons_succ])
                        refine' takeN 33 ?_ ?_ (by kernel_rfl) (by kernel_rfl) (by kernel_rfl) (fun _ _ _ h => h) hHeld ?_
                        rotate_left 1
                        · (simp only [List.getElem?_toArray, List.getElem?_cons_succ, List.getElem?_cons_zero]; rfl)
                        · rfl
                        (try simp only [Act.put, List.setIfInBounds_toArray, List.set_cons_zero, List.set_cons_succ])
                        refine' takeN 34 ?_ ?_ (by kernel_rfl) (by kernel_rfl) (by kernel_rfl) (fun _ _ _ h => h) hHeld ?_
                        rotate_left 1
                        · (simp only [List.getElem?_toArray, List.getElem?_cons_succ, List.getElem?_cons_zero]; rfl)
                        · rfl
                        (try simp only [Act.put, List.setIfInBounds_toArray, List.set_cons_zero, List.set_cons_succ])
                        refine' takeN 35 ?_ ?_ (by kernel_rfl) (by kernel_rfl) (by kernel_rfl) (fun _ _ _ h => h) hHeld ?_
                        rotate_left 1
                        · (simp only [List.getElem?_toArray, List.getElem?_cons_succ, List.getElem?_cons_zero]; rfl)
                        · rfl
                        (try simp only [Act.put, List.setIfInBounds_toArray, List.set_cons_zero, List.set_cons_succ])
                        refine' takeN 36 ?_ ?_ (by kernel_rfl) (by kernel_rfl) (by kernel_rfl) (fun _ _ _ h => h) hHeld ?_
                        rotate_left 1
                        · (simp only [List.getElem?_toArray, List.getElem?_cons_succ, List.getElem?_cons_zero]; rfl)
                        · rfl
                        (try simp only [Act.put, List.setIfInBounds_toArray, List.set_cons_zero, List.set_cons_succ])
                        refine' takeN 37 ?_ ?_ (by kernel_rfl) (by kernel_rfl) (by kernel_rfl) (fun _ _ _ h => h) hHeld ?_
                        rotate_left 1
                        · (simp only [List.getElem?_toArray, List.getElem?_cons_succ, List.getElem?_cons_zero]; rfl)
                        · rfl
                        (try simp only [Act.put, List.setIfInBounds_toArray, List.set_cons_zero, List.set_cons_succ])
                        refine' takeW 38 ?_ ?_ ?_ (by kernel_rfl) (by kernel_rfl) (by kernel_rfl) (fun _ _ _ h => h) hHeld ?_
                        rotate_left 2
                        · (simp only [List.getElem?_toArray, List.getElem?_cons_succ, List.getElem?_cons_zero]; rfl)
                        · rfl
                        · (intro w hSw; (try dsimp only at hSw); go_simp; first | done | with_reducible rfl)
                        (try simp only [Act.put, List.setIfInBounds_toArray, List.set_cons_zero, List.set_cons_succ])
                        refine' takeW 39 ?_ ?_ ?_ (by kernel_rfl) (by kernel_rfl) (by kernel_rfl) (fun _ _ _ h => h) hHeld ?_
                        rotate_left 2
                        · (simp only [List.getElem?_toArray, List.getElem?_cons_succ, List.getElem?_cons_zero]; rfl)
                        · rfl
                        · (intro w hSw; (try dsimp only at hSw); go_simp; first | done | with_reducible rfl)
                        (try simp only [Act.put, List.setIfInBounds_toArray, List.set_cons_zero, List.set_cons_succ])
                        refine' takeW 40 ?_ ?_ ?_ (by kernel_rfl) (by kernel_rfl) (by kernel_rfl) (fun _ _ _ h => h) hHeld ?_
                        rotate_left 2
                        · (simp only [List.getElem?_toArray, List.getElem?_cons_succ, List.getElem?_cons_zero]; rfl)
                        · rfl
                        · (intro w hSw; (try dsimp only at hSw); go_simp; first | done | with_reducible rfl)
                        (try simp only [Act.put, List.setIfInBounds_toArray, List.set_cons_zero, List.set_cons_succ])
                        refine wpAnyH_done (by kernel_rfl) ?_ _
                        refine NoPanic.normal ?_
                        go_wp2_with fail
                        exact ⟨⟨ib + 1, false, by omega, by go_num, rfl, HNO.out, below_keep' hb (last7P hHeld)⟩, by simp [intOf]; omega⟩
                      rw [h1] at HH1
                      clear h1
                      cases h2 : decide (y.id ∈ z.drop kc)
                      · rw [h2] at HH2
                        have HNO := Lib.hid (HJ.out.skip HX.out HY.out (by rintro ⟨_, _, h⟩; exact of_decide_eq_false h2 h))
                        clear h2
                        go_wp2_with fail
                        refine wp_region_noPanic ?_
                        refine wp_region_held_drew (S := fun U => U.cell? ⟨b, off + ia * 2, none⟩ = some (.int .i64 x.id) ∧ U.cell? ⟨b, off + ia * 2 + 1, none⟩ = some (.slice ax mx cx) ∧ U.cell? ⟨b, off + ib * 2, none⟩ = some (.int .i64 y.id) ∧ U.cell? ⟨b, off + ib * 2 + 1, none⟩ = some (.slice ay my cy) ∧ U.cell? ⟨bg, og + p, none⟩ = some (.slice (some ⟨bz, oz, none⟩) (ml + 1) cz) ∧ U.cell? ⟨bg, og + p, none⟩ = some (.slice (some ⟨bz, oz, none⟩) (ml + 1) cz) ∧ Below wr.heap.size wr U) (by kernel_rfl) (keep6P e0 e1 f0 f1 hd hd hbl hbl hbl hbl hbgl hbgl (Below.drew (Below.refl _ _))) (fun hHeld => ?_)
                        refine' takeW 0 ?_ ?_ ?_ (by kernel_rfl) (by kernel_rfl) (by kernel_rfl) (fun _ _ _ h => h) hHeld ?_
                        rotate_left 2
                        · (simp only [List.getElem?_toArray, List.getElem?_cons_succ, List.getElem?_cons_zero]; rfl)
                        · rfl
                        · (intro w hSw; (try dsimp only at hSw); go_simp; first | done | with_reducible rfl)
                        (try simp only [Act.put, List.setIfInBounds_toArray, List.set_cons_zero, List.set_cons_succ])
                        refine' takeW 1 ?_ ?_ ?_ (by kernel_rfl) (by kernel_rfl) (by kernel_rfl) (fun _ _ _ h => h) hHeld ?_
                        rotate_left 2
                        · (simp only [List.getElem?_toArray, List.getElem?_cons_succ, List.getElem?_cons_zero]; rfl)
                        · rfl
                        · (intro w hSw; (try dsimp only at hSw); go_simp; first | done | with_reducible rfl)
                        (try simp only [Act.put, List.setIfInBounds_toArray, List.set_cons_zero, List.set_cons_succ])
                        refine' takeW 2 ?_ ?_ ?_ (by kernel_rfl) (by kernel_rfl) (by kernel_rfl) (fun _ _ _ h => h) hHeld ?_
                        rotate_left 2
                        · (simp only [List.getElem?_toArray, List.getElem?_cons_succ, List.getElem?_cons_zero]; rfl)
                        · rfl
                        · (intro w hSw; (try dsimp only at hSw); go_simp; first | done | with_reducible rfl)
                        (try simp only [Act.put, List.setIfInBounds_toArray, List.set_cons_zero, List.set_cons_succ])
                        refine' takeW 3 ?_ ?_ ?_ (by kernel_rfl) (by kernel_rfl) (by kernel_rfl) (fun _ _ _ h => h) hHeld ?_
                        rotate_left 2
                        · (simp only [List.getElem?_toArray, List.getElem?_cons_succ, List.getElem?_cons_zero]; rfl)
                        · rfl
                        · (intro w hSw; (try dsimp only at hSw); go_simp; first | done | with_reducible rfl)
                        (try simp only [Act.put, List.setIfInBounds_toArray, List.set_cons_zero, List.set_cons_succ])
                        refine' takeW 4 ?_ ?_ ?_ (by kernel_rfl) (by kernel_rfl) (by kernel_rfl) (fun _ _ _ h => h) hHeld ?_
                        rotate_left 2
                        · (simp only [List.getElem?_toArray, List.getElem?_cons_succ, List.getElem?_cons_zero]; rfl)
                        · rfl
                        · (intro w hSw; (try dsimp only at hSw); go_simp; first | done | with_reducible rfl)
                        (try simp only [Act.put, List.setIfInBounds_toArray, List.set_cons_zero, List.set_cons_succ])
                        refine' takeW 5 ?_ ?_ ?_ (by kernel_rfl) (by kernel_rfl) (by kernel_rfl) (fun _ _ _ h => h) hHeld ?_
                        rotate_left 2
                        · (simp only [List.getElem?_toArray, List.getElem?_cons_succ, List.getElem?_cons_zero]; rfl)
                        · rfl
                        · (intro w hSw; (try dsimp only at hSw); go_simp; first | done | with_reducible rfl)
                        (try simp only [Act.put, List.setIfInBounds_toArray, List.set_cons_zero, List.set_cons_succ])
                        refine' takeW 6 ?_ ?_ ?_ (by kernel_rfl) (by kernel_rfl) (by kernel_rfl) (fun _ _ _ h => h) hHeld ?_
                        rotate_left 2
                        · (simp only [List.getElem?_toArray, List.getElem?_cons_succ, List.getElem?_cons_zero]; rfl)
                        · rfl
                        · (intro w hSw; (try dsimp only at hSw); go_simp; first | done | with_reducible rfl)
                        (try simp only [Act.put, List.setIfInBounds_toArray, List.set_cons_zero, List.set_cons_succ])
                        refine' takeW 7 ?_ ?_ ?_ (by kernel_rfl) (by kernel_rfl) (by kernel_rfl) (fun _ _ _ h => h) hHeld ?_
                        rotate_left 2
                        · (simp only [List.getElem?_toArray, List.getElem?_cons_succ, List.getElem?_cons_zero]; rfl)
                        · rfl
                        · (intro w hSw; (try dsimp only at hSw); go_simp; first | done | with_reducible rfl)
                        (try simp only [Act.put, List.setIfInBounds_toArray, List.set_cons_zero, List.set_cons_succ])
                        refine' takeW 8 ?_ ?_ ?_ (by kernel_rfl) (by kernel_rfl) (by kernel_rfl) (fun _ _ _ h => h) hHeld ?_
                        rotate_left 2
                        · (simp only [List.getElem?_toArray, List.getElem?_cons_succ, List.getElem?_cons_zero]; rfl)
                        · rfl
                        · (intro w hSw; (try dsimp only at hSw); go_simp; first | done | with_reducible rfl)
                        (try simp only [Act.put, List.setIfInBounds_toArray, List.set_cons_zero, List.set_cons_succ])
                        refine' takeW 9 ?_ ?_ ?_ (by kernel_rfl) (by kernel_rfl) (by kernel_rfl) (fun _ _ _ h => h) hHeld ?_
                        rotate_left 2
                        · (simp only [List.getElem?_toArray, List.getElem?_cons_succ, List.getElem?_cons_zero]; rfl)
                        · rfl
                        · (intro w hSw; (try dsimp only at hSw); go_simp; first | done | with_reducible rfl)
                        (try simp only [Act.put, List.setIfInBounds_toArray, List.set_cons_zero, List.set_cons_succ])
                        refine wpAnyH_ready (rs := [10]) (by kernel_rfl) (by simp) ?_
                        refine' AllReadyH.cons ?_ (fun K hK => ?_) AllReadyH.nil
                        rotate_left 1
                        · (simp only [List.getElem?_toArray, List.getElem?_cons_succ, List.getElem?_cons_zero]; rfl)
                        (try go_simp)
                        go_at_call 23
                        refine (HSH.out _ (last7P hHeld)).mono ?_
                        rintro e wz ⟨rfl, hbz⟩
                        (try go_simp)
                        refine hK.out _ _ ?_ (fun hHeld => ?_)
                        · exact keep6P e0 e1 f0 f1 hd hd hbl hbl hbl hbl hbgl hbgl (below_keep' (last7P hHeld) hbz)
                        clear hK K
                        (try simp only [Act.put, List.setIfInBounds_toArray, List.set_cons_zero, List.set_cons_succ])
                        refine' takeW 11 ?_ ?_ ?_ (by kernel_rfl) (by kernel_rfl) (by kernel_rfl) (fun _ _ _ h => h) hHeld ?_
                        rotate_left 2
                        · (simp only [List.getElem?_toArray, List.getElem?_cons_succ, List.getElem?_cons_zero]; rfl)
                        · rfl
                        · (intro w hSw; (try dsimp only at hSw); go_simp; first | done | with_reducible rfl)
                        (try simp only [Act.put, List.setIfInBounds_toArray, List.set_cons_zero, List.set_cons_succ])
                        refine' takeW 12 ?_ ?_ ?_ (by kernel_rfl) (by kernel_rfl) (by kernel_rfl) (fun _ _ _ h => h) hHeld ?_
                        rotate_left 2
                        · (simp only [List.getElem?_toArray, List.getElem?_cons_succ, List.getElem?_cons_zero]; rfl)
                        · rfl
                        · (intro w hSw; (try dsimp only at hSw); go_simp; first | done | with_reducible rfl)
                        (try simp only [Act.put, List.setIfInBounds_toArray, List.set_cons_zero, List.set_cons_succ])
                        refine' takeW 13 ?_ ?_ ?_ (by kernel_rfl) (by kernel_rfl) (by kernel_rfl) (fun _ _ _ h => h) hHeld ?_
                        rotate_left 2
                        · (simp only [List.getElem?_toArray, List.getElem?_cons_succ, List.getElem?_cons_zero]; rfl)
                        · rfl
                        · (intro w hSw; (try dsimp only at hSw); go_simp; first | done | with_reducible rfl)
                        (try simp only [Act.put, List.setIfInBounds_toArray, List.set_cons_zero, List.set_cons_succ])
                        refine' takeW 14 ?_ ?_ ?_ (by kernel_rfl) (by kernel_rfl) (by kernel_rfl) (fun _ _ _ h => h) hHeld ?_
                        rotate_left 2
                        · (simp only [List.getElem?_toArray, List.getElem?_cons_succ, List.getElem?_cons_zero]; rfl)
                        · rfl
                        · (intro w hSw; (try dsimp only at hSw); go_simp; first | done | with_reducible rfl)
                        (try simp only [Act.put, List.setIfInBounds_toArray, List.set_cons_zero, List.set_cons_succ])
                        refine' takeW 15 ?_ ?_ ?_ (by kernel_rfl) (by kernel_rfl) (by kernel_rfl) (fun _ _ _ h => h) hHeld ?_
                        rotate_left 2
                        · (simp only [List.getElem?_toArray, List.getElem?_cons_succ, List.getElem?_cons_zero]; rfl)
                        · rfl
                        · (intro w hSw; (try dsimp only at hSw); go_simp; first | done | with_reducible rfl)
                        (try simp only [Act.put, List.setIfInBounds_toArray, List.set_cons_zero, List.set_cons_succ])
                        refine' takeW 16 ?_ ?_ ?_ (by kernel_rfl) (by kernel_rfl) (by kernel_rfl) (fun _ _ _ h => h) hHeld ?_
                        rotate_left 2
                        · (simp only [List.getElem?_toArray, List.getElem?_cons_succ, List.getElem?_cons_zero]; rfl)
                        · rfl
                        · (intro w hSw; (try dsimp only at hSw); go_simp; first | done | with_reducible rfl)
                        (try simp only [Act.put, List.setIfInBounds_toArray, List.set_cons_zero, List.set_cons_succ])
                        refine' takeW 17 ?_ ?_ ?_ (by kernel_rfl) (by kernel_rfl) (by kernel_rfl) (fun _ _ _ h => h) hHeld ?_
                        rotate_left 2
                        · (simp only [List.getElem?_toArray, List.getElem?_cons_succ, List.getElem?_cons_zero]; rfl)
                        · rfl
                        · (intro w hSw; (try dsimp only at hSw); go_simp; first | done | with_reducible rfl)
                        (try simp only [Act.put, List.setIfInBounds_toArray, List.set_cons_zero, List.set_cons_succ])
                        refine' takeW 18 ?_ ?_ ?_ (by kernel_rfl) (by kernel_rfl) (by kernel_rfl) (fun _ _ _ h => h) hHeld ?_
                        rotate_left 2
                        · (simp only [List.getElem?_toArray, List.getElem?_cons_succ, List.getElem?_cons_zero]; rfl)
                        · rfl
                        · (intro w hSw; (try dsimp only at hSw); go_simp; first | done | with_reducible rfl)
                        (try simp only [Act.put, List.setIfInBounds_toArray, List.set_cons_zero, List.set_cons_succ])
                        refine' takeW 19 ?_ ?_ ?_ (by kernel_rfl) (by kernel_rfl) (by kernel_rfl) (fun _ _ _ h => h) hHeld ?_
                        rotate_left 2
                        · (simp only [List.getElem?_toArray, List.getElem?_cons_succ, List.getElem?_cons_zero]; rfl)
                        · rfl
                        · (intro w hSw; (try dsimp only at hSw); go_simp; first | done | with_reducible rfl)
                        (try simp only [Act.put, List.setIfInBounds_toArray, List.set_cons_zero, List.set_cons_succ])
                        refine' takeW 20 ?_ ?_ ?_ (by kernel_rfl) (by kernel_rfl) (by kernel_rfl) (fun _ _ _ h => h) hHeld ?_
                        rotate_left 2
                        · (simp only [List.getElem?_toArray, List.getElem?_cons_succ, List.getElem?_cons_zero]; rfl)
                        · rfl
                        · (intro w hSw; (try dsimp only at hSw); go_simp; first | done | with_reducible rfl)
                        (try simp only [Act.put, List.setIfInBounds_toArray, List.set_cons_zero, List.set_cons_succ])
                        refine' takeW 21 ?_ ?_ ?_ (by kernel_rfl) (by kernel_rfl) (by kernel_rfl) (fun _ _ _ h => h) hHeld ?_
                        rotate_left 2
                        · (simp only [List.getElem?_toArray, List.getElem?_cons_succ, List.getElem?_cons_zero]; rfl)
                        · rfl
                        · (intro w hSw; (try dsimp only at hSw); go_simp; first | done | with_reducible rfl)
                        (try simp only [Act.put, List.setIfInBounds_toArray, List.set_cons_zero, List.set_cons_succ])
                        refine' takeW 22 ?_ ?_ ?_ (by kernel_rfl) (by kernel_rfl) (by kernel_rfl) (fun _ _ _ h => h) hHeld ?_
                        rotate_left 2
                        · (simp only [List.getElem?_toArray, List.getElem?_cons_succ, List.getElem?_cons_zero]; rfl)
                        · rfl
                        · (intro w hSw; (try dsimp only at hSw); go_simp; first | done | with_reducible rfl)
                        (try simp only [Act.put, List.setIfInBounds_toArray, List.set_cons_zero, List.set_cons_succ])
                        refine wpAnyH_ready (rs := [23]) (by kernel_rfl) (by simp) ?_
                        refine' AllReadyH.cons ?_ (fun K hK => ?_) AllReadyH.nil
                        rotate_left 1
                        · (simp only [List.getElem?_toArray, List.getElem?_cons_succ, List.getElem?_cons_zero]; rfl)
                        (try go_simp)
                        go_at_call 24
                        refine (HH1.out _ (last7P hHeld)).mono ?_
                        rintro e wz ⟨rfl, hbz⟩
                        (try go_simp)
                        refine hK.out _ _ ?_ (fun hHeld => ?_)
                        · exact keep6P e0 e1 f0 f1 hd hd hbl hbl hbl hbl hbgl hbgl (below_keep' (last7P hHeld) hbz)
                        clear hK K
                        (try simp only [Act.put, List.setIfInBounds_toArray, List.set_cons_zero, List.set_cons_succ])
                        refine' takeW 24 ?_ ?_ ?_ (by kernel_rfl) (by kernel_rfl) (by kernel_rfl) (fun _ _ _ h => h) hHeld ?_
                        rotate_left 2
                        · (simp only [List.getElem?_toArray, List.getElem?_cons_succ, List.getElem?_cons_zero]; rfl)
                        · rfl
                        · (intro w hSw; (try dsimp only at hSw); go_simp; first | done | with_reducible rfl)
                        (try simp only [Act.put, List.setIfInBounds_toArray, List.set_cons_zero, List.set_cons_succ])
                        refine' takeW 25 ?_ ?_ ?_ (by kernel_rfl) (by kernel_rfl) (by kernel_rfl) (fun _ _ _ h => h) hHeld ?_
                        rotate_left 2
                        · (simp only [List.getElem?_toArray, List.getElem?_cons_succ, List.getElem?_cons_zero]; rfl)
                        · rfl
                        · (intro w hSw; (try dsimp only at hSw); go_simp; first | done | with_reducible rfl)
                        (try simp only [Act.put, List.setIfInBounds_toArray, List.set_cons_zero, List.set_cons_succ])
                        refine' takeW 26 ?_ ?_ ?_ (by kernel_rfl) (by kernel_rfl) (by kernel_rfl) (fun _ _ _ h => h) hHeld ?_
                        rotate_left 2
                        · (simp only [List.getElem?_toArray, List.getElem?_cons_succ, List.getElem?_cons_zero]; rfl)
                        · rfl
                        · (intro w hSw; (try dsimp only at hSw); go_simp; first | done | with_reducible rfl)
                        (try simp only [Act.put, List.setIfInBounds_toArray, List.set_cons_zero, List.set_cons_succ])
                        refine' takeW 27 ?_ ?_ ?_ (by kernel_rfl) (by kernel_rfl) (by kernel_rfl) (fun _ _ _ h => h) hHeld ?_
                        rotate_left 2
                        · (simp only [List.getElem?_toArray, List.getElem?_cons_succ, List.getElem?_cons_zero]; rfl)
                        · rfl
                        · (intro w hSw; (try dsimp only at hSw); go_simp; first | done | with_reducible rfl)
                        (try simp only [Act.put, List.setIfInBounds_toArray, List.set_cons_zero, List.set_cons_succ])
                        refine' takeW 28 ?_ ?_ ?_ (by kernel_rfl) (by kernel_rfl) (by kernel_rfl) (fun _ _ _ h => h) hHeld ?_
                        rotate_left 2
                        · (simp only [List.getElem?_toArray, List.getElem?_cons_succ, List.getElem?_cons_zero]; rfl)
                        · rfl
                        · (intro w hSw; (try dsimp only at hSw); go_simp; first | done | with_reducible rfl)
                        (try simp only [Act.put, List.setIfInBounds_toArray, List.set_cons_zero, List.set_cons_succ])
                        refine' takeW 29 ?_ ?_ ?_ (by kernel_rfl) (by kernel_rfl) (by kernel_rfl) (fun _ _ _ h => h) hHeld ?_
                        rotate_left 2
                        · (simp only [List.getElem?_toArray, List.getElem?_cons_succ, List.getElem?_cons_zero]; rfl)
                        · rfl
                        · (intro w hSw; (try dsimp only at hSw); go_simp; first | done | with_reducible rfl)
                        (try simp only [Act.put, List.setIfInBounds_toArray, List.set_cons_zero, List.set_cons_succ])
                        refine' takeW 30 ?_ ?_ ?_ (by kernel_rfl) (by kernel_rfl) (by kernel_rfl) (fun _ _ _ h => h) hHeld ?_
                        rotate_left 2
                        · (simp only [List.getElem?_toArray, List.getElem?_cons_succ, List.getElem?_cons_zero]; rfl)
                        · rfl
                        · (intro w hSw; (try dsimp only at hSw); go_simp; first | done | with_reducible rfl)
                        (try simp only [Act.put, List.setIfInBounds_toArray, List.set_cons_zero, List.set_cons_succ])
                        refine' takeW 31 ?_ ?_ ?_ (by kernel_rfl) (by kernel_rfl) (by kernel_rfl) (fun _ _ _ h => h) hHeld ?_
                        rotate_left 2
                        · (simp only [List.getElem?_toArray, List.getElem?_cons_succ, List.getElem?_cons_zero]; rfl)
                        · rfl
                        · (intro w hSw; (try dsimp only at hSw); go_simp; first | done | with_reducible rfl)
                        (try simp only [Act.put, List.setIfInBounds_toArray, List.set_cons_zero, List.set_cons_succ])
                        refine' takeW 32 ?_ ?_ ?_ (by kernel_rfl) (by kernel_rfl) (by kernel_rfl) (fun _ _ _ h => h) hHeld ?_
                        rotate_left 2
                        · (simp only [List.getElem?_toArray, List.getElem?_cons_succ, List.getElem?_cons_zero]; rfl)
                        · rfl
                        · (intro w hSw; (try dsimp only at hSw); go_simp; first | done | with_reducible rfl)
                        (try simp only [Act.put, List.setIfInBounds_toArray, List.set_cons_zero, List.set_cons_succ])
                        refine' takeW 33 ?_ ?_ ?_ (by kernel_rfl) (by kernel_rfl) (by kernel_rfl) (fun _ _ _ h => h) hHeld ?_
                        rotate_left 2
                        · (simp only [List.getElem?_toArray, List.getElem?_cons_succ, List.getElem?_cons_zero]; rfl)
                        · rfl
                        · (intro w hSw; (try dsimp only at hSw); go_simp; first | done | with_reducible rfl)
                        (try simp only [Act.put, List.setIfInBounds_toArray, List.set_cons_zero, List.set_cons_succ])
                        refine' takeW 34 ?_ ?_ ?_ (by kernel_rfl) (by kernel_rfl) (by kernel_rfl) (fun _ _ _ h => h) hHeld ?_
                        rotate_left 2
                        · (simp only [List.getElem?_toArray, List.getElem?_cons_succ, List.getElem?_cons_zero]; rfl)
                        · rfl
                        · (intro w hSw; (try dsimp only at hSw); go_simp; first | done | with_reducible rfl)
                        (try simp only [Act.put, List.setIfInBounds_toArray, List.set_cons_zero, List.set_cons_succ])
                        refine' takeW 35 ?_ ?_ ?_ (by kernel_rfl) (by kernel_rfl) (by kernel_rfl) (fun _ _ _ h => h) hHeld ?_
                        rotate_left 2
                        · (simp only [List.getElem?_toArray, List.getElem?_cons_succ, List.getElem?_cons_zero]; rfl)
                        · rfl
                        · (intro w hSw; (try dsimp only at hSw); go_simp; first | done | with_reducible rfl)
                        (try simp only [Act.put, List.setIfInBounds_toArray, List.set_cons_zero, List.set_cons_succ])
                        refine' takeW 36 ?_ ?_ ?_ (by kernel_rfl) (by kernel_rfl) (by kernel_rfl) (fun _ _ _ h => h) hHeld ?_
                        rotate_left 2
                        · (simp only [List.getElem?_toArray, List.getElem?_cons_succ, List.getElem?_cons_zero]; rfl)
                        · rfl
                        · (intro w hSw; (try dsimp only at hSw); go_simp; first | done | with_reducible rfl)
                        (try simp only [Act.put, List.setIfInBounds_toArray, List.set_cons_zero, List.set_cons_succ])
                        refine wpAnyH_ready (rs := [37]) (by kernel_rfl) (by simp) ?_
                        refine' AllReadyH.cons ?_ (fun K hK => ?_) AllReadyH.nil
                        rotate_left 1
                        · (simp only [List.getElem?_toArray, List.getElem?_cons_succ, List.getElem?_cons_zero]; rfl)
                        (try go_simp)
                        go_at_call 24
                        refine (HH2.out _ (last7P hHeld)).mono ?_
                        rintro e wz ⟨rfl, hbz⟩
                        (try go_simp)
                        refine hK.out _ _ ?_ (fun hHeld => ?_)
                        · exact keep6P e0 e1 f0 f1 hd hd hbl hbl hbl hbl hbgl hbgl (below_keep' (last7P hHeld) hbz)
                        clear hK K
                        (try simp only [Act.put, List.setIfInBounds_toArray, List.set_cons_zero, List.set_cons_succ])
                        refine' takeW 38 ?_ ?_ ?_ (by kernel_rfl) (by kernel_rfl) (by kernel_rfl) (fun _ _ _ h => h) hHeld ?_
                        rotate_left 2
                        · (simp only [List.getElem?_toArray, List.getElem?_cons_succ, List.getElem?_cons_zero]; rfl)
                        · rfl
                        · (intro w hSw; (try dsimp only at hSw); go_simp; first | done | with_reducible rfl)
                        (try simp only [Act.put, List.setIfInBounds_toArray, List.set_cons_zero, List.set_cons_succ])
                        refine' takeW 39 ?_ ?_ ?_ (by kernel_rfl) (by kernel_rfl) (by kernel_rfl) (fun _ _ _ h => h) hHeld ?_
                        rotate_left 2
                        · (simp only [List.getElem?_toArray, List.getElem?_cons_succ, List.getElem?_cons_zero]; rfl)
                        · rfl
                        · (intro w hSw; (try dsimp only at hSw); go_simp; first | done | with_reducible rfl)
                        (try simp only [Act.put, List.setIfInBounds_toArray, List.set_cons_zero, List.set_cons_succ])
                        refine' takeW 40 ?_ ?_ ?_ (by kernel_rfl) (by kernel_rfl) (by kernel_rfl) (fun _ _ _ h => h) hHeld ?_
                        rotate_left 2
                        · (simp only [List.getElem?_toArray, List.getElem?_cons_succ, List.getElem?_cons_zero]; rfl)
                        · rfl
                        · (intro w hSw; (try dsimp only at hSw); go_simp; first | done | with_reducible rfl)
                        (try simp only [Act.put, List.setIfInBounds_toArray, List.set_cons_zero, List.set_cons_succ])
                        refine wpAnyH_done (by kernel_rfl) ?_ _
                        refine NoPanic.normal ?_
                        go_wp2_with fail
                        exact ⟨⟨ib + 1, false, by omega, by go_num, rfl, HNO.out, below_keep' hb (last7P hHeld)⟩, by simp [intOf]; omega⟩
                      · rw [h2] at HH2
                        clear h2
                        go_wp2_with fail
                        refine wp_region_noPanic ?_
                        refine wp_region_held_drew (S := fun U => U.cell? ⟨b, off + ia * 2, none⟩ = some (.int .i64 x.id) ∧ U.cell? ⟨b, off + ia * 2 + 1, none⟩ = some (.slice ax mx cx) ∧ U.cell? ⟨b, off + ib * 2, none⟩ = some (.int .i64 y.id) ∧ U.cell? ⟨b, off + ib * 2 + 1, none⟩ = some (.slice ay my cy) ∧ U.cell? ⟨bg, og + p, none⟩ = some (.slice (some ⟨bz, oz, none⟩) (ml + 1) cz) ∧ U.cell? ⟨bg, og + p, none⟩ = some (.slice (some ⟨bz, oz, none⟩) (ml + 1) cz) ∧ Below wr.heap.size wr U) (by kernel_rfl) (keep6P e0 e1 f0 f1 hd hd hbl hbl hbl hbl hbgl hbgl (Below.drew (Below.refl _ _))) (fun hHeld => ?_)
                        refine' takeW 0 ?_ ?_ ?_ (by kernel_rfl) (by kernel_rfl) (by kernel_rfl) (fun _ _ _ h => h) hHeld ?_
                        rotate_left 2
                        · (simp only [List.getElem?_toArray, List.getElem?_cons_succ, List.getElem?_cons_zero]; rfl)
                        · rfl
                        · (intro w hSw; (try dsimp only at hSw); go_simp; first | done | with_reducible rfl)
                        (try simp only [Act.put, List.setIfInBounds_toArray, List.set_cons_zero, List.set_cons_succ])
                        refine' takeW 1 ?_ ?_ ?_ (by kernel_rfl) (by kernel_rfl) (by kernel_rfl) (fun _ _ _ h => h) hHeld ?_
                        rotate_left 2
                        · (simp only [List.getElem?_toArray, List.getElem?_cons_succ, List.getElem?_cons_zero]; rfl)
                        · rfl
                        · (intro w hSw; (try dsimp only at hSw); go_simp; first | done | with_reducible rfl)
                        (try simp only [Act.put, List.setIfInBounds_toArray, List.set_cons_zero, List.set_cons_succ])
                        refine' takeW 2 ?_ ?_ ?_ (by kernel_rfl) (by kernel_rfl) (by kernel_rfl) (fun _ _ _ h => h) hHeld ?_
                        rotate_left 2
                        · (simp only [List.getElem?_toArray, List.getElem?_cons_succ, List.getElem?_cons_zero]; rfl)
                        · rfl
                        · (intro w hSw; (try dsimp only at hSw); go_simp; first | done | with_reducible rfl)
                        (try simp only [Act.put, List.setIfInBounds_toArray, List.set_cons_zero, List.set_cons_succ])
                        refine' takeW 3 ?_ ?_ ?_ (by kernel_rfl) (by kernel_rfl) (by kernel_rfl) (fun _ _ _ h => h) hHeld ?_
                        rotate_left 2
                        · (simp only [List.getElem?_toArray, List.getElem?_cons_succ, List.getElem?_cons_zero]; rfl)
                        · rfl
                        · (intro w hSw; (try dsimp only at hSw); go_simp; first | done | with_reducible rfl)
                        (try simp only [Act.put, List.setIfInBounds_toArray, List.set_cons_zero, List.set_cons_succ])
                        refine' takeW 4 ?_ ?_ ?_ (by kernel_rfl) (by kernel_rfl) (by kernel_rfl) (fun _ _ _ h => h) hHeld ?_
                        rotate_left 2
                        · (simp only [List.getElem?_toArray, List.getElem?_cons_succ, List.getElem?_cons_zero]; rfl)
                        · rfl
                        · (intro w hSw; (try dsimp only at hSw); go_simp; first | done | with_reducible rfl)
                        (try simp only [Act.put, List.setIfInBounds_toArray, List.set_cons_zero, List.set_cons_succ])
                        refine' takeW 5 ?_ ?_ ?_ (by kernel_rfl) (by kernel_rfl) (by kernel_rfl) (fun _ _ _ h => h) hHeld ?_
                        rotate_left 2
                        · (simp only [List.getElem?_toArray, List.getElem?_cons_succ, List.getElem?_cons_zero]; rfl)
                        · rfl
                        · (intro w hSw; (try dsimp only at hSw); go_simp; first | done | with_reducible rfl)
                        (try simp only [Act.put, List.setIfInBounds_toArray, List.set_cons_zero, List.set_cons_succ])
                        refine' takeW 6 ?_ ?_ ?_ (by kernel_rfl) (by kernel_rfl) (by kernel_rfl) (fun _ _ _ h => h) hHeld ?_
                        rotate_left 2
                        · (simp only [List.getElem?_toArray, List.getElem?_cons_succ, List.getElem?_cons_zero]; rfl)
                        · rfl
                        · (intro w hSw; (try dsimp only at hSw); go_simp; first | done | with_reducible rfl)
                        (try simp only [Act.put, List.setIfInBounds_toArray, List.set_cons_zero, List.set_cons_succ])
                        refine' takeW 7 ?_ ?_ ?_ (by kernel_rfl) (by kernel_rfl) (by kernel_rfl) (fun _ _ _ h => h) hHeld ?_
                        rotate_left 2
                        · (simp only [List.getElem?_toArray, List.getElem?_cons_succ, List.getElem?_cons_zero]; rfl)
                        · rfl
                        · (intro w hSw; (try dsimp only at hSw); go_simp; first | done | with_reducible rfl)
                        (try simp only [Act.put, List.setIfInBounds_toArray, List.set_cons_zero, List.set_cons_succ])
                        refine' takeW 8 ?_ ?_ ?_ (by kernel_rfl) (by kernel_rfl) (by kernel_rfl) (fun _ _ _ h => h) hHeld ?_
                        rotate_left 2
                        · (simp only [List.getElem?_toArray, List.getElem?_cons_succ, List.getElem?_cons_zero]; rfl)
                        · rfl
                        · (intro w hSw; (try dsimp only at hSw); go_simp; first | done | with_reducible rfl)
                        (try simp only [Act.put, List.setIfInBounds_toArray, List.set_cons_zero, List.set_cons_succ])
                        refine' takeW 9 ?_ ?_ ?_ (by kernel_rfl) (by kernel_rfl) (by kernel_rfl) (fun _ _ _ h => h) hHeld ?_
                        rotate_left 2
                        · (simp only [List.getElem?_toArray, List.getElem?_cons_succ, List.getElem?_cons_zero]; rfl)
                        · rfl
                        · (intro w hSw; (try dsimp only at hSw); go_simp; first | done | with_reducible rfl)
                        (try simp only [Act.put, List.setIfInBounds_toArray, List.set_cons_zero, List.set_cons_succ])
                        refine wpAnyH_ready (rs := [10]) (by kernel_rfl) (by simp) ?_
                        refine' AllReadyH.cons ?_ (fun K hK => ?_) AllReadyH.nil
                        rotate_left 1
                        · (simp only [List.getElem?_toArray, List.getElem?_cons_succ, List.getElem?_cons_zero]; rfl)
                        (try go_simp)
                        go_at_call 23
                        refine (HSH.out _ (last7P hHeld)).mono ?_
                        rintro e wz ⟨rfl, hbz⟩
                        (try go_simp)
                        refine hK.out _ _ ?_ (fun hHeld => ?_)
                        · exact keep6P e0 e1 f0 f1 hd hd hbl hbl hbl hbl hbgl hbgl (below_keep' (last7P hHeld) hbz)
                        clear hK K
                        (try simp only [Act.put, List.setIfInBounds_toArray, List.set_cons_zero, List.set_cons_succ])
                        refine' takeW 11 ?_ ?_ ?_ (by kernel_rfl) (by kernel_rfl) (by kernel_rfl) (fun _ _ _ h => h) hHeld ?_
                        rotate_left 2
                        · (simp only [List.getElem?_toArray, List.getElem?_cons_succ, List.getElem?_cons_zero]; rfl)
                        · rfl
                        · (intro w hSw; (try dsimp only at hSw); go_simp; first | done | with_reducible rfl)
                        (try simp only [Act.put, List.setIfInBounds_toArray, List.set_cons_zero, List.set_cons_succ])
                        refine' takeW 12 ?_ ?_ ?_ (by kernel_rfl) (by kernel_rfl) (by kernel_rfl) (fun _ _ _ h => h) hHeld ?_
                        rotate_left 2
                        · (simp only [List.getElem?_toArray, List.getElem?_cons_succ, List.getElem?_cons_zero]; rfl)
                        · rfl
                        · (intro w hSw; (try dsimp only at hSw); go_simp; first | done | with_reducible rfl)
                        (try simp only [Act.put, List.setIfInBounds_toArray, List.set_cons_zero, List.set_cons_succ])
                        refine' takeW 13 ?_ ?_ ?_ (by kernel_rfl) (by kernel_rfl) (by kernel_rfl) (fun _ _ _ h => h) hHeld ?_
                        rotate_left 2
                        · (simp only [List.getElem?_toArray, List.getElem?_cons_succ, List.getElem?_cons_zero]; rfl)
                        · rfl
                        · (intro w hSw; (try dsimp only at hSw); go_simp; first | done | with_reducible rfl)
                        (try simp only [Act.put, List.setIfInBounds_toArray, List.set_cons_zero, List.set_cons_succ])
                        refine' takeW 14 ?_ ?_ ?_ (by kernel_rfl) (by kernel_rfl) (by kernel_rfl) (fun _ _ _ h => h) hHeld ?_
                        rotate_left 2
                        · (simp only [List.getElem?_toArray, List.getElem?_cons_succ, List.getElem?_cons_zero]; rfl)
                        · rfl
                        · (intro w hSw; (try dsimp only at hSw); go_simp; first | done | with_reducible rfl)
                        (try simp only [Act.put, List.setIfInBounds_toArray, List.set_cons_zero, List.set_cons_succ])
                        refine' takeW 15 ?_ ?_ ?_ (by kernel_rfl) (by kernel_rfl) (by kernel_rfl) (fun _ _ _ h => h) hHeld ?_
                        rotate_left 2
                        · (simp only [List.getElem?_toArray, List.getElem?_cons_succ, List.getElem?_cons_zero]; rfl)
                        · rfl
                        · (intro w hSw; (try dsimp only at hSw); go_simp; first | done | with_reducible rfl)
                        (try simp only [Act.put, List.setIfInBounds_toArray, List.set_cons_zero, List.set_cons_succ])
                        refine' takeW 16 ?_ ?_ ?_ (by kernel_rfl) (by kernel_rfl) (by kernel_rfl) (fun _ _ _ h => h) hHeld ?_
                        rotate_left 2
                        · (simp only [List.getElem?_toArray, List.getElem?_cons_succ, List.getElem?_cons_zero]; rfl)
                        · rfl
                        · (intro w hSw; (try dsimp only at hSw); go_simp; first | done | with_reducible rfl)
                        (try simp only [Act.put, List.setIfInBounds_toArray, List.set_cons_zero, List.set_cons_succ])
                        refine' takeW 17 ?_ ?_ ?_ (by kernel_rfl) (by kernel_rfl) (by kernel_rfl) (fun _ _ _ h => h) hHeld ?_
                        rotate_left 2
                        · (simp only [List.getElem?_toArray, List.getElem?_cons_succ, List.getElem?_cons_zero]; rfl)
                        · rfl
                        · (intro w hSw; (try dsimp only at hSw); go_simp; first | done | with_reducible rfl)
                        (try simp only [Act.put, List.setIfInBounds_toArray, List.set_cons_zero, List.set_cons_succ])
                        refine' takeW 18 ?_ ?_ ?_ (by kernel_rfl) (by kernel_rfl) (by kernel_rfl) (fun _ _ _ h => h) hHeld ?_
                        rotate_left 2
                        · (simp only [List.getElem?_toArray, List.getElem?_cons_succ, List.getElem?_cons_zero]; rfl)
                        · rfl
                        · (intro w hSw; (try dsimp only at hSw); go_simp; first | done | with_reducible rfl)
                        (try simp only [Act.put, List.setIfInBounds_toArray, List.set_cons_zero, List.set_cons_succ])
                        refine' takeW 19 ?_ ?_ ?_ (by kernel_rfl) (by kernel_rfl) (by kernel_rfl) (fun _ _ _ h => h) hHeld ?_
                        rotate_left 2
                        · (simp only [List.getElem?_toArray, List.getElem?_cons_succ, List.getElem?_cons_zero]; rfl)
                        · rfl
                        · (intro w hSw; (try dsimp only at hSw); go_simp; first | done | with_reducible rfl)
                        (try simp only [Act.put, List.setIfInBounds_toArray, List.set_cons_zero, List.set_cons_succ])
                        refine' takeW 20 ?_ ?_ ?_ (by kernel_rfl) (by kernel_rfl) (by kernel_rfl) (fun _ _ _ h => h) hHeld ?_
                        rotate_left 2
                        · (simp only [List.getElem?_toArray, List.getElem?_cons_succ, List.getElem?_cons_zero]; rfl)
                        · rfl
                        · (intro w hSw; (try dsimp only at hSw); go_simp; first | done | with_reducible rfl)
                        (try simp only [Act.put, List.setIfInBounds_toArray, List.set_cons_zero, List.set_cons_succ])
                        refine' takeW 21 ?_ ?_ ?_ (by kernel_rfl) (by kernel_rfl) (by kernel_rfl) (fun _ _ _ h => h) hHeld ?_
                        rotate_left 2
                        · (simp only [List.getElem?_toArray, List.getElem?_cons_succ, List.getElem?_cons_zero]; rfl)
                        · rfl
                        · (intro w hSw; (try dsimp only at hSw); go_simp; first | done | with_reducible rfl)
                        (try simp only [Act.put, List.setIfInBounds_toArray, List.set_cons_zero, List.set_cons_succ])
                        refine' takeW 22 ?_ ?_ ?_ (by kernel_rfl) (by kernel_rfl) (by kernel_rfl) (fun _ _ _ h => h) hHeld ?_
                        rotate_left 2
                        · (simp only [List.getElem?_toArray, List.getElem?_cons_succ, List.getElem?_cons_zero]; rfl)
                        · rfl
                        · (intro w hSw; (try dsimp only at hSw); go_simp; first | done | with_reducible rfl)
                        (try simp only [Act.put, List.setIfInBounds_toArray, List.set_cons_zero, List.set_cons_succ])
                        refine wpAnyH_ready (rs := [23]) (by kernel_rfl) (by simp) ?_
                        refine' AllReadyH.cons ?_ (fun K hK => ?_) AllReadyH.nil
                        rotate_left 1
                        · (simp only [List.getElem?_toArray, List.getElem?_cons_succ, List.getElem?_cons_zero]; rfl)
                        (try go_simp)
                        go_at_call 24
                        refine (HH1.out _ (last7P hHeld)).mono ?_
                        rintro e wz ⟨rfl, hbz⟩
                        (try go_simp)
                        refine hK.out _ _ ?_ (fun hHeld => ?_)
                        · exact keep6P e0 e1 f0 f1 hd hd hbl hbl hbl hbl hbgl hbgl (below_keep' (last7P hHeld) hbz)
                        clear hK K
                        (try simp only [Act.put, List.setIfInBounds_toArray, List.set_cons_zero, List.set_cons_succ])
                        refine' takeW 24 ?_ ?_ ?_ (by kernel_rfl) (by kernel_rfl) (by kernel_rfl) (fun _ _ _ h => h) hHeld ?_
                        rotate_left 2
                        · (simp only [List.getElem?_toArray, List.getElem?_cons_succ, List.getElem?_cons_zero]; rfl)
                        · rfl
                        · (intro w hSw; (try dsimp only at hSw); go_simp; first | done | with_reducible rfl)
                        (try simp only [Act.put, List.setIfInBounds_toArray, List.set_cons_zero, List.set_cons_succ])
                        refine' takeW 25 ?_ ?_ ?_ (by kernel_rfl) (by kernel_rfl) (by kernel_rfl) (fun _ _ _ h => h) hHeld ?_
                        rotate_left 2
                        · (simp only [List.getElem?_toArray, List.getElem?_cons_succ, List.getElem?_cons_zero]; rfl)
                        · rfl
                        · (intro w hSw; (try dsimp only at hSw); go_simp; first | done | with_reducible rfl)
                        (try simp only [Act.put, List.setIfInBounds_toArray, List.set_cons_zero, List.set_cons_succ])
                        refine' takeW 26 ?_ ?_ ?_ (by kernel_rfl) (by kernel_rfl) (by kernel_rfl) (fun _ _ _ h => h) hHeld ?_
                        rotate_left 2
                        · (simp only [List.getElem?_toArray, List.getElem?_cons_succ, List.getElem?_cons_zero]; rfl)
                        · rfl
                        · (intro w hSw; (try dsimp only at hSw); go_simp; first | done | with_reducible rfl)
                        (try simp only [Act.put, List.setIfInBounds_toArray, List.set_cons_zero, List.set_cons_succ])
                        refine' takeW 27 ?_ ?_ ?_ (by kernel_rfl) (by kernel_rfl) (by kernel_rfl) (fun _ _ _ h => h) hHeld ?_
                        rotate_left 2
                        · (simp only [List.getElem?_toArray, List.getElem?_cons_succ, List.getElem?_cons_zero]; rfl)
                        · rfl
                        · (intro w hSw; (try dsimp only at hSw); go_simp; first | done | with_reducible rfl)
                        (try simp only [Act.put, List.setIfInBounds_toArray, List.set_cons_zero, List.set_cons_succ])
                        refine' takeW 28 ?_ ?_ ?_ (by kernel_rfl) (by kernel_rfl) (by kernel_rfl) (fun _ _ _ h => h) hHeld ?_
                        rotate_left 2
                        · (simp only [List.getElem?_toArray, List.getElem?_cons_succ, List.getElem?_cons_zero]; rfl)
                        · rfl
                        · (intro w hSw; (try dsimp only at hSw); go_simp; first | done | with_reducible rfl)
                        (try simp only [Act.put, List.setIfInBounds_toArray, List.set_cons_zero, List.set_cons_succ])
                        refine' takeW 29 ?_ ?_ ?_ (by kernel_rfl) (by kernel_rfl) (by kernel_rfl) (fun _ _ _ h => h) hHeld ?_
                        rotate_left 2
                        · (simp only [List.getElem?_toArray, List.getElem?_cons_succ, List.getElem?_cons_zero]; rfl)
                        · rfl
                        · (intro w hSw; (try dsimp only at hSw); go_simp; first | done | with_reducible rfl)
                        (try simp only [Act.put, List.setIfInBounds_toArray, List.set_cons_zero, List.set_cons_succ])
                        refine' takeW 30 ?_ ?_ ?_ (by kernel_rfl) (by kernel_rfl) (by kernel_rfl) (fun _ _ _ h => h) hHeld ?_
                        rotate_left 2
                        · (simp only [List.getElem?_toArray, List.getElem?_cons_succ, List.getElem?_cons_zero]; rfl)
                        · rfl
                        · (intro w hSw; (try dsimp only at hSw); go_simp; first | done | with_reducible rfl)
                        (try simp only [Act.put, List.setIfInBounds_toArray, List.set_cons_zero, List.set_cons_succ])
                        refine' takeW 31 ?_ ?_ ?_ (by kernel_rfl) (by kernel_rfl) (by kernel_rfl) (fun _ _ _ h => h) hHeld ?_
                        rotate_left 2
                        · (simp only [List.getElem?_toArray, List.getElem?_cons_succ, List.getElem?_cons_zero]; rfl)
                        · rfl
                        · (intro w hSw; (try dsimp only at hSw); go_simp; first | done | with_reducible rfl)
                        (try simp only [Act.put, List.setIfInBounds_toArray, List.set_cons_zero, List.set_cons_succ])
                        refine' takeW 32 ?_ ?_ ?_ (by kernel_rfl) (by kernel_rfl) (by kernel_rfl) (fun _ _ _ h => h) hHeld ?_
                        rotate_left 2
                        · (simp only [List.getElem?_toArray, List.getElem?_cons_succ, List.getElem?_cons_zero]; rfl)
                        · rfl
                        · (intro w hSw; (try dsimp only at hSw); go_simp; first | done | with_reducible rfl)
                        (try simp only [Act.put, List.setIfInBounds_toArray, List.set_cons_zero, List.set_cons_succ])
                        refine' takeW 33 ?_ ?_ ?_ (by kernel_rfl) (by kernel_rfl) (by kernel_rfl) (fun _ _ _ h => h) hHeld ?_
                        rotate_left 2
                        · (simp only [List.getElem?_toArray, List.getElem?_cons_succ, List.getElem?_cons_zero]; rfl)
                        · rfl
                        · (intro w hSw; (try dsimp only at hSw); go_simp; first | done | with_reducible rfl)
                        (try simp only [Act.put, List.setIfInBounds_toArray, List.set_cons_zero, List.set_cons_succ])
                        refine' takeW 34 ?_ ?_ ?_ (by kernel_rfl) (by kernel_rfl) (by kernel_rfl) (fun _ _ _ h => h) hHeld ?_
                        rotate_left 2
                        · (simp only [List.getElem?_toArray, List.getElem?_cons_succ, List.getElem?_cons_zero]; rfl)
                        · rfl
                        · (intro w hSw; (try dsimp only at hSw); go_simp; first | done | with_reducible rfl)
                        (try simp only [Act.put, List.setIfInBounds_toArray, List.set_cons_zero, List.set_cons_succ])
                        refine' takeW 35 ?_ ?_ ?_ (by kernel_rfl) (by kernel_rfl) (by kernel_rfl) (fun _ _ _ h => h) hHeld ?_
                        rotate_left 2
                        · (simp only [List.getElem?_toArray, List.getElem?_cons_succ, List.getElem?_cons_zero]; rfl)
                        · rfl
                        · (intro w hSw; (try dsimp only at hSw); go_simp; first | done | with_reducible rfl)
                        (try simp only [Act.put, List.setIfInBounds_toArray, List.set_cons_zero, List.set_cons_succ])
                        refine' takeW 36 ?_ ?_ ?_ (by kernel_rfl) (by kernel_rfl) (by kernel_rfl) (fun _ _ _ h => h) hHeld ?_
                        rotate_left 2
                        · (simp only [List.getElem?_toArray, List.getElem?_cons_succ, List.getElem?_cons_zero]; rfl)
                        · rfl
                        · (intro w hSw; (try dsimp only at hSw); go_simp; first | done | with_reducible rfl)
                        (try simp only [Act.put, List.setIfInBounds_toArray, List.set_cons_zero, List.set_cons_succ])
                        refine wpAnyH_ready (rs := [37]) (by kernel_rfl) (by simp) ?_
                        refine' AllReadyH.cons ?_ (fun K hK => ?_) AllReadyH.nil
                        rotate_left 1
                        · (simp only [List.getElem?_toArray, List.getElem?_cons_succ, List.getElem?_cons_zero]; rfl)
                        (try go_simp)
                        go_at_call 24
                        refine (HH2.out _ (last7P hHeld)).mono ?_
                        rintro e wz ⟨rfl, hbz⟩
                        (try go_simp)
                        refine hK.out _ _ ?_ (fun hHeld => ?_)
                        · exact keep6P e0 e1 f0 f1 hd hd hbl hbl hbl hbl hbgl hbgl (below_keep' (last7P hHeld) hbz)
                        clear hK K
                        (try simp only [Act.put, List.setIfInBounds_toArray, List.set_cons_zero, List.set_cons_succ])
                        refine' takeW 38 ?_ ?_ ?_ (by kernel_rfl) (by kernel_rfl) (by kernel_rfl) (fun _ _ _ h => h) hHeld ?_
                        rotate_left 2
                        · (simp only [List.getElem?_toArray, List.getElem?_cons_succ, List.getElem?_cons_zero]; rfl)
                        · rfl
                        · (intro w hSw; (try dsimp only at hSw); go_simp; first | done | with_reducible rfl)
                        (try simp only [Act.put, List.setIfInBounds_toArray, List.set_cons_zero, List.set_cons_succ])
                        refine' takeW 39 ?_ ?_ ?_ (by kernel_rfl) (by kernel_rfl) (by kernel_rfl) (fun _ _ _ h => h) hHeld ?_
                        rotate_left 2
                        · (simp only [List.getElem?_toArray, List.getElem?_cons_succ, List.getElem?_cons_zero]; rfl)
                        · rfl
                        · (intro w hSw; (try dsimp only at hSw); go_simp; first | done | with_reducible rfl)
                        (try simp only [Act.put, List.setIfInBounds_toArray, List.set_cons_zero, List.set_cons_succ])
                        refine' takeW 40 ?_ ?_ ?_ (by kernel_rfl) (by kernel_rfl) (by kernel_rfl) (fun _ _ _ h => h) hHeld ?_
                        rotate_left 2
                        · (simp only [List.getElem?_toArray, List.getElem?_cons_succ, List.getElem?_cons_zero]; rfl)
                        · rfl
                        · (intro w hSw; (try dsimp only at hSw); go_simp; first | done | with_reducible rfl)
                        (try simp only [Act.put, List.setIfInBounds_toArray, List.set_cons_zero, List.set_cons_succ])
                        refine wpAnyH_done (by kernel_rfl) ?_ _
                        refine NoPanic.normal ?_
                        go_wp2_with fail
                        exact ⟨⟨ib + 1, true, by omega, by go_num, rfl, JI.yes _ _ _ _ _, below_keep' hb (last7P hHeld)⟩, by simp [intOf]; omega⟩
                    · obtain rfl : ib = n := by omega
                      go_wp2_with fail
                      exact ⟨⟨ia + 1, jb, by omega, by go_num, rfl, HJ.out.next HLN.out, hb⟩, by simp [intOf]; omega⟩
                · obtain rfl : ia = n := by omega
                  have hjb : jb = true := by
                    obtain ⟨i', j', x, y, hx, hy, hs, h1, h2⟩ := HCUT.out z HZM.out kc hk1 (by rw [HZL.out]; exact hk2)
                    have hi9 := (List.getElem?_eq_some_iff.1 hx).1
                    rw [HLN.out] at hi9
                    exact HJ.out i' j' x y (.inl hi9) hx hy ((shareB_iff x y).2 hs) h1 h2
                  subst hjb
                  go_wp2_with fail
                  exact ⟨⟨p + 1, by omega, by go_num, hb⟩, by simp [intOf]; omega⟩
            · obtain rfl : p = i := by omega
              go_wp2_with fail
              go_ret
              exact ⟨by simp, below_keep' (below_keep' HB.out HBW7.out) hb⟩
end Go.Proofs.YtccmchmemafjdaaGreatDoor
