/- Of: the reference's. -/
import Derived.Test.YtnaoagkelbjflaaGreatDoorUs
set_option linter.unusedSimpArgs false
set_option linter.unusedVariables false
namespace Go.Proofs.YtnaoagkelbjflaaGreatDoor
open Go.RowKit

theorem bdie_b {a b : Int} {r : Bool} (h : okDie a b = r) (w : World) : Calls Tryz.prog 54 #[.agg #[.int .i64 a, .int .i64 b]] w fun e w' => e = .returned (.bool r) ∧ Below w.heap.size w w' := h ▸ bdieb_any a b w
set_option maxRecDepth 100000 in
set_option maxHeartbeats 4000000 in
theorem rof_any (A : Option Addr) (len cap : Nat) (xs : List Spm) (side num : Int) (w : World) (hlen : len ≤ 1000000) (hS : Sl w 0 w.heap.size 7 encS A len xs) :
    Calls Tryz.prog 22 #[.slice A len cap, .agg #[.int .i64 side, .int .i64 num]] w (NumsOut w (ofL xs side num) (ofE xs side num)) := by
  have HS := Lib.hid hS; clear hS
  go_enter Tryz.func22, Tryz.ntmps22
  go_wp2_with fail
  refine (rsort_any A len cap xs _ hlen (HS.out.alloc _)).mono ?_
  rintro e w1 ⟨⟨S, ns, cs, rfl, hSs⟩, hb1⟩
  obtain ⟨hb, _, D⟩ := step1 (Below.refl _ w) hb1
  clear hb1
  replace hSs := hSs.any
  have D0 := D.cell 0 _ rfl; have D1 := D.cell 1 _ rfl; have Dlt := D.lt
  by_cases ha : ¬ chk xs = 0
  · have hd : (chk xs != 0) = true := by simpa using ha
    have HE : Hid (ofE xs side num = chk xs) := ofE_chk ha
    have HL : Hid (ofL xs side num = []) := ofL_nil (by rw [HE.out]; exact ha)
    generalize chk xs = c at *
    clear ha
    go_wp2_with fail
    go_ret2
    exact ⟨⟨none, 0, 0, by rw [HE.out]; rfl, by rw [HL.out]; exact Sl.nil⟩, hb⟩
  replace ha := Classical.not_not.1 ha
  have hd : (chk xs != 0) = false := by simpa using ha
  have HA := Lib.hid ha
  have hsl : srtL xs = sortS xs := by unfold srtL; rw [if_pos ha]
  rw [hsl] at hSs
  have hl64 : xs.length ≤ 64 := chk_len ha
  rw [ha]
  clear ha hd hsl
  have hns : ns ≤ 64 := by have := hSs.len; rw [sortS_len] at this; omega
  have HDIE := Lib.hid (bdie_b (w := w1) (a := side) (b := num) rfl)
  have HSB : Hid (∀ V, Below w1.heap.size w1 V → Sl V 0 V.heap.size 7 encS S ns (sortS xs)) := fun V hV => hSs.up hV (Nat.le_refl _) (Nat.le_refl _)
  clear hSs
  go_wp2_with fail
  refine HDIE.out.mono ?_; rintro e w2 ⟨rfl, hb2⟩
  cases hdie : okDie side num with
  | false =>
    have HE : Hid (ofE xs side num = 1) := ofE_bad HA.out hdie
    have HL : Hid (ofL xs side num = []) := ofL_nil (by rw [HE.out]; decide)
    (replace hb := hb.trans (hb2.mono hb.size)); clear hb2
    go_wp2_with fail
    go_ret2
    exact ⟨⟨none, 0, 0, by rw [HE.out]; rfl, by rw [HL.out]; exact Sl.nil⟩, hb⟩
  | true =>
  have HE : Hid (ofE xs side num = 0) := ofE_ok HA.out hdie
  have HL : Hid (ofL xs side num = ((sortS xs).filter (struck side num)).map Spm.id) := ofL_ok HE.out
  have hsd : side = 0 ∨ side = 1 := by
    have h1 : inR side 0 1 = true := by unfold okDie at hdie; simp only [Bool.and_eq_true] at hdie; exact hdie.1
    unfold inR at h1; simp at h1; omega
  have HSD := Lib.hid hsd; clear hsd
  have HSL : Hid ((sortS xs).length = ns) := (HSB.out w1 (Below.refl _ _)).len
  clear hdie HDIE
  have HSO : Hid (∀ V, Below w2.heap.size w2 V → Sl V 0 V.heap.size 7 encS S ns (sortS xs)) := fun V hV => HSB.out V (hb2.trans (hV.mono hb2.size))
  (replace hb := hb.trans (hb2.mono hb.size)); replace D := D.up hb2; clear hb2; (try clear D0); (try clear D1); (try clear Dlt)
  generalize sortS xs = zs at *
  obtain ⟨i0, hi0, hz0, hz1, hz2⟩ := info_parts Tryz.infoI
  have HB2 := Lib.hid hb; clear hb
  have hD2 : w.heap.size < w2.heap.size := D.lt
  go_wp2_with fail
  go_loopw [8, 9] (fun v i wr => ∃ k : Nat, k ≤ ns ∧ i = .int .i64 (k : Int) ∧ wr.ownsRow w2.heap.size 3 1 v (ofT side num zs k).length ((ofT side num zs k).flatMap encI) ∧ Below w2.heap.size w2 wr) (fun _ i _ => ns - (intOf i).toNat)
  case atStart => exact ⟨0, by omega, rfl, World.ownsRow_nil _ _ _ _, Below.refl _ _⟩
  case round =>
    obtain ⟨k, hk, rfl, hown, hbr⟩ := hrel
    have D' := D.up hbr
    have hzr := hbr.size
    have hkl := ofT_len side num zs k
    by_cases hlt : k < ns
    · obtain ⟨b, off, x, rfl, hbb, hx, c0, c1, c2, c3, c4, c5, c6⟩ := (HSO.out _ hbr).sp hlt
      have hltz : (k : Int) < (ns : Int) := by omega
      have HY := Lib.hid (ofT_yes (side := side) (num := num) hx)
      have HNO := Lib.hid (ofT_no (side := side) (num := num) hx)
      clear hx
      generalize ofT side num zs k = js at *
      obtain ⟨A0, c0', rfl, _⟩ := own_form hown
      have D'0 := D'.cell 0 _ rfl; have D'1 := D'.cell 1 _ rfl; have D'lt := D'.lt
      rcases HSD.out with rfl | rfl
      · by_cases hs : x.obv = num
        · have HST : Hid (struck 0 num x = true) := by show _ = _; simp [struck, hs]
          have heq : (x.obv == num) = true := by simpa using hs
          clear hs HSD
          go_wp2_with fail
          go_quiet (fail)
          go_wp2_with (at_builtin; refine wpList_append_own _ rfl _ _ 36 rfl w2.heap.size 3 i0 (.int .i64 0) 1 8 Tryz.underlying36 hi0 hz0 hz1 hz2 rfl (by decide) _ _ _ rfl ((ownsRow_drewN hown _).alloc _) ⟨wr.heap.size, 0, none⟩ 1 1 (encI x.id) rfl rfl ?c1 (encI_one x.id) ?c3 ?c4 ?c5 ?_)
          case c1 => exact cell_list_at (by simp) _ _
          case c3 => unfold maxLen; omega
          case c4 => omega
          case c5 => simp; omega
          · intro v' w5 hown' hgrow _
            have hb6 : Below w2.heap.size w2 w5 := Below.grown (Below.alloc (below_drewN hbr _) (by simp; omega) _) hgrow (by simp; omega) (fun g hg => (hown.lt g hg).1)
            clear hgrow hown hbr D' D'0 D'1 D'lt
            go_wp2_with fail
            go_roundw
            case rel =>
              refine ⟨k + 1, by omega, by go_num, ?_, hb6⟩
              rw [HY.out HST.out, List.flatMap_append, List.length_append]
              simpa using hown'
            case measure => simp [intOf]; omega
        · have HST : Hid (struck 0 num x = false) := by show _ = _; simp [struck, hs]
          have heq : (x.obv == num) = false := by simpa using hs
          clear hs HSD
          go_wp2_with fail
          go_quiet (fail)
          go_wp2_with fail
          go_roundw
          case rel =>
            refine ⟨k + 1, by omega, by go_num, ?_, below_drewN hbr _⟩
            rw [HNO.out HST.out]
            exact ownsRow_drewN hown _
          case measure => simp [intOf]; omega
      · by_cases hs : x.rev = num
        · have HST : Hid (struck 1 num x = true) := by show _ = _; simp [struck, hs]
          have heq : (x.rev == num) = true := by simpa using hs
          clear hs HSD
          go_wp2_with fail
          go_quiet (fail)
          go_wp2_with (at_builtin; refine wpList_append_own _ rfl _ _ 36 rfl w2.heap.size 3 i0 (.int .i64 0) 1 8 Tryz.underlying36 hi0 hz0 hz1 hz2 rfl (by decide) _ _ _ rfl ((ownsRow_drewN hown _).alloc _) ⟨wr.heap.size, 0, none⟩ 1 1 (encI x.id) rfl rfl ?c1 (encI_one x.id) ?c3 ?c4 ?c5 ?_)
          case c1 => exact cell_list_at (by simp) _ _
          case c3 => unfold maxLen; omega
          case c4 => omega
          case c5 => simp; omega
          · intro v' w5 hown' hgrow _
            have hb6 : Below w2.heap.size w2 w5 := Below.grown (Below.alloc (below_drewN hbr _) (by simp; omega) _) hgrow (by simp; omega) (fun g hg => (hown.lt g hg).1)
            clear hgrow hown hbr D' D'0 D'1 D'lt
            go_wp2_with fail
            go_roundw
            case rel =>
              refine ⟨k + 1, by omega, by go_num, ?_, hb6⟩
              rw [HY.out HST.out, List.flatMap_append, List.length_append]
              simpa using hown'
            case measure => simp [intOf]; omega
        · have HST : Hid (struck 1 num x = false) := by show _ = _; simp [struck, hs]
          have heq : (x.rev == num) = false := by simpa using hs
          clear hs HSD
          go_wp2_with fail
          go_quiet (fail)
          go_wp2_with fail
          go_roundw
          case rel =>
            refine ⟨k + 1, by omega, by go_num, ?_, below_drewN hbr _⟩
            rw [HNO.out HST.out]
            exact ownsRow_drewN hown _
          case measure => simp [intOf]; omega
    · obtain rfl : k = ns := by omega
      obtain ⟨A0, c0, rfl, _⟩ := own_form hown
      have HO : Hid (ofT side num zs k = ofL xs side num) := by
        show _ = _
        rw [HL.out]; exact ofT_all (by have := HSL.out; omega)
      have hSo := Sl.of_own (enc := encI) encI_len hown rfl
      clear hown
      go_wp2_with fail
      go_ret2
      exact ⟨⟨A0, _, c0, by rw [HE.out]; rfl, by rw [← HO.out]; exact hSo.less HB2.out.size⟩, HB2.out.trans (hbr.mono HB2.out.size)⟩
end Go.Proofs.YtnaoagkelbjflaaGreatDoor
