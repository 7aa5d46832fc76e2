/- Of: the numbers of the specimens struck by a die; the program's. -/
import Derived.Test.YtnaoagkelbjflaaGreatDoorSv
set_option linter.unusedSimpArgs false
set_option linter.unusedVariables false
namespace Go.Proofs.YtnaoagkelbjflaaGreatDoor
open Go.RowKit

theorem Tryz.infoI : (Tryz.prog.info? 3).map (fun i => (i.zero, i.size, i.bytes)) = some (some (.int .i64 0), 1, 8) := by kernel_rfl
/-- Numbers handed back with a code. -/
def NumsOut (w : World) (out : List Int) (code : Int) (e : Ending) (w' : World) : Prop :=
  (∃ A n c, e = .returned (.tuple #[.slice A n c, .int .i64 code]) ∧ Sl w' w.heap.size w'.heap.size 1 encI A n out) ∧ Below w.heap.size w w'
theorem ofE_chk {l : List Spm} {side num : Int} (h : chk l ≠ 0) : ofE l side num = chk l := by unfold ofE; rw [if_neg h]
theorem ofE_bad {l : List Spm} {side num : Int} (h : chk l = 0) (h2 : okDie side num = false) : ofE l side num = 1 := by unfold ofE; rw [if_pos h, if_neg (by rw [h2]; decide)]
theorem ofE_ok {l : List Spm} {side num : Int} (h : chk l = 0) (h2 : okDie side num = true) : ofE l side num = 0 := by unfold ofE; rw [if_pos h, if_pos h2]
theorem ofL_nil {l : List Spm} {side num : Int} (h : ofE l side num ≠ 0) : ofL l side num = [] := by unfold ofL; rw [if_neg h]
theorem ofL_ok {l : List Spm} {side num : Int} (h : ofE l side num = 0) : ofL l side num = ((sortS l).filter (struck side num)).map Spm.id := by unfold ofL; rw [if_pos h]
def ofT (side num : Int) (l : List Spm) (k : Nat) : List Int := ((l.take k).filter (struck side num)).map Spm.id
theorem ofT_yes {side num : Int} {l : List Spm} {k : Nat} {x : Spm} (h : l[k]? = some x) (hs : struck side num x = true) : ofT side num l (k + 1) = ofT side num l k ++ [x.id] := by
  unfold ofT; rw [take_snocS h, List.filter_append, List.map_append]; simp [hs]
theorem ofT_no {side num : Int} {l : List Spm} {k : Nat} {x : Spm} (h : l[k]? = some x) (hs : struck side num x = false) : ofT side num l (k + 1) = ofT side num l k := by
  unfold ofT; rw [take_snocS h, List.filter_append, List.map_append]; simp [hs]
theorem ofT_len (side num : Int) (l : List Spm) (k : Nat) : (ofT side num l k).length ≤ k := by
  unfold ofT; rw [List.length_map]; have := List.length_filter_le (struck side num) (l.take k); rw [List.length_take] at this; omega
theorem ofT_all {side num : Int} {l : List Spm} {k : Nat} (h : l.length ≤ k) : ofT side num l k = (l.filter (struck side num)).map Spm.id := by
  unfold ofT; rw [List.take_of_length_le h]
theorem in_b {n a b : Int} {r : Bool} (h : inR n a b = r) (w : World) : Calls Tryz.prog 40 #[.int .i64 n, .int .i64 a, .int .i64 b] w fun e w' => e = .returned (.bool r) ∧ w = w' := h ▸ in_any n a b w

set_option maxRecDepth 100000 in
set_option maxHeartbeats 4000000 in
theorem sof_any (A : Option Addr) (len cap : Nat) (xs : List Spm) (side num : Int) (w : World) (hlen : len ≤ 1000000) (hS : Sl w 0 w.heap.size 7 encS A len xs) :
    Calls Tryz.prog 21 #[.slice A len cap, .agg #[.int .i64 side, .int .i64 num]] w (NumsOut w (ofL xs side num) (ofE xs side num)) := by
  have HS := Lib.hid hS; clear hS
  go_enter Tryz.func21, Tryz.ntmps21
  go_wp2_with fail
  refine (scheck_any A len cap xs _ hlen (HS.out.alloc _)).mono ?_; rintro e w1 ⟨rfl, hb1⟩
  obtain ⟨hb, _, D⟩ := step1 (Below.refl _ w) hb1
  clear hb1
  have D0 := D.cell 0 _ rfl; have D1 := D.cell 1 _ rfl; have Dlt := D.lt
  by_cases ha : ¬ chk xs = 0
  · have hd : (chk xs != 0) = true := by simpa using ha
    have HE : Hid (ofE xs side num = chk xs) := ofE_chk ha
    have HL : Hid (ofL xs side num = []) := ofL_nil (by rw [HE.out]; exact ha)
    generalize chk xs = c at *
    clear ha
    go_wp2_with fail
    go_ret2
    exact ⟨⟨none, 0, 0, by rw [HE.out]; rfl, by rw [HL.out]; exact Sl.nil⟩, hb⟩
  replace ha := Classical.not_not.1 ha
  have hd : (chk xs != 0) = false := by simpa using ha
  have HA := Lib.hid ha
  rw [ha]
  clear ha hd
  by_cases hdie : ¬ okDie side num = true
  · have HE : Hid (ofE xs side num = 1) := ofE_bad HA.out (by simpa using hdie)
    have HL : Hid (ofL xs side num = []) := ofL_nil (by rw [HE.out]; decide)
    cases h1 : inR side 0 1
    · have hi1 := in_b (w := w1) h1
      clear hdie
      go_wp2_with (first | (go_at_call 40; refine (hi1).mono ?_; rintro e w' ⟨rfl, rfl⟩))
      go_ret2
      exact ⟨⟨none, 0, 0, by rw [HE.out]; rfl, by rw [HL.out]; exact Sl.nil⟩, hb⟩
    · have h2 : inR num 1 999 = false := by unfold okDie at hdie; rw [h1] at hdie; simpa using hdie
      clear hdie
      go_wp2_with (go_at_call 40; refine (in_any _ _ _ _).mono ?_; rintro e w' ⟨rfl, rfl⟩; (first | rw [h1] | rw [h2]))
      go_ret2
      exact ⟨⟨none, 0, 0, by rw [HE.out]; rfl, by rw [HL.out]; exact Sl.nil⟩, hb⟩
  replace hdie := Classical.not_not.1 hdie
  have HE : Hid (ofE xs side num = 0) := ofE_ok HA.out hdie
  have HL : Hid (ofL xs side num = ((sortS xs).filter (struck side num)).map Spm.id) := ofL_ok HE.out
  obtain ⟨h1, h2⟩ : inR side 0 1 = true ∧ inR num 1 999 = true := by unfold okDie at hdie; simpa using hdie
  have hsd : side = 0 ∨ side = 1 := by unfold inR at h1; simp at h1; omega
  have HN : Hid ((idsOf xs).Nodup) := ((chk_zero xs).1 HA.out).2.2
  clear hdie
  obtain ⟨i0, hi0, hz0, hz1, hz2⟩ := info_parts Tryz.infoI
  have HSD := Lib.hid hsd; clear hsd
  have HL2 : Hid (xs.length = len) := HS.out.len
  have hl64 : xs.length ≤ 64 := chk_len HA.out
  go_wp2_with (go_at_call 40; refine (in_any _ _ _ _).mono ?_; rintro e w' ⟨rfl, rfl⟩; (first | rw [h1] | rw [h2]))
  refine (sorted_any A len cap xs _ hlen HN.out (HS.out.up hb (Nat.le_refl _) (Nat.le_refl _))).mono ?_
  rintro e w2 ⟨A2, c2, rfl, hS2, hb2, _⟩
  (replace hb := hb.trans (hb2.mono hb.size)); replace D := D.up hb2; clear hb2; (try clear D0); (try clear D1); (try clear Dlt)
  have HSO := Lib.hid hS2; clear hS2
  have HSL : Hid ((sortS xs).length = len) := by show _ = _; rw [sortS_len, HL2.out]
  generalize sortS xs = zs at *
  clear h1 h2
  have hD2 : w.heap.size < w2.heap.size := D.lt
  go_wp2_with fail
  go_loopw [7, 28] (fun v i wr => ∃ k : Nat, k ≤ len ∧ i = .int .i64 (k : Int) ∧ wr.ownsRow w2.heap.size 3 1 v (ofT side num zs k).length ((ofT side num zs k).flatMap encI) ∧ Below w2.heap.size w2 wr) (fun _ i _ => len - (intOf i).toNat)
  case atStart => exact ⟨0, by omega, rfl, World.ownsRow_nil _ _ _ _, Below.refl _ _⟩
  case round =>
    obtain ⟨k, hk, rfl, hown, hbr⟩ := hrel
    have D' := D.up hbr
    have hzr := hbr.size
    have hkl := ofT_len side num zs k
    by_cases hlt : k < len
    · obtain ⟨b, off, x, rfl, hbb, hx, c0, c1, c2, c3, c4, c5, c6⟩ := (HSO.out.below hbr (Nat.le_refl _)).sp hlt
      have hbz : b < wr.heap.size := by omega
      have HY := Lib.hid (ofT_yes (side := side) (num := num) hx)
      have HNO := Lib.hid (ofT_no (side := side) (num := num) hx)
      clear hx
      generalize ofT side num zs k = js at *
      obtain ⟨A0, c0', rfl, _⟩ := own_form hown
      have D'0 := D'.cell 0 _ rfl; have D'1 := D'.cell 1 _ rfl; have D'lt := D'.lt
      rcases HSD.out with rfl | rfl
      · by_cases hs : x.obv = num
        · have HST : Hid (struck 0 num x = true) := by show _ = _; simp [struck, hs]
          have heq : (x.obv == num) = true := by simpa using hs
          clear hs HSD
          go_wp2_with (at_builtin; refine wpList_append_own _ rfl _ _ 36 rfl w2.heap.size 3 i0 (.int .i64 0) 1 8 Tryz.underlying36 hi0 hz0 hz1 hz2 rfl (by decide) _ _ _ rfl ((hown.alloc _).alloc _) ⟨wr.heap.size + 1, 0, none⟩ 1 1 (encI x.id) rfl rfl ?c1 (encI_one x.id) ?c3 ?c4 ?c5 ?_)
          case c1 => exact cell_list_at (by simp) _ _
          case c3 => unfold maxLen; omega
          case c4 => omega
          case c5 => simp; omega
          · intro v' w5 hown' hgrow _
            have hb6 : Below w2.heap.size w2 w5 := Below.grown (Below.alloc (Below.alloc hbr (by omega) _) (by simp; omega) _) hgrow (by simp; omega) (fun g hg => (hown.lt g hg).1)
            clear hgrow hown hbr D' D'0 D'1 D'lt
            go_wp2_with fail
            go_roundw
            case rel =>
              refine ⟨k + 1, by omega, by go_num, ?_, hb6⟩
              rw [HY.out HST.out, List.flatMap_append, List.length_append]
              simpa using hown'
            case measure => simp [intOf]; omega
        · have HST : Hid (struck 0 num x = false) := by show _ = _; simp [struck, hs]
          have heq : (x.obv == num) = false := by simpa using hs
          clear hs HSD
          go_wp2_with fail
          go_roundw
          case rel =>
            refine ⟨k + 1, by omega, by go_num, ?_, Below.alloc hbr (by omega) _⟩
            rw [HNO.out HST.out]
            exact hown.alloc _
          case measure => simp [intOf]; omega
      · by_cases hs : x.rev = num
        · have HST : Hid (struck 1 num x = true) := by show _ = _; simp [struck, hs]
          have heq : (x.rev == num) = true := by simpa using hs
          clear hs HSD
          go_wp2_with (at_builtin; refine wpList_append_own _ rfl _ _ 36 rfl w2.heap.size 3 i0 (.int .i64 0) 1 8 Tryz.underlying36 hi0 hz0 hz1 hz2 rfl (by decide) _ _ _ rfl ((hown.alloc _).alloc _) ⟨wr.heap.size + 1, 0, none⟩ 1 1 (encI x.id) rfl rfl ?c1 (encI_one x.id) ?c3 ?c4 ?c5 ?_)
          case c1 => exact cell_list_at (by simp) _ _
          case c3 => unfold maxLen; omega
          case c4 => omega
          case c5 => simp; omega
          · intro v' w5 hown' hgrow _
            have hb6 : Below w2.heap.size w2 w5 := Below.grown (Below.alloc (Below.alloc hbr (by omega) _) (by simp; omega) _) hgrow (by simp; omega) (fun g hg => (hown.lt g hg).1)
            clear hgrow hown hbr D' D'0 D'1 D'lt
            go_wp2_with fail
            go_roundw
            case rel =>
              refine ⟨k + 1, by omega, by go_num, ?_, hb6⟩
              rw [HY.out HST.out, List.flatMap_append, List.length_append]
              simpa using hown'
            case measure => simp [intOf]; omega
        · have HST : Hid (struck 1 num x = false) := by show _ = _; simp [struck, hs]
          have heq : (x.rev == num) = false := by simpa using hs
          clear hs HSD
          go_wp2_with fail
          go_roundw
          case rel =>
            refine ⟨k + 1, by omega, by go_num, ?_, Below.alloc hbr (by omega) _⟩
            rw [HNO.out HST.out]
            exact hown.alloc _
          case measure => simp [intOf]; omega
    · obtain rfl : k = len := by omega
      obtain ⟨A0, c0, rfl, _⟩ := own_form hown
      have HO : Hid (ofT side num zs k = ofL xs side num) := by
        show _ = _
        rw [HL.out]; exact ofT_all (by have := HSL.out; omega)
      have hSo := Sl.of_own (enc := encI) encI_len hown rfl
      clear hown
      go_wp2_with fail
      go_ret2
      exact ⟨⟨A0, _, c0, by rw [HE.out]; rfl, by rw [← HO.out]; exact hSo.less hb.size⟩, hb.trans (hbr.mono hb.size)⟩
end Go.Proofs.YtnaoagkelbjflaaGreatDoor
