/- Chapter 46: the reference's Groups and Pedigree. -/
import Derived.Test.YtccmchmemafjdaaGreatDoorPq
import Derived.Test.YtccmchmemafjdaaGreatDoorPr
set_option linter.unusedSimpArgs false
set_option linter.unusedVariables false
namespace Go.Proofs.YtccmchmemafjdaaGreatDoor
open Go.RowKit

theorem joinE_nil (ls : List Lst) : joinE ls [] = chkL ls := by
  unfold joinE
  by_cases h : chkL ls = 0
  · rw [if_pos h, h]; rfl
  · rw [if_neg h]
set_option maxHeartbeats 1000000 in
theorem rgroups_any (A : Option Addr) (n c : Nat) (ls : List Lst) (w : World) (hn : n ≤ 1000000) (hS : LsS w A n ls) :
    Calls Tryz.prog 20 #[.slice A n c] w fun e w' => GroupsOut ls [] (chkL ls) e w' ∧ Below w.heap.size w w' := by
  have HJ := Lib.hid (rjoined_any A n c ls none 0 0 [] w hn (by omega) hS Sl.nil)
  rw [joinE_nil] at HJ
  clear hS
  go_enter Tryz.func20, Tryz.ntmps20
  go_wp2_with fail
  go_fit HJ.out
  rintro e w1 ⟨⟨A2, n2, c2, rfl, hn2, hL, hz⟩, hb⟩
  go_wp2_with fail
  refine bodyPost_ret (v := .tuple #[.slice A2 n2 c2, .int .i64 (chkL ls)]) (by simp [results, Tryz.results20, go_sem]) rfl ?_
  exact ⟨⟨A2, n2, c2, rfl, hn2, hL, hz⟩, hb⟩
set_option maxHeartbeats 1000000 in
theorem bhas_any (A : Option Addr) (n c : Nat) (zs : List Int) (x : Int) (w : World) (hn : n ≤ 1000000) (hS : Sl w 0 w.heap.size 1 encI A n zs) :
    Calls Tryz.prog 24 #[.slice A n c, .int .i64 x] w fun e w' => e = .returned (.bool (zs.contains x)) ∧ Below w.heap.size w w' := by
  have h := has_any A n c zs x w hn hS
  have e : decide (x ∈ zs) = zs.contains x := by
    rw [Bool.eq_iff_iff, decide_eq_true_iff, List.contains_iff_mem]
  rw [e] at h
  exact h.mono fun r w' hr => ⟨hr.1, by rw [← hr.2]; exact Below.refl _ _⟩
set_option maxRecDepth 100000 in
set_option maxHeartbeats 2000000 in
theorem rpedigree_any (A : Option Addr) (n c : Nat) (ls : List Lst) (id : Int) (w : World) (hn : n ≤ 1000000) (hS : LsS w A n ls) :
    Calls Tryz.prog 28 #[.slice A n c, .int .i64 id] w fun e w' => SalesOut (pedS ls id) (pedE ls id) e w' ∧ Below w.heap.size w w' := by
  have HC := Lib.hid (rgroups_any A n c ls w hn hS)
  have HS := Lib.hid hS; clear hS
  go_enter Tryz.func28, Tryz.ntmps28
  go_wp2_with fail
  go_fit HC.out
  rintro e w2 ⟨⟨A2, n2, c2, rfl, hn2, hL2, _⟩, hb3⟩
  by_cases h0 : chkL ls = 0
  · obtain ⟨h64, hv, hnd⟩ := chkL_zero h0
    have HV := Lib.hid hv
    have HND := Lib.hid hnd
    have H64 := Lib.hid h64
    have hb0 : (chkL ls != 0) = false := by simp [h0]
    have HZ := Lib.hid h0
    rw [h0] at hb0 hL2 ⊢
    rw [if_pos rfl] at hL2
    have HL2 := Lib.hid (show LoS w2 A2 n2 (grpsL ls) from hL2)
    clear h0 h64 hv hnd HC hL2
    go_wp2_with fail
    go_loopw [8] (fun i wr => ∃ k : Nat, k ≤ n2 ∧ i = .int .i64 (k : Int) ∧ (∀ z ∈ (grpsL ls).take k, z.contains id = false) ∧ Below w2.heap.size w2 wr) (fun i _ => n2 - (intOf i).toNat)
    case atStart => exact ⟨0, by omega, rfl, by simp, Below.refl _ _⟩
    case round =>
      obtain ⟨k, hk, rfl, hno, hb⟩ := hrel
      have HNO := Lib.hid hno; clear hno
      have hbw := below_keep' hb3 hb
      by_cases hlt : k < n2
      · obtain ⟨b, off, z, a, m, cz, rfl, hbb, hz, c0, hm, hSz⟩ := (HL2.out.up hb).at_ hlt
        have HCO := Lib.hid (bhas_any a m cz z id wr hm.1 hSz)
        have HZZ := Lib.hid hz
        have HZM := Lib.hid (List.mem_of_getElem? hz)
        have HSz := Lib.hid hSz
        have HZL := Lib.hid (Sl.len hSz)
        clear hz hSz
        cases hcz : z.contains id
        · rw [hcz] at HCO
          have HCZ := Lib.hid hcz; clear hcz
          go_wp2_with fail
          go_fit HCO.out
          rintro e w4 ⟨rfl, hb4⟩
          go_wp2_with fail
          exact ⟨⟨k + 1, by omega, by go_num, all_take (p := fun z => z.contains id = false) HZZ.out HNO.out HCZ.out, below_keep' hb hb4⟩, by simp [intOf]; omega⟩
        · have HE : Hid (pedE ls id = 0) := by
            show _ = _
            unfold pedE
            rw [if_pos HZ.out, if_pos (any_hit HZZ.out hcz)]
          have HP : Hid (pedS ls id = salesOf ls z) := by
            show _ = _
            unfold pedS
            rw [if_pos HZ.out, find_hit HZZ.out HNO.out hcz]
          rw [hcz] at HCO
          clear hcz
          go_wp2_with fail
          go_fit HCO.out
          rintro e w4 ⟨rfl, hb4⟩
          have c0' := (hb4.cell (p := ⟨b, off + k, none⟩) hbb).trans c0
          have HPS := Lib.hid (rsales_any A n c ls a m cz z w4 (by rw [← HS.out.len]; exact H64.out) (by rw [← HZL.out]; exact Nat.le_trans (grpsL_len HZM.out) H64.out) (HS.out.up (below_keep' hbw hb4)) (Sl.up HSz.out hb4 (Nat.le_refl _) (Nat.le_refl _)) HV.out HND.out (grpsL_in HZM.out))
          clear c0
          go_wp2_with fail
          go_fit HPS.out
          rintro e w5 ⟨A3, n3, c3, rfl, hn3, hS3, hb5⟩
          go_wp2_with fail
          refine bodyPost_ret (v := .tuple #[.slice A3 n3 c3, .int .i64 0]) (by simp [results, Tryz.results28, go_sem]) rfl ?_
          exact ⟨by rw [HE.out, HP.out]; exact ⟨A3, n3, c3, rfl, hn3, hS3.any, fun h => absurd rfl h⟩, below_keep' (below_keep' hbw hb4) hb5⟩
      · obtain rfl : k = n2 := by omega
        have hno := HNO.out
        rw [take_all HL2.out.len] at hno
        have HE : Hid (pedE ls id = 7) := by
          show _ = _
          unfold pedE
          rw [if_pos HZ.out, if_neg (by rw [any_miss hno]; decide)]
        have HP : Hid (pedS ls id = []) := by
          show _ = _
          unfold pedS
          rw [if_pos HZ.out, find_miss hno]
        clear hno
        go_wp2_with fail
        refine bodyPost_ret (v := .tuple #[.slice none 0 0, .int .i64 7]) (by simp [results, Tryz.results28, go_sem]) rfl ?_
        exact ⟨by rw [HE.out, HP.out]; exact ⟨none, 0, 0, rfl, by omega, SaS.nil, fun _ => ⟨rfl, rfl, rfl⟩⟩, hbw⟩
  · have hb0 : (chkL ls != 0) = true := by simpa using h0
    have H0 := Lib.hid h0
    have HE : Hid (pedE ls id = chkL ls) := by show _ = _; unfold pedE; rw [if_neg h0]
    have HP : Hid (pedS ls id = []) := by show _ = _; unfold pedS; rw [if_neg h0]
    clear h0
    go_wp2_with fail
    refine bodyPost_ret (v := .tuple #[.slice none 0 0, .int .i64 (chkL ls)]) (by simp [results, Tryz.results28, go_sem]) rfl ?_
    exact ⟨by rw [HE.out, HP.out]; exact ⟨none, 0, 0, rfl, by omega, SaS.nil, fun _ => ⟨rfl, rfl, rfl⟩⟩, hb3⟩
end Go.Proofs.YtccmchmemafjdaaGreatDoor
