/- Grams: the reference's. -/
import Derived.Test.YtnaoagkelbjflaaGreatDoorSi
set_option linter.unusedSimpArgs false
set_option linter.unusedVariables false
namespace Go.Proofs.YtnaoagkelbjflaaGreatDoor
open Go.RowKit

/-- Zeros ahead till there are four. -/
theorem dec_zeros (k : Nat) (h : k ≤ 200000) : ∃ z, z ≤ 3 ∧ (z = 0 ∨ z + (Lib.decDigits k).length = 4) ∧ 4 ≤ z + (Lib.decDigits k).length ∧ (z + (Lib.decDigits k).length ≤ 6) ∧
    (List.replicate z 48 ++ Lib.decDigits k).take (z + (Lib.decDigits k).length - 3) ++ [46] ++ (List.replicate z 48 ++ Lib.decDigits k).drop (z + (Lib.decDigits k).length - 3) = gramS k := by
  have key : ∀ (z : Nat), List.replicate z 48 ++ Lib.decDigits k = Lib.decDigits (k / 1000) ++ pad3 (k % 1000) → z ≤ 3 → (z = 0 ∨ z + (Lib.decDigits k).length = 4) → ∃ z, z ≤ 3 ∧ (z = 0 ∨ z + (Lib.decDigits k).length = 4) ∧ 4 ≤ z + (Lib.decDigits k).length ∧ (z + (Lib.decDigits k).length ≤ 6) ∧
    (List.replicate z 48 ++ Lib.decDigits k).take (z + (Lib.decDigits k).length - 3) ++ [46] ++ (List.replicate z 48 ++ Lib.decDigits k).drop (z + (Lib.decDigits k).length - 3) = gramS k := by
    intro z hz h1 h2
    have hl : z + (Lib.decDigits k).length = (Lib.decDigits (k / 1000)).length + 3 := by
      have := congrArg List.length hz
      simpa [pad3] using this
    have hd := decDigits_le 2 (k / 1000) (by omega)
    have hp : 1 ≤ (Lib.decDigits (k / 1000)).length := by
      rcases Nat.eq_zero_or_pos (Lib.decDigits (k / 1000)).length with h0 | h0
      · exact absurd (List.eq_nil_of_length_eq_zero h0) (dec_ne _)
      · exact h0
    refine ⟨z, h1, h2, by omega, by omega, ?_⟩
    rw [hz, hl, show (Lib.decDigits (k / 1000)).length + 3 - 3 = (Lib.decDigits (k / 1000)).length by omega, List.take_left, List.drop_left]
    simp [gramS]
  have d1 : ∀ d : Nat, d < 10 → Lib.decDigits d = [UInt8.ofNat (48 + d)] := fun d hd => by rw [Lib.decDigits, dif_pos hd]
  by_cases h1 : 1000 ≤ k
  · refine key 0 ?_ (by omega) (.inl rfl)
    have := dec_pad3 (k / 1000) (k % 1000) (by omega) (by omega)
    rw [show 1000 * (k / 1000) + k % 1000 = k by omega] at this
    rw [this]; rfl
  · have hq : k / 1000 = 0 := by omega
    have hm : k % 1000 = k := by omega
    have z0 : Lib.decDigits 0 = [48] := by rw [d1 0 (by omega)]; rfl
    by_cases h2 : 100 ≤ k
    · have e : Lib.decDigits k = pad3 k := by
        rw [Lib.decDigits, dif_neg (by omega), Lib.decDigits, dif_neg (by omega), d1 _ (show k / 10 / 10 < 10 by omega)]
        simp only [pad3, List.cons_append, List.nil_append]
        rw [show k / 10 / 10 = k / 100 by omega]
      refine key 1 ?_ (by omega) (.inr (by rw [e]; rfl))
      rw [hq, hm, e, z0]; rfl
    · by_cases h3 : 10 ≤ k
      · have e : Lib.decDigits k = [UInt8.ofNat (48 + k / 10), UInt8.ofNat (48 + k % 10)] := by
          rw [Lib.decDigits, dif_neg (by omega), d1 _ (show k / 10 < 10 by omega)]; rfl
        refine key 2 ?_ (by omega) (.inr (by rw [e]; rfl))
        rw [hq, hm, e, z0, pad3, show k / 100 = 0 by omega, show k / 10 % 10 = k / 10 by omega]; rfl
      · refine key 3 ?_ (by omega) (.inr (by rw [d1 k (by omega)]; rfl))
        rw [hq, hm, d1 k (by omega), z0, pad3, show k / 100 = 0 by omega, show k / 10 % 10 = 0 by omega, show k % 10 = k by omega]; rfl

set_option maxRecDepth 100000 in
set_option maxHeartbeats 1000000 in
theorem rgrams_any (k : Nat) (w : World) (hk : k ≤ 200000) :
    Calls Tryz.prog 44 #[.int .i64 (k : Int)] w fun e w' => e = .returned (.string ⟨(gramS k).toArray⟩) ∧ Below w.heap.size w w' := by
  obtain ⟨z, hz1, hz2, hz3, hz4, hz5⟩ := dec_zeros k hk
  have HD : Hid (Lib.itoa (k : Int) = Lib.decDigits k) := by show _ = _; rw [itoa_nat _ (by omega)]; rfl
  have HR := Lib.hid hz5; clear hz5
  have hlen : ∀ m, (List.replicate m 48 ++ Lib.decDigits k).length = m + (Lib.decDigits k).length := fun m => by simp
  generalize hdk : Lib.decDigits k = d at *
  clear hdk
  go_enter Tryz.func44, Tryz.ntmps44
  go_wp2_with fail
  refine (rdec9_any _ _ (by omega) (by omega)).mono ?_
  rintro e w1 ⟨rfl, hb⟩
  rw [HD.out]
  have HL := Lib.hid hlen; clear hlen
  go_wp2_with fail
  go_loop [3] (fun s => ∃ m : Nat, m ≤ z ∧ s = .string ⟨(List.replicate m 48 ++ d).toArray⟩) (fun s => 4 - strLen s)
  case atStart => exact ⟨0, by omega, rfl⟩
  case round =>
    obtain ⟨m, hm, rfl⟩ := hrel
    have hsz : (List.replicate m 48 ++ d).length = m + d.length := HL.out m
    have hsq := add_lists (P := Tryz.prog) [48] (List.replicate m 48 ++ d) (by rw [List.length_cons, List.length_nil, hsz]; omega)
    have hcons : Hid ([48] ++ (List.replicate m 48 ++ d) = List.replicate (m + 1) 48 ++ d) := by show _ = _; rw [List.replicate_succ]; rfl
    have HM : Hid (m = z → List.replicate m 48 ++ d = List.replicate z 48 ++ d) := fun h => by rw [h]
    generalize List.replicate m 48 ++ d = t at *
    have HSZ := Lib.hid hsz; clear hsz
    have ht4 : t.length < 4 ↔ m < z := by rw [HSZ.out]; omega
    have htl : t.length ≤ 6 := by rw [HSZ.out]; omega
    have HT4 := Lib.hid ht4; clear ht4
    by_cases hlt : t.length < 4
    · have hmz : m < z := HT4.out.1 hlt
      go_wp2_with fail
      go_round
      case rel => exact ⟨m + 1, by omega, by rw [← hcons.out]; rfl⟩
      case measure => simp [strLen, ByteArray.size]; omega
    · have hmz : m = z := by have := mt HT4.out.2 hlt; omega
      have hte := HM.out hmz
      have HTE := Lib.hid hte; clear hte hmz
      have htz : Hid (t.length = z + d.length) := by show _ = _; rw [HTE.out]; simp
      have htl4 : 4 ≤ t.length := by omega
      have hx1 : (ByteArray.mk t.toArray).extract 0 (t.length - 3) = ⟨(t.take (t.length - 3)).toArray⟩ := by rw [ByteArray.extract_mk]; rfl
      have hx2 : (ByteArray.mk t.toArray).extract (t.length - 3) t.length = ⟨(t.drop (t.length - 3)).toArray⟩ := by rw [ByteArray.extract_mk, List.take_of_length_le (by simp)]
      have hq1 := add_lists (P := Tryz.prog) (t.take (t.length - 3)) [46] (by simp; omega)
      have hq2 := add_lists (P := Tryz.prog) (t.take (t.length - 3) ++ [46]) (t.drop (t.length - 3)) (by simp; omega)
      have hfin : Hid (t.take (t.length - 3) ++ [46] ++ t.drop (t.length - 3) = gramS k) := by
        show _ = _
        rw [← HR.out, htz.out, HTE.out]
      have hc : ((t.length : Int) - 3).toNat = t.length - 3 := by omega
      have hw : IntKind.i64.wrap ((t.length : Int) - 3) = (t.length : Int) - 3 := IntWalk.i64_in _ (by omega)
      have hp0 : (0 : Int) ≤ (t.length : Int) - 3 := by omega
      have hp1 : (t.length : Int) - 3 ≤ (t.length : Int) := by omega
      go_wp2_with fail
      go_quiet (fail)
      go_wp2_with fail
      go_ret
      refine ⟨?_, hb.trans (below_drewN (Below.refl _ _) _ |>.mono hb.size)⟩
      rw [← hfin.out]; simp
end Go.Proofs.YtnaoagkelbjflaaGreatDoor
