/- The text of a specimen: the program's. -/
import Derived.Test.YtnaoagkelbjflaaGreatDoorSfp
import Derived.Test.YtnaoagkelbjflaaGreatDoorSg
import Derived.IntWalk
set_option linter.unusedSimpArgs false
set_option linter.unusedVariables false
namespace Go.Proofs.YtnaoagkelbjflaaGreatDoor
open Go.RowKit

theorem number_any (l : List UInt8) (w : World) (hs : l.length ≤ 100000) (hE : Env w) :
    Calls Tryz.prog 47 #[.string ⟨l.toArray⟩] w fun e w' => e = .returned (.int .i64 (numL l)) ∧ Below w.heap.size w w' := by
  by_cases hv : ∃ v, Lib.atoiAll l = .ok v
  · obtain ⟨v, hv⟩ := hv
    have HN := Lib.hid (numL_ok hv)
    have HV := Lib.hid hv; clear hv
    rw [HN.out]
    go_enter Tryz.func47, Tryz.ntmps47
    go_wp2_with (go_at_call 72; refine (atoi_ok ⟨l.toArray⟩ v _ (by rw [size_mk']; omega) HV.out).mono ?_; rintro e w' ⟨rfl, hb⟩)
    go_ret
    exact ⟨rfl, hb⟩
  · have hv' : ∀ v, Lib.atoiAll l ≠ .ok v := fun v h => hv ⟨v, h⟩
    have hn0 : numL l = 0 := by
      unfold numL
      cases h : Lib.atoiAll l
      · exact absurd h (hv' _)
      · rfl
      · rfl
    have HN := Lib.hid hn0; clear hn0
    have HV := Lib.hid hv'; clear hv' hv
    rw [HN.out]
    go_enter Tryz.func47, Tryz.ntmps47
    go_wp2_with fail
    refine (atoi_err ⟨l.toArray⟩ _ (by rw [size_mk']; omega) HV.out hE).mono ?_
    rintro e w1 ⟨⟨k, te, pv, rfl⟩, hb⟩
    go_wp2_with fail
    go_ret
    exact ⟨rfl, hb⟩

theorem below_keep {w0 w w1 : World} (h : Below w0.heap.size w0 w) (hb : Below w.heap.size w w1) : Below w0.heap.size w0 w1 := h.trans (hb.mono h.size)
theorem itoa_1000 (k : Nat) : Lib.itoa (1000 + (k : Int) % 1000) = 49 :: pad3 (k % 1000) := by
  rw [itoa_nat _ (by omega), show (1000 + (k : Int) % 1000).toNat = 1000 + k % 1000 by omega, dec_1000 _ (by omega)]
theorem itoa_div (k : Nat) : Lib.itoa ((k : Int) / 1000) = Lib.decDigits (k / 1000) := by
  rw [itoa_nat _ (by omega), show ((k : Int) / 1000).toNat = k / 1000 by omega]
theorem pad3_len (r : Nat) : (pad3 r).length = 3 := rfl
theorem gramS_len (k : Nat) (h : k ≤ 200000) : (gramS k).length ≤ 7 := by
  have := decDigits_le 2 (k / 1000) (by omega)
  simp only [gramS, pad3, List.length_append, List.length_cons, List.length_nil]; omega
set_option maxRecDepth 100000 in
set_option maxHeartbeats 1000000 in
theorem grams_any (k : Nat) (w : World) (hk : k ≤ 200000) (hE : Env w) :
    Calls Tryz.prog 39 #[.int .i64 (k : Int)] w fun e w' => e = .returned (.string ⟨(gramS k).toArray⟩) ∧ Below w.heap.size w w' := by
  have h1 : (0 : Int) ≤ (k : Int) % 1000 := by omega
  have h2 : (k : Int) % 1000 ≤ 999 := by omega
  have h3 : (0 : Int) ≤ (k : Int) / 1000 := by omega
  have h4 : (k : Int) / 1000 ≤ 200 := by omega
  have hd := decDigits_le 2 (k / 1000) (by omega)
  have HI := Lib.hid (itoa_1000 k)
  have HD := Lib.hid (itoa_div k)
  go_enter Tryz.func39, Tryz.ntmps39
  go_wp2_with fail
  refine (itoa_any _ _ (by omega) (by omega) hE).mono ?_
  rintro e w1 ⟨rfl, hb⟩
  rw [HI.out]
  have hE1 := hE.step hb
  have hx1 : (ByteArray.mk (49 :: pad3 (k % 1000)).toArray).extract 1 ((pad3 (k % 1000)).length + 1) = ⟨(pad3 (k % 1000)).toArray⟩ := by
    rw [ByteArray.extract_mk, List.take_of_length_le (by simp)]; rfl
  have hx2 := hx1
  rw [pad3_len] at hx2
  have hq1 := add_lists (P := Tryz.prog) (Lib.itoa ((k : Int) / 1000)) [46] (by rw [HD.out]; simp; omega)
  have hq2 := add_lists (P := Tryz.prog) (Lib.itoa ((k : Int) / 1000) ++ [46]) (pad3 (k % 1000)) (by rw [HD.out]; simp [pad3]; omega)
  have hpl := pad3_len (k % 1000)
  have h3' : -9223372036854775808 ≤ (k : Int) / 1000 := by omega
  have h4' : (k : Int) / 1000 ≤ 9223372036854775807 := by omega
  have hdv : (k : Int).tdiv 1000 = (k : Int) / 1000 := Int.tdiv_eq_ediv_of_nonneg (by omega)
  have hdw : IntKind.i64.wrap ((k : Int) / 1000) = (k : Int) / 1000 := IntWalk.i64_in _ (by omega)
  go_wp2_with fail
  go_region_held3 (fun W => Below w1.heap.size w1 W)
    (first | exact Below.drew (Below.refl _ _) | exact below_keep (by assumption) (by assumption) | go_keep)
    (first | (go_at_call 38; ((with_reducible refine (itoa_any ((k : Int) / 1000) _ h3' h4' (hE1.step (by assumption))).mono ?_); rintro e w2 ⟨rfl, hb2⟩)))
  go_wp2_with fail
  go_ret
  rename_i hH
  exact ⟨by rw [HD.out]; simp [gramS], hb.trans (hH.mono hb.size)⟩
end Go.Proofs.YtnaoagkelbjflaaGreatDoor
