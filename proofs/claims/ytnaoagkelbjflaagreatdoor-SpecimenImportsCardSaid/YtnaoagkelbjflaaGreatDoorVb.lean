/- Export: the reference's; the law of what is exported. -/
import Derived.Test.YtnaoagkelbjflaaGreatDoorUs
set_option linter.unusedSimpArgs false
set_option linter.unusedVariables false
namespace Go.Proofs.YtnaoagkelbjflaaGreatDoor
open Go.RowKit

set_option maxRecDepth 100000 in
set_option maxHeartbeats 4000000 in
theorem rexport_any (A : Option Addr) (len cap : Nat) (xs : List Spm) (w : World) (hlen : len ≤ 1000000) (hS : Sl w 0 w.heap.size 7 encS A len xs) :
    Calls Tryz.prog 30 #[.slice A len cap] w fun e w' => e = .returned (.tuple #[.string ⟨(expL xs).toArray⟩, .int .i64 (chk xs)]) ∧ Below w.heap.size w w' := by
  have HS := Lib.hid hS; clear hS
  go_enter Tryz.func30, Tryz.ntmps30
  go_wp2_with fail
  refine (rsort_any A len cap xs _ hlen HS.out).mono ?_
  rintro e w1 ⟨⟨S, ns, cs, rfl, hSs⟩, hb⟩
  by_cases ha : ¬ chk xs = 0
  · have hd : (chk xs != 0) = true := by simpa using ha
    have HL : Hid (expL xs = []) := by show _ = _; unfold expL; rw [if_neg ha]
    obtain ⟨c, HC⟩ : ∃ c, Hid (chk xs = c) := ⟨chk xs, rfl⟩
    rw [HC.out] at hd ⊢
    clear ha
    go_wp2_with fail
    go_ret2
    exact ⟨by rw [HL.out, HC.out]; rfl, hb⟩
  replace ha := Classical.not_not.1 ha
  have HA := Lib.hid ha
  have hsl : srtL xs = sortS xs := by unfold srtL; rw [if_pos ha]
  rw [hsl] at hSs
  have HV : Hid (∀ x ∈ sortS xs, validS x = true) := fun x hx => ((chk_zero xs).1 ha).2.1 x ((sortS_mem xs x).1 hx)
  have HL : Hid (expL xs = texts (sortS xs)) := by show _ = _; unfold expL; rw [if_pos ha]
  have hl64 : xs.length ≤ 64 := chk_len ha
  rw [ha]
  clear ha hsl
  have hns : ns ≤ 64 := by have := hSs.len; rw [sortS_len] at this; omega
  have HSL : Hid ((sortS xs).length = ns) := hSs.len
  have HTL : Hid (∀ k, k ≤ 64 → (texts ((sortS xs).take k)).length ≤ 41 * k) := fun k hk => by
    have h1 := texts_len ((sortS xs).take k) (fun x hx => HV.out x (List.mem_of_mem_take hx))
    have h2 := List.length_take_le k (sortS xs)
    exact Nat.le_trans h1 (Nat.mul_le_mul_left _ h2)
  have HSS := Lib.hid hSs.any; clear hSs
  generalize sortS xs = zs at *
  have HB := Lib.hid hb; clear hb
  go_wp2_with fail
  go_loopw [6, 7] (fun v i wr => ∃ k : Nat, k ≤ ns ∧ i = .int .i64 (k : Int) ∧ v = .string ⟨(texts (zs.take k)).toArray⟩ ∧ Below w1.heap.size w1 wr) (fun _ i _ => ns - (intOf i).toNat)
  case atStart => exact ⟨0, by omega, rfl, by simp [texts], Below.refl _ _⟩
  case round =>
    obtain ⟨k, hk, rfl, rfl, hbr⟩ := hrel
    by_cases hlt : k < ns
    · obtain ⟨b, off, x, rfl, hbb, hx, c0, c1, c2, c3, c4, c5, c6⟩ := (HSS.out.up hbr (Nat.le_refl _) (Nat.le_refl _)).sp hlt
      have hxl := parseSp_len (parseSp_text x (HV.out x (List.mem_of_getElem? hx)))
      have htl := HTL.out k (by omega)
      have HT := Lib.hid (texts_take hx); clear hx
      generalize texts (zs.take k) = tk at *
      have hadd : ∀ W, (Op.stringOp .add ⟨tk.toArray⟩ ⟨(textSp x).toArray⟩).run Tryz.prog W = .ok (.string ⟨(tk ++ textSp x).toArray⟩) W := add_lists tk (textSp x) (by omega)
      have hadd2 : ∀ W, (Op.stringOp .add ⟨(tk ++ textSp x).toArray⟩ ⟨#[10]⟩).run Tryz.prog W = .ok (.string ⟨(tk ++ (textSp x ++ [10])).toArray⟩) W := add_to (tk ++ textSp x) [10] _ (by simp) (by simp; omega)
      go_wp2_with fail
      refine (rstext_any x _).mono ?_; rintro e w4 ⟨rfl, hb4⟩
      go_wp2_with fail
      go_roundw
      case rel => exact ⟨k + 1, by omega, by go_num, by rw [HT.out], below3 hbr hb4⟩
      case measure => simp [intOf]; omega
    · obtain rfl : k = ns := by omega
      have HT : Hid (zs.take k = zs) := List.take_of_length_le (by have := HSL.out; omega)
      rw [HT.out]
      go_wp2_with fail
      go_ret2
      exact ⟨by rw [HL.out, HA.out]; rfl, HB.out.trans (hbr.mono HB.out.size)⟩
end Go.Proofs.YtnaoagkelbjflaaGreatDoor
