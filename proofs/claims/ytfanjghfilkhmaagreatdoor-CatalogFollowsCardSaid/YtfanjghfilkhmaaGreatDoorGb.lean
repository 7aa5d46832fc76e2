/- What the reference looks up in an edition, and whether it is valid (chapter 47). -/
import Derived.Test.YtfanjghfilkhmaaGreatDoorGa
import Derived.Deep.RegionHeld3
set_option linter.unusedSimpArgs false
set_option linter.unusedVariables false
namespace Go.Proofs.YtfanjghfilkhmaaGreatDoor
open Go.RowKit

theorem asc_snoc {l : List Int} {x : Int} : (l ++ [x]).Pairwise (· < ·) ↔ l.Pairwise (· < ·) ∧ ∀ y, l.getLast? = some y → y < x := by
  rw [List.pairwise_append]
  constructor
  · rintro ⟨h1, _, h3⟩
    exact ⟨h1, fun y hy => h3 y (List.mem_of_getLast? hy) x (by simp)⟩
  · rintro ⟨h1, h2⟩
    refine ⟨h1, List.pairwise_singleton .., fun a ha b hb => ?_⟩
    obtain rfl : b = x := by simpa using hb
    rcases List.eq_nil_or_concat l with rfl | ⟨o, z, rfl⟩
    · cases ha
    · rw [List.concat_eq_append] at *
      have hz := h2 z (by simp)
      rcases List.mem_append.1 ha with h | h
      · have := (List.pairwise_append.1 h1).2.2 a h z (by simp); omega
      · obtain rfl : a = z := by simpa using h
        exact hz
theorem last_take {α : Type} {xs : List α} {k : Nat} {y : α} (h : xs[k]? = some y) : (xs.take (k + 1)).getLast? = some y := by rw [take_snocS h]; simp
theorem asc_take {xs : List Int} {k : Nat} {y x : Int} (hy : xs[k]? = some y) (hx : xs[k + 1]? = some x) : (xs.take (k + 1 + 1)).Pairwise (· < ·) ↔ (xs.take (k + 1)).Pairwise (· < ·) ∧ y < x := by
  rw [take_snocS hx, asc_snoc, last_take hy]
  constructor
  · rintro ⟨h1, h2⟩; exact ⟨h1, h2 y rfl⟩
  · rintro ⟨h1, h2⟩; exact ⟨h1, fun z hz => by cases hz; exact h2⟩
theorem asc_first {xs : List Int} {x : Int} (hx : xs[0]? = some x) : (xs.take 1).Pairwise (· < ·) := by
  rw [take_snocS hx]; exact List.pairwise_singleton ..
theorem asc_of_take {xs : List Int} {k : Nat} (h : ¬ (xs.take k).Pairwise (· < ·)) : ¬ xs.Pairwise (· < ·) := fun h2 => h (h2.sublist (List.take_sublist _ _))
/-- Ascending numbers of a range. -/
def ascR (l : List Int) (lo hi : Int) : Bool := decide (l.Pairwise (· < ·) ∧ ∀ x ∈ l, lo ≤ x ∧ x ≤ hi)
theorem ascR_bad {xs : List Int} {k : Nat} {x lo hi : Int} (hx : xs[k]? = some x) (h : x < lo ∨ hi < x) : ascR xs lo hi = false := by
  unfold ascR
  rw [decide_eq_false_iff_not]
  rintro ⟨_, h2⟩
  have := h2 x (List.mem_of_getElem? hx)
  omega
theorem ascR_order {xs : List Int} {k : Nat} {y x lo hi : Int} (hy : xs[k]? = some y) (hx : xs[k + 1]? = some x) (h : x ≤ y) : ascR xs lo hi = false := by
  unfold ascR
  rw [decide_eq_false_iff_not]
  rintro ⟨h1, _⟩
  refine asc_of_take (k := k + 1 + 1) (fun h3 => ?_) h1
  have := ((asc_take hy hx).1 h3).2
  omega
theorem bin_any (n a b : Int) (w : World) :
    Calls Tryz.prog 48 #[.int .i64 n, .int .i64 a, .int .i64 b] w fun e w' => e = .returned (.bool (inR n a b)) ∧ w = w' := by
  go_enter Tryz.func48, Tryz.ntmps48
  go_wp2
  all_goals go_ret
  · exact ⟨by simp [inR, *], rfl⟩
  · exact ⟨by simp [inR]; omega, rfl⟩

set_option maxRecDepth 100000 in
set_option maxHeartbeats 1000000 in
theorem basc_any (A : Option Addr) (len cap : Nat) (xs : List Int) (lo hi : Int) (w : World) (hlen : len ≤ 1000000) (hS : Sl w 0 w.heap.size 1 encI A len xs) :
    Calls Tryz.prog 37 #[.slice A len cap, .int .i64 lo, .int .i64 hi] w fun e w' => e = .returned (.bool (ascR xs lo hi)) ∧ Below w.heap.size w w' := by
  have HL := Lib.hid hS.len
  have HS := Lib.hid hS; clear hS
  go_enter Tryz.func37, Tryz.ntmps37
  go_wp2_with fail
  go_loopw [7] (fun s wr => ∃ k : Nat, k ≤ len ∧ s = .int .i64 (k : Int) ∧ (xs.take k).Pairwise (· < ·) ∧ (∀ x ∈ xs.take k, lo ≤ x ∧ x ≤ hi) ∧ Below w.heap.size w wr) (fun s _ => len - (intOf s).toNat)
  case atStart => exact ⟨0, by omega, rfl, by simp, by simp, Below.refl _ _⟩
  case round =>
    obtain ⟨k, hk, rfl, hp, hr, hb⟩ := hrel
    have HP := Lib.hid hp; clear hp
    have HR := Lib.hid hr; clear hr
    by_cases hlt : k < len
    · obtain ⟨b, off, x, rfl, hbb, hx, c0⟩ := (HS.out.below hb (Nat.le_refl _)).in_ hlt
      have HX := Lib.hid hx; clear hx
      by_cases h1 : x < lo
      · have HV : Hid (ascR xs lo hi = false) := ascR_bad HX.out (.inl h1)
        have d1 : decide (x < lo) = true := decide_eq_true h1
        clear h1
        go_wp2_with fail
        go_quiet (fail)
        go_wp2_with fail
        go_ret
        exact ⟨by rw [HV.out]; rfl, below_drewN hb _⟩
      have d1 : decide (x < lo) = false := decide_eq_false h1
      by_cases h2 : hi < x
      · have HV : Hid (ascR xs lo hi = false) := ascR_bad HX.out (.inr h2)
        have d2 : decide (hi < x) = true := decide_eq_true h2
        clear h2 h1
        go_wp2_with fail
        go_quiet (fail)
        go_wp2_with fail
        go_ret
        exact ⟨by rw [HV.out]; rfl, below_drewN hb _⟩
      have d2 : decide (hi < x) = false := decide_eq_false h2
      have HB : Hid (lo ≤ x ∧ x ≤ hi) := by show _ ∧ _; omega
      clear h1 h2
      rcases Nat.eq_zero_or_pos k with rfl | hk0
      · simp only [Nat.add_zero] at c0
        simp only [Int.ofNat_zero, Int.natCast_zero]
        go_wp2_with fail
        go_quiet (fail)
        go_wp2_with fail
        go_roundw
        case rel =>
          refine ⟨1, by omega, by go_num, asc_first HX.out, fun y hy => ?_, below_drewN hb _⟩
          rcases (mem_take_snoc (k := 0) HX.out).1 hy with h | rfl
          · exact HR.out y h
          · exact HB.out
        case measure => simp [intOf]; omega
      · obtain ⟨m, rfl⟩ : ∃ m, k = m + 1 := ⟨k - 1, by omega⟩
        obtain ⟨b', off', y, hA', hbb', hy, d0⟩ := (HS.out.below hb (Nat.le_refl _)).in_ (show m < len by omega)
        simp only [Option.some.injEq, Addr.mk.injEq, and_true] at hA'
        obtain ⟨rfl, rfl⟩ := hA'
        have HY := Lib.hid hy; clear hy
        by_cases he : x ≤ y
        · have HV : Hid (ascR xs lo hi = false) := ascR_order HY.out HX.out he
          have d3 : decide (x ≤ y) = true := decide_eq_true he
          clear he
          go_wp2_with fail
          go_quiet (fail)
          go_wp2_with fail
          go_ret
          exact ⟨by rw [HV.out]; rfl, below_drewN hb _⟩
        · have HA : Hid ((xs.take (m + 1 + 1)).Pairwise (· < ·)) := (asc_take HY.out HX.out).2 ⟨HP.out, by omega⟩
          have d3 : decide (x ≤ y) = false := decide_eq_false he
          clear he
          go_wp2_with fail
          go_quiet (fail)
          go_wp2_with fail
          go_roundw
          case rel =>
            refine ⟨m + 1 + 1, by omega, by go_num, HA.out, fun z hz => ?_, below_drewN hb _⟩
            rcases (mem_take_snoc HX.out).1 hz with h | rfl
            · exact HR.out z h
            · exact HB.out
          case measure => simp [intOf]; omega
    · obtain rfl : k = len := by omega
      have HV : Hid (ascR xs lo hi = true) := by
        show _ = _
        have h1 := HP.out; have h2 := HR.out
        rw [List.take_of_length_le (by have := HL.out; omega)] at h1 h2
        exact decide_eq_true ⟨h1, h2⟩
      go_wp2_with fail
      go_ret
      exact ⟨by rw [HV.out]; rfl, hb⟩
end Go.Proofs.YtfanjghfilkhmaaGreatDoor
