/- What the program looks up in an edition; numbers looked for in a list (chapter 47). -/
import Derived.Test.YtfanjghfilkhmaaGreatDoorGh
set_option linter.unusedSimpArgs false
set_option linter.unusedVariables false
namespace Go.Proofs.YtfanjghfilkhmaaGreatDoor
open Go.RowKit

def okB (l : List Int) (most : Int) : Bool := decide (okList l most)
theorem okB_bad {xs : List Int} {k : Nat} {x most : Int} (hx : xs[k]? = some x) (h : x < 1 ∨ most < x) : okB xs most = false := by
  unfold okB
  rw [decide_eq_false_iff_not]
  rintro ⟨_, h2, _⟩
  have := h2 x (List.mem_of_getElem? hx)
  omega
theorem okB_order {xs : List Int} {k : Nat} {y x most : Int} (hy : xs[k]? = some y) (hx : xs[k + 1]? = some x) (h : x ≤ y) : okB xs most = false := by
  unfold okB
  rw [decide_eq_false_iff_not]
  rintro ⟨h1, _⟩
  refine asc_of_take (k := k + 1 + 1) (fun h3 => ?_) h1
  have := ((asc_take hy hx).1 h3).2
  omega
set_option maxRecDepth 100000 in
set_option maxHeartbeats 1000000 in
theorem asc_any (A : Option Addr) (len cap : Nat) (xs : List Int) (most : Int) (w : World) (hlen : len ≤ 1000000) (hS : Sl w 0 w.heap.size 1 encI A len xs) :
    Calls Tryz.prog 31 #[.slice A len cap, .int .i64 most] w fun e w' => e = .returned (.bool (okB xs most)) ∧ w = w' := by
  have HL := Lib.hid hS.len
  have HS := Lib.hid hS; clear hS
  go_enter Tryz.func31, Tryz.ntmps31
  go_wp2_with fail
  go_loop [9] (fun s => ∃ k : Nat, k ≤ len ∧ s = .int .i64 (k : Int) ∧ (xs.take k).Pairwise (· < ·) ∧ (∀ x ∈ xs.take k, 1 ≤ x ∧ x ≤ most)) (fun s => len - (intOf s).toNat)
  case atStart => exact ⟨0, by omega, rfl, by simp, by simp⟩
  case round =>
    obtain ⟨k, hk, rfl, hp, hr⟩ := hrel
    have HP := Lib.hid hp; clear hp
    have HR := Lib.hid hr; clear hr
    by_cases hlt : k < len
    · obtain ⟨b, off, x, rfl, hbb, hx, c0⟩ := HS.out.in_ hlt
      have HX := Lib.hid hx; clear hx
      by_cases h1 : x < 1
      · have HV := Lib.hid (okB_bad (most := most) HX.out (.inl h1))
        go_wp2_with fail
        go_ret
        exact ⟨by rw [HV.out]; rfl, rfl⟩
      by_cases h2 : most < x
      · have HV := Lib.hid (okB_bad (most := most) HX.out (.inr h2))
        go_wp2_with fail
        go_ret
        exact ⟨by rw [HV.out]; rfl, rfl⟩
      have HB : Hid (1 ≤ x ∧ x ≤ most) := by show _ ∧ _; omega
      rcases Nat.eq_zero_or_pos k with rfl | hk0
      · simp only [Nat.add_zero] at c0
        simp only [Int.ofNat_zero, Int.natCast_zero]
        go_wp2_with fail
        go_round
        case rel => exact ⟨1, by omega, by go_num, asc_first HX.out, all_take (k := 0) HX.out HR.out HB.out⟩
        case measure => simp [intOf]; omega
      · obtain ⟨m, rfl⟩ : ∃ m, k = m + 1 := ⟨k - 1, by omega⟩
        obtain ⟨b', off', y, hA', hbb', hy, d0⟩ := HS.out.in_ (show m < len by omega)
        simp only [Option.some.injEq, Addr.mk.injEq, and_true] at hA'
        obtain ⟨rfl, rfl⟩ := hA'
        have HY := Lib.hid hy; clear hy
        by_cases he : x ≤ y
        · have HV := Lib.hid (okB_order (most := most) HY.out HX.out he)
          go_wp2_with fail
          go_ret
          exact ⟨by rw [HV.out]; rfl, rfl⟩
        · have HA : Hid ((xs.take (m + 1 + 1)).Pairwise (· < ·)) := (asc_take HY.out HX.out).2 ⟨HP.out, by omega⟩
          go_wp2_with fail
          go_round
          case rel => exact ⟨m + 1 + 1, by omega, by go_num, HA.out, all_take HX.out HR.out HB.out⟩
          case measure => simp [intOf]; omega
    · obtain rfl : k = len := by omega
      have HV : Hid (okB xs most = decide ((k : Int) ≤ 64)) := by
        show _ = _
        have h1 := HP.out; have h2 := HR.out
        rw [List.take_of_length_le (by have := HL.out; omega)] at h1 h2
        have hl := HL.out
        unfold okB
        rw [Bool.eq_iff_iff, decide_eq_true_iff, decide_eq_true_iff]
        exact ⟨fun h => by have := h.2.2; omega, fun h => ⟨h1, h2, by omega⟩⟩
      go_wp2_with fail
      go_ret
      exact ⟨by rw [HV.out]; rfl, rfl⟩
/-! ### slices.Contains of numbers. -/
def idxI (l : List Int) (x : Int) : Int := if x ∈ l then 0 else -1
set_option maxRecDepth 100000 in
set_option maxHeartbeats 1000000 in
theorem index_any (A : Option Addr) (len cap : Nat) (xs : List Int) (i : Int) (w : World) (hlen : len ≤ 1000000) (hS : Sl w 0 w.heap.size 1 encI A len xs) :
    Calls Tryz.prog 66 #[.slice A len cap, .int .i64 i] w fun e w' => (∃ k : Int, e = .returned (.int .i64 k) ∧ (0 ≤ k ↔ i ∈ xs)) ∧ w = w' := by
  have HL := Lib.hid hS.len
  have HS := Lib.hid hS; clear hS
  go_enter Tryz.func66, Tryz.ntmps66
  go_wp2_with fail
  go_loop [8] (fun s => ∃ k : Nat, k ≤ len ∧ s = .int .i64 k ∧ i ∉ xs.take k) (fun s => len - (intOf s).toNat)
  case atStart => exact ⟨0, by omega, rfl, by simp⟩
  case round =>
    obtain ⟨k, hk, rfl, hn⟩ := hrel
    have HN := Lib.hid hn; clear hn
    by_cases hlt : k < len
    · obtain ⟨b, off, x, rfl, hbb, hx, c0⟩ := HS.out.in_ hlt
      have HX := Lib.hid hx; clear hx
      by_cases he : i = x
      · have hd : (i == x) = true := by simpa using he
        have HD : Hid (i ∈ xs) := by show _ ∈ _; rw [he]; exact List.mem_of_getElem? HX.out
        clear he
        go_wp2_with fail
        go_ret
        exact ⟨⟨_, rfl, ⟨fun _ => HD.out, fun _ => by omega⟩⟩, rfl⟩
      · have hd : (i == x) = false := by simpa using he
        have HE := Lib.hid he; clear he
        go_wp2_with fail
        go_round
        case rel => exact ⟨k + 1, by omega, by go_num, fun h => by rcases (mem_take_snoc HX.out).1 h with h | h; exact HN.out h; exact HE.out h⟩
        case measure => simp [intOf]; omega
    · obtain rfl : k = len := by omega
      have HD : Hid (i ∉ xs) := by
        have hn := HN.out
        rw [List.take_of_length_le (by have := HL.out; omega)] at hn
        exact hn
      go_wp2_with fail
      go_ret
      exact ⟨⟨-1, rfl, ⟨fun h => absurd h (by decide), fun h => absurd h HD.out⟩⟩, rfl⟩
set_option maxHeartbeats 1000000 in
theorem contains_any (A : Option Addr) (len cap : Nat) (xs : List Int) (i : Int) (w : World) (hlen : len ≤ 1000000) (hS : Sl w 0 w.heap.size 1 encI A len xs) :
    Calls Tryz.prog 33 #[.slice A len cap, .int .i64 i] w fun e w' => e = .returned (.bool (decide (i ∈ xs))) ∧ w = w' := by
  have HI := Lib.hid (index_any A len cap xs i w hlen hS)
  clear hS
  go_enter Tryz.func33, Tryz.ntmps33
  go_wp2_with fail
  refine HI.out.mono ?_
  rintro e w' ⟨⟨k, rfl, hk⟩, rfl⟩
  have HD : Hid (decide (i ∈ xs) = decide (0 ≤ k)) := by show _ = _; rw [Bool.eq_iff_iff, decide_eq_true_iff, decide_eq_true_iff]; exact hk.symm
  clear hk
  go_wp2_with fail
  go_ret
  exact ⟨by rw [HD.out]; rfl, rfl⟩
end Go.Proofs.YtfanjghfilkhmaaGreatDoor
