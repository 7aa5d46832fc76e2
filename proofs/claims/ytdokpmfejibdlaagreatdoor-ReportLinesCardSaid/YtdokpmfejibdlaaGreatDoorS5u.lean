
/- Lists of specimens and of numbers compared; numbers looked for. -/
import Derived.Test.YtdokpmfejibdlaaGreatDoorS5q
set_option linter.unusedSimpArgs false
set_option linter.unusedVariables false
namespace Go.Proofs.YtdokpmfejibdlaaGreatDoor
open Go.RowKit

def encI (n : Int) : List Value := [.int .i64 n]
theorem encI_len (n : Int) : (encI n).length = 1 := rfl
theorem encI_one (n : Int) : ∀ v ∈ encI n, v.oneCell' = true := by intro v hv; simp only [encI, List.mem_singleton] at hv; subst hv; rfl
def eqSpm (a b : Spm) : Bool := a.id == b.id && (a.obv == b.obv && (a.rev == b.rev && (a.os == b.os && (a.rs == b.rs && (a.ax == b.ax && a.wt == b.wt)))))
theorem eqSpm_iff (a b : Spm) : eqSpm a b = decide (a = b) := by
  obtain ⟨a1, a2, a3, a4, a5, a6, a7⟩ := a
  obtain ⟨b1, b2, b3, b4, b5, b6, b7⟩ := b
  unfold eqSpm
  rw [Bool.eq_iff_iff]
  simp
theorem eqSpmV (a b : Spm) (w : World) : (binOp .eql 34 (.agg #[.int .i64 a.id, .int .i64 a.obv, .int .i64 a.rev, .int .i64 a.os, .int .i64 a.rs, .int .i64 a.ax, .int .i64 a.wt]) (.agg #[.int .i64 b.id, .int .i64 b.obv, .int .i64 b.rev, .int .i64 b.os, .int .i64 b.rs, .int .i64 b.ax, .int .i64 b.wt])).run Tryz.prog w = .ok (.bool (decide (a = b))) w := by
  have u3 := Tryz.underlying3
  have hS : Tryz.prog.underlying 34 = some (.struct (Tryz.prog.fieldsOf 34)) := by kernel_rfl
  have hp : Tryz.prog.stoodInHeld 34 = false := by kernel_rfl
  rw [← eqSpm_iff, run_eql_struct, show (10000 : Nat) = 9999 + 1 from rfl, run_equalIn_agg w 9999 34 _ _ hS hp]
  simp only [Program.fieldsOf, Tryz.underlying34]
  go_simp
  unfold eqSpm
  by_cases h1 : a.id = b.id <;> by_cases h2 : a.obv = b.obv <;> by_cases h3 : a.rev = b.rev <;> by_cases h4 : a.os = b.os <;> by_cases h5 : a.rs = b.rs <;> by_cases h6 : a.ax = b.ax <;> by_cases h7 : a.wt = b.wt <;> simp [h1, h2, h3, h4, h5, h6, h7]
theorem neSpmV (a b : Spm) (w : World) : (binOp .neq 34 (.agg #[.int .i64 a.id, .int .i64 a.obv, .int .i64 a.rev, .int .i64 a.os, .int .i64 a.rs, .int .i64 a.ax, .int .i64 a.wt]) (.agg #[.int .i64 b.id, .int .i64 b.obv, .int .i64 b.rev, .int .i64 b.os, .int .i64 b.rs, .int .i64 b.ax, .int .i64 b.wt])).run Tryz.prog w = .ok (.bool (!decide (a = b))) w := by
  have u3 := Tryz.underlying3
  have hS : Tryz.prog.underlying 34 = some (.struct (Tryz.prog.fieldsOf 34)) := by kernel_rfl
  have hp : Tryz.prog.stoodInHeld 34 = false := by kernel_rfl
  rw [← eqSpm_iff, run_neq_struct, show (10000 : Nat) = 9999 + 1 from rfl, run_equalIn_agg w 9999 34 _ _ hS hp]
  simp only [Program.fieldsOf, Tryz.underlying34]
  go_simp
  unfold eqSpm
  by_cases h1 : a.id = b.id <;> by_cases h2 : a.obv = b.obv <;> by_cases h3 : a.rev = b.rev <;> by_cases h4 : a.os = b.os <;> by_cases h5 : a.rs = b.rs <;> by_cases h6 : a.ax = b.ax <;> by_cases h7 : a.wt = b.wt <;> simp [h1, h2, h3, h4, h5, h6, h7]
theorem eq_take_succ {α : Type} {xs ys : List α} {k : Nat} {x y : α} (hx : xs[k]? = some x) (hy : ys[k]? = some y) : xs.take (k + 1) = ys.take (k + 1) ↔ xs.take k = ys.take k ∧ x = y := by
  rw [take_snocS hx, take_snocS hy]
  constructor
  · intro h
    have := List.append_inj' h rfl
    exact ⟨this.1, by simpa using this.2⟩
  · rintro ⟨h, rfl⟩; rw [h]

set_option maxRecDepth 100000 in
set_option maxHeartbeats 1000000 in
theorem has_any (A : Option Addr) (len cap : Nat) (xs : List Int) (i : Int) (w : World) (hlen : len ≤ 1000000) (hS : Sl w 0 w.heap.size 1 encI A len xs) :
    Calls Tryz.prog 25 #[.slice A len cap, .int .i64 i] w fun e w' => e = .returned (.bool (decide (i ∈ xs))) ∧ w = w' := by
  have hl := hS.len
  go_enter Tryz.func25, Tryz.ntmps25
  go_wp2_with fail
  go_loop [5] (fun s => ∃ k : Nat, k ≤ len ∧ s = .int .i64 k ∧ i ∉ xs.take k) (fun s => len - (intOf s).toNat)
  case atStart => exact ⟨0, by omega, rfl, by simp⟩
  case round =>
    obtain ⟨k, hk, rfl, hn⟩ := hrel
    have HN := Lib.hid hn; clear hn
    by_cases hlt : k < len
    · obtain ⟨b, off, x, rfl, _, hbb, hx, c0⟩ := Sl.one_ (enc := fun n => .int .i64 n) hS hlt
      have HX := Lib.hid hx; clear hx
      by_cases he : x = i
      · have hd : (x == i) = true := by simpa using he
        have HD : Hid (decide (i ∈ xs) = true) := by show _ = _; rw [decide_eq_true_eq, ← he]; exact List.mem_of_getElem? HX.out
        clear he
        go_wp2_with fail
        go_ret
        exact ⟨by rw [HD.out]; rfl, rfl⟩
      · have hd : (x == i) = false := by simpa using he
        have HE := Lib.hid he; clear he
        go_wp2_with fail
        go_round
        case rel => exact ⟨k + 1, by omega, by go_num, fun h => by rcases (mem_take_snoc HX.out).1 h with h | h; exact HN.out h; exact HE.out h.symm⟩
        case measure => simp [intOf]; omega
    · obtain rfl : k = len := by omega
      have hn := HN.out
      rw [List.take_of_length_le (by omega)] at hn
      have HD : Hid (decide (i ∈ xs) = false) := decide_eq_false hn
      clear hn HN
      go_wp2_with fail
      go_ret
      exact ⟨by rw [HD.out]; rfl, rfl⟩
end Go.Proofs.YtdokpmfejibdlaaGreatDoor
