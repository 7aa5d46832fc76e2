/- Cover: the reference's; and when lists of years are the same. -/
import Derived.Test.YthbckkjihijekaaDoorLc
set_option linter.unusedSimpArgs false
set_option linter.unusedVariables false
namespace Go.Proofs.YthbckkjihijekaaDoor
open Go.RowKit

def inOne (n : Int) (z : Int × Int) : Bool := decide (z.1 ≤ n) && decide (n ≤ z.2)
theorem inB_one (zs : List (Int × Int)) (n : Int) : inB zs n = zs.any (inOne n) := rfl
set_option maxRecDepth 100000 in
set_option maxHeartbeats 1000000 in
theorem in_any (A : Option Addr) (len cap : Nat) (zs : List (Int × Int)) (n : Int) (w : World) (hlen : len ≤ 1000000) (hS : Sl w 0 w.heap.size 2 encY A len zs) :
    Calls Tryd.prog 48 #[.slice A len cap, .int .i64 n] w fun e w' => e = .returned (.bool (inB zs n)) ∧ w = w' := by
  have hl := hS.len
  rw [inB_one]
  go_enter Tryd.func48, Tryd.ntmps48
  go_wp2_with fail
  go_loop [5] (fun i => ∃ k : Nat, k ≤ len ∧ i = .int .i64 k ∧ (zs.take k).any (inOne n) = false) (fun i => len - (intOf i).toNat)
  case atStart => exact ⟨0, by omega, rfl, rfl⟩
  case round =>
    obtain ⟨k, hk, rfl, hn⟩ := hrel
    have HN := Lib.hid hn; clear hn
    by_cases hlt : k < len
    · obtain ⟨b, off, x, rfl, _, hbb, hx, hcx⟩ := hS.at_ hlt
      have hc0 : w.cell? ⟨b, off + k * 2, none⟩ = some (.int .i64 x.1) := hcx 0 _ rfl
      have hc1 : w.cell? ⟨b, off + k * 2 + 1, none⟩ = some (.int .i64 x.2) := hcx 1 _ rfl
      have HX := Lib.hid hx; clear hx hcx
      have hor : inOne n x = (decide (x.1 ≤ n) && decide (n ≤ x.2)) := rfl
      by_cases h1 : x.1 ≤ n
      · by_cases h2 : n ≤ x.2
        · have HP : Hid (inOne n x = true) := by show inOne n x = true; rw [hor]; simp [h1, h2]
          clear hor
          go_wp2_with fail
          go_ret
          exact ⟨by rw [any_of_at HX.out HP.out]; rfl, rfl⟩
        · have HP : Hid (inOne n x = false) := by show inOne n x = false; rw [hor]; simp [h1, h2]
          clear hor
          go_wp2_with fail
          go_round
          case rel => exact ⟨k + 1, by omega, by go_num, by rw [any_take_succ HX.out, HN.out, HP.out]; rfl⟩
          case measure => simp [intOf]; omega
      · have HP : Hid (inOne n x = false) := by show inOne n x = false; rw [hor]; simp [h1]
        clear hor
        go_wp2_with fail
        go_round
        case rel => exact ⟨k + 1, by omega, by go_num, by rw [any_take_succ HX.out, HN.out, HP.out]; rfl⟩
        case measure => simp [intOf]; omega
    · obtain rfl : k = len := by omega
      have hn := HN.out
      rw [List.take_of_length_le (by omega)] at hn
      have HN2 := Lib.hid hn; clear hn HN
      go_wp2_with fail
      go_ret
      exact ⟨by rw [HN2.out]; rfl, rfl⟩

theorem neYears (a b c d : Int) (w : World) : (binOp .neq 23 (.agg #[.int .i64 a, .int .i64 b]) (.agg #[.int .i64 c, .int .i64 d])).run Tryd.prog w = .ok (.bool (!(a == c && b == d))) w := by
  have u3 := Tryd.underlying3
  have hS : Tryd.prog.underlying 23 = some (.struct (Tryd.prog.fieldsOf 23)) := by kernel_rfl
  have hp : Tryd.prog.stoodInHeld 23 = false := by kernel_rfl
  rw [run_neq_struct, show (10000 : Nat) = 9999 + 1 from rfl, run_equalIn_agg w 9999 23 _ _ hS hp]
  simp only [Program.fieldsOf, Tryd.underlying23]
  go_simp
  by_cases h1 : a = c <;> by_cases h2 : b = d <;> simp [h1, h2]
theorem pair_beq (x y : Int × Int) : ((x.1 == y.1) && (x.2 == y.2)) = decide (x = y) := by
  obtain ⟨a, b⟩ := x
  obtain ⟨c, d⟩ := y
  by_cases h1 : a = c <;> by_cases h2 : b = d <;> simp [h1, h2]
theorem eq_take_succ {α : Type} {xs ys : List α} {k : Nat} {x y : α} (hx : xs[k]? = some x) (hy : ys[k]? = some y) : xs.take (k + 1) = ys.take (k + 1) ↔ xs.take k = ys.take k ∧ x = y := by
  rw [take_snocS hx, take_snocS hy]
  constructor
  · intro h
    have := List.append_inj' h rfl
    exact ⟨this.1, by simpa using this.2⟩
  · rintro ⟨h, rfl⟩; rw [h]
set_option maxRecDepth 100000 in
set_option maxHeartbeats 1000000 in
theorem ylist_any (A : Option Addr) (len cap : Nat) (xs : List (Int × Int)) (A' : Option Addr) (len' cap' : Nat) (ys : List (Int × Int)) (w : World) (hlen : len ≤ 1000000) (hlen' : len' ≤ 1000000) (hS : Sl w 0 w.heap.size 2 encY A len xs) (hS' : Sl w 0 w.heap.size 2 encY A' len' ys) :
    Calls Tryd.prog 31 #[.slice A len cap, .slice A' len' cap'] w fun e w' => e = .returned (.bool (decide (xs = ys))) ∧ Below w.heap.size w w' := by
  have hl := hS.len
  have hl' := hS'.len
  have hne := @neYears
  by_cases hll : len = len'
  · subst hll
    go_enter Tryd.func31, Tryd.ntmps31
    go_wp2_with fail
    go_loopw [5] (fun i wr => ∃ k : Nat, k ≤ len ∧ i = .int .i64 k ∧ xs.take k = ys.take k ∧ Below w.heap.size w wr) (fun i _ => len - (intOf i).toNat)
    case atStart => exact ⟨0, by omega, rfl, rfl, Below.refl _ _⟩
    case round =>
      obtain ⟨k, hk, rfl, hn, hb⟩ := hrel
      have HN := Lib.hid hn; clear hn
      by_cases hlt : k < len
      · obtain ⟨b, off, x, rfl, _, hbb, hx, hcx⟩ := (hS.below hb (Nat.le_refl _)).at_ hlt
        obtain ⟨b', off', y, rfl, _, hbb', hy, hcy⟩ := (hS'.below hb (Nat.le_refl _)).at_ hlt
        have hc0 : wr.cell? ⟨b, off + k * 2, none⟩ = some (.int .i64 x.1) := hcx 0 _ rfl
        have hc1 : wr.cell? ⟨b, off + k * 2 + 1, none⟩ = some (.int .i64 x.2) := hcx 1 _ rfl
        have hd0 : wr.cell? ⟨b', off' + k * 2, none⟩ = some (.int .i64 y.1) := hcy 0 _ rfl
        have hd1 : wr.cell? ⟨b', off' + k * 2 + 1, none⟩ = some (.int .i64 y.2) := hcy 1 _ rfl
        have HX := Lib.hid hx; clear hx hcx
        have HY := Lib.hid hy; clear hy hcy
        have hq : ((x.1 == y.1) && (x.2 == y.2)) = decide (x = y) := pair_beq x y
        by_cases he : x = y
        · have hq' : ((x.1 == y.1) && (x.2 == y.2)) = true := by rw [hq]; simp [he]
          have HE := Lib.hid he; clear he hq
          go_wp2_with fail
          go_quiet (fail)
          go_wp2_with fail
          go_roundw
          case rel => exact ⟨k + 1, by omega, by go_num, (eq_take_succ HX.out HY.out).2 ⟨HN.out, HE.out⟩, by (repeat (first | exact Below.refl _ _ | assumption | refine Below.alloc ?_ (by first | omega | (simp only [World.size_alloc]; omega) | (simp; done) | (simp; omega)) _ | refine Below.setCell ?_ (by first | omega | (simp only [World.size_alloc]; omega) | (simp; done) | (simp; omega)) _ | refine Below.drew ?_ | refine below_drewN ?_ _))⟩
          case measure => simp [intOf]; omega
        · have hq' : ((x.1 == y.1) && (x.2 == y.2)) = false := by rw [hq]; simp [he]
          have HE := Lib.hid he; clear he hq
          go_wp2_with fail
          go_quiet (fail)
          go_wp2_with fail
          go_ret
          refine ⟨?_, by (repeat (first | exact Below.refl _ _ | assumption | refine Below.alloc ?_ (by first | omega | (simp only [World.size_alloc]; omega) | (simp; done) | (simp; omega)) _ | refine Below.setCell ?_ (by first | omega | (simp only [World.size_alloc]; omega) | (simp; done) | (simp; omega)) _ | refine Below.drew ?_ | refine below_drewN ?_ _))⟩
          have hxy : ¬ xs = ys := by
            rintro rfl
            exact HE.out (Option.some.inj (HX.out.symm.trans HY.out))
          simp [hxy]
      · obtain rfl : k = len := by omega
        have hn := HN.out
        rw [List.take_of_length_le (by omega), List.take_of_length_le (by omega)] at hn
        have HN2 := Lib.hid hn; clear hn HN
        go_wp2_with fail
        go_ret
        exact ⟨by simp [HN2.out], hb⟩
  · have hxy : Hid (¬ xs = ys) := by
      show ¬ xs = ys
      rintro rfl; omega
    go_enter Tryd.func31, Tryd.ntmps31
    go_wp2_with fail
    go_ret
    exact ⟨by simp [hxy.out], Below.refl _ _⟩
end Go.Proofs.YthbckkjihijekaaDoor
