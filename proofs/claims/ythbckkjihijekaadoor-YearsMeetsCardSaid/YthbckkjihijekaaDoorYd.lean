/- Walks of the reference's relation. -/
import Derived.Test.YthbckkjihijekaaDoorYc
set_option linter.unusedSimpArgs false
set_option linter.unusedVariables false
namespace Go.Proofs.YthbckkjihijekaaDoor
open Go.RowKit

/-- One of the relations 1 to 7. -/
def holdsB (a b c d : Int) (n : Nat) : Bool :=
  match n with
  | 1 => decide (b + 1 < c)
  | 2 => b + 1 == c
  | 3 => decide (a < c) && decide (c ≤ b) && decide (b < d)
  | 4 => a == c && decide (b < d)
  | 5 => decide (a > c) && decide (b < d)
  | 6 => decide (a > c) && b == d
  | _ => a == c && b == d

theorem eqYears (a b c d : Int) (w : World) : (binOp .eql 23 (.agg #[.int .i64 a, .int .i64 b]) (.agg #[.int .i64 c, .int .i64 d])).run Tryd.prog w = .ok (.bool (a == c && b == d)) w := by
  have u3 := Tryd.underlying3
  have hS : Tryd.prog.underlying 23 = some (.struct (Tryd.prog.fieldsOf 23)) := by kernel_rfl
  have hp : Tryd.prog.stoodInHeld 23 = false := by kernel_rfl
  rw [run_eql_struct, show (10000 : Nat) = 9999 + 1 from rfl, run_equalIn_agg w 9999 23 _ _ hS hp]
  simp only [Program.fieldsOf, Tryd.underlying23]
  go_simp
  by_cases h1 : a = c <;> by_cases h2 : b = d <;> simp [h1, h2]

set_option maxHeartbeats 2000000 in
theorem holds_any (a b c d : Int) (n : Nat) (w : World) (hv : validB a b = true) (hv' : validB c d = true) (hn : 1 ≤ n) (hn7 : n ≤ 7) :
    Calls Tryd.prog 42 #[.agg #[.int .i64 a, .int .i64 b], .agg #[.int .i64 c, .int .i64 d], .int .i64 n] w fun e w' => e = .returned (.bool (holdsB a b c d n)) ∧ Below w.heap.size w w' := by
  obtain ⟨h1, h2, h3⟩ := (validB_iff a b).1 hv
  obtain ⟨h4, h5, h6⟩ := (validB_iff c d).1 hv'
  clear hv hv'
  have heq := eqYears
  rcases (by omega : n = 1 ∨ n = 2 ∨ n = 3 ∨ n = 4 ∨ n = 5 ∨ n = 6 ∨ n = 7) with rfl | rfl | rfl | rfl | rfl | rfl | rfl
  all_goals
    go_enter Tryd.func42, Tryd.ntmps42
    go_wp2
    all_goals go_ret
    all_goals refine ⟨?_, by (repeat (first | exact Below.refl _ _ | assumption | refine Below.alloc ?_ (by first | omega | (simp only [World.size_alloc]; omega) | (simp; done) | (simp; omega)) _ | refine Below.setCell ?_ (by first | omega | (simp only [World.size_alloc]; omega) | (simp; done) | (simp; omega)) _ | refine Below.drew ?_ | refine below_drewN ?_ _))⟩
    all_goals simp [holdsB, *]
    all_goals (try omega)

/-- What the loop returns when it begins its round with 8 - k. -/
def relR (a b c d : Int) : Nat → Int
  | 0 => 0
  | k + 1 => if holdsB a b c d (7 - k) then ((7 - k : Nat) : Int) else if holdsB c d a b (7 - k) then 14 - ((7 - k : Nat) : Int) else relR a b c d k
def rrelV (a b c d : Int) : Int := if validB a b && validB c d then relR a b c d 7 else 0

theorem relR_step (a b c d : Int) (m : Nat) (h1 : 1 ≤ m) (h7 : m ≤ 7) : relR a b c d (8 - m) = if holdsB a b c d m then (m : Int) else if holdsB c d a b m then 14 - (m : Int) else relR a b c d (8 - (m + 1)) := by
  obtain ⟨k, hk⟩ : ∃ k, k = 7 - m := ⟨_, rfl⟩
  obtain rfl : m = 7 - k := by omega
  rw [show 8 - (7 - k) = k + 1 from by omega, show 8 - (7 - k + 1) = k from by omega]
  rfl

/-- Two boxed years, and what has come since. -/
def boxes (w : World) (a b c d : Int) : World := (w.alloc (.cells #[.int .i64 a, .int .i64 b] 23)).alloc (.cells #[.int .i64 c, .int .i64 d] 23)
theorem boxes_cells {w wr : World} {a b c d : Int} (hb : Below (w.heap.size + 2) (boxes w a b c d) wr) :
    wr.cell? ⟨w.heap.size, 0, none⟩ = some (.int .i64 a) ∧ wr.cell? ⟨w.heap.size, 1, none⟩ = some (.int .i64 b) ∧ wr.cell? ⟨w.heap.size + 1, 0, none⟩ = some (.int .i64 c) ∧ wr.cell? ⟨w.heap.size + 1, 1, none⟩ = some (.int .i64 d) ∧ w.heap.size + 1 < wr.heap.size :=
  ⟨(hb.cell (by simp)).trans (by simp [boxes]), (hb.cell (by simp)).trans (by simp [boxes]), (hb.cell (by simp)).trans (by simp [boxes]), (hb.cell (by simp)).trans (by simp [boxes]), by have := hb.size; simp [boxes] at this; omega⟩
theorem boxes_below {w wr : World} {a b c d : Int} (hb : Below (w.heap.size + 2) (boxes w a b c d) wr) : Below w.heap.size w wr := by
  refine Below.trans ?_ (hb.mono (by omega))
  unfold boxes
  (repeat (first | exact Below.refl _ _ | assumption | refine Below.alloc ?_ (by first | omega | (simp only [World.size_alloc]; omega) | (simp; done) | (simp; omega)) _ | refine Below.setCell ?_ (by first | omega | (simp only [World.size_alloc]; omega) | (simp; done) | (simp; omega)) _ | refine Below.drew ?_ | refine below_drewN ?_ _))

set_option maxHeartbeats 2000000 in
theorem rrelation_any (a b c d : Int) (w : World) :
    Calls Tryd.prog 26 #[.agg #[.int .i64 a, .int .i64 b], .agg #[.int .i64 c, .int .i64 d]] w fun e w' => e = .returned (.int .i64 (rrelV a b c d)) ∧ Below w.heap.size w w' := by
  by_cases hv : validB a b = true
  · by_cases hv' : validB c d = true
    · have hfin : rrelV a b c d = relR a b c d 7 := by simp [rrelV, hv, hv']
      have HF := Lib.hid hfin
      clear hfin
      go_enter Tryd.func26, Tryd.ntmps26
      go_wp2
      go_loopw [5] (fun i wr => ∃ m : Nat, 1 ≤ m ∧ m ≤ 8 ∧ i = .int .i64 (m : Int) ∧ rrelV a b c d = relR a b c d (8 - m) ∧ Below (w.heap.size + 2) (boxes w a b c d) wr) (fun i _ => 8 - (intOf i).toNat)
      case atStart => exact ⟨1, by omega, by omega, rfl, HF.out, Below.refl _ _⟩
      case round =>
        obtain ⟨m, h1m, hm8, rfl, hr, hb⟩ := hrel
        have HR := Lib.hid hr
        clear hr
        obtain ⟨c00, c01, c10, c11, hz0⟩ := boxes_cells hb
        have hz1 : w.heap.size < wr.heap.size := by omega
        have hzz1 : w.heap.size < wr.heap.size + 1 := (by omega); have hzz2 : w.heap.size < wr.heap.size + 2 := (by omega); have hzz3 : w.heap.size < wr.heap.size + 3 := (by omega)
        by_cases hm7 : m ≤ 7
        · have hst := relR_step a b c d m h1m hm7
          have HS := Lib.hid hst
          clear hst
          generalize hB1 : holdsB a b c d m = B1 at *
          generalize hB2 : holdsB c d a b m = B2 at *
          have HB1 := Lib.hid hB1; clear hB1
          have HB2 := Lib.hid hB2; clear hB2
          go_wp2_with (first | (go_at_call 18; refine (rvalid_any _ _ _).mono ?_; rintro e w' ⟨rfl, rfl⟩))
          refine (holds_any _ _ _ _ _ _ hv hv' h1m hm7).mono ?_; rintro e w1 ⟨rfl, hb1⟩
          rw [HB1.out]
          have hb' := (show Below (w.heap.size + 2) (boxes w a b c d) w1 from (by refine Below.trans (b := wr) hb (Below.trans ?_ (hb1.mono (by simp; omega))); (repeat (first | exact Below.refl _ _ | assumption | refine Below.alloc ?_ (by first | omega | (simp only [World.size_alloc]; omega) | (simp; done) | (simp; omega)) _ | refine Below.setCell ?_ (by first | omega | (simp only [World.size_alloc]; omega) | (simp; done) | (simp; omega)) _ | refine Below.drew ?_ | refine below_drewN ?_ _))))
          clear hb1 c00 c01 c10 c11 hzz1 hzz2 hzz3 hz0 hz1
          obtain ⟨c00, c01, c10, c11, hz0⟩ := boxes_cells hb'
          have hz1 : w.heap.size < w1.heap.size := by omega
          have hzz1 : w.heap.size < w1.heap.size + 1 := (by omega); have hzz2 : w.heap.size < w1.heap.size + 2 := (by omega); have hzz3 : w.heap.size < w1.heap.size + 3 := (by omega)
          cases B1
          · go_wp2_with fail
            refine (holds_any _ _ _ _ _ _ hv' hv h1m hm7).mono ?_; rintro e w2 ⟨rfl, hb2⟩
            rw [HB2.out]
            have hb'' := (show Below (w.heap.size + 2) (boxes w a b c d) w2 from (by refine Below.trans (b := w1) hb' (hb2.mono (by omega))))
            clear hb2 c00 c01 c10 c11 hzz1 hzz2 hzz3 hz0 hz1
            cases B2
            · go_wp2
              go_roundw
              case rel => exact ⟨m + 1, by omega, by omega, by go_num, by rw [HR.out, HS.out]; rfl, hb''⟩
              case measure => simp [intOf]; omega
            · go_wp2
              go_ret
              exact ⟨ret_int (by rw [HR.out, HS.out]; rfl), boxes_below hb''⟩
          · go_wp2
            go_ret
            exact ⟨ret_int (by rw [HR.out, HS.out]; rfl), boxes_below hb'⟩
        · obtain rfl : m = 8 := by omega
          go_wp2
          go_ret
          exact ⟨ret_int (by rw [HR.out]; rfl), boxes_below hb⟩
    · go_enter Tryd.func26, Tryd.ntmps26
      go_wp2
      refine wp_loop_rounds 1 ?_; rw [rounds_succ]
      go_wp2_with (first | (go_at_call 18; refine (rvalid_any _ _ _).mono ?_; rintro e w' ⟨rfl, rfl⟩))
      go_ret
      exact ⟨by simp [rrelV, hv'], by (repeat (first | exact Below.refl _ _ | assumption | refine Below.alloc ?_ (by first | omega | (simp only [World.size_alloc]; omega) | (simp; done) | (simp; omega)) _ | refine Below.setCell ?_ (by first | omega | (simp only [World.size_alloc]; omega) | (simp; done) | (simp; omega)) _ | refine Below.drew ?_ | refine below_drewN ?_ _))⟩
  · go_enter Tryd.func26, Tryd.ntmps26
    go_wp2
    refine wp_loop_rounds 1 ?_; rw [rounds_succ]
    go_wp2_with (first | (go_at_call 18; refine (rvalid_any _ _ _).mono ?_; rintro e w' ⟨rfl, rfl⟩))
    go_ret
    exact ⟨by simp [rrelV, hv], by (repeat (first | exact Below.refl _ _ | assumption | refine Below.alloc ?_ (by first | omega | (simp only [World.size_alloc]; omega) | (simp; done) | (simp; omega)) _ | refine Below.setCell ?_ (by first | omega | (simp only [World.size_alloc]; omega) | (simp; done) | (simp; omega)) _ | refine Below.drew ?_ | refine below_drewN ?_ _))⟩

/-- THE PLAIN LAW: the program's relation is the reference's. -/
theorem rel_eq (a b c d : Int) (hv : validB a b = true) (hv' : validB c d = true) : relI a b c d = relR a b c d 7 := by
  obtain ⟨h1, h2, h3⟩ := (validB_iff a b).1 hv
  obtain ⟨h4, h5, h6⟩ := (validB_iff c d).1 hv'
  simp only [relR, holdsB, relI, Bool.and_eq_true, decide_eq_true_eq, beq_iff_eq]
  rcases cmpI_cases a c with ⟨x, hx⟩ | ⟨x, hx⟩ | ⟨x, hx⟩ <;> rcases cmpI_cases b d with ⟨y, hy⟩ | ⟨y, hy⟩ | ⟨y, hy⟩ <;> rw [hx, hy] <;>
  rcases Int.lt_trichotomy (b + 1) c with u | u | u <;> rcases Int.lt_trichotomy (d + 1) a with v | v | v <;>
    first
    | omega
    | (simp (disch := omega) only [if_pos, if_neg])
    | (simp (disch := omega) only [if_pos, if_neg]; omega)
theorem relV_eq (a b c d : Int) : relV a b c d = rrelV a b c d := by
  unfold relV rrelV
  split
  · rename_i h
    simp at h
    exact rel_eq a b c d h.1 h.2
  · rfl
end Go.Proofs.YthbckkjihijekaaDoor
