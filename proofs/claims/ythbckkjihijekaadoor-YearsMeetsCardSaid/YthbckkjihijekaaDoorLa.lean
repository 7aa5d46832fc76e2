/- The laws: valid, length, meet, hull; and what the walks of the laws share. -/
import Derived.Test.YthbckkjihijekaaDoorAw
set_option linter.unusedSimpArgs false
set_option linter.unusedVariables false
namespace Go.Proofs.YthbckkjihijekaaDoor
open Go.RowKit

theorem meetV_form (a b c d : Int) : ∃ x y o, meetV a b c d = .tuple #[.agg #[.int .i64 x, .int .i64 y], .bool o] := by
  unfold meetV; split
  · exact ⟨_, _, _, rfl⟩
  · exact ⟨_, _, _, rfl⟩
theorem hullV_form (a b c d : Int) : ∃ x y o, hullV a b c d = .tuple #[.agg #[.int .i64 x, .int .i64 y], .int .i64 o] := by
  unfold hullV; split
  · exact ⟨_, _, _, rfl⟩
  · exact ⟨_, _, _, rfl⟩
theorem growV_form (a b n : Int) : ∃ x y o, growV a b n = .tuple #[.agg #[.int .i64 x, .int .i64 y], .int .i64 o] := by
  unfold growV; repeat' split
  all_goals exact ⟨_, _, _, rfl⟩
theorem mx_mn_valid (a b c d : Int) (h1 : validB a b = true) (h2 : validB c d = true) : validB (mx a c) (mn b d) = !decide (mn b d < mx a c) := by
  rw [validB_iff] at h1 h2
  have hx : (mx a c = a ∨ mx a c = c) ∧ a ≤ mx a c ∧ c ≤ mx a c := by unfold mx; split <;> omega
  have hn : (mn b d = b ∨ mn b d = d) ∧ mn b d ≤ b ∧ mn b d ≤ d := by unfold mn; split <;> omega
  by_cases h : mn b d < mx a c
  · rw [decide_eq_true h, Bool.not_true, validB_false]; omega
  · rw [decide_eq_false h, Bool.not_false, validB_iff]; omega
theorem meet_eq (a b c d : Int) : meetV a b c d = rmeetV a b c d := by
  unfold meetV rmeetV
  by_cases h1 : validB a b = true
  · by_cases h2 : validB c d = true
    · rw [mx_mn_valid a b c d h1 h2]
    · simp [h2]
  · simp [h1]
theorem grow_eq (a b n : Int) : growV a b n = rgrowV a b n := by
  unfold growV rgrowV
  by_cases h1 : validB a b = true
  · have h1' := (validB_iff a b).1 h1
    rw [if_pos h1, if_pos h1]
    by_cases h2 : 19998 < n
    · rw [if_pos (by simp; omega)]
      have hv : validB (a - n) (b + n) = false := by rw [validB_false]; omega
      by_cases h3 : 20000 < n
      · rw [if_pos (show (decide (n < 0) || decide (20000 < n)) = true from by simp; omega)]
      · rw [if_neg (show ¬ (decide (n < 0) || decide (20000 < n)) = true from by simp; omega), hv]; rfl
    · by_cases h4 : n < 0
      · rw [if_pos (show (decide (n < 0) || decide (19998 < n)) = true from by simp [h4]), if_pos (show (decide (n < 0) || decide (20000 < n)) = true from by simp [h4])]
      · rw [if_neg (show ¬ (decide (n < 0) || decide (19998 < n)) = true from by simp; omega), if_neg (show ¬ (decide (n < 0) || decide (20000 < n)) = true from by simp; omega)]
  · rw [if_neg h1, if_neg h1]
theorem two_boxes (w : World) (a b c d : Int) (t u : TypeId) :
    Below w.heap.size w ((w.alloc (.cells #[.int .i64 a, .int .i64 b] t)).alloc (.cells #[.int .i64 c, .int .i64 d] u)) ∧
    Box ((w.alloc (.cells #[.int .i64 a, .int .i64 b] t)).alloc (.cells #[.int .i64 c, .int .i64 d] u)) w.heap.size a b ∧
    Box ((w.alloc (.cells #[.int .i64 a, .int .i64 b] t)).alloc (.cells #[.int .i64 c, .int .i64 d] u)) (w.heap.size + 1) c d := by
  have h0 : Below w.heap.size w (w.alloc (.cells #[.int .i64 a, .int .i64 b] t)) := (Below.refl _ _).alloc (Nat.le_refl _) _
  have h1 := (Below.refl (w.alloc (.cells #[.int .i64 a, .int .i64 b] t)).heap.size (w.alloc (.cells #[.int .i64 a, .int .i64 b] t))).alloc (Nat.le_refl _) (.cells #[.int .i64 c, .int .i64 d] u)
  refine ⟨h0.trans (h1.mono (by simp)), (Box.new w a b t).below h1, ?_⟩
  have h := Box.new (w.alloc (.cells #[.int .i64 a, .int .i64 b] t)) c d u
  rwa [World.size_alloc] at h
theorem one_box (w : World) (a b : Int) (t : TypeId) :
    Below w.heap.size w (w.alloc (.cells #[.int .i64 a, .int .i64 b] t)) ∧ Box (w.alloc (.cells #[.int .i64 a, .int .i64 b] t)) w.heap.size a b :=
  ⟨(Below.refl _ _).alloc (Nat.le_refl _) _, Box.new w a b t⟩
theorem validb_any (a b : Int) (w : World) : Calls Tryd.prog 17 #[.agg #[.int .i64 a, .int .i64 b]] w fun e w' => e = .returned (.bool (validB a b)) ∧ Below w.heap.size w w' :=
  (valid_any a b w).mono fun e w' ⟨he, hw⟩ => ⟨he, by rw [← hw]; (repeat (first | exact Below.refl _ _ | assumption | refine Below.alloc ?_ (by first | omega | (simp only [World.size_alloc]; omega) | (simp; done) | (simp; omega)) _ | refine Below.setCell ?_ (by first | omega | (simp only [World.size_alloc]; omega) | (simp; done) | (simp; omega)) _ | refine Below.drew ?_ | refine below_drewN ?_ _))⟩
theorem rvalidb_any (a b : Int) (w : World) : Calls Tryd.prog 18 #[.agg #[.int .i64 a, .int .i64 b]] w fun e w' => e = .returned (.bool (validB a b)) ∧ Below w.heap.size w w' :=
  (rvalid_any a b w).mono fun e w' ⟨he, hw⟩ => ⟨he, by rw [← hw]; (repeat (first | exact Below.refl _ _ | assumption | refine Below.alloc ?_ (by first | omega | (simp only [World.size_alloc]; omega) | (simp; done) | (simp; omega)) _ | refine Below.setCell ?_ (by first | omega | (simp only [World.size_alloc]; omega) | (simp; done) | (simp; omega)) _ | refine Below.drew ?_ | refine below_drewN ?_ _))⟩
def lenV (a b : Int) : Int := if validB a b then b - a + 1 else 0
theorem lenb_any (a b : Int) (w : World) : Calls Tryd.prog 19 #[.agg #[.int .i64 a, .int .i64 b]] w fun e w' => e = .returned (.int .i64 (lenV a b)) ∧ Below w.heap.size w w' := length_any a b w
theorem rlenb_any (a b : Int) (w : World) : Calls Tryd.prog 20 #[.agg #[.int .i64 a, .int .i64 b]] w fun e w' => e = .returned (.int .i64 (lenV a b)) ∧ Below w.heap.size w w' := rlength_any a b w
theorem keepC {w0 w w1 : World} {b o : Nat} {x : Value} (h : w.cell? ⟨b, o, none⟩ = some x) (hS : Below w0.heap.size w0 w) (hz : b < w0.heap.size) (hb : Below w.heap.size w w1) : w1.cell? ⟨b, o, none⟩ = some x := by
  have := hS.size
  exact (hb.cell (p := ⟨b, o, none⟩) (by show b < _; omega)).trans h
theorem keep5 {w0 w w1 : World} {p m n g h : Nat} {a0 a1 m0 m1 n0 n1 g0 g1 h0 h1 : Value}
    (hp : p < w0.heap.size) (hm : m < w0.heap.size) (hn : n < w0.heap.size) (hg : g < w0.heap.size) (hh : h < w0.heap.size)
    (H : w.cell? ⟨p, 0, none⟩ = some a0 ∧ w.cell? ⟨p, 1, none⟩ = some a1 ∧ w.cell? ⟨m, 0, none⟩ = some m0 ∧ w.cell? ⟨m, 1, none⟩ = some m1 ∧ w.cell? ⟨n, 0, none⟩ = some n0 ∧ w.cell? ⟨n, 1, none⟩ = some n1 ∧
      w.cell? ⟨g, 0, none⟩ = some g0 ∧ w.cell? ⟨g, 1, none⟩ = some g1 ∧ w.cell? ⟨h, 0, none⟩ = some h0 ∧ w.cell? ⟨h, 1, none⟩ = some h1 ∧ Below w0.heap.size w0 w) (hb : Below w.heap.size w w1) :
    w1.cell? ⟨p, 0, none⟩ = some a0 ∧ w1.cell? ⟨p, 1, none⟩ = some a1 ∧ w1.cell? ⟨m, 0, none⟩ = some m0 ∧ w1.cell? ⟨m, 1, none⟩ = some m1 ∧ w1.cell? ⟨n, 0, none⟩ = some n0 ∧ w1.cell? ⟨n, 1, none⟩ = some n1 ∧
      w1.cell? ⟨g, 0, none⟩ = some g0 ∧ w1.cell? ⟨g, 1, none⟩ = some g1 ∧ w1.cell? ⟨h, 0, none⟩ = some h0 ∧ w1.cell? ⟨h, 1, none⟩ = some h1 ∧ Below w0.heap.size w0 w1 := by
  obtain ⟨x0, x1, x2, x3, x4, x5, x6, x7, x8, x9, xb⟩ := H
  have := xb.size
  exact ⟨keepC x0 xb hp hb, keepC x1 xb hp hb, keepC x2 xb hm hb, keepC x3 xb hm hb, keepC x4 xb hn hb, keepC x5 xb hn hb, keepC x6 xb hg hb, keepC x7 xb hg hb, keepC x8 xb hh hb, keepC x9 xb hh hb, xb.trans (hb.mono this)⟩

set_option maxRecDepth 100000 in
set_option maxHeartbeats 2000000 in
theorem match_of (HC : Hid CoverSaid) (a b c d : Int) (w : World) (hE : Env w) :
    Calls Tryd.prog 3 #[.agg #[.int .i64 a, .int .i64 b], .agg #[.int .i64 c, .int .i64 d]] w fun e w' => e = .returned (.bool true) ∧ Below w.heap.size w w' := by
  obtain ⟨hb0, P, Q⟩ := two_boxes w a b c d 23 23
  go_enter Tryd.func3, Tryd.ntmps3
  go_wp2_with fail
  go_fit (awake_of HC _ (hE.step hb0))
  rintro e w1 ⟨rfl, hb1⟩
  have hb := hb0.trans (hb1.mono hb0.size)
  replace P := P.below hb1
  replace Q := Q.below hb1
  clear hb1 hb0
  obtain ⟨m0, m1, mo, hm⟩ := meetV_form a b c d
  have hm' := (meet_eq a b c d).symm.trans hm
  obtain ⟨h0, h1, ho, hh⟩ := hullV_form a b c d
  have HM := Lib.hid hm; clear hm
  have HM' := Lib.hid hm'; clear hm'
  have HH := Lib.hid hh; clear hh
  have Pc0 := P.c0; have Pc1 := P.c1; have Plt := P.lt; have Qc0 := Q.c0; have Qc1 := Q.c1; have Qlt := Q.lt
  go_wp2_with fail
  go_fit (meet_any a b c d _)
  rw [HM.out]
  rintro e w2 ⟨rfl, hb2⟩
  have hb' := hb.trans (hb2.mono hb.size)
  (try clear Pc0 Pc1 Plt Qc0 Qc1 Qlt); replace P := P.below hb2; replace Q := Q.below hb2
  clear hb2 hb
  have Pc0 := P.c0; have Pc1 := P.c1; have Plt := P.lt; have Qc0 := Q.c0; have Qc1 := Q.c1; have Qlt := Q.lt
  go_wp2_with fail
  go_fit (rmeet_any a b c d _)
  rw [HM'.out]
  rintro e w3 ⟨rfl, hb3⟩
  obtain ⟨hw3, hb, M⟩ := box_step hb' hb3
  (try clear Pc0 Pc1 Plt Qc0 Qc1 Qlt); replace P := P.below hw3; replace Q := Q.below hw3
  clear hb3 hb' hw3
  generalize w2.heap.size = bm at *
  have Pc0 := P.c0; have Pc1 := P.c1; have Plt := P.lt; have Qc0 := Q.c0; have Qc1 := Q.c1; have Qlt := Q.lt
  go_wp2_with fail
  go_fit (hull_any a b c d _)
  rw [HH.out]
  rintro e w4 ⟨rfl, hb4⟩
  obtain ⟨hw4, hb', N⟩ := box_step hb hb4
  (try clear Pc0 Pc1 Plt Qc0 Qc1 Qlt Mc0 Mc1 Mlt); replace P := P.below hw4; replace Q := Q.below hw4; replace M := M.below hw4
  clear hb4 hb hw4
  generalize w3.heap.size = bn at *
  have Pc0 := P.c0; have Pc1 := P.c1; have Plt := P.lt; have Qc0 := Q.c0; have Qc1 := Q.c1; have Qlt := Q.lt
  go_wp2_with fail
  go_fit (rhull_any a b c d _)
  rw [HH.out]
  rintro e w5 ⟨rfl, hb5⟩
  obtain ⟨hw5, hb, H⟩ := box_step hb' hb5
  (try clear Pc0 Pc1 Plt Qc0 Qc1 Qlt Mc0 Mc1 Mlt Nc0 Nc1 Nlt); replace P := P.below hw5; replace Q := Q.below hw5; replace M := M.below hw5; replace N := N.below hw5
  clear hb5 hb' hw5
  generalize w4.heap.size = bh at *
  have Pc0 := P.c0; have Pc1 := P.c1; have Plt := P.lt
  go_wp2_with fail
  obtain ⟨hb6, G⟩ := one_box w5 h0 h1 23
  generalize hW : w5.alloc (.cells #[.int .i64 h0, .int .i64 h1] 23) = W at *
  clear hW
  replace hb := hb.trans (hb6.mono hb.size)
  (try clear Pc0 Pc1 Plt Qc0 Qc1 Qlt Mc0 Mc1 Mlt Nc0 Nc1 Nlt Hc0 Hc1 Hlt); replace P := P.below hb6; replace Q := Q.below hb6; replace M := M.below hb6; replace N := N.below hb6; replace H := H.below hb6
  clear Q hb6
  generalize w5.heap.size = bg at *
  have heq := eqYears
  have Pc0 := P.c0; have Pc1 := P.c1; have Plt := P.lt; have Mc0 := M.c0; have Mc1 := M.c1; have Mlt := M.lt; have Nc0 := N.c0; have Nc1 := N.c1; have Nlt := N.lt; have Hc0 := H.c0; have Hc1 := H.c1; have Hlt := H.lt; have Gc0 := G.c0; have Gc1 := G.c1; have Glt := G.lt
  go_region_held3 (fun V => V.cell? ⟨w.heap.size, 0, none⟩ = some (.int .i64 a) ∧ V.cell? ⟨w.heap.size, 1, none⟩ = some (.int .i64 b) ∧ V.cell? ⟨bm, 0, none⟩ = some (.int .i64 m0) ∧ V.cell? ⟨bm, 1, none⟩ = some (.int .i64 m1) ∧ V.cell? ⟨bn, 0, none⟩ = some (.int .i64 m0) ∧ V.cell? ⟨bn, 1, none⟩ = some (.int .i64 m1) ∧
      V.cell? ⟨bh, 0, none⟩ = some (.int .i64 h0) ∧ V.cell? ⟨bh, 1, none⟩ = some (.int .i64 h1) ∧ V.cell? ⟨bg, 0, none⟩ = some (.int .i64 h0) ∧ V.cell? ⟨bg, 1, none⟩ = some (.int .i64 h1) ∧ Below W.heap.size W V)
    (first | exact ⟨Pc0, Pc1, Mc0, Mc1, Nc0, Nc1, Hc0, Hc1, Gc0, Gc1, Below.drew (Below.refl _ _)⟩ | exact keep5 Plt Mlt Nlt Hlt Glt (by assumption) (by assumption) | go_keep)
    (first
      | (go_at_call 17; refine (validb_any _ _ _).mono ?_; rintro e w2 ⟨rfl, hb2⟩)
      | (go_at_call 18; refine (rvalidb_any _ _ _).mono ?_; rintro e w2 ⟨rfl, hb2⟩)
      | (go_at_call 19; refine (lenb_any _ _ _).mono ?_; rintro e w2 ⟨rfl, hb2⟩)
      | (go_at_call 20; refine (rlenb_any _ _ _).mono ?_; rintro e w2 ⟨rfl, hb2⟩))
  go_wp2_with fail
  go_ret
  rename_i hH
  exact ⟨rfl, hb.trans (hH.2.2.2.2.2.2.2.2.2.2.mono hb.size)⟩
end Go.Proofs.YthbckkjihijekaaDoor
