/- The laws: growing, meeting. -/
import Derived.Test.YthbckkjihijekaaDoorLb
set_option linter.unusedSimpArgs false
set_option linter.unusedVariables false
namespace Go.Proofs.YthbckkjihijekaaDoor
open Go.RowKit

theorem keep4 {w0 w w1 : World} {p g : Nat} {a0 a1 g0 g1 : Value} (hp : p < w0.heap.size) (hg : g < w0.heap.size)
    (H : w.cell? ⟨p, 0, none⟩ = some a0 ∧ w.cell? ⟨p, 1, none⟩ = some a1 ∧ w.cell? ⟨g, 0, none⟩ = some g0 ∧ w.cell? ⟨g, 1, none⟩ = some g1 ∧ Below w0.heap.size w0 w) (hb : Below w.heap.size w w1) :
    w1.cell? ⟨p, 0, none⟩ = some a0 ∧ w1.cell? ⟨p, 1, none⟩ = some a1 ∧ w1.cell? ⟨g, 0, none⟩ = some g0 ∧ w1.cell? ⟨g, 1, none⟩ = some g1 ∧ Below w0.heap.size w0 w1 := by
  obtain ⟨x0, x1, x6, x7, xb⟩ := H
  exact ⟨keepC x0 xb hp hb, keepC x1 xb hp hb, keepC x6 xb hg hb, keepC x7 xb hg hb, xb.trans (hb.mono xb.size)⟩
theorem keep6 {w0 w w1 : World} {p m g : Nat} {a0 a1 m0 m1 g0 g1 : Value} (hp : p < w0.heap.size) (hm : m < w0.heap.size) (hg : g < w0.heap.size)
    (H : w.cell? ⟨p, 0, none⟩ = some a0 ∧ w.cell? ⟨p, 1, none⟩ = some a1 ∧ w.cell? ⟨m, 0, none⟩ = some m0 ∧ w.cell? ⟨m, 1, none⟩ = some m1 ∧ w.cell? ⟨g, 0, none⟩ = some g0 ∧ w.cell? ⟨g, 1, none⟩ = some g1 ∧ Below w0.heap.size w0 w) (hb : Below w.heap.size w w1) :
    w1.cell? ⟨p, 0, none⟩ = some a0 ∧ w1.cell? ⟨p, 1, none⟩ = some a1 ∧ w1.cell? ⟨m, 0, none⟩ = some m0 ∧ w1.cell? ⟨m, 1, none⟩ = some m1 ∧ w1.cell? ⟨g, 0, none⟩ = some g0 ∧ w1.cell? ⟨g, 1, none⟩ = some g1 ∧ Below w0.heap.size w0 w1 := by
  obtain ⟨x0, x1, x2, x3, x6, x7, xb⟩ := H
  exact ⟨keepC x0 xb hp hb, keepC x1 xb hp hb, keepC x2 xb hm hb, keepC x3 xb hm hb, keepC x6 xb hg hb, keepC x7 xb hg hb, xb.trans (hb.mono xb.size)⟩
theorem lenV_ok {a b : Int} (h : validB a b = true) : lenV a b = b - a + 1 := by simp [lenV, h]
theorem grow_law (a b n : Int) : (∃ code, (code = 1 ∨ code = 2) ∧ growV a b n = .tuple #[.agg #[.int .i64 0, .int .i64 0], .int .i64 code]) ∨
    (0 ≤ n ∧ n ≤ 19998 ∧ 0 ≤ lenV a b ∧ lenV a b ≤ 20000 ∧ lenV (a - n) (b + n) = lenV a b + 2 * n ∧ growV a b n = .tuple #[.agg #[.int .i64 (a - n), .int .i64 (b + n)], .int .i64 0]) := by
  by_cases h1 : validB a b = true
  · by_cases h2 : (decide (n < 0) || decide (19998 < n)) = true
    · exact .inl ⟨2, .inr rfl, by unfold growV; rw [if_pos h1, if_pos h2]⟩
    · by_cases h3 : validB (a - n) (b + n) = true
      · refine .inr ?_
        obtain ⟨k1, k2, k3⟩ := (validB_iff a b).1 h1
        rw [lenV_ok h1, lenV_ok h3]
        have h2' := h2
        simp at h2'
        exact ⟨by omega, by omega, by omega, by omega, by omega, by unfold growV; rw [if_pos h1, if_neg h2, if_pos h3]⟩
      · exact .inl ⟨2, .inr rfl, by unfold growV; rw [if_pos h1, if_neg h2, if_neg h3]⟩
  · exact .inl ⟨1, .inl rfl, by unfold growV; rw [if_neg h1]⟩

set_option maxRecDepth 100000 in
set_option maxHeartbeats 2000000 in
theorem grows_of (HC : Hid CoverSaid) (a b n : Int) (w : World) (hE : Env w) :
    Calls Tryd.prog 9 #[.agg #[.int .i64 a, .int .i64 b], .int .i64 n] w fun e w' => e = .returned (.bool true) ∧ Below w.heap.size w w' := by
  obtain ⟨hb0, P⟩ := one_box w a b 23
  have HG := Lib.hid (grow_eq a b n)
  go_enter Tryd.func9, Tryd.ntmps9
  go_wp2_with fail
  go_fit (awake_of HC _ (hE.step hb0))
  rintro e w1 ⟨rfl, hb1⟩
  have hb := hb0.trans (hb1.mono hb0.size)
  replace P := P.below hb1
  clear hb1 hb0
  have Pc0 := P.c0; have Pc1 := P.c1; have Plt := P.lt
  rcases grow_law a b n with ⟨code, hcode, hg⟩ | ⟨n0, n1, n2, n3, n4, hg⟩
  · have HV := Lib.hid hg; clear hg
    go_wp2_with fail
    go_fit (grow_any a b n _)
    rw [HV.out]
    rintro e w2 ⟨rfl, hb2⟩
    have hb' := hb.trans (hb2.mono hb.size)
    (try clear Pc0 Pc1 Plt); replace P := P.below hb2
    clear hb2 hb
    have Pc0 := P.c0; have Pc1 := P.c1; have Plt := P.lt
    go_wp2_with fail
    go_fit (rgrow_any a b n _)
    rw [← HG.out, HV.out]
    rintro e w3 ⟨rfl, hb3⟩
    obtain ⟨hw3, hb, G⟩ := box_step hb' hb3
    (try clear Pc0 Pc1 Plt); replace P := P.below hw3
    clear hb3 hb' hw3
    generalize w2.heap.size = bg at *
    have hb' := hb.trans ((one_box w3 0 0 23).1.mono hb.size)
    have Gc0 := G.c0; have Gc1 := G.c1; have Glt := G.lt
    have heq := eqYears
    rcases hcode with rfl | rfl
    · go_wp2_with fail
      go_quiet (fail)
      go_wp2_with fail
      go_ret
      exact ⟨rfl, below_drewN hb' _⟩
    · go_wp2_with fail
      go_quiet (fail)
      go_wp2_with fail
      go_ret
      exact ⟨rfl, below_drewN hb' _⟩
  · have HV := Lib.hid hg; clear hg
    have HN := Lib.hid n4
    clear n4
    go_wp2_with fail
    go_fit (grow_any a b n _)
    rw [HV.out]
    rintro e w2 ⟨rfl, hb2⟩
    have hb' := hb.trans (hb2.mono hb.size)
    (try clear Pc0 Pc1 Plt); replace P := P.below hb2
    clear hb2 hb
    have Pc0 := P.c0; have Pc1 := P.c1; have Plt := P.lt
    go_wp2_with fail
    go_fit (rgrow_any a b n _)
    rw [← HG.out, HV.out]
    rintro e w3 ⟨rfl, hb3⟩
    obtain ⟨hw3, hb, G⟩ := box_step hb' hb3
    (try clear Pc0 Pc1 Plt); replace P := P.below hw3
    clear hb3 hb' hw3
    generalize w2.heap.size = bg at *
    clear HV HG
    have hn4 := HN.out
    generalize hg0 : a - n = g0 at *
    generalize hg1 : b + n = g1 at *
    clear hg0 hg1 HN
    have Gc0 := G.c0; have Gc1 := G.c1; have Glt := G.lt; have Pc0 := P.c0; have Pc1 := P.c1; have Plt := P.lt
    have heq := eqYears
    go_wp2_with fail
    obtain ⟨hb4, F⟩ := one_box w3 g0 g1 23
    generalize hW : w3.alloc (.cells #[.int .i64 g0, .int .i64 g1] 23) = W at *
    replace hb := hb.trans (hb4.mono hb.size)
    (try clear Pc0 Pc1 Plt Gc0 Gc1 Glt); replace P := P.below hb4; replace G := G.below hb4
    clear hW hb4
    generalize w3.heap.size = bf at *
    have Pc0 := P.c0; have Pc1 := P.c1; have Plt := P.lt; have Gc0 := G.c0; have Gc1 := G.c1; have Glt := G.lt; have Fc0 := F.c0; have Fc1 := F.c1; have Flt := F.lt
    have hw2 : IntKind.i64.wrap (2 * n) = 2 * n := by rw [IntKind.wrap_i64]; omega
    have hw3 : IntKind.i64.wrap (lenV a b + 2 * n) = lenV a b + 2 * n := by rw [IntKind.wrap_i64]; omega
    go_region_held3 (fun V => V.cell? ⟨w.heap.size, 0, none⟩ = some (.int .i64 a) ∧ V.cell? ⟨w.heap.size, 1, none⟩ = some (.int .i64 b) ∧ V.cell? ⟨bg, 0, none⟩ = some (.int .i64 g0) ∧ V.cell? ⟨bg, 1, none⟩ = some (.int .i64 g1) ∧ V.cell? ⟨bf, 0, none⟩ = some (.int .i64 g0) ∧ V.cell? ⟨bf, 1, none⟩ = some (.int .i64 g1) ∧ Below W.heap.size W V)
      (first | exact ⟨Pc0, Pc1, Gc0, Gc1, Fc0, Fc1, Below.drew (Below.refl _ _)⟩ | exact keep6 Plt Glt Flt (by assumption) (by assumption) | go_keep)
      ((go_at_call 19; refine (lenb_any _ _ _).mono ?_; rintro e w2 ⟨rfl, hb2⟩))
    go_wp2_with fail
    go_ret
    rename_i hH
    exact ⟨rfl, hb.trans (hH.2.2.2.2.2.2.mono hb.size)⟩
end Go.Proofs.YthbckkjihijekaaDoor
