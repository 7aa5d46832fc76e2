/- The law of meeting. -/
import Derived.Test.YthbckkjihijekaaDoorLd
set_option linter.unusedSimpArgs false
set_option linter.unusedVariables false
namespace Go.Proofs.YthbckkjihijekaaDoor
open Go.RowKit

theorem mx_law (a b : Int) : a ≤ mx a b ∧ b ≤ mx a b ∧ (mx a b = a ∨ mx a b = b) := by unfold mx; split <;> omega
theorem mn_law (a b : Int) : mn a b ≤ a ∧ mn a b ≤ b ∧ (mn a b = a ∨ mn a b = b) := by unfold mn; split <;> omega
theorem hull_law (a b c d : Int) (h1 : validB a b = true) (h2 : validB c d = true) : hullV a b c d = .tuple #[.agg #[.int .i64 (mn a c), .int .i64 (mx b d)], .int .i64 0] ∧ mx (lenV a b) (lenV c d) ≤ lenV (mn a c) (mx b d) := by
  obtain ⟨k1, k2, k3⟩ := (validB_iff a b).1 h1
  obtain ⟨k4, k5, k6⟩ := (validB_iff c d).1 h2
  obtain ⟨x1, x2, x3⟩ := mx_law b d
  obtain ⟨y1, y2, y3⟩ := mn_law a c
  have h3 : validB (mn a c) (mx b d) = true := by rw [validB_iff]; omega
  refine ⟨by unfold hullV; rw [h1, h2]; rfl, ?_⟩
  rw [lenV_ok h1, lenV_ok h2, lenV_ok h3]
  obtain ⟨z1, z2, z3⟩ := mx_law (b - a + 1) (d - c + 1)
  omega

theorem takeW {P : Program} {md : Region.Mode} {ops : Array Oper} {Q : Exit → Act → World → Prop} {S : World → Prop} {fuel : Nat} {listed : Array Bool} {a : Act} {w : World} (i : Nat) {oi : Oper} {v : Value} (hi : ops[i]? = some oi)
    (hw : Region.wanted oi (yielded ops a.tmps) = true) (hy : ∀ w, S w → (execOp a.eval oi).run P w = .ok (.value v) w)
    (hs : Region.noSelect ops = true) (hf : Region.free md ops listed i = true) (hr : (Region.ready md ops listed).contains i = true)
    (hQ : ∀ c a w, Q (.panic c) (a.put oi.dst v) w → Q (.panic c) a w) (hS : S w)
    (h : wpAnyH P md ops Q S fuel (listed.setIfInBounds i true) (a.put oi.dst v) w) : wpAnyH P md ops Q S (fuel + 1) listed a w :=
  wpAnyH_take hi hs hf hr hQ (Or.inl ⟨hw, hy⟩) hS h
theorem takeN {P : Program} {md : Region.Mode} {ops : Array Oper} {Q : Exit → Act → World → Prop} {S : World → Prop} {fuel : Nat} {listed : Array Bool} {a : Act} {w : World} (i : Nat) {oi : Oper} (hi : ops[i]? = some oi)
    (hw : Region.wanted oi (yielded ops a.tmps) = false)
    (hs : Region.noSelect ops = true) (hf : Region.free md ops listed i = true) (hr : (Region.ready md ops listed).contains i = true)
    (hQ : ∀ c a w, Q (.panic c) (a.put oi.dst undef) w → Q (.panic c) a w) (hS : S w)
    (h : wpAnyH P md ops Q S fuel (listed.setIfInBounds i true) (a.put oi.dst undef) w) : wpAnyH P md ops Q S (fuel + 1) listed a w :=
  wpAnyH_take hi hs hf hr hQ (Or.inr ⟨hw, rfl⟩) hS h
theorem dec_cases (p : Prop) [Decidable p] : (p ∧ decide p = true) ∨ (¬ p ∧ decide p = false) := by
  by_cases h : p
  · exact .inl ⟨h, decide_eq_true h⟩
  · exact .inr ⟨h, decide_eq_false h⟩
theorem lt_ge (a b : Int) : a < b ∨ b ≤ a := by omega

set_option maxRecDepth 100000 in
set_option maxHeartbeats 20000000 in
theorem meets_of (HC : Hid CoverSaid) (a b c d n : Int) (w : World) (hE : Env w) (hn1 : -32768 ≤ n) (hn2 : n ≤ 32767) :
    Calls Tryd.prog 8 #[.agg #[.int .i64 a, .int .i64 b], .agg #[.int .i64 c, .int .i64 d], .int .i16 n] w fun e w' => e = .returned (.bool true) ∧ Below w.heap.size w w' := by
  obtain ⟨hb0, P, Q⟩ := two_boxes w a b c d 23 23
  go_enter Tryd.func8, Tryd.ntmps8
  go_wp2_with fail
  go_fit (awake_of HC _ (hE.step hb0))
  rintro e w1 ⟨rfl, hb1⟩
  have hb := hb0.trans (hb1.mono hb0.size)
  replace P := P.below hb1
  replace Q := Q.below hb1
  clear hb1 hb0
  have Pc0 := P.c0; have Pc1 := P.c1; have Plt := P.lt; have Qc0 := Q.c0; have Qc1 := Q.c1; have Qlt := Q.lt
  go_wp2_with fail
  go_fit (rvalidb_any a b _)
  rintro e w2 ⟨rfl, hb2⟩
  have hb' := hb.trans (hb2.mono hb.size)
  (try clear Pc0 Pc1 Plt Qc0 Qc1 Qlt); replace P := P.below hb2; replace Q := Q.below hb2
  clear hb2 hb
  have Pc0 := P.c0; have Pc1 := P.c1; have Plt := P.lt; have Qc0 := Q.c0; have Qc1 := Q.c1; have Qlt := Q.lt
  by_cases h1 : validB a b = true
  · rw [h1]
    have H1 := Lib.hid h1; clear h1
    go_wp2_with fail
    go_fit (rvalidb_any c d _)
    rintro e w3 ⟨rfl, hb3⟩
    have hb := hb'.trans (hb3.mono hb'.size)
    (try clear Pc0 Pc1 Plt Qc0 Qc1 Qlt); replace P := P.below hb3; replace Q := Q.below hb3
    clear hb3 hb'
    have Pc0 := P.c0; have Pc1 := P.c1; have Plt := P.lt; have Qc0 := Q.c0; have Qc1 := Q.c1; have Qlt := Q.lt
    by_cases h2 : validB c d = true
    · rw [h2]
      have H2 := Lib.hid h2; clear h2
      obtain ⟨k1, k2, k3⟩ := (validB_iff a b).1 H1.out
      obtain ⟨k4, k5, k6⟩ := (validB_iff c d).1 H2.out
      obtain ⟨m1, m2⟩ := meet_law a b c d H1.out H2.out
      obtain ⟨hu, hl⟩ := hull_law a b c d H1.out H2.out
      obtain ⟨x1, x2, x3⟩ := mx_law a c
      obtain ⟨y1, y2, y3⟩ := mn_law b d
      obtain ⟨z1, z2, z3⟩ := mx_law b d
      obtain ⟨t1, t2, t3⟩ := mn_law a c
      generalize mx a c = p at *
      generalize mn b d = q at *
      generalize mx b d = r at *
      generalize mn a c = s at *
      have M1 := Lib.hid m1
      have M2 := Lib.hid m2
      have HU := Lib.hid hu
      have HL := Lib.hid hl
      clear m1 m2 hu hl
      have key : ∃ (g0 g1 : Int) (o : Bool), meetV a b c d = .tuple #[.agg #[.int .i64 g0, .int .i64 g1], .bool o] ∧ ((o = true ∧ p ≤ q ∧ p = g0 ∧ q = g1) ∨ (o = false ∧ q < p)) := by
        rcases lt_ge q p with j | j
        · exact ⟨_, _, _, M2.out (by omega), .inr ⟨rfl, j⟩⟩
        · exact ⟨_, _, _, M1.out (by omega), .inl ⟨rfl, j, rfl, rfl⟩⟩
      obtain ⟨g0, g1, o, hM, ho⟩ := key
      have HM := Lib.hid hM
      clear hM M1 M2
      have K : (a ≤ b ∧ c ≤ d ∧ a ≤ p ∧ c ≤ p ∧ q ≤ b ∧ q ≤ d ∧ b ≤ r ∧ d ≤ r ∧ s ≤ a ∧ s ≤ c) ∧ (p = a ∨ p = c) ∧ (q = b ∨ q = d) ∧ (r = b ∨ r = d) ∧ (s = a ∨ s = c) := ⟨⟨k1, k4, x1, x2, y1, y2, z1, z2, t1, t2⟩, x3, y3, z3, t3⟩
      have KK := Lib.hid K
      clear K k1 k2 k3 k4 k5 k6 x1 x2 x3 y1 y2 y3 z1 z2 z3 t1 t2 t3
      rcases ho with ⟨rfl, j, rfl, rfl⟩ | ⟨rfl, j⟩
      all_goals
        rcases dec_cases (a ≤ n) with ⟨i1, d1⟩ | ⟨i1, d1⟩ <;> rcases dec_cases (n ≤ b) with ⟨i2, d2⟩ | ⟨i2, d2⟩ <;> rcases dec_cases (c ≤ n) with ⟨i3, d3⟩ | ⟨i3, d3⟩ <;> rcases dec_cases (n ≤ d) with ⟨i4, d4⟩ | ⟨i4, d4⟩ <;> (try (exfalso; have := KK.out; omega)) <;>
        rcases dec_cases (p ≤ n) with ⟨i5, d5⟩ | ⟨i5, d5⟩ <;> (try (exfalso; have := KK.out; omega)) <;>
        rcases dec_cases (n ≤ q) with ⟨i6, d6⟩ | ⟨i6, d6⟩ <;> (try (exfalso; have := KK.out; omega)) <;>
        rcases dec_cases (s ≤ n) with ⟨i7, d7⟩ | ⟨i7, d7⟩ <;> (try (exfalso; have := KK.out; omega)) <;>
        rcases dec_cases (n ≤ r) with ⟨i8, d8⟩ | ⟨i8, d8⟩ <;> (try (exfalso; have := KK.out; omega))
      all_goals clear i1 i2 i3 i4 i5 i6 i7 i8 j KK
      all_goals
        go_wp2_with fail
        go_fit (meet_any a b c d _)
        rw [HM.out]
        rintro e w4 ⟨rfl, hb4⟩
        have hb' := hb.trans (hb4.mono hb.size)
        (try clear Pc0 Pc1 Plt Qc0 Qc1 Qlt); replace P := P.below hb4; replace Q := Q.below hb4
        clear hb4
        have Pc0 := P.c0; have Pc1 := P.c1; have Plt := P.lt; have Qc0 := Q.c0; have Qc1 := Q.c1; have Qlt := Q.lt
        go_wp2_with fail
        go_fit (hull_any a b c d _)
        rw [HU.out]
        rintro e w5 ⟨rfl, hb5⟩
        obtain ⟨hw5, hb, M⟩ := box_step hb' hb5
        (try clear Pc0 Pc1 Plt Qc0 Qc1 Qlt); replace P := P.below hw5; replace Q := Q.below hw5
        clear hb5 hb' hw5
        generalize w4.heap.size = bm at *
        have Pc0 := P.c0; have Pc1 := P.c1; have Plt := P.lt; have Qc0 := Q.c0; have Qc1 := Q.c1; have Qlt := Q.lt; have Mc0 := M.c0; have Mc1 := M.c1; have Mlt := M.lt
        go_wp2_with fail
        obtain ⟨hb6, H⟩ := one_box w5 s r 23
        generalize hW : w5.alloc (.cells #[.int .i64 s, .int .i64 r] 23) = W at *
        replace hb := hb.trans (hb6.mono hb.size)
        (try clear Pc0 Pc1 Plt Qc0 Qc1 Qlt Mc0 Mc1 Mlt); replace P := P.below hb6; replace Q := Q.below hb6; replace M := M.below hb6
        clear hW hb6
        generalize w5.heap.size = bh at *
        have Pc0 := P.c0; have Pc1 := P.c1; have Plt := P.lt; have Qc0 := Q.c0; have Qc1 := Q.c1; have Qlt := Q.lt; have Hc0 := H.c0; have Hc1 := H.c1; have Hlt := H.lt
        have hl := HL.out
        have hmx := @run_mx Tryd.prog
        (try simp only [d1, d2, d3, d4, d5, d6, d7, d8, Bool.not_true, Bool.not_false])
        refine wp_region_noPanic ?_
        refine wp_region_held_drew (S := fun V => V.cell? ⟨w.heap.size, 0, none⟩ = some (.int .i64 a) ∧ V.cell? ⟨w.heap.size, 1, none⟩ = some (.int .i64 b) ∧ V.cell? ⟨w.heap.size + 1, 0, none⟩ = some (.int .i64 c) ∧ V.cell? ⟨w.heap.size + 1, 1, none⟩ = some (.int .i64 d) ∧ V.cell? ⟨bh, 0, none⟩ = some (.int .i64 s) ∧ V.cell? ⟨bh, 1, none⟩ = some (.int .i64 r) ∧ Below W.heap.size W V) (by kernel_rfl) ⟨Pc0, Pc1, Qc0, Qc1, Hc0, Hc1, Below.drew (Below.refl _ _)⟩ (fun hHeld => ?_)
        first
          | (
            refine' takeW 0 ?_ ?_ ?_ (by kernel_rfl) (by kernel_rfl) (by kernel_rfl) (fun _ _ _ h => h) hHeld ?_
            rotate_left 2
            · (simp only [List.getElem?_toArray, List.getElem?_cons_succ, List.getElem?_cons_zero]; rfl)
            · rfl
            · (intro w hSw; (try dsimp only at hSw); go_simp; first | done | with_reducible rfl)
            (try simp only [Act.put, List.setIfInBounds_toArray, List.set_cons_zero, List.set_cons_succ])
            refine' takeW 1 ?_ ?_ ?_ (by kernel_rfl) (by kernel_rfl) (by kernel_rfl) (fun _ _ _ h => h) hHeld ?_
            rotate_left 2
            · (simp only [List.getElem?_toArray, List.getElem?_cons_succ, List.getElem?_cons_zero]; rfl)
            · rfl
            · (intro w hSw; (try dsimp only at hSw); go_simp; first | done | with_reducible rfl)
            (try simp only [Act.put, List.setIfInBounds_toArray, List.set_cons_zero, List.set_cons_succ])
            refine' takeW 2 ?_ ?_ ?_ (by kernel_rfl) (by kernel_rfl) (by kernel_rfl) (fun _ _ _ h => h) hHeld ?_
            rotate_left 2
            · (simp only [List.getElem?_toArray, List.getElem?_cons_succ, List.getElem?_cons_zero]; rfl)
            · rfl
            · (intro w hSw; (try dsimp only at hSw); go_simp; first | done | with_reducible rfl)
            (try simp only [Act.put, List.setIfInBounds_toArray, List.set_cons_zero, List.set_cons_succ])
            refine' takeW 3 ?_ ?_ ?_ (by kernel_rfl) (by kernel_rfl) (by kernel_rfl) (fun _ _ _ h => h) hHeld ?_
            rotate_left 2
            · (simp only [List.getElem?_toArray, List.getElem?_cons_succ, List.getElem?_cons_zero]; rfl)
            · rfl
            · (intro w hSw; (try dsimp only at hSw); go_simp; first | done | with_reducible rfl)
            (try simp only [Act.put, List.setIfInBounds_toArray, List.set_cons_zero, List.set_cons_succ])
            refine' takeW 4 ?_ ?_ ?_ (by kernel_rfl) (by kernel_rfl) (by kernel_rfl) (fun _ _ _ h => h) hHeld ?_
            rotate_left 2
            · (simp only [List.getElem?_toArray, List.getElem?_cons_succ, List.getElem?_cons_zero]; rfl)
            · rfl
            · (intro w hSw; (try dsimp only at hSw); go_simp; first | done | with_reducible rfl)
            (try simp only [Act.put, List.setIfInBounds_toArray, List.set_cons_zero, List.set_cons_succ])
            refine' takeW 5 ?_ ?_ ?_ (by kernel_rfl) (by kernel_rfl) (by kernel_rfl) (fun _ _ _ h => h) hHeld ?_
            rotate_left 2
            · (simp only [List.getElem?_toArray, List.getElem?_cons_succ, List.getElem?_cons_zero]; rfl)
            · rfl
            · (intro w hSw; (try dsimp only at hSw); go_simp; first | done | with_reducible rfl)
            (try simp only [Act.put, List.setIfInBounds_toArray, List.set_cons_zero, List.set_cons_succ])
            refine' takeN 6 ?_ ?_ (by kernel_rfl) (by kernel_rfl) (by kernel_rfl) (fun _ _ _ h => h) hHeld ?_
            rotate_left 1
            · (simp only [List.getElem?_toArray, List.getElem?_cons_succ, List.getElem?_cons_zero]; rfl)
            · rfl
            (try simp only [Act.put, List.setIfInBounds_toArray, List.set_cons_zero, List.set_cons_succ])
            refine' takeN 7 ?_ ?_ (by kernel_rfl) (by kernel_rfl) (by kernel_rfl) (fun _ _ _ h => h) hHeld ?_
            rotate_left 1
            · (simp only [List.getElem?_toArray, List.getElem?_cons_succ, List.getElem?_cons_zero]; rfl)
            · rfl
            (try simp only [Act.put, List.setIfInBounds_toArray, List.set_cons_zero, List.set_cons_succ])
            refine' takeW 8 ?_ ?_ ?_ (by kernel_rfl) (by kernel_rfl) (by kernel_rfl) (fun _ _ _ h => h) hHeld ?_
            rotate_left 2
            · (simp only [List.getElem?_toArray, List.getElem?_cons_succ, List.getElem?_cons_zero]; rfl)
            · rfl
            · (intro w hSw; (try dsimp only at hSw); go_simp; first | done | with_reducible rfl)
            (try simp only [Act.put, List.setIfInBounds_toArray, List.set_cons_zero, List.set_cons_succ])
            refine' takeW 9 ?_ ?_ ?_ (by kernel_rfl) (by kernel_rfl) (by kernel_rfl) (fun _ _ _ h => h) hHeld ?_
            rotate_left 2
            · (simp only [List.getElem?_toArray, List.getElem?_cons_succ, List.getElem?_cons_zero]; rfl)
            · rfl
            · (intro w hSw; (try dsimp only at hSw); go_simp; first | done | with_reducible rfl)
            (try simp only [Act.put, List.setIfInBounds_toArray, List.set_cons_zero, List.set_cons_succ])
            refine' takeW 10 ?_ ?_ ?_ (by kernel_rfl) (by kernel_rfl) (by kernel_rfl) (fun _ _ _ h => h) hHeld ?_
            rotate_left 2
            · (simp only [List.getElem?_toArray, List.getElem?_cons_succ, List.getElem?_cons_zero]; rfl)
            · rfl
            · (intro w hSw; (try dsimp only at hSw); go_simp; first | done | with_reducible rfl)
            (try simp only [Act.put, List.setIfInBounds_toArray, List.set_cons_zero, List.set_cons_succ])
            refine' takeW 11 ?_ ?_ ?_ (by kernel_rfl) (by kernel_rfl) (by kernel_rfl) (fun _ _ _ h => h) hHeld ?_
            rotate_left 2
            · (simp only [List.getElem?_toArray, List.getElem?_cons_succ, List.getElem?_cons_zero]; rfl)
            · rfl
            · (intro w hSw; (try dsimp only at hSw); go_simp; first | done | with_reducible rfl)
            (try simp only [Act.put, List.setIfInBounds_toArray, List.set_cons_zero, List.set_cons_succ])
            refine' takeW 12 ?_ ?_ ?_ (by kernel_rfl) (by kernel_rfl) (by kernel_rfl) (fun _ _ _ h => h) hHeld ?_
            rotate_left 2
            · (simp only [List.getElem?_toArray, List.getElem?_cons_succ, List.getElem?_cons_zero]; rfl)
            · rfl
            · (intro w hSw; (try dsimp only at hSw); go_simp; first | done | with_reducible rfl)
            (try simp only [Act.put, List.setIfInBounds_toArray, List.set_cons_zero, List.set_cons_succ])
            refine' takeW 13 ?_ ?_ ?_ (by kernel_rfl) (by kernel_rfl) (by kernel_rfl) (fun _ _ _ h => h) hHeld ?_
            rotate_left 2
            · (simp only [List.getElem?_toArray, List.getElem?_cons_succ, List.getElem?_cons_zero]; rfl)
            · rfl
            · (intro w hSw; (try dsimp only at hSw); go_simp; first | done | with_reducible rfl)
            (try simp only [Act.put, List.setIfInBounds_toArray, List.set_cons_zero, List.set_cons_succ])
            refine' takeW 14 ?_ ?_ ?_ (by kernel_rfl) (by kernel_rfl) (by kernel_rfl) (fun _ _ _ h => h) hHeld ?_
            rotate_left 2
            · (simp only [List.getElem?_toArray, List.getElem?_cons_succ, List.getElem?_cons_zero]; rfl)
            · rfl
            · (intro w hSw; (try dsimp only at hSw); go_simp; first | done | with_reducible rfl)
            (try simp only [Act.put, List.setIfInBounds_toArray, List.set_cons_zero, List.set_cons_succ])
            refine' takeW 15 ?_ ?_ ?_ (by kernel_rfl) (by kernel_rfl) (by kernel_rfl) (fun _ _ _ h => h) hHeld ?_
            rotate_left 2
            · (simp only [List.getElem?_toArray, List.getElem?_cons_succ, List.getElem?_cons_zero]; rfl)
            · rfl
            · (intro w hSw; (try dsimp only at hSw); go_simp; first | done | with_reducible rfl)
            (try simp only [Act.put, List.setIfInBounds_toArray, List.set_cons_zero, List.set_cons_succ])
            refine' takeW 16 ?_ ?_ ?_ (by kernel_rfl) (by kernel_rfl) (by kernel_rfl) (fun _ _ _ h => h) hHeld ?_
            rotate_left 2
            · (simp only [List.getElem?_toArray, List.getElem?_cons_succ, List.getElem?_cons_zero]; rfl)
            · rfl
            · (intro w hSw; (try dsimp only at hSw); go_simp; first | done | with_reducible rfl)
            (try simp only [Act.put, List.setIfInBounds_toArray, List.set_cons_zero, List.set_cons_succ])
            refine' takeW 17 ?_ ?_ ?_ (by kernel_rfl) (by kernel_rfl) (by kernel_rfl) (fun _ _ _ h => h) hHeld ?_
            rotate_left 2
            · (simp only [List.getElem?_toArray, List.getElem?_cons_succ, List.getElem?_cons_zero]; rfl)
            · rfl
            · (intro w hSw; (try dsimp only at hSw); go_simp; first | done | with_reducible rfl)
            (try simp only [Act.put, List.setIfInBounds_toArray, List.set_cons_zero, List.set_cons_succ])
            refine' takeW 18 ?_ ?_ ?_ (by kernel_rfl) (by kernel_rfl) (by kernel_rfl) (fun _ _ _ h => h) hHeld ?_
            rotate_left 2
            · (simp only [List.getElem?_toArray, List.getElem?_cons_succ, List.getElem?_cons_zero]; rfl)
            · rfl
            · (intro w hSw; (try dsimp only at hSw); go_simp; first | done | with_reducible rfl)
            (try simp only [Act.put, List.setIfInBounds_toArray, List.set_cons_zero, List.set_cons_succ])
            refine' takeW 19 ?_ ?_ ?_ (by kernel_rfl) (by kernel_rfl) (by kernel_rfl) (fun _ _ _ h => h) hHeld ?_
            rotate_left 2
            · (simp only [List.getElem?_toArray, List.getElem?_cons_succ, List.getElem?_cons_zero]; rfl)
            · rfl
            · (intro w hSw; (try dsimp only at hSw); go_simp; first | done | with_reducible rfl)
            (try simp only [Act.put, List.setIfInBounds_toArray, List.set_cons_zero, List.set_cons_succ])
            refine' takeW 20 ?_ ?_ ?_ (by kernel_rfl) (by kernel_rfl) (by kernel_rfl) (fun _ _ _ h => h) hHeld ?_
            rotate_left 2
            · (simp only [List.getElem?_toArray, List.getElem?_cons_succ, List.getElem?_cons_zero]; rfl)
            · rfl
            · (intro w hSw; (try dsimp only at hSw); go_simp; first | done | with_reducible rfl)
            (try simp only [Act.put, List.setIfInBounds_toArray, List.set_cons_zero, List.set_cons_succ])
            refine' takeW 21 ?_ ?_ ?_ (by kernel_rfl) (by kernel_rfl) (by kernel_rfl) (fun _ _ _ h => h) hHeld ?_
            rotate_left 2
            · (simp only [List.getElem?_toArray, List.getElem?_cons_succ, List.getElem?_cons_zero]; rfl)
            · rfl
            · (intro w hSw; (try dsimp only at hSw); go_simp; first | done | with_reducible rfl)
            (try simp only [Act.put, List.setIfInBounds_toArray, List.set_cons_zero, List.set_cons_succ])
            refine' takeW 22 ?_ ?_ ?_ (by kernel_rfl) (by kernel_rfl) (by kernel_rfl) (fun _ _ _ h => h) hHeld ?_
            rotate_left 2
            · (simp only [List.getElem?_toArray, List.getElem?_cons_succ, List.getElem?_cons_zero]; rfl)
            · rfl
            · (intro w hSw; (try dsimp only at hSw); go_simp; first | done | with_reducible rfl)
            (try simp only [Act.put, List.setIfInBounds_toArray, List.set_cons_zero, List.set_cons_succ])
            refine' takeW 23 ?_ ?_ ?_ (by kernel_rfl) (by kernel_rfl) (by kernel_rfl) (fun _ _ _ h => h) hHeld ?_
            rotate_left 2
            · (simp only [List.getElem?_toArray, List.getElem?_cons_succ, List.getElem?_cons_zero]; rfl)
            · rfl
            · (intro w hSw; (try dsimp only at hSw); go_simp; first | done | with_reducible rfl)
            (try simp only [Act.put, List.setIfInBounds_toArray, List.set_cons_zero, List.set_cons_succ])
            refine' takeW 25 ?_ ?_ ?_ (by kernel_rfl) (by kernel_rfl) (by kernel_rfl) (fun _ _ _ h => h) hHeld ?_
            rotate_left 2
            · (simp only [List.getElem?_toArray, List.getElem?_cons_succ, List.getElem?_cons_zero]; rfl)
            · rfl
            · (intro w hSw; (try dsimp only at hSw); go_simp; first | done | with_reducible rfl)
            (try simp only [Act.put, List.setIfInBounds_toArray, List.set_cons_zero, List.set_cons_succ])
            refine' takeW 27 ?_ ?_ ?_ (by kernel_rfl) (by kernel_rfl) (by kernel_rfl) (fun _ _ _ h => h) hHeld ?_
            rotate_left 2
            · (simp only [List.getElem?_toArray, List.getElem?_cons_succ, List.getElem?_cons_zero]; rfl)
            · rfl
            · (intro w hSw; (try dsimp only at hSw); go_simp; first | done | with_reducible rfl)
            (try simp only [Act.put, List.setIfInBounds_toArray, List.set_cons_zero, List.set_cons_succ])
            refine wpAnyH_ready (rs := [24]) (by kernel_rfl) (by simp) ?_
            refine' AllReadyH.cons ?_ (fun K hK => ?_) AllReadyH.nil
            rotate_left 1
            · (simp only [List.getElem?_toArray, List.getElem?_cons_succ, List.getElem?_cons_zero]; rfl)
            (try go_simp)
            go_fit (lenb_any _ _ _)
            rintro e w2 ⟨rfl, hb2⟩
            (try go_simp)
            refine hK.out _ _ ?_ (fun hHeld => ?_)
            · exact keep6 Plt Qlt Hlt hHeld hb2
            clear hK K
            (try simp only [Act.put, List.setIfInBounds_toArray, List.set_cons_zero, List.set_cons_succ])
            refine wpAnyH_ready (rs := [26]) (by kernel_rfl) (by simp) ?_
            refine' AllReadyH.cons ?_ (fun K hK => ?_) AllReadyH.nil
            rotate_left 1
            · (simp only [List.getElem?_toArray, List.getElem?_cons_succ, List.getElem?_cons_zero]; rfl)
            (try go_simp)
            go_fit (lenb_any _ _ _)
            rintro e w2 ⟨rfl, hb2⟩
            (try go_simp)
            refine hK.out _ _ ?_ (fun hHeld => ?_)
            · exact keep6 Plt Qlt Hlt hHeld hb2
            clear hK K
            (try simp only [Act.put, List.setIfInBounds_toArray, List.set_cons_zero, List.set_cons_succ])
            refine wpAnyH_ready (rs := [28]) (by kernel_rfl) (by simp) ?_
            refine' AllReadyH.cons ?_ (fun K hK => ?_) AllReadyH.nil
            rotate_left 1
            · (simp only [List.getElem?_toArray, List.getElem?_cons_succ, List.getElem?_cons_zero]; rfl)
            (try go_simp)
            go_fit (lenb_any _ _ _)
            rintro e w2 ⟨rfl, hb2⟩
            (try go_simp)
            refine hK.out _ _ ?_ (fun hHeld => ?_)
            · exact keep6 Plt Qlt Hlt hHeld hb2
            clear hK K
            (try simp only [Act.put, List.setIfInBounds_toArray, List.set_cons_zero, List.set_cons_succ])
            refine' takeW 29 ?_ ?_ ?_ (by kernel_rfl) (by kernel_rfl) (by kernel_rfl) (fun _ _ _ h => h) hHeld ?_
            rotate_left 2
            · (simp only [List.getElem?_toArray, List.getElem?_cons_succ, List.getElem?_cons_zero]; rfl)
            · rfl
            · (intro w hSw; (try dsimp only at hSw); go_simp; first | done | with_reducible rfl)
            (try simp only [Act.put, List.setIfInBounds_toArray, List.set_cons_zero, List.set_cons_succ])
            refine' takeW 30 ?_ ?_ ?_ (by kernel_rfl) (by kernel_rfl) (by kernel_rfl) (fun _ _ _ h => h) hHeld ?_
            rotate_left 2
            · (simp only [List.getElem?_toArray, List.getElem?_cons_succ, List.getElem?_cons_zero]; rfl)
            · rfl
            · (intro w hSw; (try dsimp only at hSw); go_simp; first | done | with_reducible rfl)
            (try simp only [Act.put, List.setIfInBounds_toArray, List.set_cons_zero, List.set_cons_succ])
            refine' takeW 31 ?_ ?_ ?_ (by kernel_rfl) (by kernel_rfl) (by kernel_rfl) (fun _ _ _ h => h) hHeld ?_
            rotate_left 2
            · (simp only [List.getElem?_toArray, List.getElem?_cons_succ, List.getElem?_cons_zero]; rfl)
            · rfl
            · (intro w hSw; (try dsimp only at hSw); go_simp; first | done | with_reducible rfl)
            (try simp only [Act.put, List.setIfInBounds_toArray, List.set_cons_zero, List.set_cons_succ])
            refine' takeW 32 ?_ ?_ ?_ (by kernel_rfl) (by kernel_rfl) (by kernel_rfl) (fun _ _ _ h => h) hHeld ?_
            rotate_left 2
            · (simp only [List.getElem?_toArray, List.getElem?_cons_succ, List.getElem?_cons_zero]; rfl)
            · rfl
            · (intro w hSw; (try dsimp only at hSw); go_simp; first | done | with_reducible rfl)
            (try simp only [Act.put, List.setIfInBounds_toArray, List.set_cons_zero, List.set_cons_succ]))
          | (
            refine' takeW 0 ?_ ?_ ?_ (by kernel_rfl) (by kernel_rfl) (by kernel_rfl) (fun _ _ _ h => h) hHeld ?_
            rotate_left 2
            · (simp only [List.getElem?_toArray, List.getElem?_cons_succ, List.getElem?_cons_zero]; rfl)
            · rfl
            · (intro w hSw; (try dsimp only at hSw); go_simp; first | done | with_reducible rfl)
            (try simp only [Act.put, List.setIfInBounds_toArray, List.set_cons_zero, List.set_cons_succ])
            refine' takeW 1 ?_ ?_ ?_ (by kernel_rfl) (by kernel_rfl) (by kernel_rfl) (fun _ _ _ h => h) hHeld ?_
            rotate_left 2
            · (simp only [List.getElem?_toArray, List.getElem?_cons_succ, List.getElem?_cons_zero]; rfl)
            · rfl
            · (intro w hSw; (try dsimp only at hSw); go_simp; first | done | with_reducible rfl)
            (try simp only [Act.put, List.setIfInBounds_toArray, List.set_cons_zero, List.set_cons_succ])
            refine' takeW 2 ?_ ?_ ?_ (by kernel_rfl) (by kernel_rfl) (by kernel_rfl) (fun _ _ _ h => h) hHeld ?_
            rotate_left 2
            · (simp only [List.getElem?_toArray, List.getElem?_cons_succ, List.getElem?_cons_zero]; rfl)
            · rfl
            · (intro w hSw; (try dsimp only at hSw); go_simp; first | done | with_reducible rfl)
            (try simp only [Act.put, List.setIfInBounds_toArray, List.set_cons_zero, List.set_cons_succ])
            refine' takeW 3 ?_ ?_ ?_ (by kernel_rfl) (by kernel_rfl) (by kernel_rfl) (fun _ _ _ h => h) hHeld ?_
            rotate_left 2
            · (simp only [List.getElem?_toArray, List.getElem?_cons_succ, List.getElem?_cons_zero]; rfl)
            · rfl
            · (intro w hSw; (try dsimp only at hSw); go_simp; first | done | with_reducible rfl)
            (try simp only [Act.put, List.setIfInBounds_toArray, List.set_cons_zero, List.set_cons_succ])
            refine' takeW 4 ?_ ?_ ?_ (by kernel_rfl) (by kernel_rfl) (by kernel_rfl) (fun _ _ _ h => h) hHeld ?_
            rotate_left 2
            · (simp only [List.getElem?_toArray, List.getElem?_cons_succ, List.getElem?_cons_zero]; rfl)
            · rfl
            · (intro w hSw; (try dsimp only at hSw); go_simp; first | done | with_reducible rfl)
            (try simp only [Act.put, List.setIfInBounds_toArray, List.set_cons_zero, List.set_cons_succ])
            refine' takeW 5 ?_ ?_ ?_ (by kernel_rfl) (by kernel_rfl) (by kernel_rfl) (fun _ _ _ h => h) hHeld ?_
            rotate_left 2
            · (simp only [List.getElem?_toArray, List.getElem?_cons_succ, List.getElem?_cons_zero]; rfl)
            · rfl
            · (intro w hSw; (try dsimp only at hSw); go_simp; first | done | with_reducible rfl)
            (try simp only [Act.put, List.setIfInBounds_toArray, List.set_cons_zero, List.set_cons_succ])
            refine' takeW 6 ?_ ?_ ?_ (by kernel_rfl) (by kernel_rfl) (by kernel_rfl) (fun _ _ _ h => h) hHeld ?_
            rotate_left 2
            · (simp only [List.getElem?_toArray, List.getElem?_cons_succ, List.getElem?_cons_zero]; rfl)
            · rfl
            · (intro w hSw; (try dsimp only at hSw); go_simp; first | done | with_reducible rfl)
            (try simp only [Act.put, List.setIfInBounds_toArray, List.set_cons_zero, List.set_cons_succ])
            refine' takeW 7 ?_ ?_ ?_ (by kernel_rfl) (by kernel_rfl) (by kernel_rfl) (fun _ _ _ h => h) hHeld ?_
            rotate_left 2
            · (simp only [List.getElem?_toArray, List.getElem?_cons_succ, List.getElem?_cons_zero]; rfl)
            · rfl
            · (intro w hSw; (try dsimp only at hSw); go_simp; first | done | with_reducible rfl)
            (try simp only [Act.put, List.setIfInBounds_toArray, List.set_cons_zero, List.set_cons_succ])
            refine' takeW 8 ?_ ?_ ?_ (by kernel_rfl) (by kernel_rfl) (by kernel_rfl) (fun _ _ _ h => h) hHeld ?_
            rotate_left 2
            · (simp only [List.getElem?_toArray, List.getElem?_cons_succ, List.getElem?_cons_zero]; rfl)
            · rfl
            · (intro w hSw; (try dsimp only at hSw); go_simp; first | done | with_reducible rfl)
            (try simp only [Act.put, List.setIfInBounds_toArray, List.set_cons_zero, List.set_cons_succ])
            refine' takeW 9 ?_ ?_ ?_ (by kernel_rfl) (by kernel_rfl) (by kernel_rfl) (fun _ _ _ h => h) hHeld ?_
            rotate_left 2
            · (simp only [List.getElem?_toArray, List.getElem?_cons_succ, List.getElem?_cons_zero]; rfl)
            · rfl
            · (intro w hSw; (try dsimp only at hSw); go_simp; first | done | with_reducible rfl)
            (try simp only [Act.put, List.setIfInBounds_toArray, List.set_cons_zero, List.set_cons_succ])
            refine' takeW 10 ?_ ?_ ?_ (by kernel_rfl) (by kernel_rfl) (by kernel_rfl) (fun _ _ _ h => h) hHeld ?_
            rotate_left 2
            · (simp only [List.getElem?_toArray, List.getElem?_cons_succ, List.getElem?_cons_zero]; rfl)
            · rfl
            · (intro w hSw; (try dsimp only at hSw); go_simp; first | done | with_reducible rfl)
            (try simp only [Act.put, List.setIfInBounds_toArray, List.set_cons_zero, List.set_cons_succ])
            refine' takeW 11 ?_ ?_ ?_ (by kernel_rfl) (by kernel_rfl) (by kernel_rfl) (fun _ _ _ h => h) hHeld ?_
            rotate_left 2
            · (simp only [List.getElem?_toArray, List.getElem?_cons_succ, List.getElem?_cons_zero]; rfl)
            · rfl
            · (intro w hSw; (try dsimp only at hSw); go_simp; first | done | with_reducible rfl)
            (try simp only [Act.put, List.setIfInBounds_toArray, List.set_cons_zero, List.set_cons_succ])
            refine' takeW 12 ?_ ?_ ?_ (by kernel_rfl) (by kernel_rfl) (by kernel_rfl) (fun _ _ _ h => h) hHeld ?_
            rotate_left 2
            · (simp only [List.getElem?_toArray, List.getElem?_cons_succ, List.getElem?_cons_zero]; rfl)
            · rfl
            · (intro w hSw; (try dsimp only at hSw); go_simp; first | done | with_reducible rfl)
            (try simp only [Act.put, List.setIfInBounds_toArray, List.set_cons_zero, List.set_cons_succ])
            refine' takeW 13 ?_ ?_ ?_ (by kernel_rfl) (by kernel_rfl) (by kernel_rfl) (fun _ _ _ h => h) hHeld ?_
            rotate_left 2
            · (simp only [List.getElem?_toArray, List.getElem?_cons_succ, List.getElem?_cons_zero]; rfl)
            · rfl
            · (intro w hSw; (try dsimp only at hSw); go_simp; first | done | with_reducible rfl)
            (try simp only [Act.put, List.setIfInBounds_toArray, List.set_cons_zero, List.set_cons_succ])
            refine' takeW 14 ?_ ?_ ?_ (by kernel_rfl) (by kernel_rfl) (by kernel_rfl) (fun _ _ _ h => h) hHeld ?_
            rotate_left 2
            · (simp only [List.getElem?_toArray, List.getElem?_cons_succ, List.getElem?_cons_zero]; rfl)
            · rfl
            · (intro w hSw; (try dsimp only at hSw); go_simp; first | done | with_reducible rfl)
            (try simp only [Act.put, List.setIfInBounds_toArray, List.set_cons_zero, List.set_cons_succ])
            refine' takeW 15 ?_ ?_ ?_ (by kernel_rfl) (by kernel_rfl) (by kernel_rfl) (fun _ _ _ h => h) hHeld ?_
            rotate_left 2
            · (simp only [List.getElem?_toArray, List.getElem?_cons_succ, List.getElem?_cons_zero]; rfl)
            · rfl
            · (intro w hSw; (try dsimp only at hSw); go_simp; first | done | with_reducible rfl)
            (try simp only [Act.put, List.setIfInBounds_toArray, List.set_cons_zero, List.set_cons_succ])
            refine' takeW 16 ?_ ?_ ?_ (by kernel_rfl) (by kernel_rfl) (by kernel_rfl) (fun _ _ _ h => h) hHeld ?_
            rotate_left 2
            · (simp only [List.getElem?_toArray, List.getElem?_cons_succ, List.getElem?_cons_zero]; rfl)
            · rfl
            · (intro w hSw; (try dsimp only at hSw); go_simp; first | done | with_reducible rfl)
            (try simp only [Act.put, List.setIfInBounds_toArray, List.set_cons_zero, List.set_cons_succ])
            refine' takeW 17 ?_ ?_ ?_ (by kernel_rfl) (by kernel_rfl) (by kernel_rfl) (fun _ _ _ h => h) hHeld ?_
            rotate_left 2
            · (simp only [List.getElem?_toArray, List.getElem?_cons_succ, List.getElem?_cons_zero]; rfl)
            · rfl
            · (intro w hSw; (try dsimp only at hSw); go_simp; first | done | with_reducible rfl)
            (try simp only [Act.put, List.setIfInBounds_toArray, List.set_cons_zero, List.set_cons_succ])
            refine' takeW 18 ?_ ?_ ?_ (by kernel_rfl) (by kernel_rfl) (by kernel_rfl) (fun _ _ _ h => h) hHeld ?_
            rotate_left 2
            · (simp only [List.getElem?_toArray, List.getElem?_cons_succ, List.getElem?_cons_zero]; rfl)
            · rfl
            · (intro w hSw; (try dsimp only at hSw); go_simp; first | done | with_reducible rfl)
            (try simp only [Act.put, List.setIfInBounds_toArray, List.set_cons_zero, List.set_cons_succ])
            refine' takeW 19 ?_ ?_ ?_ (by kernel_rfl) (by kernel_rfl) (by kernel_rfl) (fun _ _ _ h => h) hHeld ?_
            rotate_left 2
            · (simp only [List.getElem?_toArray, List.getElem?_cons_succ, List.getElem?_cons_zero]; rfl)
            · rfl
            · (intro w hSw; (try dsimp only at hSw); go_simp; first | done | with_reducible rfl)
            (try simp only [Act.put, List.setIfInBounds_toArray, List.set_cons_zero, List.set_cons_succ])
            refine' takeW 20 ?_ ?_ ?_ (by kernel_rfl) (by kernel_rfl) (by kernel_rfl) (fun _ _ _ h => h) hHeld ?_
            rotate_left 2
            · (simp only [List.getElem?_toArray, List.getElem?_cons_succ, List.getElem?_cons_zero]; rfl)
            · rfl
            · (intro w hSw; (try dsimp only at hSw); go_simp; first | done | with_reducible rfl)
            (try simp only [Act.put, List.setIfInBounds_toArray, List.set_cons_zero, List.set_cons_succ])
            refine' takeW 21 ?_ ?_ ?_ (by kernel_rfl) (by kernel_rfl) (by kernel_rfl) (fun _ _ _ h => h) hHeld ?_
            rotate_left 2
            · (simp only [List.getElem?_toArray, List.getElem?_cons_succ, List.getElem?_cons_zero]; rfl)
            · rfl
            · (intro w hSw; (try dsimp only at hSw); go_simp; first | done | with_reducible rfl)
            (try simp only [Act.put, List.setIfInBounds_toArray, List.set_cons_zero, List.set_cons_succ])
            refine' takeW 22 ?_ ?_ ?_ (by kernel_rfl) (by kernel_rfl) (by kernel_rfl) (fun _ _ _ h => h) hHeld ?_
            rotate_left 2
            · (simp only [List.getElem?_toArray, List.getElem?_cons_succ, List.getElem?_cons_zero]; rfl)
            · rfl
            · (intro w hSw; (try dsimp only at hSw); go_simp; first | done | with_reducible rfl)
            (try simp only [Act.put, List.setIfInBounds_toArray, List.set_cons_zero, List.set_cons_succ])
            refine' takeW 23 ?_ ?_ ?_ (by kernel_rfl) (by kernel_rfl) (by kernel_rfl) (fun _ _ _ h => h) hHeld ?_
            rotate_left 2
            · (simp only [List.getElem?_toArray, List.getElem?_cons_succ, List.getElem?_cons_zero]; rfl)
            · rfl
            · (intro w hSw; (try dsimp only at hSw); go_simp; first | done | with_reducible rfl)
            (try simp only [Act.put, List.setIfInBounds_toArray, List.set_cons_zero, List.set_cons_succ])
            refine' takeW 25 ?_ ?_ ?_ (by kernel_rfl) (by kernel_rfl) (by kernel_rfl) (fun _ _ _ h => h) hHeld ?_
            rotate_left 2
            · (simp only [List.getElem?_toArray, List.getElem?_cons_succ, List.getElem?_cons_zero]; rfl)
            · rfl
            · (intro w hSw; (try dsimp only at hSw); go_simp; first | done | with_reducible rfl)
            (try simp only [Act.put, List.setIfInBounds_toArray, List.set_cons_zero, List.set_cons_succ])
            refine' takeW 27 ?_ ?_ ?_ (by kernel_rfl) (by kernel_rfl) (by kernel_rfl) (fun _ _ _ h => h) hHeld ?_
            rotate_left 2
            · (simp only [List.getElem?_toArray, List.getElem?_cons_succ, List.getElem?_cons_zero]; rfl)
            · rfl
            · (intro w hSw; (try dsimp only at hSw); go_simp; first | done | with_reducible rfl)
            (try simp only [Act.put, List.setIfInBounds_toArray, List.set_cons_zero, List.set_cons_succ])
            refine wpAnyH_ready (rs := [24]) (by kernel_rfl) (by simp) ?_
            refine' AllReadyH.cons ?_ (fun K hK => ?_) AllReadyH.nil
            rotate_left 1
            · (simp only [List.getElem?_toArray, List.getElem?_cons_succ, List.getElem?_cons_zero]; rfl)
            (try go_simp)
            go_fit (lenb_any _ _ _)
            rintro e w2 ⟨rfl, hb2⟩
            (try go_simp)
            refine hK.out _ _ ?_ (fun hHeld => ?_)
            · exact keep6 Plt Qlt Hlt hHeld hb2
            clear hK K
            (try simp only [Act.put, List.setIfInBounds_toArray, List.set_cons_zero, List.set_cons_succ])
            refine wpAnyH_ready (rs := [26]) (by kernel_rfl) (by simp) ?_
            refine' AllReadyH.cons ?_ (fun K hK => ?_) AllReadyH.nil
            rotate_left 1
            · (simp only [List.getElem?_toArray, List.getElem?_cons_succ, List.getElem?_cons_zero]; rfl)
            (try go_simp)
            go_fit (lenb_any _ _ _)
            rintro e w2 ⟨rfl, hb2⟩
            (try go_simp)
            refine hK.out _ _ ?_ (fun hHeld => ?_)
            · exact keep6 Plt Qlt Hlt hHeld hb2
            clear hK K
            (try simp only [Act.put, List.setIfInBounds_toArray, List.set_cons_zero, List.set_cons_succ])
            refine wpAnyH_ready (rs := [28]) (by kernel_rfl) (by simp) ?_
            refine' AllReadyH.cons ?_ (fun K hK => ?_) AllReadyH.nil
            rotate_left 1
            · (simp only [List.getElem?_toArray, List.getElem?_cons_succ, List.getElem?_cons_zero]; rfl)
            (try go_simp)
            go_fit (lenb_any _ _ _)
            rintro e w2 ⟨rfl, hb2⟩
            (try go_simp)
            refine hK.out _ _ ?_ (fun hHeld => ?_)
            · exact keep6 Plt Qlt Hlt hHeld hb2
            clear hK K
            (try simp only [Act.put, List.setIfInBounds_toArray, List.set_cons_zero, List.set_cons_succ])
            refine' takeW 29 ?_ ?_ ?_ (by kernel_rfl) (by kernel_rfl) (by kernel_rfl) (fun _ _ _ h => h) hHeld ?_
            rotate_left 2
            · (simp only [List.getElem?_toArray, List.getElem?_cons_succ, List.getElem?_cons_zero]; rfl)
            · rfl
            · (intro w hSw; (try dsimp only at hSw); go_simp; first | done | with_reducible rfl)
            (try simp only [Act.put, List.setIfInBounds_toArray, List.set_cons_zero, List.set_cons_succ])
            refine' takeW 30 ?_ ?_ ?_ (by kernel_rfl) (by kernel_rfl) (by kernel_rfl) (fun _ _ _ h => h) hHeld ?_
            rotate_left 2
            · (simp only [List.getElem?_toArray, List.getElem?_cons_succ, List.getElem?_cons_zero]; rfl)
            · rfl
            · (intro w hSw; (try dsimp only at hSw); go_simp; first | done | with_reducible rfl)
            (try simp only [Act.put, List.setIfInBounds_toArray, List.set_cons_zero, List.set_cons_succ])
            refine' takeW 31 ?_ ?_ ?_ (by kernel_rfl) (by kernel_rfl) (by kernel_rfl) (fun _ _ _ h => h) hHeld ?_
            rotate_left 2
            · (simp only [List.getElem?_toArray, List.getElem?_cons_succ, List.getElem?_cons_zero]; rfl)
            · rfl
            · (intro w hSw; (try dsimp only at hSw); go_simp; first | done | with_reducible rfl)
            (try simp only [Act.put, List.setIfInBounds_toArray, List.set_cons_zero, List.set_cons_succ])
            refine' takeW 32 ?_ ?_ ?_ (by kernel_rfl) (by kernel_rfl) (by kernel_rfl) (fun _ _ _ h => h) hHeld ?_
            rotate_left 2
            · (simp only [List.getElem?_toArray, List.getElem?_cons_succ, List.getElem?_cons_zero]; rfl)
            · rfl
            · (intro w hSw; (try dsimp only at hSw); go_simp; first | done | with_reducible rfl)
            (try simp only [Act.put, List.setIfInBounds_toArray, List.set_cons_zero, List.set_cons_succ]))
          | (
            refine' takeW 0 ?_ ?_ ?_ (by kernel_rfl) (by kernel_rfl) (by kernel_rfl) (fun _ _ _ h => h) hHeld ?_
            rotate_left 2
            · (simp only [List.getElem?_toArray, List.getElem?_cons_succ, List.getElem?_cons_zero]; rfl)
            · rfl
            · (intro w hSw; (try dsimp only at hSw); go_simp; first | done | with_reducible rfl)
            (try simp only [Act.put, List.setIfInBounds_toArray, List.set_cons_zero, List.set_cons_succ])
            refine' takeW 1 ?_ ?_ ?_ (by kernel_rfl) (by kernel_rfl) (by kernel_rfl) (fun _ _ _ h => h) hHeld ?_
            rotate_left 2
            · (simp only [List.getElem?_toArray, List.getElem?_cons_succ, List.getElem?_cons_zero]; rfl)
            · rfl
            · (intro w hSw; (try dsimp only at hSw); go_simp; first | done | with_reducible rfl)
            (try simp only [Act.put, List.setIfInBounds_toArray, List.set_cons_zero, List.set_cons_succ])
            refine' takeW 2 ?_ ?_ ?_ (by kernel_rfl) (by kernel_rfl) (by kernel_rfl) (fun _ _ _ h => h) hHeld ?_
            rotate_left 2
            · (simp only [List.getElem?_toArray, List.getElem?_cons_succ, List.getElem?_cons_zero]; rfl)
            · rfl
            · (intro w hSw; (try dsimp only at hSw); go_simp; first | done | with_reducible rfl)
            (try simp only [Act.put, List.setIfInBounds_toArray, List.set_cons_zero, List.set_cons_succ])
            refine' takeW 3 ?_ ?_ ?_ (by kernel_rfl) (by kernel_rfl) (by kernel_rfl) (fun _ _ _ h => h) hHeld ?_
            rotate_left 2
            · (simp only [List.getElem?_toArray, List.getElem?_cons_succ, List.getElem?_cons_zero]; rfl)
            · rfl
            · (intro w hSw; (try dsimp only at hSw); go_simp; first | done | with_reducible rfl)
            (try simp only [Act.put, List.setIfInBounds_toArray, List.set_cons_zero, List.set_cons_succ])
            refine' takeW 4 ?_ ?_ ?_ (by kernel_rfl) (by kernel_rfl) (by kernel_rfl) (fun _ _ _ h => h) hHeld ?_
            rotate_left 2
            · (simp only [List.getElem?_toArray, List.getElem?_cons_succ, List.getElem?_cons_zero]; rfl)
            · rfl
            · (intro w hSw; (try dsimp only at hSw); go_simp; first | done | with_reducible rfl)
            (try simp only [Act.put, List.setIfInBounds_toArray, List.set_cons_zero, List.set_cons_succ])
            refine' takeW 5 ?_ ?_ ?_ (by kernel_rfl) (by kernel_rfl) (by kernel_rfl) (fun _ _ _ h => h) hHeld ?_
            rotate_left 2
            · (simp only [List.getElem?_toArray, List.getElem?_cons_succ, List.getElem?_cons_zero]; rfl)
            · rfl
            · (intro w hSw; (try dsimp only at hSw); go_simp; first | done | with_reducible rfl)
            (try simp only [Act.put, List.setIfInBounds_toArray, List.set_cons_zero, List.set_cons_succ])
            refine' takeW 6 ?_ ?_ ?_ (by kernel_rfl) (by kernel_rfl) (by kernel_rfl) (fun _ _ _ h => h) hHeld ?_
            rotate_left 2
            · (simp only [List.getElem?_toArray, List.getElem?_cons_succ, List.getElem?_cons_zero]; rfl)
            · rfl
            · (intro w hSw; (try dsimp only at hSw); go_simp; first | done | with_reducible rfl)
            (try simp only [Act.put, List.setIfInBounds_toArray, List.set_cons_zero, List.set_cons_succ])
            refine' takeW 7 ?_ ?_ ?_ (by kernel_rfl) (by kernel_rfl) (by kernel_rfl) (fun _ _ _ h => h) hHeld ?_
            rotate_left 2
            · (simp only [List.getElem?_toArray, List.getElem?_cons_succ, List.getElem?_cons_zero]; rfl)
            · rfl
            · (intro w hSw; (try dsimp only at hSw); go_simp; first | done | with_reducible rfl)
            (try simp only [Act.put, List.setIfInBounds_toArray, List.set_cons_zero, List.set_cons_succ])
            refine' takeW 8 ?_ ?_ ?_ (by kernel_rfl) (by kernel_rfl) (by kernel_rfl) (fun _ _ _ h => h) hHeld ?_
            rotate_left 2
            · (simp only [List.getElem?_toArray, List.getElem?_cons_succ, List.getElem?_cons_zero]; rfl)
            · rfl
            · (intro w hSw; (try dsimp only at hSw); go_simp; first | done | with_reducible rfl)
            (try simp only [Act.put, List.setIfInBounds_toArray, List.set_cons_zero, List.set_cons_succ])
            refine' takeW 9 ?_ ?_ ?_ (by kernel_rfl) (by kernel_rfl) (by kernel_rfl) (fun _ _ _ h => h) hHeld ?_
            rotate_left 2
            · (simp only [List.getElem?_toArray, List.getElem?_cons_succ, List.getElem?_cons_zero]; rfl)
            · rfl
            · (intro w hSw; (try dsimp only at hSw); go_simp; first | done | with_reducible rfl)
            (try simp only [Act.put, List.setIfInBounds_toArray, List.set_cons_zero, List.set_cons_succ])
            refine' takeN 10 ?_ ?_ (by kernel_rfl) (by kernel_rfl) (by kernel_rfl) (fun _ _ _ h => h) hHeld ?_
            rotate_left 1
            · (simp only [List.getElem?_toArray, List.getElem?_cons_succ, List.getElem?_cons_zero]; rfl)
            · rfl
            (try simp only [Act.put, List.setIfInBounds_toArray, List.set_cons_zero, List.set_cons_succ])
            refine' takeN 11 ?_ ?_ (by kernel_rfl) (by kernel_rfl) (by kernel_rfl) (fun _ _ _ h => h) hHeld ?_
            rotate_left 1
            · (simp only [List.getElem?_toArray, List.getElem?_cons_succ, List.getElem?_cons_zero]; rfl)
            · rfl
            (try simp only [Act.put, List.setIfInBounds_toArray, List.set_cons_zero, List.set_cons_succ])
            refine' takeN 12 ?_ ?_ (by kernel_rfl) (by kernel_rfl) (by kernel_rfl) (fun _ _ _ h => h) hHeld ?_
            rotate_left 1
            · (simp only [List.getElem?_toArray, List.getElem?_cons_succ, List.getElem?_cons_zero]; rfl)
            · rfl
            (try simp only [Act.put, List.setIfInBounds_toArray, List.set_cons_zero, List.set_cons_succ])
            refine' takeN 13 ?_ ?_ (by kernel_rfl) (by kernel_rfl) (by kernel_rfl) (fun _ _ _ h => h) hHeld ?_
            rotate_left 1
            · (simp only [List.getElem?_toArray, List.getElem?_cons_succ, List.getElem?_cons_zero]; rfl)
            · rfl
            (try simp only [Act.put, List.setIfInBounds_toArray, List.set_cons_zero, List.set_cons_succ])
            refine' takeN 14 ?_ ?_ (by kernel_rfl) (by kernel_rfl) (by kernel_rfl) (fun _ _ _ h => h) hHeld ?_
            rotate_left 1
            · (simp only [List.getElem?_toArray, List.getElem?_cons_succ, List.getElem?_cons_zero]; rfl)
            · rfl
            (try simp only [Act.put, List.setIfInBounds_toArray, List.set_cons_zero, List.set_cons_succ])
            refine' takeN 15 ?_ ?_ (by kernel_rfl) (by kernel_rfl) (by kernel_rfl) (fun _ _ _ h => h) hHeld ?_
            rotate_left 1
            · (simp only [List.getElem?_toArray, List.getElem?_cons_succ, List.getElem?_cons_zero]; rfl)
            · rfl
            (try simp only [Act.put, List.setIfInBounds_toArray, List.set_cons_zero, List.set_cons_succ])
            refine' takeN 16 ?_ ?_ (by kernel_rfl) (by kernel_rfl) (by kernel_rfl) (fun _ _ _ h => h) hHeld ?_
            rotate_left 1
            · (simp only [List.getElem?_toArray, List.getElem?_cons_succ, List.getElem?_cons_zero]; rfl)
            · rfl
            (try simp only [Act.put, List.setIfInBounds_toArray, List.set_cons_zero, List.set_cons_succ])
            refine' takeN 17 ?_ ?_ (by kernel_rfl) (by kernel_rfl) (by kernel_rfl) (fun _ _ _ h => h) hHeld ?_
            rotate_left 1
            · (simp only [List.getElem?_toArray, List.getElem?_cons_succ, List.getElem?_cons_zero]; rfl)
            · rfl
            (try simp only [Act.put, List.setIfInBounds_toArray, List.set_cons_zero, List.set_cons_succ])
            refine' takeN 18 ?_ ?_ (by kernel_rfl) (by kernel_rfl) (by kernel_rfl) (fun _ _ _ h => h) hHeld ?_
            rotate_left 1
            · (simp only [List.getElem?_toArray, List.getElem?_cons_succ, List.getElem?_cons_zero]; rfl)
            · rfl
            (try simp only [Act.put, List.setIfInBounds_toArray, List.set_cons_zero, List.set_cons_succ])
            refine' takeN 19 ?_ ?_ (by kernel_rfl) (by kernel_rfl) (by kernel_rfl) (fun _ _ _ h => h) hHeld ?_
            rotate_left 1
            · (simp only [List.getElem?_toArray, List.getElem?_cons_succ, List.getElem?_cons_zero]; rfl)
            · rfl
            (try simp only [Act.put, List.setIfInBounds_toArray, List.set_cons_zero, List.set_cons_succ])
            refine' takeW 20 ?_ ?_ ?_ (by kernel_rfl) (by kernel_rfl) (by kernel_rfl) (fun _ _ _ h => h) hHeld ?_
            rotate_left 2
            · (simp only [List.getElem?_toArray, List.getElem?_cons_succ, List.getElem?_cons_zero]; rfl)
            · rfl
            · (intro w hSw; (try dsimp only at hSw); go_simp; first | done | with_reducible rfl)
            (try simp only [Act.put, List.setIfInBounds_toArray, List.set_cons_zero, List.set_cons_succ])
            refine' takeW 21 ?_ ?_ ?_ (by kernel_rfl) (by kernel_rfl) (by kernel_rfl) (fun _ _ _ h => h) hHeld ?_
            rotate_left 2
            · (simp only [List.getElem?_toArray, List.getElem?_cons_succ, List.getElem?_cons_zero]; rfl)
            · rfl
            · (intro w hSw; (try dsimp only at hSw); go_simp; first | done | with_reducible rfl)
            (try simp only [Act.put, List.setIfInBounds_toArray, List.set_cons_zero, List.set_cons_succ])
            refine' takeW 22 ?_ ?_ ?_ (by kernel_rfl) (by kernel_rfl) (by kernel_rfl) (fun _ _ _ h => h) hHeld ?_
            rotate_left 2
            · (simp only [List.getElem?_toArray, List.getElem?_cons_succ, List.getElem?_cons_zero]; rfl)
            · rfl
            · (intro w hSw; (try dsimp only at hSw); go_simp; first | done | with_reducible rfl)
            (try simp only [Act.put, List.setIfInBounds_toArray, List.set_cons_zero, List.set_cons_succ])
            refine' takeW 23 ?_ ?_ ?_ (by kernel_rfl) (by kernel_rfl) (by kernel_rfl) (fun _ _ _ h => h) hHeld ?_
            rotate_left 2
            · (simp only [List.getElem?_toArray, List.getElem?_cons_succ, List.getElem?_cons_zero]; rfl)
            · rfl
            · (intro w hSw; (try dsimp only at hSw); go_simp; first | done | with_reducible rfl)
            (try simp only [Act.put, List.setIfInBounds_toArray, List.set_cons_zero, List.set_cons_succ])
            refine' takeW 25 ?_ ?_ ?_ (by kernel_rfl) (by kernel_rfl) (by kernel_rfl) (fun _ _ _ h => h) hHeld ?_
            rotate_left 2
            · (simp only [List.getElem?_toArray, List.getElem?_cons_succ, List.getElem?_cons_zero]; rfl)
            · rfl
            · (intro w hSw; (try dsimp only at hSw); go_simp; first | done | with_reducible rfl)
            (try simp only [Act.put, List.setIfInBounds_toArray, List.set_cons_zero, List.set_cons_succ])
            refine' takeW 27 ?_ ?_ ?_ (by kernel_rfl) (by kernel_rfl) (by kernel_rfl) (fun _ _ _ h => h) hHeld ?_
            rotate_left 2
            · (simp only [List.getElem?_toArray, List.getElem?_cons_succ, List.getElem?_cons_zero]; rfl)
            · rfl
            · (intro w hSw; (try dsimp only at hSw); go_simp; first | done | with_reducible rfl)
            (try simp only [Act.put, List.setIfInBounds_toArray, List.set_cons_zero, List.set_cons_succ])
            refine wpAnyH_ready (rs := [24]) (by kernel_rfl) (by simp) ?_
            refine' AllReadyH.cons ?_ (fun K hK => ?_) AllReadyH.nil
            rotate_left 1
            · (simp only [List.getElem?_toArray, List.getElem?_cons_succ, List.getElem?_cons_zero]; rfl)
            (try go_simp)
            go_fit (lenb_any _ _ _)
            rintro e w2 ⟨rfl, hb2⟩
            (try go_simp)
            refine hK.out _ _ ?_ (fun hHeld => ?_)
            · exact keep6 Plt Qlt Hlt hHeld hb2
            clear hK K
            (try simp only [Act.put, List.setIfInBounds_toArray, List.set_cons_zero, List.set_cons_succ])
            refine wpAnyH_ready (rs := [26]) (by kernel_rfl) (by simp) ?_
            refine' AllReadyH.cons ?_ (fun K hK => ?_) AllReadyH.nil
            rotate_left 1
            · (simp only [List.getElem?_toArray, List.getElem?_cons_succ, List.getElem?_cons_zero]; rfl)
            (try go_simp)
            go_fit (lenb_any _ _ _)
            rintro e w2 ⟨rfl, hb2⟩
            (try go_simp)
            refine hK.out _ _ ?_ (fun hHeld => ?_)
            · exact keep6 Plt Qlt Hlt hHeld hb2
            clear hK K
            (try simp only [Act.put, List.setIfInBounds_toArray, List.set_cons_zero, List.set_cons_succ])
            refine wpAnyH_ready (rs := [28]) (by kernel_rfl) (by simp) ?_
            refine' AllReadyH.cons ?_ (fun K hK => ?_) AllReadyH.nil
            rotate_left 1
            · (simp only [List.getElem?_toArray, List.getElem?_cons_succ, List.getElem?_cons_zero]; rfl)
            (try go_simp)
            go_fit (lenb_any _ _ _)
            rintro e w2 ⟨rfl, hb2⟩
            (try go_simp)
            refine hK.out _ _ ?_ (fun hHeld => ?_)
            · exact keep6 Plt Qlt Hlt hHeld hb2
            clear hK K
            (try simp only [Act.put, List.setIfInBounds_toArray, List.set_cons_zero, List.set_cons_succ])
            refine' takeW 29 ?_ ?_ ?_ (by kernel_rfl) (by kernel_rfl) (by kernel_rfl) (fun _ _ _ h => h) hHeld ?_
            rotate_left 2
            · (simp only [List.getElem?_toArray, List.getElem?_cons_succ, List.getElem?_cons_zero]; rfl)
            · rfl
            · (intro w hSw; (try dsimp only at hSw); go_simp; first | done | with_reducible rfl)
            (try simp only [Act.put, List.setIfInBounds_toArray, List.set_cons_zero, List.set_cons_succ])
            refine' takeW 30 ?_ ?_ ?_ (by kernel_rfl) (by kernel_rfl) (by kernel_rfl) (fun _ _ _ h => h) hHeld ?_
            rotate_left 2
            · (simp only [List.getElem?_toArray, List.getElem?_cons_succ, List.getElem?_cons_zero]; rfl)
            · rfl
            · (intro w hSw; (try dsimp only at hSw); go_simp; first | done | with_reducible rfl)
            (try simp only [Act.put, List.setIfInBounds_toArray, List.set_cons_zero, List.set_cons_succ])
            refine' takeW 31 ?_ ?_ ?_ (by kernel_rfl) (by kernel_rfl) (by kernel_rfl) (fun _ _ _ h => h) hHeld ?_
            rotate_left 2
            · (simp only [List.getElem?_toArray, List.getElem?_cons_succ, List.getElem?_cons_zero]; rfl)
            · rfl
            · (intro w hSw; (try dsimp only at hSw); go_simp; first | done | with_reducible rfl)
            (try simp only [Act.put, List.setIfInBounds_toArray, List.set_cons_zero, List.set_cons_succ])
            refine' takeW 32 ?_ ?_ ?_ (by kernel_rfl) (by kernel_rfl) (by kernel_rfl) (fun _ _ _ h => h) hHeld ?_
            rotate_left 2
            · (simp only [List.getElem?_toArray, List.getElem?_cons_succ, List.getElem?_cons_zero]; rfl)
            · rfl
            · (intro w hSw; (try dsimp only at hSw); go_simp; first | done | with_reducible rfl)
            (try simp only [Act.put, List.setIfInBounds_toArray, List.set_cons_zero, List.set_cons_succ]))
        refine wpAnyH_done (by kernel_rfl) ?_ _
        refine NoPanic.normal ?_
        go_wp2_with fail
        go_ret
        exact ⟨rfl, hb.trans (hHeld.2.2.2.2.2.2.mono hb.size)⟩
    · replace h2 : validB c d = false := by simpa using h2
      rw [h2]
      go_wp2_with fail
      go_fit (awake_of HC _ (hE.step hb))
      rintro e w5 ⟨rfl, hb5⟩
      go_wp2_with fail
      go_ret
      exact ⟨rfl, hb.trans (hb5.mono hb.size)⟩
  · replace h1 : validB a b = false := by simpa using h1
    rw [h1]
    go_wp2_with fail
    go_fit (awake_of HC _ (hE.step hb'))
    rintro e w5 ⟨rfl, hb5⟩
    go_wp2_with fail
    go_ret
    exact ⟨rfl, hb'.trans (hb5.mono hb'.size)⟩
end Go.Proofs.YthbckkjihijekaaDoor
