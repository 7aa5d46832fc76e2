/- The laws: texts, parses, relations, orders. -/
import Derived.Test.YthbckkjihijekaaDoorLa
set_option linter.unusedSimpArgs false
set_option linter.unusedVariables false
namespace Go.Proofs.YthbckkjihijekaaDoor
open Go.RowKit

theorem eraS_len (n : Int) : (eraS n).length = 3 := by unfold eraS; split <;> rfl
theorem textS_len (a b : Int) : (textS a b).length ≤ 17 := by
  unfold textS
  by_cases hv : validB a b = true
  · obtain ⟨h1, h2, h3⟩ := (validB_iff a b).1 hv
    have ha := numS_len a h2 (by omega)
    have hb := numS_len b (by omega) h3
    have ea := eraS_len a
    have eb := eraS_len b
    repeat' split
    all_goals simp only [List.length_append, List.length_cons, List.length_nil]
    all_goals omega
  · simp [hv]
theorem textS_bad {a b : Int} (hv : validB a b = false) : textS a b = [] := by simp [textS, hv]
theorem textS_ne {a b : Int} (hv : validB a b = true) : textS a b ≠ [] := by
  intro h
  have e := congrArg List.length h
  have ea := eraS_len a
  have eb := eraS_len b
  unfold textS at e
  repeat' split at e
  all_goals simp only [List.length_append, List.length_cons, List.length_nil] at e
  all_goals first | omega | simp_all
theorem parse_nil : parseV [] = .tuple #[.agg #[.int .i64 0, .int .i64 0], .int .i64 3] :=
  parseV_bad fun a b hv => textS_ne hv

set_option maxRecDepth 100000 in
set_option maxHeartbeats 2000000 in
theorem texts_of (HC : Hid CoverSaid) (a b : Int) (w : World) (hE : Env w) :
    Calls Tryd.prog 4 #[.agg #[.int .i64 a, .int .i64 b]] w fun e w' => e = .returned (.bool true) ∧ Below w.heap.size w w' := by
  obtain ⟨hb0, P⟩ := one_box w a b 23
  go_enter Tryd.func4, Tryd.ntmps4
  go_wp2_with fail
  go_fit (awake_of HC _ (hE.step hb0))
  rintro e w1 ⟨rfl, hb1⟩
  have hb := hb0.trans (hb1.mono hb0.size)
  replace P := P.below hb1
  clear hb1 hb0
  have Pc0 := P.c0; have Pc1 := P.c1; have Plt := P.lt
  go_wp2_with fail
  go_fit (text_years a b _ (hE.step hb))
  rintro e w2 ⟨rfl, hb2⟩
  have hb' := hb.trans (hb2.mono hb.size)
  (try clear Pc0 Pc1 Plt); replace P := P.below hb2
  clear hb2 hb
  have hl := textS_len a b
  have heq := eqYears
  by_cases hv : validB a b = true
  · have hp := parseV_text a b hv
    have HP := Lib.hid hp; clear hp
    have HV := Lib.hid hv; clear hv
    generalize hs : textS a b = s at *
    have HS := Lib.hid hs; clear hs
    have HL := Lib.hid hl; clear hl
    have Pc0 := P.c0; have Pc1 := P.c1; have Plt := P.lt
    go_wp2_with fail
    go_fit (parse_any s _ (Nat.le_trans HL.out (by decide)) (hE.step hb'))
    rw [HP.out]
    rintro e w3 ⟨rfl, hb3⟩
    have hb := hb'.trans (hb3.mono hb'.size)
    (try clear Pc0 Pc1 Plt); replace P := P.below hb3
    clear hb3 hb'
    have Pc0 := P.c0; have Pc1 := P.c1; have Plt := P.lt
    go_wp2_with fail
    go_fit (rtext_years a b _)
    rw [HS.out]
    rintro e w4 ⟨rfl, hb4⟩
    obtain ⟨hw4, hb', X⟩ := box_step hb hb4
    (try clear Pc0 Pc1 Plt); replace P := P.below hw4
    clear hb4 hb hw4
    generalize w3.heap.size = bx at *
    have Pc0 := P.c0; have Pc1 := P.c1; have Plt := P.lt
    go_wp2_with fail
    go_fit (rvalidb_any a b _)
    rw [HV.out]
    rintro e w5 ⟨rfl, hb5⟩
    have hb := hb'.trans (hb5.mono hb'.size)
    (try clear Pc0 Pc1 Plt Xc0 Xc1 Xlt); replace P := P.below hb5; replace X := X.below hb5
    clear hb5 hb'
    have Pc0 := P.c0; have Pc1 := P.c1; have Plt := P.lt; have Xc0 := X.c0; have Xc1 := X.c1; have Xlt := X.lt
    go_wp2_with fail
    go_ret
    exact ⟨rfl, hb⟩
  · replace hv : validB a b = false := by simpa using hv
    have hs := textS_bad hv
    have HV := Lib.hid hv; clear hv
    have HS := Lib.hid hs; clear hs hl
    rw [HS.out]
    have Pc0 := P.c0; have Pc1 := P.c1; have Plt := P.lt
    go_wp2_with fail
    go_fit (parse_any [] _ (by decide) (hE.step hb'))
    rw [parse_nil]
    rintro e w3 ⟨rfl, hb3⟩
    have hb := hb'.trans (hb3.mono hb'.size)
    (try clear Pc0 Pc1 Plt); replace P := P.below hb3
    clear hb3 hb'
    have Pc0 := P.c0; have Pc1 := P.c1; have Plt := P.lt
    go_wp2_with fail
    go_fit (rtext_years a b _)
    rw [HS.out]
    rintro e w4 ⟨rfl, hb4⟩
    obtain ⟨hw4, hb', X⟩ := box_step hb hb4
    (try clear Pc0 Pc1 Plt); replace P := P.below hw4
    clear hb4 hb hw4
    generalize w3.heap.size = bx at *
    have Pc0 := P.c0; have Pc1 := P.c1; have Plt := P.lt
    go_wp2_with fail
    go_fit (rvalidb_any a b _)
    rw [HV.out]
    rintro e w5 ⟨rfl, hb5⟩
    have hb := hb'.trans (hb5.mono hb'.size)
    (try clear Pc0 Pc1 Plt Xc0 Xc1 Xlt); replace P := P.below hb5; replace X := X.below hb5
    clear hb5 hb'
    have Pc0 := P.c0; have Pc1 := P.c1; have Plt := P.lt; have Xc0 := X.c0; have Xc1 := X.c1; have Xlt := X.lt
    go_wp2_with fail
    go_ret
    exact ⟨rfl, hb⟩

set_option maxRecDepth 100000 in
set_option maxHeartbeats 2000000 in
theorem parses_of (HC : Hid CoverSaid) (s : List UInt8) (w : World) (hE : Env w) (hm : s.length ≤ maxLen) :
    Calls Tryd.prog 5 #[.string ⟨s.toArray⟩] w fun e w' => e = .returned (.bool true) ∧ Below w.heap.size w w' := by
  unfold maxLen at hm
  by_cases h100 : 100 < s.length
  · have hz1 : (100 : Int) < (s.length : Int) := by omega
    clear h100
    go_enter Tryd.func5, Tryd.ntmps5
    go_wp2_with fail
    go_fit (awake_of HC _ hE)
    rintro e w1 ⟨rfl, hb1⟩
    go_wp2_with fail
    go_fit (awake_of HC _ (hE.step hb1))
    rintro e w2 ⟨rfl, hb2⟩
    go_wp2_with fail
    go_ret
    exact ⟨rfl, hb1.trans (hb2.mono hb1.size)⟩
  · have hz1 : ¬ (100 : Int) < (s.length : Int) := by omega
    have hc := parseV_cases s
    have he := parse_eq s
    have hl : s.length ≤ 1000 := by omega
    clear hm h100
    have HL := Lib.hid hl; clear hl
    have HE := Lib.hid he; clear he
    have HQ := Lib.hid (@eqYears)
    go_enter Tryd.func5, Tryd.ntmps5
    go_wp2_with fail
    go_fit (awake_of HC _ hE)
    rintro e w1 ⟨rfl, hb⟩
    go_wp2_with fail
    clear hz1
    rcases hc with ⟨a, b, hv, ht, hp⟩ | hp
    · have HT := Lib.hid ht; clear ht
      have HP := Lib.hid hp; clear hp hv
      go_fit (parse_any s _ HL.out (hE.step hb))
      rw [HP.out]
      rintro e w2 ⟨rfl, hb2⟩
      have hb' := hb.trans (hb2.mono hb.size)
      clear hb2 hb
      go_wp2_with fail
      go_fit (rparse_any s _ HL.out)
      rw [← HE.out, HP.out]
      rintro e w3 ⟨rfl, hb3⟩
      obtain ⟨hw3, hb, X⟩ := box_step hb' hb3
      clear hb3 hb' hw3
      generalize w2.heap.size = bx at *
      obtain ⟨hb4, Y⟩ := one_box w3 a b 23
      have Xc0 := X.c0; have Xc1 := X.c1; have Xlt := X.lt
      go_wp2_with fail
      go_fit (text_years a b _ (hE.step (hb.trans (hb4.mono hb.size))))
      rw [HT.out]
      rintro e w4 ⟨rfl, hb5⟩
      have hb' := hb.trans ((hb4.trans (hb5.mono hb4.size)).mono hb.size)
      clear hb4 hb5 hb Y X Xc0 Xc1 Xlt
      go_wp2_with fail
      go_ret
      exact ⟨rfl, hb'⟩
    · have HP := Lib.hid hp; clear hp
      go_fit (parse_any s _ HL.out (hE.step hb))
      rw [HP.out]
      rintro e w2 ⟨rfl, hb2⟩
      have hb' := hb.trans (hb2.mono hb.size)
      clear hb2 hb
      go_wp2_with fail
      go_fit (rparse_any s _ HL.out)
      rw [← HE.out, HP.out]
      rintro e w3 ⟨rfl, hb3⟩
      obtain ⟨hw3, hb, X⟩ := box_step hb' hb3
      clear hb3 hb' hw3
      generalize w2.heap.size = bx at *
      have Xc0 := X.c0; have Xc1 := X.c1; have Xlt := X.lt
      go_wp2_with fail
      go_ret
      exact ⟨rfl, hb.trans ((one_box w3 0 0 23).1.mono hb.size)⟩

theorem cmpI_lt {a b : Int} (h : a < b) : cmpI a b = -1 := by unfold cmpI; rw [if_pos h]
theorem cmpI_eq {a b : Int} (h : a = b) : cmpI a b = 0 := by unfold cmpI; rw [if_neg (by omega), if_pos h]
theorem cmpI_gt {a b : Int} (h : b < a) : cmpI a b = 1 := by unfold cmpI; rw [if_neg (by omega), if_neg (by omega)]
theorem relI_law (a b c d : Int) (hv : validB a b = true) (hv' : validB c d = true) :
    1 ≤ relI a b c d ∧ relI a b c d ≤ 13 ∧ relI c d a b = 14 - relI a b c d ∧ (relI a b c d = 7 ↔ a = c ∧ b = d) ∧ (relI a b c d = 1 ↔ b + 1 < c) ∧ ((3 ≤ relI a b c d ∧ relI a b c d ≤ 11) ↔ c ≤ b ∧ a ≤ d) := by
  obtain ⟨h1, h2, h3⟩ := (validB_iff a b).1 hv
  obtain ⟨h4, h5, h6⟩ := (validB_iff c d).1 hv'
  unfold relI
  rcases Int.lt_trichotomy a c with x | x | x <;> rcases Int.lt_trichotomy b d with y | y | y <;>
    (first | rw [cmpI_lt x, cmpI_gt x] | rw [cmpI_eq x, cmpI_eq x.symm] | rw [cmpI_gt x, cmpI_lt x]) <;>
    (first | rw [cmpI_lt y, cmpI_gt y] | rw [cmpI_eq y, cmpI_eq y.symm] | rw [cmpI_gt y, cmpI_lt y]) <;>
    rcases Int.lt_trichotomy (b + 1) c with u | u | u <;> rcases Int.lt_trichotomy (d + 1) a with v | v | v <;>
    first
    | omega
    | (simp (disch := omega) only [if_pos, if_neg]; omega)
theorem eq7 {n a b c d : Int} (h : n = 7 ↔ a = c ∧ b = d) : ((n == 7) == (a == c && b == d)) = true := by
  have : (n == 7) = (a == c && b == d) := by rw [Bool.eq_iff_iff]; simp [h]
  rw [this]; simp
theorem relV_bad1 {a b c d : Int} (h : validB a b = false) : relV a b c d = 0 := by simp [relV, h]
theorem relV_bad2 {a b c d : Int} (h : validB c d = false) : relV a b c d = 0 := by simp [relV, h]
theorem relV_ok {a b c d : Int} (h : validB a b = true) (h' : validB c d = true) : relV a b c d = relI a b c d := by simp [relV, h, h']

set_option maxRecDepth 100000 in
set_option maxHeartbeats 2000000 in
theorem relates_of (HC : Hid CoverSaid) (a b c d : Int) (w : World) (hE : Env w) :
    Calls Tryd.prog 6 #[.agg #[.int .i64 a, .int .i64 b], .agg #[.int .i64 c, .int .i64 d]] w fun e w' => e = .returned (.bool true) ∧ Below w.heap.size w w' := by
  obtain ⟨hb0, P, Q⟩ := two_boxes w a b c d 23 23
  have HQ := Lib.hid eqYears
  go_enter Tryd.func6, Tryd.ntmps6
  go_wp2_with fail
  go_fit (awake_of HC _ (hE.step hb0))
  rintro e w1 ⟨rfl, hb1⟩
  have hb := hb0.trans (hb1.mono hb0.size)
  replace P := P.below hb1
  replace Q := Q.below hb1
  clear hb1 hb0
  have Pc0 := P.c0; have Pc1 := P.c1; have Plt := P.lt; have Qc0 := Q.c0; have Qc1 := Q.c1; have Qlt := Q.lt
  go_wp2_with fail
  go_fit (relation_any a b c d _)
  rintro e w2 ⟨rfl, hb2⟩
  have hb' := hb.trans (hb2.mono hb.size)
  (try clear Pc0 Pc1 Plt Qc0 Qc1 Qlt); replace P := P.below hb2; replace Q := Q.below hb2
  clear hb2 hb
  have hr := relV_eq a b c d
  have hz : -1000 ≤ relV a b c d ∧ relV a b c d ≤ 1000 := by
    by_cases h1 : validB a b = true
    · by_cases h2 : validB c d = true
      · have := relI_law a b c d h1 h2
        rw [relV_ok h1 h2]; omega
      · rw [relV_bad2 (by simpa using h2)]; omega
    · rw [relV_bad1 (by simpa using h1)]; omega
  generalize hn : relV a b c d = n at *
  have HR := Lib.hid hr; clear hr
  have HN := Lib.hid hn; clear hn
  have Pc0 := P.c0; have Pc1 := P.c1; have Plt := P.lt; have Qc0 := Q.c0; have Qc1 := Q.c1; have Qlt := Q.lt
  go_wp2_with fail
  go_fit (rrelation_any a b c d _)
  rw [← HR.out]
  rintro e w3 ⟨rfl, hb3⟩
  have hb := hb'.trans (hb3.mono hb'.size)
  (try clear Pc0 Pc1 Plt Qc0 Qc1 Qlt); replace P := P.below hb3; replace Q := Q.below hb3
  clear hb3 hb'
  have Pc0 := P.c0; have Pc1 := P.c1; have Plt := P.lt; have Qc0 := Q.c0; have Qc1 := Q.c1; have Qlt := Q.lt
  go_wp2_with fail
  go_fit (rvalidb_any a b _)
  rintro e w4 ⟨rfl, hb4⟩
  have hb' := hb.trans (hb4.mono hb.size)
  (try clear Pc0 Pc1 Plt Qc0 Qc1 Qlt); replace P := P.below hb4; replace Q := Q.below hb4
  clear hb4 hb
  have Pc0 := P.c0; have Pc1 := P.c1; have Plt := P.lt; have Qc0 := Q.c0; have Qc1 := Q.c1; have Qlt := Q.lt
  by_cases h1 : validB a b = true
  · rw [h1]
    have H1 := Lib.hid h1; clear h1
    go_wp2_with fail
    go_fit (rvalidb_any c d _)
    rintro e w5 ⟨rfl, hb5⟩
    have hb := hb'.trans (hb5.mono hb'.size)
    (try clear Pc0 Pc1 Plt Qc0 Qc1 Qlt); replace P := P.below hb5; replace Q := Q.below hb5
    clear hb5 hb'
    have Pc0 := P.c0; have Pc1 := P.c1; have Plt := P.lt; have Qc0 := Q.c0; have Qc1 := Q.c1; have Qlt := Q.lt
    by_cases h2 : validB c d = true
    · rw [h2]
      have H2 := Lib.hid h2; clear h2
      obtain ⟨k1, k2, k3, k4, _⟩ := relI_law a b c d H1.out H2.out
      have e1 : relI a b c d = n := (relV_ok H1.out H2.out).symm.trans HN.out
      rw [e1] at k1 k2 k3 k4
      have e2 : relV c d a b = 14 - n := (relV_ok H2.out H1.out).trans k3
      have HN2 := Lib.hid e2
      have HK := Lib.hid k4
      clear e1 e2 k3 k4
      go_wp2_with fail
      go_fit (relation_any c d a b _)
      rw [HN2.out]
      rintro e w6 ⟨rfl, hb6⟩
      have hb' := hb.trans (hb6.mono hb.size)
      (try clear Pc0 Pc1 Plt Qc0 Qc1 Qlt); replace P := P.below hb6; replace Q := Q.below hb6
      clear hb6 hb
      have Pc0 := P.c0; have Pc1 := P.c1; have Plt := P.lt; have Qc0 := Q.c0; have Qc1 := Q.c1; have Qlt := Q.lt
      have heq := HQ.out
      have hbb := eq7 HK.out
      go_wp2_with fail
      go_ret
      exact ⟨rfl, hb'⟩
    · replace h2 : validB c d = false := by simpa using h2
      rw [h2]
      have H2 := Lib.hid h2; clear h2
      obtain rfl : n = 0 := HN.out.symm.trans (relV_bad2 H2.out)
      go_wp2_with fail
      go_fit (relation_any c d a b _)
      rw [relV_bad1 H2.out]
      rintro e w6 ⟨rfl, hb6⟩
      have hb' := hb.trans (hb6.mono hb.size)
      go_wp2_with fail
      go_ret
      exact ⟨rfl, hb'⟩
  · replace h1 : validB a b = false := by simpa using h1
    rw [h1]
    have H1 := Lib.hid h1; clear h1
    obtain rfl : n = 0 := HN.out.symm.trans (relV_bad1 H1.out)
    go_wp2_with fail
    go_fit (relation_any c d a b _)
    rw [relV_bad2 H1.out]
    rintro e w6 ⟨rfl, hb6⟩
    have hb := hb'.trans (hb6.mono hb'.size)
    go_wp2_with fail
    go_ret
    exact ⟨rfl, hb⟩

theorem three_boxes (w : World) (a b c d x y : Int) (t u v : TypeId) :
    Below w.heap.size w (((w.alloc (.cells #[.int .i64 a, .int .i64 b] t)).alloc (.cells #[.int .i64 c, .int .i64 d] u)).alloc (.cells #[.int .i64 x, .int .i64 y] v)) ∧
    Box (((w.alloc (.cells #[.int .i64 a, .int .i64 b] t)).alloc (.cells #[.int .i64 c, .int .i64 d] u)).alloc (.cells #[.int .i64 x, .int .i64 y] v)) w.heap.size a b ∧
    Box (((w.alloc (.cells #[.int .i64 a, .int .i64 b] t)).alloc (.cells #[.int .i64 c, .int .i64 d] u)).alloc (.cells #[.int .i64 x, .int .i64 y] v)) (w.heap.size + 1) c d ∧
    Box (((w.alloc (.cells #[.int .i64 a, .int .i64 b] t)).alloc (.cells #[.int .i64 c, .int .i64 d] u)).alloc (.cells #[.int .i64 x, .int .i64 y] v)) (w.heap.size + 2) x y := by
  obtain ⟨h0, P, Q⟩ := two_boxes w a b c d t u
  obtain ⟨h1, R⟩ := one_box ((w.alloc (.cells #[.int .i64 a, .int .i64 b] t)).alloc (.cells #[.int .i64 c, .int .i64 d] u)) x y v
  refine ⟨h0.trans (h1.mono h0.size), P.below h1, Q.below h1, ?_⟩
  simpa only [World.size_alloc] using R
theorem meet_law (a b c d : Int) (hv : validB a b = true) (hv' : validB c d = true) :
    (c ≤ b ∧ a ≤ d → meetV a b c d = .tuple #[.agg #[.int .i64 (mx a c), .int .i64 (mn b d)], .bool true]) ∧ (¬ (c ≤ b ∧ a ≤ d) → meetV a b c d = .tuple #[.agg #[.int .i64 0, .int .i64 0], .bool false]) := by
  have h := mx_mn_valid a b c d hv hv'
  obtain ⟨h1, h2, h3⟩ := (validB_iff a b).1 hv
  obtain ⟨h4, h5, h6⟩ := (validB_iff c d).1 hv'
  have hd : mn b d < mx a c ↔ ¬ (c ≤ b ∧ a ≤ d) := by unfold mn mx; split <;> split <;> omega
  unfold meetV
  rw [h, hv, hv']
  constructor
  · intro hc
    have : ¬ mn b d < mx a c := by rw [hd]; simpa using hc
    simp [this]
  · intro hc
    have : mn b d < mx a c := hd.2 hc
    simp [this]

set_option maxRecDepth 100000 in
set_option maxHeartbeats 2000000 in
theorem orders_of (HC : Hid CoverSaid) (a b c d x y : Int) (w : World) (hE : Env w) :
    Calls Tryd.prog 7 #[.agg #[.int .i64 a, .int .i64 b], .agg #[.int .i64 c, .int .i64 d], .agg #[.int .i64 x, .int .i64 y]] w fun e w' => e = .returned (.bool true) ∧ Below w.heap.size w w' := by
  obtain ⟨hb0, P, Q, R⟩ := three_boxes w a b c d x y 23 23 23
  go_enter Tryd.func7, Tryd.ntmps7
  go_wp2_with fail
  go_fit (awake_of HC _ (hE.step hb0))
  rintro e w1 ⟨rfl, hb1⟩
  have hb := hb0.trans (hb1.mono hb0.size)
  replace P := P.below hb1
  replace Q := Q.below hb1
  replace R := R.below hb1
  clear hb1 hb0
  have Pc0 := P.c0; have Pc1 := P.c1; have Plt := P.lt; have Qc0 := Q.c0; have Qc1 := Q.c1; have Qlt := Q.lt; have Rc0 := R.c0; have Rc1 := R.c1; have Rlt := R.lt
  go_wp2_with fail
  go_fit (rvalidb_any a b _)
  rintro e w2 ⟨rfl, hb2⟩
  have hb' := hb.trans (hb2.mono hb.size)
  (try clear Pc0 Pc1 Plt Qc0 Qc1 Qlt Rc0 Rc1 Rlt); replace P := P.below hb2; replace Q := Q.below hb2; replace R := R.below hb2
  clear hb2 hb
  have Pc0 := P.c0; have Pc1 := P.c1; have Plt := P.lt; have Qc0 := Q.c0; have Qc1 := Q.c1; have Qlt := Q.lt; have Rc0 := R.c0; have Rc1 := R.c1; have Rlt := R.lt
  by_cases h1 : validB a b = true
  · rw [h1]
    have H1 := Lib.hid h1; clear h1
    go_wp2_with fail
    go_fit (rvalidb_any c d _)
    rintro e w3 ⟨rfl, hb3⟩
    have hb := hb'.trans (hb3.mono hb'.size)
    (try clear Pc0 Pc1 Plt Qc0 Qc1 Qlt Rc0 Rc1 Rlt); replace P := P.below hb3; replace Q := Q.below hb3; replace R := R.below hb3
    clear hb3 hb'
    have Pc0 := P.c0; have Pc1 := P.c1; have Plt := P.lt; have Qc0 := Q.c0; have Qc1 := Q.c1; have Qlt := Q.lt; have Rc0 := R.c0; have Rc1 := R.c1; have Rlt := R.lt
    by_cases h2 : validB c d = true
    · rw [h2]
      have H2 := Lib.hid h2; clear h2
      go_wp2_with fail
      go_fit (rvalidb_any x y _)
      rintro e w4 ⟨rfl, hb4⟩
      have hb' := hb.trans (hb4.mono hb.size)
      (try clear Pc0 Pc1 Plt Qc0 Qc1 Qlt Rc0 Rc1 Rlt); replace P := P.below hb4; replace Q := Q.below hb4; replace R := R.below hb4
      clear hb4 hb
      have Pc0 := P.c0; have Pc1 := P.c1; have Plt := P.lt; have Qc0 := Q.c0; have Qc1 := Q.c1; have Qlt := Q.lt; have Rc0 := R.c0; have Rc1 := R.c1; have Rlt := R.lt
      by_cases h3 : validB x y = true
      · rw [h3]
        have H3 := Lib.hid h3; clear h3
        go_wp2_with fail
        go_fit (relation_any a b c d _)
        rw [relV_ok H1.out H2.out]
        rintro e w5 ⟨rfl, hb5⟩
        have hb := hb'.trans (hb5.mono hb'.size)
        (try clear Pc0 Pc1 Plt Qc0 Qc1 Qlt Rc0 Rc1 Rlt); replace P := P.below hb5; replace Q := Q.below hb5; replace R := R.below hb5
        clear hb5 hb'
        have Pc0 := P.c0; have Pc1 := P.c1; have Plt := P.lt; have Qc0 := Q.c0; have Qc1 := Q.c1; have Qlt := Q.lt; have Rc0 := R.c0; have Rc1 := R.c1; have Rlt := R.lt
        obtain ⟨k1, k2, k3, k4, k5, k6⟩ := relI_law a b c d H1.out H2.out
        generalize hn : relI a b c d = n at *
        have HN := Lib.hid hn
        have K5 := Lib.hid k5
        clear hn k3 k4 k5
        go_wp2_with fail
        go_fit (meet_any a b c d _)
        obtain ⟨m1, m2⟩ := meet_law a b c d H1.out H2.out
        by_cases hc : c ≤ b ∧ a ≤ d
        · obtain ⟨n1, n2⟩ := k6.2 hc
          rw [m1 hc]
          clear m1 m2 k6 hc
          rintro e w6 ⟨rfl, hb6⟩
          have hb' := hb.trans (hb6.mono hb.size)
          clear P Q R Pc0 Pc1 Plt Qc0 Qc1 Qlt Rc0 Rc1 Rlt hb6 hb
          generalize mx a c = u0 at *
          generalize mn b d = u1 at *
          go_wp2_with fail
          go_ret
          exact ⟨rfl, hb'.trans ((one_box w6 u0 u1 23).1.mono hb'.size)⟩
        · have hn3 : ¬ (3 ≤ n ∧ n ≤ 11) := fun h => hc (k6.1 h)
          rw [m2 hc]
          clear m1 m2 k6 hc
          rintro e w6 ⟨rfl, hb6⟩
          have hb' := hb.trans (hb6.mono hb.size)
          (try clear Pc0 Pc1 Plt Qc0 Qc1 Qlt Rc0 Rc1 Rlt); replace P := P.below hb6; replace Q := Q.below hb6; replace R := R.below hb6
          clear hb6 hb
          have Pc0 := P.c0; have Pc1 := P.c1; have Plt := P.lt; have Qc0 := Q.c0; have Qc1 := Q.c1; have Qlt := Q.lt; have Rc0 := R.c0; have Rc1 := R.c1; have Rlt := R.lt
          rcases (show n < 3 ∨ 11 < n from by omega) with hn | hn
          · by_cases hn1 : n = 1
            · have hlt1 := K5.out.1 hn1
              subst hn1
              clear hn hn3 k1 k2 K5
              go_wp2_with fail
              obtain ⟨hbu, U⟩ := one_box w6 0 0 23
              generalize hW : w6.alloc (.cells #[.int .i64 0, .int .i64 0] 23) = W at *
              replace hb' := hb'.trans (hbu.mono hb'.size)
              (try clear Pc0 Pc1 Plt Qc0 Qc1 Qlt Rc0 Rc1 Rlt); replace P := P.below hbu; replace Q := Q.below hbu; replace R := R.below hbu
              clear hbu hW U
              go_fit (relation_any c d x y _)
              rw [relV_ok H2.out H3.out]
              rintro e w7 ⟨rfl, hb7⟩
              have hb := hb'.trans (hb7.mono hb'.size)
              (try clear Pc0 Pc1 Plt Qc0 Qc1 Qlt Rc0 Rc1 Rlt); replace P := P.below hb7; replace Q := Q.below hb7; replace R := R.below hb7
              clear hb7 hb'
              have Pc0 := P.c0; have Pc1 := P.c1; have Plt := P.lt; have Qc0 := Q.c0; have Qc1 := Q.c1; have Qlt := Q.lt; have Rc0 := R.c0; have Rc1 := R.c1; have Rlt := R.lt
              have k7 := (relI_law c d x y H2.out H3.out).2.2.2.2.1
              by_cases hk : relI c d x y = 1
              · have hlt2 := k7.1 hk
                have hv2 := (validB_iff c d).1 H2.out
                have h1x : relI a b x y = 1 := (relI_law a b x y H1.out H3.out).2.2.2.2.1.2 (by omega)
                have H1X := Lib.hid h1x
                rw [hk]
                clear hk k7 hlt2 hlt1 hv2 h1x
                go_wp2_with fail
                go_fit (relation_any a b x y _)
                rw [relV_ok H1.out H3.out, H1X.out]
                rintro e w8 ⟨rfl, hb8⟩
                have hb' := hb.trans (hb8.mono hb.size)
                clear P Q R Pc0 Pc1 Plt Qc0 Qc1 Qlt Rc0 Rc1 Rlt hb8 hb
                go_wp2_with fail
                go_ret
                exact ⟨rfl, hb'⟩
              · generalize relI c d x y = k at *
                clear k7 hlt1
                go_wp2_with fail
                go_ret
                exact ⟨rfl, hb⟩
            · clear P Q R K5
              go_wp2_with fail
              go_ret
              exact ⟨rfl, hb'.trans ((one_box w6 0 0 23).1.mono hb'.size)⟩
          · have hn1 : ¬ n = 1 := by omega
            have hn2 : 3 ≤ n := by omega
            clear P Q R K5
            go_wp2_with fail
            go_ret
            exact ⟨rfl, hb'.trans ((one_box w6 0 0 23).1.mono hb'.size)⟩
      · replace h3 : validB x y = false := by simpa using h3
        rw [h3]
        go_wp2_with fail
        go_fit (awake_of HC _ (hE.step hb'))
        rintro e w5 ⟨rfl, hb5⟩
        go_wp2_with fail
        go_ret
        exact ⟨rfl, hb'.trans (hb5.mono hb'.size)⟩
    · replace h2 : validB c d = false := by simpa using h2
      rw [h2]
      go_wp2_with fail
      go_fit (awake_of HC _ (hE.step hb))
      rintro e w5 ⟨rfl, hb5⟩
      go_wp2_with fail
      go_ret
      exact ⟨rfl, hb.trans (hb5.mono hb.size)⟩
  · replace h1 : validB a b = false := by simpa using h1
    rw [h1]
    go_wp2_with fail
    go_fit (awake_of HC _ (hE.step hb'))
    rintro e w5 ⟨rfl, hb5⟩
    go_wp2_with fail
    go_ret
    exact ⟨rfl, hb'.trans (hb5.mono hb'.size)⟩
end Go.Proofs.YthbckkjihijekaaDoor
