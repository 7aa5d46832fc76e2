/- The plain law of Parse: both answers are the years whose text the string is. -/
import Derived.Test.YthbckkjihijekaaDoorYq
import Derived.Lib.AtoiTie
set_option linter.unusedSimpArgs false
set_option linter.unusedVariables false
namespace Go.Proofs.YthbckkjihijekaaDoor
open Go.RowKit

def isDig (c : UInt8) : Prop := 48 ≤ c.toNat ∧ c.toNat ≤ 57
theorem dg_toNat (k : Nat) (h : k < 10) : (UInt8.ofNat (48 + k)).toNat = 48 + k := by
  rw [UInt8.toNat_ofNat']; omega
theorem dec_digits (u : Nat) : ∀ c ∈ Lib.decDigits u, isDig c := by
  induction u using Nat.strongRecOn with
  | _ u ih =>
    intro c hc
    rw [Lib.decDigits] at hc
    split at hc
    · rename_i h
      rw [List.mem_singleton] at hc; subst hc
      unfold isDig; rw [dg_toNat u h]; omega
    · rcases List.mem_append.1 hc with hc | hc
      · exact ih _ (by omega) c hc
      · rw [List.mem_singleton] at hc; subst hc
        unfold isDig; rw [dg_toNat _ (by omega)]; omega
theorem dec_ne (u : Nat) : Lib.decDigits u ≠ [] := by
  rw [Lib.decDigits]; split <;> simp
theorem decFrom_append : ∀ (x y : List UInt8) (acc : Nat), Lib.decFrom acc (x ++ y) = (Lib.decFrom acc x).bind fun n => Lib.decFrom n y
  | [], y, acc => rfl
  | c :: x, y, acc => by
    simp only [List.cons_append, Lib.decFrom]
    cases Lib.digitVal c with
    | none => rfl
    | some d => exact decFrom_append x y _
theorem digitVal_dg (k : Nat) (h : k < 10) : Lib.digitVal (UInt8.ofNat (48 + k)) = some k := by
  unfold Lib.digitVal
  rw [dg_toNat k h, if_pos (by omega)]
  simp
theorem decFrom_dec (u : Nat) : Lib.decFrom 0 (Lib.decDigits u) = some u := by
  induction u using Nat.strongRecOn with
  | _ u ih =>
    rw [Lib.decDigits]
    split
    · rename_i h
      simp only [Lib.decFrom, digitVal_dg u h]; simp
    · rw [decFrom_append, ih _ (by omega)]
      simp only [Option.bind, Lib.decFrom, digitVal_dg (u % 10) (by omega)]
      simp; omega
theorem atoiAll_dec (u : Nat) (h : (Lib.decDigits u).length ≤ 18) : Lib.atoiAll (Lib.decDigits u) = .ok (u : Int) := by
  have hd := dec_digits u
  have hf := decFrom_dec u
  have hn := dec_ne u
  rw [Lib.atoiAll_short _ h]
  generalize Lib.decDigits u = l at *
  cases l with
  | nil => exact absurd rfl hn
  | cons c r =>
    have hc := hd c (List.mem_cons_self ..)
    unfold isDig at hc
    have h45 : (c == 45) = false := by
      rw [beq_eq_false_iff_ne]; intro e; subst e; simp at hc
    have h43 : (c == 43) = false := by
      rw [beq_eq_false_iff_ne]; intro e; subst e; simp at hc
    simp only [Lib.atoi, h45, h43, Lib.decNat, List.isEmpty_cons, if_false, Bool.false_eq_true]
    rw [hf]; rfl
theorem digN_dec : ∀ (x r : List UInt8) (f n m : Nat), x.length ≤ f → (∀ c ∈ x, isDig c) → Lib.decFrom n x = some m → (∀ c t, r = c :: t → ¬ isDig c) → digN f n (x ++ r) = (m, r)
  | [], r, f, n, m, hf, hd, hm, hr => by
    simp only [Lib.decFrom, Option.some.injEq] at hm
    subst hm
    rw [List.nil_append]
    cases f with
    | zero => rfl
    | succ f =>
      cases r with
      | nil => rfl
      | cons c t =>
        rw [digN, if_neg (show ¬ (48 ≤ c.toNat ∧ c.toNat ≤ 57) from hr c t rfl)]
  | c :: x, r, f, n, m, hf, hd, hm, hr => by
    obtain ⟨f, rfl⟩ : ∃ f', f = f' + 1 := ⟨f - 1, by simp at hf; omega⟩
    have hc := hd c (List.mem_cons_self ..)
    rw [List.cons_append, digN, if_pos (show 48 ≤ c.toNat ∧ c.toNat ≤ 57 from hc)]
    refine digN_dec x r f _ m (by simp at hf; omega) (fun c' h' => hd c' (List.mem_cons_of_mem _ h')) ?_ hr
    simp only [Lib.decFrom] at hm
    rw [show Lib.digitVal c = some (c.toNat - 48) from by unfold Lib.digitVal; rw [if_pos (show 48 ≤ c.toNat ∧ c.toNat ≤ 57 from hc)]] at hm
    rw [Nat.mul_comm]; exact hm

theorem suf_append (x p : List UInt8) : Lib.hasSuffix (x ++ p) p = true := by
  unfold Lib.hasSuffix; rw [List.isSuffixOf_iff_suffix]; exact List.suffix_append x p
theorem trim_append (x p : List UInt8) : Lib.trimSuffix (x ++ p) p = x := by
  unfold Lib.trimSuffix; rw [if_pos (suf_append x p)]; simp
theorem suf_other (x : List UInt8) : Lib.hasSuffix (x ++ sAD) sBC = false := by
  rw [← Bool.not_eq_true]
  unfold Lib.hasSuffix
  rw [List.isSuffixOf_iff_suffix]
  rintro ⟨t, ht⟩
  have := (List.append_inj_right' ht (by rfl))
  exact absurd this (by decide)
theorem suf_digits (x : List UInt8) (p : List UInt8) (hx : ∀ c ∈ x, isDig c) (hp : ∃ c ∈ p, ¬ isDig c) : Lib.hasSuffix x p = false := by
  rw [← Bool.not_eq_true]
  unfold Lib.hasSuffix
  rw [List.isSuffixOf_iff_suffix]
  rintro ⟨t, ht⟩
  obtain ⟨c, hc, hn⟩ := hp
  exact hn (hx c (by rw [← ht]; exact List.mem_append_right _ hc))
theorem trim_digits (x : List UInt8) (p : List UInt8) (hx : ∀ c ∈ x, isDig c) (hp : ∃ c ∈ p, ¬ isDig c) : Lib.trimSuffix x p = x := by
  unfold Lib.trimSuffix; rw [suf_digits x p hx hp]; rfl
theorem bc_not : ∃ c ∈ sBC, ¬ isDig c := ⟨32, by decide, by unfold isDig; decide⟩
theorem index_none : ∀ (d : List UInt8), (45 : UInt8) ∉ d → Lib.index d [45] = -1
  | [], _ => rfl
  | c :: d, h => by
    have hc : ((45 : UInt8) == c) = false := by rw [beq_eq_false_iff_ne]; intro e; exact h (by rw [e]; exact List.mem_cons_self ..)
    have ih := index_none d (fun h' => h (List.mem_cons_of_mem _ h'))
    simp [Lib.index, List.isPrefixOf, hc, ih]
theorem index_dash : ∀ (d r : List UInt8), (45 : UInt8) ∉ d → Lib.index (d ++ 45 :: r) [45] = d.length
  | [], r, _ => by simp [Lib.index, List.isPrefixOf]
  | c :: d, r, h => by
    have hc : ((45 : UInt8) == c) = false := by rw [beq_eq_false_iff_ne]; intro e; exact h (by rw [e]; exact List.mem_cons_self ..)
    have ih := index_dash d r (fun h' => h (List.mem_cons_of_mem _ h'))
    have hne : ((d.length : Int) == -1) = false := by rw [beq_eq_false_iff_ne]; omega
    simp [Lib.index, List.isPrefixOf, hc, ih, hne]
theorem cut_none (d : List UInt8) (h : (45 : UInt8) ∉ d) : Lib.cut d [45] = (d, [], false) := by
  unfold Lib.cut; rw [index_none d h]; rfl
theorem cut_dash (d r : List UInt8) (h : (45 : UInt8) ∉ d) : Lib.cut (d ++ 45 :: r) [45] = (d, r, true) := by
  unfold Lib.cut; rw [index_dash d r h, if_pos (by omega)]
  simp

theorem numS_dec (n : Int) (h1 : -9999 ≤ n) (h2 : n ≤ 9999) : ∃ u : Nat, numS n = Lib.decDigits u ∧ (if 0 < n then n = u else n = 1 - u) ∧ u ≤ 10000 := by
  by_cases h : 0 < n
  · refine ⟨n.toNat, ?_, ?_, by omega⟩
    · unfold numS Lib.itoa; rw [if_pos h, if_neg (by omega)]
    · rw [if_pos h]; omega
  · refine ⟨(1 - n).toNat, ?_, ?_, by omega⟩
    · unfold numS Lib.itoa; rw [if_neg h, if_neg (by omega)]
    · rw [if_neg h]; omega
theorem numS_dig (n : Int) (h1 : -9999 ≤ n) (h2 : n ≤ 9999) : ∀ c ∈ numS n, isDig c := by
  obtain ⟨u, hu, _⟩ := numS_dec n h1 h2
  rw [hu]; exact dec_digits u
theorem numS_dash (n : Int) (h1 : -9999 ≤ n) (h2 : n ≤ 9999) : (45 : UInt8) ∉ numS n := fun h => by
  have := numS_dig n h1 h2 45 h
  unfold isDig at this
  simp at this
theorem yearV_num (n : Int) (h1 : -9999 ≤ n) (h2 : n ≤ 9999) : yearV (numS n) (decide (n ≤ 0)) = n := by
  obtain ⟨u, hu, hn, hb⟩ := numS_dec n h1 h2
  have hl := numS_len n h1 h2
  rw [hu] at hl ⊢
  unfold yearV
  rw [atoiAll_dec u (by omega)]
  simp only
  rw [if_neg (by omega)]
  by_cases h : 0 < n
  · rw [if_pos h] at hn
    rw [show decide (n ≤ 0) = false from by simp; omega]
    simp; omega
  · rw [if_neg h] at hn
    rw [show decide (n ≤ 0) = true from by simp; omega]
    simp only [if_true]
    rw [show wrap64 (1 - (u : Int)) = 1 - (u : Int) from by unfold wrap64; omega]; omega
theorem eraS_neg {n : Int} (h : n ≤ 0) : eraS n = sBC := by unfold eraS; rw [if_neg (by omega)]; rfl
theorem eraS_pos {n : Int} (h : 0 < n) : eraS n = sAD := by unfold eraS; rw [if_pos h]; rfl

/-- The four forms. -/
theorem text_forms (a b : Int) (hv : validB a b = true) :
    (a = b ∧ a ≤ 0 ∧ textS a b = numS a ++ sBC) ∨ (a = b ∧ 0 < a ∧ textS a b = numS a ++ sAD) ∨
    (a ≠ b ∧ a ≤ 0 ∧ b ≤ 0 ∧ textS a b = (numS a ++ 45 :: numS b) ++ sBC) ∨ (a ≠ b ∧ 0 < a ∧ 0 < b ∧ textS a b = (numS a ++ 45 :: numS b) ++ sAD) ∨
    (a ≠ b ∧ a ≤ 0 ∧ 0 < b ∧ textS a b = ((numS a ++ sBC) ++ 45 :: numS b) ++ sAD) := by
  obtain ⟨h1, h2, h3⟩ := (validB_iff a b).1 hv
  unfold textS
  rw [if_pos hv]
  by_cases hab : a = b
  · subst hab
    rw [if_pos rfl]
    by_cases h : 0 < a
    · exact .inr (.inl ⟨rfl, h, by rw [eraS_pos h]⟩)
    · exact .inl ⟨rfl, by omega, by rw [eraS_neg (by omega)]⟩
  · rw [if_neg hab]
    by_cases ha : 0 < a
    · rw [eraS_pos ha, eraS_pos (show 0 < b by omega), if_pos rfl]
      exact .inr (.inr (.inr (.inl ⟨hab, ha, by omega, by simp⟩)))
    · by_cases hb : 0 < b
      · rw [eraS_neg (show a ≤ 0 by omega), eraS_pos hb, if_neg (by decide)]
        exact .inr (.inr (.inr (.inr ⟨hab, by omega, hb, by simp⟩)))
      · rw [eraS_neg (show a ≤ 0 by omega), eraS_neg (show b ≤ 0 by omega), if_pos rfl]
        exact .inr (.inr (.inl ⟨hab, by omega, by omega, by simp⟩))

/-- The years are read from their text. -/
theorem parse_text (a b : Int) (hv : validB a b = true) : pFrom (textS a b) = a ∧ pTo (textS a b) = b := by
  obtain ⟨h1, h2, h3⟩ := (validB_iff a b).1 hv
  have ya := yearV_num a h2 (by omega)
  have yb := yearV_num b (by omega) h3
  have da := numS_dig a h2 (by omega)
  have na := numS_dash a h2 (by omega)
  have nb := numS_dash b (by omega) h3
  have nbc : (45 : UInt8) ∉ numS a ++ sBC := by
    intro h
    rcases List.mem_append.1 h with h | h
    · exact na h
    · exact absurd h (by decide)
  have ta := trim_digits _ _ da bc_not
  have sa := suf_digits _ _ da bc_not
  rcases text_forms a b hv with ⟨rfl, h, e⟩ | ⟨rfl, h, e⟩ | ⟨hn, h, h', e⟩ | ⟨hn, h, h', e⟩ | ⟨hn, h, h', e⟩ <;> rw [e]
  · rw [decide_eq_true h] at ya
    have hP : pNums (numS a ++ sBC) = numS a := by unfold pNums; rw [suf_append, if_pos rfl, trim_append]
    have hA : pA (numS a ++ sBC) = numS a := by unfold pA; rw [hP, cut_none _ na]
    have hB : pB (numS a ++ sBC) = numS a := by unfold pB; rw [hP, cut_none _ na, if_neg (by simp), hA]
    unfold pFrom pTo
    rw [hA, hB, suf_append, ta, Bool.true_or]
    exact ⟨ya, ya⟩
  · rw [show decide (a ≤ 0) = false from by simp; omega] at ya
    have hP : pNums (numS a ++ sAD) = numS a := by unfold pNums; rw [suf_other, if_neg (by simp), trim_append]
    have hA : pA (numS a ++ sAD) = numS a := by unfold pA; rw [hP, cut_none _ na]
    have hB : pB (numS a ++ sAD) = numS a := by unfold pB; rw [hP, cut_none _ na, if_neg (by simp), hA]
    unfold pFrom pTo
    rw [hA, hB, suf_other, ta, sa, Bool.false_or]
    exact ⟨ya, ya⟩
  · rw [decide_eq_true h] at ya
    rw [decide_eq_true h'] at yb
    have hP : pNums (numS a ++ 45 :: numS b ++ sBC) = numS a ++ 45 :: numS b := by unfold pNums; rw [suf_append, if_pos rfl, trim_append]
    have hA : pA (numS a ++ 45 :: numS b ++ sBC) = numS a := by unfold pA; rw [hP, cut_dash _ _ na]
    have hB : pB (numS a ++ 45 :: numS b ++ sBC) = numS b := by unfold pB; rw [hP, cut_dash _ _ na, if_pos rfl]
    unfold pFrom pTo
    rw [hA, hB, suf_append, ta, Bool.true_or]
    exact ⟨ya, yb⟩
  · rw [show decide (a ≤ 0) = false from by simp; omega] at ya
    rw [show decide (b ≤ 0) = false from by simp; omega] at yb
    have hP : pNums (numS a ++ 45 :: numS b ++ sAD) = numS a ++ 45 :: numS b := by unfold pNums; rw [suf_other, if_neg (by simp), trim_append]
    have hA : pA (numS a ++ 45 :: numS b ++ sAD) = numS a := by unfold pA; rw [hP, cut_dash _ _ na]
    have hB : pB (numS a ++ 45 :: numS b ++ sAD) = numS b := by unfold pB; rw [hP, cut_dash _ _ na, if_pos rfl]
    unfold pFrom pTo
    rw [hA, hB, suf_other, ta, sa, Bool.false_or]
    exact ⟨ya, yb⟩
  · rw [decide_eq_true h] at ya
    rw [show decide (b ≤ 0) = false from by simp; omega] at yb
    have hP : pNums (numS a ++ sBC ++ 45 :: numS b ++ sAD) = numS a ++ sBC ++ 45 :: numS b := by unfold pNums; rw [suf_other, if_neg (by simp), trim_append]
    have hA : pA (numS a ++ sBC ++ 45 :: numS b ++ sAD) = numS a ++ sBC := by unfold pA; rw [hP, cut_dash _ _ nbc]
    have hB : pB (numS a ++ sBC ++ 45 :: numS b ++ sAD) = numS b := by unfold pB; rw [hP, cut_dash _ _ nbc, if_pos rfl]
    unfold pFrom pTo
    rw [hA, hB, suf_other, trim_append, suf_append, Bool.or_true]
    exact ⟨ya, yb⟩
theorem text_inj {a b c d : Int} (hv : validB a b = true) (hv' : validB c d = true) (h : textS a b = textS c d) : a = c ∧ b = d := by
  obtain ⟨h1, h2⟩ := parse_text a b hv
  obtain ⟨h3, h4⟩ := parse_text c d hv'
  rw [h] at h1 h2
  exact ⟨h1.symm.trans h3, h2.symm.trans h4⟩

theorem dig_num (n : Int) (h1 : -9999 ≤ n) (h2 : n ≤ 9999) (r : List UInt8) (hr : ∀ c t, r = c :: t → ¬ isDig c) : ∃ u : Nat, digN 5 0 (numS n ++ r) = (u, r) ∧ (if 0 < n then n = u else n = 1 - u) := by
  obtain ⟨u, hu, hn, _⟩ := numS_dec n h1 h2
  refine ⟨u, ?_, hn⟩
  have hl := numS_len n h1 h2
  have hd := numS_dig n h1 h2
  rw [hu] at hl hd ⊢
  exact digN_dec _ _ _ _ _ hl hd (decFrom_dec u) hr
theorem nd45 {r : List UInt8} : ∀ c t, (45 :: r : List UInt8) = c :: t → ¬ isDig c := by
  intro c t h
  injection h with h _
  subst h; unfold isDig; decide
theorem nd32 {r : List UInt8} : ∀ c t, (32 :: r : List UInt8) = c :: t → ¬ isDig c := by
  intro c t h
  injection h with h _
  subst h; unfold isDig; decide
/-- The years are among the reference's candidates. -/
theorem cand_text (a b : Int) (hv : validB a b = true) : (a, b) ∈ cands (textS a b) := by
  obtain ⟨h1, h2, h3⟩ := (validB_iff a b).1 hv
  have hmem : ∀ l, ((a = (qA l : Int) ∨ a = 1 - (qA l : Int)) ∧ (b = (qB l : Int) ∨ b = 1 - (qB l : Int))) → (a, b) ∈ cands l := by
    intro l ⟨ha, hb⟩
    unfold cands
    rcases ha with ha | ha <;> rcases hb with hb | hb <;> simp [ha, hb]
  have hor : ∀ (n : Int) (u : Nat), (if 0 < n then n = u else n = 1 - u) → n = (u : Int) ∨ n = 1 - (u : Int) := by
    intro n u h; split at h
    · exact .inl h
    · exact .inr h
  apply hmem
  rcases text_forms a b hv with ⟨rfl, h, e⟩ | ⟨rfl, h, e⟩ | ⟨hn, h, h', e⟩ | ⟨hn, h, h', e⟩ | ⟨hn, h, h', e⟩ <;> rw [e]
  · obtain ⟨u, hd, hu⟩ := dig_num a h2 (by omega) sBC nd32
    have hA : qA (numS a ++ sBC) = u := by unfold qA; rw [hd]
    have hR : qR0 (numS a ++ sBC) = sBC := by unfold qR0; rw [hd]
    have hR1 : qR1 (numS a ++ sBC) = [] := by unfold qR1; rw [hR]; rfl
    have hB : qB (numS a ++ sBC) = u := by unfold qB; rw [hR1, if_neg (by simp [qDash]), hA]
    rw [hA, hB]; exact ⟨hor _ _ hu, hor _ _ hu⟩
  · obtain ⟨u, hd, hu⟩ := dig_num a h2 (by omega) sAD nd32
    have hA : qA (numS a ++ sAD) = u := by unfold qA; rw [hd]
    have hR : qR0 (numS a ++ sAD) = sAD := by unfold qR0; rw [hd]
    have hR1 : qR1 (numS a ++ sAD) = [] := by unfold qR1; rw [hR]; rfl
    have hB : qB (numS a ++ sAD) = u := by unfold qB; rw [hR1, if_neg (by simp [qDash]), hA]
    rw [hA, hB]; exact ⟨hor _ _ hu, hor _ _ hu⟩
  · rw [show numS a ++ 45 :: numS b ++ sBC = numS a ++ (45 :: (numS b ++ sBC)) from by simp]
    obtain ⟨u, hd, hu⟩ := dig_num a h2 (by omega) (45 :: (numS b ++ sBC)) nd45
    obtain ⟨v, hd', hv'⟩ := dig_num b (by omega) h3 sBC nd32
    have hA : qA (numS a ++ (45 :: (numS b ++ sBC))) = u := by unfold qA; rw [hd]
    have hR : qR0 (numS a ++ (45 :: (numS b ++ sBC))) = 45 :: (numS b ++ sBC) := by unfold qR0; rw [hd]
    have hR1 : qR1 (numS a ++ (45 :: (numS b ++ sBC))) = 45 :: (numS b ++ sBC) := by unfold qR1; rw [hR, if_neg (by simp [qEra, sBC, sAD])]
    have hB : qB (numS a ++ (45 :: (numS b ++ sBC))) = v := by unfold qB; rw [hR1, if_pos (by simp [qDash]), List.tail_cons, hd']
    rw [hA, hB]; exact ⟨hor _ _ hu, hor _ _ hv'⟩
  · rw [show numS a ++ 45 :: numS b ++ sAD = numS a ++ (45 :: (numS b ++ sAD)) from by simp]
    obtain ⟨u, hd, hu⟩ := dig_num a h2 (by omega) (45 :: (numS b ++ sAD)) nd45
    obtain ⟨v, hd', hv'⟩ := dig_num b (by omega) h3 sAD nd32
    have hA : qA (numS a ++ (45 :: (numS b ++ sAD))) = u := by unfold qA; rw [hd]
    have hR : qR0 (numS a ++ (45 :: (numS b ++ sAD))) = 45 :: (numS b ++ sAD) := by unfold qR0; rw [hd]
    have hR1 : qR1 (numS a ++ (45 :: (numS b ++ sAD))) = 45 :: (numS b ++ sAD) := by unfold qR1; rw [hR, if_neg (by simp [qEra, sBC, sAD])]
    have hB : qB (numS a ++ (45 :: (numS b ++ sAD))) = v := by unfold qB; rw [hR1, if_pos (by simp [qDash]), List.tail_cons, hd']
    rw [hA, hB]; exact ⟨hor _ _ hu, hor _ _ hv'⟩
  · rw [show numS a ++ sBC ++ 45 :: numS b ++ sAD = numS a ++ (sBC ++ 45 :: (numS b ++ sAD)) from by simp]
    obtain ⟨u, hd, hu⟩ := dig_num a h2 (by omega) (sBC ++ 45 :: (numS b ++ sAD)) nd32
    obtain ⟨v, hd', hv'⟩ := dig_num b (by omega) h3 sAD nd32
    have hA : qA (numS a ++ (sBC ++ 45 :: (numS b ++ sAD))) = u := by unfold qA; rw [hd]
    have hR : qR0 (numS a ++ (sBC ++ 45 :: (numS b ++ sAD))) = sBC ++ 45 :: (numS b ++ sAD) := by unfold qR0; rw [hd]
    have hR1 : qR1 (numS a ++ (sBC ++ 45 :: (numS b ++ sAD))) = 45 :: (numS b ++ sAD) := by unfold qR1; rw [hR, if_pos (by simp [qEra, sBC, sAD])]; rfl
    have hB : qB (numS a ++ (sBC ++ 45 :: (numS b ++ sAD))) = v := by unfold qB; rw [hR1, if_pos (by simp [qDash]), List.tail_cons, hd']
    rw [hA, hB]; exact ⟨hor _ _ hu, hor _ _ hv'⟩

/-- The law. -/
theorem parse_eq (l : List UInt8) : parseV l = rparseV l := by
  cases hf : (cands l).find? (okC l) with
  | none =>
    have hn := List.find?_eq_none.1 hf
    unfold parseV rparseV
    rw [hf]
    rw [if_neg]
    intro h
    unfold pOk at h
    rw [Bool.and_eq_true] at h
    obtain ⟨h1, h2⟩ := h
    have h2' : textS (pFrom l) (pTo l) = l := by simpa using h2
    have hc := cand_text _ _ h1
    rw [h2'] at hc
    refine hn _ hc ?_
    unfold okC
    rw [h1, h2]; rfl
  | some p =>
    have hp := List.find?_some hf
    unfold okC at hp
    rw [Bool.and_eq_true] at hp
    obtain ⟨h1, h2⟩ := hp
    have h2' : textS p.1 p.2 = l := by simpa using h2
    obtain ⟨h3, h4⟩ := parse_text _ _ h1
    rw [h2'] at h3 h4
    unfold parseV rparseV
    rw [hf]
    have hk : pOk l = true := by unfold pOk; rw [h3, h4, h1, h2]; rfl
    rw [if_pos hk, h3, h4]
/-- What a text is read as. -/
theorem parseV_text (a b : Int) (hv : validB a b = true) : parseV (textS a b) = .tuple #[.agg #[.int .i64 a, .int .i64 b], .int .i64 0] := by
  obtain ⟨h3, h4⟩ := parse_text a b hv
  unfold parseV
  have hk : pOk (textS a b) = true := by unfold pOk; rw [h3, h4, hv]; simp
  rw [if_pos hk, h3, h4]
theorem parseV_bad {l : List UInt8} (h : ∀ a b, validB a b = true → textS a b ≠ l) : parseV l = .tuple #[.agg #[.int .i64 0, .int .i64 0], .int .i64 3] := by
  unfold parseV
  rw [if_neg]
  intro hk
  unfold pOk at hk
  rw [Bool.and_eq_true] at hk
  exact h _ _ hk.1 (by simpa using hk.2)
/-- Either years with that text, or the error. -/
theorem parseV_cases (l : List UInt8) : (∃ a b, validB a b = true ∧ textS a b = l ∧ parseV l = .tuple #[.agg #[.int .i64 a, .int .i64 b], .int .i64 0]) ∨ parseV l = .tuple #[.agg #[.int .i64 0, .int .i64 0], .int .i64 3] := by
  by_cases h : ∃ a b, validB a b = true ∧ textS a b = l
  · obtain ⟨a, b, hv, rfl⟩ := h
    exact .inl ⟨a, b, hv, rfl, parseV_text a b hv⟩
  · exact .inr (parseV_bad fun a b hv e => h ⟨a, b, hv, e⟩)
end Go.Proofs.YthbckkjihijekaaDoor
