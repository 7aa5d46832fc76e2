/- Digits and words in plain words. -/
import Derived.Lib.AtoiTie
import Derived.Lib.ItoaNum
import Derived.Lib.Split
import Derived.Lib.Replace
set_option linter.unusedSimpArgs false
set_option linter.unusedVariables false
namespace Go.Proofs.YtfanjghfilkhmaaGreatDoor

def isDig (c : UInt8) : Prop := 48 ≤ c.toNat ∧ c.toNat ≤ 57
theorem dg_toNat (k : Nat) (h : k < 10) : (UInt8.ofNat (48 + k)).toNat = 48 + k := by
  rw [UInt8.toNat_ofNat']; omega
theorem dec_digits (u : Nat) : ∀ c ∈ Lib.decDigits u, isDig c := by
  induction u using Nat.strongRecOn with
  | _ u ih =>
    intro c hc
    rw [Lib.decDigits] at hc
    split at hc
    · rename_i h
      rw [List.mem_singleton] at hc; subst hc
      unfold isDig; rw [dg_toNat u h]; omega
    · rcases List.mem_append.1 hc with hc | hc
      · exact ih _ (by omega) c hc
      · rw [List.mem_singleton] at hc; subst hc
        unfold isDig; rw [dg_toNat _ (by omega)]; omega
theorem dec_ne (u : Nat) : Lib.decDigits u ≠ [] := by
  rw [Lib.decDigits]; split <;> simp
theorem decFrom_append : ∀ (x y : List UInt8) (acc : Nat), Lib.decFrom acc (x ++ y) = (Lib.decFrom acc x).bind fun n => Lib.decFrom n y
  | [], y, acc => rfl
  | c :: x, y, acc => by
    simp only [List.cons_append, Lib.decFrom]
    cases Lib.digitVal c with
    | none => rfl
    | some d => exact decFrom_append x y _
theorem digitVal_dg (k : Nat) (h : k < 10) : Lib.digitVal (UInt8.ofNat (48 + k)) = some k := by
  unfold Lib.digitVal
  rw [dg_toNat k h, if_pos (by omega)]
  simp
theorem decFrom_dec (u : Nat) : Lib.decFrom 0 (Lib.decDigits u) = some u := by
  induction u using Nat.strongRecOn with
  | _ u ih =>
    rw [Lib.decDigits]
    split
    · rename_i h
      simp only [Lib.decFrom, digitVal_dg u h]; simp
    · rw [decFrom_append, ih _ (by omega)]
      simp only [Option.bind, Lib.decFrom, digitVal_dg (u % 10) (by omega)]
      simp; omega
theorem decDigits_le : ∀ (k u : Nat), u < 10 ^ (k + 1) → (Lib.decDigits u).length ≤ k + 1
  | 0, u, h => by
    rw [Lib.decDigits]
    split
    · simp
    · rename_i h2; exact absurd h h2
  | k + 1, u, h => by
    rw [Lib.decDigits]
    split
    · simp
    · have := decDigits_le k (u / 10) (by rw [Nat.pow_succ] at h; omega)
      simp; omega
/-- A numeral, zeros ahead counted in. -/
theorem atoiAll_digits (l : List UInt8) (u : Nat) (hn : l ≠ []) (hl : l.length ≤ 18) (hd : ∀ c ∈ l, isDig c) (hf : Lib.decFrom 0 l = some u) : Lib.atoiAll l = .ok (u : Int) := by
  rw [Lib.atoiAll_short _ hl]
  cases l with
  | nil => exact absurd rfl hn
  | cons c r =>
    have hc := hd c (List.mem_cons_self ..)
    unfold isDig at hc
    have h45 : (c == 45) = false := by
      rw [beq_eq_false_iff_ne]; intro e; subst e; simp at hc
    have h43 : (c == 43) = false := by
      rw [beq_eq_false_iff_ne]; intro e; subst e; simp at hc
    simp only [Lib.atoi, h45, h43, Lib.decNat, List.isEmpty_cons, if_false, Bool.false_eq_true]
    rw [hf]; rfl
/-- The number that a text spells; 0 if it spells none. -/
def numL (l : List UInt8) : Int := match Lib.atoiAll l with
  | .ok v => v
  | _ => 0
theorem numL_ok {l : List UInt8} {v : Int} (h : Lib.atoiAll l = .ok v) : numL l = v := by unfold numL; rw [h]
theorem itoa_nat (n : Int) (h : 0 ≤ n) : Lib.itoa n = Lib.decDigits n.toNat := by unfold Lib.itoa; rw [if_neg (by omega)]
theorem numL_digits {l : List UInt8} {u : Nat} (hn : l ≠ []) (hl : l.length ≤ 18) (hd : ∀ c ∈ l, isDig c) (hf : Lib.decFrom 0 l = some u) : numL l = (u : Int) := numL_ok (atoiAll_digits l u hn hl hd hf)
theorem numL_itoa (n : Int) (h : 0 ≤ n) (h2 : n ≤ 99999999) : numL (Lib.itoa n) = n := by
  rw [itoa_nat n h, numL_digits (dec_ne _) (Nat.le_trans (decDigits_le 8 n.toNat (by omega)) (by omega)) (dec_digits _) (decFrom_dec _)]
  omega
/-- Three digits. -/
def pad3 (r : Nat) : List UInt8 := [UInt8.ofNat (48 + r / 100), UInt8.ofNat (48 + r / 10 % 10), UInt8.ofNat (48 + r % 10)]
theorem pad3_dig (r : Nat) (h : r < 1000) : ∀ c ∈ pad3 r, isDig c := by
  intro c hc
  simp only [pad3, List.mem_cons, List.not_mem_nil, or_false] at hc
  unfold isDig
  rcases hc with rfl | rfl | rfl
  · rw [dg_toNat _ (by omega)]; omega
  · rw [dg_toNat _ (by omega)]; omega
  · rw [dg_toNat _ (by omega)]; omega
theorem decFrom_pad3 (a r : Nat) (h : r < 1000) : Lib.decFrom a (pad3 r) = some (1000 * a + r) := by
  simp only [pad3, Lib.decFrom, digitVal_dg (r / 100) (by omega), digitVal_dg (r / 10 % 10) (by omega), digitVal_dg (r % 10) (by omega)]
  simp; omega
theorem dec_pad3 (a r : Nat) (ha : 0 < a) (h : r < 1000) : Lib.decDigits (1000 * a + r) = Lib.decDigits a ++ pad3 r := by
  rw [Lib.decDigits, dif_neg (by omega), Lib.decDigits, dif_neg (by omega), Lib.decDigits, dif_neg (by omega)]
  rw [show (1000 * a + r) / 10 / 10 / 10 = a by omega, show (1000 * a + r) % 10 = r % 10 by omega, show (1000 * a + r) / 10 % 10 = r / 10 % 10 by omega, show (1000 * a + r) / 10 / 10 % 10 = r / 100 by omega]
  simp [pad3]
theorem dec_1000 (r : Nat) (h : r < 1000) : Lib.decDigits (1000 + r) = 49 :: pad3 r := by
  have := dec_pad3 1 r (by omega) h
  rw [show 1000 * 1 + r = 1000 + r by omega] at this
  rw [this, show Lib.decDigits 1 = [49] by decide +kernel]; rfl

/-! ### Words. -/
def wordsL (c : UInt8) : List UInt8 → List (List UInt8)
  | [] => [[]]
  | x :: r => if x = c then [] :: wordsL c r else match wordsL c r with
    | [] => [[x]]
    | y :: ys => (x :: y) :: ys
theorem wordsL_ne (c : UInt8) : ∀ l, wordsL c l ≠ []
  | [] => by simp [wordsL]
  | x :: r => by
    unfold wordsL
    split
    · simp
    · split <;> simp
theorem wordsL_none (c : UInt8) : ∀ d : List UInt8, c ∉ d → wordsL c d = [d]
  | [], _ => rfl
  | x :: d, h => by
    have hx : ¬ x = c := fun e => h (by rw [e]; exact List.mem_cons_self ..)
    have ih := wordsL_none c d (fun h' => h (List.mem_cons_of_mem _ h'))
    unfold wordsL; rw [if_neg hx, ih]
theorem wordsL_cut (c : UInt8) : ∀ d r : List UInt8, c ∉ d → wordsL c (d ++ c :: r) = d :: wordsL c r
  | [], r, _ => by rw [List.nil_append, wordsL, if_pos rfl]
  | x :: d, r, h => by
    have hx : ¬ x = c := fun e => h (by rw [e]; exact List.mem_cons_self ..)
    have ih := wordsL_cut c d r (fun h' => h (List.mem_cons_of_mem _ h'))
    rw [List.cons_append, wordsL, if_neg hx, ih]
/-- The words of what is one byte longer. -/
def wordStep (c : UInt8) (out : List (List UInt8)) (x : UInt8) : List (List UInt8) := if x = c then out ++ [[]] else out.dropLast ++ [(out.getLastD []) ++ [x]]
theorem wordsL_snoc (c x : UInt8) : ∀ l, wordsL c (l ++ [x]) = wordStep c (wordsL c l) x
  | [] => by
    unfold wordStep
    by_cases h : x = c
    · subst h; simp [wordsL]
    · simp [wordsL, h]
  | y :: l => by
    have ih := wordsL_snoc c x l
    have hn := wordsL_ne c l
    rw [List.cons_append, wordsL, ih]
    conv => rhs; rw [wordsL]
    obtain ⟨z, zs, hz⟩ := List.exists_cons_of_ne_nil hn
    rw [hz]
    by_cases hy : y = c
    · rw [if_pos hy, if_pos hy]
      unfold wordStep
      by_cases h : x = c
      · rw [if_pos h, if_pos h]; rfl
      · rw [if_neg h, if_neg h]; simp [List.dropLast, List.getLastD]
    · rw [if_neg hy, if_neg hy]
      unfold wordStep
      by_cases h : x = c
      · rw [if_pos h, if_pos h]; simp
      · rw [if_neg h, if_neg h]
        cases zs with
        | nil => simp
        | cons z' zs' => simp [List.dropLast, List.getLastD]
theorem index_none1 (c : UInt8) : ∀ (d : List UInt8), c ∉ d → Lib.index d [c] = -1
  | [], _ => rfl
  | x :: d, h => by
    have hc : (c == x) = false := by rw [beq_eq_false_iff_ne]; intro e; exact h (by rw [e]; exact List.mem_cons_self ..)
    have ih := index_none1 c d (fun h' => h (List.mem_cons_of_mem _ h'))
    simp [Lib.index, List.isPrefixOf, hc, ih]
theorem index_hit1 (c : UInt8) : ∀ (d r : List UInt8), c ∉ d → Lib.index (d ++ c :: r) [c] = d.length
  | [], r, _ => by simp [Lib.index, List.isPrefixOf]
  | x :: d, r, h => by
    have hc : (c == x) = false := by rw [beq_eq_false_iff_ne]; intro e; exact h (by rw [e]; exact List.mem_cons_self ..)
    have ih := index_hit1 c d r (fun h' => h (List.mem_cons_of_mem _ h'))
    have hne : ((d.length : Int) == -1) = false := by rw [beq_eq_false_iff_ne]; omega
    simp [Lib.index, List.isPrefixOf, hc, ih, hne]
theorem cut_none1 (c : UInt8) (d : List UInt8) (h : c ∉ d) : Lib.cut d [c] = (d, [], false) := by
  unfold Lib.cut; rw [index_none1 c d h]; rfl
theorem cut_hit1 (c : UInt8) (d r : List UInt8) (h : c ∉ d) : Lib.cut (d ++ c :: r) [c] = (d, r, true) := by
  unfold Lib.cut; rw [index_hit1 c d r h, if_pos (by omega)]
  simp
theorem first_split (c : UInt8) : ∀ l : List UInt8, c ∉ l ∨ ∃ d r, l = d ++ c :: r ∧ c ∉ d
  | [] => .inl (by simp)
  | x :: l => by
    by_cases h : x = c
    · exact .inr ⟨[], l, by rw [h]; rfl, by simp⟩
    · rcases first_split c l with h' | ⟨d, r, rfl, hd⟩
      · exact .inl (by simp [h', Ne.symm h])
      · exact .inr ⟨x :: d, r, rfl, by simp [hd, Ne.symm h]⟩
theorem countFrom_one (c : UInt8) : ∀ (f : Nat) (s : List UInt8), s.length < f → Lib.countFrom [c] f s = s.count c
  | 0, s, h => by omega
  | f + 1, s, h => by
    unfold Lib.countFrom
    rcases first_split c s with h' | ⟨d, r, rfl, hd⟩
    · rw [index_none1 c s h']
      simp [List.count_eq_zero.2 h']
    · rw [index_hit1 c d r hd]
      have hne : ((d.length : Int) == -1) = false := by rw [beq_eq_false_iff_ne]; omega
      rw [hne]
      simp only [Bool.false_eq_true, if_false]
      have hdr : (d ++ c :: r).drop (((d.length : Int)).toNat + [c].length) = r := by simp
      rw [hdr, countFrom_one c f r (by simp at h; omega), List.count_append, List.count_eq_zero.2 hd, List.count_cons_self]
      omega
theorem splitK_one (c : UInt8) : ∀ (k : Nat) (s : List UInt8), s.count c ≤ k → Lib.splitK [c] 0 k s = wordsL c s
  | 0, s, h => by
    have : c ∉ s := List.count_eq_zero.1 (by omega)
    rw [wordsL_none c s this]; rfl
  | k + 1, s, h => by
    unfold Lib.splitK
    rcases first_split c s with h' | ⟨d, r, rfl, hd⟩
    · rw [index_none1 c s h', wordsL_none c s h']; rfl
    · rw [index_hit1 c d r hd, wordsL_cut c d r hd]
      have hne : ((d.length : Int) == -1) = false := by rw [beq_eq_false_iff_ne]; omega
      rw [hne]
      simp only [Bool.false_eq_true, if_false]
      have hdr : (d ++ c :: r).drop (((d.length : Int)).toNat + [c].length) = r := by simp
      have htk : (d ++ c :: r).take (((d.length : Int)).toNat + 0) = d := by simp
      rw [hdr, htk, splitK_one c k r (by rw [List.count_append, List.count_eq_zero.2 hd, List.count_cons_self] at h; omega)]
theorem split_one (c : UInt8) (s : List UInt8) : Lib.split s [c] = wordsL c s := by
  unfold Lib.split
  exact splitK_one c _ s (by unfold Lib.count; rw [countFrom_one c _ s (by omega)]; omega)
/-- The first c struck out. -/
theorem replace_one (c : UInt8) (d r : List UInt8) (hd : c ∉ d) : Lib.replace (d ++ c :: r) [c] [] 1 = d ++ r := by
  unfold Lib.replace Lib.replaceNum
  have hc : ¬ ((1 : Int) < 0 ∨ (Lib.count (d ++ c :: r) [c] : Int) < 1) := by
    unfold Lib.count
    rw [countFrom_one c _ _ (by omega), List.count_append, List.count_cons_self]
    omega
  rw [if_neg hc]
  have hb : ([c] == ([] : List UInt8)) = false := rfl
  rw [hb]
  simp only [Bool.false_eq_true, if_false]
  show Lib.replaceK [c] [] 1 _ = _
  unfold Lib.replaceK
  rw [index_hit1 c d r hd]
  have hne : ((d.length : Int) == -1) = false := by rw [beq_eq_false_iff_ne]; omega
  rw [hne]
  simp [Lib.replaceK]
theorem no_dig {c : UInt8} {l : List UInt8} (hl : ∀ x ∈ l, isDig x) (hc : ¬ isDig c) : c ∉ l := fun h => hc (hl c h)
end Go.Proofs.YtfanjghfilkhmaaGreatDoor
