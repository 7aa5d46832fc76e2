/- Labels and specimens in plain words: their texts, and reading them back. -/
import Derived.Lib.AtoiTie
import Derived.Lib.ItoaNum
import Derived.Lib.Split
import Derived.Lib.Replace
set_option linter.unusedSimpArgs false
set_option linter.unusedVariables false
namespace Go.Proofs.YtdokpmfejibdlaaGreatDoor

def isDig (c : UInt8) : Prop := 48 ≤ c.toNat ∧ c.toNat ≤ 57
theorem dg_toNat (k : Nat) (h : k < 10) : (UInt8.ofNat (48 + k)).toNat = 48 + k := by
  rw [UInt8.toNat_ofNat']; omega
theorem dec_digits (u : Nat) : ∀ c ∈ Lib.decDigits u, isDig c := by
  induction u using Nat.strongRecOn with
  | _ u ih =>
    intro c hc
    rw [Lib.decDigits] at hc
    split at hc
    · rename_i h
      rw [List.mem_singleton] at hc; subst hc
      unfold isDig; rw [dg_toNat u h]; omega
    · rcases List.mem_append.1 hc with hc | hc
      · exact ih _ (by omega) c hc
      · rw [List.mem_singleton] at hc; subst hc
        unfold isDig; rw [dg_toNat _ (by omega)]; omega
theorem dec_ne (u : Nat) : Lib.decDigits u ≠ [] := by
  rw [Lib.decDigits]; split <;> simp
theorem decFrom_append : ∀ (x y : List UInt8) (acc : Nat), Lib.decFrom acc (x ++ y) = (Lib.decFrom acc x).bind fun n => Lib.decFrom n y
  | [], y, acc => rfl
  | c :: x, y, acc => by
    simp only [List.cons_append, Lib.decFrom]
    cases Lib.digitVal c with
    | none => rfl
    | some d => exact decFrom_append x y _
theorem digitVal_dg (k : Nat) (h : k < 10) : Lib.digitVal (UInt8.ofNat (48 + k)) = some k := by
  unfold Lib.digitVal
  rw [dg_toNat k h, if_pos (by omega)]
  simp
theorem decFrom_dec (u : Nat) : Lib.decFrom 0 (Lib.decDigits u) = some u := by
  induction u using Nat.strongRecOn with
  | _ u ih =>
    rw [Lib.decDigits]
    split
    · rename_i h
      simp only [Lib.decFrom, digitVal_dg u h]; simp
    · rw [decFrom_append, ih _ (by omega)]
      simp only [Option.bind, Lib.decFrom, digitVal_dg (u % 10) (by omega)]
      simp; omega
theorem decDigits_le : ∀ (k u : Nat), u < 10 ^ (k + 1) → (Lib.decDigits u).length ≤ k + 1
  | 0, u, h => by
    rw [Lib.decDigits]
    split
    · simp
    · rename_i h2; exact absurd h h2
  | k + 1, u, h => by
    rw [Lib.decDigits]
    split
    · simp
    · have := decDigits_le k (u / 10) (by rw [Nat.pow_succ] at h; omega)
      simp; omega
/-- A numeral, zeros ahead counted in. -/
theorem atoiAll_digits (l : List UInt8) (u : Nat) (hn : l ≠ []) (hl : l.length ≤ 18) (hd : ∀ c ∈ l, isDig c) (hf : Lib.decFrom 0 l = some u) : Lib.atoiAll l = .ok (u : Int) := by
  rw [Lib.atoiAll_short _ hl]
  cases l with
  | nil => exact absurd rfl hn
  | cons c r =>
    have hc := hd c (List.mem_cons_self ..)
    unfold isDig at hc
    have h45 : (c == 45) = false := by
      rw [beq_eq_false_iff_ne]; intro e; subst e; simp at hc
    have h43 : (c == 43) = false := by
      rw [beq_eq_false_iff_ne]; intro e; subst e; simp at hc
    simp only [Lib.atoi, h45, h43, Lib.decNat, List.isEmpty_cons, if_false, Bool.false_eq_true]
    rw [hf]; rfl
/-- The number that a text spells; 0 if it spells none. -/
def numL (l : List UInt8) : Int := match Lib.atoiAll l with
  | .ok v => v
  | _ => 0
theorem numL_ok {l : List UInt8} {v : Int} (h : Lib.atoiAll l = .ok v) : numL l = v := by unfold numL; rw [h]
theorem itoa_nat (n : Int) (h : 0 ≤ n) : Lib.itoa n = Lib.decDigits n.toNat := by unfold Lib.itoa; rw [if_neg (by omega)]
theorem numL_digits {l : List UInt8} {u : Nat} (hn : l ≠ []) (hl : l.length ≤ 18) (hd : ∀ c ∈ l, isDig c) (hf : Lib.decFrom 0 l = some u) : numL l = (u : Int) := numL_ok (atoiAll_digits l u hn hl hd hf)
theorem numL_itoa (n : Int) (h : 0 ≤ n) (h2 : n ≤ 99999999) : numL (Lib.itoa n) = n := by
  rw [itoa_nat n h, numL_digits (dec_ne _) (Nat.le_trans (decDigits_le 8 n.toNat (by omega)) (by omega)) (dec_digits _) (decFrom_dec _)]
  omega
/-- Three digits. -/
def pad3 (r : Nat) : List UInt8 := [UInt8.ofNat (48 + r / 100), UInt8.ofNat (48 + r / 10 % 10), UInt8.ofNat (48 + r % 10)]
theorem pad3_dig (r : Nat) (h : r < 1000) : ∀ c ∈ pad3 r, isDig c := by
  intro c hc
  simp only [pad3, List.mem_cons, List.not_mem_nil, or_false] at hc
  unfold isDig
  rcases hc with rfl | rfl | rfl
  · rw [dg_toNat _ (by omega)]; omega
  · rw [dg_toNat _ (by omega)]; omega
  · rw [dg_toNat _ (by omega)]; omega
theorem decFrom_pad3 (a r : Nat) (h : r < 1000) : Lib.decFrom a (pad3 r) = some (1000 * a + r) := by
  simp only [pad3, Lib.decFrom, digitVal_dg (r / 100) (by omega), digitVal_dg (r / 10 % 10) (by omega), digitVal_dg (r % 10) (by omega)]
  simp; omega
theorem dec_pad3 (a r : Nat) (ha : 0 < a) (h : r < 1000) : Lib.decDigits (1000 * a + r) = Lib.decDigits a ++ pad3 r := by
  rw [Lib.decDigits, dif_neg (by omega), Lib.decDigits, dif_neg (by omega), Lib.decDigits, dif_neg (by omega)]
  rw [show (1000 * a + r) / 10 / 10 / 10 = a by omega, show (1000 * a + r) % 10 = r % 10 by omega, show (1000 * a + r) / 10 % 10 = r / 10 % 10 by omega, show (1000 * a + r) / 10 / 10 % 10 = r / 100 by omega]
  simp [pad3]
theorem dec_1000 (r : Nat) (h : r < 1000) : Lib.decDigits (1000 + r) = 49 :: pad3 r := by
  have := dec_pad3 1 r (by omega) h
  rw [show 1000 * 1 + r = 1000 + r by omega] at this
  rw [this, show Lib.decDigits 1 = [49] by decide +kernel]; rfl

/-! ### Words. -/
def wordsL (c : UInt8) : List UInt8 → List (List UInt8)
  | [] => [[]]
  | x :: r => if x = c then [] :: wordsL c r else match wordsL c r with
    | [] => [[x]]
    | y :: ys => (x :: y) :: ys
theorem wordsL_ne (c : UInt8) : ∀ l, wordsL c l ≠ []
  | [] => by simp [wordsL]
  | x :: r => by
    unfold wordsL
    split
    · simp
    · split <;> simp
theorem wordsL_none (c : UInt8) : ∀ d : List UInt8, c ∉ d → wordsL c d = [d]
  | [], _ => rfl
  | x :: d, h => by
    have hx : ¬ x = c := fun e => h (by rw [e]; exact List.mem_cons_self ..)
    have ih := wordsL_none c d (fun h' => h (List.mem_cons_of_mem _ h'))
    unfold wordsL; rw [if_neg hx, ih]
theorem wordsL_cut (c : UInt8) : ∀ d r : List UInt8, c ∉ d → wordsL c (d ++ c :: r) = d :: wordsL c r
  | [], r, _ => by rw [List.nil_append, wordsL, if_pos rfl]
  | x :: d, r, h => by
    have hx : ¬ x = c := fun e => h (by rw [e]; exact List.mem_cons_self ..)
    have ih := wordsL_cut c d r (fun h' => h (List.mem_cons_of_mem _ h'))
    rw [List.cons_append, wordsL, if_neg hx, ih]
/-- The words of what is one byte longer. -/
def wordStep (c : UInt8) (out : List (List UInt8)) (x : UInt8) : List (List UInt8) := if x = c then out ++ [[]] else out.dropLast ++ [(out.getLastD []) ++ [x]]
theorem wordsL_snoc (c x : UInt8) : ∀ l, wordsL c (l ++ [x]) = wordStep c (wordsL c l) x
  | [] => by
    unfold wordStep
    by_cases h : x = c
    · subst h; simp [wordsL]
    · simp [wordsL, h]
  | y :: l => by
    have ih := wordsL_snoc c x l
    have hn := wordsL_ne c l
    rw [List.cons_append, wordsL, ih]
    conv => rhs; rw [wordsL]
    obtain ⟨z, zs, hz⟩ := List.exists_cons_of_ne_nil hn
    rw [hz]
    by_cases hy : y = c
    · rw [if_pos hy, if_pos hy]
      unfold wordStep
      by_cases h : x = c
      · rw [if_pos h, if_pos h]; rfl
      · rw [if_neg h, if_neg h]; simp [List.dropLast, List.getLastD]
    · rw [if_neg hy, if_neg hy]
      unfold wordStep
      by_cases h : x = c
      · rw [if_pos h, if_pos h]; simp
      · rw [if_neg h, if_neg h]
        cases zs with
        | nil => simp
        | cons z' zs' => simp [List.dropLast, List.getLastD]
theorem index_none1 (c : UInt8) : ∀ (d : List UInt8), c ∉ d → Lib.index d [c] = -1
  | [], _ => rfl
  | x :: d, h => by
    have hc : (c == x) = false := by rw [beq_eq_false_iff_ne]; intro e; exact h (by rw [e]; exact List.mem_cons_self ..)
    have ih := index_none1 c d (fun h' => h (List.mem_cons_of_mem _ h'))
    simp [Lib.index, List.isPrefixOf, hc, ih]
theorem index_hit1 (c : UInt8) : ∀ (d r : List UInt8), c ∉ d → Lib.index (d ++ c :: r) [c] = d.length
  | [], r, _ => by simp [Lib.index, List.isPrefixOf]
  | x :: d, r, h => by
    have hc : (c == x) = false := by rw [beq_eq_false_iff_ne]; intro e; exact h (by rw [e]; exact List.mem_cons_self ..)
    have ih := index_hit1 c d r (fun h' => h (List.mem_cons_of_mem _ h'))
    have hne : ((d.length : Int) == -1) = false := by rw [beq_eq_false_iff_ne]; omega
    simp [Lib.index, List.isPrefixOf, hc, ih, hne]
theorem cut_none1 (c : UInt8) (d : List UInt8) (h : c ∉ d) : Lib.cut d [c] = (d, [], false) := by
  unfold Lib.cut; rw [index_none1 c d h]; rfl
theorem cut_hit1 (c : UInt8) (d r : List UInt8) (h : c ∉ d) : Lib.cut (d ++ c :: r) [c] = (d, r, true) := by
  unfold Lib.cut; rw [index_hit1 c d r h, if_pos (by omega)]
  simp
theorem first_split (c : UInt8) : ∀ l : List UInt8, c ∉ l ∨ ∃ d r, l = d ++ c :: r ∧ c ∉ d
  | [] => .inl (by simp)
  | x :: l => by
    by_cases h : x = c
    · exact .inr ⟨[], l, by rw [h]; rfl, by simp⟩
    · rcases first_split c l with h' | ⟨d, r, rfl, hd⟩
      · exact .inl (by simp [h', Ne.symm h])
      · exact .inr ⟨x :: d, r, rfl, by simp [hd, Ne.symm h]⟩
theorem countFrom_one (c : UInt8) : ∀ (f : Nat) (s : List UInt8), s.length < f → Lib.countFrom [c] f s = s.count c
  | 0, s, h => by omega
  | f + 1, s, h => by
    unfold Lib.countFrom
    rcases first_split c s with h' | ⟨d, r, rfl, hd⟩
    · rw [index_none1 c s h']
      simp [List.count_eq_zero.2 h']
    · rw [index_hit1 c d r hd]
      have hne : ((d.length : Int) == -1) = false := by rw [beq_eq_false_iff_ne]; omega
      rw [hne]
      simp only [Bool.false_eq_true, if_false]
      have hdr : (d ++ c :: r).drop (((d.length : Int)).toNat + [c].length) = r := by simp
      rw [hdr, countFrom_one c f r (by simp at h; omega), List.count_append, List.count_eq_zero.2 hd, List.count_cons_self]
      omega
theorem splitK_one (c : UInt8) : ∀ (k : Nat) (s : List UInt8), s.count c ≤ k → Lib.splitK [c] 0 k s = wordsL c s
  | 0, s, h => by
    have : c ∉ s := List.count_eq_zero.1 (by omega)
    rw [wordsL_none c s this]; rfl
  | k + 1, s, h => by
    unfold Lib.splitK
    rcases first_split c s with h' | ⟨d, r, rfl, hd⟩
    · rw [index_none1 c s h', wordsL_none c s h']; rfl
    · rw [index_hit1 c d r hd, wordsL_cut c d r hd]
      have hne : ((d.length : Int) == -1) = false := by rw [beq_eq_false_iff_ne]; omega
      rw [hne]
      simp only [Bool.false_eq_true, if_false]
      have hdr : (d ++ c :: r).drop (((d.length : Int)).toNat + [c].length) = r := by simp
      have htk : (d ++ c :: r).take (((d.length : Int)).toNat + 0) = d := by simp
      rw [hdr, htk, splitK_one c k r (by rw [List.count_append, List.count_eq_zero.2 hd, List.count_cons_self] at h; omega)]
theorem split_one (c : UInt8) (s : List UInt8) : Lib.split s [c] = wordsL c s := by
  unfold Lib.split
  exact splitK_one c _ s (by unfold Lib.count; rw [countFrom_one c _ s (by omega)]; omega)
/-- The first c struck out. -/
theorem replace_one (c : UInt8) (d r : List UInt8) (hd : c ∉ d) : Lib.replace (d ++ c :: r) [c] [] 1 = d ++ r := by
  unfold Lib.replace Lib.replaceNum
  have hc : ¬ ((1 : Int) < 0 ∨ (Lib.count (d ++ c :: r) [c] : Int) < 1) := by
    unfold Lib.count
    rw [countFrom_one c _ _ (by omega), List.count_append, List.count_cons_self]
    omega
  rw [if_neg hc]
  have hb : ([c] == ([] : List UInt8)) = false := rfl
  rw [hb]
  simp only [Bool.false_eq_true, if_false]
  show Lib.replaceK [c] [] 1 _ = _
  unfold Lib.replaceK
  rw [index_hit1 c d r hd]
  have hne : ((d.length : Int) == -1) = false := by rw [beq_eq_false_iff_ne]; omega
  rw [hne]
  simp [Lib.replaceK]
theorem no_dig {c : UInt8} {l : List UInt8} (hl : ∀ x ∈ l, isDig x) (hc : ¬ isDig c) : c ∉ l := fun h => hc (hl c h)
end Go.Proofs.YtdokpmfejibdlaaGreatDoor
set_option linter.unusedSimpArgs false
set_option linter.unusedVariables false
namespace Go.Proofs.YtdokpmfejibdlaaGreatDoor

def inR (n a b : Int) : Bool := decide (a ≤ n) && decide (n ≤ b)
theorem inR_iff (n a b : Int) : inR n a b = true ↔ a ≤ n ∧ n ≤ b := by simp [inR]

/-! ### Labels. -/
structure Lab where
  side : Int
  num : Int
  st : Int
  deriving DecidableEq, Inhabited
def okLab (l : Lab) : Bool := (l.side == 0 || l.side == 1) && inR l.num 1 999 && inR l.st 0 9
theorem okLab_iff (l : Lab) : okLab l = true ↔ (l.side = 0 ∨ l.side = 1) ∧ (1 ≤ l.num ∧ l.num ≤ 999) ∧ 0 ≤ l.st ∧ l.st ≤ 9 := by
  simp [okLab, inR, and_assoc]
def sideS (n : Int) : List UInt8 := if n = 0 then [79] else [82]
def stS (n : Int) : List UInt8 := if 0 < n then [UInt8.ofNat (96 + n.toNat)] else []
def labS (l : Lab) : List UInt8 := if okLab l then sideS l.side ++ Lib.itoa l.num ++ stS l.st else []
/-- The letter at the end, as a state; what stands ahead of it. -/
def endSt (l : List UInt8) : Int := match l.getLast? with
  | some c => if 97 ≤ c.toNat ∧ c.toNat ≤ 105 then (c.toNat : Int) - 96 else 0
  | none => 0
def endCut (l : List UInt8) : List UInt8 := if 0 < endSt l then l.dropLast else l
def sideC (c : UInt8) : Int := if c = 79 then 0 else if c = 82 then 1 else -1
def labC (l : List UInt8) : Lab := match l with
  | [] => ⟨0, 0, 0⟩
  | c :: r => ⟨sideC c, numL (endCut r), endSt r⟩
def parseLab (l : List UInt8) : Option Lab := if okLab (labC l) && labS (labC l) == l then some (labC l) else none
theorem stS_pos {n : Int} (h : 0 < n) : stS n = [UInt8.ofNat (96 + n.toNat)] := by unfold stS; rw [if_pos h]
theorem stS_zero : stS 0 = [] := rfl
theorem letter_toNat (k : Nat) (h : k ≤ 9) : (UInt8.ofNat (96 + k)).toNat = 96 + k := by rw [UInt8.toNat_ofNat']; omega
theorem endSt_letter (l : List UInt8) (n : Int) (h1 : 1 ≤ n) (h2 : n ≤ 9) : endSt (l ++ [UInt8.ofNat (96 + n.toNat)]) = n := by
  unfold endSt
  rw [List.getLast?_append]
  simp only [List.getLast?_singleton, Option.or_some, Option.some_or]
  rw [letter_toNat n.toNat (by omega), if_pos (by omega)]
  omega
theorem endSt_dig (l : List UInt8) (h : ∀ c ∈ l, isDig c) : endSt l = 0 := by
  unfold endSt
  cases hl : l.getLast? with
  | none => rfl
  | some c =>
    have := h c (List.mem_of_getLast? hl)
    unfold isDig at this
    show (if 97 ≤ c.toNat ∧ c.toNat ≤ 105 then (c.toNat : Int) - 96 else 0) = 0
    rw [if_neg (by omega)]
theorem itoa_dig (n : Int) (h : 0 ≤ n) : ∀ c ∈ Lib.itoa n, isDig c := by rw [itoa_nat n h]; exact dec_digits _
theorem itoa_ne (n : Int) (h : 0 ≤ n) : Lib.itoa n ≠ [] := by rw [itoa_nat n h]; exact dec_ne _
theorem labS_ok {x : Lab} (h : okLab x = true) : labS x = sideS x.side ++ Lib.itoa x.num ++ stS x.st := by unfold labS; rw [if_pos h]
theorem labC_text (x : Lab) (h : okLab x = true) : labC (labS x) = x := by
  rw [labS_ok h]
  obtain ⟨hs, ⟨h1, h2⟩, h3, h4⟩ := (okLab_iff x).1 h
  obtain ⟨side, num, st⟩ := x
  have hn : numL (Lib.itoa num) = num := numL_itoa num (by simp only at h1; omega) (by simp only at h2; omega)
  have hd := itoa_dig num (by simp only at h1; omega)
  simp only at hs h1 h2 h3 h4 ⊢
  have key : ∀ c : UInt8, sideC c = side → labC ([c] ++ Lib.itoa num ++ stS st) = ⟨side, num, st⟩ := fun c hc => by
    show (⟨sideC c, numL (endCut (Lib.itoa num ++ stS st)), endSt (Lib.itoa num ++ stS st)⟩ : Lab) = _
    rw [hc]
    by_cases h0 : st = 0
    · subst h0
      rw [stS_zero, List.append_nil]
      unfold endCut
      rw [endSt_dig _ hd, if_neg (by omega), hn]
    · rw [stS_pos (by omega)]
      unfold endCut
      rw [endSt_letter _ st (by omega) h4, if_pos (by omega), List.dropLast_concat, hn]
  rcases hs with rfl | rfl
  · exact key 79 rfl
  · exact key 82 rfl
theorem parseLab_text (x : Lab) (h : okLab x = true) : parseLab (labS x) = some x := by
  unfold parseLab; rw [labC_text x h, h]; simp
theorem parseLab_some {l : List UInt8} {x : Lab} (h : parseLab l = some x) : okLab x = true ∧ labS x = l := by
  unfold parseLab at h
  split at h
  · rename_i hc
    simp only [Bool.and_eq_true, beq_iff_eq] at hc
    simp only [Option.some.injEq] at h
    subst h
    exact hc
  · cases h
theorem labS_no (c : UInt8) (hc : ¬ isDig c) (h1 : c ≠ 79) (h2 : c ≠ 82) (h3 : c.toNat < 96 ∨ 105 < c.toNat) (x : Lab) : c ∉ labS x := by
  unfold labS
  split
  · rename_i h
    obtain ⟨hs, ⟨hn1, hn2⟩, hs1, hs2⟩ := (okLab_iff x).1 h
    intro hm
    rcases List.mem_append.1 hm with hm | hm
    · rcases List.mem_append.1 hm with hm | hm
      · unfold sideS at hm
        split at hm <;> simp at hm
        · exact h1 hm
        · exact h2 hm
      · exact hc (itoa_dig x.num (by omega) c hm)
    · unfold stS at hm
      split at hm
      · simp only [List.mem_singleton] at hm
        have := letter_toNat x.st.toNat (by omega)
        rw [← hm] at this
        omega
      · simp at hm
  · simp

/-! ### Pairs. -/
def pairOk (o r : Lab) : Bool := okLab o && okLab r && o.side == 0 && r.side == 1
theorem pairOk_iff (o r : Lab) : pairOk o r = true ↔ okLab o = true ∧ okLab r = true ∧ o.side = 0 ∧ r.side = 1 := by simp [pairOk, and_assoc]
def pairS (o r : Lab) : List UInt8 := if pairOk o r then labS o ++ 47 :: labS r else []
def pairC (l : List UInt8) : Lab × Lab := (labC (Lib.cut l [47]).1, labC (Lib.cut l [47]).2.1)
def parsePair (l : List UInt8) : Option (Lab × Lab) := if pairOk (pairC l).1 (pairC l).2 && pairS (pairC l).1 (pairC l).2 == l then some (pairC l) else none
theorem pairS_ok {o r : Lab} (h : pairOk o r = true) : pairS o r = labS o ++ 47 :: labS r := by unfold pairS; rw [if_pos h]
theorem labS_slash (x : Lab) : (47 : UInt8) ∉ labS x := labS_no 47 (by unfold isDig; decide) (by decide) (by decide) (by decide) x
theorem labS_space (x : Lab) : (32 : UInt8) ∉ labS x := labS_no 32 (by unfold isDig; decide) (by decide) (by decide) (by decide) x
theorem pairC_text (o r : Lab) (h : pairOk o r = true) : pairC (pairS o r) = (o, r) := by
  obtain ⟨h1, h2, _, _⟩ := (pairOk_iff o r).1 h
  rw [pairS_ok h]
  unfold pairC
  rw [cut_hit1 47 _ _ (labS_slash o), labC_text o h1, labC_text r h2]
theorem parsePair_text (o r : Lab) (h : pairOk o r = true) : parsePair (pairS o r) = some (o, r) := by
  unfold parsePair; rw [pairC_text o r h]; simp [h]
theorem parsePair_some {l : List UInt8} {o r : Lab} (h : parsePair l = some (o, r)) : pairOk o r = true ∧ pairS o r = l := by
  unfold parsePair at h
  split at h
  · rename_i hc
    simp only [Bool.and_eq_true, beq_iff_eq] at hc
    simp only [Option.some.injEq] at h
    rw [h] at hc
    exact hc
  · cases h
theorem pairS_space (o r : Lab) : (32 : UInt8) ∉ pairS o r := by
  unfold pairS
  split
  · intro h
    rcases List.mem_append.1 h with h | h
    · exact labS_space o h
    · rcases List.mem_cons.1 h with h | h
      · exact absurd h (by decide)
      · exact labS_space r h
  · simp

/-! ### Specimens. -/
structure Spm where
  id : Int
  obv : Int
  rev : Int
  os : Int
  rs : Int
  ax : Int
  wt : Int
  deriving DecidableEq, Inhabited
def spZero : Spm := ⟨0, 0, 0, 0, 0, 0, 0⟩
def validS (x : Spm) : Bool := inR x.obv 1 999 && inR x.rev 1 999 && inR x.os 1 9 && inR x.rs 1 9 && inR x.id 1 9999 && inR x.ax 0 11 && inR x.wt 1 200000
theorem validS_iff (x : Spm) : validS x = true ↔ (1 ≤ x.obv ∧ x.obv ≤ 999) ∧ (1 ≤ x.rev ∧ x.rev ≤ 999) ∧ (1 ≤ x.os ∧ x.os ≤ 9) ∧ (1 ≤ x.rs ∧ x.rs ≤ 9) ∧ (1 ≤ x.id ∧ x.id ≤ 9999) ∧ (0 ≤ x.ax ∧ x.ax ≤ 11) ∧ (1 ≤ x.wt ∧ x.wt ≤ 200000) := by
  simp [validS, inR, and_assoc]
def labO (x : Spm) : Lab := ⟨0, x.obv, x.os⟩
def labR (x : Spm) : Lab := ⟨1, x.rev, x.rs⟩
def hourS (x : Spm) : Int := if x.ax = 0 then 12 else x.ax
def gramS (n : Nat) : List UInt8 := Lib.decDigits (n / 1000) ++ 46 :: pad3 (n % 1000)
def textSp (x : Spm) : List UInt8 := if validS x then Lib.itoa x.id ++ 32 :: (pairS (labO x) (labR x) ++ 32 :: ((Lib.itoa (hourS x) ++ [104]) ++ 32 :: gramS x.wt.toNat)) else []
def wordAt (l : List UInt8) (i : Nat) : List UInt8 := (wordsL 32 l).getD i []
def spC (l : List UInt8) : Spm :=
  { id := numL (wordAt l 0), obv := (pairC (wordAt l 1)).1.num, rev := (pairC (wordAt l 1)).2.num, os := (pairC (wordAt l 1)).1.st, rs := (pairC (wordAt l 1)).2.st,
    ax := (numL (Lib.trimSuffix (wordAt l 2) [104])).tmod 12, wt := numL (Lib.replace (wordAt l 3) [46] [] 1) }
def parseSp (l : List UInt8) : Option Spm := if validS (spC l) && textSp (spC l) == l then some (spC l) else none
theorem textSp_ok {x : Spm} (h : validS x = true) : textSp x = Lib.itoa x.id ++ 32 :: (pairS (labO x) (labR x) ++ 32 :: ((Lib.itoa (hourS x) ++ [104]) ++ 32 :: gramS x.wt.toNat)) := by unfold textSp; rw [if_pos h]
theorem sp_space : ¬ isDig 32 := by unfold isDig; decide
theorem sp_pairOk {x : Spm} (h : validS x = true) : pairOk (labO x) (labR x) = true := by
  obtain ⟨h1, h2, h3, h4, _⟩ := (validS_iff x).1 h
  rw [pairOk_iff, okLab_iff, okLab_iff]
  exact ⟨⟨.inl rfl, h1, by simp only [labO]; omega⟩, ⟨.inr rfl, h2, by simp only [labR]; omega⟩, rfl, rfl⟩
theorem gram_space (n : Nat) (h : n ≤ 200000) : (32 : UInt8) ∉ gramS n := by
  intro hm
  rcases List.mem_append.1 hm with hm | hm
  · exact sp_space (dec_digits _ _ hm)
  · rcases List.mem_cons.1 hm with hm | hm
    · exact absurd hm (by decide)
    · exact sp_space (pad3_dig _ (by omega) _ hm)
/-- THE WORDS OF A TEXT. -/
theorem words_text (x : Spm) (h : validS x = true) : wordsL 32 (textSp x) = [Lib.itoa x.id, pairS (labO x) (labR x), Lib.itoa (hourS x) ++ [104], gramS x.wt.toNat] := by
  obtain ⟨h1, h2, h3, h4, h5, h6, h7⟩ := (validS_iff x).1 h
  have hh : 1 ≤ hourS x ∧ hourS x ≤ 12 := by unfold hourS; split <;> omega
  rw [textSp_ok h, wordsL_cut 32 _ _ (no_dig (itoa_dig x.id (by omega)) sp_space), wordsL_cut 32 _ _ (pairS_space _ _), wordsL_cut 32 _ _ ?_, wordsL_none 32 _ (gram_space _ (by omega))]
  intro hm
  rcases List.mem_append.1 hm with hm | hm
  · exact sp_space (itoa_dig _ (by omega) _ hm)
  · simp at hm
theorem numL_gram (n : Nat) (h : n ≤ 200000) : numL (Lib.replace (gramS n) [46] [] 1) = (n : Int) := by
  unfold gramS
  rw [replace_one 46 _ _ (no_dig (dec_digits _) (by unfold isDig; decide))]
  have hl := decDigits_le 2 (n / 1000) (by omega)
  rw [numL_digits (u := n) (by simp [pad3]) (by simp [pad3]; omega)]
  · intro c hc
    rcases List.mem_append.1 hc with hc | hc
    · exact dec_digits _ c hc
    · exact pad3_dig _ (by omega) c hc
  · rw [decFrom_append, decFrom_dec]
    show Lib.decFrom (n / 1000) (pad3 (n % 1000)) = _
    rw [decFrom_pad3 _ _ (by omega)]
    congr 1; omega
theorem trim_h (l : List UInt8) : Lib.trimSuffix (l ++ [104]) [104] = l := by
  unfold Lib.trimSuffix
  rw [if_pos (by unfold Lib.hasSuffix; rw [List.isSuffixOf_iff_suffix]; exact List.suffix_append _ _)]; simp
theorem spC_text (x : Spm) (h : validS x = true) : spC (textSp x) = x := by
  obtain ⟨h1, h2, h3, h4, h5, h6, h7⟩ := (validS_iff x).1 h
  have hh : 1 ≤ hourS x ∧ hourS x ≤ 12 := by unfold hourS; split <;> omega
  unfold spC wordAt
  rw [words_text x h]
  simp only [List.getD_cons_zero, List.getD_cons_succ]
  rw [pairC_text _ _ (sp_pairOk h), numL_itoa x.id (by omega) (by omega), trim_h, numL_itoa (hourS x) (by omega) (by omega), numL_gram _ (by omega)]
  have ha : (hourS x).tmod 12 = x.ax := by
    unfold hourS
    split
    · rename_i h0; rw [h0]; rfl
    · exact Int.tmod_eq_of_lt (by omega) (by omega)
  rw [ha]
  obtain ⟨id, obv, rev, os, rs, ax, wt⟩ := x
  simp only [labO, labR] at h7 ⊢
  congr
  omega
theorem parseSp_text (x : Spm) (h : validS x = true) : parseSp (textSp x) = some x := by
  unfold parseSp; rw [spC_text x h, h]; simp
theorem parseSp_some {l : List UInt8} {x : Spm} (h : parseSp l = some x) : validS x = true ∧ textSp x = l := by
  unfold parseSp at h
  split at h
  · rename_i hc
    simp only [Bool.and_eq_true, beq_iff_eq] at hc
    simp only [Option.some.injEq] at h
    subst h
    exact hc
  · cases h
theorem parseSp_iff (l : List UInt8) (x : Spm) : parseSp l = some x ↔ validS x = true ∧ textSp x = l :=
  ⟨parseSp_some, fun ⟨h1, h2⟩ => by rw [← h2]; exact parseSp_text x h1⟩
/-- What a text that is read has. -/
theorem parseSp_words {l : List UInt8} {x : Spm} (h : parseSp l = some x) : (wordsL 32 l).length = 4 ∧ parsePair (wordAt l 1) = some (labO x, labR x) ∧ spC l = x := by
  obtain ⟨h1, h2⟩ := parseSp_some h
  subst h2
  refine ⟨by rw [words_text x h1]; rfl, ?_, spC_text x h1⟩
  unfold wordAt
  rw [words_text x h1]
  exact parsePair_text _ _ (sp_pairOk h1)
theorem parseSp_len {l : List UInt8} {x : Spm} (h : parseSp l = some x) : l.length ≤ 40 := by
  obtain ⟨h1, h2⟩ := parseSp_some h
  subst h2
  obtain ⟨k1, k2, k3, k4, k5, k6, k7⟩ := (validS_iff x).1 h1
  have hh : 1 ≤ hourS x ∧ hourS x ≤ 12 := by unfold hourS; split <;> omega
  have hst : ∀ n : Int, (stS n).length ≤ 1 := fun n => by unfold stS; split <;> simp
  have hsd : ∀ n : Int, (sideS n).length = 1 := fun n => by unfold sideS; split <;> simp
  have hlab : ∀ l : Lab, (labS l).length ≤ 5 := fun l => by
    unfold labS
    split
    · rename_i ho
      obtain ⟨_, ⟨n1, n2⟩, _⟩ := (okLab_iff l).1 ho
      have hd := decDigits_le 2 l.num.toNat (by omega)
      rw [itoa_nat _ (by omega)]
      have := hst l.st
      have := hsd l.side
      simp only [List.length_append]; omega
    · simp
  rw [textSp_ok h1, pairS_ok (sp_pairOk h1), itoa_nat _ (by omega), itoa_nat _ (by omega)]
  have a1 := decDigits_le 3 x.id.toNat (by omega)
  have a2 := decDigits_le 1 (hourS x).toNat (by omega)
  have a3 := decDigits_le 2 (x.wt.toNat / 1000) (by omega)
  have a4 := hlab (labO x)
  have a5 := hlab (labR x)
  simp only [gramS, pad3, List.length_append, List.length_cons, List.length_nil]
  omega
end Go.Proofs.YtdokpmfejibdlaaGreatDoor
