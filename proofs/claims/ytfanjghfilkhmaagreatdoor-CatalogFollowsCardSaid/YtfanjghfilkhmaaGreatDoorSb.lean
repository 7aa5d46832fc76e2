/- Labels and specimens in plain words: their texts, and reading them back. -/
import Derived.Test.YtfanjghfilkhmaaGreatDoorSa
set_option linter.unusedSimpArgs false
set_option linter.unusedVariables false
namespace Go.Proofs.YtfanjghfilkhmaaGreatDoor

def inR (n a b : Int) : Bool := decide (a ≤ n) && decide (n ≤ b)
theorem inR_iff (n a b : Int) : inR n a b = true ↔ a ≤ n ∧ n ≤ b := by simp [inR]

/-! ### Labels. -/
structure Lab where
  side : Int
  num : Int
  st : Int
  deriving DecidableEq, Inhabited
def okLab (l : Lab) : Bool := (l.side == 0 || l.side == 1) && inR l.num 1 999 && inR l.st 0 9
theorem okLab_iff (l : Lab) : okLab l = true ↔ (l.side = 0 ∨ l.side = 1) ∧ (1 ≤ l.num ∧ l.num ≤ 999) ∧ 0 ≤ l.st ∧ l.st ≤ 9 := by
  simp [okLab, inR, and_assoc]
def sideS (n : Int) : List UInt8 := if n = 0 then [79] else [82]
def stS (n : Int) : List UInt8 := if 0 < n then [UInt8.ofNat (96 + n.toNat)] else []
def labS (l : Lab) : List UInt8 := if okLab l then sideS l.side ++ Lib.itoa l.num ++ stS l.st else []
/-- The letter at the end, as a state; what stands ahead of it. -/
def endSt (l : List UInt8) : Int := match l.getLast? with
  | some c => if 97 ≤ c.toNat ∧ c.toNat ≤ 105 then (c.toNat : Int) - 96 else 0
  | none => 0
def endCut (l : List UInt8) : List UInt8 := if 0 < endSt l then l.dropLast else l
def sideC (c : UInt8) : Int := if c = 79 then 0 else if c = 82 then 1 else -1
def labC (l : List UInt8) : Lab := match l with
  | [] => ⟨0, 0, 0⟩
  | c :: r => ⟨sideC c, numL (endCut r), endSt r⟩
def parseLab (l : List UInt8) : Option Lab := if okLab (labC l) && labS (labC l) == l then some (labC l) else none
theorem stS_pos {n : Int} (h : 0 < n) : stS n = [UInt8.ofNat (96 + n.toNat)] := by unfold stS; rw [if_pos h]
theorem stS_zero : stS 0 = [] := rfl
theorem letter_toNat (k : Nat) (h : k ≤ 9) : (UInt8.ofNat (96 + k)).toNat = 96 + k := by rw [UInt8.toNat_ofNat']; omega
theorem endSt_letter (l : List UInt8) (n : Int) (h1 : 1 ≤ n) (h2 : n ≤ 9) : endSt (l ++ [UInt8.ofNat (96 + n.toNat)]) = n := by
  unfold endSt
  rw [List.getLast?_append]
  simp only [List.getLast?_singleton, Option.or_some, Option.some_or]
  rw [letter_toNat n.toNat (by omega), if_pos (by omega)]
  omega
theorem endSt_dig (l : List UInt8) (h : ∀ c ∈ l, isDig c) : endSt l = 0 := by
  unfold endSt
  cases hl : l.getLast? with
  | none => rfl
  | some c =>
    have := h c (List.mem_of_getLast? hl)
    unfold isDig at this
    show (if 97 ≤ c.toNat ∧ c.toNat ≤ 105 then (c.toNat : Int) - 96 else 0) = 0
    rw [if_neg (by omega)]
theorem itoa_dig (n : Int) (h : 0 ≤ n) : ∀ c ∈ Lib.itoa n, isDig c := by rw [itoa_nat n h]; exact dec_digits _
theorem itoa_ne (n : Int) (h : 0 ≤ n) : Lib.itoa n ≠ [] := by rw [itoa_nat n h]; exact dec_ne _
theorem labS_ok {x : Lab} (h : okLab x = true) : labS x = sideS x.side ++ Lib.itoa x.num ++ stS x.st := by unfold labS; rw [if_pos h]
theorem labC_text (x : Lab) (h : okLab x = true) : labC (labS x) = x := by
  rw [labS_ok h]
  obtain ⟨hs, ⟨h1, h2⟩, h3, h4⟩ := (okLab_iff x).1 h
  obtain ⟨side, num, st⟩ := x
  have hn : numL (Lib.itoa num) = num := numL_itoa num (by simp only at h1; omega) (by simp only at h2; omega)
  have hd := itoa_dig num (by simp only at h1; omega)
  simp only at hs h1 h2 h3 h4 ⊢
  have key : ∀ c : UInt8, sideC c = side → labC ([c] ++ Lib.itoa num ++ stS st) = ⟨side, num, st⟩ := fun c hc => by
    show (⟨sideC c, numL (endCut (Lib.itoa num ++ stS st)), endSt (Lib.itoa num ++ stS st)⟩ : Lab) = _
    rw [hc]
    by_cases h0 : st = 0
    · subst h0
      rw [stS_zero, List.append_nil]
      unfold endCut
      rw [endSt_dig _ hd, if_neg (by omega), hn]
    · rw [stS_pos (by omega)]
      unfold endCut
      rw [endSt_letter _ st (by omega) h4, if_pos (by omega), List.dropLast_concat, hn]
  rcases hs with rfl | rfl
  · exact key 79 rfl
  · exact key 82 rfl
theorem parseLab_text (x : Lab) (h : okLab x = true) : parseLab (labS x) = some x := by
  unfold parseLab; rw [labC_text x h, h]; simp
theorem parseLab_some {l : List UInt8} {x : Lab} (h : parseLab l = some x) : okLab x = true ∧ labS x = l := by
  unfold parseLab at h
  split at h
  · rename_i hc
    simp only [Bool.and_eq_true, beq_iff_eq] at hc
    simp only [Option.some.injEq] at h
    subst h
    exact hc
  · cases h
theorem labS_no (c : UInt8) (hc : ¬ isDig c) (h1 : c ≠ 79) (h2 : c ≠ 82) (h3 : c.toNat < 96 ∨ 105 < c.toNat) (x : Lab) : c ∉ labS x := by
  unfold labS
  split
  · rename_i h
    obtain ⟨hs, ⟨hn1, hn2⟩, hs1, hs2⟩ := (okLab_iff x).1 h
    intro hm
    rcases List.mem_append.1 hm with hm | hm
    · rcases List.mem_append.1 hm with hm | hm
      · unfold sideS at hm
        split at hm <;> simp at hm
        · exact h1 hm
        · exact h2 hm
      · exact hc (itoa_dig x.num (by omega) c hm)
    · unfold stS at hm
      split at hm
      · simp only [List.mem_singleton] at hm
        have := letter_toNat x.st.toNat (by omega)
        rw [← hm] at this
        omega
      · simp at hm
  · simp

/-! ### Pairs. -/
def pairOk (o r : Lab) : Bool := okLab o && okLab r && o.side == 0 && r.side == 1
theorem pairOk_iff (o r : Lab) : pairOk o r = true ↔ okLab o = true ∧ okLab r = true ∧ o.side = 0 ∧ r.side = 1 := by simp [pairOk, and_assoc]
def pairS (o r : Lab) : List UInt8 := if pairOk o r then labS o ++ 47 :: labS r else []
def pairC (l : List UInt8) : Lab × Lab := (labC (Lib.cut l [47]).1, labC (Lib.cut l [47]).2.1)
def parsePair (l : List UInt8) : Option (Lab × Lab) := if pairOk (pairC l).1 (pairC l).2 && pairS (pairC l).1 (pairC l).2 == l then some (pairC l) else none
theorem pairS_ok {o r : Lab} (h : pairOk o r = true) : pairS o r = labS o ++ 47 :: labS r := by unfold pairS; rw [if_pos h]
theorem labS_slash (x : Lab) : (47 : UInt8) ∉ labS x := labS_no 47 (by unfold isDig; decide) (by decide) (by decide) (by decide) x
theorem labS_space (x : Lab) : (32 : UInt8) ∉ labS x := labS_no 32 (by unfold isDig; decide) (by decide) (by decide) (by decide) x
theorem pairC_text (o r : Lab) (h : pairOk o r = true) : pairC (pairS o r) = (o, r) := by
  obtain ⟨h1, h2, _, _⟩ := (pairOk_iff o r).1 h
  rw [pairS_ok h]
  unfold pairC
  rw [cut_hit1 47 _ _ (labS_slash o), labC_text o h1, labC_text r h2]
theorem parsePair_text (o r : Lab) (h : pairOk o r = true) : parsePair (pairS o r) = some (o, r) := by
  unfold parsePair; rw [pairC_text o r h]; simp [h]
theorem parsePair_some {l : List UInt8} {o r : Lab} (h : parsePair l = some (o, r)) : pairOk o r = true ∧ pairS o r = l := by
  unfold parsePair at h
  split at h
  · rename_i hc
    simp only [Bool.and_eq_true, beq_iff_eq] at hc
    simp only [Option.some.injEq] at h
    rw [h] at hc
    exact hc
  · cases h
theorem pairS_space (o r : Lab) : (32 : UInt8) ∉ pairS o r := by
  unfold pairS
  split
  · intro h
    rcases List.mem_append.1 h with h | h
    · exact labS_space o h
    · rcases List.mem_cons.1 h with h | h
      · exact absurd h (by decide)
      · exact labS_space r h
  · simp

/-! ### Specimens. -/
structure Spm where
  id : Int
  obv : Int
  rev : Int
  os : Int
  rs : Int
  ax : Int
  wt : Int
  deriving DecidableEq, Inhabited
def spZero : Spm := ⟨0, 0, 0, 0, 0, 0, 0⟩
def validS (x : Spm) : Bool := inR x.obv 1 999 && inR x.rev 1 999 && inR x.os 1 9 && inR x.rs 1 9 && inR x.id 1 9999 && inR x.ax 0 11 && inR x.wt 1 200000
theorem validS_iff (x : Spm) : validS x = true ↔ (1 ≤ x.obv ∧ x.obv ≤ 999) ∧ (1 ≤ x.rev ∧ x.rev ≤ 999) ∧ (1 ≤ x.os ∧ x.os ≤ 9) ∧ (1 ≤ x.rs ∧ x.rs ≤ 9) ∧ (1 ≤ x.id ∧ x.id ≤ 9999) ∧ (0 ≤ x.ax ∧ x.ax ≤ 11) ∧ (1 ≤ x.wt ∧ x.wt ≤ 200000) := by
  simp [validS, inR, and_assoc]
def labO (x : Spm) : Lab := ⟨0, x.obv, x.os⟩
def labR (x : Spm) : Lab := ⟨1, x.rev, x.rs⟩
def hourS (x : Spm) : Int := if x.ax = 0 then 12 else x.ax
def gramS (n : Nat) : List UInt8 := Lib.decDigits (n / 1000) ++ 46 :: pad3 (n % 1000)
def textSp (x : Spm) : List UInt8 := if validS x then Lib.itoa x.id ++ 32 :: (pairS (labO x) (labR x) ++ 32 :: ((Lib.itoa (hourS x) ++ [104]) ++ 32 :: gramS x.wt.toNat)) else []
def wordAt (l : List UInt8) (i : Nat) : List UInt8 := (wordsL 32 l).getD i []
def spC (l : List UInt8) : Spm :=
  { id := numL (wordAt l 0), obv := (pairC (wordAt l 1)).1.num, rev := (pairC (wordAt l 1)).2.num, os := (pairC (wordAt l 1)).1.st, rs := (pairC (wordAt l 1)).2.st,
    ax := (numL (Lib.trimSuffix (wordAt l 2) [104])).tmod 12, wt := numL (Lib.replace (wordAt l 3) [46] [] 1) }
def parseSp (l : List UInt8) : Option Spm := if validS (spC l) && textSp (spC l) == l then some (spC l) else none
theorem textSp_ok {x : Spm} (h : validS x = true) : textSp x = Lib.itoa x.id ++ 32 :: (pairS (labO x) (labR x) ++ 32 :: ((Lib.itoa (hourS x) ++ [104]) ++ 32 :: gramS x.wt.toNat)) := by unfold textSp; rw [if_pos h]
theorem sp_space : ¬ isDig 32 := by unfold isDig; decide
theorem sp_pairOk {x : Spm} (h : validS x = true) : pairOk (labO x) (labR x) = true := by
  obtain ⟨h1, h2, h3, h4, _⟩ := (validS_iff x).1 h
  rw [pairOk_iff, okLab_iff, okLab_iff]
  exact ⟨⟨.inl rfl, h1, by simp only [labO]; omega⟩, ⟨.inr rfl, h2, by simp only [labR]; omega⟩, rfl, rfl⟩
theorem gram_space (n : Nat) (h : n ≤ 200000) : (32 : UInt8) ∉ gramS n := by
  intro hm
  rcases List.mem_append.1 hm with hm | hm
  · exact sp_space (dec_digits _ _ hm)
  · rcases List.mem_cons.1 hm with hm | hm
    · exact absurd hm (by decide)
    · exact sp_space (pad3_dig _ (by omega) _ hm)
/-- THE WORDS OF A TEXT. -/
theorem words_text (x : Spm) (h : validS x = true) : wordsL 32 (textSp x) = [Lib.itoa x.id, pairS (labO x) (labR x), Lib.itoa (hourS x) ++ [104], gramS x.wt.toNat] := by
  obtain ⟨h1, h2, h3, h4, h5, h6, h7⟩ := (validS_iff x).1 h
  have hh : 1 ≤ hourS x ∧ hourS x ≤ 12 := by unfold hourS; split <;> omega
  rw [textSp_ok h, wordsL_cut 32 _ _ (no_dig (itoa_dig x.id (by omega)) sp_space), wordsL_cut 32 _ _ (pairS_space _ _), wordsL_cut 32 _ _ ?_, wordsL_none 32 _ (gram_space _ (by omega))]
  intro hm
  rcases List.mem_append.1 hm with hm | hm
  · exact sp_space (itoa_dig _ (by omega) _ hm)
  · simp at hm
theorem numL_gram (n : Nat) (h : n ≤ 200000) : numL (Lib.replace (gramS n) [46] [] 1) = (n : Int) := by
  unfold gramS
  rw [replace_one 46 _ _ (no_dig (dec_digits _) (by unfold isDig; decide))]
  have hl := decDigits_le 2 (n / 1000) (by omega)
  rw [numL_digits (u := n) (by simp [pad3]) (by simp [pad3]; omega)]
  · intro c hc
    rcases List.mem_append.1 hc with hc | hc
    · exact dec_digits _ c hc
    · exact pad3_dig _ (by omega) c hc
  · rw [decFrom_append, decFrom_dec]
    show Lib.decFrom (n / 1000) (pad3 (n % 1000)) = _
    rw [decFrom_pad3 _ _ (by omega)]
    congr 1; omega
theorem trim_h (l : List UInt8) : Lib.trimSuffix (l ++ [104]) [104] = l := by
  unfold Lib.trimSuffix
  rw [if_pos (by unfold Lib.hasSuffix; rw [List.isSuffixOf_iff_suffix]; exact List.suffix_append _ _)]; simp
theorem spC_text (x : Spm) (h : validS x = true) : spC (textSp x) = x := by
  obtain ⟨h1, h2, h3, h4, h5, h6, h7⟩ := (validS_iff x).1 h
  have hh : 1 ≤ hourS x ∧ hourS x ≤ 12 := by unfold hourS; split <;> omega
  unfold spC wordAt
  rw [words_text x h]
  simp only [List.getD_cons_zero, List.getD_cons_succ]
  rw [pairC_text _ _ (sp_pairOk h), numL_itoa x.id (by omega) (by omega), trim_h, numL_itoa (hourS x) (by omega) (by omega), numL_gram _ (by omega)]
  have ha : (hourS x).tmod 12 = x.ax := by
    unfold hourS
    split
    · rename_i h0; rw [h0]; rfl
    · exact Int.tmod_eq_of_lt (by omega) (by omega)
  rw [ha]
  obtain ⟨id, obv, rev, os, rs, ax, wt⟩ := x
  simp only [labO, labR] at h7 ⊢
  congr
  omega
theorem parseSp_text (x : Spm) (h : validS x = true) : parseSp (textSp x) = some x := by
  unfold parseSp; rw [spC_text x h, h]; simp
theorem parseSp_some {l : List UInt8} {x : Spm} (h : parseSp l = some x) : validS x = true ∧ textSp x = l := by
  unfold parseSp at h
  split at h
  · rename_i hc
    simp only [Bool.and_eq_true, beq_iff_eq] at hc
    simp only [Option.some.injEq] at h
    subst h
    exact hc
  · cases h
theorem parseSp_iff (l : List UInt8) (x : Spm) : parseSp l = some x ↔ validS x = true ∧ textSp x = l :=
  ⟨parseSp_some, fun ⟨h1, h2⟩ => by rw [← h2]; exact parseSp_text x h1⟩
/-- What a text that is read has. -/
theorem parseSp_words {l : List UInt8} {x : Spm} (h : parseSp l = some x) : (wordsL 32 l).length = 4 ∧ parsePair (wordAt l 1) = some (labO x, labR x) ∧ spC l = x := by
  obtain ⟨h1, h2⟩ := parseSp_some h
  subst h2
  refine ⟨by rw [words_text x h1]; rfl, ?_, spC_text x h1⟩
  unfold wordAt
  rw [words_text x h1]
  exact parsePair_text _ _ (sp_pairOk h1)
theorem parseSp_len {l : List UInt8} {x : Spm} (h : parseSp l = some x) : l.length ≤ 40 := by
  obtain ⟨h1, h2⟩ := parseSp_some h
  subst h2
  obtain ⟨k1, k2, k3, k4, k5, k6, k7⟩ := (validS_iff x).1 h1
  have hh : 1 ≤ hourS x ∧ hourS x ≤ 12 := by unfold hourS; split <;> omega
  have hst : ∀ n : Int, (stS n).length ≤ 1 := fun n => by unfold stS; split <;> simp
  have hsd : ∀ n : Int, (sideS n).length = 1 := fun n => by unfold sideS; split <;> simp
  have hlab : ∀ l : Lab, (labS l).length ≤ 5 := fun l => by
    unfold labS
    split
    · rename_i ho
      obtain ⟨_, ⟨n1, n2⟩, _⟩ := (okLab_iff l).1 ho
      have hd := decDigits_le 2 l.num.toNat (by omega)
      rw [itoa_nat _ (by omega)]
      have := hst l.st
      have := hsd l.side
      simp only [List.length_append]; omega
    · simp
  rw [textSp_ok h1, pairS_ok (sp_pairOk h1), itoa_nat _ (by omega), itoa_nat _ (by omega)]
  have a1 := decDigits_le 3 x.id.toNat (by omega)
  have a2 := decDigits_le 1 (hourS x).toNat (by omega)
  have a3 := decDigits_le 2 (x.wt.toNat / 1000) (by omega)
  have a4 := hlab (labO x)
  have a5 := hlab (labR x)
  simp only [gramS, pad3, List.length_append, List.length_cons, List.length_nil]
  omega
end Go.Proofs.YtfanjghfilkhmaaGreatDoor
