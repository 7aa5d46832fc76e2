/- Groups in plain words (chapter 46): the program's and the reference's lists of groups are one list; the sales of a group; what is reduced. -/
import Derived.Test.YtccmchmemafjdaaGreatDoorEg
import Derived.Lib.Join
set_option linter.unusedSimpArgs false
set_option linter.unusedVariables false
namespace Go.Proofs.YtccmchmemafjdaaGreatDoor

/-- A sale: year, house, lot. -/
structure Sal where
  y : Int
  h : Int
  l : Int
  deriving DecidableEq, Inhabited
/-- A listing. -/
structure Lst where
  id : Int
  sales : List Sal
  deriving DecidableEq, Inhabited
def lstZero : Lst := ⟨0, []⟩
def okSal (s : Sal) : Prop := (1700 ≤ s.y ∧ s.y ≤ 2100) ∧ (1 ≤ s.h ∧ s.h ≤ 999) ∧ 1 ≤ s.l ∧ s.l ≤ 9999
instance (s : Sal) : Decidable (okSal s) := by unfold okSal; infer_instance
def ltSal (a b : Sal) : Prop := a.y < b.y ∨ (a.y = b.y ∧ (a.h < b.h ∨ (a.h = b.h ∧ a.l < b.l)))
instance (a b : Sal) : Decidable (ltSal a b) := by unfold ltSal; infer_instance
theorem ltSal_trans {a b c : Sal} (h1 : ltSal a b) (h2 : ltSal b c) : ltSal a c := by unfold ltSal at *; omega
theorem ltSal_irr (a : Sal) : ¬ ltSal a a := by unfold ltSal; omega
theorem ltSal_tri (a b : Sal) : ltSal a b ∨ a = b ∨ ltSal b a := by
  obtain ⟨a1, a2, a3⟩ := a
  obtain ⟨b1, b2, b3⟩ := b
  unfold ltSal
  simp only [Sal.mk.injEq]
  omega
/-- Valid. -/
def validL (x : Lst) : Prop := (1 ≤ x.id ∧ x.id ≤ 9999) ∧ x.sales.length ≤ 8 ∧ (∀ s ∈ x.sales, okSal s) ∧ x.sales.Pairwise ltSal
instance (x : Lst) : Decidable (validL x) := by unfold validL; infer_instance
/-- Each but the first is behind the one ahead of it: as both programs ask. -/
theorem asc_iff : ∀ (l : List Sal), l.Pairwise ltSal ↔ ∀ (i : Nat) (a b : Sal), l[i]? = some a → l[i + 1]? = some b → ltSal a b
  | [] => by simp
  | [x] => by simp
  | x :: y :: l => by
    have ih := asc_iff (y :: l)
    rw [List.pairwise_cons, ih]
    constructor
    · rintro ⟨h1, h2⟩ i a b ha hb
      cases i with
      | zero =>
        simp at ha hb
        subst ha
        subst hb
        exact h1 _ (by simp)
      | succ i => exact h2 i a b ha hb
    · intro h
      refine ⟨?_, fun i a b ha hb => h (i + 1) a b ha hb⟩
      have hxy : ltSal x y := h 0 x y rfl rfl
      intro z hz
      rcases List.mem_cons.1 hz with rfl | hz
      · exact hxy
      · have hp := ih.2 (fun i a b ha hb => h (i + 1) a b ha hb)
        exact ltSal_trans hxy ((List.pairwise_cons.1 hp).1 z hz)
def saleT (s : Sal) : List UInt8 := 32 :: (Lib.itoa s.y ++ 32 :: 72 :: (Lib.itoa s.h ++ 32 :: 76 :: Lib.itoa s.l))
def textL (x : Lst) : List UInt8 := if validL x then Lib.itoa x.id ++ 58 :: Lib.join (x.sales.map saleT) [59] else []
/-- s is the text of the valid listing x. -/
def IsTextL (s : List UInt8) (x : Lst) : Prop := validL x ∧ textL x = s
theorem textL_ok {x : Lst} (h : validL x) : textL x = Lib.itoa x.id ++ 58 :: Lib.join (x.sales.map saleT) [59] := by unfold textL; rw [if_pos h]

/-! ### The program's Parse. -/
def bodyW (p : List UInt8) : List (List UInt8) := wordsL 32 (Lib.trimPrefix p [32])
/-- A number behind a letter. -/
def numW (letter w : List UInt8) : Option Int := if letter.isPrefixOf w then (match Lib.atoiAll (Lib.trimPrefix w letter) with | .ok v => some v | _ => none) else none
def saleW (p : List UInt8) : Option Sal := match bodyW p with
  | [a, b, c] => match numW [] a, numW [72] b, numW [76] c with
    | some y, some h, some l => some ⟨y, h, l⟩
    | _, _, _ => none
  | _ => none
def salesW : List (List UInt8) → Option (List Sal)
  | [] => some []
  | p :: r => match saleW p, salesW r with
    | some s, some t => some (s :: t)
    | _, _ => none
def parseP (s : List UInt8) : Option Lst := match Lib.atoiAll (Lib.cut s [58]).1 with
  | .ok v => (if (Lib.cut s [58]).2.1 = [] then some [] else salesW (wordsL 59 (Lib.cut s [58]).2.1)).map (fun l => ⟨v, l⟩)
  | _ => none
theorem atoi_itoa {n : Int} (h : 0 ≤ n) (h2 : n ≤ 99999) : Lib.atoiAll (Lib.itoa n) = .ok n := by
  rw [itoa_nat n h, atoiAll_digits _ n.toNat (dec_ne _) (Nat.le_trans (decDigits_le 5 n.toNat (by omega)) (by omega)) (dec_digits _) (decFrom_dec _)]
  congr 1
  omega
theorem numW_itoa {n : Int} (h : 0 ≤ n) (h2 : n ≤ 99999) (letter : List UInt8) : numW letter (letter ++ Lib.itoa n) = some n := by
  have hp : letter.isPrefixOf (letter ++ Lib.itoa n) = true := by rw [List.isPrefixOf_iff_prefix]; exact List.prefix_append _ _
  unfold numW Lib.trimPrefix Lib.hasPrefix
  rw [if_pos hp, if_pos hp, List.drop_left, atoi_itoa h h2]
theorem no32_itoa {n : Int} (h : 0 ≤ n) (c : UInt8) (hc : c ≠ 32) : (32 : UInt8) ∉ c :: Lib.itoa n := by
  intro hm
  rcases List.mem_cons.1 hm with hm | hm
  · exact hc hm.symm
  · exact itoa_no32 h hm
theorem bodyW_sale {s : Sal} (h : okSal s) : bodyW (saleT s) = [Lib.itoa s.y, 72 :: Lib.itoa s.h, 76 :: Lib.itoa s.l] := by
  obtain ⟨h1, h2, h3⟩ := h
  have hp : Lib.trimPrefix (saleT s) [32] = Lib.itoa s.y ++ 32 :: 72 :: (Lib.itoa s.h ++ 32 :: 76 :: Lib.itoa s.l) := by
    unfold Lib.trimPrefix Lib.hasPrefix saleT
    simp [List.isPrefixOf]
  unfold bodyW
  rw [hp, wordsL_cut 32 _ _ (itoa_no32 (by omega)), ← List.cons_append, wordsL_cut 32 _ _ (no32_itoa (by omega) 72 (by decide)), wordsL_none 32 _ (no32_itoa (by omega) 76 (by decide))]
theorem saleW_sale {s : Sal} (h : okSal s) : saleW (saleT s) = some s := by
  unfold saleW
  rw [bodyW_sale h]
  obtain ⟨h1, h2, h3⟩ := h
  have e1 := numW_itoa (n := s.y) (by omega) (by omega) []
  have e2 := numW_itoa (n := s.h) (by omega) (by omega) [72]
  have e3 := numW_itoa (n := s.l) (by omega) (by omega) [76]
  rw [List.nil_append] at e1
  rw [List.cons_append, List.nil_append] at e2 e3
  simp only [e1, e2, e3]
theorem salesW_map : ∀ (l : List Sal), (∀ s ∈ l, okSal s) → salesW (l.map saleT) = some l
  | [], _ => rfl
  | s :: l, h => by
    rw [List.map_cons]
    unfold salesW
    rw [saleW_sale (h s (by simp)), salesW_map l (fun x hx => h x (by simp [hx]))]
theorem not_dig59 : ¬ isDig 59 := by unfold isDig; decide
theorem not_dig58 : ¬ isDig 58 := by unfold isDig; decide
theorem not_dig72 : ¬ isDig 72 := by unfold isDig; decide
theorem not_dig76 : ¬ isDig 76 := by unfold isDig; decide
theorem saleT_no {s : Sal} (h : okSal s) {c : UInt8} (hc : ¬ isDig c) (h1 : c ≠ 32) (h2 : c ≠ 72) (h3 : c ≠ 76) : c ∉ saleT s := by
  obtain ⟨k1, k2, k3⟩ := h
  intro hm
  unfold saleT at hm
  simp only [List.mem_append, List.mem_cons] at hm
  rcases hm with hm | hm | hm | hm | hm | hm | hm | hm
  · exact h1 hm
  · exact hc (itoa_dig _ (by omega) _ hm)
  · exact h1 hm
  · exact h2 hm
  · exact hc (itoa_dig _ (by omega) _ hm)
  · exact h1 hm
  · exact h3 hm
  · exact hc (itoa_dig _ (by omega) _ hm)
theorem join_cons2 (x y : List UInt8) (r : List (List UInt8)) : Lib.join (x :: y :: r) [59] = x ++ 59 :: Lib.join (y :: r) [59] := by
  rw [Lib.join_cons, Lib.join_cons]
  simp [Lib.joinTail]
theorem words_join : ∀ (p : List UInt8) (r : List (List UInt8)), (∀ x ∈ p :: r, (59 : UInt8) ∉ x) → wordsL 59 (Lib.join (p :: r) [59]) = p :: r
  | p, [], h => by rw [Lib.join_one, wordsL_none 59 _ (h p (by simp))]
  | p, q :: r, h => by rw [join_cons2, wordsL_cut 59 _ _ (h p (by simp)), words_join q r (fun x hx => h x (by simp only [List.mem_cons] at hx ⊢; exact .inr hx))]
theorem join_saleT_ne {s : Sal} {l : List Sal} : Lib.join ((s :: l).map saleT) [59] ≠ [] := by
  rw [List.map_cons, Lib.join_cons]
  unfold saleT
  simp
theorem parseP_text {x : Lst} (h : validL x) : parseP (textL x) = some x := by
  obtain ⟨h1, h2, h3, h4⟩ := h
  rw [textL_ok ⟨h1, h2, h3, h4⟩]
  unfold parseP
  rw [cut_hit1 58 _ _ (no_dig (itoa_dig x.id (by omega)) not_dig58)]
  simp only
  rw [atoi_itoa (by omega) (by omega)]
  simp only
  obtain ⟨id, sales⟩ := x
  simp only at *
  cases sales with
  | nil => rfl
  | cons s l =>
    rw [if_neg join_saleT_ne, List.map_cons, words_join _ _ (fun y hy => ?_), ← List.map_cons, salesW_map _ h3]
    · rfl
    · rw [← List.map_cons] at hy
      obtain ⟨z, hz, rfl⟩ := List.mem_map.1 hy
      exact saleT_no (h3 z hz) not_dig59 (by decide) (by decide) (by decide)
theorem atoi_nil : ∀ v, Lib.atoiAll [] ≠ .ok v := by
  intro v
  rw [Lib.atoiAll_short _ (by simp)]
  simp [Lib.atoi, Lib.decNat, Lib.NumEnd.ofOption]
theorem parseP_ne {s : List UInt8} {x : Lst} (h : parseP s = some x) : s ≠ [] := by
  rintro rfl
  have hc : (Lib.cut ([] : List UInt8) [58]).1 = [] := rfl
  unfold parseP at h
  rw [hc] at h
  cases ha : Lib.atoiAll [] with
  | ok v => exact absurd ha (atoi_nil v)
  | _ => rw [ha] at h; cases h
/-- What Parse answers: the listing and a code (cForm: it has not this form). -/
def resL (cForm : Int) (s : List UInt8) : Lst × Int := match parseP s with
  | some x => if textL x = s then (x, 0) else (lstZero, cForm)
  | none => (lstZero, cForm)
theorem resL_text {cForm : Int} {s : List UInt8} {x : Lst} (h : IsTextL s x) : resL cForm s = (x, 0) := by
  unfold resL
  rw [← h.2, parseP_text h.1]
  simp
theorem resL_none {cForm : Int} {s : List UInt8} (h : ∀ x, ¬ IsTextL s x) : resL cForm s = (lstZero, cForm) := by
  unfold resL
  cases hp : parseP s with
  | none => rfl
  | some x =>
    simp only
    rw [if_neg]
    intro ht
    by_cases hv : validL x
    · exact h x ⟨hv, ht⟩
    · unfold textL at ht
      rw [if_neg hv] at ht
      exact parseP_ne hp ht.symm
theorem textL_unique {s : List UInt8} {x y : Lst} (h1 : IsTextL s x) (h2 : IsTextL s y) : x = y := by
  have := parseP_text h1.1
  rw [h1.2, ← h2.2, parseP_text h2.1] at this
  exact (Option.some.inj this).symm

/-! ### The reference's Parse: the numbers of the string. -/
def numsG : Bool → List Int → List UInt8 → List Int
  | _, acc, [] => acc
  | pd, acc, c :: r => if 30 < acc.length then acc else numsG (isDigB c) (numStep pd acc c) r
theorem numStep_len (pd : Bool) (acc : List Int) (c : UInt8) : acc.length ≤ (numStep pd acc c).length := by
  unfold numStep
  split
  · split
    · simp; omega
    · simp
  · exact Nat.le_refl _
theorem numsF_len : ∀ (l : List UInt8) (pd : Bool) (acc : List Int), acc.length ≤ (numsF pd acc l).length
  | [], pd, acc => Nat.le_refl _
  | c :: r, pd, acc => Nat.le_trans (numStep_len pd acc c) (numsF_len r _ _)
theorem numsG_eq : ∀ (l : List UInt8) (pd : Bool) (acc : List Int), (numsF pd acc l).length ≤ 30 → numsG pd acc l = numsF pd acc l
  | [], pd, acc, _ => rfl
  | c :: r, pd, acc, h => by
    have h1 := numsF_len (c :: r) pd acc
    unfold numsG
    rw [if_neg (by omega)]
    exact numsG_eq r _ _ h
/-- The sales of numbers, three by three. -/
def triples : List Int → List Sal
  | a :: b :: c :: r => ⟨a, b, c⟩ :: triples r
  | _ => []
def candR (n : List Int) : Lst := ⟨n.headD 0, triples n.tail⟩
def resR (cForm : Int) (s : List UInt8) : Lst × Int :=
  if (numsG false [] s).length % 3 = 1 then (if validL (candR (numsG false [] s)) ∧ textL (candR (numsG false [] s)) = s then (candR (numsG false [] s), 0) else (lstZero, cForm)) else (lstZero, cForm)
theorem nums_sale {s : Sal} (h : okSal s) (pd : Bool) (acc : List Int) : numsF pd acc (saleT s) = acc ++ [s.y, s.h, s.l] := by
  obtain ⟨h1, h2, h3⟩ := h
  unfold saleT
  rw [numsF_skip not_dig32, numsF_itoa_then (by omega) (by omega) _ not_dig32, numsF_skip not_dig72, numsF_itoa_then (by omega) (by omega) _ not_dig32, numsF_skip not_dig76, numsF_itoa (by omega) (by omega)]
  simp
def flat3 (l : List Sal) : List Int := l.flatMap (fun s => [s.y, s.h, s.l])
theorem nums_sales : ∀ (l : List Sal), (∀ s ∈ l, okSal s) → ∀ (pd : Bool) (acc : List Int), numsF pd acc (Lib.join (l.map saleT) [59]) = acc ++ flat3 l
  | [], _, pd, acc => by simp [Lib.join_nil, numsF, flat3]
  | [s], h, pd, acc => by
    rw [List.map_cons, List.map_nil, Lib.join_one, nums_sale (h s (by simp))]
    rfl
  | s :: t :: l, h, pd, acc => by
    have ih := nums_sales (t :: l) (fun x hx => h x (by simp only [List.mem_cons] at hx ⊢; exact .inr hx))
    rw [List.map_cons, List.map_cons, join_cons2, numsF_append, nums_sale (h s (by simp)), numsF_skip not_dig59, ← List.map_cons, ih]
    simp [flat3]
theorem triples_flat : ∀ (l : List Sal), triples (flat3 l) = l
  | [] => rfl
  | s :: l => by
    have ih := triples_flat l
    show triples (s.y :: s.h :: s.l :: flat3 l) = _
    unfold triples
    rw [ih]
theorem flat3_len : ∀ (l : List Sal), (flat3 l).length = 3 * l.length
  | [] => rfl
  | s :: l => by
    have ih := flat3_len l
    show (s.y :: s.h :: s.l :: flat3 l).length = _
    simp only [List.length_cons]
    omega
theorem nums_text {x : Lst} (h : validL x) : numsG false [] (textL x) = x.id :: flat3 x.sales := by
  obtain ⟨h1, h2, h3, h4⟩ := h
  have he : numsF false [] (textL x) = x.id :: flat3 x.sales := by
    rw [textL_ok ⟨h1, h2, h3, h4⟩, numsF_itoa_then (by omega) (by omega) _ not_dig58, nums_sales _ h3]
    rfl
  rw [numsG_eq, he]
  rw [he, List.length_cons, flat3_len]
  omega
theorem resR_eq (cForm : Int) (s : List UInt8) : resR cForm s = resL cForm s := by
  by_cases h : ∃ x, IsTextL s x
  · obtain ⟨x, hx⟩ := h
    rw [resL_text hx]
    unfold resR
    have hn := nums_text hx.1
    rw [hx.2] at hn
    have hc : candR (x.id :: flat3 x.sales) = x := by
      unfold candR
      simp only [List.headD_cons, List.tail_cons]
      rw [triples_flat]
    rw [hn, hc, if_pos (by rw [List.length_cons, flat3_len]; omega), if_pos ⟨hx.1, hx.2⟩]
  · rw [resL_none (fun x hx => h ⟨x, hx⟩)]
    unfold resR
    split
    · rw [if_neg]
      exact fun hx => h ⟨_, hx.1, hx.2⟩
    · rfl
theorem saleT_len {s : Sal} (h : okSal s) : (saleT s).length ≤ 16 := by
  obtain ⟨h1, h2, h3⟩ := h
  have a1 := decDigits_le 3 s.y.toNat (by omega)
  have a2 := decDigits_le 2 s.h.toNat (by omega)
  have a3 := decDigits_le 3 s.l.toNat (by omega)
  unfold saleT
  rw [itoa_nat _ (by omega), itoa_nat _ (by omega), itoa_nat _ (by omega)]
  simp only [List.length_append, List.length_cons]
  omega
theorem join_len : ∀ (l : List Sal), (∀ s ∈ l, okSal s) → (Lib.join (l.map saleT) [59]).length ≤ 17 * l.length
  | [], _ => by simp [Lib.join_nil]
  | [s], h => by
    have := saleT_len (h s (by simp))
    rw [List.map_cons, List.map_nil, Lib.join_one]
    simp
    omega
  | s :: t :: l, h => by
    have ih := join_len (t :: l) (fun x hx => h x (by simp only [List.mem_cons] at hx ⊢; exact .inr hx))
    have := saleT_len (h s (by simp))
    rw [List.map_cons, List.map_cons, join_cons2, ← List.map_cons]
    simp only [List.length_append, List.length_cons] at ih ⊢
    omega
theorem textL_len (x : Lst) : (textL x).length ≤ 160 := by
  by_cases h : validL x
  · obtain ⟨h1, h2, h3, h4⟩ := h
    have := join_len x.sales h3
    have a1 := decDigits_le 3 x.id.toNat (by omega)
    rw [textL_ok ⟨h1, h2, h3, h4⟩, itoa_nat _ (by omega)]
    simp only [List.length_append, List.length_cons]
    omega
  · unfold textL
    rw [if_neg h]
    simp
end Go.Proofs.YtccmchmemafjdaaGreatDoor
set_option linter.unusedSimpArgs false
set_option linter.unusedVariables false
namespace Go.Proofs.YtccmchmemafjdaaGreatDoor

/-- Who holds what: a sale, an Id. -/
def holdsL (l : List Lst) : List (Sal × Int) := l.flatMap (fun x => x.sales.map (fun s => (s, x.id)))
def idsL (l : List Lst) : List Int := l.map (fun x => x.id)
theorem mem_holds {l : List Lst} {s : Sal} {a : Int} : (s, a) ∈ holdsL l ↔ ∃ x ∈ l, x.id = a ∧ s ∈ x.sales := by
  unfold holdsL
  rw [List.mem_flatMap]
  constructor
  · rintro ⟨x, hx, h⟩
    obtain ⟨t, ht, e⟩ := List.mem_map.1 h
    injection e with e1 e2
    subst e1
    exact ⟨x, hx, e2, ht⟩
  · rintro ⟨x, hx, rfl, h⟩
    exact ⟨x, hx, List.mem_map.2 ⟨s, h, rfl⟩⟩
def Edge (H : List (Sal × Int)) (P : List (Int × Int)) (a b : Int) : Prop := (∃ s, (s, a) ∈ H ∧ (s, b) ∈ H) ∨ (a, b) ∈ P
/-- Joined, through others too. -/
inductive Conn (H : List (Sal × Int)) (P : List (Int × Int)) : Int → Int → Prop where
  | refl (a : Int) : Conn H P a a
  | edge {a b : Int} : Edge H P a b → Conn H P a b
  | symm {a b : Int} : Conn H P a b → Conn H P b a
  | trans {a b c : Int} : Conn H P a b → Conn H P b c → Conn H P a c
theorem Conn.mono {H H' : List (Sal × Int)} {P P' : List (Int × Int)} (hH : ∀ x ∈ H, x ∈ H') (hP : ∀ x ∈ P, x ∈ P') {a b : Int} (h : Conn H P a b) : Conn H' P' a b := by
  induction h with
  | refl a => exact .refl a
  | edge h =>
    refine .edge ?_
    rcases h with ⟨s, h1, h2⟩ | h
    · exact .inl ⟨s, hH _ h1, hH _ h2⟩
    · exact .inr (hP _ h)
  | symm _ ih => exact ih.symm
  | trans _ _ ih1 ih2 => exact ih1.trans ih2
/-- All that is held or paired is among the Ids; Ids are positive. -/
structure InIds (ids : List Int) (H : List (Sal × Int)) (P : List (Int × Int)) : Prop where
  pos : ∀ a ∈ ids, 1 ≤ a
  hold : ∀ x ∈ H, x.2 ∈ ids
  pair : ∀ x ∈ P, x.1 ∈ ids ∧ x.2 ∈ ids
theorem InIds.edge {ids : List Int} {H : List (Sal × Int)} {P : List (Int × Int)} (h : InIds ids H P) {a b : Int} (he : Edge H P a b) : a ∈ ids ∧ b ∈ ids := by
  rcases he with ⟨s, h1, h2⟩ | h1
  · exact ⟨h.hold _ h1, h.hold _ h2⟩
  · exact h.pair _ h1
/-- g names each Id by the least Id to which it is joined. -/
structure Nm (ids : List Int) (H : List (Sal × Int)) (P : List (Int × Int)) (g : Int → Int) : Prop where
  mem : ∀ a ∈ ids, g a ∈ ids
  le : ∀ a ∈ ids, g a ≤ a
  conn : ∀ a ∈ ids, Conn H P a (g a)
  same : ∀ a b, Edge H P a b → g a = g b
theorem Nm.of_conn {ids : List Int} {H : List (Sal × Int)} {P : List (Int × Int)} {g : Int → Int} (h : Nm ids H P g) {a b : Int} (hc : Conn H P a b) : g a = g b := by
  induction hc with
  | refl a => rfl
  | edge he => exact h.same _ _ he
  | symm _ ih => exact ih.symm
  | trans _ _ ih1 ih2 => exact ih1.trans ih2
theorem Nm.idem {ids : List Int} {H : List (Sal × Int)} {P : List (Int × Int)} {g : Int → Int} (h : Nm ids H P g) {a : Int} (ha : a ∈ ids) : g (g a) = g a := (h.of_conn (h.conn a ha)).symm
theorem Nm.conn_iff {ids : List Int} {H : List (Sal × Int)} {P : List (Int × Int)} {g : Int → Int} (h : Nm ids H P g) {a b : Int} (ha : a ∈ ids) (hb : b ∈ ids) : Conn H P a b ↔ g a = g b :=
  ⟨h.of_conn, fun e => (h.conn a ha).trans (e ▸ (h.conn b hb).symm)⟩
theorem Nm.unique {ids : List Int} {H : List (Sal × Int)} {P : List (Int × Int)} {g g' : Int → Int} (h : Nm ids H P g) (h' : Nm ids H P g') : ∀ a ∈ ids, g a = g' a := by
  intro a ha
  have h1 : g (g' a) = g a := (h.of_conn (h'.conn a ha)).symm
  have h2 : g' (g a) = g' a := (h'.of_conn (h.conn a ha)).symm
  have h3 := h.le _ (h'.mem a ha)
  have h4 := h'.le _ (h.mem a ha)
  omega
theorem Conn.imp {H H' : List (Sal × Int)} {P P' : List (Int × Int)} (he : ∀ a b, Edge H P a b → Edge H' P' a b) {a b : Int} (h : Conn H P a b) : Conn H' P' a b := by
  induction h with
  | refl a => exact .refl a
  | edge h => exact .edge (he _ _ h)
  | symm _ ih => exact ih.symm
  | trans _ _ ih1 ih2 => exact ih1.trans ih2
theorem Nm.congr {ids : List Int} {H H' : List (Sal × Int)} {P P' : List (Int × Int)} {g : Int → Int} (h : Nm ids H P g) (he : ∀ a b, Edge H' P' a b ↔ Edge H P a b) : Nm ids H' P' g :=
  ⟨h.mem, h.le, fun a ha => (h.conn a ha).imp (fun a b h1 => (he a b).2 h1), fun a b h1 => h.same a b ((he a b).1 h1)⟩

/-! ### Each points to a lesser one. -/
def rootN (f : Int → Int) : Nat → Int → Int
  | 0, a => a
  | n + 1, a => if f a = a then a else rootN f n (f a)
def rootF (f : Int → Int) (a : Int) : Int := rootN f a.toNat a
inductive Root (f : Int → Int) : Int → Int → Prop where
  | fix {r : Int} : f r = r → Root f r r
  | step {a r : Int} : f a ≠ a → Root f (f a) r → Root f a r
theorem Root.isfix {f : Int → Int} {a r : Int} (h : Root f a r) : f r = r := by
  induction h with
  | fix h => exact h
  | step _ _ ih => exact ih
theorem Root.unique {f : Int → Int} {a r r' : Int} (h : Root f a r) (h' : Root f a r') : r = r' := by
  induction h with
  | fix h =>
    cases h' with
    | fix _ => rfl
    | step h1 _ => exact absurd h h1
  | step h1 _ ih =>
    cases h' with
    | fix h2 => exact absurd h2 h1
    | step _ h2 => exact ih h2
/-- f leads down among the Ids. -/
structure Down (ids : List Int) (f : Int → Int) : Prop where
  pos : ∀ a ∈ ids, 1 ≤ a
  mem : ∀ a ∈ ids, f a ∈ ids
  le : ∀ a ∈ ids, f a ≤ a
theorem Down.rootN_ {ids : List Int} {f : Int → Int} (h : Down ids f) : ∀ (n : Nat) (a : Int), a ∈ ids → a.toNat ≤ n → Root f a (rootN f n a)
  | 0, a, ha, hn => by have := h.pos a ha; omega
  | n + 1, a, ha, hn => by
    unfold rootN
    by_cases he : f a = a
    · rw [if_pos he]; exact .fix he
    · rw [if_neg he]
      have h1 := h.le a ha
      have h2 := h.pos a ha
      have h3 := h.pos _ (h.mem a ha)
      exact .step he (h.rootN_ n (f a) (h.mem a ha) (by omega))
theorem Down.root {ids : List Int} {f : Int → Int} (h : Down ids f) {a : Int} (ha : a ∈ ids) : Root f a (rootF f a) := h.rootN_ _ a ha (Nat.le_refl _)
theorem Down.root_mem {ids : List Int} {f : Int → Int} (h : Down ids f) {a r : Int} (hr : Root f a r) : a ∈ ids → r ∈ ids ∧ r ≤ a := by
  induction hr with
  | fix _ => exact fun ha => ⟨ha, Int.le_refl _⟩
  | step _ _ ih => exact fun ha => ⟨(ih (h.mem _ ha)).1, Int.le_trans (ih (h.mem _ ha)).2 (h.le _ ha)⟩
theorem Down.step {ids : List Int} {f : Int → Int} (h : Down ids f) {a : Int} (ha : a ∈ ids) : rootF f (f a) = rootF f a := by
  have h1 := h.root ha
  have h2 := h.root (h.mem a ha)
  obtain ⟨r, hr⟩ : ∃ r, r = rootF f a := ⟨_, rfl⟩
  rw [← hr] at h1 ⊢
  cases h1 with
  | fix h3 => rw [h3, ← hr]
  | step h3 h4 => exact h2.unique h4
theorem Down.root_fix {ids : List Int} {f : Int → Int} (h : Down ids f) {a : Int} (ha : f a = a) (hm : a ∈ ids) : rootF f a = a := (h.root hm).unique (.fix ha)
def setF (f : Int → Int) (k v : Int) : Int → Int := fun x => if x = k then v else f x
/-- Two are joined: the greater root points to the lesser one. -/
def joinF (f : Int → Int) (a b : Int) : Int → Int := setF f (max (rootF f a) (rootF f b)) (min (rootF f a) (rootF f b))
theorem root_join {f : Int → Int} {M m : Int} (hM : f M = M) (hm : f m = m) {x r : Int} (h : Root f x r) : Root (setF f M m) x (if r = M then m else r) := by
  induction h with
  | @fix r hr =>
    by_cases e : r = M
    · subst e
      rw [if_pos rfl]
      by_cases e2 : m = r
      · subst e2
        exact .fix (by unfold setF; rw [if_pos rfl])
      · have h1 : setF f r m r = m := by unfold setF; rw [if_pos rfl]
        refine .step (by rw [h1]; exact e2) ?_
        rw [h1]
        exact .fix (by unfold setF; rw [if_neg e2]; exact hm)
    · rw [if_neg e]
      exact .fix (by unfold setF; rw [if_neg e]; exact hr)
  | @step a r h1 _ ih =>
    have ha : a ≠ M := fun e => h1 (by rw [e]; exact hM)
    have h2 : setF f M m a = f a := by unfold setF; rw [if_neg ha]
    exact .step (by rw [h2]; exact h1) (by rw [h2]; exact ih)
theorem Down.join {ids : List Int} {f : Int → Int} (h : Down ids f) {a b : Int} (ha : a ∈ ids) (hb : b ∈ ids) :
    Down ids (joinF f a b) ∧ ∀ x ∈ ids, rootF (joinF f a b) x = if rootF f x = max (rootF f a) (rootF f b) then min (rootF f a) (rootF f b) else rootF f x := by
  have ra := h.root ha
  have rb := h.root hb
  have ma := (h.root_mem ra ha).1
  have mb := (h.root_mem rb hb).1
  have hM : f (max (rootF f a) (rootF f b)) = max (rootF f a) (rootF f b) := by
    rcases Int.le_total (rootF f a) (rootF f b) with h1 | h1
    · rw [Int.max_eq_right h1]; exact rb.isfix
    · rw [Int.max_eq_left h1]; exact ra.isfix
  have hm : f (min (rootF f a) (rootF f b)) = min (rootF f a) (rootF f b) := by
    rcases Int.le_total (rootF f a) (rootF f b) with h1 | h1
    · rw [Int.min_eq_left h1]; exact ra.isfix
    · rw [Int.min_eq_right h1]; exact rb.isfix
  have mm : min (rootF f a) (rootF f b) ∈ ids := by
    rcases Int.le_total (rootF f a) (rootF f b) with h1 | h1
    · rw [Int.min_eq_left h1]; exact ma
    · rw [Int.min_eq_right h1]; exact mb
  have hd : Down ids (joinF f a b) := by
    refine ⟨h.pos, fun x hx => ?_, fun x hx => ?_⟩
    · unfold joinF setF
      split
      · exact mm
      · exact h.mem x hx
    · unfold joinF setF
      split
      · omega
      · exact h.le x hx
  exact ⟨hd, fun x hx => (hd.root hx).unique (root_join hM hm (h.root hx))⟩
/-- The state over what is joined so far. -/
structure UF (ids : List Int) (H : List (Sal × Int)) (P : List (Int × Int)) (f : Int → Int) : Prop where
  down : Down ids f
  conn : ∀ a ∈ ids, Conn H P a (f a)
  same : ∀ a b, Edge H P a b → rootF f a = rootF f b
theorem UF.root_conn {ids : List Int} {H : List (Sal × Int)} {P : List (Int × Int)} {f : Int → Int} (h : UF ids H P f) {a r : Int} (hr : Root f a r) : a ∈ ids → Conn H P a r := by
  induction hr with
  | fix _ => exact fun _ => .refl _
  | step _ _ ih => exact fun ha => (h.conn _ ha).trans (ih (h.down.mem _ ha))
theorem UF.nm {ids : List Int} {H : List (Sal × Int)} {P : List (Int × Int)} {f : Int → Int} (h : UF ids H P f) : Nm ids H P (rootF f) :=
  ⟨fun a ha => (h.down.root_mem (h.down.root ha) ha).1, fun a ha => (h.down.root_mem (h.down.root ha) ha).2, fun a ha => h.root_conn (h.down.root ha) ha, h.same⟩
theorem UF.start {ids : List Int} (hp : ∀ a ∈ ids, 1 ≤ a) : UF ids [] [] (fun a => a) :=
  ⟨⟨hp, fun a ha => ha, fun a _ => Int.le_refl _⟩, fun a _ => .refl a, fun a b h => by
    rcases h with ⟨s, h1, _⟩ | h1
    · cases h1
    · cases h1⟩
theorem UF.join {ids : List Int} {H H' : List (Sal × Int)} {P P' : List (Int × Int)} {f : Int → Int} (h : UF ids H P f) (hI : InIds ids H' P') {a b : Int} (ha : a ∈ ids) (hb : b ∈ ids)
    (hH : ∀ x ∈ H, x ∈ H') (hP : ∀ x ∈ P, x ∈ P') (hc : Conn H' P' a b)
    (he : ∀ u v, Edge H' P' u v → rootF f u = rootF f v ∨ ((rootF f u = rootF f a ∨ rootF f u = rootF f b) ∧ (rootF f v = rootF f a ∨ rootF f v = rootF f b))) : UF ids H' P' (joinF f a b) := by
  obtain ⟨hd, hr⟩ := h.down.join ha hb
  have ca := (h.root_conn (h.down.root ha) ha).mono hH hP
  have cb := (h.root_conn (h.down.root hb) hb).mono hH hP
  refine ⟨hd, fun x hx => ?_, fun u v huv => ?_⟩
  · unfold joinF setF
    by_cases e : x = max (rootF f a) (rootF f b)
    · rw [if_pos e, e]
      have hab : Conn H' P' (rootF f a) (rootF f b) := ca.symm.trans (hc.trans cb)
      rcases Int.le_total (rootF f a) (rootF f b) with h1 | h1
      · rw [Int.max_eq_right h1, Int.min_eq_left h1]; exact hab.symm
      · rw [Int.max_eq_left h1, Int.min_eq_right h1]; exact hab
    · rw [if_neg e]; exact (h.conn x hx).mono hH hP
  · obtain ⟨hu, hv⟩ := hI.edge huv
    rw [hr u hu, hr v hv]
    rcases he u v huv with h1 | ⟨h1, h2⟩
    · rw [h1]
    · have k : ∀ z, (z = rootF f a ∨ z = rootF f b) → (if z = max (rootF f a) (rootF f b) then min (rootF f a) (rootF f b) else z) = min (rootF f a) (rootF f b) := by
        intro z hz
        split
        · rfl
        · rename_i hne
          rcases Int.le_total (rootF f a) (rootF f b) with h3 | h3
          · rw [Int.max_eq_right h3] at hne
            rw [Int.min_eq_left h3]
            exact hz.resolve_right hne
          · rw [Int.max_eq_left h3] at hne
            rw [Int.min_eq_right h3]
            exact hz.resolve_left hne
      rw [k _ h1, k _ h2]
theorem UF.same_state {ids : List Int} {H H' : List (Sal × Int)} {P P' : List (Int × Int)} {f : Int → Int} (h : UF ids H P f) (hH : ∀ x ∈ H, x ∈ H') (hP : ∀ x ∈ P, x ∈ P')
    (he : ∀ u v, Edge H' P' u v → u = v ∨ Edge H P u v) : UF ids H' P' f :=
  ⟨h.down, fun a ha => (h.conn a ha).mono hH hP, fun u v huv => by
    rcases he u v huv with h1 | h1
    · rw [h1]
    · exact h.same u v h1⟩
/-- Who held the sale last. -/
def lastH (H : List (Sal × Int)) (s : Sal) : Option Int := (H.reverse.find? (fun p => p.1 == s)).map Prod.snd
theorem lastH_some {H : List (Sal × Int)} {s : Sal} {y : Int} (h : lastH H s = some y) : (s, y) ∈ H := by
  unfold lastH at h
  cases hf : H.reverse.find? (fun p => p.1 == s) with
  | none => rw [hf] at h; cases h
  | some p =>
    rw [hf] at h
    have h1 := List.mem_of_find?_eq_some hf
    have h2 : p.1 = s := by simpa using List.find?_some hf
    have h3 : p.2 = y := by simpa using h
    rw [← h2, ← h3]
    exact List.mem_reverse.1 h1
theorem lastH_none {H : List (Sal × Int)} {s : Sal} (h : lastH H s = none) (y : Int) : (s, y) ∉ H := by
  unfold lastH at h
  intro hm
  have : H.reverse.find? (fun p => p.1 == s) = none := by
    cases hf : H.reverse.find? (fun p => p.1 == s) with
    | none => rfl
    | some p => rw [hf] at h; cases h
  have h2 := (List.find?_eq_none.1 this) (s, y) (List.mem_reverse.2 hm)
  simp at h2
theorem lastH_snoc (H : List (Sal × Int)) (s t : Sal) (x : Int) : lastH (H ++ [(s, x)]) t = if t = s then some x else lastH H t := by
  unfold lastH
  rw [List.reverse_append, List.reverse_singleton, List.singleton_append, List.find?_cons]
  by_cases h : t = s
  · subst h; simp
  · have : ((s, x).1 == t) = false := by
      rw [beq_eq_false_iff_ne]; exact fun e => h e.symm
    rw [this, if_neg h]
def stepH (st : (Int → Int) × List (Sal × Int)) (p : Sal × Int) : (Int → Int) × List (Sal × Int) :=
  ((match lastH st.2 p.1 with | some y => joinF st.1 y p.2 | none => st.1), st.2 ++ [p])
/-- The program's map of roots behind what is held. -/
def ufH (H : List (Sal × Int)) : Int → Int := (H.foldl stepH (fun a => a, [])).1
theorem stepH_snd : ∀ (H : List (Sal × Int)) (st : (Int → Int) × List (Sal × Int)), (H.foldl stepH st).2 = st.2 ++ H
  | [], st => by simp
  | p :: H, st => by rw [List.foldl_cons, stepH_snd H]; simp [stepH]
theorem ufH_snoc (H : List (Sal × Int)) (s : Sal) (x : Int) : ufH (H ++ [(s, x)]) = match lastH H s with | some y => joinF (ufH H) y x | none => ufH H := by
  unfold ufH
  rw [List.foldl_append, List.foldl_cons, List.foldl_nil]
  have h := stepH_snd H (fun a => a, [])
  rw [List.nil_append] at h
  have key : ∀ st : (Int → Int) × List (Sal × Int), (stepH st (s, x)).1 = match lastH st.2 s with | some y => joinF st.1 y x | none => st.1 := fun st => rfl
  rw [key, h]
theorem InIds.less {ids : List Int} {H H' : List (Sal × Int)} {P P' : List (Int × Int)} (h : InIds ids H P) (hH : ∀ x ∈ H', x ∈ H) (hP : ∀ x ∈ P', x ∈ P) : InIds ids H' P' :=
  ⟨h.pos, fun x hx => h.hold x (hH x hx), fun x hx => h.pair x (hP x hx)⟩
theorem snoc_ind {α : Type} {p : List α → Prop} (h0 : p []) (h1 : ∀ l x, p l → p (l ++ [x])) : ∀ l, p l := by
  intro l
  rw [← List.reverse_reverse l]
  induction l.reverse with
  | nil => exact h0
  | cons x r ih => rw [List.reverse_cons]; exact h1 _ _ ih
theorem ufH_uf {ids : List Int} : ∀ (H : List (Sal × Int)), InIds ids H [] → UF ids H [] (ufH H) := by
  refine snoc_ind (fun h => UF.start h.pos) fun H p ih hI => ?_
  obtain ⟨s, x⟩ := p
  have hI0 : InIds ids H [] := hI.less (fun x hx => List.mem_append_left _ hx) (fun x hx => hx)
  have hx : x ∈ ids := hI.hold (s, x) (by simp)
  have h := ih hI0
  rw [ufH_snoc]
  cases hl : lastH H s with
  | some y =>
    have hy := lastH_some hl
    simp only
    refine h.join hI (hI0.hold _ hy) hx (fun x hx => List.mem_append_left _ hx) (fun x hx => hx) (.edge (.inl ⟨s, List.mem_append_left _ hy, by simp⟩)) ?_
    rintro u v (⟨t, h1, h2⟩ | h1)
    · rcases List.mem_append.1 h1 with h3 | h3
      · rcases List.mem_append.1 h2 with h4 | h4
        · exact .inl (h.same u v (.inl ⟨t, h3, h4⟩))
        · rw [List.mem_singleton] at h4
          injection h4 with e1 e2
          subst e1
          subst e2
          exact .inr ⟨.inl (h.same u y (.inl ⟨t, h3, hy⟩)), .inr rfl⟩
      · rw [List.mem_singleton] at h3
        injection h3 with e1 e2
        subst e1
        subst e2
        rcases List.mem_append.1 h2 with h4 | h4
        · exact .inr ⟨.inr rfl, .inl (h.same v y (.inl ⟨t, h4, hy⟩))⟩
        · rw [List.mem_singleton] at h4
          injection h4 with e1 e2
          subst e2
          exact .inl rfl
    · cases h1
  | none =>
    simp only
    refine h.same_state (fun x hx => List.mem_append_left _ hx) (fun x hx => hx) ?_
    rintro u v (⟨t, h1, h2⟩ | h1)
    · rcases List.mem_append.1 h1 with h3 | h3
      · rcases List.mem_append.1 h2 with h4 | h4
        · exact .inr (.inl ⟨t, h3, h4⟩)
        · rw [List.mem_singleton] at h4
          injection h4 with e1 e2
          subst e1
          exact absurd h3 (lastH_none hl u)
      · rw [List.mem_singleton] at h3
        injection h3 with e1 e2
        subst e1
        rcases List.mem_append.1 h2 with h4 | h4
        · exact absurd h4 (lastH_none hl v)
        · rw [List.mem_singleton] at h4
          injection h4 with e3 e4
          exact .inl (e2.trans e4.symm)
    · cases h1
/-- .. and behind the pairs. -/
def ufP (f : Int → Int) (P : List (Int × Int)) : Int → Int := P.foldl (fun f p => joinF f p.1 p.2) f
theorem ufP_snoc (f : Int → Int) (P : List (Int × Int)) (p : Int × Int) : ufP f (P ++ [p]) = joinF (ufP f P) p.1 p.2 := by unfold ufP; rw [List.foldl_append]; rfl
theorem ufP_uf {ids : List Int} {H : List (Sal × Int)} : ∀ (P : List (Int × Int)), InIds ids H P → UF ids H P (ufP (ufH H) P) := by
  refine snoc_ind (fun h => ufH_uf H h) fun P p ih hI => ?_
  obtain ⟨a, b⟩ := p
  have hI0 : InIds ids H P := hI.less (fun x hx => hx) (fun x hx => List.mem_append_left _ hx)
  have h := ih hI0
  have hab := hI.pair (a, b) (by simp)
  rw [ufP_snoc]
  refine h.join hI hab.1 hab.2 (fun x hx => hx) (fun x hx => List.mem_append_left _ hx) (.edge (.inr (by simp))) ?_
  rintro u v (h1 | h1)
  · exact .inl (h.same u v (.inl h1))
  · rcases List.mem_append.1 h1 with h1 | h1
    · exact .inl (h.same u v (.inr h1))
    · rw [List.mem_singleton] at h1
      injection h1 with e1 e2
      subst e1
      subst e2
      exact .inr ⟨.inl rfl, .inr rfl⟩
/-- The name of each Id, as the program finds it. -/
def nmU (l : List Lst) (P : List (Int × Int)) : Int → Int := rootF (ufP (ufH (holdsL l)) P)
theorem nmU_nm {l : List Lst} {P : List (Int × Int)} (h : InIds (idsL l) (holdsL l) P) : Nm (idsL l) (holdsL l) P (nmU l P) := (ufP_uf P h).nm
end Go.Proofs.YtccmchmemafjdaaGreatDoor
set_option linter.unusedSimpArgs false
set_option linter.unusedVariables false
namespace Go.Proofs.YtccmchmemafjdaaGreatDoor

theorem countP_lt {α : Type} {p q : α → Bool} : ∀ {l : List α}, (∀ x ∈ l, p x = true → q x = true) → (∃ x ∈ l, p x = false ∧ q x = true) → l.countP p < l.countP q
  | [], _, ⟨x, hx, _⟩ => by cases hx
  | y :: l, h, ⟨x, hx, h1, h2⟩ => by
    have hle : l.countP p ≤ l.countP q := List.countP_mono_left (fun z hz => h z (List.mem_cons_of_mem _ hz))
    rw [List.countP_cons, List.countP_cons]
    rcases List.mem_cons.1 hx with rfl | hx
    · rw [h1, h2]; simp; omega
    · have ih := countP_lt (fun z hz => h z (List.mem_cons_of_mem _ hz)) ⟨x, hx, h1, h2⟩
      have hy := h y (by simp)
      cases hp : p y
      · cases hq : q y <;> simp <;> omega
      · rw [hy hp]; simp; omega
def shareL (x y : Lst) : Prop := ∃ s, s ∈ x.sales ∧ s ∈ y.sales
/-- What holds of the names at every moment. -/
structure RI (g : Int → Int) (l : List Lst) (out : List Int) : Prop where
  len : out.length = l.length
  each : ∀ (j : Nat) (x : Lst) (o : Int), l[j]? = some x → out[j]? = some o → o ∈ idsL l ∧ g o = g x.id
  root : ∀ (j : Nat) (x : Lst), l[j]? = some x → g x.id = x.id → out[j]? = some x.id
/-- The name at a place is the last one. -/
def goodB (g : Int → Int) (l : List Lst) (out : List Int) (j : Nat) : Bool := match l[j]?, out[j]? with
  | some x, some o => decide (o = g x.id)
  | _, _ => false
theorem goodB_iff {g : Int → Int} {l : List Lst} {out : List Int} {j : Nat} : goodB g l out j = true ↔ ∃ x, l[j]? = some x ∧ out[j]? = some (g x.id) := by
  unfold goodB
  cases h1 : l[j]? with
  | none => simp
  | some x =>
    cases h2 : out[j]? with
    | none => simp
    | some o => simp
theorem RI.at_ {g : Int → Int} {l : List Lst} {out : List Int} (h : RI g l out) {j : Nat} {x : Lst} (hx : l[j]? = some x) : ∃ o, out[j]? = some o ∧ o ∈ idsL l ∧ g o = g x.id := by
  have hj := (List.getElem?_eq_some_iff.1 hx).1
  have ho : out[j]? = some (out[j]'(by rw [h.len]; exact hj)) := List.getElem?_eq_getElem _
  exact ⟨_, ho, h.each j x _ hx ho⟩
theorem RI.start {g : Int → Int} {l : List Lst} : RI g l (idsL l) :=
  ⟨by simp [idsL], fun j x o hx ho => by
    unfold idsL at ho ⊢
    rw [List.getElem?_map, hx] at ho
    have : x.id = o := by simpa using ho
    rw [← this]
    exact ⟨List.mem_map.2 ⟨x, List.mem_of_getElem? hx, rfl⟩, rfl⟩, fun j x hx _ => by
    unfold idsL
    rw [List.getElem?_map, hx]
    rfl⟩
/-- One name is set to the lesser of two of one group. -/
theorem RI.op {g : Int → Int} {l : List Lst} {out : List Int} (hle : ∀ a ∈ idsL l, g a ≤ a) (h : RI g l out) {i k : Nat} {x y : Lst} {a b : Int} (hx : l[i]? = some x) (hy : l[k]? = some y) (hg : g x.id = g y.id)
    (ha : out[i]? = some a) (hb : out[k]? = some b) :
    RI g l (out.set i (min a b)) ∧ (∀ j, goodB g l out j = true → goodB g l (out.set i (min a b)) j = true) ∧ (goodB g l out k = true → goodB g l (out.set i (min a b)) i = true) := by
  obtain ⟨ma, ga⟩ := h.each i x a hx ha
  obtain ⟨mb, gb⟩ := h.each k y b hy hb
  have la := hle a ma
  have lb := hle b mb
  have hi : i < out.length := (List.getElem?_eq_some_iff.1 ha).1
  have hset : ∀ j, (out.set i (min a b))[j]? = if i = j then some (min a b) else out[j]? := fun j => by
    rw [List.getElem?_set]
    split
    · rename_i e; subst e; simp [hi]
    · rfl
  refine ⟨⟨by rw [List.length_set, h.len], fun j z o hz ho => ?_, fun j z hz hgz => ?_⟩, fun j hj => ?_, fun hk => ?_⟩
  · rw [hset] at ho
    split at ho
    · rename_i e
      subst e
      rw [hx] at hz
      injection hz with hz
      subst hz
      injection ho with ho
      rcases Int.le_total a b with hab | hab
      · rw [Int.min_eq_left hab] at ho; subst ho; exact ⟨ma, ga⟩
      · rw [Int.min_eq_right hab] at ho; subst ho; exact ⟨mb, gb.trans hg.symm⟩
    · exact h.each j z o hz ho
  · rw [hset]
    split
    · rename_i e
      subst e
      rw [hx] at hz
      injection hz with hz
      subst hz
      have h1 := h.root i x hx hgz
      rw [ha] at h1
      injection h1 with h1
      congr 1
      omega
    · exact h.root j z hz hgz
  · obtain ⟨z, hz, hj⟩ := goodB_iff.1 hj
    refine goodB_iff.2 ⟨z, hz, ?_⟩
    rw [hset]
    split
    · rename_i e
      subst e
      rw [hx] at hz
      injection hz with hz
      subst hz
      rw [ha] at hj
      injection hj with hj
      congr 1
      omega
    · exact hj
  · obtain ⟨z, hz, hj⟩ := goodB_iff.1 hk
    rw [hy] at hz
    injection hz with hz
    subst hz
    rw [hb] at hj
    injection hj with hj
    refine goodB_iff.2 ⟨x, hx, ?_⟩
    rw [hset, if_pos rfl]
    congr 1
    omega
/-- Within a round: what was last at its begin stays so, and leads on over each link that was seen. -/
structure RW (g : Int → Int) (l : List Lst) (P : List (Int × Int)) (S0 : Nat → Bool) (i k q : Nat) (out : List Int) : Prop where
  ri : RI g l out
  keep : ∀ j, S0 j = true → goodB g l out j = true
  seen : ∀ (i' k' : Nat) (x y : Lst), (i' < i ∨ (i' = i ∧ k' < k)) → l[i']? = some x → l[k']? = some y → shareL x y → S0 k' = true → goodB g l out i' = true
  pairs : ∀ (q' : Nat) (a b : Int) (ia ib : Nat) (x y : Lst), q' < q → P[q']? = some (a, b) → l[ia]? = some x → l[ib]? = some y → x.id = a → y.id = b → (S0 ia = true ∨ S0 ib = true) → goodB g l out ia = true ∧ goodB g l out ib = true
theorem RW.start {g : Int → Int} {l : List Lst} {P : List (Int × Int)} {out : List Int} (h : RI g l out) : RW g l P (goodB g l out) 0 0 0 out :=
  ⟨h, fun j hj => hj, fun i' k' x y h1 => by omega, fun q' a b ia ib x y h1 => by omega⟩
theorem RW.next {g : Int → Int} {l : List Lst} {P : List (Int × Int)} {S0 : Nat → Bool} {i q : Nat} {out : List Int} (h : RW g l P S0 i l.length q out) : RW g l P S0 (i + 1) 0 q out :=
  ⟨h.ri, h.keep, fun i' k' x y h1 hx hy hs h0 => h.seen i' k' x y (by
    have := (List.getElem?_eq_some_iff.1 hy).1
    omega) hx hy hs h0, h.pairs⟩
theorem RW.skip {g : Int → Int} {l : List Lst} {P : List (Int × Int)} {S0 : Nat → Bool} {i k q : Nat} {out : List Int} (h : RW g l P S0 i k q out) {x y : Lst} (hx : l[i]? = some x) (hy : l[k]? = some y) (hn : ¬ shareL x y) : RW g l P S0 i (k + 1) q out :=
  ⟨h.ri, h.keep, fun i' k' x' y' h1 hx' hy' hs h0 => by
    by_cases h2 : i' < i ∨ (i' = i ∧ k' < k)
    · exact h.seen i' k' x' y' h2 hx' hy' hs h0
    · obtain ⟨rfl, rfl⟩ : i' = i ∧ k' = k := by omega
      rw [hx] at hx'
      rw [hy] at hy'
      injection hx' with hx'
      injection hy' with hy'
      subst hx'
      subst hy'
      exact absurd hs hn, h.pairs⟩
theorem RW.set_ {g : Int → Int} {l : List Lst} {P : List (Int × Int)} {S0 : Nat → Bool} {i k q : Nat} {out : List Int} (hle : ∀ a ∈ idsL l, g a ≤ a) (h : RW g l P S0 i k q out) {x y : Lst} {a b : Int} (hx : l[i]? = some x) (hy : l[k]? = some y)
    (hg : g x.id = g y.id) (ha : out[i]? = some a) (hb : out[k]? = some b) : RW g l P S0 i (k + 1) q (out.set i (min a b)) := by
  obtain ⟨h1, h2, h3⟩ := h.ri.op hle hx hy hg ha hb
  refine ⟨h1, fun j hj => h2 j (h.keep j hj), fun i' k' x' y' h4 hx' hy' hs h0 => ?_, fun q' a' b' ia ib x' y' h4 h5 h6 h7 h8 h9 h0 => ?_⟩
  · by_cases h5 : i' < i ∨ (i' = i ∧ k' < k)
    · exact h2 _ (h.seen i' k' x' y' h5 hx' hy' hs h0)
    · obtain ⟨rfl, rfl⟩ : i' = i ∧ k' = k := by omega
      exact h3 (h.keep _ h0)
  · obtain ⟨k1, k2⟩ := h.pairs q' a' b' ia ib x' y' h4 h5 h6 h7 h8 h9 h0
    exact ⟨h2 _ k1, h2 _ k2⟩
/-- A pair: both have the lesser of their names. -/
theorem RW.pair {g : Int → Int} {l : List Lst} {P : List (Int × Int)} {S0 : Nat → Bool} {i k q : Nat} {out : List Int} (hle : ∀ a ∈ idsL l, g a ≤ a) (hnd : (idsL l).Nodup) (h : RW g l P S0 i k q out) {ia ib : Nat} {x y : Lst} {a b : Int}
    (hP : P[q]? = some (x.id, y.id)) (hx : l[ia]? = some x) (hy : l[ib]? = some y)
    (hg : g x.id = g y.id) (ha : out[ia]? = some a) (hb : out[ib]? = some b) : RW g l P S0 i k (q + 1) ((out.set ia (min a b)).set ib (min a b)) := by
  obtain ⟨h1, h2, h3⟩ := h.ri.op hle hx hy hg ha hb
  have hla : ia < out.length := (List.getElem?_eq_some_iff.1 ha).1
  have ha1 : (out.set ia (min a b))[ia]? = some (min a b) := by rw [List.getElem?_set]; simp [hla]
  obtain ⟨b1, hb1, hmin⟩ : ∃ b1, (out.set ia (min a b))[ib]? = some b1 ∧ min b1 (min a b) = min a b := by
    by_cases e : ia = ib
    · subst e
      exact ⟨_, ha1, by omega⟩
    · refine ⟨b, ?_, by omega⟩
      rw [List.getElem?_set]
      simp [e, hb]
  obtain ⟨k1, k2, k3⟩ := h1.op hle hy hx hg.symm hb1 ha1
  rw [hmin] at k1 k2 k3
  have hidx : ∀ (j : Nat) (z : Lst), l[j]? = some z → ∀ (j' : Nat) (z' : Lst), l[j']? = some z' → z.id = z'.id → j = j' := by
    intro j z hj j' z' hj' he
    have e1 : (idsL l)[j]? = some z.id := by unfold idsL; rw [List.getElem?_map, hj]; rfl
    have e2 : (idsL l)[j']? = some z.id := by unfold idsL; rw [List.getElem?_map, hj', he]; rfl
    have hl1 := (List.getElem?_eq_some_iff.1 e1).1
    exact (List.getElem?_inj hl1 hnd).1 (e1.trans e2.symm)
  refine ⟨k1, fun j hj => k2 j (h2 j (h.keep j hj)), fun i' k' x' y' h4 hx' hy' hs h0 => k2 _ (h2 _ (h.seen i' k' x' y' h4 hx' hy' hs h0)), fun q' a' b' ja jb x' y' h4 h5 h6 h7 h8 h9 h0 => ?_⟩
  by_cases h10 : q' < q
  · obtain ⟨m1, m2⟩ := h.pairs q' a' b' ja jb x' y' h10 h5 h6 h7 h8 h9 h0
    exact ⟨k2 _ (h2 _ m1), k2 _ (h2 _ m2)⟩
  · obtain rfl : q' = q := by omega
    rw [hP] at h5
    injection h5 with h5
    injection h5 with e1 e2
    obtain rfl := hidx ja x' h6 ia x hx (by rw [h8, e1])
    obtain rfl := hidx jb y' h7 ib y hy (by rw [h9, e2])
    rcases h0 with h0 | h0
    · have m1 := h2 _ (h.keep _ h0)
      exact ⟨k2 _ m1, k3 m1⟩
    · have m1 := h3 (h.keep _ h0)
      exact ⟨k2 _ m1, k3 m1⟩
def cntG (g : Int → Int) (l : List Lst) (out : List Int) : Nat := (List.range l.length).countP (goodB g l out)
/-- A path that ends where it is good begins there, or has a link from what is not good to what is. -/
theorem cross {H : List (Sal × Int)} {P : List (Int × Int)} {G : Int → Prop} {a b : Int} (h : Conn H P a b) : (G a ↔ G b) ∨ ∃ u v, (Edge H P u v ∨ Edge H P v u) ∧ ¬ G u ∧ G v := by
  induction h with
  | refl a => exact .inl Iff.rfl
  | @edge a b h =>
    by_cases ha : G a
    · by_cases hb : G b
      · exact .inl ⟨fun _ => hb, fun _ => ha⟩
      · exact .inr ⟨b, a, .inr h, hb, ha⟩
    · by_cases hb : G b
      · exact .inr ⟨a, b, .inl h, ha, hb⟩
      · exact .inl ⟨fun h => absurd h ha, fun h => absurd h hb⟩
  | symm _ ih =>
    rcases ih with h | h
    · exact .inl h.symm
    · exact .inr h
  | trans _ _ ih1 ih2 =>
    rcases ih1 with h1 | h1
    · rcases ih2 with h2 | h2
      · exact .inl (h1.trans h2)
      · exact .inr h2
    · exact .inr h1
theorem mem_ids {l : List Lst} {a : Int} (h : a ∈ idsL l) : ∃ (j : Nat) (x : Lst), l[j]? = some x ∧ x.id = a := by
  unfold idsL at h
  obtain ⟨x, hx, rfl⟩ := List.mem_map.1 h
  obtain ⟨j, hj⟩ := List.getElem?_of_mem hx
  exact ⟨j, x, hj, rfl⟩
/-- Behind a round there is one more that is last, or all were. -/
theorem RW.done {g : Int → Int} {l : List Lst} {P : List (Int × Int)} {out0 out : List Int} (hN : Nm (idsL l) (holdsL l) P g) (hI : InIds (idsL l) (holdsL l) P) (hnd : (idsL l).Nodup)
    (h0 : RI g l out0) (h : RW g l P (goodB g l out0) l.length 0 P.length out) : (∀ j < l.length, goodB g l out j = true) ∨ cntG g l out0 < cntG g l out := by
  by_cases hall : ∀ j < l.length, goodB g l out0 j = true
  · exact .inl fun j hj => h.keep j (hall j hj)
  · right
    have hid : ∀ (j : Nat) (z : Lst), l[j]? = some z → ∀ (j' : Nat) (z' : Lst), l[j']? = some z' → z.id = z'.id → j = j' := by
      intro j z hj j' z' hj' he
      have e1 : (idsL l)[j]? = some z.id := by unfold idsL; rw [List.getElem?_map, hj]; rfl
      have e2 : (idsL l)[j']? = some z.id := by unfold idsL; rw [List.getElem?_map, hj', he]; rfl
      have hl1 := (List.getElem?_eq_some_iff.1 e1).1
      exact (List.getElem?_inj hl1 hnd).1 (e1.trans e2.symm)
    obtain ⟨j, hj⟩ := Classical.not_forall.1 hall
    obtain ⟨hjl, hjg⟩ := Classical.not_imp.1 hj
    have hx : l[j]? = some l[j] := List.getElem?_eq_getElem hjl
    have hm : l[j].id ∈ idsL l := by unfold idsL; exact List.mem_map.2 ⟨_, List.getElem_mem hjl, rfl⟩
    -- the Ids whose place is good
    let G : Int → Prop := fun a => ∃ (j : Nat) (x : Lst), l[j]? = some x ∧ x.id = a ∧ goodB g l out0 j = true
    have hroot : G (g l[j].id) := by
      obtain ⟨r, z, hz, hzi⟩ := mem_ids (hN.mem _ hm)
      refine ⟨r, z, hz, hzi, goodB_iff.2 ⟨z, hz, ?_⟩⟩
      have hi : g z.id = z.id := by rw [hzi]; exact hN.idem hm
      rw [hi]
      exact h0.root r z hz hi
    have hnot : ¬ G l[j].id := by
      rintro ⟨j', x', h1, h2, h3⟩
      have := hid j' x' h1 j _ hx h2
      subst this
      exact hjg h3
    have hc := hN.conn _ hm
    rcases cross (G := G) hc with h1 | ⟨u, v, he, hu, hv⟩
    · exact absurd (h1.2 hroot) hnot
    · obtain ⟨kv, y, hy, hyi, hgv⟩ := hv
      have hum : u ∈ idsL l := by
        rcases he with he | he
        · exact (hI.edge he).1
        · exact (hI.edge he).2
      obtain ⟨ku, x, hxu, hxi⟩ := mem_ids hum
      have hbad : goodB g l out0 ku = false := by
        cases hb : goodB g l out0 ku with
        | false => rfl
        | true => exact absurd ⟨ku, x, hxu, hxi, hb⟩ hu
      have hkl := (List.getElem?_eq_some_iff.1 hxu).1
      refine countP_lt (fun z hz hz1 => h.keep z hz1) ⟨ku, List.mem_range.2 hkl, hbad, ?_⟩
      have hshare : ∀ s, (s, u) ∈ holdsL l → (s, v) ∈ holdsL l → goodB g l out ku = true := by
        intro s h1 h2
        obtain ⟨x1, hx1, hx1i, hs1⟩ := mem_holds.1 h1
        obtain ⟨y1, hy1, hy1i, hs2⟩ := mem_holds.1 h2
        obtain ⟨j1, hj1⟩ := List.getElem?_of_mem hx1
        obtain ⟨j2, hj2⟩ := List.getElem?_of_mem hy1
        obtain rfl := hid j1 x1 hj1 ku x hxu (by rw [hx1i, hxi])
        obtain rfl := hid j2 y1 hj2 kv y hy (by rw [hy1i, hyi])
        exact h.seen j1 j2 x1 y1 (.inl hkl) hj1 hj2 ⟨s, hs1, hs2⟩ hgv
      rcases he with (⟨s, h1, h2⟩ | h1) | (⟨s, h1, h2⟩ | h1)
      · exact hshare s h1 h2
      · obtain ⟨q, hq⟩ := List.getElem?_of_mem h1
        exact (h.pairs q u v ku kv x y (List.getElem?_eq_some_iff.1 hq).1 hq hxu hy hxi hyi (.inr hgv)).1
      · exact hshare s h2 h1
      · obtain ⟨q, hq⟩ := List.getElem?_of_mem h1
        exact (h.pairs q v u kv ku y x (List.getElem?_eq_some_iff.1 hq).1 hq hy hxu hyi hxi (.inl hgv)).2
theorem cntG_le (g : Int → Int) (l : List Lst) (out : List Int) : cntG g l out ≤ l.length := by
  unfold cntG
  have := List.countP_le_length (p := goodB g l out) (l := List.range l.length)
  rwa [List.length_range] at this
/-- As many rounds as there are places: all are last. -/
theorem cntG_all {g : Int → Int} {l : List Lst} {out : List Int} (h : l.length ≤ cntG g l out) : ∀ j < l.length, goodB g l out j = true := by
  have h1 : (List.range l.length).countP (goodB g l out) = (List.range l.length).length := by
    rw [List.length_range]
    exact Nat.le_antisymm (cntG_le g l out) h
  intro j hj
  exact (List.countP_eq_length.1 h1) j (List.mem_range.2 hj)
theorem names_done {g : Int → Int} {l : List Lst} {out : List Int} (h : RI g l out) (hall : ∀ j < l.length, goodB g l out j = true) : out = (idsL l).map g := by
  refine List.ext_getElem? fun j => ?_
  by_cases hj : j < l.length
  · obtain ⟨x, hx, ho⟩ := goodB_iff.1 (hall j hj)
    unfold idsL
    rw [ho, List.map_map, List.getElem?_map, hx]
    rfl
  · unfold idsL
    rw [List.getElem?_eq_none (by rw [h.len]; omega), List.getElem?_eq_none (by simp; omega)]
end Go.Proofs.YtccmchmemafjdaaGreatDoor
set_option linter.unusedSimpArgs false
set_option linter.unusedVariables false
namespace Go.Proofs.YtccmchmemafjdaaGreatDoor

/-- The Ids named r, ascending. -/
def grpOf (ids : List Int) (g : Int → Int) (r : Int) : List Int := (sortI ids).filter (fun a => decide (g a = r))
def groupsOf (ids : List Int) (g : Int → Int) : List (List Int) := ((sortI ids).filter (fun r => decide (g r = r))).map (grpOf ids g)
/-- As the reference makes them. -/
def groupsR (ids : List Int) (g : Int → Int) : List (List Int) := ((sortI ids).map (grpOf ids g)).filter (fun z => !z.isEmpty)
theorem mem_grp {ids : List Int} {g : Int → Int} {r a : Int} : a ∈ grpOf ids g r ↔ a ∈ ids ∧ g a = r := by
  unfold grpOf
  rw [List.mem_filter, sortI_mem, decide_eq_true_iff]
theorem groupsR_eq {ids : List Int} {g : Int → Int} (hm : ∀ a ∈ ids, g a ∈ ids) (hi : ∀ a ∈ ids, g (g a) = g a) : groupsR ids g = groupsOf ids g := by
  unfold groupsR groupsOf
  rw [List.filter_map]
  congr 1
  refine List.filter_congr fun r hr => ?_
  have hr' := (sortI_mem ids r).1 hr
  simp only [Function.comp]
  rw [Bool.eq_iff_iff, decide_eq_true_iff, Bool.not_eq_true', List.isEmpty_eq_false_iff_exists_mem]
  constructor
  · rintro ⟨a, ha⟩
    obtain ⟨h1, h2⟩ := mem_grp.1 ha
    rw [← h2]
    exact hi a h1
  · intro h
    exact ⟨r, mem_grp.2 ⟨hr', h⟩⟩
theorem grp_congr {ids : List Int} {g g' : Int → Int} (h : ∀ a ∈ ids, g a = g' a) (r : Int) : grpOf ids g r = grpOf ids g' r := by
  unfold grpOf
  refine List.filter_congr fun a ha => ?_
  rw [h a ((sortI_mem ids a).1 ha)]
theorem groups_congr {ids : List Int} {g g' : Int → Int} (h : ∀ a ∈ ids, g a = g' a) : groupsOf ids g = groupsOf ids g' := by
  unfold groupsOf
  have h1 : (sortI ids).filter (fun r => decide (g r = r)) = (sortI ids).filter (fun r => decide (g' r = r)) := List.filter_congr fun a ha => by rw [h a ((sortI_mem ids a).1 ha)]
  rw [h1]
  exact List.map_congr_left fun r _ => grp_congr h r
theorem sortI_filter {l : List Int} (hn : l.Nodup) (p : Int → Bool) : sortI (l.filter p) = (sortI l).filter p := by
  refine asc_unique (sortI_lt (hn.sublist List.filter_sublist)) ((sortI_lt hn).sublist List.filter_sublist) fun x => ?_
  rw [sortI_mem, List.mem_filter, List.mem_filter, sortI_mem]
theorem grp_head {ids : List Int} {g : Int → Int} (hnd : ids.Nodup) (hle : ∀ a ∈ ids, g a ≤ a) {r : Int} (hr : r ∈ ids) (he : g r = r) : (grpOf ids g r).head? = some r := by
  have hmem : r ∈ grpOf ids g r := mem_grp.2 ⟨hr, he⟩
  have hs : (grpOf ids g r).Pairwise (· < ·) := (sortI_lt hnd).sublist List.filter_sublist
  cases hg : grpOf ids g r with
  | nil => rw [hg] at hmem; cases hmem
  | cons a t =>
    have ha : a ∈ grpOf ids g r := by rw [hg]; simp
    obtain ⟨h1, h2⟩ := mem_grp.1 ha
    have h3 := hle a h1
    rw [hg] at hmem hs
    rcases List.mem_cons.1 hmem with h4 | h4
    · rw [h4]; rfl
    · have := (List.pairwise_cons.1 hs).1 r h4
      omega
/-- As the program makes them: in whatever order the map hands them out, sorted by their first. -/
theorem groups_prog {ids : List Int} {g : Int → Int} (hnd : ids.Nodup) (hm : ∀ a ∈ ids, g a ∈ ids) (hle : ∀ a ∈ ids, g a ≤ a) (hi : ∀ a ∈ ids, g (g a) = g a) {ks : List Int} (hk : ks.Nodup) (hkm : ∀ r, r ∈ ks ↔ ∃ a ∈ ids, g a = r)
    {gs : List (List Int)} (hp : gs.Perm (ks.map (fun r => sortI (ids.filter (fun a => decide (g a = r)))))) (hs : gs.Pairwise (fun a b => a.headD 0 ≤ b.headD 0)) : gs = groupsOf ids g := by
  have e1 : ks.map (fun r => sortI (ids.filter (fun a => decide (g a = r)))) = ks.map (grpOf ids g) := List.map_congr_left fun r _ => by
    unfold grpOf
    exact sortI_filter hnd _
  rw [e1] at hp
  have hroot : ∀ r, r ∈ ks ↔ r ∈ ids ∧ g r = r := fun r => by
    rw [hkm]
    constructor
    · rintro ⟨a, ha, rfl⟩; exact ⟨hm a ha, hi a ha⟩
    · rintro ⟨h1, h2⟩; exact ⟨r, h1, h2⟩
  have hperm : ks.Perm ((sortI ids).filter (fun r => decide (g r = r))) := by
    refine (List.perm_ext_iff_of_nodup hk (((sortI_perm ids).nodup_iff.2 hnd).sublist List.filter_sublist)).2 fun r => ?_
    rw [hroot, List.mem_filter, sortI_mem, decide_eq_true_iff]
  have hp2 : gs.Perm (groupsOf ids g) := hp.trans (hperm.map _)
  have hhead : ∀ z ∈ groupsOf ids g, ∃ r, z = grpOf ids g r ∧ z.headD 0 = r := by
    intro z hz
    unfold groupsOf at hz
    obtain ⟨r, hr, rfl⟩ := List.mem_map.1 hz
    rw [List.mem_filter, sortI_mem, decide_eq_true_iff] at hr
    refine ⟨r, rfl, ?_⟩
    have := grp_head hnd hle hr.1 hr.2
    cases hg : grpOf ids g r with
    | nil => rw [hg] at this; cases this
    | cons a t => rw [hg] at this; injection this
  have hs2 : (groupsOf ids g).Pairwise (fun a b => a.headD 0 ≤ b.headD 0) := by
    unfold groupsOf
    rw [List.pairwise_map]
    refine List.Pairwise.imp_of_mem (R := fun a b : Int => a < b) (fun {a b} ha hb hab => ?_) ((sortI_lt hnd).sublist List.filter_sublist)
    rw [List.mem_filter, sortI_mem, decide_eq_true_iff] at ha hb
    have h1 := grp_head hnd hle ha.1 ha.2
    have h2 := grp_head hnd hle hb.1 hb.2
    have e : ∀ (z : List Int) (r : Int), z.head? = some r → z.headD 0 = r := fun z r h => by
      cases z with
      | nil => cases h
      | cons a t => injection h
    rw [e _ _ h1, e _ _ h2]
    omega
  refine List.Perm.eq_of_pairwise (le := fun a b : List Int => a.headD 0 ≤ b.headD 0) (fun a b ha hb h3 h4 => ?_) hs hs2 hp2
  obtain ⟨r, h5, h6⟩ := hhead a (hp2.subset ha)
  obtain ⟨r', h7, h8⟩ := hhead b hb
  have : r = r' := by omega
  rw [h5, h7, this]

/-! ### The sales of a group. -/
def insS (x : Sal) : List Sal → List Sal
  | [] => [x]
  | y :: r => if ltSal y x then y :: insS x r else if y = x then y :: r else x :: y :: r
theorem insS_mem {x z : Sal} : ∀ {l : List Sal}, z ∈ insS x l ↔ z = x ∨ z ∈ l
  | [] => by simp [insS]
  | y :: r => by
    unfold insS
    split
    · rw [List.mem_cons, insS_mem, List.mem_cons]
      constructor
      · rintro (h | h | h)
        · exact .inr (.inl h)
        · exact .inl h
        · exact .inr (.inr h)
      · rintro (h | h | h)
        · exact .inr (.inl h)
        · exact .inl h
        · exact .inr (.inr h)
    · split
      · rename_i h; subst h; simp
      · simp
theorem insS_asc {x : Sal} : ∀ {l : List Sal}, l.Pairwise ltSal → (insS x l).Pairwise ltSal
  | [], _ => by simp [insS]
  | y :: r, h => by
    obtain ⟨h1, h2⟩ := List.pairwise_cons.1 h
    unfold insS
    split
    · rename_i hy
      rw [List.pairwise_cons]
      refine ⟨fun z hz => ?_, insS_asc h2⟩
      rcases insS_mem.1 hz with rfl | hz
      · exact hy
      · exact h1 z hz
    · rename_i hy
      split
      · exact h
      · rename_i hne
        rw [List.pairwise_cons]
        refine ⟨fun z hz => ?_, h⟩
        have hxy : ltSal x y := ((ltSal_tri y x).resolve_left hy).resolve_left hne
        rcases List.mem_cons.1 hz with rfl | hz
        · exact hxy
        · exact ltSal_trans hxy (h1 z hz)
def mergeS (l : List Sal) : List Sal := l.foldl (fun o x => insS x o) []
theorem mergeS_snoc (l : List Sal) (x : Sal) : mergeS (l ++ [x]) = insS x (mergeS l) := by unfold mergeS; rw [List.foldl_append]; rfl
theorem mergeS_mem {z : Sal} : ∀ l : List Sal, z ∈ mergeS l ↔ z ∈ l := by
  refine snoc_ind (by simp [mergeS]) fun l x ih => ?_
  rw [mergeS_snoc, insS_mem, ih, List.mem_append, List.mem_singleton]
  exact Or.comm
theorem mergeS_asc : ∀ l : List Sal, (mergeS l).Pairwise ltSal := by
  refine snoc_ind List.Pairwise.nil fun l x ih => ?_
  rw [mergeS_snoc]
  exact insS_asc ih
theorem ascS_unique {a b : List Sal} (ha : a.Pairwise ltSal) (hb : b.Pairwise ltSal) (hm : ∀ x, x ∈ a ↔ x ∈ b) : a = b := by
  have nd : ∀ l : List Sal, l.Pairwise ltSal → l.Nodup := fun l h => h.imp (fun h e => by subst e; exact ltSal_irr _ h)
  exact List.Perm.eq_of_pairwise (le := ltSal) (fun a b _ _ h3 h4 => absurd (ltSal_trans h3 h4) (ltSal_irr _)) ha hb ((List.perm_ext_iff_of_nodup (nd a ha) (nd b hb)).2 hm)
/-- Equal neighbours struck. -/
def compS : List Sal → List Sal
  | [] => []
  | [x] => [x]
  | x :: y :: r => if x = y then compS (y :: r) else x :: compS (y :: r)
theorem compS_mem {z : Sal} : ∀ l : List Sal, z ∈ compS l ↔ z ∈ l
  | [] => by simp [compS]
  | [x] => by simp [compS]
  | x :: y :: r => by
    unfold compS
    split
    · rename_i h
      subst h
      rw [compS_mem (x :: r)]
      simp
    · rw [List.mem_cons, compS_mem (y :: r), List.mem_cons (l := y :: r)]
theorem compS_asc : ∀ l : List Sal, l.Pairwise (fun a b => ¬ ltSal b a) → (compS l).Pairwise ltSal
  | [], _ => by simp [compS]
  | [x], _ => by simp [compS]
  | x :: y :: r, h => by
    obtain ⟨h1, h2⟩ := List.pairwise_cons.1 h
    have ih := compS_asc (y :: r) h2
    unfold compS
    split
    · exact ih
    · rename_i hne
      rw [List.pairwise_cons]
      refine ⟨fun z hz => ?_, ih⟩
      have hz' := (compS_mem (y :: r)).1 hz
      have hxy : ltSal x y := ((ltSal_tri x y).resolve_right (fun h3 => by
        rcases h3 with h3 | h3
        · exact hne h3
        · exact h1 y (by simp) h3))
      rcases List.mem_cons.1 hz' with rfl | hz'
      · exact hxy
      · rcases ltSal_tri y z with h4 | h4 | h4
        · exact ltSal_trans hxy h4
        · rw [← h4]; exact hxy
        · exact absurd h4 ((List.pairwise_cons.1 h2).1 z hz')
/-- The program's way to the sales: sorted, then without repeats. -/
theorem sales_prog {l ys : List Sal} (hp : ys.Perm l) (hs : ys.Pairwise (fun a b => ¬ ltSal b a)) : compS ys = mergeS l :=
  ascS_unique (compS_asc ys hs) (mergeS_asc l) fun x => by rw [compS_mem, hp.mem_iff, mergeS_mem]
/-- Where an Id stands. -/
def placeL (l : List Lst) (a : Int) : Option Nat := l.findIdx? (fun x => x.id == a)
def salesAt (l : List Lst) (a : Int) : List Sal := match l.find? (fun x => x.id == a) with | some x => x.sales | none => []
def salesOf (l : List Lst) (grp : List Int) : List Sal := mergeS (grp.flatMap (salesAt l))
theorem find_id {l : List Lst} (hnd : (idsL l).Nodup) {x : Lst} (hx : x ∈ l) : l.find? (fun y => y.id == x.id) = some x := by
  induction l with
  | nil => cases hx
  | cons y l ih =>
    have hnd' : (idsL l).Nodup := (List.nodup_cons.1 (by simpa [idsL] using hnd)).2
    have hy : y.id ∉ idsL l := (List.nodup_cons.1 (by simpa [idsL] using hnd)).1
    rw [List.find?_cons]
    rcases List.mem_cons.1 hx with rfl | hx
    · simp
    · have hne : (y.id == x.id) = false := by
        rw [beq_eq_false_iff_ne]
        intro e
        exact hy (by rw [e]; exact List.mem_map.2 ⟨x, hx, rfl⟩)
      rw [hne]
      exact ih hnd' hx
theorem salesAt_mem {l : List Lst} (hnd : (idsL l).Nodup) {x : Lst} (hx : x ∈ l) : salesAt l x.id = x.sales := by unfold salesAt; rw [find_id hnd hx]
end Go.Proofs.YtccmchmemafjdaaGreatDoor
