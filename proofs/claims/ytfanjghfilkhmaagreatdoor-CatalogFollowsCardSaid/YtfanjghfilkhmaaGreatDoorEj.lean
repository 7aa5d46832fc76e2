/- Parse of the program and of the reference answer alike, in plain words (chapter 47). -/
import Derived.Test.YtfanjghfilkhmaaGreatDoorEg
set_option linter.unusedSimpArgs false
set_option linter.unusedVariables false
namespace Go.Proofs.YtfanjghfilkhmaaGreatDoor

/-- s is the text of the valid edition e. -/
def IsText (s : List UInt8) (e : Ed) : Prop := validE e ∧ textE e = s
theorem isText_unique {s : List UInt8} {e f : Ed} (he : IsText s e) (hf : IsText s f) : e = f := textE_inj he.1 hf.1 (he.2.trans hf.2.symm)
/-- The program: what it collects, its entries sorted by key in whatever way. -/
theorem prog_parse {s : List UInt8} {ys : List (Int × Int)} (hp : ys.Perm (collP s).ents) (hs : ys.Pairwise (fun a b => a.1 ≤ b.1)) :
    (IsText s ⟨ys, (collP s).ret⟩ ∧ ∀ e, IsText s e → e = ⟨ys, (collP s).ret⟩) ∨ ((∀ e, ¬ IsText s e) ∧ ¬ IsText s ⟨ys, (collP s).ret⟩) := by
  by_cases h : ∃ e, IsText s e
  · obtain ⟨e, he⟩ := h
    left
    have h1 := collP_text he.1
    rw [he.2] at h1
    rw [h1] at hp ⊢
    have h2 := byKey_of he.1 hp hs
    have h3 : (⟨ys, e.ret⟩ : Ed) = e := by rw [h2]
    simp only
    rw [h3]
    exact ⟨he, fun f hf => isText_unique hf he⟩
  · right
    exact ⟨fun e he => h ⟨e, he⟩, fun he => h ⟨_, he⟩⟩
/-- The reference. -/
theorem ref_parse (s : List UInt8) : (IsText s (collR s) ∧ ∀ e, IsText s e → e = collR s) ∨ ((∀ e, ¬ IsText s e) ∧ ¬ IsText s (collR s)) := by
  by_cases h : ∃ e, IsText s e
  · obtain ⟨e, he⟩ := h
    left
    have h1 := collR_text he.1
    rw [he.2] at h1
    rw [h1]
    exact ⟨he, fun f hf => isText_unique hf he⟩
  · right
    exact ⟨fun e he => h ⟨e, he⟩, fun he => h ⟨_, he⟩⟩
/-- A text of a valid edition is read as it; no text of one is the empty edition's. -/
theorem text_back {e : Ed} (h : validE e) : IsText (textE e) e := ⟨h, rfl⟩
theorem valid_zero : validE edZero := by
  refine (valid_iff edZero).2 ⟨List.Pairwise.nil, by decide, by decide, ⟨List.Pairwise.nil, fun x hx => by cases hx⟩, fun x hx => by cases hx⟩
theorem text_zero : textE edZero = [] := by
  unfold textE
  rw [if_pos valid_zero]
  have h : byNum edZero = [] := List.eq_nil_of_length_eq_zero (by unfold byNum; rw [List.length_mergeSort]; rfl)
  rw [h]
  rfl
theorem text_bad {e : Ed} (h : ¬ validE e) : textE e = [] := by unfold textE; rw [if_neg h]
/-- What is not valid has the text of the empty edition, as which it is read. -/
theorem any_text (e : Ed) : ∃ f, IsText (textE e) f ∧ (validE e → f = e) := by
  by_cases h : validE e
  · exact ⟨e, text_back h, fun _ => rfl⟩
  · exact ⟨edZero, ⟨valid_zero, by rw [text_zero, text_bad h]⟩, fun h' => absurd h' h⟩
theorem lineE_len {x : Int × Int} (h1 : 1 ≤ x.1 ∧ x.1 ≤ 9999) (h2 : 1 ≤ x.2 ∧ x.2 ≤ 999) : (lineT x).length ≤ 10 := by
  have a1 : (Lib.itoa x.1).length ≤ 4 := by rw [itoa_nat _ (by omega)]; exact decDigits_le 3 _ (by omega)
  have a2 : (Lib.itoa x.2).length ≤ 3 := by rw [itoa_nat _ (by omega)]; exact decDigits_le 2 _ (by omega)
  unfold lineT
  simp only [List.length_append, List.length_cons]
  omega
end Go.Proofs.YtfanjghfilkhmaaGreatDoor
