/- CatalogFollows: the law's walk (chapter 47). -/
import Derived.Test.YtfanjghfilkhmaaGreatDoorIi
set_option linter.unusedSimpArgs false
set_option linter.unusedVariables false
namespace Go.Proofs.YtfanjghfilkhmaaGreatDoor
open Go.RowKit

/-- What the list of editions is: each follows the one before; all are valid as soon as there are two. -/
structure Chain (es : List Ed) : Prop where
  ne : es ≠ []
  fol : ∀ (i : Nat) (a b : Ed), es[i]? = some a → es[i + 1]? = some b → followsE a b
  val : 1 < es.length → ∀ g ∈ es, validE g
theorem Chain.one (e : Ed) : Chain [e] := ⟨by simp, fun i a b h1 h2 => by
  have := (List.getElem?_eq_some_iff.1 h2).1
  simp at this, fun h => by simp at h⟩
theorem Chain.snoc {es : List Ed} (h : Chain es) {e : Ed} {l : List Int} (he : es[es.length - 1]? = some e) (hok : NextOk e l) : Chain (es ++ [nextOf e l]) := by
  have hpos : 0 < es.length := List.length_pos_iff.2 h.ne
  refine ⟨by simp, fun i a b h1 h2 => ?_, fun _ g hg => ?_⟩
  · have hi := (List.getElem?_eq_some_iff.1 h2).1
    simp at hi
    by_cases hlt : i + 1 < es.length
    · rw [List.getElem?_append_left (by omega)] at h1
      rw [List.getElem?_append_left hlt] at h2
      exact h.fol i a b h1 h2
    · have hie : i = es.length - 1 := by omega
      rw [List.getElem?_append_left (by omega), hie, he] at h1
      rw [List.getElem?_append_right (by omega), show i + 1 - es.length = 0 from by omega] at h2
      simp at h1 h2
      rw [← h1, ← h2]
      exact next_follows hok
  · rcases List.mem_append.1 hg with hg | hg
    · by_cases h2 : 1 < es.length
      · exact h.val h2 g hg
      · obtain ⟨x, hx⟩ : ∃ x, es = [x] := List.length_eq_one_iff.1 (by omega)
        rw [hx] at hg he
        simp at hg he
        rw [hg, he]
        exact hok.valid
    · rw [List.mem_singleton] at hg
      rw [hg]
      exact next_valid hok
theorem Tryz.infoD : (Tryz.prog.info? 25).map (fun i => (i.zero, i.size, i.bytes)) = some (some (.agg #[.slice none 0 0, .slice none 0 0]), 2, 48) := by kernel_rfl
end Go.Proofs.YtfanjghfilkhmaaGreatDoor
