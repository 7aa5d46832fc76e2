/- A list of editions in memory: for CatalogFollows (chapter 47). -/
import Derived.Test.YtfanjghfilkhmaaGreatDoorIa
set_option linter.unusedSimpArgs false
set_option linter.unusedVariables false
namespace Go.Proofs.YtfanjghfilkhmaaGreatDoor
open Go.RowKit

/-- One edition as the two cells of a row hold it. -/
structure EdAt (W : World) (v0 v1 : Value) (e : Ed) : Prop where
  ex : ∃ A n c A' n' c', v0 = .slice A n c ∧ v1 = .slice A' n' c' ∧ n ≤ 1000000 ∧ n' ≤ 1000000 ∧ EdS W A n A' n' e
theorem EdAt.up {W W' : World} {v0 v1 : Value} {e : Ed} (h : EdAt W v0 v1 e) (hb : Below W.heap.size W W') : EdAt W' v0 v1 e := by
  obtain ⟨A, n, c, A', n', c', h1, h2, h3, h4, h5⟩ := h.ex
  exact ⟨A, n, c, A', n', c', h1, h2, h3, h4, h5.up hb⟩
def encP (q : Value × Value) : List Value := [q.1, q.2]
theorem encP_len (q : Value × Value) : (encP q).length = 2 := rfl
/-- The list: its values, what they are. -/
structure EdL (W : World) (vs : List (Value × Value)) (es : List Ed) : Prop where
  len : vs.length = es.length
  each : ∀ (i : Nat) (q : Value × Value) (e : Ed), vs[i]? = some q → es[i]? = some e → EdAt W q.1 q.2 e
theorem EdL.up {W W' : World} {vs : List (Value × Value)} {es : List Ed} (h : EdL W vs es) (hb : Below W.heap.size W W') : EdL W' vs es := ⟨h.len, fun i q e h1 h2 => (h.each i q e h1 h2).up hb⟩
theorem EdL.snoc {W : World} {vs : List (Value × Value)} {es : List Ed} (h : EdL W vs es) {q : Value × Value} {e : Ed} (he : EdAt W q.1 q.2 e) : EdL W (vs ++ [q]) (es ++ [e]) := by
  refine ⟨by simp [h.len], fun i q' e' h1 h2 => ?_⟩
  by_cases hi : i < vs.length
  · rw [List.getElem?_append_left hi] at h1
    rw [List.getElem?_append_left (by rw [← h.len]; exact hi)] at h2
    exact h.each i q' e' h1 h2
  · have hi' : i = vs.length := by
      have := (List.getElem?_eq_some_iff.1 h1).1
      simp at this; omega
    subst hi'
    rw [List.getElem?_append_right (Nat.le_refl _), Nat.sub_self] at h1
    rw [h.len, List.getElem?_append_right (Nat.le_refl _), Nat.sub_self] at h2
    simp at h1 h2
    subst h1
    subst h2
    exact he
theorem EdL.one {W : World} {q : Value × Value} {e : Ed} (he : EdAt W q.1 q.2 e) : EdL W [q] [e] := EdL.snoc (vs := []) (es := []) ⟨rfl, fun i q e h => by simp at h⟩ he
end Go.Proofs.YtfanjghfilkhmaaGreatDoor
