/- Boxes: blocks that the call has laid, carried from call to call. -/
import Derived.Test.YtdokpmfejibdlaaGreatDoorBase
set_option linter.unusedSimpArgs false
set_option linter.unusedVariables false
namespace Go.Proofs.YtdokpmfejibdlaaGreatDoor
open Go.RowKit

/-- Block b holds vs; none of it is frozen. -/
structure Bx (w : World) (b : Nat) (vs : List Value) : Prop where
  lt : b < w.heap.size
  cell : ∀ j u, vs[j]? = some u → w.cell? ⟨b, j, none⟩ = some u
  frz : ∀ j, w.frozen? ⟨b, j, none⟩ = false
section
variable {w w' w1 w2 : World} {b D : Nat} {vs us xs : List Value}
theorem Bx.new (w : World) (vs : List Value) (t : TypeId) : Bx (w.alloc (.cells vs.toArray t)) w.heap.size vs where
  lt := by simp
  cell j u h := by rw [World.cell?_alloc_new]; simpa using h
  frz j := by simp
theorem Bx.up (h : Bx w b vs) (hb : Below w.heap.size w w') : Bx w' b vs :=
  ⟨Nat.lt_of_lt_of_le h.lt hb.size, fun j u hu => (hb.cell (p := ⟨b, j, none⟩) h.lt).trans (h.cell j u hu), fun j => (hb.frozen (p := ⟨b, j, none⟩) h.lt).trans (h.frz j)⟩
theorem Bx.alloc (h : Bx w b vs) (o : Obj) : Bx (w.alloc o) b vs := h.up ((Below.refl _ _).alloc (Nat.le_refl _) _)
theorem Bx.drewN (h : Bx w b vs) (n : Nat) : Bx (w.drewN n) b vs := h.up (below_drewN (Below.refl _ _) n)
theorem Bx.far (h : Bx w b vs) {p : Addr} (hp : p.block ≠ b) (u : Value) : Bx (w.setCell p u) b vs :=
  ⟨by simpa [World.setCell] using h.lt, fun j v hv => (World.cell?_setCell_other w p ⟨b, j, none⟩ u (fun e => hp (by rw [e]))).trans (h.cell j v hv), fun j => (World.frozen?_setCell _ _ _ _).trans (h.frz j)⟩
theorem Bx.set (h : Bx w b vs) {i : Nat} (hi : i < vs.length) (u : Value) : Bx (w.setCell ⟨b, i, none⟩ u) b (vs.set i u) :=
  ⟨by simpa [World.setCell] using h.lt, fun j v hv => by
    by_cases e : i = j
    · subst e
      rw [List.getElem?_set_self hi] at hv
      cases hv
      exact World.cell?_setCell_same' _ _ _ (by rw [h.cell i _ (List.getElem?_eq_getElem hi)]; rfl)
    · rw [List.getElem?_set_ne e] at hv
      exact (World.cell?_setCell_other w ⟨b, i, none⟩ ⟨b, j, none⟩ u (fun e' => e (by cases e'; rfl))).trans (h.cell j v hv), fun j => (World.frozen?_setCell _ _ _ _).trans (h.frz j)⟩
theorem step0 (hb : Below w.heap.size w w1) (h2 : Below w1.heap.size w1 w2) : Below w1.heap.size w1 w2 ∧ Below w.heap.size w w2 := ⟨h2, hb.trans (h2.mono hb.size)⟩
theorem one_alloc (w1 : World) (o : Obj) : Below w1.heap.size w1 (w1.alloc o) := (Below.refl _ _).alloc (Nat.le_refl _) _
theorem step1 {t : TypeId} (hb : Below w.heap.size w w1) (h2 : Below (w1.alloc (.cells vs.toArray t)).heap.size (w1.alloc (.cells vs.toArray t)) w2) :
    Below w1.heap.size w1 w2 ∧ Below w.heap.size w w2 ∧ Bx w2 w1.heap.size vs := by
  have h1 : Below w1.heap.size w1 w2 := (one_alloc w1 _).trans (h2.mono (by simp))
  exact ⟨h1, hb.trans (h1.mono hb.size), (Bx.new w1 vs t).up h2⟩
theorem step2 {t t' : TypeId} (hb : Below w.heap.size w w1) (h2 : Below ((w1.alloc (.cells vs.toArray t)).alloc (.cells us.toArray t')).heap.size ((w1.alloc (.cells vs.toArray t)).alloc (.cells us.toArray t')) w2) :
    Below w1.heap.size w1 w2 ∧ Below w.heap.size w w2 ∧ Bx w2 w1.heap.size vs ∧ Bx w2 (w1.heap.size + 1) us := by
  obtain ⟨h3, h4, h5⟩ := step1 (Below.refl _ _) h2
  have hB := Bx.new (w1.alloc (.cells vs.toArray t)) us t'
  rw [World.size_alloc] at h5
  have h1 : Below w1.heap.size w1 w2 := (one_alloc w1 _).trans (h3.mono (by simp))
  exact ⟨h1, hb.trans (h1.mono hb.size), (Bx.new w1 vs t).up h3, h5⟩
theorem step3 {t t' t'' : TypeId} (hb : Below w.heap.size w w1) (h2 : Below (((w1.alloc (.cells vs.toArray t)).alloc (.cells us.toArray t')).alloc (.cells xs.toArray t'')).heap.size (((w1.alloc (.cells vs.toArray t)).alloc (.cells us.toArray t')).alloc (.cells xs.toArray t'')) w2) :
    Below w1.heap.size w1 w2 ∧ Below w.heap.size w w2 ∧ Bx w2 w1.heap.size vs ∧ Bx w2 (w1.heap.size + 1) us ∧ Bx w2 (w1.heap.size + 1 + 1) xs := by
  obtain ⟨h3, h4, h5, h6⟩ := step2 (Below.refl _ _) h2
  rw [World.size_alloc] at h5 h6
  have h1 : Below w1.heap.size w1 w2 := (one_alloc w1 _).trans (h3.mono (by simp))
  exact ⟨h1, hb.trans (h1.mono hb.size), (Bx.new w1 vs t).up h3, h5, h6⟩
end
end Go.Proofs.YtdokpmfejibdlaaGreatDoor
