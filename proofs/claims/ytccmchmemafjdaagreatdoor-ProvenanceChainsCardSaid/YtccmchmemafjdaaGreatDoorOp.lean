/- Slices that came in, opened once for all: over any element whose cells are known. -/
import Derived.Test.YtccmchmemafjdaaGreatDoorBase
import Derived.Deep.Fields
import Derived.Deep.Slices
import Derived.Lib.SmallJoins
import Derived.WideKeyArgs
import Derived.Carry
set_option linter.unusedSimpArgs false
set_option linter.unusedVariables false
namespace Go.Proofs.YtccmchmemafjdaaGreatDoor
open Go.ChangeShapes Go.WideShapes Go.ChangeAt Go.RowKit

section
variable {H : Type} {enc : TypeId × Value → H} {P : Program} {w : World} {held : Bool}
theorem cell_lt' {w : World} {a : Addr} {v : Value} (h : w.cell? a = some v) : a.block < w.heap.size := by
  rcases Nat.lt_or_ge a.block w.heap.size with h' | h'
  · exact h'
  · simp [World.cell?, Array.getElem?_eq_none h'] at h
/-- A slice of elements whose cells are known: in a struct, in a slice, or an argument by itself. -/
theorem sl_of_trodQ {α : Type} [Inhabited α] (Q : α → Prop) {encα : α → List Value} {k : Nat} {t e : TypeId} {fuel : Nat} {a : Option Addr} {l c : Nat} {x : DataW H × List MemPlace}
    (ht : P.underlying t = some (.slice e)) (ce : P.cellsOf e = k) (hk : ∀ z, (encα z).length = k) (hk0 : 0 < k)
    (hel : ∀ n cs y, DataW.trod enc P w 0 (fun _ => true) held n e cs = some y → ∃ z, Q z ∧ cs = encα z)
    (hf : DataW.trod enc P w 0 (fun _ => true) held fuel t [.slice a l c] = some x) :
    ∃ zs : List α, Sl w 0 w.heap.size k encα a l zs ∧ l ≤ maxLen ∧ ∀ z ∈ zs, Q z := by
  rcases Deep.open_slice ht hf with ⟨hc, _⟩ | ⟨a', len, cap, m, n, D, Pl, hc, _, hl, hm, hmm, _, hall⟩
  · simp at hc
    obtain ⟨rfl, rfl, rfl⟩ := hc
    exact ⟨[], Sl.nil, Nat.zero_le _, fun z hz => by cases hz⟩
  · simp at hc
    obtain ⟨rfl, rfl, rfl⟩ := hc
    simp only [if_true] at hmm
    have each : ∀ i, i < l → ∃ q : α, (∀ j u, (encα q)[j]? = some u → w.cell? (a'.add (i * k + j)) = some u) ∧ Q q := fun i hi => by
      obtain ⟨cs', h1, h2⟩ := hall i (by omega)
      rw [ce] at h1
      obtain ⟨_, _, hcell⟩ := World.cells?_some h1
      obtain ⟨z, hQ, rfl⟩ := hel _ _ _ h2
      refine ⟨z, fun j u hj => ?_, hQ⟩
      have hj7 : j < k := by have := (List.getElem?_eq_some_iff.1 hj).1; rwa [hk] at this
      have := hcell j hj7
      rw [Deep.add_add] at this
      rw [this]; exact hj
    obtain ⟨q, hq'⟩ := Deep.choose_lt each
    have hq := fun i hi => (hq' i hi).1
    refine ⟨(List.range l).map q, ?_, by omega, fun z hz => by
      obtain ⟨i, hi, rfl⟩ := List.mem_map.1 hz
      exact (hq' i (List.mem_range.1 hi)).2⟩
    refine ⟨by simp, fun h0 => ?_⟩
    obtain ⟨b, off, spot⟩ := a'
    have hne : (encα (q 0))[0]? = some (encα (q 0))[0]! := by
      have h1 : 0 < (encα (q 0)).length := by rw [hk]; exact hk0
      rw [List.getElem?_eq_getElem h1, getElem!_pos _ 0 h1]
    have h00 := hq 0 h0 0 _ hne
    have hs : spot = none := by simpa [Addr.add] using World.cell?_spot h00
    subst hs
    have hlt : b < w.heap.size := by
      rw [add_plain] at h00
      exact cell_lt' h00
    refine ⟨b, off, rfl, Nat.zero_le _, hlt, fun i y hy j u hu => ?_⟩
    have hi : i < l := by
      have := (List.getElem?_eq_some_iff.1 hy).1
      simpa using this
    have hxe : q i = y := by simpa [hi] using hy
    subst hxe
    have g0 := hq i hi j u hu
    rw [add_plain] at g0
    rw [Nat.add_assoc]; exact g0
theorem sl_of_trod {α : Type} [Inhabited α] {encα : α → List Value} {k : Nat} {t e : TypeId} {fuel : Nat} {a : Option Addr} {l c : Nat} {x : DataW H × List MemPlace}
    (ht : P.underlying t = some (.slice e)) (ce : P.cellsOf e = k) (hk : ∀ z, (encα z).length = k) (hk0 : 0 < k)
    (hel : ∀ n cs y, DataW.trod enc P w 0 (fun _ => true) held n e cs = some y → ∃ z, cs = encα z)
    (hf : DataW.trod enc P w 0 (fun _ => true) held fuel t [.slice a l c] = some x) :
    ∃ zs : List α, Sl w 0 w.heap.size k encα a l zs ∧ l ≤ maxLen := by
  obtain ⟨zs, h1, h2, _⟩ := sl_of_trodQ (fun _ => True) ht ce hk hk0 (fun n cs y h => by obtain ⟨z, hz⟩ := hel n cs y h; exact ⟨z, trivial, hz⟩) hf
  exact ⟨zs, h1, h2⟩
/-- A slice of slices: each of its values is a slice whose elements are known. -/
theorem rows_of_trod {α : Type} [Inhabited α] {encα : α → List Value} {k : Nat} {t ti e : TypeId} {fuel : Nat} {a : Option Addr} {l c : Nat} {x : DataW H × List MemPlace}
    (ht : P.underlying t = some (.slice ti)) (hti : P.underlying ti = some (.slice e)) (ci : P.cellsOf ti = 1) (ce : P.cellsOf e = k) (hk : ∀ z, (encα z).length = k) (hk0 : 0 < k)
    (hel : ∀ n cs y, DataW.trod enc P w 0 (fun _ => true) held n e cs = some y → ∃ z, cs = encα z)
    (hf : DataW.trod enc P w 0 (fun _ => true) held fuel t [.slice a l c] = some x) :
    ∃ vs : List Value, Sl w 0 w.heap.size 1 (fun v => [v]) a l vs ∧ l ≤ maxLen ∧ ∀ v ∈ vs, ∃ (a' : Option Addr) (l' c' : Nat) (zs : List α), v = .slice a' l' c' ∧ Sl w 0 w.heap.size k encα a' l' zs ∧ l' ≤ maxLen := by
  haveI : Inhabited Value := ⟨.int .i64 0⟩
  refine sl_of_trodQ (encα := fun v : Value => [v]) (fun v => ∃ (a' : Option Addr) (l' c' : Nat) (zs : List α), v = .slice a' l' c' ∧ Sl w 0 w.heap.size k encα a' l' zs ∧ l' ≤ maxLen) ht ci (fun _ => rfl) (by omega) ?_ hf
  intro n cs y hy
  obtain ⟨a', l', c', rfl⟩ := Joins.slice_form hti hy
  obtain ⟨zs, h1, h2⟩ := sl_of_trod hti ce hk hk0 hel hy
  exact ⟨.slice a' l' c', ⟨a', l', c', zs, rfl, h1, h2⟩, rfl⟩
/-- Cells that read as an int of the program's. -/
theorem cs_int {e : TypeId} {k : IntKind} {base : Nat} {spare : Nat → Bool} (he : P.underlying e = some (.int k)) {n : Nat} {cs : List Value} {y : DataW H × List MemPlace} (h : DataW.trod enc P w base spare held n e cs = some y) : ∃ z : Int, cs = [.int k z] := by
  obtain ⟨z, hz, _⟩ := DataW.trod_int he h
  exact ⟨z, hz⟩
end
end Go.Proofs.YtccmchmemafjdaaGreatDoor
