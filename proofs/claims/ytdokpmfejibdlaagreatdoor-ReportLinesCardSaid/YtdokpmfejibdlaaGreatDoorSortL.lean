/- From an owned row to the sort's words, and back. -/
import Derived.Test.YtdokpmfejibdlaaGreatDoorBase
import Derived.Shelf.SlSortCmp.NoneTotal
import Derived.Lib.OwnBridge
set_option linter.unusedSimpArgs false
set_option linter.unusedVariables false
namespace Go.Proofs.YtdokpmfejibdlaaGreatDoor
open Go.RowKit Go.Sort

section
variable {α : Type} [Inhabited α] {k : Nat} {enc : α → List Value}
theorem flatK_get (hk : ∀ x, (enc x).length = k) (d : Array α) (t : Nat) (ht : t < d.size * k) : (flatK enc k d)[t]! = (enc d[t / k]!)[t % k]! := by
  unfold flatK
  rw [getElem!_pos _ _ (by simpa using ht)]
  simp
theorem size_flatK' (d : Array α) : (flatK enc k d).size = d.size * k := by simp [flatK]
theorem holdsK_of_own (hk : ∀ x, (enc x).length = k) {w : World} {base : Nat} {e : TypeId} {g n cap : Nat} {xs : List α} (h : w.ownsRow base e k (.slice (some ⟨g, 0, none⟩) n cap) n (xs.flatMap enc)) (hl : xs.length = n) :
    HoldsK enc k w g 0 xs.toArray := by
  intro t ht
  rw [size_flatK'] at ht
  simp only [List.size_toArray] at ht
  have hk0 : 0 < k := by
    rcases Nat.eq_zero_or_pos k with h0 | h0
    · subst h0; simp at ht
    · exact h0
  have hi : t / k < xs.length := (Nat.div_lt_iff_lt_mul hk0).2 ht
  have hj : t % k < (enc xs[t / k]).length := by rw [hk]; exact Nat.mod_lt _ hk0
  refine ⟨?_, h.frozenAt _⟩
  rw [flatK_get hk _ _ (by simpa using ht), Nat.zero_add, h.cellAt t (by rw [← hl]; exact ht)]
  have h2 := flat_at hk xs (t / k) xs[t / k] (t % k) ((enc xs[t / k])[t % k]) (List.getElem?_eq_getElem hi) (List.getElem?_eq_getElem hj)
  rw [show t / k * k + t % k = t from by rw [Nat.mul_comm]; exact Nat.div_add_mod t k] at h2
  rw [h2]
  simp [getElem!_pos, hi, hj]
theorem sl_of_holdsK (hk : ∀ x, (enc x).length = k) {w : World} {g base : Nat} {d : Array α} (h : HoldsK enc k w g 0 d) (hb : base ≤ g) (hg : g < w.heap.size) : Sl w base w.heap.size k enc (some ⟨g, 0, none⟩) d.size d.toList := by
  refine ⟨by simp, fun _ => ⟨g, 0, rfl, hb, hg, fun i x hx j u hu => ?_⟩⟩
  obtain ⟨hi, rfl⟩ := List.getElem?_eq_some_iff.1 hx
  have hi' : i < d.size := by simpa using hi
  have hj : j < k := by
    rcases Nat.lt_or_ge j k with h1 | h1
    · exact h1
    · rw [List.getElem?_eq_none (by rw [hk]; exact h1)] at hu; cases hu
  have ht : i * k + j < d.size * k := by
    have : (i + 1) * k ≤ d.size * k := Nat.mul_le_mul_right _ hi'
    rw [Nat.succ_mul] at this; omega
  have := (h (i * k + j) (by rw [size_flatK']; exact ht)).1
  rw [flatK_get hk _ _ ht] at this
  have e1 : (i * k + j) / k = i := by
    rw [Nat.mul_comm, Nat.mul_add_div (by omega), Nat.div_eq_of_lt hj, Nat.add_zero]
  have e2 : (i * k + j) % k = j := by rw [Nat.mul_comm, Nat.mul_add_mod, Nat.mod_eq_of_lt hj]
  rw [e1, e2] at this
  rw [show (0 : Nat) + i * k + j = 0 + (i * k + j) from by omega, this]
  obtain ⟨hj', rfl⟩ := List.getElem?_eq_some_iff.1 hu
  have hj2 : j < (enc d[i]).length := by simpa using hj'
  simp [getElem!_pos, hi', hj2]
theorem sl_sorted (hk : ∀ x, (enc x).length = k) {w : World} {base : Nat} {e : TypeId} {g n cap q : Nat} {xs : List α} {d' : Array α} {os : Array Obj} (h : w.ownsRow base e k (.slice (some ⟨g, 0, none⟩) n cap) n (xs.flatMap enc)) (hl : xs.length = n) (hs : d'.size = n) (hbg : base ≤ g) (hg : g < w.heap.size) :
    Sl (sortWorldK enc k w g 0 q d' os) base (sortWorldK enc k w g 0 q d' os).heap.size k enc (some ⟨g, 0, none⟩) n d'.toList := by
  have h0 := holdsK_of_own hk h hl
  have h1 : HoldsK enc k (putRowK enc k (Sort.ahead w q) g 0 d') g 0 d' := holdsK_putRowK enc k (Sort.ahead w q) g 0 xs.toArray d' h0 (by simp [hs, hl])
  have hz : (putRowK enc k (Sort.ahead w q) g 0 d').heap.size = w.heap.size := by unfold putRowK; simp [Sort.ahead]
  have h2 : HoldsK enc k (sortWorldK enc k w g 0 q d' os) g 0 d' := holdsK_grow enc k _ os g 0 d' (by rw [hz]; exact hg) h1
  have h3 := sl_of_holdsK hk (base := base) h2 hbg (by
    unfold sortWorldK
    show g < ((putRowK enc k (Sort.ahead w q) g 0 d').heap ++ os).size
    rw [Array.size_append, hz]; omega)
  rw [← hs]; exact h3
theorem below_sorted {w : World} {B g q : Nat} {d' : Array α} {os : Array Obj} (hB : B ≤ g) (hg : g < w.heap.size) : Below B w (sortWorldK enc k w g 0 q d' os) := by
  have h1 : Below B w (putRowK enc k (Sort.ahead w q) g 0 d') := Lib.below_putRow (enc := id) (d := flatK enc k d') (Below.refl B w) hB
  have hz : (putRowK enc k (Sort.ahead w q) g 0 d').heap.size = w.heap.size := by unfold putRowK; simp [Sort.ahead]
  refine h1.trans ⟨rfl, rfl, rfl, ?_, fun j hj => ?_⟩
  · show _ ≤ ((putRowK enc k (Sort.ahead w q) g 0 d').heap ++ os).size
    simp
  · show ((putRowK enc k (Sort.ahead w q) g 0 d').heap ++ os)[j]? = _
    rw [Array.getElem?_append_left (by rw [hz]; omega)]
end
end Go.Proofs.YtdokpmfejibdlaaGreatDoor
