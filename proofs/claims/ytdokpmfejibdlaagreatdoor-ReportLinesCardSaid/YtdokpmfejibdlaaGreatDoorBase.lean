/- What all walks share: slices that read as lists, what is kept. -/
import Derived.WalkKit
import Derived.WalkSmall
import Derived.Lib.Hide
import Derived.Deep.AppendLies
import Derived.Deep.Draws
namespace Go.Proofs.YtdokpmfejibdlaaGreatDoor
open Go.RowKit

theorem ret_int {k : IntKind} {a b : Int} (h : a = b) : Ending.returned (.int k a) = .returned (.int k b) := by rw [h]
theorem ret_bool {a b : Bool} (h : a = b) : Ending.returned (.bool a) = .returned (.bool b) := by rw [h]
theorem ret_str {a b : List UInt8} (h : a = b) : Ending.returned (.string ⟨a.toArray⟩) = .returned (.string ⟨b.toArray⟩) := by rw [h]

theorem bcell {W w1 : World} {B : Nat} (hb : Below B W w1) : (∀ b o, b < B → w1.cell? ⟨b, o, none⟩ = W.cell? ⟨b, o, none⟩) ∧ (∀ b o, b < B → w1.frozen? ⟨b, o, none⟩ = W.frozen? ⟨b, o, none⟩) :=
  ⟨fun b o h => hb.cell (p := ⟨b, o, none⟩) h, fun b o h => hb.frozen (p := ⟨b, o, none⟩) h⟩

/-- The slice value '.slice A n c' reads as the list xs, k cells an element, in a block from L on and below B. -/
def Sl {α : Type} (w : World) (L B k : Nat) (enc : α → List Value) (A : Option Addr) (n : Nat) (xs : List α) : Prop :=
  xs.length = n ∧ (0 < n → ∃ b off, A = some ⟨b, off, none⟩ ∧ L ≤ b ∧ b < B ∧ ∀ i x, xs[i]? = some x → ∀ j u, (enc x)[j]? = some u → w.cell? ⟨b, off + i * k + j, none⟩ = some u)

section
variable {α : Type} {w w' : World} {L L' B B' k n : Nat} {enc : α → List Value} {A : Option Addr} {xs : List α}
theorem Sl.nil : Sl w L B k enc A 0 [] := ⟨rfl, fun h => absurd h (by omega)⟩
theorem Sl.len (h : Sl w L B k enc A n xs) : xs.length = n := h.1
theorem Sl.at_ {i : Nat} (h : Sl w L B k enc A n xs) (hi : i < n) : ∃ b off x, A = some ⟨b, off, none⟩ ∧ L ≤ b ∧ b < B ∧ xs[i]? = some x ∧ ∀ j u, (enc x)[j]? = some u → w.cell? ⟨b, off + i * k + j, none⟩ = some u := by
  obtain ⟨b, off, e, ha, hb, hc⟩ := h.2 (by omega)
  have hl : i < xs.length := by have := h.1; omega
  exact ⟨b, off, xs[i], e, ha, hb, List.getElem?_eq_getElem hl, hc i _ (List.getElem?_eq_getElem hl)⟩
theorem Sl.one_ {enc : α → Value} {i : Nat} (h : Sl w L B 1 (fun x => [enc x]) A n xs) (hi : i < n) :
    ∃ b off x, A = some ⟨b, off, none⟩ ∧ L ≤ b ∧ b < B ∧ xs[i]? = some x ∧ w.cell? ⟨b, off + i, none⟩ = some (enc x) := by
  obtain ⟨b, off, x, h1, h0, h2, h3, h4⟩ := h.at_ hi
  exact ⟨b, off, x, h1, h0, h2, h3, by have := h4 0 _ rfl; rwa [Nat.mul_one, Nat.add_zero] at this⟩
theorem Sl.keep (h : Sl w L B k enc A n xs) (hk : ∀ b o, L ≤ b → b < B → w'.cell? ⟨b, o, none⟩ = w.cell? ⟨b, o, none⟩) : Sl w' L B k enc A n xs :=
  ⟨h.1, fun hn => by
    obtain ⟨b, off, e, ha, hb, hc⟩ := h.2 hn
    exact ⟨b, off, e, ha, hb, fun i x hx j u hu => (hk _ _ ha hb).trans (hc i x hx j u hu)⟩⟩
theorem Sl.more (h : Sl w L B k enc A n xs) (hB : B ≤ B') : Sl w L B' k enc A n xs :=
  ⟨h.1, fun hn => by
    obtain ⟨b, off, e, ha, hb, hc⟩ := h.2 hn
    exact ⟨b, off, e, ha, by omega, hc⟩⟩
theorem Sl.less (h : Sl w L B k enc A n xs) (hL : L' ≤ L) : Sl w L' B k enc A n xs :=
  ⟨h.1, fun hn => by
    obtain ⟨b, off, e, ha, hb, hc⟩ := h.2 hn
    exact ⟨b, off, e, by omega, hb, hc⟩⟩
theorem Sl.any (h : Sl w L B k enc A n xs) : Sl w 0 B k enc A n xs := h.less (Nat.zero_le _)
theorem Sl.below {D : Nat} (h : Sl w L B k enc A n xs) (hb : Below D w w') (hD : B ≤ D) : Sl w' L B k enc A n xs := h.keep fun b o _ hp => hb.cell (p := ⟨b, o, none⟩) (by show b < D; omega)
theorem Sl.alloc (h : Sl w L w.heap.size k enc A n xs) (o : Obj) : Sl (w.alloc o) L (w.alloc o).heap.size k enc A n xs :=
  (h.below ((Below.refl _ w).alloc (Nat.le_refl _) o) (Nat.le_refl _)).more (by simp)
theorem Sl.up {D : Nat} (h : Sl w L B k enc A n xs) (hb : Below D w w') (hB : B ≤ D) (hD : D ≤ w.heap.size) : Sl w' L w'.heap.size k enc A n xs :=
  (h.below hb hB).more (Nat.le_trans hB (Nat.le_trans hD hb.size))
/-- A store below the row. -/
theorem Sl.set_ (h : Sl w L B k enc A n xs) {p : Addr} (hp : p.block < L) (u : Value) : Sl (w.setCell p u) L B k enc A n xs :=
  h.keep fun b o hb _ => World.cell?_setCell_other w p ⟨b, o, none⟩ u (fun e => by subst e; simp at hp; omega)
theorem Sl.cut (h : Sl w L B k enc A n xs) (m : Nat) (hm : m ≤ n) : Sl w L B k enc A m (xs.take m) := by
  refine ⟨by rw [List.length_take, h.1]; omega, fun hn => ?_⟩
  obtain ⟨b, off, e, ha, hb, hc⟩ := h.2 (by omega)
  refine ⟨b, off, e, ha, hb, fun i x hx j u hu => hc i x ?_ j u hu⟩
  rw [List.getElem?_take] at hx
  split at hx
  · exact hx
  · cases hx
end

/-- What the call owns reads as a list. -/
theorem flat_at {α : Type} {k : Nat} {enc : α → List Value} (hk : ∀ x, (enc x).length = k) : ∀ (xs : List α) (i : Nat) (x : α) (j : Nat) (u : Value), xs[i]? = some x → (enc x)[j]? = some u → (xs.flatMap enc)[i * k + j]? = some u
  | [], i, x, j, u, hx, _ => by simp at hx
  | y :: ys, 0, x, j, u, hx, hu => by
    simp at hx
    subst hx
    have hj : j < (enc y).length := by
      rcases Nat.lt_or_ge j (enc y).length with h | h
      · exact h
      · rw [List.getElem?_eq_none h] at hu; cases hu
    rw [List.flatMap_cons, Nat.zero_mul, Nat.zero_add, List.getElem?_append_left hj]
    exact hu
  | y :: ys, i + 1, x, j, u, hx, hu => by
    simp at hx
    have ih := flat_at hk ys i x j u hx hu
    rw [List.flatMap_cons, List.getElem?_append_right (by rw [hk y, Nat.succ_mul]; omega), hk y, ← ih]
    congr 1
    rw [Nat.succ_mul]; omega
theorem flat_len {α : Type} {k : Nat} {enc : α → List Value} (hk : ∀ x, (enc x).length = k) : ∀ (xs : List α), (xs.flatMap enc).length = xs.length * k
  | [] => by simp
  | y :: ys => by rw [List.flatMap_cons, List.length_append, flat_len hk ys, hk y, List.length_cons, Nat.succ_mul]; omega

theorem Sl.of_own {α : Type} {w : World} {k : Nat} {enc : α → List Value} (hk : ∀ x, (enc x).length = k) {base : Nat} {e : TypeId} {A : Option Addr} {n c : Nat} {xs : List α}
    (h : w.ownsRow base e k (.slice A n c) n (xs.flatMap enc)) (hl : xs.length = n) : Sl w base w.heap.size k enc A n xs := by
  refine ⟨hl, fun hn => ?_⟩
  rcases h.2 with ⟨hv, hxs⟩ | ⟨g, cap, cur, hv, hg, hb, _⟩
  · injection hv with h1 h2 h3
    omega
  · injection hv with h1
    have hlt : g < w.heap.size := by
      rcases Nat.lt_or_ge g w.heap.size with hlt | hge
      · exact hlt
      · rw [Array.getElem?_eq_none hge] at hb; cases hb
    refine ⟨g, 0, h1, hg, hlt, fun i x hx j u hu => ?_⟩
    have hc := h.cells (g := g) (by rw [h1]; rfl) (i * k + j) u (flat_at hk xs i x j u hx hu)
    rw [Addr.add] at hc
    split at hc
    · rename_i h0
      rw [show 0 + i * k + j = 0 from by omega]
      exact hc
    · rw [show 0 + i * k + j = 0 + (i * k + j) from by omega]
      exact hc
theorem ownsRow_drewN {w : World} {base : Nat} {e : TypeId} {k : Nat} {v : Value} {n : Nat} {xs : List Value} (h : w.ownsRow base e k v n xs) (q : Nat) : (w.drewN q).ownsRow base e k v n xs := h
theorem own_form {w : World} {base : Nat} {e : TypeId} {k : Nat} {v : Value} {n : Nat} {xs : List Value} (h : w.ownsRow base e k v n xs) : ∃ A c, v = .slice A n c ∧ n ≤ c := by
  rcases h.2 with ⟨hv, h0⟩ | ⟨g, cap, cur, hv, _, _, hc, _⟩
  · exact ⟨none, 0, by rw [hv, h0], by omega⟩
  · exact ⟨_, _, hv, hc⟩
theorem add_lists {P : Program} (x y : List UInt8) (h : x.length + y.length ≤ 1000000) : ∀ W, (Op.stringOp .add ⟨x.toArray⟩ ⟨y.toArray⟩).run P W = .ok (.string ⟨(x ++ y).toArray⟩) W := fun W => by
  rw [run_string_add_sum W _ _ (by simp only [ByteArray.size, List.size_toArray]; omega), ByteArray.mk_append_mk]
end Go.Proofs.YtdokpmfejibdlaaGreatDoor
