/- Chapter 54 in memory: graphs, dies, lists of lists; small laws that many walks share. -/
import Derived.Test.YtdokpmfejibdlaaGreatDoorS5v
import Derived.Test.YtdokpmfejibdlaaGreatDoorWd
import Derived.Laws.OwnMore
import Derived.Deep.Quiet
import Derived.Deep.QuietTactic
import Derived.BigQuiet
import Derived.Deep.RegionHeld3
import Derived.IntWalk
set_option linter.unusedSimpArgs false
set_option linter.unusedVariables false
namespace Go.Proofs.YtdokpmfejibdlaaGreatDoor
open Go.RowKit

theorem all_take {α : Type} {p : α → Prop} {xs : List α} {k : Nat} {x : α} (hx : xs[k]? = some x) (hn : ∀ y ∈ xs.take k, p y) (h : p x) : ∀ y ∈ xs.take (k + 1), p y := fun y hy => by
  rcases (mem_take_snoc hx).1 hy with h' | rfl
  · exact hn y h'
  · exact h
theorem any_hit {α : Type} {p : α → Bool} {xs : List α} {k : Nat} {x : α} (hx : xs[k]? = some x) (h : p x = true) : xs.any p = true := List.any_eq_true.2 ⟨x, List.mem_of_getElem? hx, h⟩
theorem any_miss {α : Type} {p : α → Bool} {xs : List α} (h : ∀ y ∈ xs, p y = false) : xs.any p = false := List.any_eq_false.2 fun x hx => by rw [h x hx]; decide
theorem take_all {α : Type} {xs : List α} {n : Nat} (h : xs.length = n) : xs.take n = xs := List.take_of_length_le (by omega)
theorem flat_one {α β : Type} (f : α → β) : ∀ (l : List α), l.flatMap (fun x => [f x]) = l.map f
  | [] => rfl
  | x :: l => by rw [List.flatMap_cons, flat_one f l]; rfl
theorem countP_snocW {α : Type} {p : α → Bool} {xs : List α} {k : Nat} {x : α} (h : xs[k]? = some x) : (xs.take (k + 1)).countP p = (xs.take k).countP p + (if p x = true then 1 else 0) := by
  rw [takeSnocW h, List.countP_append, List.countP_cons, List.countP_nil, Nat.zero_add]
def encE (x : Int × Int) : List Value := [.int .i64 x.1, .int .i64 x.2]
theorem encE_len (x : Int × Int) : (encE x).length = 2 := rfl
theorem encE_one (x : Int × Int) : ∀ v ∈ encE x, v.oneCell' = true := by
  intro v hv
  simp only [encE, List.mem_cons, List.not_mem_nil, or_false] at hv
  rcases hv with rfl | rfl <;> rfl
def encL (x : Lnk) : List Value := [.int .i64 x.id, .int .i64 x.obv, .int .i64 x.rev]
theorem encL_len (x : Lnk) : (encL x).length = 3 := rfl
theorem encL_one (x : Lnk) : ∀ v ∈ encL x, v.oneCell' = true := by
  intro v hv
  simp only [encL, List.mem_cons, List.not_mem_nil, or_false] at hv
  rcases hv with rfl | rfl | rfl <;> rfl
def encD (x : DieP) : List Value := [.int .i64 x.side, .int .i64 x.num]
theorem encD_len (x : DieP) : (encD x).length = 2 := rfl
theorem encD_one (x : DieP) : ∀ v ∈ encD x, v.oneCell' = true := by
  intro v hv
  simp only [encD, List.mem_cons, List.not_mem_nil, or_false] at hv
  rcases hv with rfl | rfl <;> rfl
theorem Sl.in_ {w : World} {L B n : Nat} {A : Option Addr} {xs : List Int} {i : Nat} (h : Sl w L B 1 encI A n xs) (hi : i < n) : ∃ b off x, A = some ⟨b, off, none⟩ ∧ b < B ∧ xs[i]? = some x ∧ w.cell? ⟨b, off + i, none⟩ = some (.int .i64 x) := by
  obtain ⟨b, off, x, h1, _, h2, h3, h4⟩ := Sl.one_ (enc := fun n => .int .i64 n) h hi
  exact ⟨b, off, x, h1, h2, h3, h4⟩
theorem Sl.ln {w : World} {L B n : Nat} {A : Option Addr} {xs : List Lnk} {i : Nat} (h : Sl w L B 3 encL A n xs) (hi : i < n) : ∃ b off x, A = some ⟨b, off, none⟩ ∧ b < B ∧ xs[i]? = some x ∧
    w.cell? ⟨b, off + i * 3, none⟩ = some (.int .i64 x.id) ∧ w.cell? ⟨b, off + i * 3 + 1, none⟩ = some (.int .i64 x.obv) ∧ w.cell? ⟨b, off + i * 3 + 2, none⟩ = some (.int .i64 x.rev) := by
  obtain ⟨b, off, x, h1, h0, h2, h3, h4⟩ := h.at_ hi
  exact ⟨b, off, x, h1, h2, h3, h4 0 _ rfl, h4 1 _ rfl, h4 2 _ rfl⟩
theorem Sl.di {w : World} {L B n : Nat} {A : Option Addr} {xs : List DieP} {i : Nat} (h : Sl w L B 2 encD A n xs) (hi : i < n) : ∃ b off x, A = some ⟨b, off, none⟩ ∧ b < B ∧ xs[i]? = some x ∧
    w.cell? ⟨b, off + i * 2, none⟩ = some (.int .i64 x.side) ∧ w.cell? ⟨b, off + i * 2 + 1, none⟩ = some (.int .i64 x.num) := by
  obtain ⟨b, off, x, h1, h0, h2, h3, h4⟩ := h.at_ hi
  exact ⟨b, off, x, h1, h2, h3, h4 0 _ rfl, h4 1 _ rfl⟩
/-- A graph in memory. -/
structure GrM (w : World) (A : Option Addr) (n : Nat) (B : Option Addr) (m : Nat) (C : Option Addr) (k : Nat) (g : Gr) : Prop where
  obv : Sl w 0 w.heap.size 1 encI A n g.obv
  rev : Sl w 0 w.heap.size 1 encI B m g.rev
  links : Sl w 0 w.heap.size 3 encL C k g.links
theorem GrM.up {w w' : World} {A B C : Option Addr} {n m k : Nat} {g : Gr} (h : GrM w A n B m C k g) (hb : Below w.heap.size w w') : GrM w' A n B m C k g :=
  ⟨Sl.up h.obv hb (Nat.le_refl _) (Nat.le_refl _), Sl.up h.rev hb (Nat.le_refl _) (Nat.le_refl _), Sl.up h.links hb (Nat.le_refl _) (Nat.le_refl _)⟩
theorem GrM.zero {w : World} : GrM w none 0 none 0 none 0 grZero := ⟨Sl.nil, Sl.nil, Sl.nil⟩
/-- A list of lists of numbers in memory. -/
structure LoS (w : World) (A : Option Addr) (n : Nat) (zs : List (List Int)) : Prop where
  ex : ∃ vs : List Value, Sl w 0 w.heap.size 1 (fun v => [v]) A n vs ∧ vs.length = zs.length ∧ ∀ (i : Nat) (v : Value) (z : List Int), vs[i]? = some v → zs[i]? = some z → ∃ a m c, v = .slice a m c ∧ (m ≤ 1000000 ∧ m ≤ c) ∧ Sl w 0 w.heap.size 1 encI a m z
theorem LoS.up {w w' : World} {A : Option Addr} {n : Nat} {zs : List (List Int)} (h : LoS w A n zs) (hb : Below w.heap.size w w') : LoS w' A n zs := by
  obtain ⟨vs, h1, h2, h3⟩ := h.ex
  exact ⟨vs, h1.up hb (Nat.le_refl _) (Nat.le_refl _), h2, fun i v x hv hx => by
    obtain ⟨a, m, c, k1, k2, k3⟩ := h3 i v x hv hx
    exact ⟨a, m, c, k1, k2, k3.up hb (Nat.le_refl _) (Nat.le_refl _)⟩⟩
theorem LoS.len {w : World} {A : Option Addr} {n : Nat} {zs : List (List Int)} (h : LoS w A n zs) : zs.length = n := by
  obtain ⟨vs, h1, h2, _⟩ := h.ex
  rw [← h2, h1.len]
theorem LoS.at_ {w : World} {A : Option Addr} {n : Nat} {zs : List (List Int)} {i : Nat} (h : LoS w A n zs) (hi : i < n) : ∃ b off z a m c, A = some ⟨b, off, none⟩ ∧ b < w.heap.size ∧ zs[i]? = some z ∧
    w.cell? ⟨b, off + i, none⟩ = some (.slice a m c) ∧ (m ≤ 1000000 ∧ m ≤ c) ∧ Sl w 0 w.heap.size 1 encI a m z := by
  obtain ⟨vs, h1, h2, h3⟩ := h.ex
  obtain ⟨b, off, v, k1, _, k2, k3, k4⟩ := Sl.one_ (enc := fun v => v) h1 hi
  have hl : i < zs.length := by rw [← h2, h1.len]; exact hi
  obtain ⟨a, m, c, e1, e2, e3⟩ := h3 i v zs[i] k3 (List.getElem?_eq_getElem hl)
  exact ⟨b, off, zs[i], a, m, c, k1, k2, List.getElem?_eq_getElem hl, by rw [k4, e1], e2, e3⟩
theorem keep4P {w0 w1 : World} {p1 p2 p3 p4 : Addr} {v1 v2 v3 v4 : Value} (h1 : w0.cell? p1 = some v1) (h2 : w0.cell? p2 = some v2) (h3 : w0.cell? p3 = some v3) (h4 : w0.cell? p4 = some v4)
    (l1 : p1.block < w0.heap.size) (l2 : p2.block < w0.heap.size) (l3 : p3.block < w0.heap.size) (l4 : p4.block < w0.heap.size) (hb : Below w0.heap.size w0 w1) :
    w1.cell? p1 = some v1 ∧ w1.cell? p2 = some v2 ∧ w1.cell? p3 = some v3 ∧ w1.cell? p4 = some v4 ∧ Below w0.heap.size w0 w1 :=
  ⟨(hb.cell l1).trans h1, (hb.cell l2).trans h2, (hb.cell l3).trans h3, (hb.cell l4).trans h4, hb⟩
theorem last5P {a1 a2 a3 a4 z : Prop} (h : a1 ∧ a2 ∧ a3 ∧ a4 ∧ z) : z := h.2.2.2.2
theorem Tryz.infoI : (Tryz.prog.info? 3).map (fun i => (i.zero, i.size, i.bytes)) = some (some (.int .i64 0), 1, 8) := by kernel_rfl
end Go.Proofs.YtdokpmfejibdlaaGreatDoor
