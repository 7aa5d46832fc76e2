/- The next edition in steps: plain words for the walks of Next (chapter 47). -/
import Derived.Test.YtfanjghfilkhmaaGreatDoorGe
set_option linter.unusedSimpArgs false
set_option linter.unusedVariables false
namespace Go.Proofs.YtfanjghfilkhmaaGreatDoor
open Go.RowKit

theorem newEnts_append (e : Ed) : ∀ (a b : List Int) (t : Int), newEnts e (a ++ b) t = ((newEnts e a t).1 ++ (newEnts e b (newEnts e a t).2).1, (newEnts e b (newEnts e a t).2).2)
  | [], b, t => by simp [newEnts]
  | k :: a, b, t => by
    rw [List.cons_append]
    cases h : findE e k with
    | some n =>
      have ih := newEnts_append e a b t
      simp only [newEnts, h, ih, List.cons_append]
    | none =>
      have ih := newEnts_append e a b (t + 1)
      simp only [newEnts, h, ih, List.cons_append]
theorem newEnts_some {e : Ed} {l : List Int} {k : Nat} {x n t : Int} (h : l[k]? = some x) (hf : findE e x = some n) : newEnts e (l.take (k + 1)) t = ((newEnts e (l.take k) t).1 ++ [(x, n)], (newEnts e (l.take k) t).2) := by
  rw [take_snocS h, newEnts_append]
  simp [newEnts, hf]
theorem newEnts_none {e : Ed} {l : List Int} {k : Nat} {x t : Int} (h : l[k]? = some x) (hf : findE e x = none) : newEnts e (l.take (k + 1)) t = ((newEnts e (l.take k) t).1 ++ [(x, (newEnts e (l.take k) t).2 + 1)], (newEnts e (l.take k) t).2 + 1) := by
  rw [take_snocS h, newEnts_append]
  simp [newEnts, hf]
theorem newEnts_le (e : Ed) (l : List Int) (k : Nat) (t : Int) : (newEnts e (l.take k) t).2 ≤ (newEnts e l t).2 := by
  have h : newEnts e l t = newEnts e (l.take k ++ l.drop k) t := by rw [List.take_append_drop]
  rw [h, newEnts_append]
  exact newEnts_top e _ _
theorem newEnts_len (e : Ed) (l : List Int) (t : Int) : (newEnts e l t).1.length = l.length := by
  have := congrArg List.length (newEnts_keys e l t)
  simpa using this
theorem newEnts_up (e : Ed) : ∀ (l : List Int) (t : Int), (newEnts e l t).2 ≤ t + l.length
  | [], t => by simp [newEnts]
  | k :: l, t => by
    cases h : findE e k with
    | some n => have ih := newEnts_up e l t; simp only [newEnts, h, List.length_cons]; omega
    | none => have ih := newEnts_up e l (t + 1); simp only [newEnts, h, List.length_cons]; omega
def retPred (e : Ed) (l : List Int) (n : Int) : Bool := e.ret.contains n || (match ownE e n with | some key => !l.contains key | none => false)
def retK (e : Ed) (l : List Int) (k : Nat) : List Int := ((List.range k).map (fun (k : Nat) => (k : Int) + 1)).filter (retPred e l)
theorem retK_all (e : Ed) (l : List Int) : retK e l 999 = retR e l := rfl
theorem retK_yes {e : Ed} {l : List Int} {k : Nat} (h : retPred e l ((k : Int) + 1) = true) : retK e l (k + 1) = retK e l k ++ [(k : Int) + 1] := by
  unfold retK
  rw [List.range_succ, List.map_append, List.filter_append]
  simp [h]
theorem retK_no {e : Ed} {l : List Int} {k : Nat} (h : retPred e l ((k : Int) + 1) = false) : retK e l (k + 1) = retK e l k := by
  unfold retK
  rw [List.range_succ, List.map_append, List.filter_append]
  simp [h]
theorem retK_len (e : Ed) (l : List Int) (k : Nat) : (retK e l k).length ≤ k := by
  unfold retK
  refine Nat.le_trans (List.length_filter_le _ _) ?_
  simp
theorem retP_ret {e : Ed} {l : List Int} {n : Int} (h : n ∈ e.ret) : retPred e l n = true := by
  unfold retPred; rw [Bool.or_eq_true]; exact .inl (by simpa using h)
theorem retP_none {e : Ed} (hv : validE e) {l : List Int} {n : Int} (h : n ∉ e.ret) (h0 : ¬ 0 < own0 e n) : retPred e l n = false := by
  have hc : e.ret.contains n = false := by rw [← Bool.not_eq_true, List.contains_iff_mem]; exact h
  unfold retPred
  rw [hc]
  cases ho : ownE e n with
  | none => rfl
  | some key =>
    have := own_pos hv ho
    rw [own0_of ho] at h0
    exact absurd (show (0 : Int) < key by omega) h0
theorem retP_some {e : Ed} {l : List Int} {n : Int} (h : n ∉ e.ret) (h0 : 0 < own0 e n) : retPred e l n = !decide (own0 e n ∈ l) := by
  have hc : e.ret.contains n = false := by rw [← Bool.not_eq_true, List.contains_iff_mem]; exact h
  unfold retPred
  rw [hc]
  cases ho : ownE e n with
  | none => rw [own0_of ho] at h0; exact absurd h0 (by decide)
  | some key =>
    rw [own0_of ho]
    show (false || !l.contains key) = !decide (key ∈ l)
    rw [Bool.false_or]
    congr 1
    rw [Bool.eq_iff_iff, List.contains_iff_mem, decide_eq_true_iff]
theorem next_arg {e : Ed} {l : List Int} (h : ¬ (validE e ∧ okList l 9999)) : nextE 1 6 2 e l = (edZero, 1) := by unfold nextE; rw [if_neg h]
theorem next_full {e : Ed} {l : List Int} (h : validE e ∧ okList l 9999) (h2 : 64 < (retE e l).length) : nextE 1 6 2 e l = (edZero, 6) := by unfold nextE; rw [if_pos h, if_neg (by omega)]
theorem next_range {e : Ed} {l : List Int} (h : validE e ∧ okList l 9999) (h2 : (retE e l).length ≤ 64) (h3 : 999 < (newEnts e l (topE e)).2) : nextE 1 6 2 e l = (edZero, 2) := by unfold nextE; rw [if_pos h, if_pos h2, if_neg (by omega)]
theorem next_ok {e : Ed} {l : List Int} (h : validE e ∧ okList l 9999) (h2 : (retE e l).length ≤ 64) (h3 : (newEnts e l (topE e)).2 ≤ 999) : nextE 1 6 2 e l = (⟨(newEnts e l (topE e)).1, retE e l⟩, 0) := by unfold nextE; rw [if_pos h, if_pos h2, if_pos h3]; rfl
/-- An edition handed back with a code. -/
def EdOut (w : World) (out : Ed) (code : Int) (r : Ending) (w' : World) : Prop :=
  (∃ A n c A' n' c', r = .returned (.tuple #[.agg #[.slice A n c, .slice A' n' c'], .int .i64 code]) ∧ EdS w' A n A' n' out) ∧ Below w.heap.size w w'
/-! ### Boxes of two cells written. -/
section
variable {w w' : World} {b B D : Nat} {vs : List Value}
theorem Bx.keepD (h : Bx w b vs) (hb : Below D w w') (hD : b < D) : Bx w' b vs :=
  ⟨Nat.lt_of_lt_of_le h.lt hb.size, fun j u hu => (hb.cell (p := ⟨b, j, none⟩) hD).trans (h.cell j u hu), fun j => (hb.frozen (p := ⟨b, j, none⟩) hD).trans (h.frz j)⟩
theorem Bx.all2 {a0 a1 : Value} (h : Bx w b [a0, a1]) (u0 u1 : Value) : Bx ((w.setCell ⟨b, 0, none⟩ u0).setCell ⟨b, 1, none⟩ u1) b [u0, u1] :=
  (h.set (i := 0) (by simp) u0).set (i := 1) (by simp) u1
theorem below_set2 (h : Below B w w') (hb : B ≤ b) (u0 u1 : Value) : Below B w ((w'.setCell ⟨b, 0, none⟩ u0).setCell ⟨b, 1, none⟩ u1) := (h.setCell hb _).setCell hb _
theorem size_set (w : World) (p : Addr) (u : Value) : (w.setCell p u).heap.size = w.heap.size := by simp [World.setCell]
theorem Sl.set_hi {α : Type} {k n L : Nat} {enc : α → List Value} {A : Option Addr} {xs : List α} (h : Sl w L B k enc A n xs) {p : Addr} (hp : B ≤ p.block) (u : Value) : Sl (w.setCell p u) L B k enc A n xs :=
  h.keep fun b o _ hb => World.cell?_setCell_other w p ⟨b, o, none⟩ u (fun e => by subst e; simp at hp; omega)
end
end Go.Proofs.YtfanjghfilkhmaaGreatDoor
