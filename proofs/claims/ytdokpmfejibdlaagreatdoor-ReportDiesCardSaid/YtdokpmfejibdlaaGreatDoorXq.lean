/- Chapter 54: the reference's lines of dies. -/
import Derived.Test.YtdokpmfejibdlaaGreatDoorXp
set_option linter.unusedSimpArgs false
set_option linter.unusedVariables false
namespace Go.Proofs.YtdokpmfejibdlaaGreatDoor
open Go.RowKit

/-- What stands after a list of words, the first one behind a space, and what stands ahead of the next. -/
def sepJ (L : List (List UInt8)) : List UInt8 := if L = [] then [] else 32 :: joinL [44, 32] L
def comJ (L : List (List UInt8)) : List UInt8 := if L = [] then [32] else [44, 32]
theorem joinL_snoc (sep : List UInt8) : ∀ (L : List (List UInt8)) (x : List UInt8), L ≠ [] → joinL sep (L ++ [x]) = joinL sep L ++ sep ++ x
  | [], _, h => absurd rfl h
  | [a], x, _ => by simp [joinL]
  | a :: b :: r, x, _ => by
    have ih := joinL_snoc sep (b :: r) x (by simp)
    simp only [List.cons_append] at ih ⊢
    rw [joinL, ih, joinL]
    simp [List.append_assoc]
theorem sepJ_snoc (L : List (List UInt8)) (x : List UInt8) : sepJ (L ++ [x]) = sepJ L ++ comJ L ++ x := by
  unfold sepJ comJ
  by_cases h : L = []
  · subst h; simp [joinL]
  · rw [if_neg h, if_neg h, if_neg (by simp), joinL_snoc _ _ _ h]; simp
theorem comJ_snoc (L : List (List UInt8)) (x : List UInt8) : comJ (L ++ [x]) = [44, 32] := by unfold comJ; rw [if_neg (by simp)]
theorem comJ_len (L : List (List UInt8)) : (comJ L).length ≤ 2 := by unfold comJ; split <;> decide
theorem sepJ_len (L : List (List UInt8)) : (sepJ L).length ≤ 1 + (joinL [44, 32] L).length := by unfold sepJ; split <;> simp <;> omega
/-- The line of a die as the reference makes it. -/
theorem dline_ref {xs : List Spm} {g : Gr} {side n : Int} (hd : degG g ⟨side, n⟩ ≠ 0) (hs : statesS xs ⟨side, n⟩ ≠ []) (hp : partnersG g ⟨side, n⟩ ≠ []) :
    nameL side n ++ [58, 32] ++ Lib.itoa (degG g ⟨side, n⟩ : Nat) ++ [32, 115, 112, 101, 99, 105, 109, 101, 110] ++ (if 1 < degG g ⟨side, n⟩ then [115] else []) ++ [59, 32, 115, 116, 97, 116, 101, 115] ++ sepJ ((statesS xs ⟨side, n⟩).map letterT) ++
      [59, 32, 119, 105, 116, 104] ++ sepJ ((partnersG g ⟨side, n⟩).map (nameL (1 - side))) ++ [10] = dlineT xs g side n := by
  have e1 : sepJ ((statesS xs ⟨side, n⟩).map letterT) = 32 :: joinL [44, 32] ((statesS xs ⟨side, n⟩).map letterT) := if_neg (by simpa using hs)
  have e2 : sepJ ((partnersG g ⟨side, n⟩).map (nameL (1 - side))) = 32 :: joinL [44, 32] ((partnersG g ⟨side, n⟩).map (nameL (1 - side))) := if_neg (by simpa using hp)
  unfold dlineT
  rw [e1, e2]
  by_cases h1 : degG g ⟨side, n⟩ = 1
  · rw [if_pos h1, if_neg (by omega)]; simp
  · rw [if_neg h1, if_pos (by omega)]; simp
/-- States, one after the other. -/
def statT (xs : List Spm) (side n : Int) (q : Nat) : List Int := ((List.range q).map (fun k : Nat => (k : Int) + 1)).filter (fun k => xs.any (fun s => (sideW s side).1 == n && (sideW s side).2 == k))
theorem statT_succ (xs : List Spm) (side n : Int) (q : Nat) : statT xs side n (q + 1) = statT xs side n q ++ (if xs.any (fun s => (sideW s side).1 == n && (sideW s side).2 == (q : Int) + 1) = true then [(q : Int) + 1] else []) := by
  unfold statT
  rw [List.range_succ, List.map_append, List.filter_append]
  congr 1
  simp only [List.map_cons, List.map_nil, List.filter_cons, List.filter_nil]
theorem statT_len (xs : List Spm) (side n : Int) (q : Nat) : (statT xs side n q).length ≤ q := by
  unfold statT
  refine Nat.le_trans (List.length_filter_le _ _) ?_
  simp
theorem statT_all {xs : List Spm} (h : grE xs = 0) (side n : Int) : statT xs side n 9 = statesS xs ⟨side, n⟩ := by
  obtain ⟨_, hok⟩ := spm_ok h
  refine (states_ref xs ⟨side, n⟩ fun s hs => ?_).symm
  have := hok s hs
  unfold sideW
  split
  · exact this.2.2.1
  · exact this.2.2.2.1
theorem any_snoc {α : Type} {p : α → Bool} {xs : List α} {k : Nat} {x : α} (h : xs[k]? = some x) : (xs.take (k + 1)).any p = ((xs.take k).any p || p x) := by
  rw [takeSnocW h, List.any_append]; simp
theorem states_ne {xs : List Spm} {side n : Int} (h : ∃ s ∈ xs, (sideW s side).1 = n) : statesS xs ⟨side, n⟩ ≠ [] := by
  obtain ⟨s, hs, e⟩ := h
  intro h0
  have : (sideW s side).2 ∈ statesS xs ⟨side, n⟩ := by
    unfold statesS
    rw [uniqI_mem]
    exact List.mem_map.2 ⟨s, List.mem_filter.2 ⟨hs, by simpa using e⟩, rfl⟩
  rw [h0] at this
  cases this
theorem parts_ne {g : Gr} {d : DieP} (h : degG g d ≠ 0) : partnersG g d ≠ [] := by
  have hp : 0 < g.links.countP (touchL d) := by unfold degG at h; omega
  obtain ⟨x, hx, e⟩ := List.countP_pos_iff.1 hp
  intro h0
  have : endL x (1 - d.side) ∈ partnersG g d := by
    unfold partnersG
    rw [uniqI_mem]
    exact List.mem_map.2 ⟨x, List.mem_filter.2 ⟨hx, e⟩, rfl⟩
  rw [h0] at this
  cases this
theorem die_ok {xs : List Spm} (h : grE xs = 0) {side n : Int} (hd : (⟨side, n⟩ : DieP) ∈ diesG (grOf xs)) : (side = 0 ∨ side = 1) ∧ degG (grOf xs) ⟨side, n⟩ ≠ 0 ∧ statesS xs ⟨side, n⟩ ≠ [] ∧ partnersG (grOf xs) ⟨side, n⟩ ≠ [] := by
  have hg := grOk_of h
  have hs : side = 0 ∨ side = 1 := by rcases diesG_mem.1 hd with ⟨h, _⟩ | ⟨h, _⟩; exact .inl h; exact .inr h
  have hn : n ∈ numsG (grOf xs) side := by
    rcases diesG_mem.1 hd with ⟨h1, h2⟩ | ⟨h1, h2⟩
    · obtain rfl : side = 0 := h1; exact h2
    · obtain rfl : side = 1 := h1; exact h2
  obtain ⟨_, h1⟩ := nums_ok hg hs hn
  refine ⟨hs, h1, states_ne ?_, parts_ne h1⟩
  rcases hs with rfl | rfl
  · obtain ⟨s, hs, e⟩ := List.mem_map.1 ((uniqI_mem _).1 (show n ∈ uniqI (xs.map Spm.obv) from hn))
    exact ⟨s, hs, e⟩
  · obtain ⟨s, hs, e⟩ := List.mem_map.1 ((uniqI_mem _).1 (show n ∈ uniqI (xs.map Spm.rev) from hn))
    exact ⟨s, hs, e⟩
/-- The dies of a side, one after the other. -/
def dsT (xs : List Spm) (g : Gr) (side : Int) (d : DieP) : List UInt8 := if d.side = side then dlineT xs g side d.num else []
theorem diesL_ref (xs : List Spm) (g : Gr) (side : Int) (h : side = 0 ∨ side = 1) : (diesG g).flatMap (dsT xs g side) = diesL xs g side := by
  unfold diesG diesL
  rw [List.flatMap_append, List.flatMap_map, List.flatMap_map]
  have e0 : ∀ (l : List Int), l.flatMap (fun _ => ([] : List UInt8)) = [] := fun l => by simp
  rcases h with rfl | rfl
  · rw [if_pos rfl]
    have e1 : (fun a : Int => dsT xs g 0 ⟨1, a⟩) = fun _ => [] := by funext a; unfold dsT; rw [if_neg (show ¬ ((1 : Int) = 0) by decide)]
    have e2 : (fun a : Int => dsT xs g 0 ⟨0, a⟩) = dlineT xs g 0 := by funext a; unfold dsT; rw [if_pos rfl]
    rw [e1, e2, e0, List.append_nil]
  · rw [if_neg (by decide)]
    have e1 : (fun a : Int => dsT xs g 1 ⟨0, a⟩) = fun _ => [] := by funext a; unfold dsT; rw [if_neg (show ¬ ((0 : Int) = 1) by decide)]
    have e2 : (fun a : Int => dsT xs g 1 ⟨1, a⟩) = dlineT xs g 1 := by funext a; unfold dsT; rw [if_pos rfl]
    rw [e1, e2, e0, List.nil_append]
theorem flatT_succ {xs : List DieP} {k : Nat} {x : DieP} (f : DieP → List UInt8) (h : xs[k]? = some x) : (xs.take (k + 1)).flatMap f = (xs.take k).flatMap f ++ f x := by
  rw [takeSnocW h, List.flatMap_append]; simp
theorem flatT_len {xs : List DieP} {f : DieP → List UInt8} {m : Nat} (h : ∀ d ∈ xs, (f d).length ≤ m) : ∀ k, ((xs.take k).flatMap f).length ≤ k * m := fun k => by
  have h1 : ∀ l : List DieP, (∀ d ∈ l, (f d).length ≤ m) → (l.flatMap f).length ≤ l.length * m := by
    intro l
    induction l with
    | nil => intro _; simp
    | cons a r ih =>
      intro hl
      have := ih fun d hd => hl d (by simp [hd])
      have := hl a (by simp)
      rw [List.flatMap_cons, List.length_append, List.length_cons, Nat.succ_mul]
      omega
  refine Nat.le_trans (h1 _ fun d hd => h d (List.mem_of_mem_take hd)) ?_
  exact Nat.mul_le_mul_right _ (by rw [List.length_take]; omega)
def stV (s : Spm) (side n : Int) : Int := if (sideW s side).1 = n then (sideW s side).2 else 0
theorem stV_eq {s : Spm} {side n k : Int} (hk : 1 ≤ k) : (stV s side n == k) = ((sideW s side).1 == n && (sideW s side).2 == k) := by
  unfold stV
  by_cases h : (sideW s side).1 = n
  · rw [if_pos h]; simp [h]
  · rw [if_neg h]
    have : ((0 : Int) == k) = false := by simp; omega
    rw [this]; simp [h]
set_option maxHeartbeats 1000000 in
theorem state54_any (s : Spm) (side num : Int) (w : World) (hsd : side = 0 ∨ side = 1) : Calls Tryz.prog 54 #[.agg #[.int .i64 s.id, .int .i64 s.obv, .int .i64 s.rev, .int .i64 s.os, .int .i64 s.rs, .int .i64 s.ax, .int .i64 s.wt], .agg #[.int .i64 side, .int .i64 num]] w fun e w' => e = .returned (.int .i64 (stV s side num)) ∧ Below w.heap.size w w' := by
  have HV : Hid (stV s side num = if (sideW s side).1 = num then (sideW s side).2 else 0) := rfl
  go_enter Tryz.func54, Tryz.ntmps54
  rcases hsd with rfl | rfl
  · have HE : Hid (sideW s 0 = (s.obv, s.os)) := rfl
    by_cases he : s.obv = num
    · have hb : (s.obv == num) = true := by simpa using he
      have HR : Hid (stV s 0 num = s.os) := by show _ = _; rw [HV.out, HE.out, if_pos he]
      clear he
      go_wp2_with fail
      go_ret
      exact ⟨by rw [HR.out]; rfl, by (repeat (first | exact Below.refl _ _ | assumption | refine Below.alloc ?_ (by first | omega | (simp only [World.size_alloc]; omega) | (simp; done) | (simp; omega)) _ | refine Below.setCell ?_ (by first | omega | (simp only [World.size_alloc]; omega) | (simp; done) | (simp; omega)) _ | refine Below.drew ?_ | refine below_drewN ?_ _))⟩
    · have hb : (s.obv == num) = false := by simpa using he
      have HR : Hid (stV s 0 num = 0) := by show _ = _; rw [HV.out, HE.out, if_neg he]
      clear he
      go_wp2_with fail
      go_ret
      exact ⟨by rw [HR.out]; rfl, by (repeat (first | exact Below.refl _ _ | assumption | refine Below.alloc ?_ (by first | omega | (simp only [World.size_alloc]; omega) | (simp; done) | (simp; omega)) _ | refine Below.setCell ?_ (by first | omega | (simp only [World.size_alloc]; omega) | (simp; done) | (simp; omega)) _ | refine Below.drew ?_ | refine below_drewN ?_ _))⟩
  · have HE : Hid (sideW s 1 = (s.rev, s.rs)) := rfl
    by_cases he : s.rev = num
    · have hb : (s.rev == num) = true := by simpa using he
      have HR : Hid (stV s 1 num = s.rs) := by show _ = _; rw [HV.out, HE.out, if_pos he]
      clear he
      go_wp2_with fail
      go_ret
      exact ⟨by rw [HR.out]; rfl, by (repeat (first | exact Below.refl _ _ | assumption | refine Below.alloc ?_ (by first | omega | (simp only [World.size_alloc]; omega) | (simp; done) | (simp; omega)) _ | refine Below.setCell ?_ (by first | omega | (simp only [World.size_alloc]; omega) | (simp; done) | (simp; omega)) _ | refine Below.drew ?_ | refine below_drewN ?_ _))⟩
    · have hb : (s.rev == num) = false := by simpa using he
      have HR : Hid (stV s 1 num = 0) := by show _ = _; rw [HV.out, HE.out, if_neg he]
      clear he
      go_wp2_with fail
      go_ret
      exact ⟨by rw [HR.out]; rfl, by (repeat (first | exact Below.refl _ _ | assumption | refine Below.alloc ?_ (by first | omega | (simp only [World.size_alloc]; omega) | (simp; done) | (simp; omega)) _ | refine Below.setCell ?_ (by first | omega | (simp only [World.size_alloc]; omega) | (simp; done) | (simp; omega)) _ | refine Below.drew ?_ | refine below_drewN ?_ _))⟩
end Go.Proofs.YtdokpmfejibdlaaGreatDoor
