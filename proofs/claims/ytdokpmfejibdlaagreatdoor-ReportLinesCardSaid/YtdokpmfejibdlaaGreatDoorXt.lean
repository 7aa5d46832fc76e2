/- Chapter 54: ReportLines: how many lines and words there are (plain laws), and the law's walk. -/
import Derived.Test.YtdokpmfejibdlaaGreatDoorXh
import Derived.Test.YtdokpmfejibdlaaGreatDoorXz
set_option linter.unusedSimpArgs false
set_option linter.unusedVariables false
namespace Go.Proofs.YtdokpmfejibdlaaGreatDoor
open Go.RowKit Go.Maps

theorem itoa_no {n : Int} (h : 0 ≤ n) {c : UInt8} (hc : ¬ isDig c) : c ∉ Lib.itoa n := fun hm => hc (itoa_dig n h c hm)
theorem d10 : ¬ isDig 10 := by unfold isDig; decide
theorem name_no {side n : Int} {c : UInt8} (hc : ¬ isDig c) (h1 : c ≠ 79) (h2 : c ≠ 82) : c ∉ nameL side n := by
 unfold nameL labS
 split
 ·rename_i h
  obtain ⟨_, ⟨g1, _⟩, _⟩ := (okLab_iff _).1 h
  intro hm
  rcases List.mem_append.1 hm with hm | hm
  ·rcases List.mem_append.1 hm with hm | hm
   ·unfold sideS at hm
    split at hm <;> (rw [List.mem_singleton] at hm; first | exact h1 hm | exact h2 hm)
   ·exact itoa_no (by simpa using (show (0 : Int) ≤ n by simp only at g1; omega)) hc hm
  ·unfold stS at hm
   simp at hm
 ·simp
theorem n79 : (32 : UInt8) ≠ 79 ∧ (32 : UInt8) ≠ 82 ∧ (10 : UInt8) ≠ 79 ∧ (10 : UInt8) ≠ 82 := by decide
theorem row_nonneg {g : Gr} (hg : GrOk g) (i : Nat) : ((matrixG g).getD i []).length ≤ 32 ∧ ∀ x ∈ (matrixG g).getD i [], 0 ≤ x ∧ x ≤ 64 := by
 rw [List.getD_eq_getElem?_getD]
 cases hc : (matrixG g)[i]? with
 | none => simp
 | some r => exact matrixG_row hg r (List.mem_of_getElem? hc)
theorem numT_no {x : Int} (h : 0 ≤ x) : (10 : UInt8) ∉ numT x := by
 unfold numT
 intro hm
 rcases List.mem_cons.1 hm with hm | hm
 ·revert hm; decide
 ·exact itoa_no h d10 hm
def dtail (xs : List Spm) (g : Gr) (side n : Int) : List UInt8 :=
 (if degG g ⟨side, n⟩ = 1 then [115, 112, 101, 99, 105, 109, 101, 110] else [115, 112, 101, 99, 105, 109, 101, 110, 115]) ++ [59, 32, 115, 116, 97, 116, 101, 115, 32] ++
  joinL [44, 32] ((statesS xs ⟨side, n⟩).map letterT) ++ [59, 32, 119, 105, 116, 104, 32] ++ joinL [44, 32] ((partnersG g ⟨side, n⟩).map (nameL (1 - side)))
def dbody (xs : List Spm) (g : Gr) (side n : Int) : List UInt8 := (nameL side n ++ [58]) ++ 32 :: (Lib.itoa (degG g ⟨side, n⟩ : Nat) ++ 32 :: dtail xs g side n)
theorem join_no {c : UInt8} {sep : List UInt8} (hs : c ∉ sep) : ∀ {ss : List (List UInt8)}, (∀ s ∈ ss, c ∉ s) → c ∉ joinL sep ss
 | [], _ => by simp [joinL]
 | [x], h => by simpa [joinL] using h x (by simp)
 | x :: y :: r, h => by
  have ih := join_no hs (ss := y :: r) (fun s hm => h s (by simp [hm]))
  rw [joinL]
  intro hm
  rcases List.mem_append.1 hm with hm | hm
  ·rcases List.mem_append.1 hm with hm | hm
   ·exact h x (by simp) hm
   ·exact hs hm
  ·exact ih hm
theorem letter_no {s : Int} (h1 : 1 ≤ s) (h2 : s ≤ 9) : (10 : UInt8) ∉ letterT s := by
 have h : s = 1 ∨ s = 2 ∨ s = 3 ∨ s = 4 ∨ s = 5 ∨ s = 6 ∨ s = 7 ∨ s = 8 ∨ s = 9 := by omega
 rcases h with rfl | rfl | rfl | rfl | rfl | rfl | rfl | rfl | rfl <;> decide
theorem dbody_no {xs : List Spm} {g : Gr} {side n : Int} (hst : ∀ s ∈ statesS xs ⟨side, n⟩, 1 ≤ s ∧ s ≤ 9) : (10 : UInt8) ∉ dbody xs g side n := by
 have hw : (10 : UInt8) ∉ (if degG g ⟨side, n⟩ = 1 then [115, 112, 101, 99, 105, 109, 101, 110] else [115, 112, 101, 99, 105, 109, 101, 110, 115] : List UInt8) := by split <;> decide
 have hj1 : (10 : UInt8) ∉ joinL [44, 32] ((statesS xs ⟨side, n⟩).map letterT) := join_no (by decide) (fun s hs => by
  obtain ⟨z, hz, rfl⟩ := List.mem_map.1 hs
  exact letter_no (hst z hz).1 (hst z hz).2)
 have hj2 : (10 : UInt8) ∉ joinL [44, 32] ((partnersG g ⟨side, n⟩).map (nameL (1 - side))) := join_no (by decide) (fun s hs => by
  obtain ⟨z, hz, rfl⟩ := List.mem_map.1 hs
  exact name_no d10 n79.2.2.1 n79.2.2.2)
 have hn : (10 : UInt8) ∉ nameL side n := name_no d10 n79.2.2.1 n79.2.2.2
 have hi : (10 : UInt8) ∉ Lib.itoa (degG g ⟨side, n⟩ : Nat) := itoa_no (by omega) d10
 unfold dbody dtail
 simp only [List.mem_append, List.mem_cons, List.not_mem_nil, or_false, not_or]
 simp only [hn, hi, hw, hj1, hj2]
 decide
theorem dline_body (xs : List Spm) (g : Gr) (side n : Int) : dlineT xs g side n = dbody xs g side n ++ [10] := by
 unfold dlineT dbody dtail
 simp
theorem sum_ind {x : Nat} : ∀ n : Nat, x < n → ((List.range n).map (fun k => if x = k then 1 else 0)).sum = 1 := by
 have h0 : ∀ n : Nat, n ≤ x → ((List.range n).map (fun k => if x = k then 1 else 0)).sum = 0 := by
  intro n
  induction n with
  | zero => intro _; rfl
  | succ n ih =>
   intro h
   rw [List.range_succ, List.map_append, List.sum_append, ih (by omega)]
   simp; omega
 intro n
 induction n with
 | zero => intro h; omega
 | succ n ih =>
  intro h
  rw [List.range_succ, List.map_append, List.sum_append]
  by_cases e : x = n
  ·rw [h0 n (by omega)]; simp [e]
  ·rw [ih (by omega)]; simp [e]
theorem sum_map_add' {α : Type} (f g : α → Nat) : ∀ l : List α, (l.map (fun k => f k + g k)).sum = (l.map f).sum + (l.map g).sum
 | [] => rfl
 | x :: l => by simp only [List.map_cons, List.sum_cons]; rw [sum_map_add' f g l]; omega
theorem sum_filter_len {n : Nat} {f : Nat → Nat} : ∀ l : List Nat, (∀ a ∈ l, f a < n) → ((List.range n).map (fun k => (l.filter (fun i => decide (f i = k))).length)).sum = l.length
 | [], _ => by
  have : ∀ m : Nat, ((List.range m).map (fun _ => 0)).sum = 0 := fun m => by induction m with
   | zero => rfl
   | succ m ih => rw [List.range_succ, List.map_append, List.sum_append, ih]; rfl
  exact this n
 | a :: l, h => by
  have e : (fun k => ((a :: l).filter (fun i => decide (f i = k))).length) = fun k => (if f a = k then 1 else 0) + (l.filter (fun i => decide (f i = k))).length := by
   funext k
   by_cases c : f a = k
   ·rw [List.filter_cons_of_pos (by simpa using c), if_pos c, List.length_cons]; omega
   ·rw [List.filter_cons_of_neg (by simpa using c), if_neg c]; omega
  rw [e, sum_map_add', sum_ind n (h a (by simp)), sum_filter_len l (fun b hb => h b (by simp [hb]))]
  rw [List.length_cons]; omega
theorem filterMap_len {α β : Type} {f : α → Option β} : ∀ l : List α, (∀ a ∈ l, (f a).isSome = true) → (l.filterMap f).length = l.length
 | [], _ => rfl
 | a :: l, h => by
  have ih := filterMap_len (f := f) l (fun b hb => h b (by simp [hb]))
  have h1 := h a (by simp)
  cases e : f a with
  | none => rw [e] at h1; cases h1
  | some b => rw [List.filterMap_cons_some e, List.length_cons, List.length_cons, ih]
theorem range_getD {α β : Type} (css : List α) (d : α) (f : α → β) : (List.range css.length).map (fun i => f (css.getD i d)) = css.map f := by
 apply List.ext_getElem?
 intro i
 rw [List.getElem?_map, List.getElem?_map]
 rcases Nat.lt_or_ge i css.length with h | h
 ·rw [List.getElem?_range h, List.getElem?_eq_getElem h]; simp [List.getD_eq_getElem?_getD, h]
 ·rw [List.getElem?_eq_none (by simpa using h), List.getElem?_eq_none h]; rfl
theorem count_flat {α : Type} {f : α → List UInt8} {b : UInt8} {m : Nat} : ∀ l : List α, (∀ x ∈ l, (f x).count b = m) → (l.flatMap f).count b = l.length * m
 | [], _ => by simp
 | x :: l, h => by
  rw [List.flatMap_cons, List.count_append, count_flat l (fun y hy => h y (by simp [hy])), h x (by simp), List.length_cons, Nat.succ_mul]
  omega
theorem none_of {l : List UInt8} {b : UInt8} (h : b ∉ l) : l.count b = 0 := List.count_eq_zero_of_not_mem h
theorem dline_nl {xs : List Spm} {g : Gr} {side n : Int} (hst : ∀ s ∈ statesS xs ⟨side, n⟩, 1 ≤ s ∧ s ≤ 9) : (dlineT xs g side n).count 10 = 1 := by
 rw [dline_body, List.count_append, none_of (dbody_no hst)]; rfl
theorem dies_nl {xs : List Spm} {g : Gr} {side : Int} (hst : ∀ n, ∀ s ∈ statesS xs ⟨side, n⟩, 1 ≤ s ∧ s ≤ 9) : (diesL xs g side).count 10 = (if side = 0 then g.obv else g.rev).length := by
 unfold diesL
 rw [count_flat (m := 1) _ (fun n _ => dline_nl (hst n)), Nat.mul_one]
theorem name_nl (side n : Int) : (nameL side n).count 10 = 0 ∧ (nameL side n).count 32 = 0 := ⟨none_of (name_no d10 n79.2.2.1 n79.2.2.2), none_of (name_no sp_space n79.1 n79.2.1)⟩
theorem mrow_nl {g : Gr} (hg : GrOk g) (i : Nat) : (mrowT g i).count 10 = 1 := by
 unfold mrowT
 rw [List.count_append, List.count_append, (name_nl _ _).1, count_flat (m := 0) _ (fun x hx => none_of (numT_no ((row_nonneg hg i).2 x hx).1))]
 rfl
theorem matrix_nl {g : Gr} (hg : GrOk g) : (matrixL g).count 10 = g.obv.length + 1 := by
 unfold matrixL
 rw [List.count_append, List.count_append, List.count_append, count_flat (m := 1) _ (fun i _ => mrow_nl hg i), count_flat (m := 0) _ (fun r _ => ?_), List.length_range]
 ·simp; omega
 ·rw [List.count_cons, (name_nl 1 r).1]; rfl
theorem dieT_nl (d : DieP) : (dieT d).count 10 = 0 ∧ (dieT d).count 32 = 1 := by
 unfold dieT
 rw [List.count_cons, List.count_cons, (name_nl _ _).1, (name_nl _ _).2]
 exact ⟨rfl, rfl⟩
theorem chain_nl (css : List (List DieP)) (i : Nat) : (chainT54 css i).count 10 = 1 ∧ (chainT54 css i).count 32 = (css.getD i []).length := by
 unfold chainT54
 have h1 : (Lib.itoa ((i : Int) + 1)).count 10 = 0 := none_of (itoa_no (by omega) d10)
 have h2 : (Lib.itoa ((i : Int) + 1)).count 32 = 0 := none_of (itoa_no (by omega) sp_space)
 have h3 := count_flat (b := 10) (m := 0) (css.getD i []) (fun d _ => (dieT_nl d).1)
 have h4 := count_flat (b := 32) (m := 1) (css.getD i []) (fun d _ => (dieT_nl d).2)
 constructor
 ·rw [List.count_append, List.count_append, List.count_append, h1, h3]; rfl
 ·rw [List.count_append, List.count_append, List.count_append, h2, h4]
  simp
theorem chains_nl (css : List (List DieP)) : (chainsL css).count 10 = css.length := by
 unfold chainsL
 rw [count_flat (m := 1) _ (fun i _ => (chain_nl css i).1), List.length_range, Nat.mul_one]
theorem chains_sp (css : List (List DieP)) : (chainsL css).count 32 = (css.map List.length).sum := by
 unfold chainsL
 rw [List.count_flatMap, ← range_getD css []]
 congr 1
 exact List.map_congr_left fun i _ => (chain_nl css i).2
theorem chainG_len (g : Gr) (k : Nat) : (chainG g k).length = ((List.range (diesG g).length).filter (fun i => decide (partI g i = k))).length := by
 unfold chainG
 refine filterMap_len _ fun i hi => ?_
 have := List.mem_range.1 (List.mem_filter.1 hi).1
 rw [List.getElem?_eq_getElem this]
 rfl
theorem chainsG_sum (g : Gr) : ((chainsG g).map List.length).sum = g.obv.length + g.rev.length := by
 unfold chainsG
 rw [List.map_map, show (List.length ∘ chainG g) = fun k => ((List.range (diesG g).length).filter (fun i => decide (partI g i = k))).length from funext fun k => chainG_len g k,
  sum_filter_len _ (fun a ha => partI_lt (List.mem_range.1 ha)), List.length_range, diesG_len]
theorem chainsG_len (g : Gr) : (chainsG g).length = cntF g (diesG g).length := by unfold chainsG; simp
theorem part_onto {g : Gr} : ∀ n : Nat, n ≤ (diesG g).length → ∀ k, k < cntF g n → ∃ i, i < n ∧ FirstI g i ∧ cntF g i = k
 | 0, _, k, h => by unfold cntF at h; simp at h
 | n + 1, hn, k, h => by
  rcases Nat.lt_or_ge k (cntF g n) with h1 | h1
  ·obtain ⟨i, h2, h3⟩ := part_onto n (by omega) k h1
   exact ⟨i, by omega, h3⟩
  ·rw [cntF_succ] at h
   by_cases c : isFirst g n = true
   ·rw [if_pos c] at h
    exact ⟨n, by omega, isFirst_iff.1 c, by omega⟩
   ·rw [if_neg c] at h; omega
/-- Each component has a die of either side. -/
theorem comp_side {g : Gr} (hg : GrOk g) {i : Nat} (hi : i < (diesG g).length) : (∃ j, j < g.obv.length ∧ partI g j = partI g i) ∧ (∃ j, j < g.rev.length ∧ partI g (g.obv.length + j) = partI g i) := by
 have hd : (diesG g)[i]? = some (diesG g)[i] := List.getElem?_eq_getElem hi
 have hm : (diesG g)[i] ∈ diesG g := List.getElem_mem hi
 generalize (diesG g)[i] = d at *
 have ho : ∀ x ∈ g.links, ∃ j, j < g.obv.length ∧ (diesG g)[j]? = some (obvD x) := fun x hx => by
  obtain ⟨j, h1, e1⟩ := List.getElem_of_mem ((hg.eo x.obv).2 ⟨x, hx, rfl⟩)
  refine ⟨j, h1, ?_⟩
  unfold diesG
  rw [List.getElem?_append_left (by simpa using h1), List.getElem?_map, List.getElem?_eq_getElem h1, e1]; rfl
 have hr : ∀ x ∈ g.links, ∃ j, j < g.rev.length ∧ (diesG g)[g.obv.length + j]? = some (revD x) := fun x hx => by
  obtain ⟨j, h1, e1⟩ := List.getElem_of_mem ((hg.er x.rev).2 ⟨x, hx, rfl⟩)
  refine ⟨j, h1, ?_⟩
  unfold diesG
  rw [List.getElem?_append_right (by simp), List.length_map, Nat.add_sub_cancel_left, List.getElem?_map, List.getElem?_eq_getElem h1, e1]; rfl
 have link : ∃ x ∈ g.links, d = obvD x ∨ d = revD x := by
  obtain ⟨s, n⟩ := d
  rcases diesG_mem.1 hm with ⟨h1, h2⟩ | ⟨h1, h2⟩
  ·obtain ⟨x, hx, e⟩ := (hg.eo _).1 h2
   simp only at h1 e
   exact ⟨x, hx, .inl (by rw [h1, ← e]; rfl)⟩
  ·obtain ⟨x, hx, e⟩ := (hg.er _).1 h2
   simp only at h1 e
   exact ⟨x, hx, .inr (by rw [h1, ← e]; rfl)⟩
 obtain ⟨x, hx, e⟩ := link
 have hR : Reach g (obvD x) (revD x) := .step .refl ⟨x, hx, across_iff.2 (.inl ⟨rfl, rfl⟩)⟩
 obtain ⟨jo, ho1, ho2⟩ := ho x hx
 obtain ⟨jr, hr1, hr2⟩ := hr x hx
 rcases e with rfl | rfl
 ·exact ⟨⟨jo, ho1, partI_congr ⟨_, _, ho2, hd, .refl⟩⟩, ⟨jr, hr1, partI_congr ⟨_, _, hr2, hd, hR.symm⟩⟩⟩
 ·exact ⟨⟨jo, ho1, partI_congr ⟨_, _, ho2, hd, hR⟩⟩, ⟨jr, hr1, partI_congr ⟨_, _, hr2, hd, .refl⟩⟩⟩
theorem comp_le {g : Gr} (hg : GrOk g) : cntF g (diesG g).length ≤ g.obv.length ∧ cntF g (diesG g).length ≤ g.rev.length := by
 constructor
 ·have := nodup_sub_len (l := List.range (cntF g (diesG g).length)) (m := (List.range g.obv.length).map (partI g)) List.nodup_range fun k hk => by
   obtain ⟨i, hi, hf, e⟩ := part_onto _ (Nat.le_refl _) k (List.mem_range.1 hk)
   obtain ⟨⟨j, hj, ej⟩, _⟩ := comp_side hg hi
   rw [partI_first hi hf, e] at ej
   exact List.mem_map.2 ⟨j, List.mem_range.2 hj, ej⟩
  simpa using this
 ·have := nodup_sub_len (l := List.range (cntF g (diesG g).length)) (m := (List.range g.rev.length).map (fun j => partI g (g.obv.length + j))) List.nodup_range fun k hk => by
   obtain ⟨i, hi, hf, e⟩ := part_onto _ (Nat.le_refl _) k (List.mem_range.1 hk)
   obtain ⟨_, ⟨j, hj, ej⟩⟩ := comp_side hg hi
   rw [partI_first hi hf, e] at ej
   exact List.mem_map.2 ⟨j, List.mem_range.2 hj, ej⟩
  simpa using this
theorem comp_pos {g : Gr} : 0 < cntF g (diesG g).length ↔ 0 < (diesG g).length := by
 constructor
 ·intro h
  have := cntF_le g (diesG g).length
  omega
 ·intro h
  have h1 := cntF_mono (g := g) (show 1 ≤ (diesG g).length from h)
  have h2 : cntF g 1 = cntF g 0 + (if isFirst g 0 = true then 1 else 0) := cntF_succ g 0
  rw [if_pos (isFirst_iff.2 fun j hj => absurd hj (Nat.not_lt_zero _))] at h2
  omega
/-- The distinct numbers of a list, in the order in which they come. -/
def seenI : List Int → List Int := fun l => l.foldl (fun o x => if x ∈ o then o else o ++ [x]) []
theorem seenI_snoc (l : List Int) (x : Int) : seenI (l ++ [x]) = if x ∈ seenI l then seenI l else seenI l ++ [x] := by unfold seenI; rw [List.foldl_append]; rfl
theorem seenI_ok : ∀ l : List Int, (seenI l).Nodup ∧ ∀ x, x ∈ seenI l ↔ x ∈ l := by
 refine snocIndW ⟨List.nodup_nil, fun x => by simp [seenI]⟩ fun l x ⟨h1, h2⟩ => ?_
 rw [seenI_snoc]
 by_cases c : x ∈ seenI l
 ·rw [if_pos c]
  refine ⟨h1, fun y => ?_⟩
  rw [h2, List.mem_append, List.mem_singleton]
  exact ⟨.inl, fun h => h.elim id fun e => by rw [e]; exact (h2 x).1 c⟩
 ·rw [if_neg c]
  refine ⟨List.nodup_append.2 ⟨h1, by simp, fun a ha b hb => ?_⟩, fun y => ?_⟩
  ·rw [List.mem_singleton] at hb
   rintro rfl
   exact c (hb ▸ ha)
  ·rw [List.mem_append, List.mem_append, h2]
theorem seenI_len (l : List Int) : (seenI l).length = (uniqI l).length := by
 have h1 := seenI_ok l
 have hn : (uniqI l).Nodup := (uniqI_asc l).imp fun h => Int.ne_of_lt h
 refine Nat.le_antisymm (nodup_sub_len h1.1 fun x hx => (uniqI_mem l).2 ((h1.2 x).1 hx)) (nodup_sub_len hn fun x hx => (h1.2 x).2 ((uniqI_mem l).1 hx))
theorem statesS_rng {xs : List Spm} (h : grE xs = 0) (side : Int) (n : Int) : ∀ s ∈ statesS xs ⟨side, n⟩, 1 ≤ s ∧ s ≤ 9 := by
 intro s hs
 unfold statesS at hs
 rw [uniqI_mem] at hs
 obtain ⟨x, hx, rfl⟩ := List.mem_map.1 hs
 have := (spm_ok h).2 x (List.mem_filter.1 hx).1
 unfold sideW
 split
 ·exact this.2.2.1
 ·exact this.2.2.2.1
/-- What the law wants of the texts, as plain numbers. -/
theorem lines_plain {xs : List Spm} (h : grE xs = 0) : (dL xs 0).count 10 = (uniqI (xs.map Spm.obv)).length ∧ (dL xs 1).count 10 = (uniqI (xs.map Spm.rev)).length ∧ (repL xs (matrixL (grOf xs))).count 10 = (uniqI (xs.map Spm.obv)).length + 1 ∧
  ((repL xs (chainsL (chainsG (grOf xs)))).count 10 ≤ (uniqI (xs.map Spm.obv)).length ∧ (repL xs (chainsL (chainsG (grOf xs)))).count 10 ≤ (uniqI (xs.map Spm.rev)).length) ∧
  (0 < (repL xs (chainsL (chainsG (grOf xs)))).count 10 ↔ 0 < xs.length) ∧ (repL xs (chainsL (chainsG (grOf xs)))).count 32 = (uniqI (xs.map Spm.obv)).length + (uniqI (xs.map Spm.rev)).length := by
 have hg := grOk_of h
 have e0 : dE xs 0 = 0 := by unfold dE; rw [if_pos h, if_pos (.inl rfl)]
 have e1 : dE xs 1 = 0 := by unfold dE; rw [if_pos h, if_pos (.inr rfl)]
 have r0 : ∀ t, repL xs t = t := fun t => if_pos h
 have ho : (grOf xs).obv = uniqI (xs.map Spm.obv) := rfl
 have hr : (grOf xs).rev = uniqI (xs.map Spm.rev) := rfl
 have hc := comp_le hg
 refine ⟨?_, ?_, ?_, ?_, ?_, ?_⟩
 ·unfold dL; rw [if_pos e0, dies_nl (statesS_rng h 0), if_pos rfl, ho]
 ·unfold dL; rw [if_pos e1, dies_nl (statesS_rng h 1), if_neg (by decide), hr]
 ·rw [r0, matrix_nl hg, ho]
 ·rw [r0, chains_nl, chainsG_len, ← ho, ← hr]; exact hc
 ·rw [r0, chains_nl, chainsG_len, comp_pos, diesG_len, ho, hr]
  constructor
  ·intro hp
   cases hx : xs with
   | nil => rw [hx] at hp; simp [uniqI] at hp
   | cons a l => simp
  ·intro hp
   have : 0 < (uniqI (xs.map Spm.obv)).length := by
    cases hx : xs with
    | nil => rw [hx] at hp; simp at hp
    | cons a l => exact List.length_pos_of_mem ((uniqI_mem _).2 (by simp : a.obv ∈ (a :: l).map Spm.obv))
   omega
 ·rw [r0, chains_sp, chainsG_sum, ho, hr]
theorem has_bool (l : List Int) (x : Int) : l.contains x = decide (x ∈ l) := by simp
theorem seen_step {xs : List Spm} {j : Nat} {x : Spm} (f : Spm → Int) (h : xs[j]? = some x) : seenI ((xs.take (j + 1)).map f) = if f x ∈ seenI ((xs.take j).map f) then seenI ((xs.take j).map f) else seenI ((xs.take j).map f) ++ [f x] := by
 rw [takeSnocW h, List.map_append]
 exact seenI_snoc _ _
theorem seen_le (f : Spm → Int) (xs : List Spm) (j : Nat) : (seenI ((xs.take j).map f)).length ≤ j := by
 rw [seenI_len]
 refine Nat.le_trans (uniqI_len _) ?_
 rw [List.length_map, List.length_take]; omega
set_option maxRecDepth 100000 in
set_option maxHeartbeats 8000000 in
theorem lines_law (A : Option Addr) (len cap : Nat) (xs : List Spm) (w : World) (hE : Env w) (hS : Sl w 0 w.heap.size 7 encS A len xs) (hlm : len ≤ maxLen) :
  Calls Tryz.prog 7 #[.slice A len cap] w fun e w' => e = .returned (.bool true) ∧ Below w.heap.size w w' := by
 have HEN : Hid (∀ W, Below w.heap.size w W → Env W) := fun W hW => hE.step hW
 have HS : Hid (∀ W, Below w.heap.size w W → Sl W 0 W.heap.size 7 encS A len xs) := fun W hW => hS.up hW (Nat.le_refl _) (Nat.le_refl _)
 have HAW : Hid (∀ W, Below w.heap.size w W → Calls Tryz.prog 10 #[] W fun e w' => e = .returned (.bool true) ∧ Below W.heap.size W w') := fun W hW => awake_any W (HEN.out W hW)
 have HFW : Hid (∀ W, Below w.heap.size w W → Calls Tryz.prog 11 #[.slice A len cap] W fun e w' => e = .returned (.bool (fewB len xs)) ∧ Below W.heap.size W w') := fun W hW => few_law A len cap xs W (HS.out W hW) hlm
 have HLX := Lib.hid hS.len
 clear hS hE
 go_enter Tryz.func7, Tryz.ntmps7
 go_wp2_with fail
 refine (HAW.out _ (Below.refl _ _)).mono ?_; rintro e w1 ⟨rfl, hb1⟩
 go_wp2_with fail
 refine (HFW.out _ hb1).mono ?_; rintro e w2 ⟨rfl, hb2⟩
 replace hb2 := below_keep' hb1 hb2
 cases hf : fewB len xs
 ·go_wp2_with fail
  refine (HAW.out _ hb2).mono ?_; rintro e w3 ⟨rfl, hb3⟩
  go_wp2_with fail
  go_ret
  exact ⟨rfl, below_keep' hb2 hb3⟩
 have hlt200 := fewB_lt hf
 clear hlm hb1 hf HFW
 have HCK : Hid (∀ W, Below w.heap.size w W → Calls Tryz.prog 24 #[.slice A len cap] W fun e w' => e = .returned (.int .i64 (chk xs)) ∧ Below W.heap.size W w') := fun W hW => bcheck_any A len cap xs W (by omega) (HS.out W hW)
 go_wp2_with fail
 refine (HCK.out _ hb2).mono ?_; rintro e w3 ⟨rfl, hb3⟩
 replace hb3 := below_keep' hb2 hb3
 clear HCK hb2
 by_cases hc : ¬ chk xs = 0
 ·have hcb : (chk xs != 0) = true := by simpa using hc
  generalize chk xs = code at *
  clear hc
  go_wp2_with fail
  refine (HAW.out _ hb3).mono ?_; rintro e w4 ⟨rfl, hb4⟩
  go_wp2_with fail
  go_ret
  exact ⟨rfl, below_keep' hb3 hb4⟩
 rw [Classical.not_not.1 hc]
 clear hc HAW
 have H1 : Hid (∀ W, Below w.heap.size w W → Calls Tryz.prog 18 #[.slice A len cap, .int .i64 0] W (RepW W (dL xs 0) (dE xs 0))) := fun W hW => rdies_any A len cap xs 0 W (HEN.out W hW) (by omega) (HS.out W hW)
 have H2 : Hid (∀ W, Below w.heap.size w W → Calls Tryz.prog 18 #[.slice A len cap, .int .i64 1] W (RepW W (dL xs 1) (dE xs 1))) := fun W hW => rdies_any A len cap xs 1 W (HEN.out W hW) (by omega) (HS.out W hW)
 have H3 : Hid (∀ W, Below w.heap.size w W → Calls Tryz.prog 16 #[.slice A len cap] W (RepW W (repL xs (matrixL (grOf xs))) (grE xs))) := fun W hW => rmatrix_any A len cap xs W (HEN.out W hW) (by omega) (HS.out W hW)
 have H4 : Hid (∀ W, Below w.heap.size w W → Calls Tryz.prog 14 #[.slice A len cap] W (RepW W (repL xs (chainsL (chainsG (grOf xs)))) (grE xs))) := fun W hW => rchains_any A len cap xs W (HEN.out W hW) (by omega) (HS.out W hW)
 have H5 : Hid (∀ W, Below w.heap.size w W → Calls Tryz.prog 13 #[.slice A len cap] W (RepW W (repL xs (sumL (nsG xs))) (grE xs))) := fun W hW => rsummary54_any A len cap xs W (by omega) (HS.out W hW)
 have CNT : Hid (∀ (t : List UInt8) (b : UInt8) W, Calls Tryz.prog 26 #[.string ⟨t.toArray⟩, .string ⟨#[b]⟩] W fun e w' => e = .returned (.int .i64 ((t.count b : Nat) : Int)) ∧ w' = W) := fun t b W => Tryz.strings_Count_one ⟨t.toArray⟩ b W
 by_cases hg : ¬ grE xs = 0
 ·have e0 : dE xs 0 = grE xs := if_neg hg
  have e1 : dE xs 1 = grE xs := if_neg hg
  rw [e0] at H1
  rw [e1] at H2
  have hcb : (grE xs != 0) = true := by simpa using hg
  clear e0 e1 hg
  generalize dL xs 0 = t1 at *
  generalize dL xs 1 = t2 at *
  generalize repL xs (matrixL (grOf xs)) = t3 at *
  generalize repL xs (chainsL (chainsG (grOf xs))) = t4 at *
  generalize repL xs (sumL (nsG xs)) = t5 at *
  generalize grE xs = code at *
  go_wp2_with fail
  refine (H1.out _ hb3).mono ?_; rintro e w4 ⟨rfl, hb4⟩
  replace hb4 := below_keep' hb3 hb4
  go_wp2_with fail
  refine (H2.out _ hb4).mono ?_; rintro e w5 ⟨rfl, hb5⟩
  replace hb5 := below_keep' hb4 hb5
  go_wp2_with fail
  refine (H3.out _ hb5).mono ?_; rintro e w6 ⟨rfl, hb6⟩
  replace hb6 := below_keep' hb5 hb6
  go_wp2_with fail
  refine (H4.out _ hb6).mono ?_; rintro e w7 ⟨rfl, hb7⟩
  replace hb7 := below_keep' hb6 hb7
  go_wp2_with fail
  refine (H5.out _ hb7).mono ?_; rintro e w8 ⟨rfl, hb8⟩
  replace hb8 := below_keep' hb7 hb8
  go_wp2_with fail
  go_ret
  exact ⟨by simp, hb8⟩
 replace hg := Classical.not_not.1 hg
 have e0 : dE xs 0 = 0 := by unfold dE; rw [if_pos hg, if_pos (.inl rfl)]
 have e1 : dE xs 1 = 0 := by unfold dE; rw [if_pos hg, if_pos (.inr rfl)]
 rw [e0] at H1
 rw [e1] at H2
 obtain ⟨c1, c2, c3, c4, c5, c6⟩ := lines_plain hg
 rw [hg] at H3 H4 H5
 rw [HLX.out] at c5
 clear e0 e1 hg HEN
 generalize dL xs 0 = t1 at *
 generalize dL xs 1 = t2 at *
 generalize repL xs (matrixL (grOf xs)) = t3 at *
 generalize repL xs (chainsL (chainsG (grOf xs))) = t4 at *
 generalize repL xs (sumL (nsG xs)) = t5 at *
 go_wp2_with fail
 refine (H1.out _ hb3).mono ?_; rintro e w4 ⟨rfl, hb4⟩
 replace hb4 := below_keep' hb3 hb4
 go_wp2_with fail
 refine (H2.out _ hb4).mono ?_; rintro e w5 ⟨rfl, hb5⟩
 replace hb5 := below_keep' hb4 hb5
 go_wp2_with fail
 refine (H3.out _ hb5).mono ?_; rintro e w6 ⟨rfl, hb6⟩
 replace hb6 := below_keep' hb5 hb6
 go_wp2_with fail
 refine (H4.out _ hb6).mono ?_; rintro e w7 ⟨rfl, hb7⟩
 replace hb7 := below_keep' hb6 hb7
 go_wp2_with fail
 refine (H5.out _ hb7).mono ?_; rintro e w8 ⟨rfl, hb8⟩
 replace hb8 := below_keep' hb7 hb8
 have HUW : Hid (∀ W, Below w8.heap.size w8 W → Below w.heap.size w W) := fun W hW => below_keep' hb8 hW
 have hlo := uniqI_len (xs.map Spm.obv)
 have hlr := uniqI_len (xs.map Spm.rev)
 rw [List.length_map, HLX.out] at hlo hlr
 have HKL : Hid (seenI (xs.map Spm.obv) = seenI (xs.map Spm.obv)) := rfl
 have HN1 := Lib.hid (seenI_len (xs.map Spm.obv))
 have HN2 := Lib.hid (seenI_len (xs.map Spm.rev))
 have HQ1 : Hid (∀ W, Calls Tryz.prog 26 #[.string ⟨t1.toArray⟩, .string ⟨#[10]⟩] W fun e w' => e = .returned (.int .i64 (((uniqI (xs.map Spm.obv)).length : Nat) : Int)) ∧ w' = W) := fun W => by rw [← c1]; exact CNT.out _ _ W
 have HQ2 : Hid (∀ W, Calls Tryz.prog 26 #[.string ⟨t2.toArray⟩, .string ⟨#[10]⟩] W fun e w' => e = .returned (.int .i64 (((uniqI (xs.map Spm.rev)).length : Nat) : Int)) ∧ w' = W) := fun W => by rw [← c2]; exact CNT.out _ _ W
 have HQ3 : Hid (∀ W, Calls Tryz.prog 26 #[.string ⟨t3.toArray⟩, .string ⟨#[10]⟩] W fun e w' => e = .returned (.int .i64 (((uniqI (xs.map Spm.obv)).length : Int) + 1)) ∧ w' = W) := fun W => by
  have h := CNT.out t3 10 W
  rw [c3] at h
  exact h.mono fun e w' ⟨h1, h2⟩ => ⟨by rw [h1]; rfl, h2⟩
 have HQ4 : Hid (∀ W, Calls Tryz.prog 26 #[.string ⟨t4.toArray⟩, .string ⟨#[10]⟩] W fun e w' => e = .returned (.int .i64 ((t4.count 10 : Nat) : Int)) ∧ w' = W) := fun W => CNT.out _ _ W
 have HQ5 : Hid (∀ W, Calls Tryz.prog 26 #[.string ⟨t4.toArray⟩, .string ⟨#[32]⟩] W fun e w' => e = .returned (.int .i64 (((uniqI (xs.map Spm.obv)).length : Int) + ((uniqI (xs.map Spm.rev)).length : Int))) ∧ w' = W) := fun W => by
  have h := CNT.out t4 32 W
  rw [c6] at h
  exact h.mono fun e w' ⟨h1, h2⟩ => ⟨by rw [h1]; rfl, h2⟩
 clear CNT c1 c2 c3 c6 H1 H2 H3 H4 H5 hb8
 generalize t4.count 10 = cn at *
 generalize hNo : (uniqI (xs.map Spm.obv)).length = No at *
 generalize hNr : (uniqI (xs.map Spm.rev)).length = Nr at *
 clear hNo hNr
 obtain ⟨i0, hib, hz0, hz1, hz2⟩ := info_parts Tryz.infoI
 go_wp2_with fail
 go_loopw [13, 14, 15] (fun v1 v2 i wr => ∃ j : Nat, j ≤ len ∧ i = .int .i64 (j : Int) ∧ TwoR wr w8.heap.size v1 (seenI ((xs.take j).map Spm.obv)).length (seenI ((xs.take j).map Spm.obv)) v2 (seenI ((xs.take j).map Spm.rev)).length (seenI ((xs.take j).map Spm.rev)) ∧ Below w8.heap.size w8 wr) (fun _ _ i _ => len - (intOf i).toNat)
 case atStart => exact ⟨0, by omega, rfl, TwoR.nil _ _, Below.refl _ _⟩
 case round =>
  obtain ⟨j, hj, rfl, hT, hbr⟩ := hrel
  rename World => wo
  obtain ⟨Ao, co, rfl, hco⟩ := own_form hT.o1
  obtain ⟨Ar, cr, rfl, hcr⟩ := own_form hT.o2
  have hso := seen_le Spm.obv xs j
  have hsr := seen_le Spm.rev xs j
  by_cases hlt : j < len
  ·obtain ⟨b, off, x, rfl, hbb, hx, x0, x1, x2, x3, x4, x5, x6⟩ := (HS.out _ (HUW.out _ hbr)).sp hlt
   have HS1 := Lib.hid (seen_step Spm.obv hx)
   have HS2 := Lib.hid (seen_step Spm.rev hx)
   have HXC : Hid (∀ W, Below w8.heap.size w8 W → W.cell? ⟨b, off + j * 7 + 1, none⟩ = some (.int .i64 x.obv) ∧ W.cell? ⟨b, off + j * 7 + 2, none⟩ = some (.int .i64 x.rev)) := fun W hW => by
    obtain ⟨b', off', x', e, _, hx', _, y1, y2, _, _, _, _⟩ := (HS.out _ (HUW.out _ hW)).sp hlt
    cases e
    rw [hx] at hx'
    cases hx'
    exact ⟨y1, y2⟩
   clear hx x0 x3 x4 x5 x6
   generalize seenI ((xs.take j).map Spm.obv) = lo at *
   generalize seenI ((xs.take j).map Spm.rev) = lr at *
   have hHo := Lib.hid (fun W (hW : TwoR W w8.heap.size (.slice Ao lo.length co) lo.length lo (.slice Ar lr.length cr) lr.length lr) => has_any Ao lo.length co lo x.obv W (by omega) (Sl.of_own (k := 1) (enc := encI) (fun _ => rfl) hW.o1 rfl).any)
   go_wp2_with fail
   refine (hHo.out _ hT).mono ?_; rintro e wz ⟨rfl, rfl⟩
   clear hHo
   by_cases hm : x.obv ∈ lo
   ·have hmb : decide (x.obv ∈ lo) = true := decide_eq_true hm
    have HE1 : Hid (seenI ((xs.take (j + 1)).map Spm.obv) = lo) := by show _ = _; rw [HS1.out, if_pos hm]
    clear hm HS1
    have hHr := Lib.hid (has_any Ar lr.length cr lr x.rev wo (by omega) (Sl.of_own (k := 1) (enc := encI) (fun _ => rfl) hT.o2 rfl).any)
    go_wp2_with fail
    refine hHr.out.mono ?_; rintro e wz ⟨rfl, rfl⟩
    clear hHr
    by_cases hm : x.rev ∈ lr
    ·have hmb2 : decide (x.rev ∈ lr) = true := decide_eq_true hm
     have HE2 : Hid (seenI ((xs.take (j + 1)).map Spm.rev) = lr) := by show _ = _; rw [HS2.out, if_pos hm]
     clear hm HS2
     go_wp2_with fail
     exact ⟨⟨j + 1, by omega, by go_num, by (rw [HE1.out, HE2.out]; (try rw [List.length_append, List.length_singleton]); exact hT), hbr⟩, by simp [intOf]; omega⟩
    ·have hmb2 : decide (x.rev ∈ lr) = false := decide_eq_false hm
     have HE2 : Hid (seenI ((xs.take (j + 1)).map Spm.rev) = lr ++ [x.rev]) := by show _ = _; rw [HS2.out, if_neg hm]
     clear hm HS2
     go_wp2_with (at_builtin; refine wpList_append_own_at _ rfl _ _ 36 rfl w8.heap.size 3 i0 (.int .i64 0) 1 8 Tryz.underlying36 hib hz0 hz1 hz2 rfl (by decide) _ _ _ rfl (hT.o2.alloc _) ⟨wo.heap.size, 0, none⟩ 1 1 [.int .i64 x.rev] rfl rfl ?c1 ?c2 ?c3 ?c4 ?c5 ?_)
     case c1 => exact cell_list_at (by simp) _ _
     case c2 => simp [Value.oneCell']
     case c3 => unfold maxLen; omega
     case c4 => omega
     case c5 => have := hbr.size; simp; omega
     intro v2 w10 hown10 hgrow _ hat
     have hT10 := hT.app2 hown10 hgrow (by simpa using hat)
     have hb10 := below_row (hbr.alloc hbr.size (.cells #[.int .i64 x.rev] 3)) (hT.o2.alloc _) hgrow (Nat.le_refl _) (Nat.le_refl _)
     clear hown10 hgrow hat
     go_wp2_with fail
     exact ⟨⟨j + 1, by omega, by go_num, by (rw [HE1.out, HE2.out]; simp only [List.length_append, List.length_singleton]; exact hT10), hb10⟩, by simp [intOf]; omega⟩
   ·have hmb : decide (x.obv ∈ lo) = false := decide_eq_false hm
    have HE1 : Hid (seenI ((xs.take (j + 1)).map Spm.obv) = lo ++ [x.obv]) := by show _ = _; rw [HS1.out, if_neg hm]
    clear hm HS1
    go_wp2_with (at_builtin; refine wpList_append_own_at _ rfl _ _ 36 rfl w8.heap.size 3 i0 (.int .i64 0) 1 8 Tryz.underlying36 hib hz0 hz1 hz2 rfl (by decide) _ _ _ rfl (hT.o1.alloc _) ⟨wo.heap.size, 0, none⟩ 1 1 [.int .i64 x.obv] rfl rfl ?c1 ?c2 ?c3 ?c4 ?c5 ?_)
    case c1 => exact cell_list_at (by simp) _ _
    case c2 => simp [Value.oneCell']
    case c3 => unfold maxLen; omega
    case c4 => omega
    case c5 => have := hbr.size; simp; omega
    intro v1 w9 hown9 hgrow _ hat
    have hT9 := hT.app1 hown9 hgrow (by simpa using hat)
    have hb9 := below_row (hbr.alloc hbr.size (.cells #[.int .i64 x.obv] 3)) (hT.o1.alloc _) hgrow (Nat.le_refl _) (Nat.le_refl _)
    have hsz9 : wo.heap.size ≤ w9.heap.size := Nat.le_trans (one_alloc wo (.cells #[.int .i64 x.obv] 3)).size hgrow.size
    clear hown9 hgrow hat
    obtain ⟨Ap, cp, rfl, hcp⟩ := own_form hT9.o1
    obtain ⟨y1, y2⟩ := HXC.out _ hb9
    clear x1 x2
    have hHr := Lib.hid (has_any Ar lr.length cr lr x.rev w9 (by omega) (Sl.of_own (k := 1) (enc := encI) (fun _ => rfl) hT9.o2 rfl).any)
    have hbb9 : b < w9.heap.size := Nat.lt_of_lt_of_le hbb hsz9
    go_wp2_with fail
    refine hHr.out.mono ?_; rintro e wz ⟨rfl, rfl⟩
    clear hHr
    by_cases hm : x.rev ∈ lr
    ·have hmb2 : decide (x.rev ∈ lr) = true := decide_eq_true hm
     have HE2 : Hid (seenI ((xs.take (j + 1)).map Spm.rev) = lr) := by show _ = _; rw [HS2.out, if_pos hm]
     clear hm HS2
     go_wp2_with fail
     exact ⟨⟨j + 1, by omega, by go_num, by (rw [HE1.out, HE2.out]; (try rw [List.length_append, List.length_singleton]); exact hT9), hb9⟩, by simp [intOf]; omega⟩
    ·have hmb2 : decide (x.rev ∈ lr) = false := decide_eq_false hm
     have HE2 : Hid (seenI ((xs.take (j + 1)).map Spm.rev) = lr ++ [x.rev]) := by show _ = _; rw [HS2.out, if_neg hm]
     clear hm HS2
     go_wp2_with (at_builtin; refine wpList_append_own_at _ rfl _ _ 36 rfl w8.heap.size 3 i0 (.int .i64 0) 1 8 Tryz.underlying36 hib hz0 hz1 hz2 rfl (by decide) _ _ _ rfl (hT9.o2.alloc _) ⟨w9.heap.size, 0, none⟩ 1 1 [.int .i64 x.rev] rfl rfl ?c1 ?c2 ?c3 ?c4 ?c5 ?_)
     case c1 => exact cell_list_at (by simp) _ _
     case c2 => simp [Value.oneCell']
     case c3 => unfold maxLen; omega
     case c4 => omega
     case c5 => have := hb9.size; simp; omega
     intro v2 w10 hown10 hgrow _ hat
     have hT10 := hT9.app2 hown10 hgrow (by simpa using hat)
     have hb10 := below_row (hb9.alloc hb9.size (.cells #[.int .i64 x.rev] 3)) (hT9.o2.alloc _) hgrow (Nat.le_refl _) (Nat.le_refl _)
     clear hown10 hgrow hat
     go_wp2_with fail
     exact ⟨⟨j + 1, by omega, by go_num, by (rw [HE1.out, HE2.out]; simp only [List.length_append, List.length_singleton]; exact hT10), hb10⟩, by simp [intOf]; omega⟩
  ·obtain rfl : j = len := by omega
   rw [take_all HLX.out] at hT hso hsr ⊢
   rw [HN1.out, HN2.out]
   have hk1 : IntKind.i64.wrap ((No : Int) + 1) = (No : Int) + 1 := IntWalk.i64_in _ (by omega)
   have hk2 : IntKind.i64.wrap ((No : Int) + (Nr : Int)) = (No : Int) + (Nr : Int) := IntWalk.i64_in _ (by omega)
   have hmn : decide ((cn : Int) ≤ min (No : Int) (Nr : Int)) = true := by simp; omega
   have hgt : (decide ((0 : Int) < (cn : Int)) == decide ((0 : Int) < (j : Int))) = true := by
    by_cases h : 0 < j
    ·have := c5.2 h; simp; omega
    ·have : ¬ 0 < cn := fun h' => h (c5.1 h')
     simp; omega
   have q1 : ((No : Int) == (No : Int)) = true := by simp
   have q2 : ((Nr : Int) == (Nr : Int)) = true := by simp
   have q3 : ((No : Int) + 1 == (No : Int) + 1) = true := by simp
   have q4 : ((No : Int) + (Nr : Int) == (No : Int) + (Nr : Int)) = true := by simp
   clear hT HS c4
   go_wp2_with fail
   refine (HQ4.out _).mono ?_; rintro e wz ⟨rfl, rfl⟩
   go_wp2_with fail
   refine (HQ1.out _).mono ?_; rintro e wz ⟨rfl, rfl⟩
   go_wp2_with fail
   refine (HQ2.out _).mono ?_; rintro e wz ⟨rfl, rfl⟩
   go_wp2_with fail
   refine (HQ3.out _).mono ?_; rintro e wz ⟨rfl, rfl⟩
   go_wp2_with fail
   refine (HQ5.out _).mono ?_; rintro e wz ⟨rfl, rfl⟩
   go_wp2_with fail
   go_ret
   exact ⟨rfl, HUW.out _ hbr⟩
end Go.Proofs.YtdokpmfejibdlaaGreatDoor
