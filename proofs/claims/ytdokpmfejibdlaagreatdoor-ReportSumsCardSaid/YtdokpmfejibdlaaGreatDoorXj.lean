/- Chapter 54: ReportSums: the numbers of the matrix, and those of the specimens of the dies of a side, add up to the specimens. -/
import Derived.Test.YtdokpmfejibdlaaGreatDoorXi
set_option linter.unusedSimpArgs false
set_option linter.unusedVariables false
namespace Go.Proofs.YtdokpmfejibdlaaGreatDoor
open Go.RowKit

theorem name_no {side n : Int} {c : UInt8} (hc : ¬ isDig c) (h1 : c ≠ 79) (h2 : c ≠ 82) : c ∉ nameL side n := by
  unfold nameL labS
  split
  · rename_i h
    obtain ⟨_, ⟨g1, _⟩, _⟩ := (okLab_iff _).1 h
    intro hm
    rcases List.mem_append.1 hm with hm | hm
    · rcases List.mem_append.1 hm with hm | hm
      · unfold sideS at hm
        split at hm <;> (rw [List.mem_singleton] at hm; first | exact h1 hm | exact h2 hm)
      · exact itoa_no (by simpa using (show (0 : Int) ≤ n by simp only at g1; omega)) hc hm
    · unfold stS at hm
      simp at hm
  · simp
theorem words_nums {a : List UInt8} (ha : (32 : UInt8) ∉ a) : ∀ ns : List Int, (∀ x ∈ ns, 0 ≤ x) → wordsL 32 (a ++ ns.flatMap numT) = a :: ns.map Lib.itoa
  | [], _ => by simp [wordsL_none 32 a ha]
  | n :: ns, h => by
    have hi : (32 : UInt8) ∉ Lib.itoa n := itoa_no (h n (by simp)) sp_space
    have ih := words_nums hi ns (fun x hx => h x (by simp [hx]))
    rw [List.flatMap_cons]
    show wordsL 32 (a ++ 32 :: (Lib.itoa n ++ ns.flatMap numT)) = _
    rw [wordsL_cut 32 a _ ha, ih]
    rfl
def sumV (l : List (List UInt8)) : Int := (l.map atoiV).sum
theorem sumV_snoc {l : List (List UInt8)} {j : Nat} {x : List UInt8} (h : l[j]? = some x) : sumV (l.take (j + 1)) = sumV (l.take j) + atoiV x := by
  unfold sumV
  rw [takeSnocW h, List.map_append, List.sum_append]
  simp
theorem sumV_bd {l : List (List UInt8)} (h : ∀ x ∈ l, okW x) : 0 ≤ sumV l ∧ sumV l ≤ (l.length : Int) * 1000000 := by
  unfold sumV
  induction l with
  | nil => simp
  | cons x l ih =>
    have h1 := atoiV_bd (h x (by simp))
    have h2 := ih (fun y hl => h y (by simp [hl]))
    rw [List.map_cons, List.sum_cons, List.length_cons]
    omega
/-- The words behind the first. -/
def tlW (ln : List UInt8) : List (List UInt8) := (wordsL 32 ln).tail
def matV (ls : List (List UInt8)) : Int := (ls.map (fun ln => sumV (tlW ln))).sum
def secV (ln : List UInt8) : Int := match wordsL 32 ln with
  | _ :: y :: _ => atoiV y
  | _ => 0
def dieV (ls : List (List UInt8)) : Int := (ls.map secV).sum
theorem matV_snoc {l : List (List UInt8)} {j : Nat} {x : List UInt8} (h : l[j]? = some x) : matV (l.take (j + 1)) = matV (l.take j) + sumV (tlW x) := by
  unfold matV
  rw [takeSnocW h, List.map_append, List.sum_append]
  simp
theorem dieV_snoc {l : List (List UInt8)} {j : Nat} {x : List UInt8} (h : l[j]? = some x) : dieV (l.take (j + 1)) = dieV (l.take j) + secV x := by
  unfold dieV
  rw [takeSnocW h, List.map_append, List.sum_append]
  simp
def okM (ln : List UInt8) : Prop := ln.length ≤ 1000 ∧ ∀ x ∈ tlW ln, okW x
theorem matV_bd {l : List (List UInt8)} (h : ∀ x ∈ l, okM x) : 0 ≤ matV l ∧ matV l ≤ (l.length : Int) * 2000000000 := by
  unfold matV
  induction l with
  | nil => simp
  | cons x l ih =>
    have h0 := h x (by simp)
    have h1 := sumV_bd h0.2
    have h3 : (tlW x).length ≤ 1001 := by
      have := wordsL_count 32 x
      have := h0.1
      unfold tlW
      rw [List.length_tail]
      omega
    have h2 := ih (fun y hl => h y (by simp [hl]))
    rw [List.map_cons, List.sum_cons, List.length_cons]
    omega
def okD (ln : List UInt8) : Prop := ln.length ≤ 1000 ∧ ∀ x, (wordsL 32 ln)[1]? = some x → okW x
theorem secV_some {ln x : List UInt8} (h : (wordsL 32 ln)[1]? = some x) : secV ln = atoiV x := by
  unfold secV
  match hw : wordsL 32 ln with
  | [] => rw [hw] at h; simp at h
  | [a] => rw [hw] at h; simp at h
  | a :: y :: r =>
    rw [hw] at h
    have : y = x := by simpa using h
    rw [this]
theorem secV_none {ln : List UInt8} (h : (wordsL 32 ln).length ≤ 1) : secV ln = 0 := by
  unfold secV
  match hw : wordsL 32 ln with
  | [] => rfl
  | [a] => rfl
  | a :: y :: r => rw [hw] at h; simp at h
theorem secV_bd {ln : List UInt8} (h : okD ln) : 0 ≤ secV ln ∧ secV ln ≤ 1000000 := by
  by_cases hl : (wordsL 32 ln).length ≤ 1
  · rw [secV_none hl]; omega
  · have hx : (wordsL 32 ln)[1]? = some (wordsL 32 ln)[1] := List.getElem?_eq_getElem (by omega)
    rw [secV_some hx]
    exact atoiV_bd (h.2 _ hx)
theorem dieV_bd {l : List (List UInt8)} (h : ∀ x ∈ l, okD x) : 0 ≤ dieV l ∧ dieV l ≤ (l.length : Int) * 1000000 := by
  unfold dieV
  induction l with
  | nil => simp
  | cons x l ih =>
    have h1 := secV_bd (h x (by simp))
    have h2 := ih (fun y hl => h y (by simp [hl]))
    rw [List.map_cons, List.sum_cons, List.length_cons]
    omega
/-! ### The matrix. -/
def mbody (g : Gr) (i : Nat) : List UInt8 := nameL 0 (g.obv.getD i 0) ++ ((matrixG g).getD i []).flatMap numT
def mhead (g : Gr) : List UInt8 := [45] ++ g.rev.flatMap (fun r => 32 :: nameL 1 r)
theorem n79 : (32 : UInt8) ≠ 79 ∧ (32 : UInt8) ≠ 82 ∧ (10 : UInt8) ≠ 79 ∧ (10 : UInt8) ≠ 82 := by decide
theorem row_nonneg {g : Gr} (hg : GrOk g) (i : Nat) : ((matrixG g).getD i []).length ≤ 32 ∧ ∀ x ∈ (matrixG g).getD i [], 0 ≤ x ∧ x ≤ 64 := by
  rw [List.getD_eq_getElem?_getD]
  cases hc : (matrixG g)[i]? with
  | none => simp
  | some r => exact matrixG_row hg r (List.mem_of_getElem? hc)
theorem numT_no {x : Int} (h : 0 ≤ x) : (10 : UInt8) ∉ numT x := by
  unfold numT
  intro hm
  rcases List.mem_cons.1 hm with hm | hm
  · revert hm; decide
  · exact itoa_no h d10 hm
theorem matrix_words {g : Gr} (hg : GrOk g) : wordsL 10 (matrixL g) = mhead g :: ((List.range g.obv.length).map (mbody g) ++ [[]]) := by
  have e : mrowT g = fun i => mbody g i ++ [10] := by funext i; unfold mrowT mbody; rfl
  have e2 : matrixL g = mhead g ++ 10 :: (((List.range g.obv.length).map (mbody g)).flatMap (fun b => b ++ [10])) := by
    unfold matrixL mhead
    rw [e, List.flatMap_map]
    simp
  have hh : (10 : UInt8) ∉ mhead g := by
    unfold mhead
    intro hm
    rcases List.mem_append.1 hm with hm | hm
    · revert hm; decide
    · obtain ⟨r, _, hm⟩ := List.mem_flatMap.1 hm
      rcases List.mem_cons.1 hm with hm | hm
      · revert hm; decide
      · exact name_no d10 n79.2.2.1 n79.2.2.2 hm
  rw [e2, wordsL_cut 10 _ _ hh, words_lines]
  intro b hb
  obtain ⟨i, _, rfl⟩ := List.mem_map.1 hb
  unfold mbody
  intro hm
  rcases List.mem_append.1 hm with hm | hm
  · exact name_no d10 n79.2.2.1 n79.2.2.2 hm
  · obtain ⟨x, hx, hm⟩ := List.mem_flatMap.1 hm
    exact numT_no ((row_nonneg hg i).2 x hx).1 hm
theorem mbody_tl {g : Gr} (hg : GrOk g) (i : Nat) : tlW (mbody g i) = ((matrixG g).getD i []).map Lib.itoa := by
  unfold tlW mbody
  rw [words_nums (name_no sp_space n79.1 n79.2.1) _ (fun x hx => ((row_nonneg hg i).2 x hx).1)]
  rfl
theorem okM_nil : okM [] := ⟨by simp, fun x hx => by cases hx⟩
theorem mbody_ok {g : Gr} (hg : GrOk g) (i : Nat) : okM (mbody g i) := by
  refine ⟨?_, fun x hx => ?_⟩
  · have := mrowT_len hg i
    have e : (mrowT g i).length = (mbody g i).length + 1 := by unfold mrowT mbody; simp; omega
    omega
  · rw [mbody_tl hg] at hx
    obtain ⟨z, hz, rfl⟩ := List.mem_map.1 hx
    have := (row_nonneg hg i).2 z hz
    exact okW_itoa this.1 (by omega)
theorem sumV_itoa {r : List Int} (h : ∀ x ∈ r, 0 ≤ x ∧ x ≤ 64) : sumV (r.map Lib.itoa) = r.sum := by
  unfold sumV
  induction r with
  | nil => rfl
  | cons x r ih =>
    have h1 := h x (by simp)
    rw [List.map_cons, List.map_cons, List.sum_cons, List.sum_cons, ih (fun y hy => h y (by simp [hy])), atoiV_itoa h1.1 (by omega)]
theorem asc_nodup {l : List Int} (h : l.Pairwise (· < ·)) : l.Nodup := h.imp (fun h e => by subst e; omega)
theorem matrix_total {g : Gr} (hg : GrOk g) : matV ((List.range g.obv.length).map (mbody g) ++ [[]]) = g.links.length := by
  unfold matV
  rw [List.map_append, List.sum_append, List.map_map]
  have hz : (([[]] : List (List UInt8)).map (fun ln => sumV (tlW ln))).sum = 0 := rfl
  have e : ((fun ln => sumV (tlW ln)) ∘ mbody g) = fun i => ((matrixG g).getD i []).sum := by
    funext i
    show sumV (tlW (mbody g i)) = _
    rw [mbody_tl hg, sumV_itoa (row_nonneg hg i).2]
  rw [hz, Int.add_zero, e]
  have e2 : (List.range g.obv.length).map (fun i => ((matrixG g).getD i []).sum) = g.obv.map (fun o => ((g.links.countP (fun x => x.obv == o) : Nat) : Int)) := by
    refine List.ext_getElem? fun i => ?_
    rw [List.getElem?_map, List.getElem?_map]
    by_cases hi : i < g.obv.length
    · rw [List.getElem?_range hi, List.getElem?_eq_getElem hi]
      show some ((matrixG g).getD i []).sum = some ((g.links.countP (fun x => x.obv == g.obv[i]) : Nat) : Int)
      congr 1
      have hm : (matrixG g)[i]? = some (g.rev.map (fun r => (cntL g g.obv[i] r : Int))) := by
        unfold matrixG; rw [List.getElem?_map, List.getElem?_eq_getElem hi]; rfl
      rw [List.getD_eq_getElem?_getD, hm]
      show (g.rev.map _).sum = _
      have h1 := cnt_sum Lnk.rev (asc_nodup hg.ar) (l := g.links.filter (fun x => x.obv == g.obv[i])) (fun x hx => (hg.er _).2 ⟨x, (List.mem_filter.1 hx).1, rfl⟩)
      have e3 : (fun z => (((g.links.filter (fun x => x.obv == g.obv[i])).countP (fun x => x.rev == z) : Nat) : Int)) = fun r => (cntL g g.obv[i] r : Int) := by
        funext r
        unfold cntL
        rw [List.countP_filter]
        congr 2
        funext x
        exact Bool.and_comm _ _
      rw [e3] at h1
      rw [h1, ← List.countP_eq_length_filter]
    · rw [List.getElem?_eq_none (by simp; omega), List.getElem?_eq_none (by omega)]
      rfl
  rw [e2]
  exact cnt_sum Lnk.obv (asc_nodup hg.ao) (fun x hx => (hg.eo _).2 ⟨x, hx, rfl⟩)
/-! ### The dies. -/
def dtail (xs : List Spm) (g : Gr) (side n : Int) : List UInt8 :=
  (if degG g ⟨side, n⟩ = 1 then [115, 112, 101, 99, 105, 109, 101, 110] else [115, 112, 101, 99, 105, 109, 101, 110, 115]) ++ [59, 32, 115, 116, 97, 116, 101, 115, 32] ++
    joinL [44, 32] ((statesS xs ⟨side, n⟩).map letterT) ++ [59, 32, 119, 105, 116, 104, 32] ++ joinL [44, 32] ((partnersG g ⟨side, n⟩).map (nameL (1 - side)))
def dbody (xs : List Spm) (g : Gr) (side n : Int) : List UInt8 := (nameL side n ++ [58]) ++ 32 :: (Lib.itoa (degG g ⟨side, n⟩ : Nat) ++ 32 :: dtail xs g side n)
theorem join_no {c : UInt8} {sep : List UInt8} (hs : c ∉ sep) : ∀ {ss : List (List UInt8)}, (∀ s ∈ ss, c ∉ s) → c ∉ joinL sep ss
  | [], _ => by simp [joinL]
  | [x], h => by simpa [joinL] using h x (by simp)
  | x :: y :: r, h => by
    have ih := join_no hs (ss := y :: r) (fun s hm => h s (by simp [hm]))
    rw [joinL]
    intro hm
    rcases List.mem_append.1 hm with hm | hm
    · rcases List.mem_append.1 hm with hm | hm
      · exact h x (by simp) hm
      · exact hs hm
    · exact ih hm
theorem letter_no {s : Int} (h1 : 1 ≤ s) (h2 : s ≤ 9) : (10 : UInt8) ∉ letterT s := by
  have h : s = 1 ∨ s = 2 ∨ s = 3 ∨ s = 4 ∨ s = 5 ∨ s = 6 ∨ s = 7 ∨ s = 8 ∨ s = 9 := by omega
  rcases h with rfl | rfl | rfl | rfl | rfl | rfl | rfl | rfl | rfl <;> decide
theorem dbody_no {xs : List Spm} {g : Gr} {side n : Int} (hst : ∀ s ∈ statesS xs ⟨side, n⟩, 1 ≤ s ∧ s ≤ 9) : (10 : UInt8) ∉ dbody xs g side n := by
  have hw : (10 : UInt8) ∉ (if degG g ⟨side, n⟩ = 1 then [115, 112, 101, 99, 105, 109, 101, 110] else [115, 112, 101, 99, 105, 109, 101, 110, 115] : List UInt8) := by split <;> decide
  have hj1 : (10 : UInt8) ∉ joinL [44, 32] ((statesS xs ⟨side, n⟩).map letterT) := join_no (by decide) (fun s hs => by
    obtain ⟨z, hz, rfl⟩ := List.mem_map.1 hs
    exact letter_no (hst z hz).1 (hst z hz).2)
  have hj2 : (10 : UInt8) ∉ joinL [44, 32] ((partnersG g ⟨side, n⟩).map (nameL (1 - side))) := join_no (by decide) (fun s hs => by
    obtain ⟨z, hz, rfl⟩ := List.mem_map.1 hs
    exact name_no d10 n79.2.2.1 n79.2.2.2)
  have hn : (10 : UInt8) ∉ nameL side n := name_no d10 n79.2.2.1 n79.2.2.2
  have hi : (10 : UInt8) ∉ Lib.itoa (degG g ⟨side, n⟩ : Nat) := itoa_no (by omega) d10
  unfold dbody dtail
  simp only [List.mem_append, List.mem_cons, List.not_mem_nil, or_false, not_or]
  simp only [hn, hi, hw, hj1, hj2]
  decide
theorem dline_body (xs : List Spm) (g : Gr) (side n : Int) : dlineT xs g side n = dbody xs g side n ++ [10] := by
  unfold dlineT dbody dtail
  simp
theorem dies_words {xs : List Spm} {g : Gr} {side : Int} (hst : ∀ n, ∀ s ∈ statesS xs ⟨side, n⟩, 1 ≤ s ∧ s ≤ 9) : wordsL 10 ((numsG g side).flatMap (dlineT xs g side)) = (numsG g side).map (dbody xs g side) ++ [[]] := by
  have e : dlineT xs g side = fun n => dbody xs g side n ++ [10] := by funext n; exact dline_body xs g side n
  have e2 : (numsG g side).flatMap (dlineT xs g side) = ((numsG g side).map (dbody xs g side)).flatMap (fun b => b ++ [10]) := by rw [e, List.flatMap_map]
  rw [e2, words_lines]
  intro b hb
  obtain ⟨n, _, rfl⟩ := List.mem_map.1 hb
  exact dbody_no (hst n)
theorem dbody_words (xs : List Spm) (g : Gr) (side n : Int) : wordsL 32 (dbody xs g side n) = (nameL side n ++ [58]) :: Lib.itoa (degG g ⟨side, n⟩ : Nat) :: wordsL 32 (dtail xs g side n) := by
  unfold dbody
  have h1 : (32 : UInt8) ∉ nameL side n ++ [58] := by
    intro hm
    rcases List.mem_append.1 hm with hm | hm
    · exact name_no sp_space n79.1 n79.2.1 hm
    · revert hm; decide
  rw [wordsL_cut 32 _ _ h1, wordsL_cut 32 _ _ (itoa_no (by omega) sp_space)]
theorem dbody_ok {xs : List Spm} {g : Gr} (hg : GrOk g) (hx : xs.length ≤ 64) (side n : Int) : okD (dbody xs g side n) := by
  have hd := degG_le hg ⟨side, n⟩
  refine ⟨?_, fun x h => ?_⟩
  · have := dlineT_len hg hx side n
    rw [dline_body, List.length_append] at this
    simp only [List.length_cons, List.length_nil] at this
    omega
  · rw [dbody_words] at h
    have : Lib.itoa (degG g ⟨side, n⟩ : Nat) = x := by simpa using h
    rw [← this]
    exact okW_itoa (by omega) (by omega)
theorem okD_nil : okD [] := ⟨by simp, fun x h => by simp [wordsL] at h⟩
theorem dies_total {xs : List Spm} {g : Gr} (hg : GrOk g) {side : Int} (hs : side = 0 ∨ side = 1) : dieV ((numsG g side).map (dbody xs g side) ++ [[]]) = g.links.length := by
  unfold dieV
  rw [List.map_append, List.sum_append, List.map_map]
  have hz : (([[]] : List (List UInt8)).map secV).sum = 0 := rfl
  have e : (secV ∘ dbody xs g side) = fun n => ((g.links.countP (fun x => endL x side == n) : Nat) : Int) := by
    funext n
    show secV (dbody xs g side n) = _
    have hd := degG_le hg ⟨side, n⟩
    rw [secV_some (x := Lib.itoa (degG g ⟨side, n⟩ : Nat)) (by rw [dbody_words]; rfl), atoiV_itoa (by omega) (by omega)]
    rfl
  rw [hz, Int.add_zero, e]
  rcases hs with rfl | rfl
  · exact cnt_sum (fun x => endL x 0) (asc_nodup hg.ao) (fun x hx => (hg.eo _).2 ⟨x, hx, rfl⟩)
  · exact cnt_sum (fun x => endL x 1) (asc_nodup hg.ar) (fun x hx => (hg.er _).2 ⟨x, hx, rfl⟩)
theorem links_len (xs : List Spm) : (grOf xs).links.length = xs.length := by
  show ((sortS xs).map lnkOf).length = _
  rw [List.length_map, sortS_len]
/-! ### The law. -/
theorem words_cons (c : UInt8) (l : List UInt8) : ∃ a r, wordsL c l = a :: r := by
  match h : wordsL c l with
  | [] => exact absurd h (wordsL_ne c l)
  | a :: r => exact ⟨a, r, rfl⟩
set_option maxRecDepth 100000 in
set_option maxHeartbeats 8000000 in
theorem sums_law (A : Option Addr) (len cap : Nat) (xs : List Spm) (sd : Int) (w : World) (hE : EnvA w) (hS : Sl w 0 w.heap.size 7 encS A len xs) (hlm : len ≤ maxLen) (hsd : (Lit.int .u8 sd).wf = true) :
    Calls Tryz.prog 9 #[.slice A len cap, .int .u8 sd] w fun e w' => e = .returned (.bool true) ∧ Below w.heap.size w w' := by
  obtain ⟨s1, s2⟩ := rng_u8 hsd
  have HEN : Hid (∀ W, Below w.heap.size w W → EnvA W) := fun W hW => hE.step hW
  have HS : Hid (∀ W, Below w.heap.size w W → Sl W 0 W.heap.size 7 encS A len xs) := fun W hW => hS.up hW (Nat.le_refl _) (Nat.le_refl _)
  have HAW : Hid (∀ W, Below w.heap.size w W → Calls Tryz.prog 10 #[] W fun e w' => e = .returned (.bool true) ∧ Below W.heap.size W w') := fun W hW => awake_any W (HEN.out W hW).env
  have HFW : Hid (∀ W, Below w.heap.size w W → Calls Tryz.prog 11 #[.slice A len cap] W fun e w' => e = .returned (.bool (fewB len xs)) ∧ Below W.heap.size W w') := fun W hW => few_law A len cap xs W (HS.out W hW) hlm
  have HL := Lib.hid hS.len
  clear hS hE hsd
  go_enter Tryz.func9, Tryz.ntmps9
  go_wp2_with fail
  refine (HAW.out _ (Below.refl _ _)).mono ?_; rintro e w1 ⟨rfl, hb1⟩
  go_wp2_with fail
  refine (HFW.out _ hb1).mono ?_; rintro e w2 ⟨rfl, hb2⟩
  replace hb2 := below_keep' hb1 hb2
  cases hf : fewB len xs
  · go_wp2_with fail
    refine (HAW.out _ hb2).mono ?_; rintro e w3 ⟨rfl, hb3⟩
    go_wp2_with fail
    go_ret
    exact ⟨rfl, below_keep' hb2 hb3⟩
  have hlt200 := fewB_lt hf
  clear hlm hb1 hf HFW HAW
  obtain ⟨side, hside⟩ : ∃ side, side = sd % 2 := ⟨_, rfl⟩
  have hs01 : side = 0 ∨ side = 1 := by omega
  have hm1 : IntKind.u8.wrap (sd.tmod 2) = side := by
    rw [Int.tmod_eq_emod_of_nonneg s1, ← hside]
    rcases hs01 with h | h <;> rw [h] <;> rfl
  have hm2 : sd.tmod 2 = side := by rw [Int.tmod_eq_emod_of_nonneg s1, ← hside]
  have hm3 : IntKind.u8.wrap side = side := by rcases hs01 with h | h <;> rw [h] <;> rfl
  have hm4 : IntKind.i64.wrap side = side := by rcases hs01 with h | h <;> rw [h] <;> rfl
  clear hside
  have H1 : Hid (∀ W, Below w.heap.size w W → Calls Tryz.prog 16 #[.slice A len cap] W (RepW W (repL xs (matrixL (grOf xs))) (grE xs))) := fun W hW => rmatrix_any A len cap xs W (HEN.out W hW).env (by omega) (HS.out W hW)
  have hdE : dE xs side = grE xs := by
    unfold dE
    split
    · rename_i h; exact h.symm
    · rfl
  have H2 : Hid (∀ W, Below w.heap.size w W → Calls Tryz.prog 18 #[.slice A len cap, .int .i64 side] W (RepW W (dL xs side) (grE xs))) := fun W hW => by
    have := rdies_any A len cap xs side W (HEN.out W hW).env (by omega) (HS.out W hW)
    rwa [hdE] at this
  by_cases he : ¬ grE xs = 0
  · have e1 : repL xs (matrixL (grOf xs)) = [] := if_neg he
    have e2 : dL xs side = [] := if_neg (by rw [hdE]; exact he)
    have hd : (grE xs != 0) = true := by simpa using he
    rw [e1] at H1
    rw [e2] at H2
    generalize grE xs = code at *
    clear he e1 e2 hdE hs01
    go_wp2_with fail
    refine (H1.out _ hb2).mono ?_; rintro e w3 ⟨rfl, hb3⟩
    replace hb3 := below_keep' hb2 hb3
    go_wp2_with fail
    refine (H2.out _ hb3).mono ?_; rintro e w4 ⟨rfl, hb4⟩
    replace hb4 := below_keep' hb3 hb4
    go_wp2_with fail
    go_ret
    exact ⟨by simp, hb4⟩
  replace he := Classical.not_not.1 he
  obtain ⟨h64, hok⟩ := spm_ok he
  have hK := grOk_of he
  have hst := statesS_in he side
  have e1 : repL xs (matrixL (grOf xs)) = matrixL (grOf xs) := if_pos he
  have e2 : dL xs side = (numsG (grOf xs) side).flatMap (dlineT xs (grOf xs) side) := by unfold dL; rw [hdE, if_pos he]; rfl
  rw [e1, he] at H1
  rw [e2, he] at H2
  have hll : (grOf xs).links.length = len := by rw [links_len]; exact HL.out
  have hl64 : len ≤ 64 := by have := HL.out; omega
  have hMT := matrix_total hK
  have hDT := dies_total (xs := xs) hK hs01
  rw [hll] at hMT hDT
  have ha1 : (matrixL (grOf xs)).length ≤ 100000 := by
    have h1 := flatR_len (m := 720) (mrowT (grOf xs)) (grOf xs).obv.length (fun i _ => mrowT_len hK i)
    have h2 := flatL_len (m := 6) (f := revT) (l := (grOf xs).rev) (fun r _ => revT_len r)
    have h3 := hK.lo
    have h4 := hK.lr
    have e : matrixL (grOf xs) = [45] ++ (grOf xs).rev.flatMap revT ++ [10] ++ (List.range (grOf xs).obv.length).flatMap (mrowT (grOf xs)) := rfl
    rw [e]
    simp only [List.length_append, List.length_cons, List.length_nil]
    omega
  have hnl : (numsG (grOf xs) side).length ≤ 32 := by
    unfold numsG
    split
    · exact hK.lo
    · exact hK.lr
  have ha2 : ((numsG (grOf xs) side).flatMap (dlineT xs (grOf xs) side)).length ≤ 100000 := by
    have h1 := flatL_len (m := 720) (f := dlineT xs (grOf xs) side) (l := numsG (grOf xs) side) (fun n _ => dlineT_len hK h64 side n)
    omega
  have hSM : Hid (∀ W, Below w.heap.size w W → Calls Tryz.prog 28 #[.string ⟨(matrixL (grOf xs)).toArray⟩, .string ⟨#[10]⟩] W fun e w' => ∃ A' cap', e = .returned (.slice A' (mhead (grOf xs) :: ((List.range (grOf xs).obv.length).map (mbody (grOf xs)) ++ [[]])).length cap') ∧ Sl w' W.heap.size w'.heap.size 1 encStr A' (mhead (grOf xs) :: ((List.range (grOf xs).obv.length).map (mbody (grOf xs)) ++ [[]])).length (mhead (grOf xs) :: ((List.range (grOf xs).obv.length).map (mbody (grOf xs)) ++ [[]])) ∧ Below W.heap.size W w') := fun W hW => by
    have := split_any 10 (matrixL (grOf xs)) W (by omega) (HEN.out W hW).env
    rwa [matrix_words hK] at this
  have hSD : Hid (∀ W, Below w.heap.size w W → Calls Tryz.prog 28 #[.string ⟨((numsG (grOf xs) side).flatMap (dlineT xs (grOf xs) side)).toArray⟩, .string ⟨#[10]⟩] W fun e w' => ∃ A' cap', e = .returned (.slice A' ((numsG (grOf xs) side).map (dbody xs (grOf xs) side) ++ [[]]).length cap') ∧ Sl w' W.heap.size w'.heap.size 1 encStr A' ((numsG (grOf xs) side).map (dbody xs (grOf xs) side) ++ [[]]).length ((numsG (grOf xs) side).map (dbody xs (grOf xs) side) ++ [[]]) ∧ Below W.heap.size W w') := fun W hW => by
    have := split_any 10 ((numsG (grOf xs) side).flatMap (dlineT xs (grOf xs) side)) W (by omega) (HEN.out W hW).env
    rwa [dies_words hst] at this
  have HOM : Hid (∀ x ∈ (List.range (grOf xs).obv.length).map (mbody (grOf xs)) ++ [[]], okM x) := fun x hx => by
    rcases List.mem_append.1 hx with hx | hx
    · obtain ⟨i, _, rfl⟩ := List.mem_map.1 hx
      exact mbody_ok hK i
    · rw [List.mem_singleton] at hx
      subst hx
      exact okM_nil
  have HOD : Hid (∀ x ∈ (numsG (grOf xs) side).map (dbody xs (grOf xs) side) ++ [[]], okD x) := fun x hx => by
    rcases List.mem_append.1 hx with hx | hx
    · obtain ⟨n, _, rfl⟩ := List.mem_map.1 hx
      exact dbody_ok hK h64 side n
    · rw [List.mem_singleton] at hx
      subst hx
      exact okD_nil
  have hlm1 : ((List.range (grOf xs).obv.length).map (mbody (grOf xs)) ++ [[]]).length ≤ 33 := by
    rw [List.length_append, List.length_map, List.length_range]
    have := hK.lo
    simp only [List.length_cons, List.length_nil]
    omega
  have hlm2 : ((numsG (grOf xs) side).map (dbody xs (grOf xs) side) ++ [[]]).length ≤ 33 := by
    rw [List.length_append, List.length_map]
    simp only [List.length_cons, List.length_nil]
    omega
  have HMT := Lib.hid hMT
  have HDT := Lib.hid hDT
  clear ha1 ha2 hnl hll e1 e2 hdE he h64 hK hst hok hMT hDT hs01
  generalize (List.range (grOf xs).obv.length).map (mbody (grOf xs)) ++ [[]] = rows at *
  generalize mhead (grOf xs) = hdr at *
  generalize matrixL (grOf xs) = t1 at *
  generalize (numsG (grOf xs) side).map (dbody xs (grOf xs) side) ++ [[]] = dls at *
  generalize (numsG (grOf xs) side).flatMap (dlineT xs (grOf xs) side) = t2 at *
  go_wp2_with fail
  refine (H1.out _ hb2).mono ?_; rintro e w3 ⟨rfl, hb3⟩
  replace hb3 := below_keep' hb2 hb3
  go_wp2_with fail
  refine (H2.out _ hb3).mono ?_; rintro e w4 ⟨rfl, hb4⟩
  replace hb4 := below_keep' hb3 hb4
  clear hb2 hb3 H1 H2
  go_wp2_with fail
  refine (hSM.out _ hb4).mono ?_; rintro e w5 ⟨A5, c5, rfl, hS5, hb5⟩
  have hb5' := below_keep' hb4 hb5
  rw [List.length_cons] at hS5 ⊢
  have HS5 : Hid (∀ W, Below w5.heap.size w5 W → Sl W 0 W.heap.size 1 encStr A5 (rows.length + 1) (hdr :: rows)) := fun W hW => hS5.any.up hW (Nat.le_refl _) (Nat.le_refl _)
  clear hS5 hb5 hb4 hSM
  go_wp2_with fail
  go_loopw [9, 11] (fun v i wr => ∃ j : Nat, j ≤ rows.length ∧ i = .int .i64 ((j : Int) + 1) ∧ v = .int .i64 (matV (rows.take j)) ∧ Below w5.heap.size w5 wr) (fun _ i _ => rows.length + 1 - (intOf i).toNat)
  case atStart => exact ⟨0, by omega, rfl, rfl, Below.refl _ _⟩
  case round =>
    obtain ⟨j, hj, rfl, rfl, hbr⟩ := hrel
    have hbd := matV_bd (l := rows.take j) (fun x hx => HOM.out x (List.mem_of_mem_take hx))
    rw [List.length_take] at hbd
    by_cases hlt : j < rows.length
    · obtain ⟨b, off, x, rfl, hbb, hx, x0⟩ := (HS5.out _ hbr).st1 (show j + 1 < rows.length + 1 by omega)
      rw [List.getElem?_cons_succ] at hx
      have HMV := Lib.hid (matV_snoc hx)
      have hOK := HOM.out x (List.mem_of_getElem? hx)
      have hxl := hOK.1
      have HWO : Hid (∀ y ∈ tlW x, okW y) := hOK.2
      obtain ⟨w0, ws, hws⟩ := words_cons 32 x
      have htl : tlW x = ws := by unfold tlW; rw [hws]; rfl
      have HSQ := Lib.hid (split_any 32 x wr (by omega) (HEN.out _ (below_keep' hb5' hbr)).env)
      have hwc := wordsL_count 32 x
      rw [hws, List.length_cons] at hwc
      rw [hws, List.length_cons] at HSQ
      rw [htl] at HWO HMV
      generalize matV (rows.take j) = sm at *
      clear hx hOK htl hws
      have x0' : wr.cell? ⟨b, off + (j + 1), none⟩ = some (.string ⟨x.toArray⟩) := x0
      go_wp2_with fail
      refine HSQ.out.mono ?_; rintro e w6 ⟨A6, c6, rfl, hS6, hb6⟩
      have hbr6 := below_keep' hbr hb6
      have HS6 : Hid (∀ W, Below w6.heap.size w6 W → Sl W 0 W.heap.size 1 encStr A6 (ws.length + 1) (w0 :: ws)) := fun W hW => hS6.any.up hW (Nat.le_refl _) (Nat.le_refl _)
      clear hS6 hb6 hbr HSQ x0 x0'
      go_wp2_with fail
      go_loopw [9, 13] (fun v i wq => ∃ r : Nat, r ≤ ws.length ∧ i = .int .i64 ((r : Int) + 1) ∧ v = .int .i64 (sm + sumV (ws.take r)) ∧ Below w6.heap.size w6 wq) (fun _ i _ => ws.length + 1 - (intOf i).toNat)
      case atStart => exact ⟨0, by omega, rfl, by simp [sumV], Below.refl _ _⟩
      case round =>
        obtain ⟨r, hr, rfl, rfl, hbq⟩ := hrel
        rename World => wq
        have hbs := sumV_bd (l := ws.take r) (fun y hy => HWO.out y (List.mem_of_mem_take hy))
        rw [List.length_take] at hbs
        by_cases hlt2 : r < ws.length
        · obtain ⟨b2, off2, y, rfl, hbb2, hy, y0⟩ := (HS6.out _ hbq).st1 (show r + 1 < ws.length + 1 by omega)
          rw [List.getElem?_cons_succ] at hy
          have HSV := Lib.hid (sumV_snoc hy)
          have hyo := HWO.out y (List.mem_of_getElem? hy)
          have hav := atoiV_bd hyo
          have HAT := Lib.hid (atoiW_any y wq hyo (HEN.out _ (below_keep' hb5' (below_keep' hbr6 hbq))))
          generalize atoiV y = av at *
          generalize sumV (ws.take r) = sr at *
          clear hy hyo
          go_wp2_with fail
          refine HAT.out.mono ?_; rintro e w7 ⟨⟨ev, rfl⟩, hb7⟩
          have hbq7 := below_keep' hbq hb7
          clear hbq hb7 HAT y0
          go_wp2_with fail
          exact ⟨⟨r + 1, by omega, by go_num, by rw [HSV.out, ← Int.add_assoc], hbq7⟩, by simp [intOf]; omega⟩
        · obtain rfl : r = ws.length := by omega
          rw [List.take_length] at hbs ⊢
          have hbz := below_keep' hbr6 hbq
          generalize sumV ws = sr at *
          clear hbq hbr6
          go_wp2_with fail
          exact ⟨⟨j + 1, by omega, by go_num, by rw [HMV.out], hbz⟩, by simp [intOf]; omega⟩
    · obtain rfl : j = rows.length := by omega
      have HT : Hid (matV (rows.take rows.length) = len) := by show _ = _; rw [List.take_length, HMT.out]
      rw [HT.out]
      have hb6 := below_keep' hb5' hbr
      clear hbr hbd
      go_wp2_with fail
      refine (hSD.out _ hb6).mono ?_; rintro e w6 ⟨A6, c6, rfl, hS6, hb7⟩
      have hb6' := below_keep' hb6 hb7
      have HS6 : Hid (∀ W, Below w6.heap.size w6 W → Sl W 0 W.heap.size 1 encStr A6 dls.length dls) := fun W hW => hS6.any.up hW (Nat.le_refl _) (Nat.le_refl _)
      clear hS6 hb7 hb6 hSD
      go_wp2_with fail
      go_loopw [16, 17] (fun v i wp => ∃ q : Nat, q ≤ dls.length ∧ i = .int .i64 (q : Int) ∧ v = .int .i64 (dieV (dls.take q)) ∧ Below w6.heap.size w6 wp) (fun _ i _ => dls.length - (intOf i).toNat)
      case atStart => exact ⟨0, by omega, rfl, rfl, Below.refl _ _⟩
      case round =>
        obtain ⟨q, hq, rfl, rfl, hbp⟩ := hrel
        rename World => wp
        have hbd := dieV_bd (l := dls.take q) (fun x hx => HOD.out x (List.mem_of_mem_take hx))
        rw [List.length_take] at hbd
        by_cases hlt3 : q < dls.length
        · obtain ⟨b, off, x, rfl, hbb, hx, x0⟩ := (HS6.out _ hbp).st1 hlt3
          have HDV := Lib.hid (dieV_snoc hx)
          have hOK := HOD.out x (List.mem_of_getElem? hx)
          have hxl := hOK.1
          have HSQ := Lib.hid (split_any 32 x wp (by omega) (HEN.out _ (below_keep' hb6' hbp)).env)
          have hwc := wordsL_count 32 x
          have hsv := secV_bd hOK
          have hS1 := fun y => secV_some (ln := x) (x := y)
          have hS0 := secV_none (ln := x)
          have hO2 := hOK.2
          generalize dieV (dls.take q) = sm at *
          generalize secV x = sx at *
          generalize wordsL 32 x = ws at *
          have HS1 := Lib.hid hS1
          have HS0 := Lib.hid hS0
          have HO2 := Lib.hid hO2
          clear hx hOK hS1 hS0 hO2
          go_wp2_with fail
          refine HSQ.out.mono ?_; rintro e w7 ⟨A7, c7, rfl, hS7, hb7⟩
          have hbp7 := below_keep' hbp hb7
          clear hb7 hbp HSQ x0
          by_cases h1 : 1 < ws.length
          · obtain ⟨b2, off2, y, rfl, hbb2, hy, y0⟩ := hS7.any.st1 h1
            have hyo := HO2.out y hy
            have hav := atoiV_bd hyo
            have HSX : Hid (sx = atoiV y) := HS1.out y hy
            have HAT := Lib.hid (atoiW_any y w7 hyo (HEN.out _ (below_keep' hb6' hbp7)))
            generalize atoiV y = av at *
            clear hy hyo hS7
            go_wp2_with fail
            refine HAT.out.mono ?_; rintro e w8 ⟨⟨ev, rfl⟩, hb8⟩
            have hbp8 := below_keep' hbp7 hb8
            clear hbp7 hb8 HAT y0
            go_wp2_with fail
            exact ⟨⟨q + 1, by omega, by go_num, by rw [HDV.out, HSX.out], hbp8⟩, by simp [intOf]; omega⟩
          · have HSX : Hid (sx = 0) := HS0.out (by omega)
            clear hS7
            go_wp2_with fail
            exact ⟨⟨q + 1, by omega, by go_num, by rw [HDV.out, HSX.out, Int.add_zero], hbp7⟩, by simp [intOf]; omega⟩
        · obtain rfl : q = dls.length := by omega
          have HT2 : Hid (dieV (dls.take dls.length) = len) := by show _ = _; rw [List.take_length, HDT.out]
          rw [HT2.out]
          clear hbd
          go_wp2_with fail
          go_ret
          exact ⟨by simp, below_keep' hb6' hbp⟩
end Go.Proofs.YtdokpmfejibdlaaGreatDoor
