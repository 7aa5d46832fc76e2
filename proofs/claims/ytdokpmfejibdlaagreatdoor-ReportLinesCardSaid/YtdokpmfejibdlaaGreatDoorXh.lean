/- Chapter 54: ReportOrders: no report depends on the order of the specimens. -/
import Derived.Test.YtdokpmfejibdlaaGreatDoorXf
set_option linter.unusedSimpArgs false
set_option linter.unusedVariables false
namespace Go.Proofs.YtdokpmfejibdlaaGreatDoor
open Go.RowKit

theorem sortS_congr {a b : List Spm} (hn : (idsOf a).Nodup) (hp : a.Perm b) : sortS a = sortS b := by
  have hnb : (idsOf b).Nodup := by
    unfold idsOf at *
    exact (hp.map _).nodup_iff.1 hn
  refine List.Perm.eq_of_pairwise (le := ltS) (fun x y _ _ h1 h2 => ?_) (sortS_lt hn) (sortS_lt hnb) ((sortS_perm a).trans (hp.trans (sortS_perm b).symm))
  unfold ltS at h1 h2
  omega
def exS : List Spm := [⟨17, 3, 12, 2, 1, 6, 16820⟩, ⟨4, 3, 7, 1, 1, 0, 16600⟩]
def exG : Gr := ⟨[3], [7, 12], [⟨4, 3, 7⟩, ⟨17, 3, 12⟩]⟩
theorem exS_sort : sortS exS = [⟨4, 3, 7, 1, 1, 0, 16600⟩, ⟨17, 3, 12, 2, 1, 6, 16820⟩] := by
  have h : exS.Perm [⟨4, 3, 7, 1, 1, 0, 16600⟩, ⟨17, 3, 12, 2, 1, 6, 16820⟩] := List.Perm.swap _ _ _
  rw [sortS_congr (by decide) h]
  refine sortS_of_lt ?_
  refine List.Pairwise.cons (fun y hy => ?_) (List.Pairwise.cons (fun y hy => by cases hy) List.Pairwise.nil)
  rw [List.mem_singleton] at hy
  subst hy
  show (4 : Int) < 17
  decide
theorem exS_gr : grOf exS = exG := by
  unfold grOf
  rw [exS_sort]
  decide +kernel
theorem exS_chk : chk exS = 0 := by decide +kernel
theorem exS_E : grE exS = 0 := by
  unfold grE
  rw [exS_chk, exS_gr]
  decide
theorem exG_dies : diesG exG = [⟨0, 3⟩, ⟨1, 7⟩, ⟨1, 12⟩] := rfl
theorem exG_reach (i : Nat) (hi : i < 3) : ReachI exG 0 i := by
  have h1 : Reach exG ⟨0, 3⟩ ⟨1, 7⟩ := .step .refl ⟨⟨4, 3, 7⟩, by decide, by decide⟩
  have h2 : Reach exG ⟨0, 3⟩ ⟨1, 12⟩ := .step .refl ⟨⟨17, 3, 12⟩, by decide, by decide⟩
  have h : i = 0 ∨ i = 1 ∨ i = 2 := by omega
  rcases h with rfl | rfl | rfl
  · exact ⟨_, _, rfl, rfl, .refl⟩
  · exact ⟨_, _, rfl, rfl, h1⟩
  · exact ⟨_, _, rfl, rfl, h2⟩
theorem exG_part (i : Nat) (hi : i < 3) : partI exG i = 0 := by
  have hl : i < (diesG exG).length := hi
  obtain ⟨h1, h2, h3⟩ := firstI_spec hl
  have h4 : firstI exG i = 0 := by
    rcases Nat.eq_zero_or_pos (firstI exG i) with h | h
    · exact h
    · exact absurd (exG_reach i hi) (h3 0 h)
  unfold partI
  rw [h4]
  rfl
theorem exG_cnt : cntF exG 3 = 1 := by
  have hf : ∀ i, i < 3 → (isFirst exG i = true ↔ i = 0) := fun i hi => by
    rw [isFirst_iff]
    constructor
    · intro h
      rcases Nat.eq_zero_or_pos i with h0 | h0
      · exact h0
      · exact absurd (exG_reach i hi) (h 0 h0)
    · rintro rfl
      intro j hj
      omega
  rw [cntF_succ, cntF_succ, cntF_succ, if_pos ((hf 0 (by omega)).2 rfl), if_neg (fun h => by have := (hf 1 (by omega)).1 h; omega), if_neg (fun h => by have := (hf 2 (by omega)).1 h; omega)]
  rfl
theorem exG_chains : chainsG exG = [[⟨0, 3⟩, ⟨1, 7⟩, ⟨1, 12⟩]] := by
  unfold chainsG
  have h3 : (diesG exG).length = 3 := rfl
  rw [h3, exG_cnt]
  show [chainG exG 0] = _
  unfold chainG
  rw [h3]
  have : (List.range 3).filter (fun i => decide (partI exG i = 0)) = List.range 3 := by
    rw [List.filter_eq_self]
    intro i hi
    exact decide_eq_true (exG_part i (List.mem_range.1 hi))
  rw [this]
  rfl
theorem exG_loops : loopsG exG = 0 := by unfold loopsG; rw [exG_chains]; rfl
theorem exS_ns : nsG exS = [2, 1, 2, 2, 1, 0] := by
  unfold nsG
  rw [exS_gr, exG_chains, exG_loops]
  decide +kernel
def exT1 : List UInt8 := [115, 112, 101, 99, 105, 109, 101, 110, 115, 32, 50, 32, 111, 98, 118, 101, 114, 115, 101, 115, 32, 49, 32, 114, 101, 118, 101, 114, 115, 101, 115, 32, 50, 32, 112, 97, 105, 114, 115, 32, 50, 32, 99, 104, 97, 105, 110, 115, 32, 49, 32, 108, 111, 111, 112, 115, 32, 48, 10]
def exT2 : List UInt8 := [79, 51, 58, 32, 50, 32, 115, 112, 101, 99, 105, 109, 101, 110, 115, 59, 32, 115, 116, 97, 116, 101, 115, 32, 97, 44, 32, 98, 59, 32, 119, 105, 116, 104, 32, 82, 55, 44, 32, 82, 49, 50, 10]
def exT3 : List UInt8 := [49, 58, 32, 79, 51, 32, 82, 55, 32, 82, 49, 50, 10]
def exT4 : List UInt8 := [54, 104, 32, 49, 10, 49, 50, 104, 32, 49, 10]
def exT5 : List UInt8 := [98, 101, 108, 111, 119, 32, 48, 10, 49, 54, 46, 53, 48, 48, 45, 49, 54, 46, 55, 52, 57, 32, 49, 10, 97, 98, 111, 118, 101, 32, 49, 10]
def exT6 : List UInt8 := [45, 32, 82, 55, 32, 82, 49, 50, 10, 79, 51, 32, 49, 32, 49, 10]
theorem ex1 : repL exS (sumL (nsG exS)) = exT1 := by
  unfold repL
  rw [if_pos exS_E, exS_ns]
  decide +kernel
theorem ex2 : dL exS 0 = exT2 ∧ dE exS 0 = 0 := by
  have h : dE exS 0 = 0 := by unfold dE; rw [exS_E]; rfl
  refine ⟨?_, h⟩
  unfold dL
  rw [if_pos h, exS_gr]
  decide +kernel
theorem ex3 : repL exS (chainsL (chainsG (grOf exS))) = exT3 := by
  unfold repL
  rw [if_pos exS_E, exS_gr, exG_chains]
  decide +kernel
theorem ex4 : repL exS (hoursL (exS.map Spm.ax)) = exT4 := by
  unfold repL
  rw [if_pos exS_E]
  decide +kernel
theorem ex5 : wtL exS 16500 250 1 = exT5 ∧ wtE exS 16500 250 1 = 0 := by
  have h : wtE exS 16500 250 1 = 0 := by unfold wtE; rw [exS_E]; rfl
  refine ⟨?_, h⟩
  unfold wtL
  rw [if_pos h]
  decide +kernel
theorem ex6 : repL exS (matrixL (grOf exS)) = exT6 := by
  unfold repL
  rw [if_pos exS_E, exS_gr]
  decide +kernel
theorem Sl.fresh {α : Type} {k : Nat} {enc : α → List Value} (hk : ∀ x, (enc x).length = k) (w : World) (xs : List α) (vs : Array Value) (t : TypeId) (n : Nat) (hv : vs.toList = xs.flatMap enc) (hn : xs.length = n) :
    Sl (w.alloc (.cells vs t)) w.heap.size (w.alloc (.cells vs t)).heap.size k enc (some ⟨w.heap.size, 0, none⟩) n xs := by
  refine ⟨hn, fun _ => ⟨w.heap.size, 0, rfl, Nat.le_refl _, by simp, fun i x hx j u hu => ?_⟩⟩
  rw [World.cell?_alloc_new, Nat.zero_add, ← Array.getElem?_toList, hv]
  exact flat_at hk xs i x j u hx hu
set_option maxHeartbeats 1000000 in
theorem example_any (w : World) : Calls Tryz.prog 30 #[] w fun e w' => (∃ A c, e = .returned (.slice A 2 c) ∧ Sl w' 0 w'.heap.size 7 encS A 2 exS) ∧ Below w.heap.size w w' := by
  go_enter Tryz.func30, Tryz.ntmps30
  go_wp2_with fail
  have h := Sl.fresh encS_len w exS #[.int .i64 17, .int .i64 3, .int .i64 12, .int .i64 2, .int .i64 1, .int .i64 6, .int .i64 16820, .int .i64 4, .int .i64 3, .int .i64 7, .int .i64 1, .int .i64 1, .int .i64 0, .int .i64 16600] 34 2 rfl rfl
  refine bodyPost_ret (v := .slice (some ⟨w.heap.size, 0, none⟩) 2 2) (by simp [results, Tryz.results30, go_sem]) rfl ⟨⟨_, _, rfl, h.any⟩, by (repeat (first | exact Below.refl _ _ | assumption | refine Below.alloc ?_ (by first | omega | (simp only [World.size_alloc]; omega) | (simp; done) | (simp; omega)) _ | refine Below.setCell ?_ (by first | omega | (simp only [World.size_alloc]; omega) | (simp; done) | (simp; omega)) _ | refine Below.drew ?_ | refine below_drewN ?_ _))⟩
set_option maxHeartbeats 1000000 in
theorem few_any (A : Option Addr) (len cap : Nat) (xs : List Spm) (w : World) (hlen : len ≤ 1000000) (hS : Sl w 0 w.heap.size 7 encS A len xs) :
    Calls Tryz.prog 11 #[.slice A len cap] w fun e w' => e = .returned (.bool (decide (len ≤ 34) || (chk xs != 0 && decide (len < 200)))) ∧ Below w.heap.size w w' := by
  have HC := Lib.hid (bcheck_any A len cap xs w hlen hS)
  clear hS
  have HF : Hid ((decide (len ≤ 34) || (chk xs != 0 && decide (len < 200))) = (decide ((len : Int) ≤ 34) || (chk xs != 0 && decide ((len : Int) < 200)))) := by
    show _ = _
    have e1 : decide (len ≤ 34) = decide ((len : Int) ≤ 34) := by rw [decide_eq_decide]; omega
    have e2 : decide (len < 200) = decide ((len : Int) < 200) := by rw [decide_eq_decide]; omega
    rw [e1, e2]
  rw [HF.out]
  go_enter Tryz.func11, Tryz.ntmps11
  by_cases h1 : len ≤ 34
  · have d1 : decide ((len : Int) ≤ 34) = true := decide_eq_true (by omega)
    go_wp2_with fail
    go_ret
    exact ⟨by simp [d1], Below.refl _ _⟩
  · have d1 : decide ((len : Int) ≤ 34) = false := decide_eq_false (by omega)
    cases hc : (chk xs != 0)
    · go_wp2_with fail
      refine HC.out.mono ?_; rintro e w1 ⟨rfl, hb1⟩
      go_wp2_with fail
      go_ret
      exact ⟨by simp [d1, hc], hb1⟩
    · by_cases h2 : len < 200
      · have d2 : decide ((len : Int) < 200) = true := decide_eq_true (by omega)
        go_wp2_with fail
        refine HC.out.mono ?_; rintro e w1 ⟨rfl, hb1⟩
        go_wp2_with fail
        go_ret
        exact ⟨by simp [d1, d2, hc], hb1⟩
      · have d2 : decide ((len : Int) < 200) = false := decide_eq_false (by omega)
        go_wp2_with fail
        refine HC.out.mono ?_; rintro e w1 ⟨rfl, hb1⟩
        go_wp2_with fail
        go_ret
        exact ⟨by simp [d1, d2, hc], hb1⟩
set_option maxRecDepth 100000 in
set_option maxHeartbeats 8000000 in
theorem awake_any (w : World) (hE : Env w) : Calls Tryz.prog 10 #[] w fun e w' => e = .returned (.bool true) ∧ Below w.heap.size w w' := by
  go_enter Tryz.func10, Tryz.ntmps10
  go_wp2_with fail
  refine (example_any _).mono ?_; rintro e w1 ⟨⟨A, c, rfl, hS⟩, hb1⟩
  have HS : Hid (∀ W, Below w1.heap.size w1 W → Sl W 0 W.heap.size 7 encS A 2 exS) := fun W hW => hS.up hW (Nat.le_refl _) (Nat.le_refl _)
  have HEN : Hid (∀ W, Below w1.heap.size w1 W → Env W) := fun W hW => hE.step (below_keep' hb1 hW)
  have H1 : Hid (∀ W, Below w1.heap.size w1 W → Calls Tryz.prog 12 #[.slice A 2 c] W (RepW W exT1 0)) := fun W hW => by
    have := rsummary_any A 2 c exS W (HEN.out W hW) (by omega) (HS.out W hW)
    rwa [ex1, exS_E] at this
  have H2 : Hid (∀ W, Below w1.heap.size w1 W → Calls Tryz.prog 18 #[.slice A 2 c, .int .i64 0] W (RepW W exT2 0)) := fun W hW => by
    have := rdies_any A 2 c exS 0 W (HEN.out W hW) (by omega) (HS.out W hW)
    rwa [ex2.1, ex2.2] at this
  have H3 : Hid (∀ W, Below w1.heap.size w1 W → Calls Tryz.prog 14 #[.slice A 2 c] W (RepW W exT3 0)) := fun W hW => by
    have := rchains_any A 2 c exS W (HEN.out W hW) (by omega) (HS.out W hW)
    rwa [ex3, exS_E] at this
  have H4 : Hid (∀ W, Below w1.heap.size w1 W → Calls Tryz.prog 20 #[.slice A 2 c] W (RepW W exT4 0)) := fun W hW => by
    have := raxes_any A 2 c exS W (HEN.out W hW) (by omega) (HS.out W hW)
    rwa [ex4, exS_E] at this
  have H5 : Hid (∀ W, Below w1.heap.size w1 W → Calls Tryz.prog 22 #[.slice A 2 c, .int .i64 16500, .int .i64 250, .int .i64 1] W (RepW W exT5 0)) := fun W hW => by
    have := rweights_any A 2 c exS 16500 250 1 W (HEN.out W hW) (by omega) (HS.out W hW)
    rwa [ex5.1, ex5.2] at this
  have H6 : Hid (∀ W, Below w1.heap.size w1 W → Calls Tryz.prog 16 #[.slice A 2 c] W (RepW W exT6 0)) := fun W hW => by
    have := rmatrix_any A 2 c exS W (HEN.out W hW) (by omega) (HS.out W hW)
    rwa [ex6, exS_E] at this
  unfold exT1 at H1
  unfold exT2 at H2
  unfold exT3 at H3
  unfold exT4 at H4
  unfold exT5 at H5
  unfold exT6 at H6
  clear hS
  go_wp2_with fail
  refine (H1.out _ (Below.refl _ _)).mono ?_; rintro e w2 ⟨rfl, hb2⟩
  go_wp2_with fail
  refine (H2.out _ hb2).mono ?_; rintro e w3 ⟨rfl, hb3⟩
  replace hb3 := below_keep' hb2 hb3
  go_wp2_with fail
  refine (H3.out _ hb3).mono ?_; rintro e w4 ⟨rfl, hb4⟩
  replace hb4 := below_keep' hb3 hb4
  go_wp2_with fail
  refine (H4.out _ hb4).mono ?_; rintro e w5 ⟨rfl, hb5⟩
  replace hb5 := below_keep' hb4 hb5
  go_wp2_with fail
  refine (H5.out _ hb5).mono ?_; rintro e w6 ⟨rfl, hb6⟩
  replace hb6 := below_keep' hb5 hb6
  go_wp2_with fail
  refine (H6.out _ hb6).mono ?_; rintro e w7 ⟨rfl, hb7⟩
  replace hb7 := below_keep' hb6 hb7
  clear H1 H2 H3 H4 H5 H6
  go_wp2_with fail
  refine bodyPost_ret (v := .bool true) (by simp [results, Tryz.results10, go_sem]) rfl ⟨rfl, below_keep' hb1 hb7⟩
end Go.Proofs.YtdokpmfejibdlaaGreatDoor
set_option linter.unusedSimpArgs false
set_option linter.unusedVariables false
namespace Go.Proofs.YtdokpmfejibdlaaGreatDoor
open Go.RowKit

theorem chk_perm {a b : List Spm} (hp : a.Perm b) : chk a = chk b := by
  unfold chk
  have h1 : a.all validS = b.all validS := by
    rw [Bool.eq_iff_iff, List.all_eq_true, List.all_eq_true]
    exact ⟨fun h x hx => h x (hp.mem_iff.2 hx), fun h x hx => h x (hp.mem_iff.1 hx)⟩
  rw [hp.length_eq, h1]
  by_cases h2 : (idsOf a).Nodup
  · rw [if_pos h2, if_pos ((nodup_perm hp).1 h2)]
  · rw [if_neg h2, if_neg (fun h => h2 ((nodup_perm hp).2 h))]
theorem uniqI_perm {a b : List Int} (hp : a.Perm b) : uniqI a = uniqI b :=
  ascW_unique (uniqI_asc _) (uniqI_asc _) fun x => by rw [uniqI_mem, uniqI_mem, hp.mem_iff]
theorem grOf_perm {a b : List Spm} (hc : chk a = 0) (hp : a.Perm b) : grOf a = grOf b := by
  unfold grOf
  rw [sortS_congr ((chk_zero a).1 hc).2.2 hp, uniqI_perm (hp.map Spm.obv), uniqI_perm (hp.map Spm.rev)]
theorem grE_perm {a b : List Spm} (hp : a.Perm b) : grE a = grE b := by
  unfold grE
  rw [← chk_perm hp]
  by_cases hc : chk a = 0
  · rw [if_pos hc, if_pos hc, grOf_perm hc hp]
  · rw [if_neg hc, if_neg hc]
theorem states_perm {a b : List Spm} (hp : a.Perm b) (d : DieP) : statesS a d = statesS b d := uniqI_perm ((hp.filter _).map _)
theorem sum_perm {a b : List Spm} (hp : a.Perm b) : repL a (sumL (nsG a)) = repL b (sumL (nsG b)) := by
  unfold repL
  rw [← grE_perm hp]
  by_cases he : grE a = 0
  · rw [if_pos he, if_pos he]
    unfold nsG
    rw [grOf_perm (grE_chk he).1 hp, hp.length_eq]
  · rw [if_neg he, if_neg he]
theorem cha_perm {a b : List Spm} (hp : a.Perm b) : repL a (chainsL (chainsG (grOf a))) = repL b (chainsL (chainsG (grOf b))) := by
  unfold repL
  rw [← grE_perm hp]
  by_cases he : grE a = 0
  · rw [if_pos he, if_pos he, grOf_perm (grE_chk he).1 hp]
  · rw [if_neg he, if_neg he]
theorem dE_perm {a b : List Spm} (hp : a.Perm b) (side : Int) : dE a side = dE b side := by unfold dE; rw [grE_perm hp]
theorem dL_perm {a b : List Spm} (hp : a.Perm b) (side : Int) : dL a side = dL b side := by
  unfold dL
  rw [← dE_perm hp]
  by_cases he : dE a side = 0
  · rw [if_pos he, if_pos he]
    have h0 : grE a = 0 := by
      unfold dE at he
      by_cases h : grE a = 0
      · exact h
      · rw [if_neg h] at he; exact absurd he h
    rw [grOf_perm (grE_chk h0).1 hp]
    unfold diesL
    refine congrArg (fun f => List.flatMap f _) (funext fun n => ?_)
    unfold dlineT
    rw [states_perm hp]
  · rw [if_neg he, if_neg he]
/-! ### A list that is too long. -/
theorem chk_big {l : List Spm} (h : 64 < l.length) : chk l = 6 := by unfold chk; rw [if_pos h]
set_option maxHeartbeats 1000000 in
theorem bcheck_big (A : Option Addr) (len cap : Nat) (w : World) (h64 : 64 < len) (hlm : len ≤ maxLen) :
    Calls Tryz.prog 24 #[.slice A len cap] w fun e w' => e = .returned (.int .i64 6) ∧ Below w.heap.size w w' := by
  have hm : len ≤ 9223372036854775807 := by unfold maxLen at hlm; omega
  go_enter Tryz.func24, Tryz.ntmps24
  go_wp2_with fail
  go_ret
  exact ⟨rfl, Below.refl _ _⟩
set_option maxHeartbeats 1000000 in
theorem few_big (A : Option Addr) (len cap : Nat) (w : World) (h : 1000000 < len) (hlm : len ≤ maxLen) :
    Calls Tryz.prog 11 #[.slice A len cap] w fun e w' => e = .returned (.bool false) ∧ Below w.heap.size w w' := by
  have HC := Lib.hid (bcheck_big A len cap w (by omega) hlm)
  have hm : len ≤ 9223372036854775807 := by unfold maxLen at hlm; omega
  have d1 : decide ((len : Int) ≤ 34) = false := decide_eq_false (by omega)
  have d2 : decide ((len : Int) < 200) = false := decide_eq_false (by omega)
  go_enter Tryz.func11, Tryz.ntmps11
  go_wp2_with fail
  refine HC.out.mono ?_; rintro e w1 ⟨rfl, hb1⟩
  go_wp2_with fail
  go_ret
  exact ⟨by simp [d1, d2], hb1⟩
def fewB (len : Nat) (xs : List Spm) : Bool := decide (len ≤ 34) || (chk xs != 0 && decide (len < 200))
theorem fewB_lt {len : Nat} {xs : List Spm} (h : fewB len xs = true) : len < 200 := by
  unfold fewB at h
  rw [Bool.or_eq_true, Bool.and_eq_true, decide_eq_true_eq, decide_eq_true_eq] at h
  omega
theorem few_law (A : Option Addr) (len cap : Nat) (xs : List Spm) (w : World) (hS : Sl w 0 w.heap.size 7 encS A len xs) (hlm : len ≤ maxLen) :
    Calls Tryz.prog 11 #[.slice A len cap] w fun e w' => e = .returned (.bool (fewB len xs)) ∧ Below w.heap.size w w' := by
  by_cases h : len ≤ 1000000
  · exact few_any A len cap xs w h hS
  · have hf : fewB len xs = false := by
      cases hb : fewB len xs
      · rfl
      · have := fewB_lt hb; omega
    rw [hf]
    exact few_big A len cap w (by omega) hlm
theorem Tryz.infoSp : (Tryz.prog.info? 34).map (fun i => (i.zero, i.size, i.bytes)) = some (some (.agg #[.int .i64 0, .int .i64 0, .int .i64 0, .int .i64 0, .int .i64 0, .int .i64 0, .int .i64 0]), 7, 56) := by kernel_rfl
theorem rev_snoc {α : Type} {xs : List α} {k : Nat} {x : α} (hk : k < xs.length) (hx : xs[xs.length - 1 - k]? = some x) : xs.reverse.take (k + 1) = xs.reverse.take k ++ [x] := by
  refine takeSnocW ?_
  rw [List.getElem?_reverse hk]
  exact hx
set_option maxRecDepth 100000 in
set_option maxHeartbeats 8000000 in
theorem orders_law (A : Option Addr) (len cap : Nat) (xs : List Spm) (w : World) (hE : Env w) (hS : Sl w 0 w.heap.size 7 encS A len xs) (hlm : len ≤ maxLen) :
    Calls Tryz.prog 6 #[.slice A len cap] w fun e w' => e = .returned (.bool true) ∧ Below w.heap.size w w' := by
  have HEN : Hid (∀ W, Below w.heap.size w W → Env W) := fun W hW => hE.step hW
  have HS : Hid (∀ W, Below w.heap.size w W → Sl W 0 W.heap.size 7 encS A len xs) := fun W hW => hS.up hW (Nat.le_refl _) (Nat.le_refl _)
  have HAW : Hid (∀ W, Below w.heap.size w W → Calls Tryz.prog 10 #[] W fun e w' => e = .returned (.bool true) ∧ Below W.heap.size W w') := fun W hW => awake_any W (HEN.out W hW)
  have HFW : Hid (∀ W, Below w.heap.size w W → Calls Tryz.prog 11 #[.slice A len cap] W fun e w' => e = .returned (.bool (fewB len xs)) ∧ Below W.heap.size W w') := fun W hW => few_law A len cap xs W (HS.out W hW) hlm
  have HL := Lib.hid hS.len
  clear hS hE
  obtain ⟨i0, hi, hz0, hz1, hz2⟩ := info_parts Tryz.infoSp
  go_enter Tryz.func6, Tryz.ntmps6
  go_wp2_with fail
  refine (HAW.out _ (Below.refl _ _)).mono ?_; rintro e w1 ⟨rfl, hb1⟩
  go_wp2_with fail
  refine (HFW.out _ hb1).mono ?_; rintro e w2 ⟨rfl, hb2⟩
  replace hb2 := below_keep' hb1 hb2
  cases hf : fewB len xs
  · go_wp2_with fail
    refine (HAW.out _ hb2).mono ?_; rintro e w3 ⟨rfl, hb3⟩
    go_wp2_with fail
    go_ret
    exact ⟨rfl, below_keep' hb2 hb3⟩
  have hlt200 := fewB_lt hf
  clear hlm hb1 hf HFW HAW
  go_wp2_with fail
  go_loopw [3, 4] (fun v i wr => ∃ k : Nat, k ≤ len ∧ i = .int .i64 ((len : Int) - 1 - k) ∧ wr.ownsRow w2.heap.size 34 7 v k ((xs.reverse.take k).flatMap encS) ∧ Below w2.heap.size w2 wr) (fun _ i _ => (intOf i + 1).toNat)
  case atStart => exact ⟨0, by omega, by go_num, World.ownsRow_nil _ _ _ _, Below.refl _ _⟩
  case round =>
    obtain ⟨k, hk, rfl, hown, hbr⟩ := hrel
    have hzr := hbr.size
    by_cases hlt : k < len
    · obtain ⟨p, hp⟩ : ∃ p : Nat, p = len - 1 - k := ⟨_, rfl⟩
      have hpi : (len : Int) - 1 - k = (p : Int) := by omega
      have hpl : p < len := by omega
      obtain ⟨b, off, x, rfl, hbb, hx, x0, x1, x2, x3, x4, x5, x6⟩ := (HS.out _ (below_keep' hb2 hbr)).sp hpl
      have HRV : Hid (xs.reverse.take (k + 1) = xs.reverse.take k ++ [x]) := rev_snoc (by rw [HL.out]; exact hlt) (by rw [HL.out, ← hp]; exact hx)
      have HPK : Hid ((p : Int) = len - 1 - k) := hpi.symm
      have hpk2 : p + k + 1 = len := by omega
      rw [hpi]
      clear hx hp hpi
      generalize xs.reverse.take k = ys at *
      go_wp2_with (at_builtin; refine wpList_append_own _ rfl _ _ 22 rfl w2.heap.size 34 i0 (.agg #[.int .i64 0, .int .i64 0, .int .i64 0, .int .i64 0, .int .i64 0, .int .i64 0, .int .i64 0]) 7 56 Tryz.underlying22 hi hz0 hz1 hz2 rfl (by decide) _ _ _ rfl (hown.alloc _) ⟨wr.heap.size, 0, none⟩ 1 1 (encS x) rfl rfl ?c1 ?c2 ?c3 ?c4 ?c5 ?_)
      case c1 => exact cell_list_at (by simp) _ _
      case c2 => exact encS_one x
      case c3 => unfold maxLen; omega
      case c4 => omega
      case c5 => simp; omega
      intro v' w5 hown5 hgrow _
      have hb5 := below_row (hbr.alloc hbr.size (.cells (encS x).toArray 34)) (hown.alloc _) hgrow (Nat.le_refl _) (Nat.le_refl _)
      clear hgrow hown hbr
      go_wp2_with fail
      exact ⟨⟨k + 1, by omega, by go_num, by rw [HRV.out, List.flatMap_append]; simpa using hown5, hb5⟩, by simp [intOf] <;> omega⟩
    · obtain rfl : k = len := by omega
      have hall : xs.reverse.take k = xs.reverse := List.take_of_length_le (by rw [List.length_reverse, HL.out]; exact Nat.le_refl _)
      rw [hall] at hown
      obtain ⟨Ao, co, rfl, hco⟩ := own_form hown
      have hSr := (Sl.of_own (k := 7) (enc := encS) encS_len hown (by rw [List.length_reverse, HL.out])).any
      have hp : xs.reverse.Perm xs := List.reverse_perm xs
      have hbw := below_keep' hb2 hbr
      have HX : Hid (∀ W, Below wr.heap.size wr W → Sl W 0 W.heap.size 7 encS A k xs) := fun W hW => HS.out W (below_keep' hbw hW)
      have HY : Hid (∀ W, Below wr.heap.size wr W → Sl W 0 W.heap.size 7 encS Ao k xs.reverse) := fun W hW => hSr.up hW (Nat.le_refl _) (Nat.le_refl _)
      have HE2 : Hid (∀ W, Below wr.heap.size wr W → Env W) := fun W hW => HEN.out W (below_keep' hbw hW)
      have H1 : Hid (∀ W, Below wr.heap.size wr W → Calls Tryz.prog 12 #[.slice A k cap] W (RepW W (repL xs (sumL (nsG xs))) (grE xs))) := fun W hW => rsummary_any A k cap xs W (HE2.out W hW) (by omega) (HX.out W hW)
      have H2 : Hid (∀ W, Below wr.heap.size wr W → Calls Tryz.prog 12 #[.slice Ao k co] W (RepW W (repL xs (sumL (nsG xs))) (grE xs))) := fun W hW => by
        have := rsummary_any Ao k co xs.reverse W (HE2.out W hW) (by omega) (HY.out W hW)
        rwa [sum_perm hp, grE_perm hp] at this
      have H3 : Hid (∀ W, Below wr.heap.size wr W → Calls Tryz.prog 18 #[.slice A k cap, .int .i64 1] W (RepW W (dL xs 1) (dE xs 1))) := fun W hW => rdies_any A k cap xs 1 W (HE2.out W hW) (by omega) (HX.out W hW)
      have H4 : Hid (∀ W, Below wr.heap.size wr W → Calls Tryz.prog 18 #[.slice Ao k co, .int .i64 1] W (RepW W (dL xs 1) (dE xs 1))) := fun W hW => by
        have := rdies_any Ao k co xs.reverse 1 W (HE2.out W hW) (by omega) (HY.out W hW)
        rwa [dL_perm hp, dE_perm hp] at this
      have H5 : Hid (∀ W, Below wr.heap.size wr W → Calls Tryz.prog 14 #[.slice A k cap] W (RepW W (repL xs (chainsL (chainsG (grOf xs)))) (grE xs))) := fun W hW => rchains_any A k cap xs W (HE2.out W hW) (by omega) (HX.out W hW)
      have H6 : Hid (∀ W, Below wr.heap.size wr W → Calls Tryz.prog 14 #[.slice Ao k co] W (RepW W (repL xs (chainsL (chainsG (grOf xs)))) (grE xs))) := fun W hW => by
        have := rchains_any Ao k co xs.reverse W (HE2.out W hW) (by omega) (HY.out W hW)
        rwa [cha_perm hp, grE_perm hp] at this
      generalize repL xs (sumL (nsG xs)) = t1 at *
      generalize dL xs 1 = t2 at *
      generalize repL xs (chainsL (chainsG (grOf xs))) = t3 at *
      generalize dE xs 1 = z2 at *
      generalize grE xs = z1 at *
      clear hSr hp hown hall HX HY HE2 hbr hb2
      go_wp2_with fail
      refine (H1.out _ (Below.refl _ _)).mono ?_; rintro e w3 ⟨rfl, hb3⟩
      go_wp2_with fail
      refine (H2.out _ hb3).mono ?_; rintro e w4 ⟨rfl, hb4⟩
      replace hb4 := below_keep' hb3 hb4
      go_wp2_with fail
      refine (H3.out _ hb4).mono ?_; rintro e w5 ⟨rfl, hb5⟩
      replace hb5 := below_keep' hb4 hb5
      go_wp2_with fail
      refine (H4.out _ hb5).mono ?_; rintro e w6 ⟨rfl, hb6⟩
      replace hb6 := below_keep' hb5 hb6
      go_wp2_with fail
      refine (H5.out _ hb6).mono ?_; rintro e w7 ⟨rfl, hb7⟩
      replace hb7 := below_keep' hb6 hb7
      go_wp2_with fail
      refine (H6.out _ hb7).mono ?_; rintro e w8 ⟨rfl, hb8⟩
      replace hb8 := below_keep' hb7 hb8
      clear H1 H2 H3 H4 H5 H6 hb3 hb4 hb5 hb6 hb7
      go_wp2_with fail
      go_ret
      exact ⟨by simp, below_keep' hbw hb8⟩
end Go.Proofs.YtdokpmfejibdlaaGreatDoor
