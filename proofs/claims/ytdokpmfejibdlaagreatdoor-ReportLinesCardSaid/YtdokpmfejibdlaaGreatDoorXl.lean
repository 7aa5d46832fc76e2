/- Chapter 54: the reference's graph (13). -/
import Derived.Test.YtdokpmfejibdlaaGreatDoorXk
set_option linter.unusedSimpArgs false
set_option linter.unusedVariables false
namespace Go.Proofs.YtdokpmfejibdlaaGreatDoor
open Go.RowKit

def insLk (x : Lnk) : List Lnk → List Lnk
 | [] => [x]
 | y :: r => if y.id < x.id then y :: insLk x r else x :: y :: r
theorem insLk_cut {x : Lnk} : ∀ (k : Nat) (l : List Lnk), (∀ y ∈ l.take k, y.id < x.id) → (k = l.length ∨ ∃ y, l[k]? = some y ∧ ¬ y.id < x.id) → insLk x l = l.take k ++ x :: l.drop k
 | 0, [], _, _ => rfl
 | 0, y :: r, _, h => by
  rcases h with h | ⟨z, hz, hn⟩
  ·simp at h
  ·have : y = z := by simpa using hz
   subst this
   simp [insLk, hn]
 | k + 1, [], _, h => by
  rcases h with h | ⟨z, hz, hn⟩
  ·simp at h
  ·simp at hz
 | k + 1, y :: r, h1, h2 => by
  have hy : y.id < x.id := h1 y (by simp)
  have ih := insLk_cut k r (fun z hz => h1 z (by simp [hz])) (by
   rcases h2 with h | ⟨z, hz, hn⟩
   ·exact .inl (by simpa using h)
   ·exact .inr ⟨z, by simpa using hz, hn⟩)
  simp [insLk, hy, ih]
theorem insLk_mem {x z : Lnk} : ∀ {l : List Lnk}, z ∈ insLk x l ↔ z = x ∨ z ∈ l
 | [] => by simp [insLk]
 | y :: r => by
  unfold insLk
  split
  ·rw [List.mem_cons, insLk_mem, List.mem_cons]; constructor <;> (rintro (h | h | h) <;> simp [h])
  ·simp
theorem insLk_asc {x : Lnk} : ∀ {l : List Lnk}, l.Pairwise (fun a b => a.id < b.id) → (∀ y ∈ l, y.id ≠ x.id) → (insLk x l).Pairwise (fun a b => a.id < b.id)
 | [], _, _ => by simp [insLk]
 | y :: r, h, hn => by
  rw [List.pairwise_cons] at h
  unfold insLk
  split
  ·rename_i hy
   rw [List.pairwise_cons]
   refine ⟨fun z hz => ?_, insLk_asc h.2 (fun z hz => hn z (by simp [hz]))⟩
   rcases insLk_mem.1 hz with rfl | hz
   ·exact hy
   ·exact h.1 z hz
  ·rename_i hy
   have hyx := hn y (by simp)
   rw [List.pairwise_cons, List.pairwise_cons]
   refine ⟨fun z hz => ?_, h.1, h.2⟩
   rcases List.mem_cons.1 hz with rfl | hz
   ·omega
   ·have := h.1 z hz; omega
set_option maxRecDepth 100000 in
set_option maxHeartbeats 4000000 in
theorem rinsert_any (L : Nat) (A : Option Addr) (n c : Nat) (l : List Lnk) (x : Lnk) (w : World) (hLw : L ≤ w.heap.size) (hn : n ≤ 1000000) (hc : n ≤ c) (hS : Sl w L w.heap.size 3 encL A n l) :
  Calls Tryz.prog 124 #[.slice A n c, .agg #[.int .i64 x.id, .int .i64 x.obv, .int .i64 x.rev]] w fun e w' => (∃ A' n' c', e = .returned (.slice A' n' c') ∧ n' ≤ n + 1 ∧ n' ≤ c' ∧ Sl w' L w'.heap.size 3 encL A' n' (insLk x l)) ∧ Below w.heap.size w w' := by
 have HL := Lib.hid hS.len
 have HS0 : Hid (∀ W, Below w.heap.size w W → Sl W L W.heap.size 3 encL A n l) := fun W hW => hS.up hW (Nat.le_refl _) (Nat.le_refl _)
 clear hS
 obtain ⟨i0, hi, hz0, hz1, hz2⟩ := info_parts Tryz.infoLk
 have X : Bx (w.alloc (.cells #[.int .i64 x.id, .int .i64 x.obv, .int .i64 x.rev] 96)) w.heap.size [.int .i64 x.id, .int .i64 x.obv, .int .i64 x.rev] := Bx.new w [.int .i64 x.id, .int .i64 x.obv, .int .i64 x.rev] 96
 have hb1 : Below w.heap.size w (w.alloc (.cells #[.int .i64 x.id, .int .i64 x.obv, .int .i64 x.rev] 96)) := by (repeat (first | exact Below.refl _ _ | assumption | refine Below.alloc ?_ (by first | omega | (simp only [World.size_alloc]; omega) | (simp; done) | (simp; omega)) _ | refine Below.setCell ?_ (by first | omega | (simp only [World.size_alloc]; omega) | (simp; done) | (simp; omega)) _ | refine Below.drew ?_ | refine below_drewN ?_ _))
 go_enter Tryz.func124, Tryz.ntmps124
 go_wp2_with fail
 generalize w.alloc (.cells #[.int .i64 x.id, .int .i64 x.obv, .int .i64 x.rev] 96) = w1 at *
 have HC0 : Hid (∀ W, Below w1.heap.size w1 W → Below w.heap.size w W) := fun W hW => hb1.trans (hW.mono hb1.size)
 have HS : Hid (∀ W, Below w1.heap.size w1 W → Sl W L W.heap.size 3 encL A n l) := fun W hW => HS0.out _ (HC0.out _ hW)
 have HB : Hid (∀ W, Below w1.heap.size w1 W → W.cell? ⟨w.heap.size, 0, none⟩ = some (.int .i64 x.id) ∧ W.cell? ⟨w.heap.size, 1, none⟩ = some (.int .i64 x.obv) ∧ W.cell? ⟨w.heap.size, 2, none⟩ = some (.int .i64 x.rev)) := fun W hW => bx3 (X.up hW)
 have hLw1 : L ≤ w1.heap.size := Nat.le_trans hLw hb1.size
 clear HS0 X hb1
 go_loopw [5] (fun s wr => ∃ k : Nat, k ≤ n ∧ s = .int .i64 (k : Int) ∧ (∀ y ∈ l.take k, y.id < x.id) ∧ Below w1.heap.size w1 wr) (fun s _ => n - (intOf s).toNat)
 case atStart => exact ⟨0, by omega, rfl, by simp, Below.refl _ _⟩
 case round =>
  obtain ⟨k, hk, rfl, hv, hbr⟩ := hrel
  have HV := Lib.hid hv; clear hv
  obtain ⟨e0, e1, e2⟩ := HB.out _ hbr
  by_cases hlt : k < n
  ·obtain ⟨b, off, y, rfl, hbb, hx, x0, x1, x2⟩ := (HS.out _ hbr).ln hlt
   have HX := Lib.hid hx; clear hx
   by_cases hy : y.id < x.id
   ·have HA := Lib.hid (all_takeW (p := fun y => y.id < x.id) HX.out HV.out hy)
    go_wp2_with fail
    go_quiet (fail)
    go_wp2_with fail
    go_roundw
    case rel => exact ⟨k + 1, by omega, by go_num, HA.out, below_drewN hbr _⟩
    case measure => simp [intOf]; omega
   ·have HCT := Lib.hid (insLk_cut (x := x) k l HV.out (.inr ⟨y, HX.out, hy⟩))
    have HR : Hid (insLk x l = l.take k ++ x :: l.drop k) := HCT
    go_wp2_with fail
    go_quiet (fail)
    go_wp2_with fail
    have hC : Below w1.heap.size w1 (wr.drewN nq).drew := (below_drewN hbr nq).drew
    have hkc : k ≤ c := by omega
    refine wp_region_noPanic ?_
    refine wp_region_held_drew (S := fun U => U.cell? ⟨w.heap.size, 0, none⟩ = some (.int .i64 x.id) ∧ U.cell? ⟨w.heap.size, 1, none⟩ = some (.int .i64 x.obv) ∧ U.cell? ⟨w.heap.size, 2, none⟩ = some (.int .i64 x.rev)) (by kernel_rfl) (HB.out _ hC) (fun hHeld => ?_)
    generalize (wr.drewN nq).drew = W at *
    refine' takeW 1 ?_ ?_ ?_ (by kernel_rfl) (by kernel_rfl) (by kernel_rfl) (fun _ _ _ h => h) hHeld ?_
    rotate_left 2
    ·(simp only [List.getElem?_toArray, List.getElem?_cons_succ, List.getElem?_cons_zero]; try rfl)
    ·rfl
    ·(intro w hSw; (try dsimp only at hSw); go_simp; first | done | with_reducible rfl)
    (try simp only [Act.put, List.setIfInBounds_toArray, List.set_cons_zero, List.set_cons_succ])
    refine' takeW 2 ?_ ?_ ?_ (by kernel_rfl) (by kernel_rfl) (by kernel_rfl) (fun _ _ _ h => h) hHeld ?_
    rotate_left 2
    ·(simp only [List.getElem?_toArray, List.getElem?_cons_succ, List.getElem?_cons_zero]; try rfl)
    ·rfl
    ·(intro w hSw; (try dsimp only at hSw); go_simp; first | done | with_reducible rfl)
    (try simp only [Act.put, List.setIfInBounds_toArray, List.set_cons_zero, List.set_cons_succ])
    refine' takeW 3 ?_ ?_ ?_ (by kernel_rfl) (by kernel_rfl) (by kernel_rfl) (fun _ _ _ h => h) hHeld ?_
    rotate_left 2
    ·(simp only [List.getElem?_toArray, List.getElem?_cons_succ, List.getElem?_cons_zero]; try rfl)
    ·rfl
    ·(intro w hSw; (try dsimp only at hSw); go_simp; first | done | with_reducible rfl)
    (try simp only [Act.put, List.setIfInBounds_toArray, List.set_cons_zero, List.set_cons_succ])
    refine' takeW 5 ?_ ?_ ?_ (by kernel_rfl) (by kernel_rfl) (by kernel_rfl) (fun _ _ _ h => h) hHeld ?_
    rotate_left 2
    ·(simp only [List.getElem?_toArray, List.getElem?_cons_succ, List.getElem?_cons_zero]; try rfl)
    ·rfl
    ·(intro w hSw; (try dsimp only at hSw); go_simp; first | done | with_reducible rfl)
    (try simp only [Act.put, List.setIfInBounds_toArray, List.set_cons_zero, List.set_cons_succ])
    refine' takeW 8 ?_ ?_ ?_ (by kernel_rfl) (by kernel_rfl) (by kernel_rfl) (fun _ _ _ h => h) hHeld ?_
    rotate_left 2
    ·(simp only [List.getElem?_toArray, List.getElem?_cons_succ, List.getElem?_cons_zero]; try rfl)
    ·rfl
    ·(intro w hSw; (try dsimp only at hSw); go_simp; first | done | with_reducible rfl)
    (try simp only [Act.put, List.setIfInBounds_toArray, List.set_cons_zero, List.set_cons_succ])
    refine' takeW 9 ?_ ?_ ?_ (by kernel_rfl) (by kernel_rfl) (by kernel_rfl) (fun _ _ _ h => h) hHeld ?_
    rotate_left 2
    ·(simp only [List.getElem?_toArray, List.getElem?_cons_succ, List.getElem?_cons_zero]; try rfl)
    ·rfl
    ·(intro w hSw; (try dsimp only at hSw); go_simp; first | done | with_reducible rfl)
    (try simp only [Act.put, List.setIfInBounds_toArray, List.set_cons_zero, List.set_cons_succ])
    refine' takeW 10 ?_ ?_ ?_ (by kernel_rfl) (by kernel_rfl) (by kernel_rfl) (fun _ _ _ h => h) hHeld ?_
    rotate_left 2
    ·(simp only [List.getElem?_toArray, List.getElem?_cons_succ, List.getElem?_cons_zero]; try rfl)
    ·rfl
    ·(intro w hSw; (try dsimp only at hSw); go_simp; first | done | with_reducible rfl)
    (try simp only [Act.put, List.setIfInBounds_toArray, List.set_cons_zero, List.set_cons_succ])
    refine wpAnyH_ready (rs := [0, 6]) (by kernel_rfl) (by simp) ?_
    refine AllReadyH.cons (o := ?o1_7_0) ?h1_7_0 (fun K hK => ?s1_7_0) (AllReadyH.cons (o := ?o1_7_6) ?h1_7_6 (fun K hK => ?s1_7_6) AllReadyH.nil)
    case h1_7_0 => (simp only [List.getElem?_toArray, List.getElem?_cons_succ, List.getElem?_cons_zero]; try rfl)
    case h1_7_6 => (simp only [List.getElem?_toArray, List.getElem?_cons_succ, List.getElem?_cons_zero]; try rfl)
    case s1_7_0 =>
     (try go_simp)
     have hO := own0 (e := 96) (k := 3) hC (Nat.le_refl _)
     (try simp only [World.size_alloc] at hO)
     (try replace hN := hN.up (one_alloc _ (.cells #[] 96)))
     replace hC := hC.alloc hC.size (.cells #[] 96)
     refine hK.out _ _ (HB.out _ hC) (fun hHeld => ?_)
     clear hK K
     (try simp only [Act.put, List.setIfInBounds_toArray, List.set_cons_zero, List.set_cons_succ])
     refine wpAnyH_ready (rs := [4, 6]) (by kernel_rfl) (by simp) ?_
     refine AllReadyH.cons (o := ?o1_8_4) ?h1_8_4 (fun K hK => ?s1_8_4) (AllReadyH.cons (o := ?o1_8_6) ?h1_8_6 (fun K hK => ?s1_8_6) AllReadyH.nil)
     case h1_8_4 => (simp only [List.getElem?_toArray, List.getElem?_cons_succ, List.getElem?_cons_zero]; try rfl)
     case h1_8_6 => (simp only [List.getElem?_toArray, List.getElem?_cons_succ, List.getElem?_cons_zero]; try rfl)
     case s1_8_4 =>
      refine step_append_sl rfl _ _ 50 rfl w1.heap.size 96 i0 (.agg #[.int .i64 0, .int .i64 0, .int .i64 0]) 3 24 encL_len encL_one Tryz.underlying50 hi hz0 hz1 hz2 rfl (by decide) (.slice (some ⟨_, 0, none⟩) 0 0) _ _ rfl hO _ rfl ((HS.out _ hC).cut k (by omega)) (by unfold maxLen; omega) (by omega) hC.size ?_
      intro v4 w4 hO4 hg4
      (try replace hN := hN.grown hg4 (by intro e9; simp [Value.ownBlock] at e9))
      replace hC := below_row hC hO hg4 (Nat.le_refl _) (Nat.le_refl _)
      rw [Nat.zero_add, List.nil_append] at hO4
      obtain ⟨A4, c4, rfl, hc4⟩ := own_form hO4
      clear hO hg4
      refine hK.out _ _ (HB.out _ hC) (fun hHeld => ?_)
      clear hK K
      (try simp only [Act.put, List.setIfInBounds_toArray, List.set_cons_zero, List.set_cons_succ])
      refine wpAnyH_ready (rs := [6]) (by kernel_rfl) (by simp) ?_
      refine' AllReadyH.cons ?_ (fun K hK => ?_) AllReadyH.nil
      rotate_left 1
      ·(simp only [List.getElem?_toArray, List.getElem?_cons_succ, List.getElem?_cons_zero]; try rfl)
      (try go_simp)
      have hN := one1 hC [Value.int .i64 x.id, Value.int .i64 x.obv, Value.int .i64 x.rev] 96
      (try simp only [World.size_alloc] at hN)
      (try replace hO4 := hO4.alloc (.cells #[Value.int .i64 x.id, Value.int .i64 x.obv, Value.int .i64 x.rev] 96))
      (try replace hO := hO.alloc (.cells #[Value.int .i64 x.id, Value.int .i64 x.obv, Value.int .i64 x.rev] 96))
      replace hC := hC.alloc hC.size (.cells #[Value.int .i64 x.id, Value.int .i64 x.obv, Value.int .i64 x.rev] 96)
      refine hK.out _ _ (HB.out _ hC) (fun hHeld => ?_)
      clear hK K
      (try simp only [Act.put, List.setIfInBounds_toArray, List.set_cons_zero, List.set_cons_succ])
      refine wpAnyH_ready (rs := [7]) (by kernel_rfl) (by simp) ?_
      refine' AllReadyH.cons ?_ (fun K hK => ?_) AllReadyH.nil
      rotate_left 1
      ·(simp only [List.getElem?_toArray, List.getElem?_cons_succ, List.getElem?_cons_zero]; try rfl)
      refine step_append_sl rfl _ _ 50 rfl w1.heap.size 96 i0 (.agg #[.int .i64 0, .int .i64 0, .int .i64 0]) 3 24 encL_len encL_one Tryz.underlying50 hi hz0 hz1 hz2 rfl (by decide) (.slice A4 k c4) _ _ rfl hO4 _ rfl (WOne.sl (enc := encL) (x := x) hN) (by unfold maxLen; omega) (by omega) hC.size ?_
      intro v7 w7 hO7 hg7
      replace hC := below_row hC hO4 hg7 (Nat.le_refl _) (Nat.le_refl _)
      obtain ⟨A7, c7, rfl, hc7⟩ := own_form hO7
      clear hO4 hg7 hN
      refine hK.out _ _ (HB.out _ hC) (fun hHeld => ?_)
      clear hK K
      (try simp only [Act.put, List.setIfInBounds_toArray, List.set_cons_zero, List.set_cons_succ])
      refine wpAnyH_ready (rs := [11]) (by kernel_rfl) (by simp) ?_
      refine' AllReadyH.cons ?_ (fun K hK => ?_) AllReadyH.nil
      rotate_left 1
      ·(simp only [List.getElem?_toArray, List.getElem?_cons_succ, List.getElem?_cons_zero]; try rfl)
      refine step_append_sl rfl _ _ 50 rfl w1.heap.size 96 i0 (.agg #[.int .i64 0, .int .i64 0, .int .i64 0]) 3 24 encL_len encL_one Tryz.underlying50 hi hz0 hz1 hz2 rfl (by decide) (.slice A7 (k + 1) c7) _ _ rfl hO7 _ rfl ((HS.out _ hC).drop_ (q := k) (by omega) (by intro h9 b9 o9 e9; first | (exfalso; omega) | (cases e9; first | rfl | (rw [if_neg (by omega)]; simp) | (simp; omega) | simp)))  (by unfold maxLen; omega) (by omega) hC.size ?_
      intro v11 w11 hO11 hg11
      replace hC := below_row hC hO7 hg11 (Nat.le_refl _) (Nat.le_refl _)
      obtain ⟨A11, c11, rfl, hc11⟩ := own_form hO11
      clear hO7 hg11
      refine hK.out _ _ (HB.out _ hC) (fun hHeld => ?_)
      clear hK K
      (try simp only [Act.put, List.setIfInBounds_toArray, List.set_cons_zero, List.set_cons_succ])
      refine' takeW 12 ?_ ?_ ?_ (by kernel_rfl) (by kernel_rfl) (by kernel_rfl) (fun _ _ _ h => h) hHeld ?_
      rotate_left 2
      ·(simp only [List.getElem?_toArray, List.getElem?_cons_succ, List.getElem?_cons_zero]; try rfl)
      ·rfl
      ·(intro w hSw; (try dsimp only at hSw); go_simp; first | done | with_reducible rfl)
      (try simp only [Act.put, List.setIfInBounds_toArray, List.set_cons_zero, List.set_cons_succ])
      refine wpAnyH_done (by kernel_rfl) ?_ _
      refine NoPanic.normal ?_
      go_wp2_with fail
      all_goals (go_ret; refine ⟨⟨A11, _, c11, rfl, by omega, hc11, ?_⟩, HC0.out _ hC⟩; rw [HR.out])
      all_goals exact (ins_sl encL_len hO11 HL.out (by omega)).less hLw1
     case s1_8_6 =>
      (try go_simp)
      have hN := one1 hC [Value.int .i64 x.id, Value.int .i64 x.obv, Value.int .i64 x.rev] 96
      (try simp only [World.size_alloc] at hN)
      (try replace hO4 := hO4.alloc (.cells #[Value.int .i64 x.id, Value.int .i64 x.obv, Value.int .i64 x.rev] 96))
      (try replace hO := hO.alloc (.cells #[Value.int .i64 x.id, Value.int .i64 x.obv, Value.int .i64 x.rev] 96))
      replace hC := hC.alloc hC.size (.cells #[Value.int .i64 x.id, Value.int .i64 x.obv, Value.int .i64 x.rev] 96)
      refine hK.out _ _ (HB.out _ hC) (fun hHeld => ?_)
      clear hK K
      (try simp only [Act.put, List.setIfInBounds_toArray, List.set_cons_zero, List.set_cons_succ])
      refine wpAnyH_ready (rs := [4]) (by kernel_rfl) (by simp) ?_
      refine' AllReadyH.cons ?_ (fun K hK => ?_) AllReadyH.nil
      rotate_left 1
      ·(simp only [List.getElem?_toArray, List.getElem?_cons_succ, List.getElem?_cons_zero]; try rfl)
      refine step_append_sl rfl _ _ 50 rfl w1.heap.size 96 i0 (.agg #[.int .i64 0, .int .i64 0, .int .i64 0]) 3 24 encL_len encL_one Tryz.underlying50 hi hz0 hz1 hz2 rfl (by decide) (.slice (some ⟨_, 0, none⟩) 0 0) _ _ rfl hO _ rfl ((HS.out _ hC).cut k (by omega)) (by unfold maxLen; omega) (by omega) hC.size ?_
      intro v4 w4 hO4 hg4
      (try replace hN := hN.grown hg4 (by intro e9; simp [Value.ownBlock] at e9))
      replace hC := below_row hC hO hg4 (Nat.le_refl _) (Nat.le_refl _)
      rw [Nat.zero_add, List.nil_append] at hO4
      obtain ⟨A4, c4, rfl, hc4⟩ := own_form hO4
      clear hO hg4
      refine hK.out _ _ (HB.out _ hC) (fun hHeld => ?_)
      clear hK K
      (try simp only [Act.put, List.setIfInBounds_toArray, List.set_cons_zero, List.set_cons_succ])
      refine wpAnyH_ready (rs := [7]) (by kernel_rfl) (by simp) ?_
      refine' AllReadyH.cons ?_ (fun K hK => ?_) AllReadyH.nil
      rotate_left 1
      ·(simp only [List.getElem?_toArray, List.getElem?_cons_succ, List.getElem?_cons_zero]; try rfl)
      refine step_append_sl rfl _ _ 50 rfl w1.heap.size 96 i0 (.agg #[.int .i64 0, .int .i64 0, .int .i64 0]) 3 24 encL_len encL_one Tryz.underlying50 hi hz0 hz1 hz2 rfl (by decide) (.slice A4 k c4) _ _ rfl hO4 _ rfl (WOne.sl (enc := encL) (x := x) hN) (by unfold maxLen; omega) (by omega) hC.size ?_
      intro v7 w7 hO7 hg7
      replace hC := below_row hC hO4 hg7 (Nat.le_refl _) (Nat.le_refl _)
      obtain ⟨A7, c7, rfl, hc7⟩ := own_form hO7
      clear hO4 hg7 hN
      refine hK.out _ _ (HB.out _ hC) (fun hHeld => ?_)
      clear hK K
      (try simp only [Act.put, List.setIfInBounds_toArray, List.set_cons_zero, List.set_cons_succ])
      refine wpAnyH_ready (rs := [11]) (by kernel_rfl) (by simp) ?_
      refine' AllReadyH.cons ?_ (fun K hK => ?_) AllReadyH.nil
      rotate_left 1
      ·(simp only [List.getElem?_toArray, List.getElem?_cons_succ, List.getElem?_cons_zero]; try rfl)
      refine step_append_sl rfl _ _ 50 rfl w1.heap.size 96 i0 (.agg #[.int .i64 0, .int .i64 0, .int .i64 0]) 3 24 encL_len encL_one Tryz.underlying50 hi hz0 hz1 hz2 rfl (by decide) (.slice A7 (k + 1) c7) _ _ rfl hO7 _ rfl ((HS.out _ hC).drop_ (q := k) (by omega) (by intro h9 b9 o9 e9; first | (exfalso; omega) | (cases e9; first | rfl | (rw [if_neg (by omega)]; simp) | (simp; omega) | simp)))  (by unfold maxLen; omega) (by omega) hC.size ?_
      intro v11 w11 hO11 hg11
      replace hC := below_row hC hO7 hg11 (Nat.le_refl _) (Nat.le_refl _)
      obtain ⟨A11, c11, rfl, hc11⟩ := own_form hO11
      clear hO7 hg11
      refine hK.out _ _ (HB.out _ hC) (fun hHeld => ?_)
      clear hK K
      (try simp only [Act.put, List.setIfInBounds_toArray, List.set_cons_zero, List.set_cons_succ])
      refine' takeW 12 ?_ ?_ ?_ (by kernel_rfl) (by kernel_rfl) (by kernel_rfl) (fun _ _ _ h => h) hHeld ?_
      rotate_left 2
      ·(simp only [List.getElem?_toArray, List.getElem?_cons_succ, List.getElem?_cons_zero]; try rfl)
      ·rfl
      ·(intro w hSw; (try dsimp only at hSw); go_simp; first | done | with_reducible rfl)
      (try simp only [Act.put, List.setIfInBounds_toArray, List.set_cons_zero, List.set_cons_succ])
      refine wpAnyH_done (by kernel_rfl) ?_ _
      refine NoPanic.normal ?_
      go_wp2_with fail
      all_goals (go_ret; refine ⟨⟨A11, _, c11, rfl, by omega, hc11, ?_⟩, HC0.out _ hC⟩; rw [HR.out])
      all_goals exact (ins_sl encL_len hO11 HL.out (by omega)).less hLw1
    case s1_7_6 =>
     (try go_simp)
     have hN := one1 hC [Value.int .i64 x.id, Value.int .i64 x.obv, Value.int .i64 x.rev] 96
     (try simp only [World.size_alloc] at hN)
     (try replace hO4 := hO4.alloc (.cells #[Value.int .i64 x.id, Value.int .i64 x.obv, Value.int .i64 x.rev] 96))
     (try replace hO := hO.alloc (.cells #[Value.int .i64 x.id, Value.int .i64 x.obv, Value.int .i64 x.rev] 96))
     replace hC := hC.alloc hC.size (.cells #[Value.int .i64 x.id, Value.int .i64 x.obv, Value.int .i64 x.rev] 96)
     refine hK.out _ _ (HB.out _ hC) (fun hHeld => ?_)
     clear hK K
     (try simp only [Act.put, List.setIfInBounds_toArray, List.set_cons_zero, List.set_cons_succ])
     refine wpAnyH_ready (rs := [0]) (by kernel_rfl) (by simp) ?_
     refine' AllReadyH.cons ?_ (fun K hK => ?_) AllReadyH.nil
     rotate_left 1
     ·(simp only [List.getElem?_toArray, List.getElem?_cons_succ, List.getElem?_cons_zero]; try rfl)
     (try go_simp)
     have hO := own0 (e := 96) (k := 3) hC (Nat.le_refl _)
     (try simp only [World.size_alloc] at hO)
     (try replace hN := hN.up (one_alloc _ (.cells #[] 96)))
     replace hC := hC.alloc hC.size (.cells #[] 96)
     refine hK.out _ _ (HB.out _ hC) (fun hHeld => ?_)
     clear hK K
     (try simp only [Act.put, List.setIfInBounds_toArray, List.set_cons_zero, List.set_cons_succ])
     refine wpAnyH_ready (rs := [4]) (by kernel_rfl) (by simp) ?_
     refine' AllReadyH.cons ?_ (fun K hK => ?_) AllReadyH.nil
     rotate_left 1
     ·(simp only [List.getElem?_toArray, List.getElem?_cons_succ, List.getElem?_cons_zero]; try rfl)
     refine step_append_sl rfl _ _ 50 rfl w1.heap.size 96 i0 (.agg #[.int .i64 0, .int .i64 0, .int .i64 0]) 3 24 encL_len encL_one Tryz.underlying50 hi hz0 hz1 hz2 rfl (by decide) (.slice (some ⟨_, 0, none⟩) 0 0) _ _ rfl hO _ rfl ((HS.out _ hC).cut k (by omega)) (by unfold maxLen; omega) (by omega) hC.size ?_
     intro v4 w4 hO4 hg4
     (try replace hN := hN.grown hg4 (by intro e9; simp [Value.ownBlock] at e9))
     replace hC := below_row hC hO hg4 (Nat.le_refl _) (Nat.le_refl _)
     rw [Nat.zero_add, List.nil_append] at hO4
     obtain ⟨A4, c4, rfl, hc4⟩ := own_form hO4
     clear hO hg4
     refine hK.out _ _ (HB.out _ hC) (fun hHeld => ?_)
     clear hK K
     (try simp only [Act.put, List.setIfInBounds_toArray, List.set_cons_zero, List.set_cons_succ])
     refine wpAnyH_ready (rs := [7]) (by kernel_rfl) (by simp) ?_
     refine' AllReadyH.cons ?_ (fun K hK => ?_) AllReadyH.nil
     rotate_left 1
     ·(simp only [List.getElem?_toArray, List.getElem?_cons_succ, List.getElem?_cons_zero]; try rfl)
     refine step_append_sl rfl _ _ 50 rfl w1.heap.size 96 i0 (.agg #[.int .i64 0, .int .i64 0, .int .i64 0]) 3 24 encL_len encL_one Tryz.underlying50 hi hz0 hz1 hz2 rfl (by decide) (.slice A4 k c4) _ _ rfl hO4 _ rfl (WOne.sl (enc := encL) (x := x) hN) (by unfold maxLen; omega) (by omega) hC.size ?_
     intro v7 w7 hO7 hg7
     replace hC := below_row hC hO4 hg7 (Nat.le_refl _) (Nat.le_refl _)
     obtain ⟨A7, c7, rfl, hc7⟩ := own_form hO7
     clear hO4 hg7 hN
     refine hK.out _ _ (HB.out _ hC) (fun hHeld => ?_)
     clear hK K
     (try simp only [Act.put, List.setIfInBounds_toArray, List.set_cons_zero, List.set_cons_succ])
     refine wpAnyH_ready (rs := [11]) (by kernel_rfl) (by simp) ?_
     refine' AllReadyH.cons ?_ (fun K hK => ?_) AllReadyH.nil
     rotate_left 1
     ·(simp only [List.getElem?_toArray, List.getElem?_cons_succ, List.getElem?_cons_zero]; try rfl)
     refine step_append_sl rfl _ _ 50 rfl w1.heap.size 96 i0 (.agg #[.int .i64 0, .int .i64 0, .int .i64 0]) 3 24 encL_len encL_one Tryz.underlying50 hi hz0 hz1 hz2 rfl (by decide) (.slice A7 (k + 1) c7) _ _ rfl hO7 _ rfl ((HS.out _ hC).drop_ (q := k) (by omega) (by intro h9 b9 o9 e9; first | (exfalso; omega) | (cases e9; first | rfl | (rw [if_neg (by omega)]; simp) | (simp; omega) | simp)))  (by unfold maxLen; omega) (by omega) hC.size ?_
     intro v11 w11 hO11 hg11
     replace hC := below_row hC hO7 hg11 (Nat.le_refl _) (Nat.le_refl _)
     obtain ⟨A11, c11, rfl, hc11⟩ := own_form hO11
     clear hO7 hg11
     refine hK.out _ _ (HB.out _ hC) (fun hHeld => ?_)
     clear hK K
     (try simp only [Act.put, List.setIfInBounds_toArray, List.set_cons_zero, List.set_cons_succ])
     refine' takeW 12 ?_ ?_ ?_ (by kernel_rfl) (by kernel_rfl) (by kernel_rfl) (fun _ _ _ h => h) hHeld ?_
     rotate_left 2
     ·(simp only [List.getElem?_toArray, List.getElem?_cons_succ, List.getElem?_cons_zero]; try rfl)
     ·rfl
     ·(intro w hSw; (try dsimp only at hSw); go_simp; first | done | with_reducible rfl)
     (try simp only [Act.put, List.setIfInBounds_toArray, List.set_cons_zero, List.set_cons_succ])
     refine wpAnyH_done (by kernel_rfl) ?_ _
     refine NoPanic.normal ?_
     go_wp2_with fail
     all_goals (go_ret; refine ⟨⟨A11, _, c11, rfl, by omega, hc11, ?_⟩, HC0.out _ hC⟩; rw [HR.out])
     all_goals exact (ins_sl encL_len hO11 HL.out (by omega)).less hLw1
  ·obtain rfl : k = n := by omega
   have HCT := Lib.hid (insLk_cut (x := x) k l HV.out (.inl HL.out.symm))
   have HR : Hid (insLk x l = l.take k ++ x :: l.drop k) := HCT
   rcases A with _ | ⟨b, off, i⟩
   ·go_wp2_with fail
    go_quiet (fail)
    go_wp2_with fail
    have hC : Below w1.heap.size w1 (wr.drewN nq).drew := (below_drewN hbr nq).drew
    have hkc : k ≤ c := by omega
    refine wp_region_noPanic ?_
    refine wp_region_held_drew (S := fun U => U.cell? ⟨w.heap.size, 0, none⟩ = some (.int .i64 x.id) ∧ U.cell? ⟨w.heap.size, 1, none⟩ = some (.int .i64 x.obv) ∧ U.cell? ⟨w.heap.size, 2, none⟩ = some (.int .i64 x.rev)) (by kernel_rfl) (HB.out _ hC) (fun hHeld => ?_)
    generalize (wr.drewN nq).drew = W at *
    refine' takeW 1 ?_ ?_ ?_ (by kernel_rfl) (by kernel_rfl) (by kernel_rfl) (fun _ _ _ h => h) hHeld ?_
    rotate_left 2
    ·(simp only [List.getElem?_toArray, List.getElem?_cons_succ, List.getElem?_cons_zero]; try rfl)
    ·rfl
    ·(intro w hSw; (try dsimp only at hSw); go_simp; first | done | with_reducible rfl)
    (try simp only [Act.put, List.setIfInBounds_toArray, List.set_cons_zero, List.set_cons_succ])
    refine' takeW 2 ?_ ?_ ?_ (by kernel_rfl) (by kernel_rfl) (by kernel_rfl) (fun _ _ _ h => h) hHeld ?_
    rotate_left 2
    ·(simp only [List.getElem?_toArray, List.getElem?_cons_succ, List.getElem?_cons_zero]; try rfl)
    ·rfl
    ·(intro w hSw; (try dsimp only at hSw); go_simp; first | done | with_reducible rfl)
    (try simp only [Act.put, List.setIfInBounds_toArray, List.set_cons_zero, List.set_cons_succ])
    refine' takeW 3 ?_ ?_ ?_ (by kernel_rfl) (by kernel_rfl) (by kernel_rfl) (fun _ _ _ h => h) hHeld ?_
    rotate_left 2
    ·(simp only [List.getElem?_toArray, List.getElem?_cons_succ, List.getElem?_cons_zero]; try rfl)
    ·rfl
    ·(intro w hSw; (try dsimp only at hSw); go_simp; first | done | with_reducible rfl)
    (try simp only [Act.put, List.setIfInBounds_toArray, List.set_cons_zero, List.set_cons_succ])
    refine' takeW 5 ?_ ?_ ?_ (by kernel_rfl) (by kernel_rfl) (by kernel_rfl) (fun _ _ _ h => h) hHeld ?_
    rotate_left 2
    ·(simp only [List.getElem?_toArray, List.getElem?_cons_succ, List.getElem?_cons_zero]; try rfl)
    ·rfl
    ·(intro w hSw; (try dsimp only at hSw); go_simp; first | done | with_reducible rfl)
    (try simp only [Act.put, List.setIfInBounds_toArray, List.set_cons_zero, List.set_cons_succ])
    refine' takeW 8 ?_ ?_ ?_ (by kernel_rfl) (by kernel_rfl) (by kernel_rfl) (fun _ _ _ h => h) hHeld ?_
    rotate_left 2
    ·(simp only [List.getElem?_toArray, List.getElem?_cons_succ, List.getElem?_cons_zero]; try rfl)
    ·rfl
    ·(intro w hSw; (try dsimp only at hSw); go_simp; first | done | with_reducible rfl)
    (try simp only [Act.put, List.setIfInBounds_toArray, List.set_cons_zero, List.set_cons_succ])
    refine' takeW 9 ?_ ?_ ?_ (by kernel_rfl) (by kernel_rfl) (by kernel_rfl) (fun _ _ _ h => h) hHeld ?_
    rotate_left 2
    ·(simp only [List.getElem?_toArray, List.getElem?_cons_succ, List.getElem?_cons_zero]; try rfl)
    ·rfl
    ·(intro w hSw; (try dsimp only at hSw); go_simp; first | done | with_reducible rfl)
    (try simp only [Act.put, List.setIfInBounds_toArray, List.set_cons_zero, List.set_cons_succ])
    refine' takeW 10 ?_ ?_ ?_ (by kernel_rfl) (by kernel_rfl) (by kernel_rfl) (fun _ _ _ h => h) hHeld ?_
    rotate_left 2
    ·(simp only [List.getElem?_toArray, List.getElem?_cons_succ, List.getElem?_cons_zero]; try rfl)
    ·rfl
    ·(intro w hSw; (try dsimp only at hSw); go_simp; first | done | with_reducible rfl)
    (try simp only [Act.put, List.setIfInBounds_toArray, List.set_cons_zero, List.set_cons_succ])
    refine wpAnyH_ready (rs := [0, 6]) (by kernel_rfl) (by simp) ?_
    refine AllReadyH.cons (o := ?o2_7_0) ?h2_7_0 (fun K hK => ?s2_7_0) (AllReadyH.cons (o := ?o2_7_6) ?h2_7_6 (fun K hK => ?s2_7_6) AllReadyH.nil)
    case h2_7_0 => (simp only [List.getElem?_toArray, List.getElem?_cons_succ, List.getElem?_cons_zero]; try rfl)
    case h2_7_6 => (simp only [List.getElem?_toArray, List.getElem?_cons_succ, List.getElem?_cons_zero]; try rfl)
    case s2_7_0 =>
     (try go_simp)
     have hO := own0 (e := 96) (k := 3) hC (Nat.le_refl _)
     (try simp only [World.size_alloc] at hO)
     (try replace hN := hN.up (one_alloc _ (.cells #[] 96)))
     replace hC := hC.alloc hC.size (.cells #[] 96)
     refine hK.out _ _ (HB.out _ hC) (fun hHeld => ?_)
     clear hK K
     (try simp only [Act.put, List.setIfInBounds_toArray, List.set_cons_zero, List.set_cons_succ])
     refine wpAnyH_ready (rs := [4, 6]) (by kernel_rfl) (by simp) ?_
     refine AllReadyH.cons (o := ?o2_8_4) ?h2_8_4 (fun K hK => ?s2_8_4) (AllReadyH.cons (o := ?o2_8_6) ?h2_8_6 (fun K hK => ?s2_8_6) AllReadyH.nil)
     case h2_8_4 => (simp only [List.getElem?_toArray, List.getElem?_cons_succ, List.getElem?_cons_zero]; try rfl)
     case h2_8_6 => (simp only [List.getElem?_toArray, List.getElem?_cons_succ, List.getElem?_cons_zero]; try rfl)
     case s2_8_4 =>
      refine step_append_sl rfl _ _ 50 rfl w1.heap.size 96 i0 (.agg #[.int .i64 0, .int .i64 0, .int .i64 0]) 3 24 encL_len encL_one Tryz.underlying50 hi hz0 hz1 hz2 rfl (by decide) (.slice (some ⟨_, 0, none⟩) 0 0) _ _ rfl hO _ rfl ((HS.out _ hC).cut k (by omega)) (by unfold maxLen; omega) (by omega) hC.size ?_
      intro v4 w4 hO4 hg4
      (try replace hN := hN.grown hg4 (by intro e9; simp [Value.ownBlock] at e9))
      replace hC := below_row hC hO hg4 (Nat.le_refl _) (Nat.le_refl _)
      rw [Nat.zero_add, List.nil_append] at hO4
      obtain ⟨A4, c4, rfl, hc4⟩ := own_form hO4
      clear hO hg4
      refine hK.out _ _ (HB.out _ hC) (fun hHeld => ?_)
      clear hK K
      (try simp only [Act.put, List.setIfInBounds_toArray, List.set_cons_zero, List.set_cons_succ])
      refine wpAnyH_ready (rs := [6]) (by kernel_rfl) (by simp) ?_
      refine' AllReadyH.cons ?_ (fun K hK => ?_) AllReadyH.nil
      rotate_left 1
      ·(simp only [List.getElem?_toArray, List.getElem?_cons_succ, List.getElem?_cons_zero]; try rfl)
      (try go_simp)
      have hN := one1 hC [Value.int .i64 x.id, Value.int .i64 x.obv, Value.int .i64 x.rev] 96
      (try simp only [World.size_alloc] at hN)
      (try replace hO4 := hO4.alloc (.cells #[Value.int .i64 x.id, Value.int .i64 x.obv, Value.int .i64 x.rev] 96))
      (try replace hO := hO.alloc (.cells #[Value.int .i64 x.id, Value.int .i64 x.obv, Value.int .i64 x.rev] 96))
      replace hC := hC.alloc hC.size (.cells #[Value.int .i64 x.id, Value.int .i64 x.obv, Value.int .i64 x.rev] 96)
      refine hK.out _ _ (HB.out _ hC) (fun hHeld => ?_)
      clear hK K
      (try simp only [Act.put, List.setIfInBounds_toArray, List.set_cons_zero, List.set_cons_succ])
      refine wpAnyH_ready (rs := [7]) (by kernel_rfl) (by simp) ?_
      refine' AllReadyH.cons ?_ (fun K hK => ?_) AllReadyH.nil
      rotate_left 1
      ·(simp only [List.getElem?_toArray, List.getElem?_cons_succ, List.getElem?_cons_zero]; try rfl)
      refine step_append_sl rfl _ _ 50 rfl w1.heap.size 96 i0 (.agg #[.int .i64 0, .int .i64 0, .int .i64 0]) 3 24 encL_len encL_one Tryz.underlying50 hi hz0 hz1 hz2 rfl (by decide) (.slice A4 k c4) _ _ rfl hO4 _ rfl (WOne.sl (enc := encL) (x := x) hN) (by unfold maxLen; omega) (by omega) hC.size ?_
      intro v7 w7 hO7 hg7
      replace hC := below_row hC hO4 hg7 (Nat.le_refl _) (Nat.le_refl _)
      obtain ⟨A7, c7, rfl, hc7⟩ := own_form hO7
      clear hO4 hg7 hN
      refine hK.out _ _ (HB.out _ hC) (fun hHeld => ?_)
      clear hK K
      (try simp only [Act.put, List.setIfInBounds_toArray, List.set_cons_zero, List.set_cons_succ])
      refine wpAnyH_ready (rs := [11]) (by kernel_rfl) (by simp) ?_
      refine' AllReadyH.cons ?_ (fun K hK => ?_) AllReadyH.nil
      rotate_left 1
      ·(simp only [List.getElem?_toArray, List.getElem?_cons_succ, List.getElem?_cons_zero]; try rfl)
      refine step_append_sl rfl _ _ 50 rfl w1.heap.size 96 i0 (.agg #[.int .i64 0, .int .i64 0, .int .i64 0]) 3 24 encL_len encL_one Tryz.underlying50 hi hz0 hz1 hz2 rfl (by decide) (.slice A7 (k + 1) c7) _ _ rfl hO7 _ rfl (Sl.nil (L := 0) (B := 0) (k := 3) (enc := encL))  (by unfold maxLen; omega) (by omega) hC.size ?_
      intro v11 w11 hO11 hg11
      replace hC := below_row hC hO7 hg11 (Nat.le_refl _) (Nat.le_refl _)
      obtain ⟨A11, c11, rfl, hc11⟩ := own_form hO11
      clear hO7 hg11
      refine hK.out _ _ (HB.out _ hC) (fun hHeld => ?_)
      clear hK K
      (try simp only [Act.put, List.setIfInBounds_toArray, List.set_cons_zero, List.set_cons_succ])
      refine' takeW 12 ?_ ?_ ?_ (by kernel_rfl) (by kernel_rfl) (by kernel_rfl) (fun _ _ _ h => h) hHeld ?_
      rotate_left 2
      ·(simp only [List.getElem?_toArray, List.getElem?_cons_succ, List.getElem?_cons_zero]; try rfl)
      ·rfl
      ·(intro w hSw; (try dsimp only at hSw); go_simp; first | done | with_reducible rfl)
      (try simp only [Act.put, List.setIfInBounds_toArray, List.set_cons_zero, List.set_cons_succ])
      refine wpAnyH_done (by kernel_rfl) ?_ _
      refine NoPanic.normal ?_
      go_wp2_with fail
      all_goals (go_ret; refine ⟨⟨A11, _, c11, rfl, by omega, hc11, ?_⟩, HC0.out _ hC⟩; rw [HR.out])
      all_goals exact (ins_sl0 encL_len hO11 HL.out).less hLw1
     case s2_8_6 =>
      (try go_simp)
      have hN := one1 hC [Value.int .i64 x.id, Value.int .i64 x.obv, Value.int .i64 x.rev] 96
      (try simp only [World.size_alloc] at hN)
      (try replace hO4 := hO4.alloc (.cells #[Value.int .i64 x.id, Value.int .i64 x.obv, Value.int .i64 x.rev] 96))
      (try replace hO := hO.alloc (.cells #[Value.int .i64 x.id, Value.int .i64 x.obv, Value.int .i64 x.rev] 96))
      replace hC := hC.alloc hC.size (.cells #[Value.int .i64 x.id, Value.int .i64 x.obv, Value.int .i64 x.rev] 96)
      refine hK.out _ _ (HB.out _ hC) (fun hHeld => ?_)
      clear hK K
      (try simp only [Act.put, List.setIfInBounds_toArray, List.set_cons_zero, List.set_cons_succ])
      refine wpAnyH_ready (rs := [4]) (by kernel_rfl) (by simp) ?_
      refine' AllReadyH.cons ?_ (fun K hK => ?_) AllReadyH.nil
      rotate_left 1
      ·(simp only [List.getElem?_toArray, List.getElem?_cons_succ, List.getElem?_cons_zero]; try rfl)
      refine step_append_sl rfl _ _ 50 rfl w1.heap.size 96 i0 (.agg #[.int .i64 0, .int .i64 0, .int .i64 0]) 3 24 encL_len encL_one Tryz.underlying50 hi hz0 hz1 hz2 rfl (by decide) (.slice (some ⟨_, 0, none⟩) 0 0) _ _ rfl hO _ rfl ((HS.out _ hC).cut k (by omega)) (by unfold maxLen; omega) (by omega) hC.size ?_
      intro v4 w4 hO4 hg4
      (try replace hN := hN.grown hg4 (by intro e9; simp [Value.ownBlock] at e9))
      replace hC := below_row hC hO hg4 (Nat.le_refl _) (Nat.le_refl _)
      rw [Nat.zero_add, List.nil_append] at hO4
      obtain ⟨A4, c4, rfl, hc4⟩ := own_form hO4
      clear hO hg4
      refine hK.out _ _ (HB.out _ hC) (fun hHeld => ?_)
      clear hK K
      (try simp only [Act.put, List.setIfInBounds_toArray, List.set_cons_zero, List.set_cons_succ])
      refine wpAnyH_ready (rs := [7]) (by kernel_rfl) (by simp) ?_
      refine' AllReadyH.cons ?_ (fun K hK => ?_) AllReadyH.nil
      rotate_left 1
      ·(simp only [List.getElem?_toArray, List.getElem?_cons_succ, List.getElem?_cons_zero]; try rfl)
      refine step_append_sl rfl _ _ 50 rfl w1.heap.size 96 i0 (.agg #[.int .i64 0, .int .i64 0, .int .i64 0]) 3 24 encL_len encL_one Tryz.underlying50 hi hz0 hz1 hz2 rfl (by decide) (.slice A4 k c4) _ _ rfl hO4 _ rfl (WOne.sl (enc := encL) (x := x) hN) (by unfold maxLen; omega) (by omega) hC.size ?_
      intro v7 w7 hO7 hg7
      replace hC := below_row hC hO4 hg7 (Nat.le_refl _) (Nat.le_refl _)
      obtain ⟨A7, c7, rfl, hc7⟩ := own_form hO7
      clear hO4 hg7 hN
      refine hK.out _ _ (HB.out _ hC) (fun hHeld => ?_)
      clear hK K
      (try simp only [Act.put, List.setIfInBounds_toArray, List.set_cons_zero, List.set_cons_succ])
      refine wpAnyH_ready (rs := [11]) (by kernel_rfl) (by simp) ?_
      refine' AllReadyH.cons ?_ (fun K hK => ?_) AllReadyH.nil
      rotate_left 1
      ·(simp only [List.getElem?_toArray, List.getElem?_cons_succ, List.getElem?_cons_zero]; try rfl)
      refine step_append_sl rfl _ _ 50 rfl w1.heap.size 96 i0 (.agg #[.int .i64 0, .int .i64 0, .int .i64 0]) 3 24 encL_len encL_one Tryz.underlying50 hi hz0 hz1 hz2 rfl (by decide) (.slice A7 (k + 1) c7) _ _ rfl hO7 _ rfl (Sl.nil (L := 0) (B := 0) (k := 3) (enc := encL))  (by unfold maxLen; omega) (by omega) hC.size ?_
      intro v11 w11 hO11 hg11
      replace hC := below_row hC hO7 hg11 (Nat.le_refl _) (Nat.le_refl _)
      obtain ⟨A11, c11, rfl, hc11⟩ := own_form hO11
      clear hO7 hg11
      refine hK.out _ _ (HB.out _ hC) (fun hHeld => ?_)
      clear hK K
      (try simp only [Act.put, List.setIfInBounds_toArray, List.set_cons_zero, List.set_cons_succ])
      refine' takeW 12 ?_ ?_ ?_ (by kernel_rfl) (by kernel_rfl) (by kernel_rfl) (fun _ _ _ h => h) hHeld ?_
      rotate_left 2
      ·(simp only [List.getElem?_toArray, List.getElem?_cons_succ, List.getElem?_cons_zero]; try rfl)
      ·rfl
      ·(intro w hSw; (try dsimp only at hSw); go_simp; first | done | with_reducible rfl)
      (try simp only [Act.put, List.setIfInBounds_toArray, List.set_cons_zero, List.set_cons_succ])
      refine wpAnyH_done (by kernel_rfl) ?_ _
      refine NoPanic.normal ?_
      go_wp2_with fail
      all_goals (go_ret; refine ⟨⟨A11, _, c11, rfl, by omega, hc11, ?_⟩, HC0.out _ hC⟩; rw [HR.out])
      all_goals exact (ins_sl0 encL_len hO11 HL.out).less hLw1
    case s2_7_6 =>
     (try go_simp)
     have hN := one1 hC [Value.int .i64 x.id, Value.int .i64 x.obv, Value.int .i64 x.rev] 96
     (try simp only [World.size_alloc] at hN)
     (try replace hO4 := hO4.alloc (.cells #[Value.int .i64 x.id, Value.int .i64 x.obv, Value.int .i64 x.rev] 96))
     (try replace hO := hO.alloc (.cells #[Value.int .i64 x.id, Value.int .i64 x.obv, Value.int .i64 x.rev] 96))
     replace hC := hC.alloc hC.size (.cells #[Value.int .i64 x.id, Value.int .i64 x.obv, Value.int .i64 x.rev] 96)
     refine hK.out _ _ (HB.out _ hC) (fun hHeld => ?_)
     clear hK K
     (try simp only [Act.put, List.setIfInBounds_toArray, List.set_cons_zero, List.set_cons_succ])
     refine wpAnyH_ready (rs := [0]) (by kernel_rfl) (by simp) ?_
     refine' AllReadyH.cons ?_ (fun K hK => ?_) AllReadyH.nil
     rotate_left 1
     ·(simp only [List.getElem?_toArray, List.getElem?_cons_succ, List.getElem?_cons_zero]; try rfl)
     (try go_simp)
     have hO := own0 (e := 96) (k := 3) hC (Nat.le_refl _)
     (try simp only [World.size_alloc] at hO)
     (try replace hN := hN.up (one_alloc _ (.cells #[] 96)))
     replace hC := hC.alloc hC.size (.cells #[] 96)
     refine hK.out _ _ (HB.out _ hC) (fun hHeld => ?_)
     clear hK K
     (try simp only [Act.put, List.setIfInBounds_toArray, List.set_cons_zero, List.set_cons_succ])
     refine wpAnyH_ready (rs := [4]) (by kernel_rfl) (by simp) ?_
     refine' AllReadyH.cons ?_ (fun K hK => ?_) AllReadyH.nil
     rotate_left 1
     ·(simp only [List.getElem?_toArray, List.getElem?_cons_succ, List.getElem?_cons_zero]; try rfl)
     refine step_append_sl rfl _ _ 50 rfl w1.heap.size 96 i0 (.agg #[.int .i64 0, .int .i64 0, .int .i64 0]) 3 24 encL_len encL_one Tryz.underlying50 hi hz0 hz1 hz2 rfl (by decide) (.slice (some ⟨_, 0, none⟩) 0 0) _ _ rfl hO _ rfl ((HS.out _ hC).cut k (by omega)) (by unfold maxLen; omega) (by omega) hC.size ?_
     intro v4 w4 hO4 hg4
     (try replace hN := hN.grown hg4 (by intro e9; simp [Value.ownBlock] at e9))
     replace hC := below_row hC hO hg4 (Nat.le_refl _) (Nat.le_refl _)
     rw [Nat.zero_add, List.nil_append] at hO4
     obtain ⟨A4, c4, rfl, hc4⟩ := own_form hO4
     clear hO hg4
     refine hK.out _ _ (HB.out _ hC) (fun hHeld => ?_)
     clear hK K
     (try simp only [Act.put, List.setIfInBounds_toArray, List.set_cons_zero, List.set_cons_succ])
     refine wpAnyH_ready (rs := [7]) (by kernel_rfl) (by simp) ?_
     refine' AllReadyH.cons ?_ (fun K hK => ?_) AllReadyH.nil
     rotate_left 1
     ·(simp only [List.getElem?_toArray, List.getElem?_cons_succ, List.getElem?_cons_zero]; try rfl)
     refine step_append_sl rfl _ _ 50 rfl w1.heap.size 96 i0 (.agg #[.int .i64 0, .int .i64 0, .int .i64 0]) 3 24 encL_len encL_one Tryz.underlying50 hi hz0 hz1 hz2 rfl (by decide) (.slice A4 k c4) _ _ rfl hO4 _ rfl (WOne.sl (enc := encL) (x := x) hN) (by unfold maxLen; omega) (by omega) hC.size ?_
     intro v7 w7 hO7 hg7
     replace hC := below_row hC hO4 hg7 (Nat.le_refl _) (Nat.le_refl _)
     obtain ⟨A7, c7, rfl, hc7⟩ := own_form hO7
     clear hO4 hg7 hN
     refine hK.out _ _ (HB.out _ hC) (fun hHeld => ?_)
     clear hK K
     (try simp only [Act.put, List.setIfInBounds_toArray, List.set_cons_zero, List.set_cons_succ])
     refine wpAnyH_ready (rs := [11]) (by kernel_rfl) (by simp) ?_
     refine' AllReadyH.cons ?_ (fun K hK => ?_) AllReadyH.nil
     rotate_left 1
     ·(simp only [List.getElem?_toArray, List.getElem?_cons_succ, List.getElem?_cons_zero]; try rfl)
     refine step_append_sl rfl _ _ 50 rfl w1.heap.size 96 i0 (.agg #[.int .i64 0, .int .i64 0, .int .i64 0]) 3 24 encL_len encL_one Tryz.underlying50 hi hz0 hz1 hz2 rfl (by decide) (.slice A7 (k + 1) c7) _ _ rfl hO7 _ rfl (Sl.nil (L := 0) (B := 0) (k := 3) (enc := encL))  (by unfold maxLen; omega) (by omega) hC.size ?_
     intro v11 w11 hO11 hg11
     replace hC := below_row hC hO7 hg11 (Nat.le_refl _) (Nat.le_refl _)
     obtain ⟨A11, c11, rfl, hc11⟩ := own_form hO11
     clear hO7 hg11
     refine hK.out _ _ (HB.out _ hC) (fun hHeld => ?_)
     clear hK K
     (try simp only [Act.put, List.setIfInBounds_toArray, List.set_cons_zero, List.set_cons_succ])
     refine' takeW 12 ?_ ?_ ?_ (by kernel_rfl) (by kernel_rfl) (by kernel_rfl) (fun _ _ _ h => h) hHeld ?_
     rotate_left 2
     ·(simp only [List.getElem?_toArray, List.getElem?_cons_succ, List.getElem?_cons_zero]; try rfl)
     ·rfl
     ·(intro w hSw; (try dsimp only at hSw); go_simp; first | done | with_reducible rfl)
     (try simp only [Act.put, List.setIfInBounds_toArray, List.set_cons_zero, List.set_cons_succ])
     refine wpAnyH_done (by kernel_rfl) ?_ _
     refine NoPanic.normal ?_
     go_wp2_with fail
     all_goals (go_ret; refine ⟨⟨A11, _, c11, rfl, by omega, hc11, ?_⟩, HC0.out _ hC⟩; rw [HR.out])
     all_goals exact (ins_sl0 encL_len hO11 HL.out).less hLw1
   ·go_wp2_with fail
    go_quiet (fail)
    go_wp2_with fail
    have hC : Below w1.heap.size w1 (wr.drewN nq).drew := (below_drewN hbr nq).drew
    have hkc : k ≤ c := by omega
    refine wp_region_noPanic ?_
    refine wp_region_held_drew (S := fun U => U.cell? ⟨w.heap.size, 0, none⟩ = some (.int .i64 x.id) ∧ U.cell? ⟨w.heap.size, 1, none⟩ = some (.int .i64 x.obv) ∧ U.cell? ⟨w.heap.size, 2, none⟩ = some (.int .i64 x.rev)) (by kernel_rfl) (HB.out _ hC) (fun hHeld => ?_)
    generalize (wr.drewN nq).drew = W at *
    refine' takeW 1 ?_ ?_ ?_ (by kernel_rfl) (by kernel_rfl) (by kernel_rfl) (fun _ _ _ h => h) hHeld ?_
    rotate_left 2
    ·(simp only [List.getElem?_toArray, List.getElem?_cons_succ, List.getElem?_cons_zero]; try rfl)
    ·rfl
    ·(intro w hSw; (try dsimp only at hSw); go_simp; first | done | with_reducible rfl)
    (try simp only [Act.put, List.setIfInBounds_toArray, List.set_cons_zero, List.set_cons_succ])
    refine' takeW 2 ?_ ?_ ?_ (by kernel_rfl) (by kernel_rfl) (by kernel_rfl) (fun _ _ _ h => h) hHeld ?_
    rotate_left 2
    ·(simp only [List.getElem?_toArray, List.getElem?_cons_succ, List.getElem?_cons_zero]; try rfl)
    ·rfl
    ·(intro w hSw; (try dsimp only at hSw); go_simp; first | done | with_reducible rfl)
    (try simp only [Act.put, List.setIfInBounds_toArray, List.set_cons_zero, List.set_cons_succ])
    refine' takeW 3 ?_ ?_ ?_ (by kernel_rfl) (by kernel_rfl) (by kernel_rfl) (fun _ _ _ h => h) hHeld ?_
    rotate_left 2
    ·(simp only [List.getElem?_toArray, List.getElem?_cons_succ, List.getElem?_cons_zero]; try rfl)
    ·rfl
    ·(intro w hSw; (try dsimp only at hSw); go_simp; first | done | with_reducible rfl)
    (try simp only [Act.put, List.setIfInBounds_toArray, List.set_cons_zero, List.set_cons_succ])
    refine' takeW 5 ?_ ?_ ?_ (by kernel_rfl) (by kernel_rfl) (by kernel_rfl) (fun _ _ _ h => h) hHeld ?_
    rotate_left 2
    ·(simp only [List.getElem?_toArray, List.getElem?_cons_succ, List.getElem?_cons_zero]; try rfl)
    ·rfl
    ·(intro w hSw; (try dsimp only at hSw); go_simp; first | done | with_reducible rfl)
    (try simp only [Act.put, List.setIfInBounds_toArray, List.set_cons_zero, List.set_cons_succ])
    refine' takeW 8 ?_ ?_ ?_ (by kernel_rfl) (by kernel_rfl) (by kernel_rfl) (fun _ _ _ h => h) hHeld ?_
    rotate_left 2
    ·(simp only [List.getElem?_toArray, List.getElem?_cons_succ, List.getElem?_cons_zero]; try rfl)
    ·rfl
    ·(intro w hSw; (try dsimp only at hSw); go_simp; first | done | with_reducible rfl)
    (try simp only [Act.put, List.setIfInBounds_toArray, List.set_cons_zero, List.set_cons_succ])
    refine' takeW 9 ?_ ?_ ?_ (by kernel_rfl) (by kernel_rfl) (by kernel_rfl) (fun _ _ _ h => h) hHeld ?_
    rotate_left 2
    ·(simp only [List.getElem?_toArray, List.getElem?_cons_succ, List.getElem?_cons_zero]; try rfl)
    ·rfl
    ·(intro w hSw; (try dsimp only at hSw); go_simp; first | done | with_reducible rfl)
    (try simp only [Act.put, List.setIfInBounds_toArray, List.set_cons_zero, List.set_cons_succ])
    refine' takeW 10 ?_ ?_ ?_ (by kernel_rfl) (by kernel_rfl) (by kernel_rfl) (fun _ _ _ h => h) hHeld ?_
    rotate_left 2
    ·(simp only [List.getElem?_toArray, List.getElem?_cons_succ, List.getElem?_cons_zero]; try rfl)
    ·rfl
    ·(intro w hSw; (try dsimp only at hSw); go_simp; first | done | with_reducible rfl)
    (try simp only [Act.put, List.setIfInBounds_toArray, List.set_cons_zero, List.set_cons_succ])
    refine wpAnyH_ready (rs := [0, 6]) (by kernel_rfl) (by simp) ?_
    refine AllReadyH.cons (o := ?o3_7_0) ?h3_7_0 (fun K hK => ?s3_7_0) (AllReadyH.cons (o := ?o3_7_6) ?h3_7_6 (fun K hK => ?s3_7_6) AllReadyH.nil)
    case h3_7_0 => (simp only [List.getElem?_toArray, List.getElem?_cons_succ, List.getElem?_cons_zero]; try rfl)
    case h3_7_6 => (simp only [List.getElem?_toArray, List.getElem?_cons_succ, List.getElem?_cons_zero]; try rfl)
    case s3_7_0 =>
     (try go_simp)
     have hO := own0 (e := 96) (k := 3) hC (Nat.le_refl _)
     (try simp only [World.size_alloc] at hO)
     (try replace hN := hN.up (one_alloc _ (.cells #[] 96)))
     replace hC := hC.alloc hC.size (.cells #[] 96)
     refine hK.out _ _ (HB.out _ hC) (fun hHeld => ?_)
     clear hK K
     (try simp only [Act.put, List.setIfInBounds_toArray, List.set_cons_zero, List.set_cons_succ])
     refine wpAnyH_ready (rs := [4, 6]) (by kernel_rfl) (by simp) ?_
     refine AllReadyH.cons (o := ?o3_8_4) ?h3_8_4 (fun K hK => ?s3_8_4) (AllReadyH.cons (o := ?o3_8_6) ?h3_8_6 (fun K hK => ?s3_8_6) AllReadyH.nil)
     case h3_8_4 => (simp only [List.getElem?_toArray, List.getElem?_cons_succ, List.getElem?_cons_zero]; try rfl)
     case h3_8_6 => (simp only [List.getElem?_toArray, List.getElem?_cons_succ, List.getElem?_cons_zero]; try rfl)
     case s3_8_4 =>
      refine step_append_sl rfl _ _ 50 rfl w1.heap.size 96 i0 (.agg #[.int .i64 0, .int .i64 0, .int .i64 0]) 3 24 encL_len encL_one Tryz.underlying50 hi hz0 hz1 hz2 rfl (by decide) (.slice (some ⟨_, 0, none⟩) 0 0) _ _ rfl hO _ rfl ((HS.out _ hC).cut k (by omega)) (by unfold maxLen; omega) (by omega) hC.size ?_
      intro v4 w4 hO4 hg4
      (try replace hN := hN.grown hg4 (by intro e9; simp [Value.ownBlock] at e9))
      replace hC := below_row hC hO hg4 (Nat.le_refl _) (Nat.le_refl _)
      rw [Nat.zero_add, List.nil_append] at hO4
      obtain ⟨A4, c4, rfl, hc4⟩ := own_form hO4
      clear hO hg4
      refine hK.out _ _ (HB.out _ hC) (fun hHeld => ?_)
      clear hK K
      (try simp only [Act.put, List.setIfInBounds_toArray, List.set_cons_zero, List.set_cons_succ])
      refine wpAnyH_ready (rs := [6]) (by kernel_rfl) (by simp) ?_
      refine' AllReadyH.cons ?_ (fun K hK => ?_) AllReadyH.nil
      rotate_left 1
      ·(simp only [List.getElem?_toArray, List.getElem?_cons_succ, List.getElem?_cons_zero]; try rfl)
      (try go_simp)
      have hN := one1 hC [Value.int .i64 x.id, Value.int .i64 x.obv, Value.int .i64 x.rev] 96
      (try simp only [World.size_alloc] at hN)
      (try replace hO4 := hO4.alloc (.cells #[Value.int .i64 x.id, Value.int .i64 x.obv, Value.int .i64 x.rev] 96))
      (try replace hO := hO.alloc (.cells #[Value.int .i64 x.id, Value.int .i64 x.obv, Value.int .i64 x.rev] 96))
      replace hC := hC.alloc hC.size (.cells #[Value.int .i64 x.id, Value.int .i64 x.obv, Value.int .i64 x.rev] 96)
      refine hK.out _ _ (HB.out _ hC) (fun hHeld => ?_)
      clear hK K
      (try simp only [Act.put, List.setIfInBounds_toArray, List.set_cons_zero, List.set_cons_succ])
      refine wpAnyH_ready (rs := [7]) (by kernel_rfl) (by simp) ?_
      refine' AllReadyH.cons ?_ (fun K hK => ?_) AllReadyH.nil
      rotate_left 1
      ·(simp only [List.getElem?_toArray, List.getElem?_cons_succ, List.getElem?_cons_zero]; try rfl)
      refine step_append_sl rfl _ _ 50 rfl w1.heap.size 96 i0 (.agg #[.int .i64 0, .int .i64 0, .int .i64 0]) 3 24 encL_len encL_one Tryz.underlying50 hi hz0 hz1 hz2 rfl (by decide) (.slice A4 k c4) _ _ rfl hO4 _ rfl (WOne.sl (enc := encL) (x := x) hN) (by unfold maxLen; omega) (by omega) hC.size ?_
      intro v7 w7 hO7 hg7
      replace hC := below_row hC hO4 hg7 (Nat.le_refl _) (Nat.le_refl _)
      obtain ⟨A7, c7, rfl, hc7⟩ := own_form hO7
      clear hO4 hg7 hN
      refine hK.out _ _ (HB.out _ hC) (fun hHeld => ?_)
      clear hK K
      (try simp only [Act.put, List.setIfInBounds_toArray, List.set_cons_zero, List.set_cons_succ])
      refine wpAnyH_ready (rs := [11]) (by kernel_rfl) (by simp) ?_
      refine' AllReadyH.cons ?_ (fun K hK => ?_) AllReadyH.nil
      rotate_left 1
      ·(simp only [List.getElem?_toArray, List.getElem?_cons_succ, List.getElem?_cons_zero]; try rfl)
      refine step_append_sl rfl _ _ 50 rfl w1.heap.size 96 i0 (.agg #[.int .i64 0, .int .i64 0, .int .i64 0]) 3 24 encL_len encL_one Tryz.underlying50 hi hz0 hz1 hz2 rfl (by decide) (.slice A7 (k + 1) c7) _ _ rfl hO7 _ rfl (Sl.nil (L := 0) (B := 0) (k := 3) (enc := encL))  (by unfold maxLen; omega) (by omega) hC.size ?_
      intro v11 w11 hO11 hg11
      replace hC := below_row hC hO7 hg11 (Nat.le_refl _) (Nat.le_refl _)
      obtain ⟨A11, c11, rfl, hc11⟩ := own_form hO11
      clear hO7 hg11
      refine hK.out _ _ (HB.out _ hC) (fun hHeld => ?_)
      clear hK K
      (try simp only [Act.put, List.setIfInBounds_toArray, List.set_cons_zero, List.set_cons_succ])
      refine' takeW 12 ?_ ?_ ?_ (by kernel_rfl) (by kernel_rfl) (by kernel_rfl) (fun _ _ _ h => h) hHeld ?_
      rotate_left 2
      ·(simp only [List.getElem?_toArray, List.getElem?_cons_succ, List.getElem?_cons_zero]; try rfl)
      ·rfl
      ·(intro w hSw; (try dsimp only at hSw); go_simp; first | done | with_reducible rfl)
      (try simp only [Act.put, List.setIfInBounds_toArray, List.set_cons_zero, List.set_cons_succ])
      refine wpAnyH_done (by kernel_rfl) ?_ _
      refine NoPanic.normal ?_
      go_wp2_with fail
      all_goals (go_ret; refine ⟨⟨A11, _, c11, rfl, by omega, hc11, ?_⟩, HC0.out _ hC⟩; rw [HR.out])
      all_goals exact (ins_sl0 encL_len hO11 HL.out).less hLw1
     case s3_8_6 =>
      (try go_simp)
      have hN := one1 hC [Value.int .i64 x.id, Value.int .i64 x.obv, Value.int .i64 x.rev] 96
      (try simp only [World.size_alloc] at hN)
      (try replace hO4 := hO4.alloc (.cells #[Value.int .i64 x.id, Value.int .i64 x.obv, Value.int .i64 x.rev] 96))
      (try replace hO := hO.alloc (.cells #[Value.int .i64 x.id, Value.int .i64 x.obv, Value.int .i64 x.rev] 96))
      replace hC := hC.alloc hC.size (.cells #[Value.int .i64 x.id, Value.int .i64 x.obv, Value.int .i64 x.rev] 96)
      refine hK.out _ _ (HB.out _ hC) (fun hHeld => ?_)
      clear hK K
      (try simp only [Act.put, List.setIfInBounds_toArray, List.set_cons_zero, List.set_cons_succ])
      refine wpAnyH_ready (rs := [4]) (by kernel_rfl) (by simp) ?_
      refine' AllReadyH.cons ?_ (fun K hK => ?_) AllReadyH.nil
      rotate_left 1
      ·(simp only [List.getElem?_toArray, List.getElem?_cons_succ, List.getElem?_cons_zero]; try rfl)
      refine step_append_sl rfl _ _ 50 rfl w1.heap.size 96 i0 (.agg #[.int .i64 0, .int .i64 0, .int .i64 0]) 3 24 encL_len encL_one Tryz.underlying50 hi hz0 hz1 hz2 rfl (by decide) (.slice (some ⟨_, 0, none⟩) 0 0) _ _ rfl hO _ rfl ((HS.out _ hC).cut k (by omega)) (by unfold maxLen; omega) (by omega) hC.size ?_
      intro v4 w4 hO4 hg4
      (try replace hN := hN.grown hg4 (by intro e9; simp [Value.ownBlock] at e9))
      replace hC := below_row hC hO hg4 (Nat.le_refl _) (Nat.le_refl _)
      rw [Nat.zero_add, List.nil_append] at hO4
      obtain ⟨A4, c4, rfl, hc4⟩ := own_form hO4
      clear hO hg4
      refine hK.out _ _ (HB.out _ hC) (fun hHeld => ?_)
      clear hK K
      (try simp only [Act.put, List.setIfInBounds_toArray, List.set_cons_zero, List.set_cons_succ])
      refine wpAnyH_ready (rs := [7]) (by kernel_rfl) (by simp) ?_
      refine' AllReadyH.cons ?_ (fun K hK => ?_) AllReadyH.nil
      rotate_left 1
      ·(simp only [List.getElem?_toArray, List.getElem?_cons_succ, List.getElem?_cons_zero]; try rfl)
      refine step_append_sl rfl _ _ 50 rfl w1.heap.size 96 i0 (.agg #[.int .i64 0, .int .i64 0, .int .i64 0]) 3 24 encL_len encL_one Tryz.underlying50 hi hz0 hz1 hz2 rfl (by decide) (.slice A4 k c4) _ _ rfl hO4 _ rfl (WOne.sl (enc := encL) (x := x) hN) (by unfold maxLen; omega) (by omega) hC.size ?_
      intro v7 w7 hO7 hg7
      replace hC := below_row hC hO4 hg7 (Nat.le_refl _) (Nat.le_refl _)
      obtain ⟨A7, c7, rfl, hc7⟩ := own_form hO7
      clear hO4 hg7 hN
      refine hK.out _ _ (HB.out _ hC) (fun hHeld => ?_)
      clear hK K
      (try simp only [Act.put, List.setIfInBounds_toArray, List.set_cons_zero, List.set_cons_succ])
      refine wpAnyH_ready (rs := [11]) (by kernel_rfl) (by simp) ?_
      refine' AllReadyH.cons ?_ (fun K hK => ?_) AllReadyH.nil
      rotate_left 1
      ·(simp only [List.getElem?_toArray, List.getElem?_cons_succ, List.getElem?_cons_zero]; try rfl)
      refine step_append_sl rfl _ _ 50 rfl w1.heap.size 96 i0 (.agg #[.int .i64 0, .int .i64 0, .int .i64 0]) 3 24 encL_len encL_one Tryz.underlying50 hi hz0 hz1 hz2 rfl (by decide) (.slice A7 (k + 1) c7) _ _ rfl hO7 _ rfl (Sl.nil (L := 0) (B := 0) (k := 3) (enc := encL))  (by unfold maxLen; omega) (by omega) hC.size ?_
      intro v11 w11 hO11 hg11
      replace hC := below_row hC hO7 hg11 (Nat.le_refl _) (Nat.le_refl _)
      obtain ⟨A11, c11, rfl, hc11⟩ := own_form hO11
      clear hO7 hg11
      refine hK.out _ _ (HB.out _ hC) (fun hHeld => ?_)
      clear hK K
      (try simp only [Act.put, List.setIfInBounds_toArray, List.set_cons_zero, List.set_cons_succ])
      refine' takeW 12 ?_ ?_ ?_ (by kernel_rfl) (by kernel_rfl) (by kernel_rfl) (fun _ _ _ h => h) hHeld ?_
      rotate_left 2
      ·(simp only [List.getElem?_toArray, List.getElem?_cons_succ, List.getElem?_cons_zero]; try rfl)
      ·rfl
      ·(intro w hSw; (try dsimp only at hSw); go_simp; first | done | with_reducible rfl)
      (try simp only [Act.put, List.setIfInBounds_toArray, List.set_cons_zero, List.set_cons_succ])
      refine wpAnyH_done (by kernel_rfl) ?_ _
      refine NoPanic.normal ?_
      go_wp2_with fail
      all_goals (go_ret; refine ⟨⟨A11, _, c11, rfl, by omega, hc11, ?_⟩, HC0.out _ hC⟩; rw [HR.out])
      all_goals exact (ins_sl0 encL_len hO11 HL.out).less hLw1
    case s3_7_6 =>
     (try go_simp)
     have hN := one1 hC [Value.int .i64 x.id, Value.int .i64 x.obv, Value.int .i64 x.rev] 96
     (try simp only [World.size_alloc] at hN)
     (try replace hO4 := hO4.alloc (.cells #[Value.int .i64 x.id, Value.int .i64 x.obv, Value.int .i64 x.rev] 96))
     (try replace hO := hO.alloc (.cells #[Value.int .i64 x.id, Value.int .i64 x.obv, Value.int .i64 x.rev] 96))
     replace hC := hC.alloc hC.size (.cells #[Value.int .i64 x.id, Value.int .i64 x.obv, Value.int .i64 x.rev] 96)
     refine hK.out _ _ (HB.out _ hC) (fun hHeld => ?_)
     clear hK K
     (try simp only [Act.put, List.setIfInBounds_toArray, List.set_cons_zero, List.set_cons_succ])
     refine wpAnyH_ready (rs := [0]) (by kernel_rfl) (by simp) ?_
     refine' AllReadyH.cons ?_ (fun K hK => ?_) AllReadyH.nil
     rotate_left 1
     ·(simp only [List.getElem?_toArray, List.getElem?_cons_succ, List.getElem?_cons_zero]; try rfl)
     (try go_simp)
     have hO := own0 (e := 96) (k := 3) hC (Nat.le_refl _)
     (try simp only [World.size_alloc] at hO)
     (try replace hN := hN.up (one_alloc _ (.cells #[] 96)))
     replace hC := hC.alloc hC.size (.cells #[] 96)
     refine hK.out _ _ (HB.out _ hC) (fun hHeld => ?_)
     clear hK K
     (try simp only [Act.put, List.setIfInBounds_toArray, List.set_cons_zero, List.set_cons_succ])
     refine wpAnyH_ready (rs := [4]) (by kernel_rfl) (by simp) ?_
     refine' AllReadyH.cons ?_ (fun K hK => ?_) AllReadyH.nil
     rotate_left 1
     ·(simp only [List.getElem?_toArray, List.getElem?_cons_succ, List.getElem?_cons_zero]; try rfl)
     refine step_append_sl rfl _ _ 50 rfl w1.heap.size 96 i0 (.agg #[.int .i64 0, .int .i64 0, .int .i64 0]) 3 24 encL_len encL_one Tryz.underlying50 hi hz0 hz1 hz2 rfl (by decide) (.slice (some ⟨_, 0, none⟩) 0 0) _ _ rfl hO _ rfl ((HS.out _ hC).cut k (by omega)) (by unfold maxLen; omega) (by omega) hC.size ?_
     intro v4 w4 hO4 hg4
     (try replace hN := hN.grown hg4 (by intro e9; simp [Value.ownBlock] at e9))
     replace hC := below_row hC hO hg4 (Nat.le_refl _) (Nat.le_refl _)
     rw [Nat.zero_add, List.nil_append] at hO4
     obtain ⟨A4, c4, rfl, hc4⟩ := own_form hO4
     clear hO hg4
     refine hK.out _ _ (HB.out _ hC) (fun hHeld => ?_)
     clear hK K
     (try simp only [Act.put, List.setIfInBounds_toArray, List.set_cons_zero, List.set_cons_succ])
     refine wpAnyH_ready (rs := [7]) (by kernel_rfl) (by simp) ?_
     refine' AllReadyH.cons ?_ (fun K hK => ?_) AllReadyH.nil
     rotate_left 1
     ·(simp only [List.getElem?_toArray, List.getElem?_cons_succ, List.getElem?_cons_zero]; try rfl)
     refine step_append_sl rfl _ _ 50 rfl w1.heap.size 96 i0 (.agg #[.int .i64 0, .int .i64 0, .int .i64 0]) 3 24 encL_len encL_one Tryz.underlying50 hi hz0 hz1 hz2 rfl (by decide) (.slice A4 k c4) _ _ rfl hO4 _ rfl (WOne.sl (enc := encL) (x := x) hN) (by unfold maxLen; omega) (by omega) hC.size ?_
     intro v7 w7 hO7 hg7
     replace hC := below_row hC hO4 hg7 (Nat.le_refl _) (Nat.le_refl _)
     obtain ⟨A7, c7, rfl, hc7⟩ := own_form hO7
     clear hO4 hg7 hN
     refine hK.out _ _ (HB.out _ hC) (fun hHeld => ?_)
     clear hK K
     (try simp only [Act.put, List.setIfInBounds_toArray, List.set_cons_zero, List.set_cons_succ])
     refine wpAnyH_ready (rs := [11]) (by kernel_rfl) (by simp) ?_
     refine' AllReadyH.cons ?_ (fun K hK => ?_) AllReadyH.nil
     rotate_left 1
     ·(simp only [List.getElem?_toArray, List.getElem?_cons_succ, List.getElem?_cons_zero]; try rfl)
     refine step_append_sl rfl _ _ 50 rfl w1.heap.size 96 i0 (.agg #[.int .i64 0, .int .i64 0, .int .i64 0]) 3 24 encL_len encL_one Tryz.underlying50 hi hz0 hz1 hz2 rfl (by decide) (.slice A7 (k + 1) c7) _ _ rfl hO7 _ rfl (Sl.nil (L := 0) (B := 0) (k := 3) (enc := encL))  (by unfold maxLen; omega) (by omega) hC.size ?_
     intro v11 w11 hO11 hg11
     replace hC := below_row hC hO7 hg11 (Nat.le_refl _) (Nat.le_refl _)
     obtain ⟨A11, c11, rfl, hc11⟩ := own_form hO11
     clear hO7 hg11
     refine hK.out _ _ (HB.out _ hC) (fun hHeld => ?_)
     clear hK K
     (try simp only [Act.put, List.setIfInBounds_toArray, List.set_cons_zero, List.set_cons_succ])
     refine' takeW 12 ?_ ?_ ?_ (by kernel_rfl) (by kernel_rfl) (by kernel_rfl) (fun _ _ _ h => h) hHeld ?_
     rotate_left 2
     ·(simp only [List.getElem?_toArray, List.getElem?_cons_succ, List.getElem?_cons_zero]; try rfl)
     ·rfl
     ·(intro w hSw; (try dsimp only at hSw); go_simp; first | done | with_reducible rfl)
     (try simp only [Act.put, List.setIfInBounds_toArray, List.set_cons_zero, List.set_cons_succ])
     refine wpAnyH_done (by kernel_rfl) ?_ _
     refine NoPanic.normal ?_
     go_wp2_with fail
     all_goals (go_ret; refine ⟨⟨A11, _, c11, rfl, by omega, hc11, ?_⟩, HC0.out _ hC⟩; rw [HR.out])
     all_goals exact (ins_sl0 encL_len hO11 HL.out).less hLw1
theorem Sl.set1 {α : Type} {enc : α → List Value} {w : World} {L k n : Nat} {A : Option Addr} {xs : List α} (h : Sl w L w.heap.size k enc A n xs) {p : Addr} (hp : p.block < L) (u : Value) : Sl (w.setCell p u) L (w.setCell p u).heap.size k enc A n xs := by
 have hz : (w.setCell p u).heap.size = w.heap.size := by simp [World.setCell]
 rw [hz]; exact h.set_ hp u
theorem le_set1 {w : World} {L : Nat} (h : L ≤ w.heap.size) (p : Addr) (u : Value) : L ≤ (w.setCell p u).heap.size := by
 have hz : (w.setCell p u).heap.size = w.heap.size := by simp [World.setCell]
 rw [hz]; exact h
theorem GrL.far3L {w : World} {L b : Nat} {A B C : Option Addr} {n m k : Nat} {g : Gr} (h : GrL w L A n B m C k g) (hb : b < L) (x y z : Value) : GrL (((w.setCell ⟨b, 0, none⟩ x).setCell ⟨b, 1, none⟩ y).setCell ⟨b, 2, none⟩ z) L A n B m C k g :=
 ⟨((h.obv.set1 hb _).set1 hb _).set1 hb _, ((h.rev.set1 hb _).set1 hb _).set1 hb _, ((h.links.set1 hb _).set1 hb _).set1 hb _⟩
theorem GrL.lessL {w : World} {L L' : Nat} {A B C : Option Addr} {n m k : Nat} {g : Gr} (h : GrL w L A n B m C k g) (hb : L' ≤ L) : GrL w L' A n B m C k g := ⟨h.obv.less hb, h.rev.less hb, h.links.less hb⟩
def insAll (l : List Lnk) : List Lnk := l.foldl (fun o x => insLk x o) []
theorem insAll_snoc (l : List Lnk) (x : Lnk) : insAll (l ++ [x]) = insLk x (insAll l) := by unfold insAll; rw [List.foldl_append]; rfl
def madeG (l : List Lnk) : Gr := ⟨uniqI (l.map Lnk.obv), uniqI (l.map Lnk.rev), insAll l⟩
theorem madeG_step {l : List Lnk} {j : Nat} {x : Lnk} (h : l[j]? = some x) : uniqI ((l.take (j + 1)).map Lnk.obv) = withI x.obv (uniqI ((l.take j).map Lnk.obv)) ∧ uniqI ((l.take (j + 1)).map Lnk.rev) = withI x.rev (uniqI ((l.take j).map Lnk.rev)) ∧ insAll (l.take (j + 1)) = insLk x (insAll (l.take j)) := by
 rw [takeSnocW h, List.map_append, List.map_append, insAll_snoc]
 exact ⟨uniqI_snoc _ _, uniqI_snoc _ _, rfl⟩
set_option maxRecDepth 100000 in
set_option maxHeartbeats 4000000 in
theorem rmade_any (A : Option Addr) (n c : Nat) (l : List Lnk) (w : World) (hn : n ≤ 100000) (hS : Sl w 0 w.heap.size 3 encL A n l) :
  Calls Tryz.prog 80 #[.slice A n c] w fun e w' => (∃ A1 n1 c1 A2 n2 c2 A3 n3 c3, e = .returned (.agg #[.slice A1 n1 c1, .slice A2 n2 c2, .slice A3 n3 c3]) ∧ n1 ≤ n ∧ n2 ≤ n ∧ n3 ≤ n ∧ GrL w' w.heap.size A1 n1 A2 n2 A3 n3 (madeG l)) ∧ Below w.heap.size w w' := by
 have HL := Lib.hid hS.len
 have HSx := Lib.hid hS; clear hS
 have D2 : Bx ((w.alloc (.cells #[.slice none 0 0, .slice none 0 0, .slice none 0 0] 52)).alloc (.cells #[.slice none 0 0, .slice none 0 0, .slice none 0 0] 52)) w.heap.size [.slice none 0 0, .slice none 0 0, .slice none 0 0] := (Bx.new w [.slice none 0 0, .slice none 0 0, .slice none 0 0] 52).alloc _
 have D3 : Bx ((w.alloc (.cells #[.slice none 0 0, .slice none 0 0, .slice none 0 0] 52)).alloc (.cells #[.slice none 0 0, .slice none 0 0, .slice none 0 0] 52)) (w.heap.size + 1) [.slice none 0 0, .slice none 0 0, .slice none 0 0] := by
  have h := Bx.new (w.alloc (.cells #[.slice none 0 0, .slice none 0 0, .slice none 0 0] 52)) [.slice none 0 0, .slice none 0 0, .slice none 0 0] 52
  rwa [World.size_alloc] at h
 have hb0 : Below w.heap.size w ((w.alloc (.cells #[.slice none 0 0, .slice none 0 0, .slice none 0 0] 52)).alloc (.cells #[.slice none 0 0, .slice none 0 0, .slice none 0 0] 52)) := by (repeat (first | exact Below.refl _ _ | assumption | refine Below.alloc ?_ (by first | omega | (simp only [World.size_alloc]; omega) | (simp; done) | (simp; omega)) _ | refine Below.setCell ?_ (by first | omega | (simp only [World.size_alloc]; omega) | (simp; done) | (simp; omega)) _ | refine Below.drew ?_ | refine below_drewN ?_ _))
 have hz0 : w.heap.size + 2 ≤ ((w.alloc (.cells #[.slice none 0 0, .slice none 0 0, .slice none 0 0] 52)).alloc (.cells #[.slice none 0 0, .slice none 0 0, .slice none 0 0] 52)).heap.size := by simp
 go_enter Tryz.func80, Tryz.ntmps80
 go_wp2_with fail
 generalize (w.alloc (.cells #[.slice none 0 0, .slice none 0 0, .slice none 0 0] 52)).alloc (.cells #[.slice none 0 0, .slice none 0 0, .slice none 0 0] 52) = w1 at *
 go_loopw [4] (fun i wr => ∃ j : Nat, j ≤ n ∧ i = .int .i64 (j : Int) ∧ (∃ A1 n1 c1 A2 n2 c2 A3 n3 c3, n1 ≤ j ∧ n2 ≤ j ∧ n3 ≤ j ∧ n1 ≤ c1 ∧ n2 ≤ c2 ∧ n3 ≤ c3 ∧ GrL wr (w.heap.size + 2) A1 n1 A2 n2 A3 n3 (madeG (l.take j)) ∧ Bx wr (w.heap.size + 1) [.slice A1 n1 c1, .slice A2 n2 c2, .slice A3 n3 c3]) ∧ Bx wr w.heap.size [.slice none 0 0, .slice none 0 0, .slice none 0 0] ∧ Below w.heap.size w wr ∧ w.heap.size + 2 ≤ wr.heap.size) (fun i _ => n - (intOf i).toNat)
 case atStart => exact ⟨0, by omega, rfl, ⟨none, 0, 0, none, 0, 0, none, 0, 0, by omega, by omega, by omega, by omega, by omega, by omega, ⟨Sl.nil, Sl.nil, Sl.nil⟩, D3⟩, D2, hb0, hz0⟩
 case round =>
  clear D2 D3 hb0 hz0
  obtain ⟨j, hj, rfl, ⟨A1, n1, c1, A2, n2, c2, A3, n3, c3, hn1, hn2, hn3, hc1, hc2, hc3, hG, X⟩, Z, hC, hLw⟩ := hrel
  by_cases hlt : j < n
  ·obtain ⟨b, off, x, rfl, hbb, hx, x0, x1, x2⟩ := HSx.out.ln hlt
   have HB : Hid (∀ W, Below w.heap.size w W → W.cell? ⟨b, off + j * 3, none⟩ = some (.int .i64 x.id) ∧ W.cell? ⟨b, off + j * 3 + 1, none⟩ = some (.int .i64 x.obv) ∧ W.cell? ⟨b, off + j * 3 + 2, none⟩ = some (.int .i64 x.rev)) := fun W hW =>
    ⟨(hW.cell (p := ⟨b, off + j * 3, none⟩) hbb).trans x0, (hW.cell (p := ⟨b, off + j * 3 + 1, none⟩) hbb).trans x1, (hW.cell (p := ⟨b, off + j * 3 + 2, none⟩) hbb).trans x2⟩
   have HM := Lib.hid (madeG_step hx)
   have hO : Sl wr (w.heap.size + 2) wr.heap.size 1 encI A1 n1 (uniqI ((l.take j).map Lnk.obv)) := hG.obv
   have hR : Sl wr (w.heap.size + 2) wr.heap.size 1 encI A2 n2 (uniqI ((l.take j).map Lnk.rev)) := hG.rev
   have hK0 : Sl wr (w.heap.size + 2) wr.heap.size 3 encL A3 n3 (insAll (l.take j)) := hG.links
   clear hG x0 x1 x2 hx
   go_wp2_with fail
   have hdr := (Below.refl (wr).heap.size (wr)).drew
   replace hC := below_keep' hC hdr
   replace X := X.up hdr
   replace Z := Z.up hdr
   replace hO := hO.up hdr (Nat.le_refl _) (Nat.le_refl _)
   replace hR := hR.up hdr (Nat.le_refl _) (Nat.le_refl _)
   replace hK0 := hK0.up hdr (Nat.le_refl _) (Nat.le_refl _)
   replace hLw : _ ≤ (World.drew (wr)).heap.size := hLw
   clear hdr
   refine wp_region_noPanic ?_
   refine wp_region_held_drew (S := fun U => U.cell? ⟨b, off + j * 3, none⟩ = some (.int .i64 x.id) ∧ U.cell? ⟨b, off + j * 3 + 1, none⟩ = some (.int .i64 x.obv) ∧ U.cell? ⟨b, off + j * 3 + 2, none⟩ = some (.int .i64 x.rev)) (by kernel_rfl) (HB.out _ hC) (fun hHeld => ?_)
   generalize World.drew wr = W0 at *
   refine' takeW 0 ?_ ?_ ?_ (by kernel_rfl) (by kernel_rfl) (by kernel_rfl) (fun _ _ _ h => h) hHeld ?_
   rotate_left 2
   ·(simp only [List.getElem?_toArray, List.getElem?_cons_succ, List.getElem?_cons_zero]; try rfl)
   ·rfl
   ·(intro w hSw; (try dsimp only at hSw); go_simp; first | done | with_reducible rfl)
   (try simp only [Act.put, List.setIfInBounds_toArray, List.set_cons_zero, List.set_cons_succ])
   refine' takeW 2 ?_ ?_ ?_ (by kernel_rfl) (by kernel_rfl) (by kernel_rfl) (fun _ _ _ h => h) hHeld ?_
   rotate_left 2
   ·(simp only [List.getElem?_toArray, List.getElem?_cons_succ, List.getElem?_cons_zero]; try rfl)
   ·rfl
   ·(intro w hSw; (try dsimp only at hSw); go_simp; first | done | with_reducible rfl)
   (try simp only [Act.put, List.setIfInBounds_toArray, List.set_cons_zero, List.set_cons_succ])
   refine' takeW 3 ?_ ?_ ?_ (by kernel_rfl) (by kernel_rfl) (by kernel_rfl) (fun _ _ _ h => h) hHeld ?_
   rotate_left 2
   ·(simp only [List.getElem?_toArray, List.getElem?_cons_succ, List.getElem?_cons_zero]; try rfl)
   ·rfl
   ·(intro w hSw; (try dsimp only at hSw); go_simp; first | done | with_reducible rfl)
   (try simp only [Act.put, List.setIfInBounds_toArray, List.set_cons_zero, List.set_cons_succ])
   refine' takeW 4 ?_ ?_ ?_ (by kernel_rfl) (by kernel_rfl) (by kernel_rfl) (fun _ _ _ h => h) hHeld ?_
   rotate_left 2
   ·(simp only [List.getElem?_toArray, List.getElem?_cons_succ, List.getElem?_cons_zero]; try rfl)
   ·rfl
   ·(intro w hSw; (try dsimp only at hSw); go_simp; first | done | with_reducible rfl)
   (try simp only [Act.put, List.setIfInBounds_toArray, List.set_cons_zero, List.set_cons_succ])
   refine' takeW 5 ?_ ?_ ?_ (by kernel_rfl) (by kernel_rfl) (by kernel_rfl) (fun _ _ _ h => h) hHeld ?_
   rotate_left 2
   ·(simp only [List.getElem?_toArray, List.getElem?_cons_succ, List.getElem?_cons_zero]; try rfl)
   ·rfl
   ·(intro w hSw; (try dsimp only at hSw); go_simp; first | done | with_reducible rfl)
   (try simp only [Act.put, List.setIfInBounds_toArray, List.set_cons_zero, List.set_cons_succ])
   refine' takeW 6 ?_ ?_ ?_ (by kernel_rfl) (by kernel_rfl) (by kernel_rfl) (fun _ _ _ h => h) hHeld ?_
   rotate_left 2
   ·(simp only [List.getElem?_toArray, List.getElem?_cons_succ, List.getElem?_cons_zero]; try rfl)
   ·rfl
   ·(intro w hSw; (try dsimp only at hSw); go_simp; first | done | with_reducible rfl)
   (try simp only [Act.put, List.setIfInBounds_toArray, List.set_cons_zero, List.set_cons_succ])
   refine wpAnyH_ready (rs := [1]) (by kernel_rfl) (by simp) ?_
   refine' AllReadyH.cons ?_ (fun K hK => ?_) AllReadyH.nil
   rotate_left 1
   ·(simp only [List.getElem?_toArray, List.getElem?_cons_succ, List.getElem?_cons_zero]; try rfl)
   have r0 := X.cell 0 _ rfl
   (try go_simp)
   refine hK.out _ _ (HB.out _ hC) (fun hHeld => ?_)
   clear hK K r0
   (try simp only [Act.put, List.setIfInBounds_toArray, List.set_cons_zero, List.set_cons_succ])
   refine wpAnyH_ready (rs := [7]) (by kernel_rfl) (by simp) ?_
   refine' AllReadyH.cons ?_ (fun K hK => ?_) AllReadyH.nil
   rotate_left 1
   ·(simp only [List.getElem?_toArray, List.getElem?_cons_succ, List.getElem?_cons_zero]; try rfl)
   (try go_simp)
   go_at_call 97
   refine (rwith_any (w.heap.size + 2) A1 n1 c1 _ x.obv _ hLw (by omega) hc1 hO).mono ?_
   rintro e wz0 ⟨⟨A1', n1', c1', rfl, hn1', hc1', hS'⟩, hbz⟩
   (try go_simp)
   replace hC := below_keep' hC hbz
   replace X := X.up hbz
   replace Z := Z.up hbz
   replace hR := hR.up hbz (Nat.le_refl _) (Nat.le_refl _)
   replace hK0 := hK0.up hbz (Nat.le_refl _) (Nat.le_refl _)
   replace hO := hS'
   clear hS'
   replace hLw := Nat.le_trans hLw hbz.size
   clear hbz
   refine hK.out _ _ (HB.out _ hC) (fun hHeld => ?_)
   clear hK K
   (try simp only [Act.put, List.setIfInBounds_toArray, List.set_cons_zero, List.set_cons_succ])
   refine' takeW 8 ?_ ?_ ?_ (by kernel_rfl) (by kernel_rfl) (by kernel_rfl) (fun _ _ _ h => h) hHeld ?_
   rotate_left 2
   ·(simp only [List.getElem?_toArray, List.getElem?_cons_succ, List.getElem?_cons_zero]; try rfl)
   ·rfl
   ·(intro w hSw; (try dsimp only at hSw); go_simp; first | done | with_reducible rfl)
   (try simp only [Act.put, List.setIfInBounds_toArray, List.set_cons_zero, List.set_cons_succ])
   refine wpAnyH_ready (rs := [9]) (by kernel_rfl) (by simp) ?_
   refine' AllReadyH.cons ?_ (fun K hK => ?_) AllReadyH.nil
   rotate_left 1
   ·(simp only [List.getElem?_toArray, List.getElem?_cons_succ, List.getElem?_cons_zero]; try rfl)
   have r0 := X.cell 0 _ rfl
   have f0 := X.frz 0
   have rl := X.lt
   (try go_simp)
   replace hO := hO.set1 (p := ⟨w.heap.size + 1, 0, none⟩) (by simp) (.slice A1' n1' c1')
   replace hR := hR.set1 (p := ⟨w.heap.size + 1, 0, none⟩) (by simp) (.slice A1' n1' c1')
   replace hK0 := hK0.set1 (p := ⟨w.heap.size + 1, 0, none⟩) (by simp) (.slice A1' n1' c1')
   replace Z := Z.far (p := ⟨w.heap.size + 1, 0, none⟩) (by simp) (.slice A1' n1' c1')
   replace X := X.set (i := 0) (by simp) (.slice A1' n1' c1')
   replace hC := hC.setCell (p := ⟨w.heap.size + 1, 0, none⟩) (by simp) (.slice A1' n1' c1')
   replace hLw := le_set1 hLw ⟨w.heap.size + 1, 0, none⟩ (.slice A1' n1' c1')
   refine hK.out _ _ (HB.out _ hC) (fun hHeld => ?_)
   clear hK K r0 f0 rl
   (try simp only [Act.put, List.setIfInBounds_toArray, List.set_cons_zero, List.set_cons_succ])
   refine wpAnyH_done (by kernel_rfl) ?_ _
   refine NoPanic.normal ?_
   go_wp2_with fail
   have hdr := (Below.refl ((wz0.setCell ⟨w.heap.size + 1, 0, none⟩ (.slice A1' n1' c1'))).heap.size ((wz0.setCell ⟨w.heap.size + 1, 0, none⟩ (.slice A1' n1' c1')))).drew
   replace hC := below_keep' hC hdr
   replace X := X.up hdr
   replace Z := Z.up hdr
   replace hO := hO.up hdr (Nat.le_refl _) (Nat.le_refl _)
   replace hR := hR.up hdr (Nat.le_refl _) (Nat.le_refl _)
   replace hK0 := hK0.up hdr (Nat.le_refl _) (Nat.le_refl _)
   replace hLw : _ ≤ (World.drew ((wz0.setCell ⟨w.heap.size + 1, 0, none⟩ (.slice A1' n1' c1')))).heap.size := hLw
   clear hdr
   refine wp_region_noPanic ?_
   refine wp_region_held_drew (S := fun U => U.cell? ⟨b, off + j * 3, none⟩ = some (.int .i64 x.id) ∧ U.cell? ⟨b, off + j * 3 + 1, none⟩ = some (.int .i64 x.obv) ∧ U.cell? ⟨b, off + j * 3 + 2, none⟩ = some (.int .i64 x.rev)) (by kernel_rfl) (HB.out _ hC) (fun hHeld => ?_)
   generalize World.drew (wz0.setCell ⟨w.heap.size + 1, 0, none⟩ (.slice A1' n1' c1')) = W1 at *
   refine' takeW 0 ?_ ?_ ?_ (by kernel_rfl) (by kernel_rfl) (by kernel_rfl) (fun _ _ _ h => h) hHeld ?_
   rotate_left 2
   ·(simp only [List.getElem?_toArray, List.getElem?_cons_succ, List.getElem?_cons_zero]; try rfl)
   ·rfl
   ·(intro w hSw; (try dsimp only at hSw); go_simp; first | done | with_reducible rfl)
   (try simp only [Act.put, List.setIfInBounds_toArray, List.set_cons_zero, List.set_cons_succ])
   refine' takeW 2 ?_ ?_ ?_ (by kernel_rfl) (by kernel_rfl) (by kernel_rfl) (fun _ _ _ h => h) hHeld ?_
   rotate_left 2
   ·(simp only [List.getElem?_toArray, List.getElem?_cons_succ, List.getElem?_cons_zero]; try rfl)
   ·rfl
   ·(intro w hSw; (try dsimp only at hSw); go_simp; first | done | with_reducible rfl)
   (try simp only [Act.put, List.setIfInBounds_toArray, List.set_cons_zero, List.set_cons_succ])
   refine' takeW 3 ?_ ?_ ?_ (by kernel_rfl) (by kernel_rfl) (by kernel_rfl) (fun _ _ _ h => h) hHeld ?_
   rotate_left 2
   ·(simp only [List.getElem?_toArray, List.getElem?_cons_succ, List.getElem?_cons_zero]; try rfl)
   ·rfl
   ·(intro w hSw; (try dsimp only at hSw); go_simp; first | done | with_reducible rfl)
   (try simp only [Act.put, List.setIfInBounds_toArray, List.set_cons_zero, List.set_cons_succ])
   refine' takeW 4 ?_ ?_ ?_ (by kernel_rfl) (by kernel_rfl) (by kernel_rfl) (fun _ _ _ h => h) hHeld ?_
   rotate_left 2
   ·(simp only [List.getElem?_toArray, List.getElem?_cons_succ, List.getElem?_cons_zero]; try rfl)
   ·rfl
   ·(intro w hSw; (try dsimp only at hSw); go_simp; first | done | with_reducible rfl)
   (try simp only [Act.put, List.setIfInBounds_toArray, List.set_cons_zero, List.set_cons_succ])
   refine' takeW 5 ?_ ?_ ?_ (by kernel_rfl) (by kernel_rfl) (by kernel_rfl) (fun _ _ _ h => h) hHeld ?_
   rotate_left 2
   ·(simp only [List.getElem?_toArray, List.getElem?_cons_succ, List.getElem?_cons_zero]; try rfl)
   ·rfl
   ·(intro w hSw; (try dsimp only at hSw); go_simp; first | done | with_reducible rfl)
   (try simp only [Act.put, List.setIfInBounds_toArray, List.set_cons_zero, List.set_cons_succ])
   refine' takeW 6 ?_ ?_ ?_ (by kernel_rfl) (by kernel_rfl) (by kernel_rfl) (fun _ _ _ h => h) hHeld ?_
   rotate_left 2
   ·(simp only [List.getElem?_toArray, List.getElem?_cons_succ, List.getElem?_cons_zero]; try rfl)
   ·rfl
   ·(intro w hSw; (try dsimp only at hSw); go_simp; first | done | with_reducible rfl)
   (try simp only [Act.put, List.setIfInBounds_toArray, List.set_cons_zero, List.set_cons_succ])
   refine wpAnyH_ready (rs := [1]) (by kernel_rfl) (by simp) ?_
   refine' AllReadyH.cons ?_ (fun K hK => ?_) AllReadyH.nil
   rotate_left 1
   ·(simp only [List.getElem?_toArray, List.getElem?_cons_succ, List.getElem?_cons_zero]; try rfl)
   have r0 := X.cell 1 _ rfl
   (try go_simp)
   refine hK.out _ _ (HB.out _ hC) (fun hHeld => ?_)
   clear hK K r0
   (try simp only [Act.put, List.setIfInBounds_toArray, List.set_cons_zero, List.set_cons_succ])
   refine wpAnyH_ready (rs := [7]) (by kernel_rfl) (by simp) ?_
   refine' AllReadyH.cons ?_ (fun K hK => ?_) AllReadyH.nil
   rotate_left 1
   ·(simp only [List.getElem?_toArray, List.getElem?_cons_succ, List.getElem?_cons_zero]; try rfl)
   (try go_simp)
   go_at_call 97
   refine (rwith_any (w.heap.size + 2) A2 n2 c2 _ x.rev _ hLw (by omega) hc2 hR).mono ?_
   rintro e wz1 ⟨⟨A2', n2', c2', rfl, hn2', hc2', hS'⟩, hbz⟩
   (try go_simp)
   replace hC := below_keep' hC hbz
   replace X := X.up hbz
   replace Z := Z.up hbz
   replace hO := hO.up hbz (Nat.le_refl _) (Nat.le_refl _)
   replace hK0 := hK0.up hbz (Nat.le_refl _) (Nat.le_refl _)
   replace hR := hS'
   clear hS'
   replace hLw := Nat.le_trans hLw hbz.size
   clear hbz
   refine hK.out _ _ (HB.out _ hC) (fun hHeld => ?_)
   clear hK K
   (try simp only [Act.put, List.setIfInBounds_toArray, List.set_cons_zero, List.set_cons_succ])
   refine' takeW 8 ?_ ?_ ?_ (by kernel_rfl) (by kernel_rfl) (by kernel_rfl) (fun _ _ _ h => h) hHeld ?_
   rotate_left 2
   ·(simp only [List.getElem?_toArray, List.getElem?_cons_succ, List.getElem?_cons_zero]; try rfl)
   ·rfl
   ·(intro w hSw; (try dsimp only at hSw); go_simp; first | done | with_reducible rfl)
   (try simp only [Act.put, List.setIfInBounds_toArray, List.set_cons_zero, List.set_cons_succ])
   refine wpAnyH_ready (rs := [9]) (by kernel_rfl) (by simp) ?_
   refine' AllReadyH.cons ?_ (fun K hK => ?_) AllReadyH.nil
   rotate_left 1
   ·(simp only [List.getElem?_toArray, List.getElem?_cons_succ, List.getElem?_cons_zero]; try rfl)
   have r0 := X.cell 1 _ rfl
   have f0 := X.frz 1
   have rl := X.lt
   (try go_simp)
   replace hO := hO.set1 (p := ⟨w.heap.size + 1, 1, none⟩) (by simp) (.slice A2' n2' c2')
   replace hR := hR.set1 (p := ⟨w.heap.size + 1, 1, none⟩) (by simp) (.slice A2' n2' c2')
   replace hK0 := hK0.set1 (p := ⟨w.heap.size + 1, 1, none⟩) (by simp) (.slice A2' n2' c2')
   replace Z := Z.far (p := ⟨w.heap.size + 1, 1, none⟩) (by simp) (.slice A2' n2' c2')
   replace X := X.set (i := 1) (by simp) (.slice A2' n2' c2')
   replace hC := hC.setCell (p := ⟨w.heap.size + 1, 1, none⟩) (by simp) (.slice A2' n2' c2')
   replace hLw := le_set1 hLw ⟨w.heap.size + 1, 1, none⟩ (.slice A2' n2' c2')
   refine hK.out _ _ (HB.out _ hC) (fun hHeld => ?_)
   clear hK K r0 f0 rl
   (try simp only [Act.put, List.setIfInBounds_toArray, List.set_cons_zero, List.set_cons_succ])
   refine wpAnyH_done (by kernel_rfl) ?_ _
   refine NoPanic.normal ?_
   go_wp2_with fail
   have hdr := (Below.refl ((wz1.setCell ⟨w.heap.size + 1, 1, none⟩ (.slice A2' n2' c2'))).heap.size ((wz1.setCell ⟨w.heap.size + 1, 1, none⟩ (.slice A2' n2' c2')))).drew
   replace hC := below_keep' hC hdr
   replace X := X.up hdr
   replace Z := Z.up hdr
   replace hO := hO.up hdr (Nat.le_refl _) (Nat.le_refl _)
   replace hR := hR.up hdr (Nat.le_refl _) (Nat.le_refl _)
   replace hK0 := hK0.up hdr (Nat.le_refl _) (Nat.le_refl _)
   replace hLw : _ ≤ (World.drew ((wz1.setCell ⟨w.heap.size + 1, 1, none⟩ (.slice A2' n2' c2')))).heap.size := hLw
   clear hdr
   refine wp_region_noPanic ?_
   refine wp_region_held_drew (S := fun U => U.cell? ⟨b, off + j * 3, none⟩ = some (.int .i64 x.id) ∧ U.cell? ⟨b, off + j * 3 + 1, none⟩ = some (.int .i64 x.obv) ∧ U.cell? ⟨b, off + j * 3 + 2, none⟩ = some (.int .i64 x.rev)) (by kernel_rfl) (HB.out _ hC) (fun hHeld => ?_)
   generalize World.drew (wz1.setCell ⟨w.heap.size + 1, 1, none⟩ (.slice A2' n2' c2')) = W2 at *
   refine' takeW 0 ?_ ?_ ?_ (by kernel_rfl) (by kernel_rfl) (by kernel_rfl) (fun _ _ _ h => h) hHeld ?_
   rotate_left 2
   ·(simp only [List.getElem?_toArray, List.getElem?_cons_succ, List.getElem?_cons_zero]; try rfl)
   ·rfl
   ·(intro w hSw; (try dsimp only at hSw); go_simp; first | done | with_reducible rfl)
   (try simp only [Act.put, List.setIfInBounds_toArray, List.set_cons_zero, List.set_cons_succ])
   refine' takeW 2 ?_ ?_ ?_ (by kernel_rfl) (by kernel_rfl) (by kernel_rfl) (fun _ _ _ h => h) hHeld ?_
   rotate_left 2
   ·(simp only [List.getElem?_toArray, List.getElem?_cons_succ, List.getElem?_cons_zero]; try rfl)
   ·rfl
   ·(intro w hSw; (try dsimp only at hSw); go_simp; first | done | with_reducible rfl)
   (try simp only [Act.put, List.setIfInBounds_toArray, List.set_cons_zero, List.set_cons_succ])
   refine' takeW 3 ?_ ?_ ?_ (by kernel_rfl) (by kernel_rfl) (by kernel_rfl) (fun _ _ _ h => h) hHeld ?_
   rotate_left 2
   ·(simp only [List.getElem?_toArray, List.getElem?_cons_succ, List.getElem?_cons_zero]; try rfl)
   ·rfl
   ·(intro w hSw; (try dsimp only at hSw); go_simp; first | done | with_reducible rfl)
   (try simp only [Act.put, List.setIfInBounds_toArray, List.set_cons_zero, List.set_cons_succ])
   refine' takeW 4 ?_ ?_ ?_ (by kernel_rfl) (by kernel_rfl) (by kernel_rfl) (fun _ _ _ h => h) hHeld ?_
   rotate_left 2
   ·(simp only [List.getElem?_toArray, List.getElem?_cons_succ, List.getElem?_cons_zero]; try rfl)
   ·rfl
   ·(intro w hSw; (try dsimp only at hSw); go_simp; first | done | with_reducible rfl)
   (try simp only [Act.put, List.setIfInBounds_toArray, List.set_cons_zero, List.set_cons_succ])
   refine' takeW 5 ?_ ?_ ?_ (by kernel_rfl) (by kernel_rfl) (by kernel_rfl) (fun _ _ _ h => h) hHeld ?_
   rotate_left 2
   ·(simp only [List.getElem?_toArray, List.getElem?_cons_succ, List.getElem?_cons_zero]; try rfl)
   ·rfl
   ·(intro w hSw; (try dsimp only at hSw); go_simp; first | done | with_reducible rfl)
   (try simp only [Act.put, List.setIfInBounds_toArray, List.set_cons_zero, List.set_cons_succ])
   refine wpAnyH_ready (rs := [1]) (by kernel_rfl) (by simp) ?_
   refine' AllReadyH.cons ?_ (fun K hK => ?_) AllReadyH.nil
   rotate_left 1
   ·(simp only [List.getElem?_toArray, List.getElem?_cons_succ, List.getElem?_cons_zero]; try rfl)
   have r0 := X.cell 2 _ rfl
   (try go_simp)
   refine hK.out _ _ (HB.out _ hC) (fun hHeld => ?_)
   clear hK K r0
   (try simp only [Act.put, List.setIfInBounds_toArray, List.set_cons_zero, List.set_cons_succ])
   refine wpAnyH_ready (rs := [6]) (by kernel_rfl) (by simp) ?_
   refine' AllReadyH.cons ?_ (fun K hK => ?_) AllReadyH.nil
   rotate_left 1
   ·(simp only [List.getElem?_toArray, List.getElem?_cons_succ, List.getElem?_cons_zero]; try rfl)
   (try go_simp)
   go_at_call 124
   refine (rinsert_any (w.heap.size + 2) A3 n3 c3 _ x _ hLw (by omega) hc3 hK0).mono ?_
   rintro e wz2 ⟨⟨A3', n3', c3', rfl, hn3', hc3', hS'⟩, hbz⟩
   (try go_simp)
   replace hC := below_keep' hC hbz
   replace X := X.up hbz
   replace Z := Z.up hbz
   replace hO := hO.up hbz (Nat.le_refl _) (Nat.le_refl _)
   replace hR := hR.up hbz (Nat.le_refl _) (Nat.le_refl _)
   replace hK0 := hS'
   clear hS'
   replace hLw := Nat.le_trans hLw hbz.size
   clear hbz
   refine hK.out _ _ (HB.out _ hC) (fun hHeld => ?_)
   clear hK K
   (try simp only [Act.put, List.setIfInBounds_toArray, List.set_cons_zero, List.set_cons_succ])
   refine' takeW 7 ?_ ?_ ?_ (by kernel_rfl) (by kernel_rfl) (by kernel_rfl) (fun _ _ _ h => h) hHeld ?_
   rotate_left 2
   ·(simp only [List.getElem?_toArray, List.getElem?_cons_succ, List.getElem?_cons_zero]; try rfl)
   ·rfl
   ·(intro w hSw; (try dsimp only at hSw); go_simp; first | done | with_reducible rfl)
   (try simp only [Act.put, List.setIfInBounds_toArray, List.set_cons_zero, List.set_cons_succ])
   refine wpAnyH_ready (rs := [8]) (by kernel_rfl) (by simp) ?_
   refine' AllReadyH.cons ?_ (fun K hK => ?_) AllReadyH.nil
   rotate_left 1
   ·(simp only [List.getElem?_toArray, List.getElem?_cons_succ, List.getElem?_cons_zero]; try rfl)
   have r0 := X.cell 2 _ rfl
   have f0 := X.frz 2
   have rl := X.lt
   (try go_simp)
   replace hO := hO.set1 (p := ⟨w.heap.size + 1, 2, none⟩) (by simp) (.slice A3' n3' c3')
   replace hR := hR.set1 (p := ⟨w.heap.size + 1, 2, none⟩) (by simp) (.slice A3' n3' c3')
   replace hK0 := hK0.set1 (p := ⟨w.heap.size + 1, 2, none⟩) (by simp) (.slice A3' n3' c3')
   replace Z := Z.far (p := ⟨w.heap.size + 1, 2, none⟩) (by simp) (.slice A3' n3' c3')
   replace X := X.set (i := 2) (by simp) (.slice A3' n3' c3')
   replace hC := hC.setCell (p := ⟨w.heap.size + 1, 2, none⟩) (by simp) (.slice A3' n3' c3')
   replace hLw := le_set1 hLw ⟨w.heap.size + 1, 2, none⟩ (.slice A3' n3' c3')
   refine hK.out _ _ (HB.out _ hC) (fun hHeld => ?_)
   clear hK K r0 f0 rl
   (try simp only [Act.put, List.setIfInBounds_toArray, List.set_cons_zero, List.set_cons_succ])
   refine wpAnyH_done (by kernel_rfl) ?_ _
   refine NoPanic.normal ?_
   go_wp2_with fail
   go_roundw
   case rel =>
    exact ⟨j + 1, by omega, by go_num, ⟨_, _, _, _, _, _, _, _, _, by omega, by omega, by omega, hc1', hc2', hc3', ⟨by show Sl _ _ _ _ _ _ _ (uniqI _); rw [HM.out.1]; exact hO, by show Sl _ _ _ _ _ _ _ (uniqI _); rw [HM.out.2.1]; exact hR, by show Sl _ _ _ _ _ _ _ (insAll _); rw [HM.out.2.2]; exact hK0⟩, X⟩, Z, hC, hLw⟩
   case measure => simp [intOf]; omega
  ·obtain rfl : j = n := by omega
   have HT := Lib.hid (take_all HL.out)
   rw [HT.out] at hG
   have d0 := X.cell 0 _ rfl
   have d1 := X.cell 1 _ rfl
   have d2 := X.cell 2 _ rfl
   have z0 := Z.cell 0 _ rfl
   have z1 := Z.cell 1 _ rfl
   have z2 := Z.cell 2 _ rfl
   have e0 := Z.frz 0
   have e1 := Z.frz 1
   have e2 := Z.frz 2
   have dl := Z.lt
   go_wp2_with fail
   have R4 := Z.all3 (.slice A1 n1 c1) (.slice A2 n2 c2) (.slice A3 n3 c3)
   refine bodyPost_ret (v := .agg #[.slice A1 n1 c1, .slice A2 n2 c2, .slice A3 n3 c3]) (by simp [results, Tryz.results80, go_sem, R4.cell 0 _ rfl, R4.cell 1 _ rfl, R4.cell 2 _ rfl]) rfl ?_
   exact ⟨⟨_, _, _, _, _, _, _, _, _, rfl, hn1, hn2, hn3, (hG.far3L (by omega) _ _ _).lessL (by omega)⟩, by (repeat (first | exact Below.refl _ _ | assumption | refine Below.alloc ?_ (by first | omega | (simp only [World.size_alloc]; omega) | (simp; done) | (simp; omega)) _ | refine Below.setCell ?_ (by first | omega | (simp only [World.size_alloc]; omega) | (simp; done) | (simp; omega)) _ | refine Below.drew ?_ | refine below_drewN ?_ _))⟩
theorem insAll_mem {z : Lnk} : ∀ l : List Lnk, z ∈ insAll l ↔ z ∈ l := by
 refine snocIndW (by simp [insAll]) fun l x ih => ?_
 rw [insAll_snoc, insLk_mem, ih, List.mem_append, List.mem_singleton]
 exact Or.comm
theorem insAll_asc : ∀ l : List Lnk, (l.map Lnk.id).Nodup → (insAll l).Pairwise (fun a b => a.id < b.id) := by
 refine snocIndW (fun _ => by simp [insAll]) fun l x ih h => ?_
 rw [List.map_append, List.nodup_append] at h
 rw [insAll_snoc]
 exact insLk_asc (ih h.1) fun y hy e => h.2.2 y.id (List.mem_map_of_mem ((insAll_mem l).1 hy)) x.id (by simp) e
theorem lnk_unique {a b : List Lnk} (ha : a.Pairwise (fun a b => a.id < b.id)) (hb : b.Pairwise (fun a b => a.id < b.id)) (hm : ∀ x, x ∈ a ↔ x ∈ b) : a = b := by
 have nd : ∀ l : List Lnk, l.Pairwise (fun a b => a.id < b.id) → l.Nodup := fun l h => h.imp (fun h e => by subst e; exact absurd h (Int.lt_irrefl _))
 exact List.Perm.eq_of_pairwise (le := (fun a b : Lnk => a.id < b.id)) (fun a b _ _ h3 h4 => absurd (Int.lt_trans h3 h4) (Int.lt_irrefl _)) ha hb ((List.perm_ext_iff_of_nodup (nd a ha) (nd b hb)).2 hm)
theorem made_of {xs : List Spm} (h : chk xs = 0) : madeG (xs.map lnkOf) = grOf xs := by
 obtain ⟨h64, hv, hnd⟩ := (chk_zero xs).1 h
 have h1 : (xs.map lnkOf).map Lnk.obv = xs.map Spm.obv := by rw [List.map_map]; rfl
 have h2 : (xs.map lnkOf).map Lnk.rev = xs.map Spm.rev := by rw [List.map_map]; rfl
 have h3 : insAll (xs.map lnkOf) = (sortS xs).map lnkOf := by
  refine lnk_unique (insAll_asc _ (by rw [List.map_map]; exact hnd)) (by rw [List.pairwise_map]; exact sortS_lt hnd) fun z => ?_
  rw [insAll_mem, List.mem_map, List.mem_map]
  constructor
  ·rintro ⟨x, hx, e⟩; exact ⟨x, (sortS_mem _ _).2 hx, e⟩
  ·rintro ⟨x, hx, e⟩; exact ⟨x, (sortS_mem _ _).1 hx, e⟩
 unfold madeG grOf
 rw [h1, h2, h3]
set_option maxRecDepth 100000 in
set_option maxHeartbeats 4000000 in
theorem rof_any (A : Option Addr) (len cap : Nat) (xs : List Spm) (w : World) (hlen : len ≤ 1000000) (hS : Sl w 0 w.heap.size 7 encS A len xs) :
  Calls Tryz.prog 39 #[.slice A len cap] w (GrOut w (grR xs) (grE xs)) := by
 have HS := Lib.hid hS; clear hS
 obtain ⟨i0, hi, hz0, hz1, hz2⟩ := info_parts Tryz.infoLk
 go_enter Tryz.func39, Tryz.ntmps39
 go_wp2_with fail
 refine (bcheck_any A len cap xs _ hlen (HS.out.alloc _)).mono ?_
 rintro e w1 ⟨rfl, hb1⟩
 obtain ⟨hb, _, D⟩ := step1 (vs := [.slice none 0 0, .slice none 0 0, .slice none 0 0]) (Below.refl _ w) hb1
 clear hb1
 by_cases ha : ¬ chk xs = 0
 ·have hd : (chk xs != 0) = true := by simpa using ha
  have HE : Hid (grE xs = chk xs) := grE_bad ha
  have HL : Hid (grR xs = grZero) := grR_bad (by rw [HE.out]; exact ha)
  generalize chk xs = c at *
  have d0 := D.cell 0 _ rfl
  have d1 := D.cell 1 _ rfl
  have d2 := D.cell 2 _ rfl
  have e0 := D.frz 0
  have e1 := D.frz 1
  have e2 := D.frz 2
  have dl := D.lt
  clear ha
  go_wp2_with fail
  have R4 := D.all3 (.slice none 0 0) (.slice none 0 0) (.slice none 0 0)
  refine bodyPost_ret (v := .tuple #[.agg #[.slice none 0 0, .slice none 0 0, .slice none 0 0], .int .i64 c]) (by simp [results, Tryz.results39, go_sem, R4.cell 0 _ rfl, R4.cell 1 _ rfl, R4.cell 2 _ rfl]) rfl ?_
  rw [HE.out, HL.out]
  exact ⟨⟨_, _, _, _, _, _, _, _, _, rfl, by omega, by omega, by omega, GrM.zero⟩, by (repeat (first | exact Below.refl _ _ | assumption | refine Below.alloc ?_ (by first | omega | (simp only [World.size_alloc]; omega) | (simp; done) | (simp; omega)) _ | refine Below.setCell ?_ (by first | omega | (simp only [World.size_alloc]; omega) | (simp; done) | (simp; omega)) _ | refine Below.drew ?_ | refine below_drewN ?_ _))⟩
 replace ha := Classical.not_not.1 ha
 have hd : (chk xs != 0) = false := by simpa using ha
 have HA := Lib.hid ha
 have hl64 : xs.length ≤ 64 := chk_len ha
 have HLX := Lib.hid HS.out.len
 have hns : len ≤ 64 := by have := HLX.out; omega
 rw [ha]
 clear ha hd
 have HSB : Hid (∀ V, Below w1.heap.size w1 V → Sl V 0 V.heap.size 7 encS A len xs) := fun V hV => HS.out.up (hb.trans (hV.mono hb.size)) (Nat.le_refl _) (Nat.le_refl _)
 go_wp2_with fail
 go_loopw [5, 6] (fun v i wr => ∃ k : Nat, k ≤ len ∧ i = .int .i64 (k : Int) ∧ wr.ownsRow w1.heap.size 96 3 v k (((xs.take k).map lnkOf).flatMap encL) ∧ Below w1.heap.size w1 wr) (fun _ i _ => len - (intOf i).toNat)
 case atStart => exact ⟨0, by omega, rfl, World.ownsRow_nil _ _ _ _, Below.refl _ _⟩
 case round =>
  obtain ⟨k, hk, rfl, hown, hbr⟩ := hrel
  obtain ⟨Ak, ck, rfl, hck⟩ := own_form hown
  by_cases hlt : k < len
  ·obtain ⟨b, off, x, rfl, hbb, hx, y0, y1, y2, _⟩ := (HSB.out _ (Below.refl _ _)).sp hlt
   have HB : Hid (∀ W, Below w1.heap.size w1 W → W.cell? ⟨b, off + k * 7, none⟩ = some (.int .i64 x.id) ∧ W.cell? ⟨b, off + k * 7 + 1, none⟩ = some (.int .i64 x.obv) ∧ W.cell? ⟨b, off + k * 7 + 2, none⟩ = some (.int .i64 x.rev)) := fun W hW =>
    ⟨(hW.cell (p := ⟨b, off + k * 7, none⟩) hbb).trans y0, (hW.cell (p := ⟨b, off + k * 7 + 1, none⟩) hbb).trans y1, (hW.cell (p := ⟨b, off + k * 7 + 2, none⟩) hbb).trans y2⟩
   have HX : Hid ((xs.take (k + 1)).map lnkOf = (xs.take k).map lnkOf ++ [lnkOf x]) := by show _ = _; rw [takeSnocW hx, List.map_append]; rfl
   clear hx y0 y1 y2
   generalize (xs.take k).map lnkOf = ls at *
   have hC := hbr.drew
   replace hown : wr.drew.ownsRow w1.heap.size 96 3 (.slice Ak k ck) k (ls.flatMap encL) := hown
   clear hbr
   go_wp2_with fail
   refine wp_region_noPanic ?_
   refine wp_region_held_drew (S := fun U => U.cell? ⟨b, off + k * 7, none⟩ = some (.int .i64 x.id) ∧ U.cell? ⟨b, off + k * 7 + 1, none⟩ = some (.int .i64 x.obv) ∧ U.cell? ⟨b, off + k * 7 + 2, none⟩ = some (.int .i64 x.rev)) (by kernel_rfl) (HB.out _ hC) (fun hHeld => ?_)
   generalize wr.drew = W at *
   refine' takeW 0 ?_ ?_ ?_ (by kernel_rfl) (by kernel_rfl) (by kernel_rfl) (fun _ _ _ h => h) hHeld ?_
   rotate_left 2
   ·(simp only [List.getElem?_toArray, List.getElem?_cons_succ, List.getElem?_cons_zero]; try rfl)
   ·rfl
   ·(intro w hSw; (try dsimp only at hSw); go_simp; first | done | with_reducible rfl)
   (try simp only [Act.put, List.setIfInBounds_toArray, List.set_cons_zero, List.set_cons_succ])
   refine' takeW 1 ?_ ?_ ?_ (by kernel_rfl) (by kernel_rfl) (by kernel_rfl) (fun _ _ _ h => h) hHeld ?_
   rotate_left 2
   ·(simp only [List.getElem?_toArray, List.getElem?_cons_succ, List.getElem?_cons_zero]; try rfl)
   ·rfl
   ·(intro w hSw; (try dsimp only at hSw); go_simp; first | done | with_reducible rfl)
   (try simp only [Act.put, List.setIfInBounds_toArray, List.set_cons_zero, List.set_cons_succ])
   refine' takeW 2 ?_ ?_ ?_ (by kernel_rfl) (by kernel_rfl) (by kernel_rfl) (fun _ _ _ h => h) hHeld ?_
   rotate_left 2
   ·(simp only [List.getElem?_toArray, List.getElem?_cons_succ, List.getElem?_cons_zero]; try rfl)
   ·rfl
   ·(intro w hSw; (try dsimp only at hSw); go_simp; first | done | with_reducible rfl)
   (try simp only [Act.put, List.setIfInBounds_toArray, List.set_cons_zero, List.set_cons_succ])
   refine' takeW 3 ?_ ?_ ?_ (by kernel_rfl) (by kernel_rfl) (by kernel_rfl) (fun _ _ _ h => h) hHeld ?_
   rotate_left 2
   ·(simp only [List.getElem?_toArray, List.getElem?_cons_succ, List.getElem?_cons_zero]; try rfl)
   ·rfl
   ·(intro w hSw; (try dsimp only at hSw); go_simp; first | done | with_reducible rfl)
   (try simp only [Act.put, List.setIfInBounds_toArray, List.set_cons_zero, List.set_cons_succ])
   refine' takeW 4 ?_ ?_ ?_ (by kernel_rfl) (by kernel_rfl) (by kernel_rfl) (fun _ _ _ h => h) hHeld ?_
   rotate_left 2
   ·(simp only [List.getElem?_toArray, List.getElem?_cons_succ, List.getElem?_cons_zero]; try rfl)
   ·rfl
   ·(intro w hSw; (try dsimp only at hSw); go_simp; first | done | with_reducible rfl)
   (try simp only [Act.put, List.setIfInBounds_toArray, List.set_cons_zero, List.set_cons_succ])
   refine' takeW 5 ?_ ?_ ?_ (by kernel_rfl) (by kernel_rfl) (by kernel_rfl) (fun _ _ _ h => h) hHeld ?_
   rotate_left 2
   ·(simp only [List.getElem?_toArray, List.getElem?_cons_succ, List.getElem?_cons_zero]; try rfl)
   ·rfl
   ·(intro w hSw; (try dsimp only at hSw); go_simp; first | done | with_reducible rfl)
   (try simp only [Act.put, List.setIfInBounds_toArray, List.set_cons_zero, List.set_cons_succ])
   refine' takeW 6 ?_ ?_ ?_ (by kernel_rfl) (by kernel_rfl) (by kernel_rfl) (fun _ _ _ h => h) hHeld ?_
   rotate_left 2
   ·(simp only [List.getElem?_toArray, List.getElem?_cons_succ, List.getElem?_cons_zero]; try rfl)
   ·rfl
   ·(intro w hSw; (try dsimp only at hSw); go_simp; first | done | with_reducible rfl)
   (try simp only [Act.put, List.setIfInBounds_toArray, List.set_cons_zero, List.set_cons_succ])
   refine' takeW 7 ?_ ?_ ?_ (by kernel_rfl) (by kernel_rfl) (by kernel_rfl) (fun _ _ _ h => h) hHeld ?_
   rotate_left 2
   ·(simp only [List.getElem?_toArray, List.getElem?_cons_succ, List.getElem?_cons_zero]; try rfl)
   ·rfl
   ·(intro w hSw; (try dsimp only at hSw); go_simp; first | done | with_reducible rfl)
   (try simp only [Act.put, List.setIfInBounds_toArray, List.set_cons_zero, List.set_cons_succ])
   refine' takeW 8 ?_ ?_ ?_ (by kernel_rfl) (by kernel_rfl) (by kernel_rfl) (fun _ _ _ h => h) hHeld ?_
   rotate_left 2
   ·(simp only [List.getElem?_toArray, List.getElem?_cons_succ, List.getElem?_cons_zero]; try rfl)
   ·rfl
   ·(intro w hSw; (try dsimp only at hSw); go_simp; first | done | with_reducible rfl)
   (try simp only [Act.put, List.setIfInBounds_toArray, List.set_cons_zero, List.set_cons_succ])
   refine' takeW 9 ?_ ?_ ?_ (by kernel_rfl) (by kernel_rfl) (by kernel_rfl) (fun _ _ _ h => h) hHeld ?_
   rotate_left 2
   ·(simp only [List.getElem?_toArray, List.getElem?_cons_succ, List.getElem?_cons_zero]; try rfl)
   ·rfl
   ·(intro w hSw; (try dsimp only at hSw); go_simp; first | done | with_reducible rfl)
   (try simp only [Act.put, List.setIfInBounds_toArray, List.set_cons_zero, List.set_cons_succ])
   refine' takeW 10 ?_ ?_ ?_ (by kernel_rfl) (by kernel_rfl) (by kernel_rfl) (fun _ _ _ h => h) hHeld ?_
   rotate_left 2
   ·(simp only [List.getElem?_toArray, List.getElem?_cons_succ, List.getElem?_cons_zero]; try rfl)
   ·rfl
   ·(intro w hSw; (try dsimp only at hSw); go_simp; first | done | with_reducible rfl)
   (try simp only [Act.put, List.setIfInBounds_toArray, List.set_cons_zero, List.set_cons_succ])
   refine' takeW 11 ?_ ?_ ?_ (by kernel_rfl) (by kernel_rfl) (by kernel_rfl) (fun _ _ _ h => h) hHeld ?_
   rotate_left 2
   ·(simp only [List.getElem?_toArray, List.getElem?_cons_succ, List.getElem?_cons_zero]; try rfl)
   ·rfl
   ·(intro w hSw; (try dsimp only at hSw); go_simp; first | done | with_reducible rfl)
   (try simp only [Act.put, List.setIfInBounds_toArray, List.set_cons_zero, List.set_cons_succ])
   refine' takeW 12 ?_ ?_ ?_ (by kernel_rfl) (by kernel_rfl) (by kernel_rfl) (fun _ _ _ h => h) hHeld ?_
   rotate_left 2
   ·(simp only [List.getElem?_toArray, List.getElem?_cons_succ, List.getElem?_cons_zero]; try rfl)
   ·rfl
   ·(intro w hSw; (try dsimp only at hSw); go_simp; first | done | with_reducible rfl)
   (try simp only [Act.put, List.setIfInBounds_toArray, List.set_cons_zero, List.set_cons_succ])
   refine' takeW 13 ?_ ?_ ?_ (by kernel_rfl) (by kernel_rfl) (by kernel_rfl) (fun _ _ _ h => h) hHeld ?_
   rotate_left 2
   ·(simp only [List.getElem?_toArray, List.getElem?_cons_succ, List.getElem?_cons_zero]; try rfl)
   ·rfl
   ·(intro w hSw; (try dsimp only at hSw); go_simp; first | done | with_reducible rfl)
   (try simp only [Act.put, List.setIfInBounds_toArray, List.set_cons_zero, List.set_cons_succ])
   refine' takeW 14 ?_ ?_ ?_ (by kernel_rfl) (by kernel_rfl) (by kernel_rfl) (fun _ _ _ h => h) hHeld ?_
   rotate_left 2
   ·(simp only [List.getElem?_toArray, List.getElem?_cons_succ, List.getElem?_cons_zero]; try rfl)
   ·rfl
   ·(intro w hSw; (try dsimp only at hSw); go_simp; first | done | with_reducible rfl)
   (try simp only [Act.put, List.setIfInBounds_toArray, List.set_cons_zero, List.set_cons_succ])
   refine' takeW 15 ?_ ?_ ?_ (by kernel_rfl) (by kernel_rfl) (by kernel_rfl) (fun _ _ _ h => h) hHeld ?_
   rotate_left 2
   ·(simp only [List.getElem?_toArray, List.getElem?_cons_succ, List.getElem?_cons_zero]; try rfl)
   ·rfl
   ·(intro w hSw; (try dsimp only at hSw); go_simp; first | done | with_reducible rfl)
   (try simp only [Act.put, List.setIfInBounds_toArray, List.set_cons_zero, List.set_cons_succ])
   refine' takeW 16 ?_ ?_ ?_ (by kernel_rfl) (by kernel_rfl) (by kernel_rfl) (fun _ _ _ h => h) hHeld ?_
   rotate_left 2
   ·(simp only [List.getElem?_toArray, List.getElem?_cons_succ, List.getElem?_cons_zero]; try rfl)
   ·rfl
   ·(intro w hSw; (try dsimp only at hSw); go_simp; first | done | with_reducible rfl)
   (try simp only [Act.put, List.setIfInBounds_toArray, List.set_cons_zero, List.set_cons_succ])
   refine wpAnyH_ready (rs := [17]) (by kernel_rfl) (by simp) ?_
   refine' AllReadyH.cons ?_ (fun K hK => ?_) AllReadyH.nil
   rotate_left 1
   ·(simp only [List.getElem?_toArray, List.getElem?_cons_succ, List.getElem?_cons_zero]; try rfl)
   (try go_simp)
   have hN := one1 hC [Value.int .i64 x.id, Value.int .i64 x.obv, Value.int .i64 x.rev] 96
   replace hown := hown.alloc (.cells #[Value.int .i64 x.id, Value.int .i64 x.obv, Value.int .i64 x.rev] 96)
   replace hC := hC.alloc hC.size (.cells #[Value.int .i64 x.id, Value.int .i64 x.obv, Value.int .i64 x.rev] 96)
   refine hK.out _ _ (HB.out _ hC) (fun hHeld => ?_)
   clear hK K
   (try simp only [Act.put, List.setIfInBounds_toArray, List.set_cons_zero, List.set_cons_succ])
   refine wpAnyH_ready (rs := [18]) (by kernel_rfl) (by simp) ?_
   refine' AllReadyH.cons ?_ (fun K hK => ?_) AllReadyH.nil
   rotate_left 1
   ·(simp only [List.getElem?_toArray, List.getElem?_cons_succ, List.getElem?_cons_zero]; try rfl)
   refine step_append_sl rfl _ _ 50 rfl w1.heap.size 96 i0 (.agg #[.int .i64 0, .int .i64 0, .int .i64 0]) 3 24 encL_len encL_one Tryz.underlying50 hi hz0 hz1 hz2 rfl (by decide) (.slice Ak k ck) _ _ rfl hown _ rfl (WOne.sl (enc := encL) (x := lnkOf x) hN) (by unfold maxLen; omega) (by omega) hC.size ?_
   intro v7 w7 hO7 hg7
   replace hC := below_row hC hown hg7 (Nat.le_refl _) (Nat.le_refl _)
   clear hown hg7 hN
   refine hK.out _ _ (HB.out _ hC) (fun hHeld => ?_)
   clear hK K
   (try simp only [Act.put, List.setIfInBounds_toArray, List.set_cons_zero, List.set_cons_succ])
   refine' takeW 19 ?_ ?_ ?_ (by kernel_rfl) (by kernel_rfl) (by kernel_rfl) (fun _ _ _ h => h) hHeld ?_
   rotate_left 2
   ·(simp only [List.getElem?_toArray, List.getElem?_cons_succ, List.getElem?_cons_zero]; try rfl)
   ·rfl
   ·(intro w hSw; (try dsimp only at hSw); go_simp; first | done | with_reducible rfl)
   (try simp only [Act.put, List.setIfInBounds_toArray, List.set_cons_zero, List.set_cons_succ])
   refine wpAnyH_done (by kernel_rfl) ?_ _
   refine NoPanic.normal ?_
   go_wp2_with fail
   go_roundw
   case rel => exact ⟨k + 1, by omega, by go_num, by rw [HX.out, List.flatMap_append]; exact hO7, hC⟩
   case measure => simp [intOf]; omega
  ·obtain rfl : k = len := by omega
   have hbR := hb.trans (hbr.mono hb.size)
   rw [take_all HLX.out] at hown
   have HGO := Lib.hid (made_of HA.out)
   have hll : (xs.map lnkOf).length = k := by rw [List.length_map]; exact HLX.out
   generalize xs.map lnkOf = ls at *
   have HWI := Lib.hid (rmade_any Ak k ck ls wr (by omega) (Sl.of_own encL_len hown hll).any)
   have D' := D.up hbr
   clear hown
   go_wp2_with fail
   refine HWI.out.mono ?_; rintro e w2 ⟨⟨A1, n1, c1, A2, n2, c2, A3, n3, c3, rfl, hn1, hn2, hn3, hG⟩, hb2⟩
   replace hbR := below_keep' hbR hb2
   replace D' := D'.up hb2
   rw [HGO.out] at hG
   have HG := Lib.hid hG
   have HN1 : Hid ((grOf xs).obv.length = n1) := HG.out.obv.len
   have HN2 : Hid ((grOf xs).rev.length = n2) := HG.out.rev.len
   have d0 := D'.cell 0 _ rfl
   have d1 := D'.cell 1 _ rfl
   have d2 := D'.cell 2 _ rfl
   have e0 := D'.frz 0
   have e1 := D'.frz 1
   have e2 := D'.frz 2
   have dl := D'.lt
   clear hG hb2
   have hzz : w.heap.size < wr.heap.size := by have := D.lt; have := hbr.size; omega
   by_cases h1 : 32 < n1
   ·have HE : Hid (grE xs = 6) := grE_full HA.out (by rw [HN1.out, HN2.out]; omega)
    have HL : Hid (grR xs = grZero) := grR_bad (by rw [HE.out]; decide)
    go_wp2_with fail
    have R4 := (D'.all3 (.slice none 0 0) (.slice none 0 0) (.slice none 0 0)).alloc (.cells #[.slice A1 n1 c1, .slice A2 n2 c2, .slice A3 n3 c3] 52)
    refine bodyPost_ret (v := .tuple #[.agg #[.slice none 0 0, .slice none 0 0, .slice none 0 0], .int .i64 6]) (by simp [results, Tryz.results39, go_sem, R4.cell 0 _ rfl, R4.cell 1 _ rfl, R4.cell 2 _ rfl]) rfl ?_
    rw [HE.out, HL.out]
    exact ⟨⟨_, _, _, _, _, _, _, _, _, rfl, by omega, by omega, by omega, GrM.zero⟩, by (repeat (first | exact Below.refl _ _ | assumption | refine Below.alloc ?_ (by first | omega | (simp only [World.size_alloc]; omega) | (simp; done) | (simp; omega)) _ | refine Below.setCell ?_ (by first | omega | (simp only [World.size_alloc]; omega) | (simp; done) | (simp; omega)) _ | refine Below.drew ?_ | refine below_drewN ?_ _))⟩
   by_cases h2 : 32 < n2
   ·have HE : Hid (grE xs = 6) := grE_full HA.out (by rw [HN1.out, HN2.out]; omega)
    have HL : Hid (grR xs = grZero) := grR_bad (by rw [HE.out]; decide)
    go_wp2_with fail
    have R4 := (D'.all3 (.slice none 0 0) (.slice none 0 0) (.slice none 0 0)).alloc (.cells #[.slice A1 n1 c1, .slice A2 n2 c2, .slice A3 n3 c3] 52)
    refine bodyPost_ret (v := .tuple #[.agg #[.slice none 0 0, .slice none 0 0, .slice none 0 0], .int .i64 6]) (by simp [results, Tryz.results39, go_sem, R4.cell 0 _ rfl, R4.cell 1 _ rfl, R4.cell 2 _ rfl]) rfl ?_
    rw [HE.out, HL.out]
    exact ⟨⟨_, _, _, _, _, _, _, _, _, rfl, by omega, by omega, by omega, GrM.zero⟩, by (repeat (first | exact Below.refl _ _ | assumption | refine Below.alloc ?_ (by first | omega | (simp only [World.size_alloc]; omega) | (simp; done) | (simp; omega)) _ | refine Below.setCell ?_ (by first | omega | (simp only [World.size_alloc]; omega) | (simp; done) | (simp; omega)) _ | refine Below.drew ?_ | refine below_drewN ?_ _))⟩
   ·have HE : Hid (grE xs = 0) := grE_ok HA.out (by rw [HN1.out, HN2.out]; omega)
    have HL : Hid (grR xs = grOf xs) := grR_ok HE.out
    go_wp2_with fail
    have R4 := (D'.all3 (.slice A1 n1 c1) (.slice A2 n2 c2) (.slice A3 n3 c3)).alloc (.cells #[.slice A1 n1 c1, .slice A2 n2 c2, .slice A3 n3 c3] 52)
    refine bodyPost_ret (v := .tuple #[.agg #[.slice A1 n1 c1, .slice A2 n2 c2, .slice A3 n3 c3], .int .i64 0]) (by simp [results, Tryz.results39, go_sem, R4.cell 0 _ rfl, R4.cell 1 _ rfl, R4.cell 2 _ rfl]) rfl ?_
    rw [HE.out, HL.out]
    exact ⟨⟨_, _, _, _, _, _, _, _, _, rfl, by omega, by omega, by omega, (HG.out.far3 hzz _ _ _).up (one_alloc _ _)⟩, by (repeat (first | exact Below.refl _ _ | assumption | refine Below.alloc ?_ (by first | omega | (simp only [World.size_alloc]; omega) | (simp; done) | (simp; omega)) _ | refine Below.setCell ?_ (by first | omega | (simp only [World.size_alloc]; omega) | (simp; done) | (simp; omega)) _ | refine Below.drew ?_ | refine below_drewN ?_ _))⟩
end Go.Proofs.YtdokpmfejibdlaaGreatDoor
