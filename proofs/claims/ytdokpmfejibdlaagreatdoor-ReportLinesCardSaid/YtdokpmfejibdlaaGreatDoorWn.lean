/- Chapter 54: linkage.Degree, linkage.Partners, linkage.Dies. (Printed by hwt.py from Wn.txt.) -/
import Derived.Test.YtdokpmfejibdlaaGreatDoorWm
set_option linter.unusedSimpArgs false
set_option linter.unusedVariables false
namespace Go.Proofs.YtdokpmfejibdlaaGreatDoor
open Go.RowKit

theorem bx2c {w : World} {b : Nat} {u0 u1 : Value} (h : Bx w b [u0, u1]) : w.cell? ⟨b, 0, none⟩ = some u0 ∧ w.cell? ⟨b, 1, none⟩ = some u1 := ⟨h.cell 0 _ rfl, h.cell 1 _ rfl⟩
/-- Boxes kept through a call. -/
theorem keepXD {w0 W W' : World} {bx bd : Nat} {x0 x1 x2 u0 u1 : Value} (h : (W.cell? ⟨bx, 0, none⟩ = some x0 ∧ W.cell? ⟨bx, 1, none⟩ = some x1 ∧ W.cell? ⟨bx, 2, none⟩ = some x2) ∧ (W.cell? ⟨bd, 0, none⟩ = some u0 ∧ W.cell? ⟨bd, 1, none⟩ = some u1) ∧ Below w0.heap.size w0 W ∧ bx < W.heap.size ∧ bd < W.heap.size) (hb : Below W.heap.size W W') :
    (W'.cell? ⟨bx, 0, none⟩ = some x0 ∧ W'.cell? ⟨bx, 1, none⟩ = some x1 ∧ W'.cell? ⟨bx, 2, none⟩ = some x2) ∧ (W'.cell? ⟨bd, 0, none⟩ = some u0 ∧ W'.cell? ⟨bd, 1, none⟩ = some u1) ∧ Below w0.heap.size w0 W' ∧ bx < W'.heap.size ∧ bd < W'.heap.size := by
  obtain ⟨⟨h1, h2, h3⟩, ⟨h4, h5⟩, h6, h7, h8⟩ := h
  exact ⟨⟨(hb.cell (p := ⟨bx, 0, none⟩) h7).trans h1, (hb.cell (p := ⟨bx, 1, none⟩) h7).trans h2, (hb.cell (p := ⟨bx, 2, none⟩) h7).trans h3⟩, ⟨(hb.cell (p := ⟨bd, 0, none⟩) h8).trans h4, (hb.cell (p := ⟨bd, 1, none⟩) h8).trans h5⟩, below_keep' h6 hb, Nat.lt_of_lt_of_le h7 hb.size, Nat.lt_of_lt_of_le h8 hb.size⟩
set_option maxRecDepth 100000 in
set_option maxHeartbeats 2000000 in
theorem ldegree_any (A : Option Addr) (n c : Nat) (B : Option Addr) (m d : Nat) (C : Option Addr) (k l : Nat) (g : Gr) (side num : Int) (w : World) (hG : GrM w A n B m C k g) (hg : GrOk g) (hsd : side = 0 ∨ side = 1) :
    Calls Tryz.prog 48 #[.agg #[.slice A n c, .slice B m d, .slice C k l], .agg #[.int .i64 side, .int .i64 num]] w fun e w' => e = .returned (.int .i64 (degG g ⟨side, num⟩ : Nat)) ∧ Below w.heap.size w w' := by
  have hk : k ≤ 64 := by have := hG.links.len; have := hg.ll; omega
  have HV : Hid (∀ W, Below w.heap.size w W → Calls Tryz.prog 70 #[.agg #[.slice A n c, .slice B m d, .slice C k l]] W fun e w' => e = .returned (.bool true) ∧ Below W.heap.size W w') := fun W hW => lvalid_yes A n c B m d C k l g W (hG.up hW) hg
  have HUL : Hid (∀ W, Below w.heap.size w W → Sl W 0 W.heap.size 3 encL C k g.links) := fun W hW => hG.links.up hW (Nat.le_refl _) (Nat.le_refl _)
  have HLN := Lib.hid hG.links.len
  have hs1 : ((side != 0) = false) ∨ ((side != 0) = true ∧ (side != 1) = false) := by rcases hsd with rfl | rfl <;> decide
  clear hG hg hsd
  go_enter Tryz.func48, Tryz.ntmps48
  go_wp2_with fail
  refine (HV.out _ (by (repeat (first | exact Below.refl _ _ | assumption | refine Below.alloc ?_ (by first | omega | (simp only [World.size_alloc]; omega) | (simp; done) | (simp; omega)) _ | refine Below.setCell ?_ (by first | omega | (simp only [World.size_alloc]; omega) | (simp; done) | (simp; omega)) _ | refine Below.drew ?_ | refine below_drewN ?_ _)))).mono ?_; rintro e w1 ⟨rfl, hb1⟩
  obtain ⟨_, hb, D2, D3⟩ := step2 (vs := [.slice A n c, .slice B m d, .slice C k l]) (us := [.int .i64 side, .int .i64 num]) (Below.refl _ w) hb1
  clear hb1
  have p0 := D3.cell 0 _ rfl
  have p1 := D3.cell 1 _ rfl
  have q2 := D2.cell 2 _ rfl
  rcases hs1 with e1 | ⟨e1, e2⟩
  all_goals
    go_wp2_with fail
    go_loopw [5, 24] (fun v i wr => ∃ j : Nat, j ≤ k ∧ i = .int .i64 (j : Int) ∧ v = .int .i64 (((g.links.take j).countP (touchL ⟨side, num⟩) : Nat) : Int) ∧ Below w.heap.size w wr ∧ Bx wr (w.heap.size + 1) [.int .i64 side, .int .i64 num]) (fun _ i _ => k - (intOf i).toNat)
    case atStart => exact ⟨0, by omega, rfl, rfl, hb, D3⟩
    case round =>
      clear hb D3 p0 p1 q2 D2
      obtain ⟨j, hj, rfl, rfl, hbr, D3⟩ := hrel
      by_cases hlt : j < k
      · obtain ⟨b, off, x, rfl, hbb, hx, x0, x1, x2⟩ := (HUL.out _ hbr).ln hlt
        have HCP := Lib.hid (countP_snocW (p := touchL ⟨side, num⟩) hx)
        have hcl : (g.links.take j).countP (touchL ⟨side, num⟩) ≤ 64 := by have := List.countP_le_length (p := touchL ⟨side, num⟩) (l := g.links.take j); rw [List.length_take] at this; omega
        clear hx
        generalize (g.links.take j).countP (touchL ⟨side, num⟩) = q at *
        have X0 := Bx.new wr [.int .i64 x.id, .int .i64 x.obv, .int .i64 x.rev] 96
        have X : Bx (wr.alloc (.cells #[.int .i64 x.id, .int .i64 x.obv, .int .i64 x.rev] 96)) wr.heap.size [.int .i64 x.id, .int .i64 x.obv, .int .i64 x.rev] := X0
        have hb2 : Below wr.heap.size wr (wr.alloc (.cells #[.int .i64 x.id, .int .i64 x.obv, .int .i64 x.rev] 96)) := by (repeat (first | exact Below.refl _ _ | assumption | refine Below.alloc ?_ (by first | omega | (simp only [World.size_alloc]; omega) | (simp; done) | (simp; omega)) _ | refine Below.setCell ?_ (by first | omega | (simp only [World.size_alloc]; omega) | (simp; done) | (simp; omega)) _ | refine Below.drew ?_ | refine below_drewN ?_ _))
        replace hbr := below_keep' hbr hb2
        replace D3 := D3.up hb2
        clear X0 hb2
        have HEX : Hid (touchL ⟨side, num⟩ x = (endL x side == num)) := rfl
        have HEN : Hid (∀ W, Calls Tryz.prog 89 #[.agg #[.int .i64 x.id, .int .i64 x.obv, .int .i64 x.rev], .int .i64 side] W fun e w' => e = .returned (.int .i64 (endL x side)) ∧ Below W.heap.size W w') := fun W => end_any x side W
        generalize endL x side = ex at *
        go_wp2_with fail
        generalize wr.alloc (.cells #[.int .i64 x.id, .int .i64 x.obv, .int .i64 x.rev] 96) = W1 at *
        generalize wr.heap.size = bx at *
        clear x0 x1 x2
        refine wp_region_noPanic ?_
        refine wp_region_held_drew (S := fun U => (U.cell? ⟨bx, 0, none⟩ = some (.int .i64 x.id) ∧ U.cell? ⟨bx, 1, none⟩ = some (.int .i64 x.obv) ∧ U.cell? ⟨bx, 2, none⟩ = some (.int .i64 x.rev)) ∧ (U.cell? ⟨w.heap.size + 1, 0, none⟩ = some (.int .i64 side) ∧ U.cell? ⟨w.heap.size + 1, 1, none⟩ = some (.int .i64 num)) ∧ Below w.heap.size w U ∧ bx < U.heap.size ∧ w.heap.size + 1 < U.heap.size) (by kernel_rfl) ⟨bx3 (X.up (Below.drew (Below.refl _ _))), bx2c (D3.up (Below.drew (Below.refl _ _))), below_keep' hbr (Below.drew (Below.refl _ _)), X.lt, D3.lt⟩ (fun hHeld => ?_)
        refine' takeW 0 ?_ ?_ ?_ (by kernel_rfl) (by kernel_rfl) (by kernel_rfl) (fun _ _ _ h => h) hHeld ?_
        rotate_left 2
        · (simp only [List.getElem?_toArray, List.getElem?_cons_succ, List.getElem?_cons_zero]; try rfl)
        · rfl
        · (intro w hSw; (try dsimp only at hSw); go_simp; first | done | with_reducible rfl)
        (try simp only [Act.put, List.setIfInBounds_toArray, List.set_cons_zero, List.set_cons_succ])
        refine' takeW 1 ?_ ?_ ?_ (by kernel_rfl) (by kernel_rfl) (by kernel_rfl) (fun _ _ _ h => h) hHeld ?_
        rotate_left 2
        · (simp only [List.getElem?_toArray, List.getElem?_cons_succ, List.getElem?_cons_zero]; try rfl)
        · rfl
        · (intro w hSw; (try dsimp only at hSw); go_simp; first | done | with_reducible rfl)
        (try simp only [Act.put, List.setIfInBounds_toArray, List.set_cons_zero, List.set_cons_succ])
        refine' takeW 2 ?_ ?_ ?_ (by kernel_rfl) (by kernel_rfl) (by kernel_rfl) (fun _ _ _ h => h) hHeld ?_
        rotate_left 2
        · (simp only [List.getElem?_toArray, List.getElem?_cons_succ, List.getElem?_cons_zero]; try rfl)
        · rfl
        · (intro w hSw; (try dsimp only at hSw); go_simp; first | done | with_reducible rfl)
        (try simp only [Act.put, List.setIfInBounds_toArray, List.set_cons_zero, List.set_cons_succ])
        refine' takeW 4 ?_ ?_ ?_ (by kernel_rfl) (by kernel_rfl) (by kernel_rfl) (fun _ _ _ h => h) hHeld ?_
        rotate_left 2
        · (simp only [List.getElem?_toArray, List.getElem?_cons_succ, List.getElem?_cons_zero]; try rfl)
        · rfl
        · (intro w hSw; (try dsimp only at hSw); go_simp; first | done | with_reducible rfl)
        (try simp only [Act.put, List.setIfInBounds_toArray, List.set_cons_zero, List.set_cons_succ])
        refine' takeW 5 ?_ ?_ ?_ (by kernel_rfl) (by kernel_rfl) (by kernel_rfl) (fun _ _ _ h => h) hHeld ?_
        rotate_left 2
        · (simp only [List.getElem?_toArray, List.getElem?_cons_succ, List.getElem?_cons_zero]; try rfl)
        · rfl
        · (intro w hSw; (try dsimp only at hSw); go_simp; first | done | with_reducible rfl)
        (try simp only [Act.put, List.setIfInBounds_toArray, List.set_cons_zero, List.set_cons_succ])
        refine wpAnyH_ready (rs := [3]) (by kernel_rfl) (by simp) ?_
        refine' AllReadyH.cons ?_ (fun K hK => ?_) AllReadyH.nil
        rotate_left 1
        · (simp only [List.getElem?_toArray, List.getElem?_cons_succ, List.getElem?_cons_zero]; try rfl)
        (try go_simp)
        go_at_call 89
        refine (HEN.out _).mono ?_
        rintro e wz ⟨rfl, hbz⟩
        (try go_simp)
        refine hK.out _ _ ?_ (fun hHeld => ?_)
        · exact keepXD hHeld hbz
        clear hK K
        (try simp only [Act.put, List.setIfInBounds_toArray, List.set_cons_zero, List.set_cons_succ])
        refine' takeW 6 ?_ ?_ ?_ (by kernel_rfl) (by kernel_rfl) (by kernel_rfl) (fun _ _ _ h => h) hHeld ?_
        rotate_left 2
        · (simp only [List.getElem?_toArray, List.getElem?_cons_succ, List.getElem?_cons_zero]; try rfl)
        · rfl
        · (intro w hSw; (try dsimp only at hSw); go_simp; first | done | with_reducible rfl)
        (try simp only [Act.put, List.setIfInBounds_toArray, List.set_cons_zero, List.set_cons_succ])
        refine wpAnyH_done (by kernel_rfl) ?_ _
        refine NoPanic.normal ?_
        have hbw := hHeld.2.2.1
        replace D3 := (D3.up (Below.drew (Below.refl _ _))).up hbz
        clear hHeld
        by_cases he : ex = num
        · have hee : (ex == num) = true := by simpa using he
          rw [HEX.out, hee] at HCP
          clear he
          go_wp2_with fail
          exact ⟨⟨j + 1, by omega, by go_num, by rw [HCP.out]; go_num, hbw, D3⟩, by simp [intOf]; omega⟩
        · have hee : (ex == num) = false := by simpa using he
          rw [HEX.out, hee] at HCP
          clear he
          go_wp2_with fail
          exact ⟨⟨j + 1, by omega, by go_num, by rw [HCP.out]; rfl, hbw, D3⟩, by simp [intOf]; omega⟩
      · obtain rfl : j = k := by omega
        have HT : Hid (degG g ⟨side, num⟩ = (g.links.take j).countP (touchL ⟨side, num⟩)) := by show _ = _; rw [take_all HLN.out]; rfl
        go_wp2_with fail
        go_ret
        exact ⟨by rw [HT.out]; rfl, hbr⟩
theorem filterSnocW {α : Type} {p : α → Bool} {xs : List α} {k : Nat} {x : α} (h : xs[k]? = some x) : (xs.take (k + 1)).filter p = (xs.take k).filter p ++ (if p x = true then [x] else []) := by
  rw [takeSnocW h, List.filter_append, List.filter_cons, List.filter_nil]
def NumsW (w : World) (out : List Int) (code : Int) (e : Ending) (w' : World) : Prop :=
  (∃ A n c, e = .returned (.tuple #[.slice A n c, .int .i64 code]) ∧ n ≤ 1000000 ∧ Sl w' 0 w'.heap.size 1 encI A n out) ∧ Below w.heap.size w w'
def partE (g : Gr) (d : DieP) : Int := if degG g d = 0 then 7 else 0
def partL (g : Gr) (d : DieP) : List Int := if degG g d = 0 then [] else partnersG g d
set_option maxRecDepth 100000 in
set_option maxHeartbeats 2000000 in
theorem lpartners_any (A : Option Addr) (n c : Nat) (B : Option Addr) (m d : Nat) (C : Option Addr) (k l : Nat) (g : Gr) (side num : Int) (w : World) (hG : GrM w A n B m C k g) (hg : GrOk g) (hsd : side = 0 ∨ side = 1) :
    Calls Tryz.prog 50 #[.agg #[.slice A n c, .slice B m d, .slice C k l], .agg #[.int .i64 side, .int .i64 num]] w (NumsW w (partL g ⟨side, num⟩) (partE g ⟨side, num⟩)) := by
  have hk : k ≤ 64 := by have := hG.links.len; have := hg.ll; omega
  have HV : Hid (∀ W, Below w.heap.size w W → Calls Tryz.prog 70 #[.agg #[.slice A n c, .slice B m d, .slice C k l]] W fun e w' => e = .returned (.bool true) ∧ Below W.heap.size W w') := fun W hW => lvalid_yes A n c B m d C k l g W (hG.up hW) hg
  have HD : Hid (∀ W, Below w.heap.size w W → Calls Tryz.prog 48 #[.agg #[.slice A n c, .slice B m d, .slice C k l], .agg #[.int .i64 side, .int .i64 num]] W fun e w' => e = .returned (.int .i64 (degG g ⟨side, num⟩ : Nat)) ∧ Below W.heap.size W w') := fun W hW => ldegree_any A n c B m d C k l g side num W (hG.up hW) hg hsd
  have HUL : Hid (∀ W, Below w.heap.size w W → Sl W 0 W.heap.size 3 encL C k g.links) := fun W hW => hG.links.up hW (Nat.le_refl _) (Nat.le_refl _)
  have HLN := Lib.hid hG.links.len
  have hq : IntKind.i64.wrap (1 - side) = 1 - side := by rcases hsd with rfl | rfl <;> rfl
  clear hG hg hsd
  obtain ⟨i0, hi, hz0, hz1, hz2⟩ := info_parts Tryz.infoI
  go_enter Tryz.func50, Tryz.ntmps50
  go_wp2_with fail
  refine (HV.out _ (by (repeat (first | exact Below.refl _ _ | assumption | refine Below.alloc ?_ (by first | omega | (simp only [World.size_alloc]; omega) | (simp; done) | (simp; omega)) _ | refine Below.setCell ?_ (by first | omega | (simp only [World.size_alloc]; omega) | (simp; done) | (simp; omega)) _ | refine Below.drew ?_ | refine below_drewN ?_ _)))).mono ?_; rintro e w1 ⟨rfl, hb1⟩
  obtain ⟨_, hb, D2, D3⟩ := step2 (vs := [.slice A n c, .slice B m d, .slice C k l]) (us := [.int .i64 side, .int .i64 num]) (Below.refl _ w) hb1
  clear hb1
  have p0 := D3.cell 0 _ rfl
  have p1 := D3.cell 1 _ rfl
  have q0 := D2.cell 0 _ rfl
  have q1 := D2.cell 1 _ rfl
  have q2 := D2.cell 2 _ rfl
  go_wp2_with fail
  refine (HD.out _ hb).mono ?_; rintro e w2 ⟨rfl, hb2⟩
  replace hb := below_keep' hb hb2
  replace D2 := D2.up hb2
  replace D3 := D3.up hb2
  clear p0 p1 q0 q1 q2 hb2
  have q2 := D2.cell 2 _ rfl
  by_cases hdg : degG g ⟨side, num⟩ = 0
  · have HE : Hid (partE g ⟨side, num⟩ = 7) := by show _ = _; unfold partE; rw [if_pos hdg]
    have HP : Hid (partL g ⟨side, num⟩ = []) := by show _ = _; unfold partL; rw [if_pos hdg]
    rw [hdg]
    clear hdg
    go_wp2_with fail
    go_ret2
    exact ⟨⟨none, 0, 0, by rw [HE.out]; rfl, by omega, by rw [HP.out]; exact Sl.nil⟩, hb⟩
  have HE : Hid (partE g ⟨side, num⟩ = 0) := by show _ = _; unfold partE; rw [if_neg hdg]
  have HP : Hid (partL g ⟨side, num⟩ = uniqI ((g.links.filter (touchL ⟨side, num⟩)).map (fun x => endL x (1 - side)))) := by show _ = _; unfold partL; rw [if_neg hdg]; rfl
  have hd0 : (((degG g ⟨side, num⟩ : Nat) : Int) == 0) = false := by simpa using hdg
  clear hdg
  generalize ((degG g ⟨side, num⟩ : Nat) : Int) = dg at *
  go_wp2_with fail
  clear q2 D2 hd0
  go_loopw [6, 19] (fun v i wr => ∃ j : Nat, j ≤ k ∧ i = .int .i64 (j : Int) ∧ wr.ownsRow (w.heap.size + 2) 3 1 v (((g.links.take j).filter (touchL ⟨side, num⟩)).map (fun x => endL x (1 - side))).length ((((g.links.take j).filter (touchL ⟨side, num⟩)).map (fun x => endL x (1 - side))).flatMap encI) ∧ Below w.heap.size w wr ∧ Bx wr (w.heap.size + 1) [.int .i64 side, .int .i64 num]) (fun _ i _ => k - (intOf i).toNat)
  case atStart => exact ⟨0, by omega, rfl, World.ownsRow_nil _ _ _ _, hb, D3⟩
  case round =>
    clear hb D3
    obtain ⟨j, hj, rfl, hown, hbr, D3⟩ := hrel
    have hpl : (((g.links.take j).filter (touchL ⟨side, num⟩)).map (fun x => endL x (1 - side))).length ≤ 64 := by
      rw [List.length_map]
      exact Nat.le_trans (List.length_filter_le _ _) (by rw [List.length_take]; omega)
    by_cases hlt : j < k
    · obtain ⟨b, off, x, rfl, hbb, hx, x0, x1, x2⟩ := (HUL.out _ hbr).ln hlt
      have HCP : Hid (((g.links.take (j + 1)).filter (touchL ⟨side, num⟩)).map (fun x => endL x (1 - side)) = ((g.links.take j).filter (touchL ⟨side, num⟩)).map (fun x => endL x (1 - side)) ++ (if touchL ⟨side, num⟩ x = true then [endL x (1 - side)] else [])) := by
        show _ = _
        rw [filterSnocW hx, List.map_append]
        split <;> rfl
      clear hx
      generalize ((g.links.take j).filter (touchL ⟨side, num⟩)).map (fun x => endL x (1 - side)) = ps at *
      have X0 := Bx.new wr [.int .i64 x.id, .int .i64 x.obv, .int .i64 x.rev] 96
      have X : Bx (wr.alloc (.cells #[.int .i64 x.id, .int .i64 x.obv, .int .i64 x.rev] 96)) wr.heap.size [.int .i64 x.id, .int .i64 x.obv, .int .i64 x.rev] := X0
      have hb2 : Below wr.heap.size wr (wr.alloc (.cells #[.int .i64 x.id, .int .i64 x.obv, .int .i64 x.rev] 96)) := by (repeat (first | exact Below.refl _ _ | assumption | refine Below.alloc ?_ (by first | omega | (simp only [World.size_alloc]; omega) | (simp; done) | (simp; omega)) _ | refine Below.setCell ?_ (by first | omega | (simp only [World.size_alloc]; omega) | (simp; done) | (simp; omega)) _ | refine Below.drew ?_ | refine below_drewN ?_ _))
      have own2 := own_below' hown hb2
      replace hbr := below_keep' hbr hb2
      replace D3 := D3.up hb2
      clear X0 hb2 hown
      have HEX : Hid (touchL ⟨side, num⟩ x = (endL x side == num)) := rfl
      have HEN : Hid (∀ W, Calls Tryz.prog 89 #[.agg #[.int .i64 x.id, .int .i64 x.obv, .int .i64 x.rev], .int .i64 side] W fun e w' => e = .returned (.int .i64 (endL x side)) ∧ Below W.heap.size W w') := fun W => end_any x side W
      have HEP : Hid (∀ W, Calls Tryz.prog 89 #[.agg #[.int .i64 x.id, .int .i64 x.obv, .int .i64 x.rev], .int .i64 (1 - side)] W fun e w' => e = .returned (.int .i64 (endL x (1 - side))) ∧ Below W.heap.size W w') := fun W => end_any x (1 - side) W
      generalize endL x side = ex at *
      generalize endL x (1 - side) = ey at *
      go_wp2_with fail
      generalize wr.alloc (.cells #[.int .i64 x.id, .int .i64 x.obv, .int .i64 x.rev] 96) = W1 at *
      generalize wr.heap.size = bx at *
      clear x0 x1 x2
      refine wp_region_noPanic ?_
      refine wp_region_held_drew (S := fun U => (U.cell? ⟨bx, 0, none⟩ = some (.int .i64 x.id) ∧ U.cell? ⟨bx, 1, none⟩ = some (.int .i64 x.obv) ∧ U.cell? ⟨bx, 2, none⟩ = some (.int .i64 x.rev)) ∧ (U.cell? ⟨w.heap.size + 1, 0, none⟩ = some (.int .i64 side) ∧ U.cell? ⟨w.heap.size + 1, 1, none⟩ = some (.int .i64 num)) ∧ Below w.heap.size w U ∧ bx < U.heap.size ∧ w.heap.size + 1 < U.heap.size) (by kernel_rfl) ⟨bx3 (X.up (Below.drew (Below.refl _ _))), bx2c (D3.up (Below.drew (Below.refl _ _))), below_keep' hbr (Below.drew (Below.refl _ _)), X.lt, D3.lt⟩ (fun hHeld => ?_)
      refine' takeW 0 ?_ ?_ ?_ (by kernel_rfl) (by kernel_rfl) (by kernel_rfl) (fun _ _ _ h => h) hHeld ?_
      rotate_left 2
      · (simp only [List.getElem?_toArray, List.getElem?_cons_succ, List.getElem?_cons_zero]; try rfl)
      · rfl
      · (intro w hSw; (try dsimp only at hSw); go_simp; first | done | with_reducible rfl)
      (try simp only [Act.put, List.setIfInBounds_toArray, List.set_cons_zero, List.set_cons_succ])
      refine' takeW 1 ?_ ?_ ?_ (by kernel_rfl) (by kernel_rfl) (by kernel_rfl) (fun _ _ _ h => h) hHeld ?_
      rotate_left 2
      · (simp only [List.getElem?_toArray, List.getElem?_cons_succ, List.getElem?_cons_zero]; try rfl)
      · rfl
      · (intro w hSw; (try dsimp only at hSw); go_simp; first | done | with_reducible rfl)
      (try simp only [Act.put, List.setIfInBounds_toArray, List.set_cons_zero, List.set_cons_succ])
      refine' takeW 2 ?_ ?_ ?_ (by kernel_rfl) (by kernel_rfl) (by kernel_rfl) (fun _ _ _ h => h) hHeld ?_
      rotate_left 2
      · (simp only [List.getElem?_toArray, List.getElem?_cons_succ, List.getElem?_cons_zero]; try rfl)
      · rfl
      · (intro w hSw; (try dsimp only at hSw); go_simp; first | done | with_reducible rfl)
      (try simp only [Act.put, List.setIfInBounds_toArray, List.set_cons_zero, List.set_cons_succ])
      refine' takeW 4 ?_ ?_ ?_ (by kernel_rfl) (by kernel_rfl) (by kernel_rfl) (fun _ _ _ h => h) hHeld ?_
      rotate_left 2
      · (simp only [List.getElem?_toArray, List.getElem?_cons_succ, List.getElem?_cons_zero]; try rfl)
      · rfl
      · (intro w hSw; (try dsimp only at hSw); go_simp; first | done | with_reducible rfl)
      (try simp only [Act.put, List.setIfInBounds_toArray, List.set_cons_zero, List.set_cons_succ])
      refine' takeW 5 ?_ ?_ ?_ (by kernel_rfl) (by kernel_rfl) (by kernel_rfl) (fun _ _ _ h => h) hHeld ?_
      rotate_left 2
      · (simp only [List.getElem?_toArray, List.getElem?_cons_succ, List.getElem?_cons_zero]; try rfl)
      · rfl
      · (intro w hSw; (try dsimp only at hSw); go_simp; first | done | with_reducible rfl)
      (try simp only [Act.put, List.setIfInBounds_toArray, List.set_cons_zero, List.set_cons_succ])
      refine wpAnyH_ready (rs := [3]) (by kernel_rfl) (by simp) ?_
      refine' AllReadyH.cons ?_ (fun K hK => ?_) AllReadyH.nil
      rotate_left 1
      · (simp only [List.getElem?_toArray, List.getElem?_cons_succ, List.getElem?_cons_zero]; try rfl)
      (try go_simp)
      go_at_call 89
      refine (HEN.out _).mono ?_
      rintro e wz ⟨rfl, hbz⟩
      (try go_simp)
      refine hK.out _ _ ?_ (fun hHeld => ?_)
      · exact keepXD hHeld hbz
      clear hK K
      (try simp only [Act.put, List.setIfInBounds_toArray, List.set_cons_zero, List.set_cons_succ])
      refine' takeW 6 ?_ ?_ ?_ (by kernel_rfl) (by kernel_rfl) (by kernel_rfl) (fun _ _ _ h => h) hHeld ?_
      rotate_left 2
      · (simp only [List.getElem?_toArray, List.getElem?_cons_succ, List.getElem?_cons_zero]; try rfl)
      · rfl
      · (intro w hSw; (try dsimp only at hSw); go_simp; first | done | with_reducible rfl)
      (try simp only [Act.put, List.setIfInBounds_toArray, List.set_cons_zero, List.set_cons_succ])
      refine wpAnyH_done (by kernel_rfl) ?_ _
      refine NoPanic.normal ?_
      replace D3 := (D3.up (Below.drew (Below.refl _ _))).up hbz
      replace X := (X.up (Below.drew (Below.refl _ _))).up hbz
      replace own2 := own_below' (own_below' own2 (Below.drew (Below.refl _ _))) hbz
      replace hbr := below_keep' (below_keep' hbr (Below.drew (Below.refl _ _))) hbz
      clear hHeld hbz
      by_cases he : ex = num
      · have hee : (ex == num) = true := by simpa using he
        have HQ : Hid (((g.links.take (j + 1)).filter (touchL ⟨side, num⟩)).map (fun x => endL x (1 - side)) = ps ++ [ey]) := by show _ = _; rw [HCP.out, HEX.out, hee]; rfl
        have x0 := X.cell 0 _ rfl
        have x1 := X.cell 1 _ rfl
        have x2 := X.cell 2 _ rfl
        have p0 := D3.cell 0 _ rfl
        clear he
        go_wp2_with fail
        refine (HEP.out _).mono ?_; rintro e w4 ⟨rfl, hb4⟩
        replace D3 := D3.up hb4
        replace own2 := own_below' own2 hb4
        replace hbr := below_keep' hbr hb4
        clear hb4 x0 x1 x2 p0 X
        have hd3 := D3.lt
        go_wp2_with (at_builtin; refine wpList_append_own _ rfl _ _ 36 rfl (w.heap.size + 2) 3 i0 (.int .i64 0) 1 8 Tryz.underlying36 hi hz0 hz1 hz2 rfl (by decide) _ _ _ rfl (own2.alloc _) ⟨w4.heap.size, 0, none⟩ 1 1 [.int .i64 ey] rfl rfl ?c1 ?c2 ?c3 ?c4 ?c5 ?_)
        case c1 => exact cell_list_at (by simp) _ _
        case c2 => exact encI_one ey
        case c3 => unfold maxLen; omega
        case c4 => omega
        case c5 => simp; omega
        · intro v' w5 hown' hgrow _
          have hb6 : Below w.heap.size w w5 := Below.grown (hbr.alloc hbr.size _) hgrow (by simp; omega) (fun g hg => by have := (own2.lt g hg).1; omega)
          have D6 := (D3.alloc (.cells #[.int .i64 ey] 3)).grown hgrow (fun e => by have := (own2.lt _ e).1; omega)
          clear hgrow own2 hbr D3
          go_wp2_with fail
          exact ⟨⟨j + 1, by omega, by go_num, by rw [HQ.out, List.length_append, List.flatMap_append]; exact hown', hb6, D6⟩, by simp [intOf]; omega⟩
      · have hee : (ex == num) = false := by simpa using he
        have HQ : Hid (((g.links.take (j + 1)).filter (touchL ⟨side, num⟩)).map (fun x => endL x (1 - side)) = ps) := by show _ = _; rw [HCP.out, HEX.out, hee]; exact List.append_nil _
        clear he
        go_wp2_with fail
        exact ⟨⟨j + 1, by omega, by go_num, by rw [HQ.out]; exact own2, hbr, D3⟩, by simp [intOf]; omega⟩
    · obtain rfl : j = k := by omega
      rw [take_all HLN.out] at hown hpl
      generalize (g.links.filter (touchL ⟨side, num⟩)).map (fun x => endL x (1 - side)) = ps at *
      clear D3
      go_wp2_with fail
      refine (psort_any (w.heap.size + 2) _ ps wr (by omega) hown).mono ?_; rintro e w3 ⟨rfl, hgr, hown3⟩
      have hb3 : Below w.heap.size w w3 := Below.grown hbr hgr hbr.size (fun g hg => by have := (hown.lt g hg).1; omega)
      have HS3 : Hid (compI (sortI ps) = uniqI ps) := uniq_sort ps
      have HS4 := Lib.hid (sortI_len ps)
      generalize sortI ps = ss at *
      rw [← HS4.out] at hown3 hpl
      obtain ⟨A0, c0, rfl, _⟩ := own_form hown3
      have HPC := Lib.hid (pcomp_any (w.heap.size + 2) A0 c0 ss w3 (by omega) hown3)
      have HLT : Hid (∀ g, (Value.slice A0 ss.length c0).ownBlock = some g → w.heap.size + 2 ≤ g) := fun g hg => (hown3.lt g hg).1
      clear hown hown3 hgr
      go_wp2_with fail
      refine HPC.out.mono ?_; rintro e w4 ⟨m4, rfl, hm4, hS4, hgr4⟩
      have hb4 : Below w.heap.size w w4 := Below.grown hb3 hgr4 hb3.size (fun g hg => by have := HLT.out g hg; omega)
      clear hgr4
      go_wp2_with fail
      go_ret2
      exact ⟨⟨A0, m4, c0, by rw [HE.out]; rfl, by omega, by rw [HP.out, ← HS3.out]; exact hS4.any⟩, hb4⟩
theorem Tryz.infoDi : (Tryz.prog.info? 72).map (fun i => (i.zero, i.size, i.bytes)) = some (some (.agg #[.int .i64 0, .int .i64 0]), 2, 16) := by kernel_rfl
/-- Dies handed back with a code. -/
def DiesW (w : World) (out : List DieP) (code : Int) (e : Ending) (w' : World) : Prop :=
  (∃ A n c, e = .returned (.tuple #[.slice A n c, .int .i64 code]) ∧ n ≤ 1000000 ∧ n ≤ c ∧ Sl w' 0 w'.heap.size 2 encD A n out) ∧ Below w.heap.size w w'
set_option maxRecDepth 100000 in
set_option maxHeartbeats 2000000 in
theorem ldies_any (A : Option Addr) (n c : Nat) (B : Option Addr) (m d : Nat) (C : Option Addr) (k l : Nat) (g : Gr) (w : World) (hG : GrM w A n B m C k g) (hg : GrOk g) :
    Calls Tryz.prog 77 #[.agg #[.slice A n c, .slice B m d, .slice C k l]] w (DiesW w (diesG g) 0) := by
  have hn : n ≤ 32 := by have := hG.obv.len; have := hg.lo; omega
  have hm : m ≤ 32 := by have := hG.rev.len; have := hg.lr; omega
  have HV : Hid (∀ W, Below w.heap.size w W → Calls Tryz.prog 70 #[.agg #[.slice A n c, .slice B m d, .slice C k l]] W fun e w' => e = .returned (.bool true) ∧ Below W.heap.size W w') := fun W hW => lvalid_yes A n c B m d C k l g W (hG.up hW) hg
  have HO : Hid (∀ W, Below w.heap.size w W → Sl W 0 W.heap.size 1 encI A n g.obv) := fun W hW => hG.obv.up hW (Nat.le_refl _) (Nat.le_refl _)
  have HR : Hid (∀ W, Below w.heap.size w W → Sl W 0 W.heap.size 1 encI B m g.rev) := fun W hW => hG.rev.up hW (Nat.le_refl _) (Nat.le_refl _)
  have HLO := Lib.hid hG.obv.len
  have HLR := Lib.hid hG.rev.len
  clear hG hg
  obtain ⟨i0, hi, hz0, hz1, hz2⟩ := info_parts Tryz.infoDi
  go_enter Tryz.func77, Tryz.ntmps77
  go_wp2_with fail
  refine (HV.out _ (by (repeat (first | exact Below.refl _ _ | assumption | refine Below.alloc ?_ (by first | omega | (simp only [World.size_alloc]; omega) | (simp; done) | (simp; omega)) _ | refine Below.setCell ?_ (by first | omega | (simp only [World.size_alloc]; omega) | (simp; done) | (simp; omega)) _ | refine Below.drew ?_ | refine below_drewN ?_ _)))).mono ?_; rintro e w1 ⟨rfl, hb1⟩
  obtain ⟨_, hb, D2⟩ := step1 (vs := [.slice A n c, .slice B m d, .slice C k l]) (Below.refl _ w) hb1
  clear hb1
  have q0 := D2.cell 0 _ rfl
  go_wp2_with fail
  clear q0
  go_loopw [4, 15] (fun v i wr => ∃ j : Nat, j ≤ n ∧ i = .int .i64 (j : Int) ∧ wr.ownsRow (w.heap.size + 1) 72 2 v j (((g.obv.take j).map (fun x => (⟨0, x⟩ : DieP))).flatMap encD) ∧ Below w.heap.size w wr ∧ Bx wr w.heap.size [.slice A n c, .slice B m d, .slice C k l]) (fun _ i _ => n - (intOf i).toNat)
  case atStart => exact ⟨0, by omega, rfl, World.ownsRow_nil _ _ _ _, hb, D2⟩
  case round =>
    clear hb D2
    obtain ⟨j, hj, rfl, hown, hbr, D2⟩ := hrel
    have hd2 := D2.lt
    by_cases hlt : j < n
    · obtain ⟨b, off, x, rfl, hbb, hx, x0⟩ := (HO.out _ hbr).in_ hlt
      have HCP : Hid ((g.obv.take (j + 1)).map (fun x => (⟨0, x⟩ : DieP)) = (g.obv.take j).map (fun x => (⟨0, x⟩ : DieP)) ++ [⟨0, x⟩]) := by show _ = _; rw [takeSnocW hx, List.map_append]; rfl
      clear hx
      generalize (g.obv.take j).map (fun x => (⟨0, x⟩ : DieP)) = ps at *
      go_wp2_with (at_builtin; refine wpList_append_own _ rfl _ _ 70 rfl (w.heap.size + 1) 72 i0 (.agg #[.int .i64 0, .int .i64 0]) 2 16 Tryz.underlying70 hi hz0 hz1 hz2 rfl (by decide) _ _ _ rfl (hown.alloc _) ⟨wr.heap.size, 0, none⟩ 1 1 [.int .i64 0, .int .i64 x] rfl rfl ?c1 ?c2 ?c3 ?c4 ?c5 ?_)
      case c1 => exact cell_list_at (by simp) _ _
      case c2 => exact encD_one ⟨0, x⟩
      case c3 => unfold maxLen; omega
      case c4 => omega
      case c5 => simp; omega
      · intro v' w5 hown' hgrow _
        have hb6 : Below w.heap.size w w5 := Below.grown (hbr.alloc hbr.size _) hgrow (by simp; omega) (fun g hg => by have := (hown.lt g hg).1; omega)
        have D6 := (D2.alloc (.cells #[.int .i64 0, .int .i64 x] 72)).grown hgrow (fun e => by have := (hown.lt _ e).1; omega)
        clear hgrow hown hbr D2
        go_wp2_with fail
        exact ⟨⟨j + 1, by omega, by go_num, by rw [HCP.out, List.flatMap_append]; exact hown', hb6, D6⟩, by simp [intOf]; omega⟩
    · obtain rfl : j = n := by omega
      rw [take_all HLO.out] at hown
      have q1 := D2.cell 1 _ rfl
      go_wp2_with fail
      clear q1
      have hjj : (g.obv.map (fun x => (⟨0, x⟩ : DieP))).length = j := by rw [List.length_map]; exact HLO.out
      have HJJ := Lib.hid hjj
      clear hjj
      have HDG : Hid (diesG g = g.obv.map (fun x => (⟨0, x⟩ : DieP)) ++ g.rev.map (fun x => (⟨1, x⟩ : DieP))) := rfl
      generalize g.obv.map (fun x => (⟨0, x⟩ : DieP)) = os at *
      go_loopw [4, 28] (fun v i wq => ∃ q : Nat, q ≤ m ∧ i = .int .i64 (q : Int) ∧ wq.ownsRow (w.heap.size + 1) 72 2 v (j + q) ((os ++ (g.rev.take q).map (fun x => (⟨1, x⟩ : DieP))).flatMap encD) ∧ Below w.heap.size w wq ∧ w.heap.size < wq.heap.size) (fun _ i _ => m - (intOf i).toNat)
      case atStart => exact ⟨0, by omega, rfl, by simpa using hown, hbr, hd2⟩
      case round =>
        clear hown hbr D2 hd2
        obtain ⟨q, hq, rfl, hown, hbq, hd2⟩ := hrel
        rename World => wq
        by_cases hlt : q < m
        · obtain ⟨b, off, x, rfl, hbb, hx, x0⟩ := (HR.out _ hbq).in_ hlt
          have HCP : Hid (os ++ (g.rev.take (q + 1)).map (fun x => (⟨1, x⟩ : DieP)) = (os ++ (g.rev.take q).map (fun x => (⟨1, x⟩ : DieP))) ++ [⟨1, x⟩]) := by show _ = _; rw [takeSnocW hx, List.map_append, List.append_assoc]; rfl
          clear hx
          generalize os ++ (g.rev.take q).map (fun x => (⟨1, x⟩ : DieP)) = ps at *
          go_wp2_with (at_builtin; refine wpList_append_own _ rfl _ _ 70 rfl (w.heap.size + 1) 72 i0 (.agg #[.int .i64 0, .int .i64 0]) 2 16 Tryz.underlying70 hi hz0 hz1 hz2 rfl (by decide) _ _ _ rfl (hown.alloc _) ⟨wq.heap.size, 0, none⟩ 1 1 [.int .i64 1, .int .i64 x] rfl rfl ?c1 ?c2 ?c3 ?c4 ?c5 ?_)
          case c1 => exact cell_list_at (by simp) _ _
          case c2 => exact encD_one ⟨1, x⟩
          case c3 => unfold maxLen; omega
          case c4 => omega
          case c5 => simp; omega
          · intro v' w5 hown' hgrow _
            have hb6 : Below w.heap.size w w5 := Below.grown (hbq.alloc hbq.size _) hgrow (by simp; omega) (fun g hg => by have := (hown.lt g hg).1; omega)
            have hz6 := hgrow.size
            rw [World.size_alloc] at hz6
            clear hgrow hown hbq
            go_wp2_with fail
            exact ⟨⟨q + 1, by omega, by go_num, by rw [HCP.out, List.flatMap_append, ← Nat.add_assoc]; exact hown', hb6, by omega⟩, by simp [intOf]; omega⟩
        · obtain rfl : q = m := by omega
          rw [take_all HLR.out, ← HDG.out] at hown
          obtain ⟨A0, c0, rfl, hc0⟩ := own_form hown
          have HSL := Lib.hid (Sl.of_own encD_len hown (by rw [HDG.out, List.length_append, HJJ.out, List.length_map, HLR.out])).any
          clear hown
          go_wp2_with fail
          go_ret2
          exact ⟨⟨A0, j + q, c0, by go_num, by omega, hc0, HSL.out⟩, hbq⟩
end Go.Proofs.YtdokpmfejibdlaaGreatDoor
