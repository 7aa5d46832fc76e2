/- Chapter 54: the reference's dies, degree, partners. -/
import Derived.Test.YtdokpmfejibdlaaGreatDoorXo
set_option linter.unusedSimpArgs false
set_option linter.unusedVariables false
namespace Go.Proofs.YtdokpmfejibdlaaGreatDoor
open Go.RowKit

theorem rvalid13_yes (A : Option Addr) (n c : Nat) (B : Option Addr) (m d : Nat) (C : Option Addr) (k l : Nat) (g : Gr) (w : World) (hG : GrM w A n B m C k g) (hg : GrOk g) :
    Calls Tryz.prog 88 #[.agg #[.slice A n c, .slice B m d, .slice C k l]] w fun e w' => e = .returned (.bool true) ∧ Below w.heap.size w w' := by
  have HV : Hid (∀ W, Below w.heap.size w W → Calls Tryz.prog 132 #[.agg #[.slice A n c, .slice B m d, .slice C k l]] W fun e w' => e = .returned (.bool true) ∧ Below W.heap.size W w') := fun W hW => bgraph_yes A n c B m d C k l g W (hG.up hW) hg
  clear hG hg
  go_enter Tryz.func88, Tryz.ntmps88
  go_wp2_with fail
  refine (HV.out _ (by (repeat (first | exact Below.refl _ _ | assumption | refine Below.alloc ?_ (by first | omega | (simp only [World.size_alloc]; omega) | (simp; done) | (simp; omega)) _ | refine Below.setCell ?_ (by first | omega | (simp only [World.size_alloc]; omega) | (simp; done) | (simp; omega)) _ | refine Below.drew ?_ | refine below_drewN ?_ _)))).mono ?_; rintro e w1 ⟨rfl, hb1⟩
  obtain ⟨_, hb, _⟩ := step1 (vs := [.slice A n c, .slice B m d, .slice C k l]) (Below.refl _ w) hb1
  go_wp2_with fail
  go_ret
  exact ⟨rfl, hb⟩
set_option maxRecDepth 100000 in
set_option maxHeartbeats 2000000 in
theorem rdies13_any (A : Option Addr) (n c : Nat) (B : Option Addr) (m d : Nat) (C : Option Addr) (k l : Nat) (g : Gr) (w : World) (hG : GrM w A n B m C k g) (hg : GrOk g) :
    Calls Tryz.prog 52 #[.agg #[.slice A n c, .slice B m d, .slice C k l]] w (DiesW w (diesG g) 0) := by
  have hn : n ≤ 32 := by have := hG.obv.len; have := hg.lo; omega
  have hm : m ≤ 32 := by have := hG.rev.len; have := hg.lr; omega
  have HV : Hid (∀ W, Below w.heap.size w W → Calls Tryz.prog 88 #[.agg #[.slice A n c, .slice B m d, .slice C k l]] W fun e w' => e = .returned (.bool true) ∧ Below W.heap.size W w') := fun W hW => rvalid13_yes A n c B m d C k l g W (hG.up hW) hg
  have HO : Hid (∀ W, Below w.heap.size w W → Sl W 0 W.heap.size 1 encI A n g.obv) := fun W hW => hG.obv.up hW (Nat.le_refl _) (Nat.le_refl _)
  have HR : Hid (∀ W, Below w.heap.size w W → Sl W 0 W.heap.size 1 encI B m g.rev) := fun W hW => hG.rev.up hW (Nat.le_refl _) (Nat.le_refl _)
  have HLO := Lib.hid hG.obv.len
  have HLR := Lib.hid hG.rev.len
  clear hG hg
  obtain ⟨i0, hi, hz0, hz1, hz2⟩ := info_parts Tryz.infoDi
  go_enter Tryz.func52, Tryz.ntmps52
  go_wp2_with fail
  refine (HV.out _ (by (repeat (first | exact Below.refl _ _ | assumption | refine Below.alloc ?_ (by first | omega | (simp only [World.size_alloc]; omega) | (simp; done) | (simp; omega)) _ | refine Below.setCell ?_ (by first | omega | (simp only [World.size_alloc]; omega) | (simp; done) | (simp; omega)) _ | refine Below.drew ?_ | refine below_drewN ?_ _)))).mono ?_; rintro e w1 ⟨rfl, hb1⟩
  obtain ⟨_, hb, D2⟩ := step1 (vs := [.slice A n c, .slice B m d, .slice C k l]) (Below.refl _ w) hb1
  clear hb1
  go_wp2_with fail
  go_loopw [4, 5] (fun v i wr => ∃ j : Nat, j ≤ n ∧ i = .int .i64 (j : Int) ∧ wr.ownsRow (w.heap.size + 1) 72 2 v j (((g.obv.take j).map (fun x => (⟨0, x⟩ : DieP))).flatMap encD) ∧ Below w.heap.size w wr ∧ Bx wr w.heap.size [.slice A n c, .slice B m d, .slice C k l]) (fun _ i _ => n - (intOf i).toNat)
  case atStart => exact ⟨0, by omega, rfl, World.ownsRow_nil _ _ _ _, hb, D2⟩
  case round =>
    clear hb D2
    obtain ⟨j, hj, rfl, hown, hbr, D2⟩ := hrel
    have hd2 := D2.lt
    have q0 := D2.cell 0 _ rfl
    have q1 := D2.cell 1 _ rfl
    by_cases hlt : j < n
    · obtain ⟨b, off, x, rfl, hbb, hx, x0⟩ := (HO.out _ hbr).in_ hlt
      have HCP : Hid ((g.obv.take (j + 1)).map (fun x => (⟨0, x⟩ : DieP)) = (g.obv.take j).map (fun x => (⟨0, x⟩ : DieP)) ++ [⟨0, x⟩]) := by show _ = _; rw [takeSnocW hx, List.map_append]; rfl
      clear hx
      generalize (g.obv.take j).map (fun x => (⟨0, x⟩ : DieP)) = ps at *
      go_wp2_with (at_builtin; refine wpList_append_own _ rfl _ _ 70 rfl (w.heap.size + 1) 72 i0 (.agg #[.int .i64 0, .int .i64 0]) 2 16 Tryz.underlying70 hi hz0 hz1 hz2 rfl (by decide) _ _ _ rfl (hown.alloc _) ⟨wr.heap.size, 0, none⟩ 1 1 [.int .i64 0, .int .i64 x] rfl rfl ?c1 ?c2 ?c3 ?c4 ?c5 ?_)
      case c1 => exact cell_list_at (by simp) _ _
      case c2 => exact encD_one ⟨0, x⟩
      case c3 => unfold maxLen; omega
      case c4 => omega
      case c5 => simp; omega
      · intro v' w5 hown' hgrow _
        have hb6 : Below w.heap.size w w5 := Below.grown (hbr.alloc hbr.size _) hgrow (by simp; omega) (fun g hg => by have := (hown.lt g hg).1; omega)
        have D6 := (D2.alloc (.cells #[.int .i64 0, .int .i64 x] 72)).grown hgrow (fun e => by have := (hown.lt _ e).1; omega)
        clear hgrow hown hbr D2
        go_wp2_with fail
        exact ⟨⟨j + 1, by omega, by go_num, by rw [HCP.out, List.flatMap_append]; exact hown', hb6, D6⟩, by simp [intOf]; omega⟩
    · obtain rfl : j = n := by omega
      rw [take_all HLO.out] at hown
      go_wp2_with fail
      have hjj : (g.obv.map (fun x => (⟨0, x⟩ : DieP))).length = j := by rw [List.length_map]; exact HLO.out
      have HJJ := Lib.hid hjj
      clear hjj
      have HDG : Hid (diesG g = g.obv.map (fun x => (⟨0, x⟩ : DieP)) ++ g.rev.map (fun x => (⟨1, x⟩ : DieP))) := rfl
      generalize g.obv.map (fun x => (⟨0, x⟩ : DieP)) = os at *
      go_loopw [4, 6] (fun v i wq => ∃ q : Nat, q ≤ m ∧ i = .int .i64 (q : Int) ∧ wq.ownsRow (w.heap.size + 1) 72 2 v (j + q) ((os ++ (g.rev.take q).map (fun x => (⟨1, x⟩ : DieP))).flatMap encD) ∧ Below w.heap.size w wq ∧ Bx wq w.heap.size [.slice A j c, .slice B m d, .slice C k l]) (fun _ i _ => m - (intOf i).toNat)
      case atStart => exact ⟨0, by omega, rfl, by simpa using hown, hbr, D2⟩
      case round =>
        clear hown hbr D2 hd2 q0 q1
        obtain ⟨q, hq, rfl, hown, hbq, D2⟩ := hrel
        rename World => wq
        have hd2 := D2.lt
        have q0 := D2.cell 0 _ rfl
        have q1 := D2.cell 1 _ rfl
        by_cases hlt : q < m
        · obtain ⟨b, off, x, rfl, hbb, hx, x0⟩ := (HR.out _ hbq).in_ hlt
          have HCP : Hid (os ++ (g.rev.take (q + 1)).map (fun x => (⟨1, x⟩ : DieP)) = (os ++ (g.rev.take q).map (fun x => (⟨1, x⟩ : DieP))) ++ [⟨1, x⟩]) := by show _ = _; rw [takeSnocW hx, List.map_append, List.append_assoc]; rfl
          clear hx
          generalize os ++ (g.rev.take q).map (fun x => (⟨1, x⟩ : DieP)) = ps at *
          go_wp2_with (at_builtin; refine wpList_append_own _ rfl _ _ 70 rfl (w.heap.size + 1) 72 i0 (.agg #[.int .i64 0, .int .i64 0]) 2 16 Tryz.underlying70 hi hz0 hz1 hz2 rfl (by decide) _ _ _ rfl (hown.alloc _) ⟨wq.heap.size, 0, none⟩ 1 1 [.int .i64 1, .int .i64 x] rfl rfl ?c1 ?c2 ?c3 ?c4 ?c5 ?_)
          case c1 => exact cell_list_at (by simp) _ _
          case c2 => exact encD_one ⟨1, x⟩
          case c3 => unfold maxLen; omega
          case c4 => omega
          case c5 => simp; omega
          · intro v' w5 hown' hgrow _
            have hb6 : Below w.heap.size w w5 := Below.grown (hbq.alloc hbq.size _) hgrow (by simp; omega) (fun g hg => by have := (hown.lt g hg).1; omega)
            have D6 := (D2.alloc (.cells #[.int .i64 1, .int .i64 x] 72)).grown hgrow (fun e => by have := (hown.lt _ e).1; omega)
            clear hgrow hown hbq
            go_wp2_with fail
            exact ⟨⟨q + 1, by omega, by go_num, by rw [HCP.out, List.flatMap_append, ← Nat.add_assoc]; exact hown', hb6, D6⟩, by simp [intOf]; omega⟩
        · obtain rfl : q = m := by omega
          rw [take_all HLR.out, ← HDG.out] at hown
          obtain ⟨A0, c0, rfl, hc0⟩ := own_form hown
          have HSL := Lib.hid (Sl.of_own encD_len hown (by rw [HDG.out, List.length_append, HJJ.out, List.length_map, HLR.out])).any
          clear hown
          go_wp2_with fail
          go_ret2
          exact ⟨⟨A0, j + q, c0, by go_num, by omega, hc0, HSL.out⟩, hbq⟩
theorem touches_any (x : Lnk) (side num : Int) (w : World) (hsd : side = 0 ∨ side = 1) :
    Calls Tryz.prog 95 #[.agg #[.int .i64 x.id, .int .i64 x.obv, .int .i64 x.rev], .agg #[.int .i64 side, .int .i64 num]] w fun e w' => e = .returned (.bool (touchL ⟨side, num⟩ x)) ∧ Below w.heap.size w w' := by
  have HE : Hid (touchL ⟨side, num⟩ x = (endL x side == num)) := rfl
  go_enter Tryz.func95, Tryz.ntmps95
  rcases hsd with rfl | rfl
  · have HE2 : Hid (endL x 0 = x.obv) := rfl
    go_wp2_with fail
    all_goals go_ret
    all_goals exact ⟨by rw [HE.out, HE2.out]; simp [*], by (repeat (first | exact Below.refl _ _ | assumption | refine Below.alloc ?_ (by first | omega | (simp only [World.size_alloc]; omega) | (simp; done) | (simp; omega)) _ | refine Below.setCell ?_ (by first | omega | (simp only [World.size_alloc]; omega) | (simp; done) | (simp; omega)) _ | refine Below.drew ?_ | refine below_drewN ?_ _))⟩
  · have HE2 : Hid (endL x 1 = x.rev) := rfl
    go_wp2_with fail
    all_goals go_ret
    all_goals exact ⟨by rw [HE.out, HE2.out]; simp [*], by (repeat (first | exact Below.refl _ _ | assumption | refine Below.alloc ?_ (by first | omega | (simp only [World.size_alloc]; omega) | (simp; done) | (simp; omega)) _ | refine Below.setCell ?_ (by first | omega | (simp only [World.size_alloc]; omega) | (simp; done) | (simp; omega)) _ | refine Below.drew ?_ | refine below_drewN ?_ _))⟩
theorem rin_yes (A : Option Addr) (n c : Nat) (B : Option Addr) (m d : Nat) (C : Option Addr) (k l : Nat) (g : Gr) (side num : Int) (w : World) (hG : GrM w A n B m C k g) (hg : GrOk g) (hd : (⟨side, num⟩ : DieP) ∈ diesG g) :
    Calls Tryz.prog 96 #[.agg #[.slice A n c, .slice B m d, .slice C k l], .agg #[.int .i64 side, .int .i64 num]] w fun e w' => e = .returned (.bool true) ∧ Below w.heap.size w w' := by
  have hn : n ≤ 32 := by have := hG.obv.len; have := hg.lo; omega
  have hm : m ≤ 32 := by have := hG.rev.len; have := hg.lr; omega
  rcases diesG_mem.1 hd with ⟨h1, h2⟩ | ⟨h1, h2⟩
  · obtain rfl : side = 0 := h1
    have HH : Hid (∀ W, Below w.heap.size w W → Calls Tryz.prog 25 #[.slice A n c, .int .i64 num] W fun e w' => e = .returned (.bool true) ∧ W = w') := fun W hW => by
      have h9 := has_any A n c g.obv num W (by omega) (hG.obv.up hW (Nat.le_refl _) (Nat.le_refl _))
      rwa [decide_eq_true h2] at h9
    clear hG hg hd h2
    go_enter Tryz.func96, Tryz.ntmps96
    go_wp2_with fail
    refine (HH.out _ (by (repeat (first | exact Below.refl _ _ | assumption | refine Below.alloc ?_ (by first | omega | (simp only [World.size_alloc]; omega) | (simp; done) | (simp; omega)) _ | refine Below.setCell ?_ (by first | omega | (simp only [World.size_alloc]; omega) | (simp; done) | (simp; omega)) _ | refine Below.drew ?_ | refine below_drewN ?_ _)))).mono ?_; rintro e w1 ⟨rfl, rfl⟩
    go_wp2_with fail
    go_ret
    exact ⟨rfl, by (repeat (first | exact Below.refl _ _ | assumption | refine Below.alloc ?_ (by first | omega | (simp only [World.size_alloc]; omega) | (simp; done) | (simp; omega)) _ | refine Below.setCell ?_ (by first | omega | (simp only [World.size_alloc]; omega) | (simp; done) | (simp; omega)) _ | refine Below.drew ?_ | refine below_drewN ?_ _))⟩
  · obtain rfl : side = 1 := h1
    have HH : Hid (∀ W, Below w.heap.size w W → Calls Tryz.prog 25 #[.slice B m d, .int .i64 num] W fun e w' => e = .returned (.bool true) ∧ W = w') := fun W hW => by
      have h9 := has_any B m d g.rev num W (by omega) (hG.rev.up hW (Nat.le_refl _) (Nat.le_refl _))
      rwa [decide_eq_true h2] at h9
    clear hG hg hd h2
    go_enter Tryz.func96, Tryz.ntmps96
    go_wp2_with fail
    refine (HH.out _ (by (repeat (first | exact Below.refl _ _ | assumption | refine Below.alloc ?_ (by first | omega | (simp only [World.size_alloc]; omega) | (simp; done) | (simp; omega)) _ | refine Below.setCell ?_ (by first | omega | (simp only [World.size_alloc]; omega) | (simp; done) | (simp; omega)) _ | refine Below.drew ?_ | refine below_drewN ?_ _)))).mono ?_; rintro e w1 ⟨rfl, rfl⟩
    go_wp2_with fail
    go_ret
    exact ⟨rfl, by (repeat (first | exact Below.refl _ _ | assumption | refine Below.alloc ?_ (by first | omega | (simp only [World.size_alloc]; omega) | (simp; done) | (simp; omega)) _ | refine Below.setCell ?_ (by first | omega | (simp only [World.size_alloc]; omega) | (simp; done) | (simp; omega)) _ | refine Below.drew ?_ | refine below_drewN ?_ _))⟩
set_option maxRecDepth 100000 in
set_option maxHeartbeats 4000000 in
theorem rdegree13_any (A : Option Addr) (n c : Nat) (B : Option Addr) (m d : Nat) (C : Option Addr) (k l : Nat) (g : Gr) (side num : Int) (w : World) (hG : GrM w A n B m C k g) (hg : GrOk g) (hsd : side = 0 ∨ side = 1) :
    Calls Tryz.prog 53 #[.agg #[.slice A n c, .slice B m d, .slice C k l], .agg #[.int .i64 side, .int .i64 num]] w fun e w' => e = .returned (.int .i64 (degG g ⟨side, num⟩ : Nat)) ∧ Below w.heap.size w w' := by
  have hk : k ≤ 64 := by have := hG.links.len; have := hg.ll; omega
  have HV : Hid (∀ W, Below w.heap.size w W → Calls Tryz.prog 88 #[.agg #[.slice A n c, .slice B m d, .slice C k l]] W fun e w' => e = .returned (.bool true) ∧ Below W.heap.size W w') := fun W hW => rvalid13_yes A n c B m d C k l g W (hG.up hW) hg
  have HUL : Hid (∀ W, Below w.heap.size w W → Sl W 0 W.heap.size 3 encL C k g.links) := fun W hW => hG.links.up hW (Nat.le_refl _) (Nat.le_refl _)
  have HLN := Lib.hid hG.links.len
  have HT0 : Hid (∀ x W, Calls Tryz.prog 95 #[.agg #[.int .i64 x.id, .int .i64 x.obv, .int .i64 x.rev], .agg #[.int .i64 side, .int .i64 num]] W fun e w' => e = .returned (.bool (touchL ⟨side, num⟩ x)) ∧ Below W.heap.size W w') := fun x W => touches_any x side num W hsd
  clear hG hg hsd
  have D3' : Bx ((w.alloc (.cells #[.slice A n c, .slice B m d, .slice C k l] 52)).alloc (.cells #[.int .i64 side, .int .i64 num] 72)) (w.heap.size + 1) [.int .i64 side, .int .i64 num] := by
    have h := Bx.new (w.alloc (.cells #[.slice A n c, .slice B m d, .slice C k l] 52)) [.int .i64 side, .int .i64 num] 72
    rwa [World.size_alloc] at h
  have D2' : Bx ((w.alloc (.cells #[.slice A n c, .slice B m d, .slice C k l] 52)).alloc (.cells #[.int .i64 side, .int .i64 num] 72)) w.heap.size [.slice A n c, .slice B m d, .slice C k l] := (Bx.new w [.slice A n c, .slice B m d, .slice C k l] 52).alloc _
  have hb : Below w.heap.size w ((w.alloc (.cells #[.slice A n c, .slice B m d, .slice C k l] 52)).alloc (.cells #[.int .i64 side, .int .i64 num] 72)) := by (repeat (first | exact Below.refl _ _ | assumption | refine Below.alloc ?_ (by first | omega | (simp only [World.size_alloc]; omega) | (simp; done) | (simp; omega)) _ | refine Below.setCell ?_ (by first | omega | (simp only [World.size_alloc]; omega) | (simp; done) | (simp; omega)) _ | refine Below.drew ?_ | refine below_drewN ?_ _))
  go_enter Tryz.func53, Tryz.ntmps53
  go_wp2_with fail
  generalize (w.alloc (.cells #[.slice A n c, .slice B m d, .slice C k l] 52)).alloc (.cells #[.int .i64 side, .int .i64 num] 72) = w1 at *
  go_loopw [5, 6] (fun v i wr => ∃ j : Nat, j ≤ k ∧ i = .int .i64 (j : Int) ∧ v = .int .i64 (((g.links.take j).countP (touchL ⟨side, num⟩) : Nat) : Int) ∧ Below w.heap.size w wr ∧ Bx wr w.heap.size [.slice A n c, .slice B m d, .slice C k l] ∧ Bx wr (w.heap.size + 1) [.int .i64 side, .int .i64 num]) (fun _ i _ => k - (intOf i).toNat)
  case atStart => exact ⟨0, by omega, rfl, rfl, hb, D2', D3'⟩
  case round =>
    clear hb D2' D3'
    obtain ⟨j, hj, rfl, rfl, hbr, D2, D3⟩ := hrel
    have d0 := D2.cell 0 _ rfl
    have d1 := D2.cell 1 _ rfl
    have d2 := D2.cell 2 _ rfl
    by_cases hlt : j < k
    · go_wp2_with fail
      refine (HV.out _ hbr).mono ?_; rintro e w4 ⟨rfl, hb4⟩
      replace hbr := (below_keep' hbr hb4).drew
      replace D2 := (D2.up hb4).up (Below.drew (Below.refl _ _))
      replace D3 := (D3.up hb4).up (Below.drew (Below.refl _ _))
      clear hb4 d0 d1 d2
      obtain ⟨b, off, x, rfl, hbb, hx, x0, x1, x2⟩ := (HUL.out _ hbr).ln hlt
      have HCP := Lib.hid (countP_snocW (p := touchL ⟨side, num⟩) hx)
      have hcl : (g.links.take j).countP (touchL ⟨side, num⟩) ≤ 64 := by have := List.countP_le_length (p := touchL ⟨side, num⟩) (l := g.links.take j); rw [List.length_take] at this; omega
      have HTO := Lib.hid (HT0.out x)
      have HBX : Hid (∀ W, Below w4.drew.heap.size w4.drew W → (W.cell? ⟨b, off + j * 3, none⟩ = some (.int .i64 x.id) ∧ W.cell? ⟨b, off + j * 3 + 1, none⟩ = some (.int .i64 x.obv) ∧ W.cell? ⟨b, off + j * 3 + 2, none⟩ = some (.int .i64 x.rev)) ∧ (W.cell? ⟨w.heap.size, 0, none⟩ = some (.slice A n c) ∧ W.cell? ⟨w.heap.size, 1, none⟩ = some (.slice B m d) ∧ W.cell? ⟨w.heap.size, 2, none⟩ = some (.slice (some ⟨b, off, none⟩) k l)) ∧ (W.cell? ⟨w.heap.size + 1, 0, none⟩ = some (.int .i64 side) ∧ W.cell? ⟨w.heap.size + 1, 1, none⟩ = some (.int .i64 num))) := fun W hW =>
        ⟨⟨(hW.cell (p := ⟨b, off + j * 3, none⟩) hbb).trans x0, (hW.cell (p := ⟨b, off + j * 3 + 1, none⟩) hbb).trans x1, (hW.cell (p := ⟨b, off + j * 3 + 2, none⟩) hbb).trans x2⟩, bx3 (D2.up hW), bx2c (D3.up hW)⟩
      clear hx x0 x1 x2
      generalize (g.links.take j).countP (touchL ⟨side, num⟩) = q at *
      generalize touchL ⟨side, num⟩ x = tb at *
      go_wp2_with fail
      refine wp_region_noPanic ?_
      refine wp_region_held_drew (S := fun U => (U.cell? ⟨b, off + j * 3, none⟩ = some (.int .i64 x.id) ∧ U.cell? ⟨b, off + j * 3 + 1, none⟩ = some (.int .i64 x.obv) ∧ U.cell? ⟨b, off + j * 3 + 2, none⟩ = some (.int .i64 x.rev)) ∧ (U.cell? ⟨w.heap.size, 0, none⟩ = some (.slice A n c) ∧ U.cell? ⟨w.heap.size, 1, none⟩ = some (.slice B m d) ∧ U.cell? ⟨w.heap.size, 2, none⟩ = some (.slice (some ⟨b, off, none⟩) k l)) ∧ (U.cell? ⟨w.heap.size + 1, 0, none⟩ = some (.int .i64 side) ∧ U.cell? ⟨w.heap.size + 1, 1, none⟩ = some (.int .i64 num))) (by kernel_rfl) (HBX.out _ (Below.refl _ _)) (fun hHeld => ?_)
      generalize w4.drew = W6 at *
      refine' takeW 0 ?_ ?_ ?_ (by kernel_rfl) (by kernel_rfl) (by kernel_rfl) (fun _ _ _ h => h) hHeld ?_
      rotate_left 2
      · (simp only [List.getElem?_toArray, List.getElem?_cons_succ, List.getElem?_cons_zero]; try rfl)
      · rfl
      · (intro w hSw; (try dsimp only at hSw); go_simp; first | done | with_reducible rfl)
      (try simp only [Act.put, List.setIfInBounds_toArray, List.set_cons_zero, List.set_cons_succ])
      refine' takeW 1 ?_ ?_ ?_ (by kernel_rfl) (by kernel_rfl) (by kernel_rfl) (fun _ _ _ h => h) hHeld ?_
      rotate_left 2
      · (simp only [List.getElem?_toArray, List.getElem?_cons_succ, List.getElem?_cons_zero]; try rfl)
      · rfl
      · (intro w hSw; (try dsimp only at hSw); go_simp; first | done | with_reducible rfl)
      (try simp only [Act.put, List.setIfInBounds_toArray, List.set_cons_zero, List.set_cons_succ])
      refine' takeW 2 ?_ ?_ ?_ (by kernel_rfl) (by kernel_rfl) (by kernel_rfl) (fun _ _ _ h => h) hHeld ?_
      rotate_left 2
      · (simp only [List.getElem?_toArray, List.getElem?_cons_succ, List.getElem?_cons_zero]; try rfl)
      · rfl
      · (intro w hSw; (try dsimp only at hSw); go_simp; first | done | with_reducible rfl)
      (try simp only [Act.put, List.setIfInBounds_toArray, List.set_cons_zero, List.set_cons_succ])
      refine' takeW 3 ?_ ?_ ?_ (by kernel_rfl) (by kernel_rfl) (by kernel_rfl) (fun _ _ _ h => h) hHeld ?_
      rotate_left 2
      · (simp only [List.getElem?_toArray, List.getElem?_cons_succ, List.getElem?_cons_zero]; try rfl)
      · rfl
      · (intro w hSw; (try dsimp only at hSw); go_simp; first | done | with_reducible rfl)
      (try simp only [Act.put, List.setIfInBounds_toArray, List.set_cons_zero, List.set_cons_succ])
      refine' takeW 4 ?_ ?_ ?_ (by kernel_rfl) (by kernel_rfl) (by kernel_rfl) (fun _ _ _ h => h) hHeld ?_
      rotate_left 2
      · (simp only [List.getElem?_toArray, List.getElem?_cons_succ, List.getElem?_cons_zero]; try rfl)
      · rfl
      · (intro w hSw; (try dsimp only at hSw); go_simp; first | done | with_reducible rfl)
      (try simp only [Act.put, List.setIfInBounds_toArray, List.set_cons_zero, List.set_cons_succ])
      refine' takeW 5 ?_ ?_ ?_ (by kernel_rfl) (by kernel_rfl) (by kernel_rfl) (fun _ _ _ h => h) hHeld ?_
      rotate_left 2
      · (simp only [List.getElem?_toArray, List.getElem?_cons_succ, List.getElem?_cons_zero]; try rfl)
      · rfl
      · (intro w hSw; (try dsimp only at hSw); go_simp; first | done | with_reducible rfl)
      (try simp only [Act.put, List.setIfInBounds_toArray, List.set_cons_zero, List.set_cons_succ])
      refine wpAnyH_ready (rs := [6]) (by kernel_rfl) (by simp) ?_
      refine' AllReadyH.cons ?_ (fun K hK => ?_) AllReadyH.nil
      rotate_left 1
      · (simp only [List.getElem?_toArray, List.getElem?_cons_succ, List.getElem?_cons_zero]; try rfl)
      (try go_simp)
      go_at_call 95
      refine (HTO.out _).mono ?_
      rintro e wz ⟨rfl, hbz⟩
      (try go_simp)
      refine hK.out _ _ ?_ (fun hHeld => ?_)
      · exact HBX.out _ hbz
      clear hK K
      (try simp only [Act.put, List.setIfInBounds_toArray, List.set_cons_zero, List.set_cons_succ])
      refine wpAnyH_done (by kernel_rfl) ?_ _
      refine NoPanic.normal ?_
      clear hHeld
      replace D2 := D2.up hbz
      replace D3 := D3.up hbz
      replace hbr := below_keep' hbr hbz
      clear HBX HTO
      cases tb
      · go_wp2_with fail
        exact ⟨⟨j + 1, by omega, by go_num, by rw [HCP.out]; rfl, hbr, D2, D3⟩, by simp [intOf]; omega⟩
      · go_wp2_with fail
        exact ⟨⟨j + 1, by omega, by go_num, by rw [HCP.out]; go_num, hbr, D2, D3⟩, by simp [intOf]; omega⟩
    · obtain rfl : j = k := by omega
      have HT : Hid (degG g ⟨side, num⟩ = (g.links.take j).countP (touchL ⟨side, num⟩)) := by show _ = _; rw [take_all HLN.out]; rfl
      go_wp2_with fail
      go_ret
      exact ⟨by rw [HT.out]; rfl, hbr⟩
set_option maxRecDepth 100000 in
set_option maxHeartbeats 4000000 in
theorem rpartners13_yes (A : Option Addr) (n c : Nat) (B : Option Addr) (m d : Nat) (C : Option Addr) (k l : Nat) (g : Gr) (side num : Int) (w : World) (hG : GrM w A n B m C k g) (hg : GrOk g) (hd : (⟨side, num⟩ : DieP) ∈ diesG g) :
    Calls Tryz.prog 55 #[.agg #[.slice A n c, .slice B m d, .slice C k l], .agg #[.int .i64 side, .int .i64 num]] w (NumsW w (partnersG g ⟨side, num⟩) 0) := by
  have hsd : side = 0 ∨ side = 1 := by rcases diesG_mem.1 hd with ⟨h, _⟩ | ⟨h, _⟩; exact .inl h; exact .inr h
  have hk : k ≤ 64 := by have := hG.links.len; have := hg.ll; omega
  have HV : Hid (∀ W, Below w.heap.size w W → Calls Tryz.prog 88 #[.agg #[.slice A n c, .slice B m d, .slice C k l]] W fun e w' => e = .returned (.bool true) ∧ Below W.heap.size W w') := fun W hW => rvalid13_yes A n c B m d C k l g W (hG.up hW) hg
  have HIN : Hid (∀ W, Below w.heap.size w W → Calls Tryz.prog 96 #[.agg #[.slice A n c, .slice B m d, .slice C k l], .agg #[.int .i64 side, .int .i64 num]] W fun e w' => e = .returned (.bool true) ∧ Below W.heap.size W w') := fun W hW => rin_yes A n c B m d C k l g side num W (hG.up hW) hg hd
  have HUL : Hid (∀ W, Below w.heap.size w W → Sl W 0 W.heap.size 3 encL C k g.links) := fun W hW => hG.links.up hW (Nat.le_refl _) (Nat.le_refl _)
  have HLN := Lib.hid hG.links.len
  have HT0 : Hid (∀ x W, Calls Tryz.prog 95 #[.agg #[.int .i64 x.id, .int .i64 x.obv, .int .i64 x.rev], .agg #[.int .i64 side, .int .i64 num]] W fun e w' => e = .returned (.bool (touchL ⟨side, num⟩ x)) ∧ Below W.heap.size W w') := fun x W => touches_any x side num W hsd
  have HSD := Lib.hid hsd
  clear hG hg hsd hd
  have D3' : Bx ((w.alloc (.cells #[.slice A n c, .slice B m d, .slice C k l] 52)).alloc (.cells #[.int .i64 side, .int .i64 num] 72)) (w.heap.size + 1) [.int .i64 side, .int .i64 num] := by
    have h := Bx.new (w.alloc (.cells #[.slice A n c, .slice B m d, .slice C k l] 52)) [.int .i64 side, .int .i64 num] 72
    rwa [World.size_alloc] at h
  have D2' : Bx ((w.alloc (.cells #[.slice A n c, .slice B m d, .slice C k l] 52)).alloc (.cells #[.int .i64 side, .int .i64 num] 72)) w.heap.size [.slice A n c, .slice B m d, .slice C k l] := (Bx.new w [.slice A n c, .slice B m d, .slice C k l] 52).alloc _
  have hb : Below w.heap.size w ((w.alloc (.cells #[.slice A n c, .slice B m d, .slice C k l] 52)).alloc (.cells #[.int .i64 side, .int .i64 num] 72)) := by (repeat (first | exact Below.refl _ _ | assumption | refine Below.alloc ?_ (by first | omega | (simp only [World.size_alloc]; omega) | (simp; done) | (simp; omega)) _ | refine Below.setCell ?_ (by first | omega | (simp only [World.size_alloc]; omega) | (simp; done) | (simp; omega)) _ | refine Below.drew ?_ | refine below_drewN ?_ _))
  go_enter Tryz.func55, Tryz.ntmps55
  go_wp2_with fail
  generalize (w.alloc (.cells #[.slice A n c, .slice B m d, .slice C k l] 52)).alloc (.cells #[.int .i64 side, .int .i64 num] 72) = w1 at *
  refine (HV.out _ hb).mono ?_; rintro e w2 ⟨rfl, hb2⟩
  replace hb := below_keep' hb hb2
  replace D2' := D2'.up hb2
  replace D3' := D3'.up hb2
  have d0 := D2'.cell 0 _ rfl
  have d1 := D2'.cell 1 _ rfl
  have d2 := D2'.cell 2 _ rfl
  have e0 := D3'.cell 0 _ rfl
  have e1 := D3'.cell 1 _ rfl
  go_wp2_with fail
  refine (HIN.out _ hb).mono ?_; rintro e w3 ⟨rfl, hb3⟩
  replace hb := below_keep' hb hb3
  replace D2' := D2'.up hb3
  replace D3' := D3'.up hb3
  clear d0 d1 d2 e0 e1 hb2 hb3
  go_wp2_with fail
  go_loopw [6, 7] (fun v i wr => ∃ j : Nat, j ≤ k ∧ i = .int .i64 (j : Int) ∧ (∃ A' n' c', v = .slice A' n' c' ∧ n' ≤ j ∧ n' ≤ c' ∧ Sl wr 0 wr.heap.size 1 encI A' n' (uniqI (((g.links.take j).filter (touchL ⟨side, num⟩)).map (fun x => endL x (1 - side))))) ∧ Below w.heap.size w wr ∧ Bx wr w.heap.size [.slice A n c, .slice B m d, .slice C k l] ∧ Bx wr (w.heap.size + 1) [.int .i64 side, .int .i64 num]) (fun _ i _ => k - (intOf i).toNat)
  case atStart => exact ⟨0, by omega, rfl, ⟨none, 0, 0, rfl, by omega, by omega, Sl.nil⟩, hb, D2', D3'⟩
  case round =>
    clear hb D2' D3'
    obtain ⟨j, hj, rfl, ⟨A', n', c', rfl, hn', hc', hO⟩, hbr, D2, D3⟩ := hrel
    have d0 := D2.cell 0 _ rfl
    have d1 := D2.cell 1 _ rfl
    have d2 := D2.cell 2 _ rfl
    by_cases hlt : j < k
    · obtain ⟨b, off, x, rfl, hbb, hx, x0, x1, x2⟩ := (HUL.out _ hbr).ln hlt
      have HF : Hid ((g.links.take (j + 1)).filter (touchL ⟨side, num⟩) = (g.links.take j).filter (touchL ⟨side, num⟩) ++ (if touchL ⟨side, num⟩ x = true then [x] else [])) := filterSnocW hx
      have HTO := Lib.hid (HT0.out x)
      replace hbr := hbr.drew
      replace D2 := D2.up (Below.drew (Below.refl _ _))
      replace D3 := D3.up (Below.drew (Below.refl _ _))
      replace hO : Sl wr.drew 0 wr.drew.heap.size 1 encI A' n' (uniqI (((g.links.take j).filter (touchL ⟨side, num⟩)).map (fun x => endL x (1 - side)))) := hO
      replace hbb : b < wr.drew.heap.size := hbb
      have HBX : Hid (∀ W, Below wr.drew.heap.size wr.drew W → (W.cell? ⟨b, off + j * 3, none⟩ = some (.int .i64 x.id) ∧ W.cell? ⟨b, off + j * 3 + 1, none⟩ = some (.int .i64 x.obv) ∧ W.cell? ⟨b, off + j * 3 + 2, none⟩ = some (.int .i64 x.rev)) ∧ (W.cell? ⟨w.heap.size, 0, none⟩ = some (.slice A n c) ∧ W.cell? ⟨w.heap.size, 1, none⟩ = some (.slice B m d) ∧ W.cell? ⟨w.heap.size, 2, none⟩ = some (.slice (some ⟨b, off, none⟩) k l)) ∧ (W.cell? ⟨w.heap.size + 1, 0, none⟩ = some (.int .i64 side) ∧ W.cell? ⟨w.heap.size + 1, 1, none⟩ = some (.int .i64 num))) := fun W hW =>
        ⟨⟨(hW.cell (p := ⟨b, off + j * 3, none⟩) hbb).trans x0, (hW.cell (p := ⟨b, off + j * 3 + 1, none⟩) hbb).trans x1, (hW.cell (p := ⟨b, off + j * 3 + 2, none⟩) hbb).trans x2⟩, bx3 (D2.up hW), bx2c (D3.up hW)⟩
      clear hx x0 x1 x2
      generalize (g.links.take j).filter (touchL ⟨side, num⟩) = fs at *
      generalize touchL ⟨side, num⟩ x = tb at *
      go_wp2_with fail
      refine wp_region_noPanic ?_
      refine wp_region_held_drew (S := fun U => (U.cell? ⟨b, off + j * 3, none⟩ = some (.int .i64 x.id) ∧ U.cell? ⟨b, off + j * 3 + 1, none⟩ = some (.int .i64 x.obv) ∧ U.cell? ⟨b, off + j * 3 + 2, none⟩ = some (.int .i64 x.rev)) ∧ (U.cell? ⟨w.heap.size, 0, none⟩ = some (.slice A n c) ∧ U.cell? ⟨w.heap.size, 1, none⟩ = some (.slice B m d) ∧ U.cell? ⟨w.heap.size, 2, none⟩ = some (.slice (some ⟨b, off, none⟩) k l)) ∧ (U.cell? ⟨w.heap.size + 1, 0, none⟩ = some (.int .i64 side) ∧ U.cell? ⟨w.heap.size + 1, 1, none⟩ = some (.int .i64 num))) (by kernel_rfl) (HBX.out _ (Below.refl _ _)) (fun hHeld => ?_)
      generalize wr.drew = W6 at *
      refine' takeW 0 ?_ ?_ ?_ (by kernel_rfl) (by kernel_rfl) (by kernel_rfl) (fun _ _ _ h => h) hHeld ?_
      rotate_left 2
      · (simp only [List.getElem?_toArray, List.getElem?_cons_succ, List.getElem?_cons_zero]; try rfl)
      · rfl
      · (intro w hSw; (try dsimp only at hSw); go_simp; first | done | with_reducible rfl)
      (try simp only [Act.put, List.setIfInBounds_toArray, List.set_cons_zero, List.set_cons_succ])
      refine' takeW 1 ?_ ?_ ?_ (by kernel_rfl) (by kernel_rfl) (by kernel_rfl) (fun _ _ _ h => h) hHeld ?_
      rotate_left 2
      · (simp only [List.getElem?_toArray, List.getElem?_cons_succ, List.getElem?_cons_zero]; try rfl)
      · rfl
      · (intro w hSw; (try dsimp only at hSw); go_simp; first | done | with_reducible rfl)
      (try simp only [Act.put, List.setIfInBounds_toArray, List.set_cons_zero, List.set_cons_succ])
      refine' takeW 2 ?_ ?_ ?_ (by kernel_rfl) (by kernel_rfl) (by kernel_rfl) (fun _ _ _ h => h) hHeld ?_
      rotate_left 2
      · (simp only [List.getElem?_toArray, List.getElem?_cons_succ, List.getElem?_cons_zero]; try rfl)
      · rfl
      · (intro w hSw; (try dsimp only at hSw); go_simp; first | done | with_reducible rfl)
      (try simp only [Act.put, List.setIfInBounds_toArray, List.set_cons_zero, List.set_cons_succ])
      refine' takeW 3 ?_ ?_ ?_ (by kernel_rfl) (by kernel_rfl) (by kernel_rfl) (fun _ _ _ h => h) hHeld ?_
      rotate_left 2
      · (simp only [List.getElem?_toArray, List.getElem?_cons_succ, List.getElem?_cons_zero]; try rfl)
      · rfl
      · (intro w hSw; (try dsimp only at hSw); go_simp; first | done | with_reducible rfl)
      (try simp only [Act.put, List.setIfInBounds_toArray, List.set_cons_zero, List.set_cons_succ])
      refine' takeW 4 ?_ ?_ ?_ (by kernel_rfl) (by kernel_rfl) (by kernel_rfl) (fun _ _ _ h => h) hHeld ?_
      rotate_left 2
      · (simp only [List.getElem?_toArray, List.getElem?_cons_succ, List.getElem?_cons_zero]; try rfl)
      · rfl
      · (intro w hSw; (try dsimp only at hSw); go_simp; first | done | with_reducible rfl)
      (try simp only [Act.put, List.setIfInBounds_toArray, List.set_cons_zero, List.set_cons_succ])
      refine' takeW 5 ?_ ?_ ?_ (by kernel_rfl) (by kernel_rfl) (by kernel_rfl) (fun _ _ _ h => h) hHeld ?_
      rotate_left 2
      · (simp only [List.getElem?_toArray, List.getElem?_cons_succ, List.getElem?_cons_zero]; try rfl)
      · rfl
      · (intro w hSw; (try dsimp only at hSw); go_simp; first | done | with_reducible rfl)
      (try simp only [Act.put, List.setIfInBounds_toArray, List.set_cons_zero, List.set_cons_succ])
      refine wpAnyH_ready (rs := [6]) (by kernel_rfl) (by simp) ?_
      refine' AllReadyH.cons ?_ (fun K hK => ?_) AllReadyH.nil
      rotate_left 1
      · (simp only [List.getElem?_toArray, List.getElem?_cons_succ, List.getElem?_cons_zero]; try rfl)
      (try go_simp)
      go_at_call 95
      refine (HTO.out _).mono ?_
      rintro e wz ⟨rfl, hbz⟩
      (try go_simp)
      refine hK.out _ _ ?_ (fun hHeld => ?_)
      · exact HBX.out _ hbz
      clear hK K
      (try simp only [Act.put, List.setIfInBounds_toArray, List.set_cons_zero, List.set_cons_succ])
      refine' takeW 7 ?_ ?_ ?_ (by kernel_rfl) (by kernel_rfl) (by kernel_rfl) (fun _ _ _ h => h) hHeld ?_
      rotate_left 2
      · (simp only [List.getElem?_toArray, List.getElem?_cons_succ, List.getElem?_cons_zero]; try rfl)
      · rfl
      · (intro w hSw; (try dsimp only at hSw); go_simp; first | done | with_reducible rfl)
      (try simp only [Act.put, List.setIfInBounds_toArray, List.set_cons_zero, List.set_cons_succ])
      refine wpAnyH_done (by kernel_rfl) ?_ _
      refine NoPanic.normal ?_
      clear hHeld
      replace D2 := D2.up hbz
      replace D3 := D3.up hbz
      replace hbr := below_keep' hbr hbz
      replace hO := hO.up hbz (Nat.le_refl _) (Nat.le_refl _)
      obtain ⟨⟨y0, y1, y2⟩, ⟨d0', d1', d2'⟩, e0, e1⟩ := HBX.out _ hbz
      clear HBX HTO d0 d1 d2
      cases tb
      · go_wp2_with fail
        exact ⟨⟨j + 1, by omega, by go_num, ⟨A', n', c', rfl, by omega, hc', by rw [HF.out, if_neg (by decide), List.append_nil]; exact hO⟩, hbr, D2, D3⟩, by simp [intOf]; omega⟩
      · have HU : Hid (uniqI ((fs ++ [x]).map (fun x => endL x (1 - side))) = withI (endL x (1 - side)) (uniqI (fs.map (fun x => endL x (1 - side))))) := by show _ = _; rw [List.map_append]; exact uniqI_snoc _ _
        generalize uniqI (fs.map (fun x => endL x (1 - side))) = us at *
        rcases HSD.out with rfl | rfl
        · have HEN : Hid (endL x (1 - 0) = x.rev) := rfl
          rw [HEN.out] at HU
          go_wp2_with fail
          refine (rwith_any 0 A' n' c' us x.rev _ (Nat.zero_le _) (by omega) hc' hO).mono ?_; rintro e w5 ⟨⟨A5, n5, c5, rfl, hn5, hc5, hO5⟩, hb5⟩
          go_wp2_with fail
          exact ⟨⟨j + 1, by omega, by go_num, ⟨A5, n5, c5, rfl, by omega, hc5, by rw [HF.out, if_pos trivial, HU.out]; exact hO5⟩, below_keep' hbr hb5, D2.up hb5, D3.up hb5⟩, by simp [intOf]; omega⟩
        · have HEN : Hid (endL x (1 - 1) = x.obv) := rfl
          rw [HEN.out] at HU
          go_wp2_with fail
          refine (rwith_any 0 A' n' c' us x.obv _ (Nat.zero_le _) (by omega) hc' hO).mono ?_; rintro e w5 ⟨⟨A5, n5, c5, rfl, hn5, hc5, hO5⟩, hb5⟩
          go_wp2_with fail
          exact ⟨⟨j + 1, by omega, by go_num, ⟨A5, n5, c5, rfl, by omega, hc5, by rw [HF.out, if_pos trivial, HU.out]; exact hO5⟩, below_keep' hbr hb5, D2.up hb5, D3.up hb5⟩, by simp [intOf]; omega⟩
    · obtain rfl : j = k := by omega
      have HT : Hid (partnersG g ⟨side, num⟩ = uniqI (((g.links.take j).filter (touchL ⟨side, num⟩)).map (fun x => endL x (1 - side)))) := by show _ = _; rw [take_all HLN.out]; rfl
      go_wp2_with fail
      go_ret2
      exact ⟨⟨A', n', c', rfl, by omega, by rw [HT.out]; exact hO⟩, hbr⟩
end Go.Proofs.YtdokpmfejibdlaaGreatDoor
