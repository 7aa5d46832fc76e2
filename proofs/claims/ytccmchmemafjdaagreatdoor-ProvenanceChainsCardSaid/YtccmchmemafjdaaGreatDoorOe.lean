/- Chapter 46: sales compared; valid listings: the program's and the reference's. -/
import Derived.Test.YtccmchmemafjdaaGreatDoorOc
import Derived.Deep.RegionHeld3
import Derived.Test.YtccmchmemafjdaaGreatDoorStd
set_option linter.unusedSimpArgs false
set_option linter.unusedVariables false
namespace Go.Proofs.YtccmchmemafjdaaGreatDoor
open Go.RowKit

theorem keepT {w0 w1 : World} {p1 p2 p3 p4 p5 p6 p7 p8 : Addr} {v1 v2 v3 v4 v5 v6 v7 v8 : Value} (h1 : w0.cell? p1 = some v1) (h2 : w0.cell? p2 = some v2) (h3 : w0.cell? p3 = some v3) (h4 : w0.cell? p4 = some v4) (h5 : w0.cell? p5 = some v5) (h6 : w0.cell? p6 = some v6) (h7 : w0.cell? p7 = some v7) (h8 : w0.cell? p8 = some v8)
    (l1 : p1.block < w0.heap.size) (l2 : p2.block < w0.heap.size) (l3 : p3.block < w0.heap.size) (l4 : p4.block < w0.heap.size) (l5 : p5.block < w0.heap.size) (l6 : p6.block < w0.heap.size) (l7 : p7.block < w0.heap.size) (l8 : p8.block < w0.heap.size) (hb : Below w0.heap.size w0 w1) :
    w1.cell? p1 = some v1 ∧ w1.cell? p2 = some v2 ∧ w1.cell? p3 = some v3 ∧ w1.cell? p4 = some v4 ∧ w1.cell? p5 = some v5 ∧ w1.cell? p6 = some v6 ∧ w1.cell? p7 = some v7 ∧ w1.cell? p8 = some v8 ∧ Below w0.heap.size w0 w1 :=
  ⟨(hb.cell l1).trans h1, (hb.cell l2).trans h2, (hb.cell l3).trans h3, (hb.cell l4).trans h4, (hb.cell l5).trans h5, (hb.cell l6).trans h6, (hb.cell l7).trans h7, (hb.cell l8).trans h8, hb⟩
theorem last9 {a1 a2 a3 a4 a5 a6 a7 a8 z : Prop} (h : a1 ∧ a2 ∧ a3 ∧ a4 ∧ a5 ∧ a6 ∧ a7 ∧ a8 ∧ z) : z := h.2.2.2.2.2.2.2.2
set_option maxRecDepth 100000 in
set_option maxHeartbeats 2000000 in
theorem rtwice_any (i : Int) (A : Option Addr) (n c : Nat) (xs : List Sal) (i' : Int) (A' : Option Addr) (n' c' : Nat) (ys : List Sal) (w : World) (hn : n ≤ 1000000) (hn' : n' ≤ 1000000) (hS : SaS w A n xs) (hS' : SaS w A' n' ys) :
    Calls Tryz.prog 63 #[.agg #[.int .i64 i, .slice A n c], .agg #[.int .i64 i', .slice A' n' c']] w fun e w' => e = .returned (.bool (twiceB xs ys)) ∧ Below w.heap.size w w' := by
  have HL := Lib.hid (Sl.len hS)
  have HL' := Lib.hid (Sl.len hS')
  have HS := Lib.hid hS; clear hS
  have HS' := Lib.hid hS'; clear hS'
  go_enter Tryz.func63, Tryz.ntmps63
  go_wp2_with fail
  go_loopw [5] (fun s wr => ∃ k : Nat, k ≤ n ∧ s = .int .i64 (k : Int) ∧ (∀ x ∈ xs.take k, (ys.any fun t => twiceS x t) = false) ∧ Bx wr w.heap.size [.int .i64 i, .slice A n c] ∧ Bx wr (w.heap.size + 1) [.int .i64 i', .slice A' n' c'] ∧ Below w.heap.size w wr) (fun s _ => n - (intOf s).toNat)
  case atStart => exact ⟨0, by omega, rfl, by simp, (Bx.new w [.int .i64 i, .slice A n c] _).alloc _, by have := Bx.new (w.alloc (.cells #[.int .i64 i, .slice A n c] 24)) [.int .i64 i', .slice A' n' c'] 24; rwa [World.size_alloc] at this, by (repeat (first | exact Below.refl _ _ | assumption | refine Below.alloc ?_ (by first | omega | (simp only [World.size_alloc]; omega) | (simp; done) | (simp; omega)) _ | refine Below.setCell ?_ (by first | omega | (simp only [World.size_alloc]; omega) | (simp; done) | (simp; omega)) _ | refine Below.drew ?_ | refine below_drewN ?_ _))⟩
  case round =>
    obtain ⟨k, hk, rfl, hnn, Z, Y, hb⟩ := hrel
    have HN := Lib.hid hnn; clear hnn
    by_cases hlt : k < n
    · have Z0 := Z.cell 0 _ rfl; have Z1 := Z.cell 1 _ rfl; have Zlt := Z.lt
      have Y0 := Y.cell 0 _ rfl; have Y1 := Y.cell 1 _ rfl; have Ylt := Y.lt
      go_wp2_with fail
      clear Z0 Z1 Zlt Y0 Y1 Ylt
      go_loopw [6] (fun s wr => ∃ j : Nat, j ≤ n' ∧ s = .int .i64 (j : Int) ∧ (∀ x, xs[k]? = some x → ∀ t ∈ ys.take j, twiceS x t = false) ∧ Bx wr w.heap.size [.int .i64 i, .slice A n c] ∧ Bx wr (w.heap.size + 1) [.int .i64 i', .slice A' n' c'] ∧ Below w.heap.size w wr) (fun s _ => n' - (intOf s).toNat)
      case atStart => exact ⟨0, by omega, rfl, by simp, Z, Y, hb⟩
      case round =>
        clear Z Y hb
        obtain ⟨j, hj, rfl, hmm, Z, Y, hb⟩ := hrel
        have HM := Lib.hid hmm; clear hmm
        have Z0 := Z.cell 0 _ rfl; have Z1 := Z.cell 1 _ rfl; have Zlt := Z.lt
        have Y0 := Y.cell 0 _ rfl; have Y1 := Y.cell 1 _ rfl; have Ylt := Y.lt
        by_cases hlj : j < n'
        · obtain ⟨b, off, x, rfl, hbb, hx, c0, c1, c2⟩ := (Sl.below HS.out hb (Nat.le_refl _)).sa hlt
          obtain ⟨b', off', y, rfl, hbb', hy, d0, d1, d2⟩ := (Sl.below HS'.out hb (Nat.le_refl _)).sa hlj
          have HX := Lib.hid hx; clear hx
          have HY := Lib.hid hy; clear hy
          have HT : Hid (twiceS x y = (x.y == y.y && x.h == y.h && x.l != y.l)) := rfl
          have hbw : b < wr.heap.size := Nat.lt_of_lt_of_le hbb hb.size
          have hbw' : b' < wr.heap.size := Nat.lt_of_lt_of_le hbb' hb.size
          clear hbb hbb'
          go_wp2_with fail
          go_region_held3 (fun U => U.cell? ⟨w.heap.size, 1, none⟩ = some (.slice (some ⟨b, off, none⟩) n c) ∧ U.cell? ⟨w.heap.size + 1, 1, none⟩ = some (.slice (some ⟨b', off', none⟩) n' c') ∧ U.cell? ⟨b, off + k * 3, none⟩ = some (.int .i64 x.y) ∧ U.cell? ⟨b, off + k * 3 + 1, none⟩ = some (.int .i64 x.h) ∧ U.cell? ⟨b, off + k * 3 + 2, none⟩ = some (.int .i64 x.l) ∧ U.cell? ⟨b', off' + j * 3, none⟩ = some (.int .i64 y.y) ∧ U.cell? ⟨b', off' + j * 3 + 1, none⟩ = some (.int .i64 y.h) ∧ U.cell? ⟨b', off' + j * 3 + 2, none⟩ = some (.int .i64 y.l) ∧ Below wr.heap.size wr U)
            (first | exact keepT Z1 Y1 c0 c1 c2 d0 d1 d2 Zlt Ylt hbw hbw hbw hbw' hbw' hbw' (by (repeat (first | exact Below.refl _ _ | assumption | refine Below.alloc ?_ (by first | omega | (simp only [World.size_alloc]; omega) | (simp; done) | (simp; omega)) _ | refine Below.setCell ?_ (by first | omega | (simp only [World.size_alloc]; omega) | (simp; done) | (simp; omega)) _ | refine Below.drew ?_ | refine below_drewN ?_ _))) | go_keep)
            (fail)
          all_goals
            rename_i hH
            have hb9 := last9 hH
            clear hH Z0 Z1 Zlt Y0 Y1 Ylt c0 c1 c2 d0 d1 d2 hbw hbw'
            have hb2 := hb.trans (hb9.mono hb.size)
            replace Z := Z.up hb9
            replace Y := Y.up hb9
            clear hb hb9
            cases h1 : (x.y == y.y)
            · have HE : Hid (∀ x', xs[k]? = some x' → ∀ t ∈ ys.take (j + 1), twiceS x' t = false) := fun x' hx' => by
                rw [HX.out] at hx'
                injection hx' with hx'
                subst hx'
                exact all_take (p := fun t => twiceS x t = false) HY.out (HM.out x HX.out) (by rw [HT.out, h1]; rfl)
              go_wp2_with fail
              go_roundw
              case rel => exact ⟨j + 1, by omega, by go_num, HE.out, Z, Y, hb2⟩
              case measure => simp [intOf]; omega
            · cases h2 : (x.h == y.h)
              · have HE : Hid (∀ x', xs[k]? = some x' → ∀ t ∈ ys.take (j + 1), twiceS x' t = false) := fun x' hx' => by
                  rw [HX.out] at hx'
                  injection hx' with hx'
                  subst hx'
                  exact all_take (p := fun t => twiceS x t = false) HY.out (HM.out x HX.out) (by rw [HT.out, h1, h2]; rfl)
                go_wp2_with fail
                go_roundw
                case rel => exact ⟨j + 1, by omega, by go_num, HE.out, Z, Y, hb2⟩
                case measure => simp [intOf]; omega
              · cases h3 : (x.l != y.l)
                · have HE : Hid (∀ x', xs[k]? = some x' → ∀ t ∈ ys.take (j + 1), twiceS x' t = false) := fun x' hx' => by
                    rw [HX.out] at hx'
                    injection hx' with hx'
                    subst hx'
                    exact all_take (p := fun t => twiceS x t = false) HY.out (HM.out x HX.out) (by rw [HT.out, h1, h2, h3]; rfl)
                  go_wp2_with fail
                  go_roundw
                  case rel => exact ⟨j + 1, by omega, by go_num, HE.out, Z, Y, hb2⟩
                  case measure => simp [intOf]; omega
                · have HV : Hid (twiceB xs ys = true) := any_hit HX.out (any_hit HY.out (by rw [HT.out, h1, h2, h3]; rfl))
                  go_wp2_with fail
                  go_ret
                  exact ⟨by rw [HV.out]; rfl, hb2⟩
        · obtain rfl : j = n' := by omega
          obtain ⟨x, hx⟩ : ∃ x, xs[k]? = some x := ⟨xs[k]'(by have := HL.out; omega), List.getElem?_eq_getElem _⟩
          have HA : Hid (∀ x ∈ xs.take (k + 1), (ys.any fun t => twiceS x t) = false) := all_take (p := fun x => (ys.any fun t => twiceS x t) = false) hx HN.out (any_miss (by have h := HM.out x hx; rwa [take_all HL'.out] at h))
          clear hx
          go_wp2_with fail
          go_roundw
          case rel => exact ⟨k + 1, by omega, by go_num, HA.out, Z, Y, hb⟩
          case measure => simp [intOf]; omega
    · obtain rfl : k = n := by omega
      have Z0 := Z.cell 0 _ rfl; have Z1 := Z.cell 1 _ rfl; have Zlt := Z.lt
      have HV : Hid (twiceB xs ys = false) := any_miss (by have h := HN.out; rwa [take_all HL.out] at h)
      go_wp2_with fail
      go_ret
      exact ⟨by rw [HV.out]; rfl, hb⟩
end Go.Proofs.YtccmchmemafjdaaGreatDoor
set_option linter.unusedSimpArgs false
set_option linter.unusedVariables false
namespace Go.Proofs.YtccmchmemafjdaaGreatDoor
open Go.RowKit

def cmpI (a b : Int) : Int := if a < b then -1 else if a = b then 0 else 1
theorem cmpI_cases (a b : Int) : (a < b ∧ cmpI a b = -1) ∨ (a = b ∧ cmpI a b = 0) ∨ (b < a ∧ cmpI a b = 1) := by
  unfold cmpI
  split
  · exact .inl ⟨by assumption, rfl⟩
  · split
    · exact .inr (.inl ⟨by assumption, rfl⟩)
    · exact .inr (.inr ⟨by omega, rfl⟩)
theorem compare_any (a b : Int) (w : World) :
    Calls Tryz.prog 62 #[.int .i64 a, .int .i64 b] w fun e w' => e = .returned (.int .i64 (cmpI a b)) ∧ w' = w := by
  have H : Lib.compareInt a b = cmpI a b := by
    unfold Lib.compareInt cmpI
    split
    · rfl
    · split <;> split <;> first | rfl | omega
  rw [← H]
  exact Tryz.cmp_Compare_int a b w
/-- The first that is not zero. -/
def orI (l : List Int) : Int := match l.find? (fun x => x != 0) with | some x => x | none => 0
def ordS (a b : Sal) : Int := orI [cmpI a.y b.y, cmpI a.h b.h, cmpI a.l b.l]
theorem ordS_cases (a b : Sal) : (ltSal a b ∧ ordS a b = -1) ∨ (a = b ∧ ordS a b = 0) ∨ (ltSal b a ∧ ordS a b = 1) := by
  obtain ⟨a1, a2, a3⟩ := a
  obtain ⟨b1, b2, b3⟩ := b
  unfold ordS orI ltSal
  simp only [Sal.mk.injEq]
  rcases cmpI_cases a1 b1 with ⟨h1, e1⟩ | ⟨h1, e1⟩ | ⟨h1, e1⟩
  · rw [e1]; exact .inl ⟨.inl h1, rfl⟩
  · rw [e1]
    rcases cmpI_cases a2 b2 with ⟨h2, e2⟩ | ⟨h2, e2⟩ | ⟨h2, e2⟩
    · rw [e2]; exact .inl ⟨.inr ⟨h1, .inl h2⟩, rfl⟩
    · rw [e2]
      rcases cmpI_cases a3 b3 with ⟨h3, e3⟩ | ⟨h3, e3⟩ | ⟨h3, e3⟩
      · rw [e3]; exact .inl ⟨.inr ⟨h1, .inr ⟨h2, h3⟩⟩, rfl⟩
      · rw [e3]; exact .inr (.inl ⟨⟨h1, h2, h3⟩, rfl⟩)
      · rw [e3]; exact .inr (.inr ⟨.inr ⟨h1.symm, .inr ⟨h2.symm, h3⟩⟩, rfl⟩)
    · rw [e2]; exact .inr (.inr ⟨.inr ⟨h1.symm, .inl h2⟩, rfl⟩)
  · rw [e1]; exact .inr (.inr ⟨.inl h1, rfl⟩)
theorem ordS_ge {a b : Sal} : decide (0 ≤ ordS a b) = !decide (ltSal a b) := by
  rcases ordS_cases a b with ⟨h, e⟩ | ⟨h, e⟩ | ⟨h, e⟩
  · rw [e, decide_eq_true h]; rfl
  · subst h; rw [e, decide_eq_false (ltSal_irr a)]; rfl
  · rw [e, decide_eq_false (fun h2 => ltSal_irr _ (ltSal_trans h h2))]; rfl
theorem orI_hit {xs : List Int} {k : Nat} {x : Int} (hx : xs[k]? = some x) (hn : ∀ y ∈ xs.take k, (y != 0) = false) (he : (x != 0) = true) : orI xs = x := by
  obtain ⟨h1, h2⟩ := List.getElem?_eq_some_iff.1 hx
  have h : xs = xs.take k ++ x :: xs.drop (k + 1) := by
    conv => lhs; rw [← List.take_append_drop k xs]
    rw [List.drop_eq_getElem_cons h1, h2]
  have h3 : (xs.take k).find? (fun x => x != 0) = none := by
    rw [List.find?_eq_none]
    intro y hy; simpa using hn y hy
  unfold orI
  rw [h, List.find?_append, h3]
  simp [List.find?_cons, he]
theorem orI_miss {xs : List Int} (hn : ∀ y ∈ xs, (y != 0) = false) : orI xs = 0 := by
  have h3 : xs.find? (fun x => x != 0) = none := by
    rw [List.find?_eq_none]
    intro y hy; simpa using hn y hy
  unfold orI
  rw [h3]
set_option maxHeartbeats 1000000 in
theorem cor_any (A : Option Addr) (len cap : Nat) (xs : List Int) (w : World) (hlen : len ≤ 1000000) (hS : Sl w 0 w.heap.size 1 encI A len xs) :
    Calls Tryz.prog 61 #[.slice A len cap] w fun e w' => e = .returned (.int .i64 (orI xs)) ∧ w' = w := by
  have HL := Lib.hid hS.len
  have HS := Lib.hid hS; clear hS
  go_enter Tryz.func61, Tryz.ntmps61
  go_wp2_with fail
  go_loop [8] (fun s => ∃ k : Nat, k ≤ len ∧ s = .int .i64 (k : Int) ∧ (∀ y ∈ xs.take k, (y != 0) = false)) (fun s => len - (intOf s).toNat)
  case atStart => exact ⟨0, by omega, rfl, by simp⟩
  case round =>
    obtain ⟨k, hk, rfl, hnn⟩ := hrel
    have HN := Lib.hid hnn; clear hnn
    by_cases hlt : k < len
    · obtain ⟨b, off, x, rfl, hbb, hx, c0⟩ := HS.out.in_ hlt
      have HX := Lib.hid hx; clear hx
      cases he : (x != 0)
      · have HE := Lib.hid he
        go_wp2_with fail
        go_round
        case rel => exact ⟨k + 1, by omega, by go_num, all_take (p := fun y => (y != 0) = false) HX.out HN.out HE.out⟩
        case measure => simp [intOf]; omega
      · have HV : Hid (orI xs = x) := orI_hit HX.out HN.out he
        go_wp2_with fail
        go_ret
        exact ⟨by rw [HV.out]; rfl, rfl⟩
    · obtain rfl : k = len := by omega
      have HV : Hid (orI xs = 0) := orI_miss (by have h := HN.out; rwa [take_all HL.out] at h)
      go_wp2_with fail
      go_ret
      exact ⟨by rw [HV.out]; rfl, rfl⟩
theorem keep6 {w0 w1 : World} {p1 p2 p3 p4 p5 p6 : Addr} {v1 v2 v3 v4 v5 v6 : Value} (h1 : w0.cell? p1 = some v1) (h2 : w0.cell? p2 = some v2) (h3 : w0.cell? p3 = some v3) (h4 : w0.cell? p4 = some v4) (h5 : w0.cell? p5 = some v5) (h6 : w0.cell? p6 = some v6)
    (l1 : p1.block < w0.heap.size) (l2 : p2.block < w0.heap.size) (l3 : p3.block < w0.heap.size) (l4 : p4.block < w0.heap.size) (l5 : p5.block < w0.heap.size) (l6 : p6.block < w0.heap.size) (hb : Below w0.heap.size w0 w1) :
    w1.cell? p1 = some v1 ∧ w1.cell? p2 = some v2 ∧ w1.cell? p3 = some v3 ∧ w1.cell? p4 = some v4 ∧ w1.cell? p5 = some v5 ∧ w1.cell? p6 = some v6 ∧ Below w0.heap.size w0 w1 :=
  ⟨(hb.cell l1).trans h1, (hb.cell l2).trans h2, (hb.cell l3).trans h3, (hb.cell l4).trans h4, (hb.cell l5).trans h5, (hb.cell l6).trans h6, hb⟩
theorem last7 {a1 a2 a3 a4 a5 a6 z : Prop} (h : a1 ∧ a2 ∧ a3 ∧ a4 ∧ a5 ∧ a6 ∧ z) : z := h.2.2.2.2.2.2
set_option maxHeartbeats 1000000 in
theorem order_any (x y : Sal) (w : World) :
    Calls Tryz.prog 45 #[.agg #[.int .i64 x.y, .int .i64 x.h, .int .i64 x.l], .agg #[.int .i64 y.y, .int .i64 y.h, .int .i64 y.l]] w fun e w' => e = .returned (.int .i64 (ordS x y)) ∧ ∃ q os', w' = Sort.grow (w.drewN q) os' := by
  go_enter Tryz.func45, Tryz.ntmps45
  go_wp2_with fail
  have hG : ∃ os, ((w.alloc (.cells #[.int .i64 x.y, .int .i64 x.h, .int .i64 x.l] 57)).alloc (.cells #[.int .i64 y.y, .int .i64 y.h, .int .i64 y.l] 57)) = Sort.grow w os := ⟨_, by rw [Sort.alloc_eq_grow, Sort.alloc_eq_grow, Sort.grow_grow]⟩
  have Z := (Bx.new w [.int .i64 x.y, .int .i64 x.h, .int .i64 x.l] 57).alloc (.cells #[.int .i64 y.y, .int .i64 y.h, .int .i64 y.l] 57)
  have Y := Bx.new (w.alloc (.cells #[.int .i64 x.y, .int .i64 x.h, .int .i64 x.l] 57)) [.int .i64 y.y, .int .i64 y.h, .int .i64 y.l] 57
  rw [World.size_alloc] at Y
  generalize (w.alloc (.cells #[.int .i64 x.y, .int .i64 x.h, .int .i64 x.l] 57)).alloc (.cells #[.int .i64 y.y, .int .i64 y.h, .int .i64 y.l] 57) = W1 at *
  have Z0 := Z.cell 0 _ rfl; have Z1 := Z.cell 1 _ rfl; have Z2 := Z.cell 2 _ rfl; have Zlt := Z.lt
  have Y0 := Y.cell 0 _ rfl; have Y1 := Y.cell 1 _ rfl; have Y2 := Y.cell 2 _ rfl; have Ylt := Y.lt
  have HG := Lib.hid hG; clear hG Z Y
  go_region_held3 (fun U => U.cell? ⟨w.heap.size, 0, none⟩ = some (.int .i64 x.y) ∧ U.cell? ⟨w.heap.size, 1, none⟩ = some (.int .i64 x.h) ∧ U.cell? ⟨w.heap.size, 2, none⟩ = some (.int .i64 x.l) ∧ U.cell? ⟨w.heap.size + 1, 0, none⟩ = some (.int .i64 y.y) ∧ U.cell? ⟨w.heap.size + 1, 1, none⟩ = some (.int .i64 y.h) ∧ U.cell? ⟨w.heap.size + 1, 2, none⟩ = some (.int .i64 y.l) ∧ Below W1.heap.size W1 U)
    (first | exact keep6 Z0 Z1 Z2 Y0 Y1 Y2 Zlt Zlt Zlt Ylt Ylt Ylt (by (repeat (first | exact Below.refl _ _ | assumption | refine Below.alloc ?_ (by first | omega | (simp only [World.size_alloc]; omega) | (simp; done) | (simp; omega)) _ | refine Below.setCell ?_ (by first | omega | (simp only [World.size_alloc]; omega) | (simp; done) | (simp; omega)) _ | refine Below.drew ?_ | refine below_drewN ?_ _))) | go_keep)
    (first
      | (go_at_call 62; refine (compare_any _ _ _).mono ?_; rintro e w2 ⟨rfl, rfl⟩)
      | (go_at_call 61; refine (cor_any _ 3 3 [cmpI x.y y.y, cmpI x.h y.h, cmpI x.l y.l] _ (by omega) ⟨rfl, fun _ => ⟨_, 0, rfl, Nat.zero_le _, by simp, fun i z hz j u hu => by rcases i with _ | _ | _ | i <;> simp at hz <;> subst hz <;> (rcases j with _ | j <;> simp [encI] at hu <;> subst hu <;> simp)⟩⟩).mono ?_; rintro e w2 ⟨rfl, rfl⟩))
  all_goals
    go_wp2_with fail
    go_ret
    obtain ⟨os, hos⟩ := HG.out
    refine ⟨rfl, ?_⟩
    rw [hos]
    exact ⟨1, _, by rw [Sort.alloc_eq_grow, Sort.grow_grow]; rfl⟩
/-! ### Valid. -/
theorem okSal_B (s : Sal) : decide (okSal s) = (inR s.y 1700 2100 && inR s.h 1 999 && inR s.l 1 9999) := by
  unfold okSal inR
  rw [Bool.eq_iff_iff]
  simp [and_assoc]
theorem asc_snocS {xs : List Sal} {m : Nat} {y x : Sal} (h : (xs.take (m + 1)).Pairwise ltSal) (hy : xs[m]? = some y) (hx : xs[m + 1]? = some x) (hl : ltSal y x) : (xs.take (m + 1 + 1)).Pairwise ltSal := by
  rw [take_snocS hx, List.pairwise_append]
  refine ⟨h, List.pairwise_singleton .., fun a ha b hb => ?_⟩
  rw [List.mem_singleton] at hb
  subst hb
  rw [take_snocS hy, List.pairwise_append] at h
  rcases (mem_take_snoc hy).1 ha with ha | rfl
  · exact ltSal_trans (h.2.2 a ha y (by simp)) hl
  · exact hl
theorem asc_not {xs : List Sal} {m : Nat} {y x : Sal} (hy : xs[m]? = some y) (hx : xs[m + 1]? = some x) (hl : ¬ ltSal y x) : ¬ xs.Pairwise ltSal := fun h => hl ((asc_iff xs).1 h m y x hy hx)
def validB (id : Int) (xs : List Sal) : Bool := decide (validL ⟨id, xs⟩)
theorem validB_id {id : Int} {xs : List Sal} (h : inR id 1 9999 = false) : validB id xs = false := decide_eq_false fun hv => by
  rw [(inR_iff id 1 9999).2 hv.1] at h
  cases h
theorem validB_len {id : Int} {xs : List Sal} (h : 8 < xs.length) : validB id xs = false := decide_eq_false fun hv => by
  have := hv.2.1
  simp only at this
  omega
theorem validB_sale {id : Int} {xs : List Sal} {k : Nat} {x : Sal} (hx : xs[k]? = some x) (h : decide (okSal x) = false) : validB id xs = false := decide_eq_false fun hv => (of_decide_eq_false h) (hv.2.2.1 x (List.mem_of_getElem? hx))
theorem validB_asc {id : Int} {xs : List Sal} {m : Nat} {y x : Sal} (hy : xs[m]? = some y) (hx : xs[m + 1]? = some x) (h : decide (ltSal y x) = false) : validB id xs = false := decide_eq_false fun hv => asc_not hy hx (of_decide_eq_false h) hv.2.2.2
theorem validB_yes {id : Int} {xs : List Sal} (h1 : inR id 1 9999 = true) (h2 : xs.length ≤ 8) (h3 : ∀ x ∈ xs, okSal x) (h4 : xs.Pairwise ltSal) : validB id xs = true := decide_eq_true ⟨(inR_iff id 1 9999).1 h1, h2, h3, h4⟩
set_option maxHeartbeats 1000000 in
theorem rright_any (s : Sal) (w : World) :
    Calls Tryz.prog 47 #[.agg #[.int .i64 s.y, .int .i64 s.h, .int .i64 s.l]] w fun e w' => e = .returned (.bool (decide (okSal s))) ∧ Below w.heap.size w w' := by
  rw [okSal_B]
  cases h1 : inR s.y 1700 2100
  · go_enter Tryz.func47, Tryz.ntmps47
    go_wp2_with (go_at_call 76; refine (bin_any _ _ _ _).mono ?_; rintro e w' ⟨rfl, rfl⟩)
    go_ret
    exact ⟨rfl, by (repeat (first | exact Below.refl _ _ | assumption | refine Below.alloc ?_ (by first | omega | (simp only [World.size_alloc]; omega) | (simp; done) | (simp; omega)) _ | refine Below.setCell ?_ (by first | omega | (simp only [World.size_alloc]; omega) | (simp; done) | (simp; omega)) _ | refine Below.drew ?_ | refine below_drewN ?_ _))⟩
  · cases h2 : inR s.h 1 999
    · go_enter Tryz.func47, Tryz.ntmps47
      go_wp2_with (go_at_call 76; refine (bin_any _ _ _ _).mono ?_; rintro e w' ⟨rfl, rfl⟩)
      go_ret
      exact ⟨rfl, by (repeat (first | exact Below.refl _ _ | assumption | refine Below.alloc ?_ (by first | omega | (simp only [World.size_alloc]; omega) | (simp; done) | (simp; omega)) _ | refine Below.setCell ?_ (by first | omega | (simp only [World.size_alloc]; omega) | (simp; done) | (simp; omega)) _ | refine Below.drew ?_ | refine below_drewN ?_ _))⟩
    · cases h3 : inR s.l 1 9999
      · go_enter Tryz.func47, Tryz.ntmps47
        go_wp2_with (go_at_call 76; refine (bin_any _ _ _ _).mono ?_; rintro e w' ⟨rfl, rfl⟩)
        go_ret
        exact ⟨rfl, by (repeat (first | exact Below.refl _ _ | assumption | refine Below.alloc ?_ (by first | omega | (simp only [World.size_alloc]; omega) | (simp; done) | (simp; omega)) _ | refine Below.setCell ?_ (by first | omega | (simp only [World.size_alloc]; omega) | (simp; done) | (simp; omega)) _ | refine Below.drew ?_ | refine below_drewN ?_ _))⟩
      · go_enter Tryz.func47, Tryz.ntmps47
        go_wp2_with (go_at_call 76; refine (bin_any _ _ _ _).mono ?_; rintro e w' ⟨rfl, rfl⟩)
        go_ret
        exact ⟨rfl, by (repeat (first | exact Below.refl _ _ | assumption | refine Below.alloc ?_ (by first | omega | (simp only [World.size_alloc]; omega) | (simp; done) | (simp; omega)) _ | refine Below.setCell ?_ (by first | omega | (simp only [World.size_alloc]; omega) | (simp; done) | (simp; omega)) _ | refine Below.drew ?_ | refine below_drewN ?_ _))⟩
set_option maxHeartbeats 1000000 in
theorem rbefore_any (a b : Sal) (w : World) :
    Calls Tryz.prog 48 #[.agg #[.int .i64 a.y, .int .i64 a.h, .int .i64 a.l], .agg #[.int .i64 b.y, .int .i64 b.h, .int .i64 b.l]] w fun e w' => e = .returned (.bool (decide (ltSal a b))) ∧ Below w.heap.size w w' := by
  by_cases h1 : a.y = b.y
  · by_cases h2 : a.h = b.h
    · have hv : decide (ltSal a b) = decide (a.l < b.l) := by
        rw [Bool.eq_iff_iff, decide_eq_true_iff, decide_eq_true_iff]
        unfold ltSal
        omega
      have HV := Lib.hid hv; clear hv
      go_enter Tryz.func48, Tryz.ntmps48
      go_wp2
      all_goals
        go_ret
        exact ⟨by rw [HV.out]; first | rfl | simp [*], by (repeat (first | exact Below.refl _ _ | assumption | refine Below.alloc ?_ (by first | omega | (simp only [World.size_alloc]; omega) | (simp; done) | (simp; omega)) _ | refine Below.setCell ?_ (by first | omega | (simp only [World.size_alloc]; omega) | (simp; done) | (simp; omega)) _ | refine Below.drew ?_ | refine below_drewN ?_ _))⟩
    · have hv : decide (ltSal a b) = decide (a.h < b.h) := by
        rw [Bool.eq_iff_iff, decide_eq_true_iff, decide_eq_true_iff]
        unfold ltSal
        omega
      have HV := Lib.hid hv; clear hv
      go_enter Tryz.func48, Tryz.ntmps48
      go_wp2
      all_goals
        go_ret
        exact ⟨by rw [HV.out]; first | rfl | simp [*], by (repeat (first | exact Below.refl _ _ | assumption | refine Below.alloc ?_ (by first | omega | (simp only [World.size_alloc]; omega) | (simp; done) | (simp; omega)) _ | refine Below.setCell ?_ (by first | omega | (simp only [World.size_alloc]; omega) | (simp; done) | (simp; omega)) _ | refine Below.drew ?_ | refine below_drewN ?_ _))⟩
  · have hv : decide (ltSal a b) = decide (a.y < b.y) := by
      rw [Bool.eq_iff_iff, decide_eq_true_iff, decide_eq_true_iff]
      unfold ltSal
      omega
    have HV := Lib.hid hv; clear hv
    go_enter Tryz.func48, Tryz.ntmps48
    go_wp2
    all_goals
      go_ret
      exact ⟨by rw [HV.out]; first | rfl | simp [*], by (repeat (first | exact Below.refl _ _ | assumption | refine Below.alloc ?_ (by first | omega | (simp only [World.size_alloc]; omega) | (simp; done) | (simp; omega)) _ | refine Below.setCell ?_ (by first | omega | (simp only [World.size_alloc]; omega) | (simp; done) | (simp; omega)) _ | refine Below.drew ?_ | refine below_drewN ?_ _))⟩
end Go.Proofs.YtccmchmemafjdaaGreatDoor
