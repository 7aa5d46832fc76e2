/- Chapter 46: where an Id stands; two lots of one sale. -/
import Derived.Test.YtccmchmemafjdaaGreatDoorOa
import Derived.Deep.Quiet
import Derived.Deep.RegionHeld3
import Derived.Deep.RegionWith
set_option linter.unusedSimpArgs false
set_option linter.unusedVariables false
namespace Go.Proofs.YtccmchmemafjdaaGreatDoor
open Go.RowKit

theorem bin_any (n a b : Int) (w : World) :
    Calls Tryz.prog 76 #[.int .i64 n, .int .i64 a, .int .i64 b] w fun e w' => e = .returned (.bool (inR n a b)) ∧ w' = w := by
  go_enter Tryz.func76, Tryz.ntmps76
  go_wp2
  all_goals go_ret
  · exact ⟨by simp [inR, *], rfl⟩
  · exact ⟨by simp [inR]; omega, rfl⟩
theorem bid_any (n : Int) (w : World) :
    Calls Tryz.prog 46 #[.int .i64 n] w fun e w' => e = .returned (.bool (inR n 1 9999)) ∧ w' = w := by
  go_enter Tryz.func46, Tryz.ntmps46
  go_wp2_with (go_at_call 76; refine (bin_any _ _ _ _).mono ?_; rintro e w' ⟨rfl, rfl⟩)
  go_ret
  exact ⟨rfl, rfl⟩
theorem within_any (n a b : Int) (w : World) :
    Calls Tryz.prog 44 #[.int .i64 n, .int .i64 a, .int .i64 b] w fun e w' => e = .returned (.bool (inR n a b)) ∧ w' = w := by
  go_enter Tryz.func44, Tryz.ntmps44
  go_wp2
  all_goals go_ret
  · exact ⟨by simp [inR, *], rfl⟩
  · exact ⟨by simp [inR]; omega, rfl⟩
theorem keep1 {w0 w w1 : World} {b1 b2 o1 o2 : Nat} {a1 a2 : Value} (h1 : b1 < w0.heap.size) (h2 : b2 < w0.heap.size)
    (h : w.cell? ⟨b1, o1, none⟩ = some a1 ∧ w.cell? ⟨b2, o2, none⟩ = some a2 ∧ Below w0.heap.size w0 w) (hb : Below w.heap.size w w1) :
    w1.cell? ⟨b1, o1, none⟩ = some a1 ∧ w1.cell? ⟨b2, o2, none⟩ = some a2 ∧ Below w0.heap.size w0 w1 := by
  obtain ⟨k1, k2, k3⟩ := h
  have := k3.size
  exact ⟨(hb.cell (p := ⟨b1, o1, none⟩) (by show b1 < _; omega)).trans k1, (hb.cell (p := ⟨b2, o2, none⟩) (by show b2 < _; omega)).trans k2, below_keep' k3 hb⟩
theorem takeW {P : Program} {md : Region.Mode} {ops : Array Oper} {Q : Exit → Act → World → Prop} {S : World → Prop} {fuel : Nat} {listed : Array Bool} {a : Act} {w : World} (i : Nat) {oi : Oper} {v : Value} (hi : ops[i]? = some oi)
    (hw : Region.wanted oi (yielded ops a.tmps) = true) (hy : ∀ w, S w → (execOp a.eval oi).run P w = .ok (.value v) w)
    (hs : Region.noSelect ops = true) (hf : Region.free md ops listed i = true) (hr : (Region.ready md ops listed).contains i = true)
    (hQ : ∀ c a w, Q (.panic c) (a.put oi.dst v) w → Q (.panic c) a w) (hS : S w)
    (h : wpAnyH P md ops Q S fuel (listed.setIfInBounds i true) (a.put oi.dst v) w) : wpAnyH P md ops Q S (fuel + 1) listed a w :=
  wpAnyH_take hi hs hf hr hQ (Or.inl ⟨hw, hy⟩) hS h
theorem takeN {P : Program} {md : Region.Mode} {ops : Array Oper} {Q : Exit → Act → World → Prop} {S : World → Prop} {fuel : Nat} {listed : Array Bool} {a : Act} {w : World} (i : Nat) {oi : Oper} (hi : ops[i]? = some oi)
    (hw : Region.wanted oi (yielded ops a.tmps) = false)
    (hs : Region.noSelect ops = true) (hf : Region.free md ops listed i = true) (hr : (Region.ready md ops listed).contains i = true)
    (hQ : ∀ c a w, Q (.panic c) (a.put oi.dst undef) w → Q (.panic c) a w) (hS : S w)
    (h : wpAnyH P md ops Q S fuel (listed.setIfInBounds i true) (a.put oi.dst undef) w) : wpAnyH P md ops Q S (fuel + 1) listed a w :=
  wpAnyH_take hi hs hf hr hQ (Or.inr ⟨hw, rfl⟩) hS h
theorem last3 {a b z : Prop} (h : a ∧ b ∧ z) : z := h.2.2

set_option maxRecDepth 100000 in
set_option maxHeartbeats 1000000 in
theorem lists_any (A : Option Addr) (len cap : Nat) (xs : List (List Int)) (A' : Option Addr) (len' cap' : Nat) (ys : List (List Int)) (w : World) (hlen : len ≤ 1000000) (hlen' : len' ≤ 1000000) (hS : LoS w A len xs) (hS' : LoS w A' len' ys) :
    Calls Tryz.prog 21 #[.slice A len cap, .slice A' len' cap'] w fun e w' => e = .returned (.bool (decide (xs = ys))) ∧ Below w.heap.size w w' := by
  have hl := hS.len
  have hl' := hS'.len
  by_cases hll : len = len'
  · subst hll
    have HS := Lib.hid hS; clear hS
    have HS' := Lib.hid hS'; clear hS'
    go_enter Tryz.func21, Tryz.ntmps21
    go_wp2_with fail
    go_loopw [5] (fun i wr => ∃ k : Nat, k ≤ len ∧ i = .int .i64 k ∧ xs.take k = ys.take k ∧ Below w.heap.size w wr) (fun i _ => len - (intOf i).toNat)
    case atStart => exact ⟨0, by omega, rfl, rfl, Below.refl _ _⟩
    case round =>
      obtain ⟨k, hk, rfl, hn, hb⟩ := hrel
      have HN := Lib.hid hn; clear hn
      by_cases hlt : k < len
      · obtain ⟨b, off, x, a, m, c, rfl, hbb, hx, c0, hm, hSx⟩ := (HS.out.up hb).at_ hlt
        obtain ⟨b', off', y, a', m', c', rfl, hbb', hy, d0, hm', hSy⟩ := (HS'.out.up hb).at_ hlt
        have HX := Lib.hid hx; clear hx
        have HY := Lib.hid hy; clear hy
        have HC : Hid (∀ V, Below wr.heap.size wr V → Calls Tryz.prog 51 #[.slice a m c, .slice a' m' c'] V fun e w' => e = .returned (.bool (decide (x = y))) ∧ Below V.heap.size V w') := fun V hV =>
          ints_any a m c x a' m' c' y V hm.1 hm'.1 (hSx.up hV (Nat.le_refl _) (Nat.le_refl _)) (hSy.up hV (Nat.le_refl _) (Nat.le_refl _))
        clear hSx hSy
        cases he : decide (x = y)
        · rw [he] at HC
          have HE := Lib.hid (of_decide_eq_false he); clear he
          go_wp2_with fail
          go_region_held3 (fun U => U.cell? ⟨b, off + k, none⟩ = some (.slice a m c) ∧ U.cell? ⟨b', off' + k, none⟩ = some (.slice a' m' c') ∧ Below wr.heap.size wr U)
            (first | exact ⟨c0, d0, Below.drew (Below.refl _ _)⟩ | exact keep1 hbb hbb' (by assumption) (by assumption) | go_keep)
            ((go_at_call 51; refine (HC.out _ (last3 (by assumption))).mono ?_; rintro r w4 ⟨rfl, hb4⟩))
          rename_i hH
          have hb5 := last3 hH
          clear hH
          go_wp2_with fail
          go_ret
          refine ⟨?_, below_keep' hb hb5⟩
          have hxy : ¬ xs = ys := by
            rintro rfl
            exact HE.out (Option.some.inj (HX.out.symm.trans HY.out))
          simp [hxy]
        · rw [he] at HC
          have HE := Lib.hid (of_decide_eq_true he); clear he
          go_wp2_with fail
          go_region_held3 (fun U => U.cell? ⟨b, off + k, none⟩ = some (.slice a m c) ∧ U.cell? ⟨b', off' + k, none⟩ = some (.slice a' m' c') ∧ Below wr.heap.size wr U)
            (first | exact ⟨c0, d0, Below.drew (Below.refl _ _)⟩ | exact keep1 hbb hbb' (by assumption) (by assumption) | go_keep)
            ((go_at_call 51; refine (HC.out _ (last3 (by assumption))).mono ?_; rintro r w4 ⟨rfl, hb4⟩))
          rename_i hH
          have hb5 := last3 hH
          clear hH
          go_wp2_with fail
          go_roundw
          case rel => exact ⟨k + 1, by omega, by go_num, (eq_take_succ HX.out HY.out).2 ⟨HN.out, HE.out⟩, below_keep' hb hb5⟩
          case measure => simp [intOf]; omega
      · obtain rfl : k = len := by omega
        have hn := HN.out
        rw [List.take_of_length_le (by omega), List.take_of_length_le (by omega)] at hn
        have HN2 := Lib.hid hn; clear hn HN
        go_wp2_with fail
        go_ret
        exact ⟨by simp [HN2.out], hb⟩
  · have hxy : Hid (¬ xs = ys) := by
      show ¬ xs = ys
      rintro rfl; omega
    go_enter Tryz.func21, Tryz.ntmps21
    go_wp2_with fail
    go_ret
    exact ⟨by simp [hxy.out], Below.refl _ _⟩

/-! ### Common sales; lots of one sale. -/
def shareB (xs ys : List Sal) : Bool := xs.any fun s => ys.any fun t => decide (s = t)
theorem shareB_iff (x y : Lst) : shareB x.sales y.sales = true ↔ shareL x y := by
  unfold shareB shareL
  simp only [List.any_eq_true, decide_eq_true_iff]
  constructor
  · rintro ⟨s, h1, t, h2, rfl⟩; exact ⟨s, h1, h2⟩
  · rintro ⟨s, h1, h2⟩; exact ⟨s, h1, s, h2, rfl⟩
def twiceS (s t : Sal) : Bool := s.y == t.y && s.h == t.h && s.l != t.l
def twiceB (xs ys : List Sal) : Bool := xs.any fun s => ys.any fun t => twiceS s t
set_option maxRecDepth 100000 in
set_option maxHeartbeats 1000000 in
theorem rshare_any (i : Int) (A : Option Addr) (n c : Nat) (xs : List Sal) (i' : Int) (A' : Option Addr) (n' c' : Nat) (ys : List Sal) (w : World) (hn : n ≤ 1000000) (hn' : n' ≤ 1000000) (hS : SaS w A n xs) (hS' : SaS w A' n' ys) :
    Calls Tryz.prog 23 #[.agg #[.int .i64 i, .slice A n c], .agg #[.int .i64 i', .slice A' n' c']] w fun e w' => e = .returned (.bool (shareB xs ys)) ∧ Below w.heap.size w w' := by
  have HL := Lib.hid (Sl.len hS)
  have HL' := Lib.hid (Sl.len hS')
  have HS := Lib.hid hS; clear hS
  have HS' := Lib.hid hS'; clear hS'
  go_enter Tryz.func23, Tryz.ntmps23
  go_wp2_with fail
  go_loopw [5] (fun s wr => ∃ k : Nat, k ≤ n ∧ s = .int .i64 (k : Int) ∧ (∀ x ∈ xs.take k, (ys.any fun t => decide (x = t)) = false) ∧ Bx wr w.heap.size [.int .i64 i, .slice A n c] ∧ Bx wr (w.heap.size + 1) [.int .i64 i', .slice A' n' c'] ∧ Below w.heap.size w wr) (fun s _ => n - (intOf s).toNat)
  case atStart => exact ⟨0, by omega, rfl, by simp, (Bx.new w [.int .i64 i, .slice A n c] _).alloc _, by have := Bx.new (w.alloc (.cells #[.int .i64 i, .slice A n c] 24)) [.int .i64 i', .slice A' n' c'] 24; rwa [World.size_alloc] at this, by (repeat (first | exact Below.refl _ _ | assumption | refine Below.alloc ?_ (by first | omega | (simp only [World.size_alloc]; omega) | (simp; done) | (simp; omega)) _ | refine Below.setCell ?_ (by first | omega | (simp only [World.size_alloc]; omega) | (simp; done) | (simp; omega)) _ | refine Below.drew ?_ | refine below_drewN ?_ _))⟩
  case round =>
    obtain ⟨k, hk, rfl, hnn, Z, Y, hb⟩ := hrel
    have HN := Lib.hid hnn; clear hnn
    by_cases hlt : k < n
    · have Z0 := Z.cell 0 _ rfl; have Z1 := Z.cell 1 _ rfl; have Zlt := Z.lt
      have Y0 := Y.cell 0 _ rfl; have Y1 := Y.cell 1 _ rfl; have Ylt := Y.lt
      go_wp2_with fail
      clear Z0 Z1 Zlt Y0 Y1 Ylt
      go_loopw [6] (fun s wr => ∃ j : Nat, j ≤ n' ∧ s = .int .i64 (j : Int) ∧ (∀ x, xs[k]? = some x → ∀ t ∈ ys.take j, decide (x = t) = false) ∧ Bx wr w.heap.size [.int .i64 i, .slice A n c] ∧ Bx wr (w.heap.size + 1) [.int .i64 i', .slice A' n' c'] ∧ Below w.heap.size w wr) (fun s _ => n' - (intOf s).toNat)
      case atStart => exact ⟨0, by omega, rfl, by simp, Z, Y, hb⟩
      case round =>
        clear Z Y hb
        obtain ⟨j, hj, rfl, hmm, Z, Y, hb⟩ := hrel
        have HM := Lib.hid hmm; clear hmm
        have Z0 := Z.cell 0 _ rfl; have Z1 := Z.cell 1 _ rfl; have Zlt := Z.lt
        have Y0 := Y.cell 0 _ rfl; have Y1 := Y.cell 1 _ rfl; have Ylt := Y.lt
        by_cases hlj : j < n'
        · obtain ⟨b, off, x, rfl, hbb, hx, c0, c1, c2⟩ := (Sl.below HS.out hb (Nat.le_refl _)).sa hlt
          obtain ⟨b', off', y, rfl, hbb', hy, d0, d1, d2⟩ := (Sl.below HS'.out hb (Nat.le_refl _)).sa hlj
          have HX := Lib.hid hx; clear hx
          have HY := Lib.hid hy; clear hy
          have hne := fun w => eqSale x y w
          cases he : decide (x = y)
          · rw [he] at hne
            have HE := Lib.hid he; clear he
            go_wp2_with fail
            go_quiet (fail)
            go_wp2_with fail
            go_roundw
            case rel => exact ⟨j + 1, by omega, by go_num, fun x' hx' => by
              rw [HX.out] at hx'
              injection hx' with hx'
              subst hx'
              exact all_take (p := fun t => decide (x = t) = false) HY.out (HM.out x HX.out) HE.out, Z.drewN _, Y.drewN _, below_drewN hb _⟩
            case measure => simp [intOf]; omega
          · rw [he] at hne
            have HV : Hid (shareB xs ys = true) := any_hit HX.out (any_hit HY.out he)
            clear he
            go_wp2_with fail
            go_quiet (fail)
            go_wp2_with fail
            go_ret
            exact ⟨by rw [HV.out]; rfl, below_drewN hb _⟩
        · obtain rfl : j = n' := by omega
          obtain ⟨x, hx⟩ : ∃ x, xs[k]? = some x := ⟨xs[k]'(by have := HL.out; omega), List.getElem?_eq_getElem _⟩
          have HA : Hid (∀ x ∈ xs.take (k + 1), (ys.any fun t => decide (x = t)) = false) := all_take (p := fun x => (ys.any fun t => decide (x = t)) = false) hx HN.out (any_miss (by have h := HM.out x hx; rwa [take_all HL'.out] at h))
          clear hx
          go_wp2_with fail
          go_roundw
          case rel => exact ⟨k + 1, by omega, by go_num, HA.out, Z, Y, hb⟩
          case measure => simp [intOf]; omega
    · obtain rfl : k = n := by omega
      have Z0 := Z.cell 0 _ rfl; have Z1 := Z.cell 1 _ rfl; have Zlt := Z.lt
      have HV : Hid (shareB xs ys = false) := any_miss (by have h := HN.out; rwa [take_all HL.out] at h)
      go_wp2_with fail
      go_ret
      exact ⟨by rw [HV.out]; rfl, hb⟩
end Go.Proofs.YtccmchmemafjdaaGreatDoor
set_option linter.unusedSimpArgs false
set_option linter.unusedVariables false
namespace Go.Proofs.YtccmchmemafjdaaGreatDoor
open Go.RowKit

/-- Where an Id stands, -1 if nowhere. -/
def placeI (l : List Lst) (id : Int) : Int := match l.findIdx? (fun x => x.id == id) with | some k => (k : Int) | none => -1
theorem placeI_hit {l : List Lst} {id : Int} {k : Nat} {x : Lst} (hx : l[k]? = some x) (hn : ∀ y ∈ l.take k, (y.id == id) = false) (he : (x.id == id) = true) : placeI l id = (k : Int) := by
  have h : l.findIdx? (fun x => x.id == id) = some k := by
    obtain ⟨hk, h2⟩ := List.getElem?_eq_some_iff.1 hx
    rw [List.findIdx?_eq_some_iff_getElem]
    refine ⟨hk, by rw [h2]; exact he, fun j hj => ?_⟩
    have hjl : j < l.length := by omega
    have := hn l[j] (by
      rw [List.mem_take_iff_getElem]
      exact ⟨j, by omega, rfl⟩)
    simpa using this
  unfold placeI
  rw [h]
theorem placeI_miss {l : List Lst} {id : Int} (hn : ∀ y ∈ l, (y.id == id) = false) : placeI l id = -1 := by
  have h : l.findIdx? (fun x => x.id == id) = none := by
    rw [List.findIdx?_eq_none_iff]
    intro x hx; simpa using hn x hx
  unfold placeI
  rw [h]
set_option maxRecDepth 100000 in
set_option maxHeartbeats 1000000 in
theorem rplace_any (A : Option Addr) (n c : Nat) (ls : List Lst) (id : Int) (w : World) (hn : n ≤ 1000000) (hS : LsS w A n ls) :
    Calls Tryz.prog 53 #[.slice A n c, .int .i64 id] w fun e w' => e = .returned (.int .i64 (placeI ls id)) ∧ w' = w := by
  have HL := Lib.hid hS.len
  have HS := Lib.hid hS; clear hS
  go_enter Tryz.func53, Tryz.ntmps53
  go_wp2_with fail
  go_loop [5] (fun s => ∃ k : Nat, k ≤ n ∧ s = .int .i64 (k : Int) ∧ (∀ y ∈ ls.take k, (y.id == id) = false)) (fun s => n - (intOf s).toNat)
  case atStart => exact ⟨0, by omega, rfl, by simp⟩
  case round =>
    obtain ⟨k, hk, rfl, hnn⟩ := hrel
    have HN := Lib.hid hnn; clear hnn
    by_cases hlt : k < n
    · obtain ⟨b, off, x, a, m, c', rfl, hbb, hx, c0, c1, hm, hSx⟩ := HS.out.at_ hlt
      clear hSx hm c1
      have HX := Lib.hid hx; clear hx
      cases he : (x.id == id)
      · have HE := Lib.hid he
        go_wp2_with fail
        go_round
        case rel => exact ⟨k + 1, by omega, by go_num, all_take (p := fun y => (y.id == id) = false) HX.out HN.out HE.out⟩
        case measure => simp [intOf]; omega
      · have HV : Hid (placeI ls id = (k : Int)) := placeI_hit HX.out HN.out he
        go_wp2_with fail
        go_ret
        exact ⟨by rw [HV.out]; rfl, rfl⟩
    · obtain rfl : k = n := by omega
      have HV : Hid (placeI ls id = -1) := placeI_miss (by have h := HN.out; rwa [take_all HL.out] at h)
      go_wp2_with fail
      go_ret
      exact ⟨by rw [HV.out]; rfl, rfl⟩
set_option maxHeartbeats 1000000 in
theorem find1_any (Bs : Nat) (id i : Int) (a : Option Addr) (m c : Nat) (w : World) (hB : Bs < w.heap.size) (hc : w.cell? ⟨Bs, 0, none⟩ = some (.int .i64 id)) :
    Calls Tryz.prog 83 #[.agg #[.int .i64 i, .slice a m c], .pointer (some ⟨Bs, 0, none⟩)] w fun e w' => e = .returned (.bool (i == id)) ∧ Below w.heap.size w w' := by
  go_enter Tryz.func83, Tryz.ntmps83
  go_wp2_with fail
  go_ret
  exact ⟨rfl, one_alloc _ _⟩
set_option maxRecDepth 100000 in
set_option maxHeartbeats 1000000 in
theorem indexL_any (Bs : Nat) (A : Option Addr) (n c : Nat) (ls : List Lst) (id : Int) (w : World) (hn : n ≤ 1000000) (hB : Bs < w.heap.size) (hc : w.cell? ⟨Bs, 0, none⟩ = some (.int .i64 id)) (hS : LsS w A n ls) :
    Calls Tryz.prog 82 #[.slice A n c, .func (.func 83) #[] #[.pointer (some ⟨Bs, 0, none⟩)]] w fun e w' => e = .returned (.int .i64 (placeI ls id)) ∧ Below w.heap.size w w' := by
  have HL := Lib.hid hS.len
  have HS := Lib.hid hS; clear hS
  have HF : Hid (∀ V (i : Int) (a : Option Addr) (m c : Nat), Below w.heap.size w V → Calls Tryz.prog 83 #[.agg #[.int .i64 i, .slice a m c], .pointer (some ⟨Bs, 0, none⟩)] V fun e w' => e = .returned (.bool (i == id)) ∧ Below V.heap.size V w') := fun V i a m c hV =>
    find1_any Bs id i a m c V (Nat.lt_of_lt_of_le hB hV.size) ((hV.cell (p := ⟨Bs, 0, none⟩) hB).trans hc)
  clear hc
  go_enter Tryz.func82, Tryz.ntmps82
  go_wp2_with fail
  go_loopw [8] (fun s wr => ∃ k : Nat, k ≤ n ∧ s = .int .i64 (k : Int) ∧ (∀ y ∈ ls.take k, (y.id == id) = false) ∧ Below w.heap.size w wr) (fun s _ => n - (intOf s).toNat)
  case atStart => exact ⟨0, by omega, rfl, by simp, Below.refl _ _⟩
  case round =>
    obtain ⟨k, hk, rfl, hnn, hb⟩ := hrel
    have HN := Lib.hid hnn; clear hnn
    by_cases hlt : k < n
    · obtain ⟨b, off, x, a, m, c', rfl, hbb, hx, c0, c1, hm, hSx⟩ := (HS.out.up hb).at_ hlt
      clear hSx hm
      have HX := Lib.hid hx; clear hx
      have HC := Lib.hid (HF.out wr x.id a m c' hb)
      cases he : (x.id == id)
      · have HE := Lib.hid he
        rw [he] at HC
        clear he
        go_wp2_with fail
        go_fit HC.out
        rintro e w1 ⟨rfl, hb1⟩
        have hb2 := below_keep' hb hb1
        clear hb hb1
        go_wp2_with fail
        go_roundw
        case rel => exact ⟨k + 1, by omega, by go_num, all_take (p := fun y => (y.id == id) = false) HX.out HN.out HE.out, hb2⟩
        case measure => simp [intOf]; omega
      · have HV : Hid (placeI ls id = (k : Int)) := placeI_hit HX.out HN.out he
        rw [he] at HC
        clear he
        go_wp2_with fail
        go_fit HC.out
        rintro e w1 ⟨rfl, hb1⟩
        have hb2 := below_keep' hb hb1
        clear hb hb1
        go_wp2_with fail
        go_ret
        exact ⟨by rw [HV.out]; rfl, hb2⟩
    · obtain rfl : k = n := by omega
      have HV : Hid (placeI ls id = -1) := placeI_miss (by have h := HN.out; rwa [take_all HL.out] at h)
      go_wp2_with fail
      go_ret
      exact ⟨by rw [HV.out]; rfl, hb⟩
set_option maxHeartbeats 1000000 in
theorem pfind_any (A : Option Addr) (n c : Nat) (ls : List Lst) (id : Int) (w : World) (hn : n ≤ 1000000) (hS : LsS w A n ls) :
    Calls Tryz.prog 52 #[.slice A n c, .int .i64 id] w fun e w' => e = .returned (.int .i64 (placeI ls id)) ∧ Below w.heap.size w w' := by
  have HI : Hid (Calls Tryz.prog 82 #[.slice A n c, .func (.func 83) #[] #[.pointer (some ⟨w.heap.size, 0, none⟩)]] (w.alloc (.cells #[.int .i64 id] 3)) fun e w' => e = .returned (.int .i64 (placeI ls id)) ∧ Below (w.alloc (.cells #[.int .i64 id] 3)).heap.size (w.alloc (.cells #[.int .i64 id] 3)) w') :=
    indexL_any w.heap.size A n c ls id _ hn (by simp) (by simp) (hS.up (one_alloc _ _))
  clear hS
  go_enter Tryz.func52, Tryz.ntmps52
  go_wp2_with fail
  go_fit HI.out
  rintro e w1 ⟨rfl, hb1⟩
  go_wp2_with fail
  go_ret
  exact ⟨rfl, (one_alloc w _).trans (hb1.mono (by simp))⟩
set_option maxRecDepth 100000 in
set_option maxHeartbeats 2000000 in
theorem ptwice_any (i : Int) (A : Option Addr) (n c : Nat) (xs : List Sal) (i' : Int) (A' : Option Addr) (n' c' : Nat) (ys : List Sal) (w : World) (hn : n ≤ 1000000) (hn' : n' ≤ 1000000) (hS : SaS w A n xs) (hS' : SaS w A' n' ys) :
    Calls Tryz.prog 58 #[.agg #[.int .i64 i, .slice A n c], .agg #[.int .i64 i', .slice A' n' c']] w fun e w' => e = .returned (.bool (twiceB xs ys)) ∧ Below w.heap.size w w' := by
  have HL := Lib.hid (Sl.len hS)
  have HL' := Lib.hid (Sl.len hS')
  have HS := Lib.hid hS; clear hS
  have HS' := Lib.hid hS'; clear hS'
  go_enter Tryz.func58, Tryz.ntmps58
  go_wp2_with fail
  go_loopw [12] (fun s wr => ∃ k : Nat, k ≤ n ∧ s = .int .i64 (k : Int) ∧ (∀ x ∈ xs.take k, (ys.any fun t => twiceS x t) = false) ∧ Bx wr (w.heap.size + 1) [.int .i64 i', .slice A' n' c'] ∧ Below w.heap.size w wr) (fun s _ => n - (intOf s).toNat)
  case atStart => exact ⟨0, by omega, rfl, by simp, by have := Bx.new (w.alloc (.cells #[.int .i64 i, .slice A n c] 24)) [.int .i64 i', .slice A' n' c'] 24; rwa [World.size_alloc] at this, by (repeat (first | exact Below.refl _ _ | assumption | refine Below.alloc ?_ (by first | omega | (simp only [World.size_alloc]; omega) | (simp; done) | (simp; omega)) _ | refine Below.setCell ?_ (by first | omega | (simp only [World.size_alloc]; omega) | (simp; done) | (simp; omega)) _ | refine Below.drew ?_ | refine below_drewN ?_ _))⟩
  case round =>
    obtain ⟨k, hk, rfl, hnn, Y, hb⟩ := hrel
    have HN := Lib.hid hnn; clear hnn
    by_cases hlt : k < n
    · obtain ⟨b, off, x, rfl, hbb, hx, c0, c1, c2⟩ := (Sl.below HS.out hb (Nat.le_refl _)).sa hlt
      have HX := Lib.hid hx; clear hx
      have Y0 := Y.cell 0 _ rfl; have Y1 := Y.cell 1 _ rfl; have Ylt := Y.lt
      go_wp2_with fail
      have Z := Bx.new wr [.int .i64 x.y, .int .i64 x.h, .int .i64 x.l] 57
      have hb0 : Below w.heap.size w (wr.alloc (.cells #[.int .i64 x.y, .int .i64 x.h, .int .i64 x.l] 57)) := hb.alloc hb.size _
      replace Y := Y.alloc (.cells #[.int .i64 x.y, .int .i64 x.h, .int .i64 x.l] 57)
      clear Y0 Y1 Ylt c0 c1 c2 hb
      generalize wr.alloc (.cells #[.int .i64 x.y, .int .i64 x.h, .int .i64 x.l] 57) = W0 at *
      generalize wr.heap.size = bs at *
      go_loopw [19] (fun s wr => ∃ j : Nat, j ≤ n' ∧ s = .int .i64 (j : Int) ∧ (∀ t ∈ ys.take j, twiceS x t = false) ∧ Bx wr bs [.int .i64 x.y, .int .i64 x.h, .int .i64 x.l] ∧ Bx wr (w.heap.size + 1) [.int .i64 i', .slice A' n' c'] ∧ Below w.heap.size w wr) (fun s _ => n' - (intOf s).toNat)
      case atStart => exact ⟨0, by omega, rfl, by simp, Z, Y, hb0⟩
      case round =>
        clear Z Y hb0
        obtain ⟨j, hj, rfl, hmm, Z, Y, hb⟩ := hrel
        have HM := Lib.hid hmm; clear hmm
        by_cases hlj : j < n'
        · obtain ⟨b', off', y, rfl, hbb', hy, d0, d1, d2⟩ := (Sl.below HS'.out hb (Nat.le_refl _)).sa hlj
          have HY := Lib.hid hy; clear hy
          have hb1 : Below w.heap.size w (wr.alloc (.cells #[.int .i64 y.y, .int .i64 y.h, .int .i64 y.l] 57)) := hb.alloc hb.size _
          have HT : Hid (twiceS x y = (x.y == y.y && x.h == y.h && x.l != y.l)) := rfl
          have Z0 := Z.cell 0 _ rfl; have Z1 := Z.cell 1 _ rfl; have Z2 := Z.cell 2 _ rfl; have Zlt := Z.lt
          cases h1 : (x.y == y.y)
          · have HE : Hid (twiceS x y = false) := by show _ = _; rw [HT.out, h1]; rfl
            go_wp2_with fail
            go_roundw
            case rel => exact ⟨j + 1, by omega, by go_num, all_take (p := fun t => twiceS x t = false) HY.out HM.out HE.out, Z.alloc _, Y.alloc _, hb1⟩
            case measure => simp [intOf]; omega
          · cases h2 : (x.h == y.h)
            · have HE : Hid (twiceS x y = false) := by show _ = _; rw [HT.out, h1, h2]; rfl
              go_wp2_with fail
              go_roundw
              case rel => exact ⟨j + 1, by omega, by go_num, all_take (p := fun t => twiceS x t = false) HY.out HM.out HE.out, Z.alloc _, Y.alloc _, hb1⟩
              case measure => simp [intOf]; omega
            · cases h3 : (x.l != y.l)
              · have HE : Hid (twiceS x y = false) := by show _ = _; rw [HT.out, h1, h2, h3]; rfl
                go_wp2_with fail
                go_roundw
                case rel => exact ⟨j + 1, by omega, by go_num, all_take (p := fun t => twiceS x t = false) HY.out HM.out HE.out, Z.alloc _, Y.alloc _, hb1⟩
                case measure => simp [intOf]; omega
              · have HV : Hid (twiceB xs ys = true) := any_hit HX.out (any_hit HY.out (by rw [HT.out, h1, h2, h3]; rfl))
                go_wp2_with fail
                go_ret
                exact ⟨by rw [HV.out]; rfl, hb1⟩
        · obtain rfl : j = n' := by omega
          have HA : Hid (∀ x ∈ xs.take (k + 1), (ys.any fun t => twiceS x t) = false) := all_take (p := fun x => (ys.any fun t => twiceS x t) = false) HX.out HN.out (any_miss (by have h := HM.out; rwa [take_all HL'.out] at h))
          go_wp2_with fail
          go_roundw
          case rel => exact ⟨k + 1, by omega, by go_num, HA.out, Y, hb⟩
          case measure => simp [intOf]; omega
    · obtain rfl : k = n := by omega
      have HV : Hid (twiceB xs ys = false) := any_miss (by have h := HN.out; rwa [take_all HL.out] at h)
      go_wp2_with fail
      go_ret
      exact ⟨by rw [HV.out]; rfl, hb⟩
end Go.Proofs.YtccmchmemafjdaaGreatDoor
