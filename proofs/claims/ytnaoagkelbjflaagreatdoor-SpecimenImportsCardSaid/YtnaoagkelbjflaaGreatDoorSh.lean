/- Pairs of labels read: the program's ParsePairing. -/
import Derived.Test.YtnaoagkelbjflaaGreatDoorSg
import Derived.Test.YtnaoagkelbjflaaGreatDoorSfp
import Derived.RegionTactic
import Derived.BigRegion
set_option linter.unusedSimpArgs false
set_option linter.unusedVariables false
namespace Go.Proofs.YtnaoagkelbjflaaGreatDoor
open Go.RowKit

theorem parsePair_iff (l : List UInt8) (o r : Lab) : parsePair l = some (o, r) ↔ parseLab (Lib.cut l [47]).1 = some o ∧ parseLab (Lib.cut l [47]).2.1 = some r ∧ pairOk o r = true ∧ pairS o r = l := by
  constructor
  · intro h
    obtain ⟨h1, h2⟩ := parsePair_some h
    obtain ⟨k1, k2, _, _⟩ := (pairOk_iff o r).1 h1
    subst h2
    rw [pairS_ok h1, cut_hit1 47 _ _ (labS_slash o)]
    exact ⟨parseLab_text o k1, parseLab_text r k2, h1, rfl⟩
  · rintro ⟨h1, h2, h3, h4⟩
    rw [← h4]
    exact parsePair_text o r h3
def parsePairV (l : List UInt8) : Value := match parsePair l with
  | some (o, r) => .tuple #[.agg #[.int .i64 o.side, .int .i64 o.num, .int .i64 o.st], .agg #[.int .i64 r.side, .int .i64 r.num, .int .i64 r.st], .int .i64 0]
  | none => .tuple #[.agg #[.int .i64 0, .int .i64 0, .int .i64 0], .agg #[.int .i64 0, .int .i64 0, .int .i64 0], .int .i64 3]
theorem parsePairV_some {l : List UInt8} {o r : Lab} (h : parsePair l = some (o, r)) : parsePairV l = .tuple #[.agg #[.int .i64 o.side, .int .i64 o.num, .int .i64 o.st], .agg #[.int .i64 r.side, .int .i64 r.num, .int .i64 r.st], .int .i64 0] := by unfold parsePairV; rw [h]
theorem parsePairV_none {l : List UInt8} (h : parsePair l = none) : parsePairV l = .tuple #[.agg #[.int .i64 0, .int .i64 0, .int .i64 0], .agg #[.int .i64 0, .int .i64 0, .int .i64 0], .int .i64 3] := by unfold parsePairV; rw [h]
theorem cutb_len (s p : List UInt8) : (Lib.cut s p).1.length ≤ s.length ∧ (Lib.cut s p).2.1.length ≤ s.length := by
  unfold Lib.cut; split
  · simp [List.length_take, List.length_drop]; omega
  · simp
/-- The four tests behind which a pair is read. -/
theorem pp_cases (l : List UInt8) (a b : List UInt8) (ha : (Lib.cut l [47]).1 = a) (hb : (Lib.cut l [47]).2.1 = b) :
    ((parseLabE a != 0) = true ∧ parsePair l = none) ∨
    ((parseLabE a != 0) = false ∧ (parseLabE b != 0) = true ∧ parsePair l = none) ∨
    ((parseLabE a != 0) = false ∧ (parseLabE b != 0) = false ∧ (pairE (parseLabX a) (parseLabX b) != 0) = true ∧ parsePair l = none) ∨
    ((parseLabE a != 0) = false ∧ (parseLabE b != 0) = false ∧ (pairE (parseLabX a) (parseLabX b) != 0) = false ∧ ((pairS (parseLabX a) (parseLabX b)) == l) = false ∧ parsePair l = none) ∨
    ((parseLabE a != 0) = false ∧ (parseLabE b != 0) = false ∧ (pairE (parseLabX a) (parseLabX b) != 0) = false ∧ ((pairS (parseLabX a) (parseLabX b)) == l) = true ∧ parsePair l = some (parseLabX a, parseLabX b)) := by
  subst ha
  subst hb
  have key : parsePair l = none ∨ ∃ o r, parsePair l = some (o, r) := by
    cases h : parsePair l with
    | none => exact .inl rfl
    | some p => exact .inr ⟨p.1, p.2, rfl⟩
  have hn : ∀ {x y : Lab}, parseLab (Lib.cut l [47]).1 = some x → parseLab (Lib.cut l [47]).2.1 = some y → ¬ (pairOk x y = true ∧ pairS x y = l) → parsePair l = none := by
    intro x y hx hy hno
    rcases key with h | ⟨o, r, h⟩
    · exact h
    · obtain ⟨h1, h2, h3, h4⟩ := (parsePair_iff l o r).1 h
      rw [hx] at h1; rw [hy] at h2
      cases h1; cases h2
      exact absurd ⟨h3, h4⟩ hno
  unfold parseLabE parseLabX
  cases h1 : parseLab (Lib.cut l [47]).1 with
  | none =>
    refine .inl ⟨rfl, ?_⟩
    rcases key with h | ⟨o, r, h⟩
    · exact h
    · have := ((parsePair_iff l o r).1 h).1; rw [h1] at this; cases this
  | some o =>
    cases h2 : parseLab (Lib.cut l [47]).2.1 with
    | none =>
      refine .inr (.inl ⟨rfl, rfl, ?_⟩)
      rcases key with h | ⟨o', r, h⟩
      · exact h
      · have := ((parsePair_iff l o' r).1 h).2.1; rw [h2] at this; cases this
    | some r =>
      simp only [Option.getD_some, Option.isSome_some, if_true]
      unfold pairE
      by_cases h3 : pairOk o r = true
      · rw [if_pos h3]
        by_cases h4 : pairS o r = l
        · exact .inr (.inr (.inr (.inr ⟨rfl, rfl, rfl, by simpa using h4, (parsePair_iff l o r).2 ⟨h1, h2, h3, h4⟩⟩)))
        · exact .inr (.inr (.inr (.inl ⟨rfl, rfl, rfl, by simpa using h4, hn h1 h2 (fun h => h4 h.2)⟩)))
      · rw [if_neg h3]
        exact .inr (.inr (.inl ⟨rfl, rfl, rfl, hn h1 h2 (fun h => h3 h.1)⟩))

theorem two3 {w : World} {p q : Nat} {a0 a1 a2 b0 b1 b2 : Value} (hp : Bx w p [a0, a1, a2]) (hq : Bx w q [b0, b1, b2]) (hne : p ≠ q) (u0 u1 u2 v0 v1 v2 : Value) :
    Bx ((((((w.setCell ⟨p, 0, none⟩ u0).setCell ⟨p, 1, none⟩ u1).setCell ⟨p, 2, none⟩ u2).setCell ⟨q, 0, none⟩ v0).setCell ⟨q, 1, none⟩ v1).setCell ⟨q, 2, none⟩ v2) p [u0, u1, u2] ∧
    Bx ((((((w.setCell ⟨p, 0, none⟩ u0).setCell ⟨p, 1, none⟩ u1).setCell ⟨p, 2, none⟩ u2).setCell ⟨q, 0, none⟩ v0).setCell ⟨q, 1, none⟩ v1).setCell ⟨q, 2, none⟩ v2) q [v0, v1, v2] :=
  ⟨(((hp.all3 u0 u1 u2).far (p := ⟨q, 0, none⟩) (fun e => hne e.symm) v0).far (p := ⟨q, 1, none⟩) (fun e => hne e.symm) v1).far (p := ⟨q, 2, none⟩) (fun e => hne e.symm) v2,
   (((hq.far (p := ⟨p, 0, none⟩) hne u0).far (p := ⟨p, 1, none⟩) hne u1).far (p := ⟨p, 2, none⟩) hne u2).all3 v0 v1 v2⟩
set_option maxRecDepth 100000 in
set_option maxHeartbeats 1000000 in
theorem lppair_any (l : List UInt8) (w : World) (hs : l.length ≤ 5000) (hE : Env w) :
    Calls Tryz.prog 46 #[.string ⟨l.toArray⟩] w fun e w' => e = .returned (parsePairV l) ∧ Below w.heap.size w w' := by
  obtain ⟨hl1, hl2⟩ := cutb_len l [47]
  generalize ha : (Lib.cut l [47]).1 = a at *
  generalize hbb : (Lib.cut l [47]).2.1 = b at *
  have HC := Lib.hid (pp_cases l a b ha hbb)
  have HA := Lib.hid ha; clear ha
  have HB := Lib.hid hbb; clear hbb
  go_enter Tryz.func46, Tryz.ntmps46
  go_wp2_with fail
  refine (cutL l [47] _ (by omega) (hE.step (by (repeat (first | exact Below.refl _ _ | assumption | refine Below.alloc ?_ (by first | omega | (simp only [World.size_alloc]; omega) | (simp; done) | (simp; omega)) _ | refine Below.setCell ?_ (by first | omega | (simp only [World.size_alloc]; omega) | (simp; done) | (simp; omega)) _ | refine Below.drew ?_ | refine below_drewN ?_ _))))).mono ?_
  rintro e w1 ⟨rfl, hb1⟩
  rw [HA.out, HB.out]
  obtain ⟨_, hb, Z1, Z2⟩ := step2 (Below.refl _ _) hb1
  clear hb1
  go_wp2_with fail
  refine (lparse_any a _ (by omega) (hE.step hb)).mono ?_
  rintro e w2 ⟨rfl, hb2⟩
  (replace hb := hb.trans (hb2.mono hb.size)); replace Z1 := Z1.up hb2; replace Z2 := Z2.up hb2; clear hb2; (try clear Z10); (try clear Z11); (try clear Z12); (try clear Z1f0); (try clear Z1f1); (try clear Z1f2); (try clear Z1lt); (try clear Z20); (try clear Z21); (try clear Z22); (try clear Z2f0); (try clear Z2f1); (try clear Z2f2); (try clear Z2lt)
  unfold parseLabV
  go_wp2_with fail
  refine (lparse_any b _ (by omega) (hE.step (hb.alloc hb.size _))).mono ?_
  rintro e w3 ⟨rfl, hb3⟩
  have hbo : w.heap.size + 1 < w2.heap.size := Z2.lt
  obtain ⟨hw3, hb', O⟩ := step1 hb hb3
  replace Z1 := Z1.up hw3
  replace Z2 := Z2.up hw3
  clear hb hb3 hw3
  generalize w2.heap.size = bo at *
  unfold parseLabV
  have O0 := O.cell 0 _ rfl; have O1 := O.cell 1 _ rfl; have O2 := O.cell 2 _ rfl; have Olt := O.lt
  go_wp2_with fail
  refine (lpair_any (parseLabX a) (parseLabX b) _ (hE.step (hb'.alloc hb'.size _))).mono ?_
  rintro e w4 ⟨rfl, hb4⟩
  have hbr : w.heap.size + 1 < w3.heap.size := Z2.lt
  have hbor : bo < w3.heap.size := O.lt
  obtain ⟨hw4, hb, R⟩ := step1 hb' hb4
  replace Z1 := Z1.up hw4
  replace Z2 := Z2.up hw4
  replace O := O.up hw4
  clear hb' hb4 hw4 O0 O1 O2 Olt
  generalize w3.heap.size = br at *
  unfold pairV
  generalize parseLabE a = ea at *
  generalize parseLabE b = eb at *
  generalize pairE (parseLabX a) (parseLabX b) = ep at *
  rcases HC.out with ⟨h1, h⟩ | ⟨h1, h2, h⟩ | ⟨h1, h2, h3, h⟩ | ⟨h1, h2, h3, h4, h⟩ | ⟨h1, h2, h3, h4, h⟩
  case inr.inr.inr.inr =>
    have HV := Lib.hid (parsePairV_some h)
    clear h HC
    generalize parseLabX a = o at *
    generalize parseLabX b = r at *
    obtain ⟨o0, o1, o2⟩ := o
    obtain ⟨r0, r1, r2⟩ := r
    have O0 := O.cell 0 _ rfl; have Of0 := O.frz 0; have O1 := O.cell 1 _ rfl; have Of1 := O.frz 1; have O2 := O.cell 2 _ rfl; have Of2 := O.frz 2; have Olt := O.lt
    have R0 := R.cell 0 _ rfl; have Rf0 := R.frz 0; have R1 := R.cell 1 _ rfl; have Rf1 := R.frz 1; have R2 := R.cell 2 _ rfl; have Rf2 := R.frz 2; have Rlt := R.lt
    have Z10 := Z1.cell 0 _ rfl; have Z1f0 := Z1.frz 0; have Z11 := Z1.cell 1 _ rfl; have Z1f1 := Z1.frz 1; have Z12 := Z1.cell 2 _ rfl; have Z1f2 := Z1.frz 2; have Z1lt := Z1.lt
    have Z20 := Z2.cell 0 _ rfl; have Z2f0 := Z2.frz 0; have Z21 := Z2.cell 1 _ rfl; have Z2f1 := Z2.frz 1; have Z22 := Z2.cell 2 _ rfl; have Z2f2 := Z2.frz 2; have Z2lt := Z2.lt
    have n1 : ¬ bo = w.heap.size := by omega
    have n2 : ¬ bo = w.heap.size + 1 := by omega
    have n3 : ¬ br = w.heap.size := by omega
    have n4 : ¬ br = w.heap.size + 1 := by omega
    have n5 : ¬ w.heap.size = bo := by omega
    have n6 : ¬ w.heap.size + 1 = bo := by omega
    have n7 : ¬ w.heap.size = br := by omega
    have n8 : ¬ w.heap.size + 1 = br := by omega
    clear hbo hbr hbor
    go_wp2_with fail
    go_region
    all_goals
      go_wp2_with fail
      refine bodyPost_ret (v := parsePairV l) (by rw [HV.out]; simp [results, Tryz.results46, go_sem, (two3 Z1 Z2 (by simp) _ _ _ _ _ _).1.cell 0 _ rfl, (two3 Z1 Z2 (by simp) _ _ _ _ _ _).1.cell 1 _ rfl, (two3 Z1 Z2 (by simp) _ _ _ _ _ _).1.cell 2 _ rfl, (two3 Z1 Z2 (by simp) _ _ _ _ _ _).2.cell 0 _ rfl, (two3 Z1 Z2 (by simp) _ _ _ _ _ _).2.cell 1 _ rfl, (two3 Z1 Z2 (by simp) _ _ _ _ _ _).2.cell 2 _ rfl]) rfl ⟨rfl, ?_⟩
      exact Below.drew ((((((hb.setCell (by simp) _).setCell (by simp) _).setCell (by simp) _).setCell (by simp) _).setCell (by simp) _).setCell (by simp) _)
  all_goals
    have HV := Lib.hid (parsePairV_none h)
    clear h HC
    have Z10 := Z1.cell 0 _ rfl; have Z1f0 := Z1.frz 0; have Z11 := Z1.cell 1 _ rfl; have Z1f1 := Z1.frz 1; have Z12 := Z1.cell 2 _ rfl; have Z1f2 := Z1.frz 2; have Z1lt := Z1.lt
    have Z20 := Z2.cell 0 _ rfl; have Z2f0 := Z2.frz 0; have Z21 := Z2.cell 1 _ rfl; have Z2f1 := Z2.frz 1; have Z22 := Z2.cell 2 _ rfl; have Z2f2 := Z2.frz 2; have Z2lt := Z2.lt
    go_wp2_with fail
    refine bodyPost_ret (v := parsePairV l) (by rw [HV.out]; simp [results, Tryz.results46, go_sem, (two3 Z1 Z2 (by simp) _ _ _ _ _ _).1.cell 0 _ rfl, (two3 Z1 Z2 (by simp) _ _ _ _ _ _).1.cell 1 _ rfl, (two3 Z1 Z2 (by simp) _ _ _ _ _ _).1.cell 2 _ rfl, (two3 Z1 Z2 (by simp) _ _ _ _ _ _).2.cell 0 _ rfl, (two3 Z1 Z2 (by simp) _ _ _ _ _ _).2.cell 1 _ rfl, (two3 Z1 Z2 (by simp) _ _ _ _ _ _).2.cell 2 _ rfl]) rfl ⟨rfl, ?_⟩
    exact (((((hb.setCell (by simp) _).setCell (by simp) _).setCell (by simp) _).setCell (by simp) _).setCell (by simp) _).setCell (by simp) _
end Go.Proofs.YtnaoagkelbjflaaGreatDoor
