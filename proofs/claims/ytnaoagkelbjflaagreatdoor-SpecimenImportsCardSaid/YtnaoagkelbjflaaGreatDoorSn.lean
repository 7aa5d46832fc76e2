/- A specimen read: the program's Parse. -/
import Derived.Test.YtnaoagkelbjflaaGreatDoorSj
import Derived.Test.YtnaoagkelbjflaaGreatDoorSh
import Derived.Test.YtnaoagkelbjflaaGreatDoorSn0
set_option linter.unusedSimpArgs false
set_option linter.unusedVariables false
namespace Go.Proofs.YtnaoagkelbjflaaGreatDoor
open Go.RowKit

def parseSpX (l : List UInt8) : Spm := (parseSp l).getD spZero
def parseSpE (l : List UInt8) : Int := if (parseSp l).isSome then 0 else 3
def parseSpV (l : List UInt8) : Value := .tuple #[.agg #[.int .i64 ((parseSpX l)).id, .int .i64 ((parseSpX l)).obv, .int .i64 ((parseSpX l)).rev, .int .i64 ((parseSpX l)).os, .int .i64 ((parseSpX l)).rs, .int .i64 ((parseSpX l)).ax, .int .i64 ((parseSpX l)).wt], .int .i64 (parseSpE l)]
theorem parseSpV_some {l : List UInt8} {x : Spm} (h : parseSp l = some x) : parseSpV l = .tuple #[.agg #[.int .i64 x.id, .int .i64 x.obv, .int .i64 x.rev, .int .i64 x.os, .int .i64 x.rs, .int .i64 x.ax, .int .i64 x.wt], .int .i64 0] := by
  unfold parseSpV parseSpX parseSpE; rw [h]; rfl
theorem parseSpV_none {l : List UInt8} (h : parseSp l = none) : parseSpV l = .tuple #[.agg #[.int .i64 0, .int .i64 0, .int .i64 0, .int .i64 0, .int .i64 0, .int .i64 0, .int .i64 0], .int .i64 3] := by
  unfold parseSpV parseSpX parseSpE; rw [h]; rfl
theorem parsePair_C {l : List UInt8} {o r : Lab} (h : parsePair l = some (o, r)) : pairC l = (o, r) := by
  unfold parsePair at h
  split at h
  · exact Option.some.inj h
  · cases h
/-- A pair that is read, or is not. -/
theorem pp_form (l : List UInt8) : ∃ (o r : Lab) (e : Int), parsePairV l = .tuple #[.agg #[.int .i64 o.side, .int .i64 o.num, .int .i64 o.st], .agg #[.int .i64 r.side, .int .i64 r.num, .int .i64 r.st], .int .i64 e] ∧ (((e != 0) = true ∧ parsePair l = none) ∨ ((e != 0) = false ∧ pairC l = (o, r))) := by
  cases h : parsePair l with
  | none => exact ⟨⟨0, 0, 0⟩, ⟨0, 0, 0⟩, 3, parsePairV_none h, .inl ⟨rfl, rfl⟩⟩
  | some p => exact ⟨p.1, p.2, 0, parsePairV_some h, .inr ⟨rfl, parsePair_C h⟩⟩
theorem keep5w {w0 w w1 : World} {b p q : Nat} {s o1 o2 r1 r2 : Value} {off : Nat} (hb0 : b < w0.heap.size) (hp : p < w0.heap.size) (hq : q < w0.heap.size)
    (H : w.cell? ⟨b, off, none⟩ = some s ∧ w.cell? ⟨p, 1, none⟩ = some o1 ∧ w.cell? ⟨p, 2, none⟩ = some o2 ∧ w.cell? ⟨q, 1, none⟩ = some r1 ∧ w.cell? ⟨q, 2, none⟩ = some r2 ∧ Below w0.heap.size w0 w) (hb : Below w.heap.size w w1) :
    w1.cell? ⟨b, off, none⟩ = some s ∧ w1.cell? ⟨p, 1, none⟩ = some o1 ∧ w1.cell? ⟨p, 2, none⟩ = some o2 ∧ w1.cell? ⟨q, 1, none⟩ = some r1 ∧ w1.cell? ⟨q, 2, none⟩ = some r2 ∧ Below w0.heap.size w0 w1 := by
  obtain ⟨h1, h2, h3, h4, h5, h6⟩ := H
  have hz := h6.size
  have k : ∀ g j u, g < w0.heap.size → w.cell? ⟨g, j, none⟩ = some u → w1.cell? ⟨g, j, none⟩ = some u := fun g j u hg h => (hb.cell (p := ⟨g, j, none⟩) (by show g < _; omega)).trans h
  exact ⟨k _ _ _ hb0 h1, k _ _ _ hp h2, k _ _ _ hp h3, k _ _ _ hq h4, k _ _ _ hq h5, h6.trans (hb.mono hz)⟩
theorem env5w {w0 w : World} {b p q : Nat} {s o1 o2 r1 r2 : Value} {off : Nat} (hE : Env w0)
    (H : w.cell? ⟨b, off, none⟩ = some s ∧ w.cell? ⟨p, 1, none⟩ = some o1 ∧ w.cell? ⟨p, 2, none⟩ = some o2 ∧ w.cell? ⟨q, 1, none⟩ = some r1 ∧ w.cell? ⟨q, 2, none⟩ = some r2 ∧ Below w0.heap.size w0 w) : Env w := hE.step H.2.2.2.2.2

theorem keep5d {V : World} {b p q : Nat} {s o1 o2 r1 r2 : Value} {off : Nat} (h1 : V.cell? ⟨b, off, none⟩ = some s) (h2 : V.cell? ⟨p, 1, none⟩ = some o1) (h3 : V.cell? ⟨p, 2, none⟩ = some o2) (h4 : V.cell? ⟨q, 1, none⟩ = some r1) (h5 : V.cell? ⟨q, 2, none⟩ = some r2) :
    V.drew.cell? ⟨b, off, none⟩ = some s ∧ V.drew.cell? ⟨p, 1, none⟩ = some o1 ∧ V.drew.cell? ⟨p, 2, none⟩ = some o2 ∧ V.drew.cell? ⟨q, 1, none⟩ = some r1 ∧ V.drew.cell? ⟨q, 2, none⟩ = some r2 ∧ Below V.heap.size V V.drew := ⟨h1, h2, h3, h4, h5, Below.drew (Below.refl _ _)⟩
theorem keep5s {w0 w : World} {b p q g : Nat} {s o1 o2 r1 r2 u0 u1 u2 u3 u4 u5 u6 : Value} {off : Nat} (hb0 : b < w0.heap.size) (hp : p < w0.heap.size) (hq : q < w0.heap.size) (hg : w0.heap.size ≤ g)
    (H : w.cell? ⟨b, off, none⟩ = some s ∧ w.cell? ⟨p, 1, none⟩ = some o1 ∧ w.cell? ⟨p, 2, none⟩ = some o2 ∧ w.cell? ⟨q, 1, none⟩ = some r1 ∧ w.cell? ⟨q, 2, none⟩ = some r2 ∧ Below w0.heap.size w0 w) :
    (((((((w.setCell ⟨g, 0, none⟩ u0).setCell ⟨g, 1, none⟩ u1).setCell ⟨g, 2, none⟩ u2).setCell ⟨g, 3, none⟩ u3).setCell ⟨g, 4, none⟩ u4).setCell ⟨g, 5, none⟩ u5).setCell ⟨g, 6, none⟩ u6).cell? ⟨b, off, none⟩ = some s ∧
    (((((((w.setCell ⟨g, 0, none⟩ u0).setCell ⟨g, 1, none⟩ u1).setCell ⟨g, 2, none⟩ u2).setCell ⟨g, 3, none⟩ u3).setCell ⟨g, 4, none⟩ u4).setCell ⟨g, 5, none⟩ u5).setCell ⟨g, 6, none⟩ u6).cell? ⟨p, 1, none⟩ = some o1 ∧
    (((((((w.setCell ⟨g, 0, none⟩ u0).setCell ⟨g, 1, none⟩ u1).setCell ⟨g, 2, none⟩ u2).setCell ⟨g, 3, none⟩ u3).setCell ⟨g, 4, none⟩ u4).setCell ⟨g, 5, none⟩ u5).setCell ⟨g, 6, none⟩ u6).cell? ⟨p, 2, none⟩ = some o2 ∧
    (((((((w.setCell ⟨g, 0, none⟩ u0).setCell ⟨g, 1, none⟩ u1).setCell ⟨g, 2, none⟩ u2).setCell ⟨g, 3, none⟩ u3).setCell ⟨g, 4, none⟩ u4).setCell ⟨g, 5, none⟩ u5).setCell ⟨g, 6, none⟩ u6).cell? ⟨q, 1, none⟩ = some r1 ∧
    (((((((w.setCell ⟨g, 0, none⟩ u0).setCell ⟨g, 1, none⟩ u1).setCell ⟨g, 2, none⟩ u2).setCell ⟨g, 3, none⟩ u3).setCell ⟨g, 4, none⟩ u4).setCell ⟨g, 5, none⟩ u5).setCell ⟨g, 6, none⟩ u6).cell? ⟨q, 2, none⟩ = some r2 ∧
    Below w0.heap.size w0 (((((((w.setCell ⟨g, 0, none⟩ u0).setCell ⟨g, 1, none⟩ u1).setCell ⟨g, 2, none⟩ u2).setCell ⟨g, 3, none⟩ u3).setCell ⟨g, 4, none⟩ u4).setCell ⟨g, 5, none⟩ u5).setCell ⟨g, 6, none⟩ u6) := by
  obtain ⟨h1, h2, h3, h4, h5, h6⟩ := H
  have hB : Below w0.heap.size w (((((((w.setCell ⟨g, 0, none⟩ u0).setCell ⟨g, 1, none⟩ u1).setCell ⟨g, 2, none⟩ u2).setCell ⟨g, 3, none⟩ u3).setCell ⟨g, 4, none⟩ u4).setCell ⟨g, 5, none⟩ u5).setCell ⟨g, 6, none⟩ u6) := below_set7 (Below.refl _ _) hg _ _ _ _ _ _ _
  exact ⟨(hB.cell hb0).trans h1, (hB.cell hp).trans h2, (hB.cell hp).trans h3, (hB.cell hq).trans h4, (hB.cell hq).trans h5, h6.trans hB⟩
theorem new7_facts {V w3 : World} {u0 u1 u2 u3 u4 u5 u6 : Value} {t : TypeId} (hb : Below (V.alloc (.cells #[u0, u1, u2, u3, u4, u5, u6] t)).drew.heap.size (V.alloc (.cells #[u0, u1, u2, u3, u4, u5, u6] t)).drew w3) :
    w3.cell? ⟨V.heap.size, 0, none⟩ = some u0 ∧ w3.cell? ⟨V.heap.size, 1, none⟩ = some u1 ∧ w3.cell? ⟨V.heap.size, 2, none⟩ = some u2 ∧ w3.cell? ⟨V.heap.size, 3, none⟩ = some u3 ∧ w3.cell? ⟨V.heap.size, 4, none⟩ = some u4 ∧ w3.cell? ⟨V.heap.size, 5, none⟩ = some u5 ∧ w3.cell? ⟨V.heap.size, 6, none⟩ = some u6 ∧
    w3.frozen? ⟨V.heap.size, 0, none⟩ = false ∧ w3.frozen? ⟨V.heap.size, 1, none⟩ = false ∧ w3.frozen? ⟨V.heap.size, 2, none⟩ = false ∧ w3.frozen? ⟨V.heap.size, 3, none⟩ = false ∧ w3.frozen? ⟨V.heap.size, 4, none⟩ = false ∧ w3.frozen? ⟨V.heap.size, 5, none⟩ = false ∧ w3.frozen? ⟨V.heap.size, 6, none⟩ = false ∧ V.heap.size < w3.heap.size := by
  have h := ((Bx.new V [u0, u1, u2, u3, u4, u5, u6] t).up (w' := (V.alloc (.cells #[u0, u1, u2, u3, u4, u5, u6] t)).drew) (Below.drew (Below.refl _ _))).up (w' := w3) hb
  exact ⟨h.cell 0 _ rfl, h.cell 1 _ rfl, h.cell 2 _ rfl, h.cell 3 _ rfl, h.cell 4 _ rfl, h.cell 5 _ rfl, h.cell 6 _ rfl, h.frz 0, h.frz 1, h.frz 2, h.frz 3, h.frz 4, h.frz 5, h.frz 6, h.lt⟩
theorem new7_cont {V w3 : World} {u0 u1 u2 u3 u4 u5 u6 : Value} {t : TypeId} {G : Prop} (hb : Below (V.alloc (.cells #[u0, u1, u2, u3, u4, u5, u6] t)).drew.heap.size (V.alloc (.cells #[u0, u1, u2, u3, u4, u5, u6] t)).drew w3)
    (h : (w3.cell? ⟨V.heap.size, 0, none⟩ = some u0 ∧ w3.cell? ⟨V.heap.size, 1, none⟩ = some u1 ∧ w3.cell? ⟨V.heap.size, 2, none⟩ = some u2 ∧ w3.cell? ⟨V.heap.size, 3, none⟩ = some u3 ∧ w3.cell? ⟨V.heap.size, 4, none⟩ = some u4 ∧ w3.cell? ⟨V.heap.size, 5, none⟩ = some u5 ∧ w3.cell? ⟨V.heap.size, 6, none⟩ = some u6 ∧
    w3.frozen? ⟨V.heap.size, 0, none⟩ = false ∧ w3.frozen? ⟨V.heap.size, 1, none⟩ = false ∧ w3.frozen? ⟨V.heap.size, 2, none⟩ = false ∧ w3.frozen? ⟨V.heap.size, 3, none⟩ = false ∧ w3.frozen? ⟨V.heap.size, 4, none⟩ = false ∧ w3.frozen? ⟨V.heap.size, 5, none⟩ = false ∧ w3.frozen? ⟨V.heap.size, 6, none⟩ = false ∧ V.heap.size < w3.heap.size) → G) : G := h (new7_facts hb)
set_option maxRecDepth 100000 in
set_option maxHeartbeats 2000000 in
theorem sparse_any (l : List UInt8) (w : World) (hs : l.length ≤ 5000) (hE : Env w) :
    Calls Tryz.prog 17 #[.string ⟨l.toArray⟩] w fun e w' => e = .returned (parseSpV l) ∧ Below w.heap.size w w' := by
  have HSP : Hid (parseSp l = if validS (spC l) && textSp (spC l) == l then some (spC l) else none) := rfl
  have HWL := Lib.hid (wordsL_len 32 l)
  go_enter Tryz.func17, Tryz.ntmps17
  go_wp2_with fail
  refine (split_any 32 l _ (by omega) (hE.step (by (repeat (first | exact Below.refl _ _ | assumption | refine Below.alloc ?_ (by first | omega | (simp only [World.size_alloc]; omega) | (simp; done) | (simp; omega)) _ | refine Below.setCell ?_ (by first | omega | (simp only [World.size_alloc]; omega) | (simp; done) | (simp; omega)) _ | refine Below.drew ?_ | refine below_drewN ?_ _))))).mono ?_
  rintro e w1 ⟨A, cap, rfl, hS, hb1⟩
  obtain ⟨_, hb, Z⟩ := step1 (Below.refl _ _) hb1
  clear hb1
  replace hS := hS.any
  by_cases h4 : (wordsL 32 l).length = 4
  · obtain ⟨w0, w1', w2', w3', hw⟩ : ∃ a b c d, wordsL 32 l = [a, b, c, d] := by
      match hq : wordsL 32 l, h4 with
      | [a, b, c, d], _ => exact ⟨a, b, c, d, rfl⟩
    have q0 : wordAt l 0 = w0 := by unfold wordAt; rw [hw]; rfl
    have q1 : wordAt l 1 = w1' := by unfold wordAt; rw [hw]; rfl
    have q2 : wordAt l 2 = w2' := by unfold wordAt; rw [hw]; rfl
    have q3 : wordAt l 3 = w3' := by unfold wordAt; rw [hw]; rfl
    have l0 := HWL.out w0 (by rw [hw]; simp)
    have l1 := HWL.out w1' (by rw [hw]; simp)
    have l2 := HWL.out w2' (by rw [hw]; simp)
    have l3 := HWL.out w3' (by rw [hw]; simp)
    rw [hw] at hS ⊢
    simp only [List.length_cons, List.length_nil, Nat.zero_add, Nat.reduceAdd] at hS ⊢
    have hn0 : w0.length ≤ 100000 := by omega
    have HQ0 := Lib.hid q0
    have HQ1 := Lib.hid q1
    have HQ2 := Lib.hid q2
    have HQ3 := Lib.hid q3
    clear q0 q1 q2 q3 hw h4 HWL
    obtain ⟨b, off, rfl, W⟩ := Rw.of_strs hS (by omega)
    clear hS
    simp only [List.map_cons, List.map_nil] at W
    have W0 := W.cell 0 _ rfl; have W1 := W.cell 1 _ rfl; have W2 := W.cell 2 _ rfl; have W3 := W.cell 3 _ rfl; have Wlt := W.lt; simp only [Nat.add_zero] at W0
    go_wp2_with fail
    refine (lppair_any w1' _ (by omega) (hE.step hb)).mono ?_
    rintro e w2 ⟨rfl, hb2⟩
    (replace hb := hb.trans (hb2.mono hb.size)); replace Z := Z.up hb2; replace W := W.up hb2; clear hb2; (try clear Z0); (try clear Z1); (try clear Z2); (try clear Z3); (try clear Z4); (try clear Z5); (try clear Z6); (try clear Zf0); (try clear Zf1); (try clear Zf2); (try clear Zf3); (try clear Zf4); (try clear Zf5); (try clear Zf6); (try clear Zlt); (try clear W0); (try clear W1); (try clear W2); (try clear W3); (try clear Wlt)
    obtain ⟨o, r, ep, hpv, hpc⟩ := pp_form w1'
    rw [hpv]
    clear hpv
    rcases hpc with ⟨h1, hno⟩ | ⟨h1, hpc⟩
    · have HV : Hid (parseSpV l = .tuple #[.agg #[.int .i64 0, .int .i64 0, .int .i64 0, .int .i64 0, .int .i64 0, .int .i64 0, .int .i64 0], .int .i64 3]) := by
        show _ = _
        refine parseSpV_none ?_
        cases h : parseSp l with
        | none => rfl
        | some x =>
          have := (parseSp_words h).2.1
          rw [HQ1.out, hno] at this
          cases this
      clear hno
      have Z0 := Z.cell 0 _ rfl; have Zf0 := Z.frz 0; have Z1 := Z.cell 1 _ rfl; have Zf1 := Z.frz 1; have Z2 := Z.cell 2 _ rfl; have Zf2 := Z.frz 2; have Z3 := Z.cell 3 _ rfl; have Zf3 := Z.frz 3; have Z4 := Z.cell 4 _ rfl; have Zf4 := Z.frz 4; have Z5 := Z.cell 5 _ rfl; have Zf5 := Z.frz 5; have Z6 := Z.cell 6 _ rfl; have Zf6 := Z.frz 6; have Zlt := Z.lt
      go_wp2_with fail
      refine bodyPost_ret (v := parseSpV l) (by rw [HV.out]; simp [results, Tryz.results17, go_sem, (((Z.all7 _ _ _ _ _ _ _).alloc _).alloc _).cell 0 _ rfl, (((Z.all7 _ _ _ _ _ _ _).alloc _).alloc _).cell 1 _ rfl, (((Z.all7 _ _ _ _ _ _ _).alloc _).alloc _).cell 2 _ rfl, (((Z.all7 _ _ _ _ _ _ _).alloc _).alloc _).cell 3 _ rfl, (((Z.all7 _ _ _ _ _ _ _).alloc _).alloc _).cell 4 _ rfl, (((Z.all7 _ _ _ _ _ _ _).alloc _).alloc _).cell 5 _ rfl, (((Z.all7 _ _ _ _ _ _ _).alloc _).alloc _).cell 6 _ rfl]) rfl ⟨rfl, ?_⟩
      exact Below.alloc (Below.alloc (below_set7 hb (Nat.le_refl _) _ _ _ _ _ _ _) (by simp only [size_set]; exact hb.size) _) (by simp only [World.size_alloc, size_set]; have := hb.size; omega) _
    · have HPC := Lib.hid hpc; clear hpc
      obtain ⟨o0, o1, o2⟩ := o
      obtain ⟨r0, r1, r2⟩ := r
      go_wp2_with fail
      obtain ⟨hbV, O, R⟩ := two_new w2 [.int .i64 o0, .int .i64 o1, .int .i64 o2] [.int .i64 r0, .int .i64 r1, .int .i64 r2] 55 55
      generalize hV : (w2.alloc (.cells #[.int .i64 o0, .int .i64 o1, .int .i64 o2] 55)).alloc (.cells #[.int .i64 r0, .int .i64 r1, .int .i64 r2] 55) = V at *
      clear hV
      replace W := W.up hbV
      replace Z := Z.up hbV
      replace hb := hb.trans (hbV.mono hb.size)
      generalize w2.heap.size = bo at *
      clear hbV
      have hE2 := hE.step hb
      have W0 := W.cell 0 _ rfl; have Wlt := W.lt; simp only [Nat.add_zero] at W0
      have O0 := O.cell 0 _ rfl; have O1 := O.cell 1 _ rfl; have O2 := O.cell 2 _ rfl; have Olt := O.lt
      have R0 := R.cell 0 _ rfl; have R1 := R.cell 1 _ rfl; have R2 := R.cell 2 _ rfl; have Rlt := R.lt
      go_cut [8] (fun s8 wx => ∃ p, s8 = .pointer (some ⟨p, 0, none⟩) ∧ Bx wx p [.int .i64 (numL w0), .int .i64 o1, .int .i64 r1, .int .i64 o2, .int .i64 r2, .int .i64 0, .int .i64 0] ∧ V.heap.size ≤ p ∧ Below V.heap.size V wx)
      case first =>
        have HK : Hid (∀ X, Below V.heap.size V X → X.cell? ⟨bo, 1, none⟩ = some (.int .i64 o1) ∧ X.cell? ⟨bo, 2, none⟩ = some (.int .i64 o2) ∧ X.cell? ⟨bo + 1, 1, none⟩ = some (.int .i64 r1) ∧ X.cell? ⟨bo + 1, 2, none⟩ = some (.int .i64 r2) ∧ bo < X.heap.size ∧ bo + 1 < X.heap.size ∧ V.heap.size ≤ X.heap.size) :=
          fun X hX => ⟨(O.up hX).cell 1 _ rfl, (O.up hX).cell 2 _ rfl, (R.up hX).cell 1 _ rfl, (R.up hX).cell 2 _ rfl, (O.up hX).lt, (R.up hX).lt, hX.size⟩
        clear HK
        go_region_held3 (fun X => X.cell? ⟨b, off, none⟩ = some (.string ⟨w0.toArray⟩) ∧ X.cell? ⟨bo, 1, none⟩ = some (.int .i64 o1) ∧ X.cell? ⟨bo, 2, none⟩ = some (.int .i64 o2) ∧ X.cell? ⟨bo + 1, 1, none⟩ = some (.int .i64 r1) ∧ X.cell? ⟨bo + 1, 2, none⟩ = some (.int .i64 r2) ∧ Below V.heap.size V X)
          (first | with_reducible exact keep5d W0 O1 O2 R1 R2 | with_reducible exact keep5s Wlt Olt Rlt (Nat.le_refl _) (by assumption) | with_reducible exact keep5w Wlt Olt Rlt (by assumption) (by assumption) | with_reducible exact keep5w Wlt Olt Rlt (by assumption) (one_alloc _ _) | with_reducible exact keep5w Wlt Olt Rlt (keep5w (w := V.drew) Wlt Olt Rlt (keep5d W0 O1 O2 R1 R2) (by assumption)) (one_alloc _ _))
          (first
            | (go_at_call 47; ((with_reducible refine (number_any w0 _ hn0 (env5w hE2 (by assumption))).mono ?_); rintro e w3 ⟨rfl, hb3⟩; first | ((with_reducible refine new7_cont hb3 ?_); rintro ⟨N0, N1, N2, N3, N4, N5, N6, M0, M1, M2, M3, M4, M5, M6, hq4⟩) | skip)))
        · go_wp2_with fail
          go_meet
          rename_i hH
          exact ⟨w3.heap.size, rfl, Bx.new w3 _ _, hb3.size, hH.2.2.2.2.2⟩
        · go_wp2_with fail
          go_meet
          rename_i hH
          exact ⟨V.heap.size, rfl, (((Bx.new V [.int .i64 0, .int .i64 0, .int .i64 0, .int .i64 0, .int .i64 0, .int .i64 0, .int .i64 0] 23).up (w' := (V.alloc (.cells #[.int .i64 0, .int .i64 0, .int .i64 0, .int .i64 0, .int .i64 0, .int .i64 0, .int .i64 0] 23)).drew) (Below.drew (Below.refl _ _))).up (w' := w3) hb3).all7 _ _ _ _ _ _ _, Nat.le_refl _, hH.2.2.2.2.2⟩
      case rest =>
        obtain ⟨p, rfl, P, hp, hbp⟩ := hcut
        have n1 : ¬ p = b := by omega
        have n2 : ¬ p = w.heap.size := by have := Z.lt; omega
        have n3 : ¬ b = p := by omega
        have n4 : ¬ w.heap.size = p := by omega
        have hwp : w.heap.size ≤ p := by have := hb.size; omega
        clear W0 Wlt O0 O1 O2 Olt R0 R1 R2 Rlt O R hE2
        replace W := W.up hbp
        replace Z := Z.up hbp
        replace hb := hb.trans (hbp.mono hb.size)
        clear hbp hp
        generalize bo = bo' at *
        have W0 := W.cell 0 _ rfl; have W1 := W.cell 1 _ rfl; have W2 := W.cell 2 _ rfl; have W3 := W.cell 3 _ rfl; have Wlt := W.lt; simp only [Nat.add_zero] at W0
        clear W0 W1 W3
        go_wp2_with fail
        refine (trims_any w2' [104] _ (by omega)).mono ?_; rintro e w4 ⟨rfl, rfl⟩
        go_wp2_with fail
        have ht := trimS_len w2' [104]
        refine (number_any (Lib.trimSuffix w2' [104]) _ (by omega) (hE.step hb)).mono ?_; rintro e w4 ⟨rfl, hb4⟩
        clear W2 Wlt
        (replace hb := hb.trans (hb4.mono hb.size)); replace Z := Z.up hb4; replace W := W.up hb4; replace P := P.up hb4; clear hb4; (try clear Z0); (try clear Z1); (try clear Z2); (try clear Z3); (try clear Z4); (try clear Z5); (try clear Z6); (try clear Zf0); (try clear Zf1); (try clear Zf2); (try clear Zf3); (try clear Zf4); (try clear Zf5); (try clear Zf6); (try clear Zlt); (try clear W0); (try clear W1); (try clear W2); (try clear W3); (try clear Wlt); (try clear P0); (try clear P1); (try clear P2); (try clear P3); (try clear P4); (try clear P5); (try clear P6); (try clear Pf0); (try clear Pf1); (try clear Pf2); (try clear Pf3); (try clear Pf4); (try clear Pf5); (try clear Pf6); (try clear Plt)
        have hax : IntKind.i64.wrap ((numL (Lib.trimSuffix w2' [104])).tmod 12) = (numL (Lib.trimSuffix w2' [104])).tmod 12 := by
          have := Int.tmod_lt_of_pos (numL (Lib.trimSuffix w2' [104])) (show (0 : Int) < 12 by decide)
          have := Int.lt_tmod_of_pos (numL (Lib.trimSuffix w2' [104])) (show (0 : Int) < 12 by decide)
          exact IntWalk.i64_in _ (by omega)
        have HAX : Hid ((spC l).ax = (numL (Lib.trimSuffix w2' [104])).tmod 12) := by show (numL (Lib.trimSuffix (wordAt l 2) [104])).tmod 12 = _; rw [HQ2.out]
        generalize (numL (Lib.trimSuffix w2' [104])) = nax at *
        have P0 := P.cell 0 _ rfl; have Pf0 := P.frz 0; have P1 := P.cell 1 _ rfl; have Pf1 := P.frz 1; have P2 := P.cell 2 _ rfl; have Pf2 := P.frz 2; have P3 := P.cell 3 _ rfl; have Pf3 := P.frz 3; have P4 := P.cell 4 _ rfl; have Pf4 := P.frz 4; have P5 := P.cell 5 _ rfl; have Pf5 := P.frz 5; have P6 := P.cell 6 _ rfl; have Pf6 := P.frz 6; have Plt := P.lt
        have W0 := W.cell 0 _ rfl; have W1 := W.cell 1 _ rfl; have W2 := W.cell 2 _ rfl; have W3 := W.cell 3 _ rfl; have Wlt := W.lt; simp only [Nat.add_zero] at W0
        clear W0 W1 W2
        go_wp2_with fail
        replace P := P.set (i := 5) (by simp) (.int .i64 (nax.tmod 12))
        replace Z := Z.far (p := ⟨p, 5, none⟩) (by simpa using n2) (.int .i64 (nax.tmod 12))
        replace hb := hb.setCell (p := ⟨p, 5, none⟩) (by exact hwp) (.int .i64 (nax.tmod 12))
        simp only [List.set_cons_succ, List.set_cons_zero] at P
        refine (repl_any w3' 46 _ (by omega) (hE.step hb)).mono ?_; rintro e w5 ⟨rfl, hb5⟩
        clear W W3 Wlt P0 P1 P2 P3 P4 P5 P6 Pf0 Pf1 Pf2 Pf3 Pf4 Pf5 Pf6 Plt
        (replace hb := hb.trans (hb5.mono hb.size)); replace Z := Z.up hb5; replace P := P.up hb5; clear hb5; (try clear Z0); (try clear Z1); (try clear Z2); (try clear Z3); (try clear Z4); (try clear Z5); (try clear Z6); (try clear Zf0); (try clear Zf1); (try clear Zf2); (try clear Zf3); (try clear Zf4); (try clear Zf5); (try clear Zf6); (try clear Zlt); (try clear P0); (try clear P1); (try clear P2); (try clear P3); (try clear P4); (try clear P5); (try clear P6); (try clear Pf0); (try clear Pf1); (try clear Pf2); (try clear Pf3); (try clear Pf4); (try clear Pf5); (try clear Pf6); (try clear Plt)
        have hrl := replace_len 46 w3' 1
        have HWT : Hid ((spC l).wt = numL (Lib.replace w3' [46] [] 1)) := by show numL (Lib.replace (wordAt l 3) [46] [] 1) = _; rw [HQ3.out]
        generalize Lib.replace w3' [46] [] 1 = rp at *
        go_wp2_with fail
        refine (number_any rp _ (by omega) (hE.step hb)).mono ?_; rintro e w6 ⟨rfl, hb6⟩
        (replace hb := hb.trans (hb6.mono hb.size)); replace Z := Z.up hb6; replace P := P.up hb6; clear hb6; (try clear Z0); (try clear Z1); (try clear Z2); (try clear Z3); (try clear Z4); (try clear Z5); (try clear Z6); (try clear Zf0); (try clear Zf1); (try clear Zf2); (try clear Zf3); (try clear Zf4); (try clear Zf5); (try clear Zf6); (try clear Zlt); (try clear P0); (try clear P1); (try clear P2); (try clear P3); (try clear P4); (try clear P5); (try clear P6); (try clear Pf0); (try clear Pf1); (try clear Pf2); (try clear Pf3); (try clear Pf4); (try clear Pf5); (try clear Pf6); (try clear Plt)
        generalize numL rp = nw at *
        have HX : Hid (spC l = ⟨numL w0, o1, r1, o2, r2, nax.tmod 12, nw⟩) := by
          show _ = _
          have e0 : (spC l).id = numL w0 := by show numL (wordAt l 0) = _; rw [HQ0.out]
          have e1 : pairC (wordAt l 1) = (⟨o0, o1, o2⟩, ⟨r0, r1, r2⟩) := by rw [HQ1.out]; exact HPC.out
          have e2 : (spC l).obv = o1 := by show (pairC (wordAt l 1)).1.num = _; rw [e1]
          have e3 : (spC l).rev = r1 := by show (pairC (wordAt l 1)).2.num = _; rw [e1]
          have e4 : (spC l).os = o2 := by show (pairC (wordAt l 1)).1.st = _; rw [e1]
          have e5 : (spC l).rs = r2 := by show (pairC (wordAt l 1)).2.st = _; rw [e1]
          have e6 := HAX.out
          have e7 := HWT.out
          revert e0 e2 e3 e4 e5 e6 e7
          generalize spC l = x
          obtain ⟨x0, x1, x2, x3, x4, x5, x6⟩ := x
          simp only
          rintro rfl rfl rfl rfl rfl rfl rfl
          rfl
        clear HAX HWT HPC HQ0 HQ1 HQ2 HQ3
        generalize numL w0 = nid at *
        generalize nax.tmod 12 = ax at *
        have P0 := P.cell 0 _ rfl; have Pf0 := P.frz 0; have P1 := P.cell 1 _ rfl; have Pf1 := P.frz 1; have P2 := P.cell 2 _ rfl; have Pf2 := P.frz 2; have P3 := P.cell 3 _ rfl; have Pf3 := P.frz 3; have P4 := P.cell 4 _ rfl; have Pf4 := P.frz 4; have P5 := P.cell 5 _ rfl; have Pf5 := P.frz 5; have P6 := P.cell 6 _ rfl; have Pf6 := P.frz 6; have Plt := P.lt
        go_wp2_with fail
        refine (svalidb_any ⟨nid, o1, r1, o2, r2, ax, nw⟩ _).mono ?_; rintro e w7 ⟨rfl, hb7⟩
        clear P0 P1 P2 P3 P4 P5 P6 Pf0 Pf1 Pf2 Pf3 Pf4 Pf5 Pf6 Plt
        replace P := P.set (i := 6) (by simp) (.int .i64 nw)
        replace Z := Z.far (p := ⟨p, 6, none⟩) (by simpa using n2) (.int .i64 nw)
        replace hb := hb.setCell (p := ⟨p, 6, none⟩) (by exact hwp) (.int .i64 nw)
        simp only [List.set_cons_succ, List.set_cons_zero] at P
        (replace hb := hb.trans (hb7.mono hb.size)); replace Z := Z.up hb7; replace P := P.up hb7; clear hb7; (try clear Z0); (try clear Z1); (try clear Z2); (try clear Z3); (try clear Z4); (try clear Z5); (try clear Z6); (try clear Zf0); (try clear Zf1); (try clear Zf2); (try clear Zf3); (try clear Zf4); (try clear Zf5); (try clear Zf6); (try clear Zlt); (try clear P0); (try clear P1); (try clear P2); (try clear P3); (try clear P4); (try clear P5); (try clear P6); (try clear Pf0); (try clear Pf1); (try clear Pf2); (try clear Pf3); (try clear Pf4); (try clear Pf5); (try clear Pf6); (try clear Plt)
        have Z0 := Z.cell 0 _ rfl; have Zf0 := Z.frz 0; have Z1 := Z.cell 1 _ rfl; have Zf1 := Z.frz 1; have Z2 := Z.cell 2 _ rfl; have Zf2 := Z.frz 2; have Z3 := Z.cell 3 _ rfl; have Zf3 := Z.frz 3; have Z4 := Z.cell 4 _ rfl; have Zf4 := Z.frz 4; have Z5 := Z.cell 5 _ rfl; have Zf5 := Z.frz 5; have Z6 := Z.cell 6 _ rfl; have Zf6 := Z.frz 6; have Zlt := Z.lt
        cases hv : validS ⟨nid, o1, r1, o2, r2, ax, nw⟩
        · have HV : Hid (parseSpV l = .tuple #[.agg #[.int .i64 0, .int .i64 0, .int .i64 0, .int .i64 0, .int .i64 0, .int .i64 0, .int .i64 0], .int .i64 3]) := by
            show _ = _
            exact parseSpV_none (by rw [HSP.out, HX.out, hv]; rfl)
          go_wp2_with fail
          refine bodyPost_ret (v := parseSpV l) (by rw [HV.out]; simp [results, Tryz.results17, go_sem, (Z.all7 _ _ _ _ _ _ _).cell 0 _ rfl, (Z.all7 _ _ _ _ _ _ _).cell 1 _ rfl, (Z.all7 _ _ _ _ _ _ _).cell 2 _ rfl, (Z.all7 _ _ _ _ _ _ _).cell 3 _ rfl, (Z.all7 _ _ _ _ _ _ _).cell 4 _ rfl, (Z.all7 _ _ _ _ _ _ _).cell 5 _ rfl, (Z.all7 _ _ _ _ _ _ _).cell 6 _ rfl]) rfl ⟨rfl, below_set7 hb (Nat.le_refl _) _ _ _ _ _ _ _⟩
        · have HVV := Lib.hid hv; clear hv
          clear Z0 Z1 Z2 Z3 Z4 Z5 Z6 Zf0 Zf1 Zf2 Zf3 Zf4 Zf5 Zf6 Zlt
          have P0 := P.cell 0 _ rfl; have P1 := P.cell 1 _ rfl; have P2 := P.cell 2 _ rfl; have P3 := P.cell 3 _ rfl; have P4 := P.cell 4 _ rfl; have P5 := P.cell 5 _ rfl; have P6 := P.cell 6 _ rfl; have Plt := P.lt
          go_wp2_with fail
          refine (stext_any ⟨nid, o1, r1, o2, r2, ax, nw⟩ _ (hE.step hb)).mono ?_; rintro e w8 ⟨rfl, hb8⟩
          (replace hb := hb.trans (hb8.mono hb.size)); replace Z := Z.up hb8; replace P := P.up hb8; clear hb8; (try clear Z0); (try clear Z1); (try clear Z2); (try clear Z3); (try clear Z4); (try clear Z5); (try clear Z6); (try clear Zf0); (try clear Zf1); (try clear Zf2); (try clear Zf3); (try clear Zf4); (try clear Zf5); (try clear Zf6); (try clear Zlt); (try clear P0); (try clear P1); (try clear P2); (try clear P3); (try clear P4); (try clear P5); (try clear P6); (try clear Pf0); (try clear Pf1); (try clear Pf2); (try clear Pf3); (try clear Pf4); (try clear Pf5); (try clear Pf6); (try clear Plt)
          have P0 := P.cell 0 _ rfl; have P1 := P.cell 1 _ rfl; have P2 := P.cell 2 _ rfl; have P3 := P.cell 3 _ rfl; have P4 := P.cell 4 _ rfl; have P5 := P.cell 5 _ rfl; have P6 := P.cell 6 _ rfl; have Plt := P.lt
          have Z0 := Z.cell 0 _ rfl; have Zf0 := Z.frz 0; have Z1 := Z.cell 1 _ rfl; have Zf1 := Z.frz 1; have Z2 := Z.cell 2 _ rfl; have Zf2 := Z.frz 2; have Z3 := Z.cell 3 _ rfl; have Zf3 := Z.frz 3; have Z4 := Z.cell 4 _ rfl; have Zf4 := Z.frz 4; have Z5 := Z.cell 5 _ rfl; have Zf5 := Z.frz 5; have Z6 := Z.cell 6 _ rfl; have Zf6 := Z.frz 6; have Zlt := Z.lt
          cases ht : (textSp ⟨nid, o1, r1, o2, r2, ax, nw⟩ == l)
          · have HV : Hid (parseSpV l = .tuple #[.agg #[.int .i64 0, .int .i64 0, .int .i64 0, .int .i64 0, .int .i64 0, .int .i64 0, .int .i64 0], .int .i64 3]) := by
              show _ = _
              exact parseSpV_none (by rw [HSP.out, HX.out, ht]; simp)
            go_wp2_with fail
            refine bodyPost_ret (v := parseSpV l) (by rw [HV.out]; simp [results, Tryz.results17, go_sem, (Z.all7 _ _ _ _ _ _ _).cell 0 _ rfl, (Z.all7 _ _ _ _ _ _ _).cell 1 _ rfl, (Z.all7 _ _ _ _ _ _ _).cell 2 _ rfl, (Z.all7 _ _ _ _ _ _ _).cell 3 _ rfl, (Z.all7 _ _ _ _ _ _ _).cell 4 _ rfl, (Z.all7 _ _ _ _ _ _ _).cell 5 _ rfl, (Z.all7 _ _ _ _ _ _ _).cell 6 _ rfl]) rfl ⟨rfl, below_set7 hb (Nat.le_refl _) _ _ _ _ _ _ _⟩
          · have HV : Hid (parseSpV l = .tuple #[.agg #[.int .i64 nid, .int .i64 o1, .int .i64 r1, .int .i64 o2, .int .i64 r2, .int .i64 ax, .int .i64 nw], .int .i64 0]) := by
              show _ = _
              exact parseSpV_some (x := ⟨nid, o1, r1, o2, r2, ax, nw⟩) (by rw [HSP.out, HX.out, HVV.out, ht]; rfl)
            go_wp2_with fail
            refine bodyPost_ret (v := parseSpV l) (by rw [HV.out]; simp [results, Tryz.results17, go_sem, (Z.all7 _ _ _ _ _ _ _).cell 0 _ rfl, (Z.all7 _ _ _ _ _ _ _).cell 1 _ rfl, (Z.all7 _ _ _ _ _ _ _).cell 2 _ rfl, (Z.all7 _ _ _ _ _ _ _).cell 3 _ rfl, (Z.all7 _ _ _ _ _ _ _).cell 4 _ rfl, (Z.all7 _ _ _ _ _ _ _).cell 5 _ rfl, (Z.all7 _ _ _ _ _ _ _).cell 6 _ rfl]) rfl ⟨rfl, below_set7 hb (Nat.le_refl _) _ _ _ _ _ _ _⟩
  · have HV : Hid (parseSpV l = .tuple #[.agg #[.int .i64 0, .int .i64 0, .int .i64 0, .int .i64 0, .int .i64 0, .int .i64 0, .int .i64 0], .int .i64 3]) := by
      show _ = _
      refine parseSpV_none ?_
      cases h : parseSp l with
      | none => rfl
      | some x => exact absurd (parseSp_words h).1 h4
    have hne : (((wordsL 32 l).length : Int) != 4) = true := by simp; omega
    clear h4
    have Z0 := Z.cell 0 _ rfl; have Zf0 := Z.frz 0; have Z1 := Z.cell 1 _ rfl; have Zf1 := Z.frz 1; have Z2 := Z.cell 2 _ rfl; have Zf2 := Z.frz 2; have Z3 := Z.cell 3 _ rfl; have Zf3 := Z.frz 3; have Z4 := Z.cell 4 _ rfl; have Zf4 := Z.frz 4; have Z5 := Z.cell 5 _ rfl; have Zf5 := Z.frz 5; have Z6 := Z.cell 6 _ rfl; have Zf6 := Z.frz 6; have Zlt := Z.lt
    go_wp2_with fail
    refine bodyPost_ret (v := parseSpV l) (by rw [HV.out]; simp [results, Tryz.results17, go_sem, (Z.all7 (.int .i64 0) (.int .i64 0) (.int .i64 0) (.int .i64 0) (.int .i64 0) (.int .i64 0) (.int .i64 0)).cell 0 _ rfl, (Z.all7 (.int .i64 0) (.int .i64 0) (.int .i64 0) (.int .i64 0) (.int .i64 0) (.int .i64 0) (.int .i64 0)).cell 1 _ rfl, (Z.all7 (.int .i64 0) (.int .i64 0) (.int .i64 0) (.int .i64 0) (.int .i64 0) (.int .i64 0) (.int .i64 0)).cell 2 _ rfl, (Z.all7 (.int .i64 0) (.int .i64 0) (.int .i64 0) (.int .i64 0) (.int .i64 0) (.int .i64 0) (.int .i64 0)).cell 3 _ rfl, (Z.all7 (.int .i64 0) (.int .i64 0) (.int .i64 0) (.int .i64 0) (.int .i64 0) (.int .i64 0) (.int .i64 0)).cell 4 _ rfl, (Z.all7 (.int .i64 0) (.int .i64 0) (.int .i64 0) (.int .i64 0) (.int .i64 0) (.int .i64 0) (.int .i64 0)).cell 5 _ rfl, (Z.all7 (.int .i64 0) (.int .i64 0) (.int .i64 0) (.int .i64 0) (.int .i64 0) (.int .i64 0) (.int .i64 0)).cell 6 _ rfl]) rfl ⟨rfl, below_set7 hb (Nat.le_refl _) _ _ _ _ _ _ _⟩
end Go.Proofs.YtnaoagkelbjflaaGreatDoor
