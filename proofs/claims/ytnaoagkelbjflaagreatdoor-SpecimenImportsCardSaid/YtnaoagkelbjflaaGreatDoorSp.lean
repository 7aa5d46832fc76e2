/- A specimen read: the reference's Parse. -/
import Derived.Test.YtnaoagkelbjflaaGreatDoorSo
import Derived.Test.YtnaoagkelbjflaaGreatDoorSm
import Derived.Test.YtnaoagkelbjflaaGreatDoorSn
import Derived.Test.YtnaoagkelbjflaaGreatDoorSkt
set_option linter.unusedSimpArgs false
set_option linter.unusedVariables false
namespace Go.Proofs.YtnaoagkelbjflaaGreatDoor
open Go.RowKit

def rcand (l : List UInt8) : Spm :=
  { id := numA (wordAt l 0), obv := (pairC (wordAt l 1)).1.num, rev := (pairC (wordAt l 1)).2.num, os := (pairC (wordAt l 1)).1.st, rs := (pairC (wordAt l 1)).2.st,
    ax := ((numA (wordAt l 2) : Int)).tmod 12, wt := numA (wordAt l 3) }
theorem rcand_text (x : Spm) (h : validS x = true) : rcand (textSp x) = x := by
  obtain ⟨h1, h2, h3, h4, h5, h6, h7⟩ := (validS_iff x).1 h
  have hh : 1 ≤ hourS x ∧ hourS x ≤ 12 := by unfold hourS; split <;> omega
  unfold rcand wordAt
  rw [words_text x h]
  simp only [List.getD_cons_zero, List.getD_cons_succ]
  rw [pairC_text _ _ (sp_pairOk h), numA_itoa x.id (by omega) (by omega), numA_hour (hourS x) (by omega) (by omega), numA_gram _ (by omega)]
  have ha : (hourS x).tmod 12 = x.ax := by
    unfold hourS
    split
    · rename_i h0; rw [h0]; rfl
    · exact Int.tmod_eq_of_lt (by omega) (by omega)
  rw [ha]
  obtain ⟨id, obv, rev, os, rs, ax, wt⟩ := x
  simp only [labO, labR] at h7 ⊢
  congr
  omega
theorem rparse_eq (l : List UInt8) : parseSp l = if validS (rcand l) && textSp (rcand l) == l then some (rcand l) else none := by
  cases h : parseSp l with
  | none =>
    cases hc : (validS (rcand l) && textSp (rcand l) == l)
    · rfl
    · simp only [Bool.and_eq_true, beq_iff_eq] at hc
      have := parseSp_text _ hc.1
      rw [hc.2, h] at this
      cases this
  | some x =>
    obtain ⟨h1, h2⟩ := parseSp_some h
    have hx : rcand l = x := by rw [← h2]; exact rcand_text x h1
    rw [hx, h1, h2]; simp
theorem keep7d {V : World} {b p q : Nat} {s0 s2 s3 o1 o2 r1 r2 : Value} {off : Nat} (hb : b < V.heap.size) (hp : p < V.heap.size) (hq : q < V.heap.size)
    (h0 : V.cell? ⟨b, off, none⟩ = some s0) (h2 : V.cell? ⟨b, off + 2, none⟩ = some s2) (h3 : V.cell? ⟨b, off + 3, none⟩ = some s3) (k1 : V.cell? ⟨p, 1, none⟩ = some o1) (k2 : V.cell? ⟨p, 2, none⟩ = some o2) (k3 : V.cell? ⟨q, 1, none⟩ = some r1) (k4 : V.cell? ⟨q, 2, none⟩ = some r2) :
    (V.drew.cell? ⟨b, off, none⟩ = some s0 ∧ V.drew.cell? ⟨b, off + 2, none⟩ = some s2 ∧ V.drew.cell? ⟨b, off + 3, none⟩ = some s3 ∧ V.drew.cell? ⟨p, 1, none⟩ = some o1 ∧ V.drew.cell? ⟨p, 2, none⟩ = some o2 ∧ V.drew.cell? ⟨q, 1, none⟩ = some r1 ∧ V.drew.cell? ⟨q, 2, none⟩ = some r2) ∧
    ∀ o, ((V.alloc o).drew.cell? ⟨b, off, none⟩ = some s0 ∧ (V.alloc o).drew.cell? ⟨b, off + 2, none⟩ = some s2 ∧ (V.alloc o).drew.cell? ⟨b, off + 3, none⟩ = some s3 ∧ (V.alloc o).drew.cell? ⟨p, 1, none⟩ = some o1 ∧ (V.alloc o).drew.cell? ⟨p, 2, none⟩ = some o2 ∧ (V.alloc o).drew.cell? ⟨q, 1, none⟩ = some r1 ∧ (V.alloc o).drew.cell? ⟨q, 2, none⟩ = some r2) := by
  refine ⟨⟨h0, h2, h3, k1, k2, k3, k4⟩, fun o => ?_⟩
  have hB : Below V.heap.size V (V.alloc o).drew := Below.drew (one_alloc _ _)
  exact ⟨(hB.cell hb).trans h0, (hB.cell hb).trans h2, (hB.cell hb).trans h3, (hB.cell hp).trans k1, (hB.cell hp).trans k2, (hB.cell hq).trans k3, (hB.cell hq).trans k4⟩

set_option maxRecDepth 100000 in
set_option maxHeartbeats 2000000 in
theorem rsparse_any (l : List UInt8) (w : World) (hs : l.length ≤ 5000) :
    Calls Tryz.prog 18 #[.string ⟨l.toArray⟩] w fun e w' => e = .returned (parseSpV l) ∧ Below w.heap.size w w' := by
  have HSP := Lib.hid (rparse_eq l)
  have HWL := Lib.hid (wordsL_len 32 l)
  go_enter Tryz.func18, Tryz.ntmps18
  go_wp2_with fail
  refine (words_any l _ (by omega)).mono ?_
  rintro e w1 ⟨A, cap, rfl, hS, hb1⟩
  obtain ⟨_, hb, Z⟩ := step1 (Below.refl _ _) hb1
  clear hb1
  replace hS := hS.any
  by_cases hlong : 100 < l.length
  · have HV : Hid (parseSpV l = .tuple #[.agg #[.int .i64 0, .int .i64 0, .int .i64 0, .int .i64 0, .int .i64 0, .int .i64 0, .int .i64 0], .int .i64 3]) := by
      show _ = _
      refine parseSpV_none ?_
      cases h : parseSp l with
      | none => rfl
      | some x => have := parseSp_len h; omega
    have Z0 := Z.cell 0 _ rfl; have Zf0 := Z.frz 0; have Z1 := Z.cell 1 _ rfl; have Zf1 := Z.frz 1; have Z2 := Z.cell 2 _ rfl; have Zf2 := Z.frz 2; have Z3 := Z.cell 3 _ rfl; have Zf3 := Z.frz 3; have Z4 := Z.cell 4 _ rfl; have Zf4 := Z.frz 4; have Z5 := Z.cell 5 _ rfl; have Zf5 := Z.frz 5; have Z6 := Z.cell 6 _ rfl; have Zf6 := Z.frz 6; have Zlt := Z.lt
    go_wp2_with fail
    refine bodyPost_ret (v := parseSpV l) (by rw [HV.out]; simp [results, Tryz.results18, go_sem, (Z.all7 _ _ _ _ _ _ _).cell 0 _ rfl, (Z.all7 _ _ _ _ _ _ _).cell 1 _ rfl, (Z.all7 _ _ _ _ _ _ _).cell 2 _ rfl, (Z.all7 _ _ _ _ _ _ _).cell 3 _ rfl, (Z.all7 _ _ _ _ _ _ _).cell 4 _ rfl, (Z.all7 _ _ _ _ _ _ _).cell 5 _ rfl, (Z.all7 _ _ _ _ _ _ _).cell 6 _ rfl]) rfl ⟨rfl, below_set7 hb (Nat.le_refl _) _ _ _ _ _ _ _⟩
  by_cases h4 : (wordsL 32 l).length = 4
  · obtain ⟨w0, w1', w2', w3', hw⟩ : ∃ a b c d, wordsL 32 l = [a, b, c, d] := by
      match hq : wordsL 32 l, h4 with
      | [a, b, c, d], _ => exact ⟨a, b, c, d, rfl⟩
    have q0 : wordAt l 0 = w0 := by unfold wordAt; rw [hw]; rfl
    have q1 : wordAt l 1 = w1' := by unfold wordAt; rw [hw]; rfl
    have q2 : wordAt l 2 = w2' := by unfold wordAt; rw [hw]; rfl
    have q3 : wordAt l 3 = w3' := by unfold wordAt; rw [hw]; rfl
    have l0 := HWL.out w0 (by rw [hw]; simp)
    have l1 := HWL.out w1' (by rw [hw]; simp)
    have l2 := HWL.out w2' (by rw [hw]; simp)
    have l3 := HWL.out w3' (by rw [hw]; simp)
    rw [hw] at hS ⊢
    simp only [List.length_cons, List.length_nil, Nat.zero_add, Nat.reduceAdd] at hS ⊢
    have HQ0 := Lib.hid q0
    have HQ1 := Lib.hid q1
    have HQ2 := Lib.hid q2
    have HQ3 := Lib.hid q3
    clear q0 q1 q2 q3 hw h4 HWL
    obtain ⟨b, off, rfl, W⟩ := Rw.of_strs hS (by omega)
    clear hS
    simp only [List.map_cons, List.map_nil] at W
    have W0 := W.cell 0 _ rfl; have W1 := W.cell 1 _ rfl; have W2 := W.cell 2 _ rfl; have W3 := W.cell 3 _ rfl; have Wlt := W.lt; simp only [Nat.add_zero] at W0
    go_wp2_with fail
    refine (rppair_any w1' _ (by omega)).mono ?_
    rintro e w2 ⟨rfl, hb2⟩
    (replace hb := hb.trans (hb2.mono hb.size)); replace Z := Z.up hb2; replace W := W.up hb2; clear hb2; (try clear Z0); (try clear Z1); (try clear Z2); (try clear Z3); (try clear Z4); (try clear Z5); (try clear Z6); (try clear Zf0); (try clear Zf1); (try clear Zf2); (try clear Zf3); (try clear Zf4); (try clear Zf5); (try clear Zf6); (try clear Zlt); (try clear W0); (try clear W1); (try clear W2); (try clear W3); (try clear Wlt)
    obtain ⟨o, r, ep, hpv, hpc⟩ := pp_form w1'
    rw [hpv]
    clear hpv
    obtain ⟨o0, o1, o2⟩ := o
    obtain ⟨r0, r1, r2⟩ := r
    go_wp2_with fail
    obtain ⟨hbV, O, R⟩ := two_new w2 [.int .i64 o0, .int .i64 o1, .int .i64 o2] [.int .i64 r0, .int .i64 r1, .int .i64 r2] 55 55
    generalize hV : (w2.alloc (.cells #[.int .i64 o0, .int .i64 o1, .int .i64 o2] 55)).alloc (.cells #[.int .i64 r0, .int .i64 r1, .int .i64 r2] 55) = V at *
    clear hV
    replace W := W.up hbV
    replace Z := Z.up hbV
    replace hb := hb.trans (hbV.mono hb.size)
    generalize w2.heap.size = bo at *
    clear hbV
    have hn0 : w0.length ≤ 5000 := by omega
    have hn2 : w2'.length ≤ 5000 := by omega
    have hn3 : w3'.length ≤ 5000 := by omega
    have HN0 : Hid (((rcand l).id) = (numA w0 : Int)) := by show (numA (wordAt l 0) : Int) = _; rw [HQ0.out]
    have HN2 : Hid (((rcand l).ax) = ((numA w2' : Int)).tmod 12) := by show ((numA (wordAt l 2) : Int)).tmod 12 = _; rw [HQ2.out]
    have HN3 : Hid (((rcand l).wt) = (numA w3' : Int)) := by show (numA (wordAt l 3) : Int) = _; rw [HQ3.out]
    have hax : IntKind.i64.wrap (((numA w2' : Int)).tmod 12) = ((numA w2' : Int)).tmod 12 := by
      have := Int.tmod_lt_of_pos (numA w2' : Int) (show (0 : Int) < 12 by decide)
      have := Int.lt_tmod_of_pos (numA w2' : Int) (show (0 : Int) < 12 by decide)
      exact IntWalk.i64_in _ (by omega)
    go_cut [8] (fun s8 wx => ∃ p, s8 = .pointer (some ⟨p, 0, none⟩) ∧ Bx wx p [.int .i64 (numA w0 : Int), .int .i64 o1, .int .i64 r1, .int .i64 o2, .int .i64 r2, .int .i64 (((numA w2' : Int)).tmod 12), .int .i64 (numA w3' : Int)] ∧ V.heap.size ≤ p ∧ Below V.heap.size V wx)
    case first =>
      have W0 := W.cell 0 _ rfl; have W1 := W.cell 1 _ rfl; have W2 := W.cell 2 _ rfl; have W3 := W.cell 3 _ rfl; have Wlt := W.lt; simp only [Nat.add_zero] at W0
      have O0 := O.cell 0 _ rfl; have O1 := O.cell 1 _ rfl; have O2 := O.cell 2 _ rfl; have Olt := O.lt
      have R0 := R.cell 0 _ rfl; have R1 := R.cell 1 _ rfl; have R2 := R.cell 2 _ rfl; have Rlt := R.lt
      clear O0 R0 W1
      have hsz : ∀ o : Obj, (V.alloc o).drew.heap.size = V.heap.size + 1 := fun o => by simp
      clear hsz
      go_region_held3 (fun X => X.cell? ⟨b, off, none⟩ = some (.string ⟨w0.toArray⟩) ∧ X.cell? ⟨b, off + 2, none⟩ = some (.string ⟨w2'.toArray⟩) ∧ X.cell? ⟨b, off + 3, none⟩ = some (.string ⟨w3'.toArray⟩) ∧ X.cell? ⟨bo, 1, none⟩ = some (.int .i64 o1) ∧ X.cell? ⟨bo, 2, none⟩ = some (.int .i64 o2) ∧ X.cell? ⟨bo + 1, 1, none⟩ = some (.int .i64 r1) ∧ X.cell? ⟨bo + 1, 2, none⟩ = some (.int .i64 r2))
        (first | with_reducible assumption | with_reducible exact (keep7d Wlt Olt Rlt W0 W2 W3 O1 O2 R1 R2).1 | with_reducible exact (keep7d Wlt Olt Rlt W0 W2 W3 O1 O2 R1 R2).2 _)
        (first
          | (go_at_call 52; ((with_reducible refine (rnum9_any w0 _ hn0).mono ?_); rintro e w3 ⟨rfl, rfl⟩))
          | (go_at_call 52; ((with_reducible refine (rnum9_any w2' _ hn2).mono ?_); rintro e w3 ⟨rfl, rfl⟩))
          | (go_at_call 52; ((with_reducible refine (rnum9_any w3' _ hn3).mono ?_); rintro e w3 ⟨rfl, rfl⟩)))
      all_goals
        go_wp2_with fail
        go_meet
        exact ⟨V.heap.size, rfl, (Bx.new V _ _).up (Below.drew (Below.refl _ _)), Nat.le_refl _, Below.drew (one_alloc _ _)⟩
    case rest =>
      obtain ⟨p, rfl, P, hp, hbp⟩ := hcut
      have n2 : ¬ p = w.heap.size := by have := Z.lt; omega
      have n4 : ¬ w.heap.size = p := by omega
      replace Z := Z.up hbp
      replace hb := hb.trans (hbp.mono hb.size)
      clear hbp hp W O R
      rcases hpc with ⟨h1, hno⟩ | ⟨h1, hpc⟩
      · have HV : Hid (parseSpV l = .tuple #[.agg #[.int .i64 0, .int .i64 0, .int .i64 0, .int .i64 0, .int .i64 0, .int .i64 0, .int .i64 0], .int .i64 3]) := by
          show _ = _
          refine parseSpV_none ?_
          cases h : parseSp l with
          | none => rfl
          | some x =>
            have := (parseSp_words h).2.1
            rw [HQ1.out, hno] at this
            cases this
        clear hno
        have Z0 := Z.cell 0 _ rfl; have Zf0 := Z.frz 0; have Z1 := Z.cell 1 _ rfl; have Zf1 := Z.frz 1; have Z2 := Z.cell 2 _ rfl; have Zf2 := Z.frz 2; have Z3 := Z.cell 3 _ rfl; have Zf3 := Z.frz 3; have Z4 := Z.cell 4 _ rfl; have Zf4 := Z.frz 4; have Z5 := Z.cell 5 _ rfl; have Zf5 := Z.frz 5; have Z6 := Z.cell 6 _ rfl; have Zf6 := Z.frz 6; have Zlt := Z.lt
        go_wp2_with fail
        refine bodyPost_ret (v := parseSpV l) (by rw [HV.out]; simp [results, Tryz.results18, go_sem, (Z.all7 _ _ _ _ _ _ _).cell 0 _ rfl, (Z.all7 _ _ _ _ _ _ _).cell 1 _ rfl, (Z.all7 _ _ _ _ _ _ _).cell 2 _ rfl, (Z.all7 _ _ _ _ _ _ _).cell 3 _ rfl, (Z.all7 _ _ _ _ _ _ _).cell 4 _ rfl, (Z.all7 _ _ _ _ _ _ _).cell 5 _ rfl, (Z.all7 _ _ _ _ _ _ _).cell 6 _ rfl]) rfl ⟨rfl, below_set7 hb (Nat.le_refl _) _ _ _ _ _ _ _⟩
      · have HX : Hid (rcand l = ⟨(numA w0 : Int), o1, r1, o2, r2, ((numA w2' : Int)).tmod 12, (numA w3' : Int)⟩) := by
          show _ = _
          have e0 := HN0.out
          have e1 : pairC (wordAt l 1) = (⟨o0, o1, o2⟩, ⟨r0, r1, r2⟩) := by rw [HQ1.out]; exact hpc
          have e2 : (rcand l).obv = o1 := by show (pairC (wordAt l 1)).1.num = _; rw [e1]
          have e3 : (rcand l).rev = r1 := by show (pairC (wordAt l 1)).2.num = _; rw [e1]
          have e4 : (rcand l).os = o2 := by show (pairC (wordAt l 1)).1.st = _; rw [e1]
          have e5 : (rcand l).rs = r2 := by show (pairC (wordAt l 1)).2.st = _; rw [e1]
          have e6 := HN2.out
          have e7 := HN3.out
          revert e0 e2 e3 e4 e5 e6 e7
          generalize rcand l = x
          obtain ⟨x0, x1, x2, x3, x4, x5, x6⟩ := x
          simp only
          rintro rfl rfl rfl rfl rfl rfl rfl
          rfl
        clear HN0 HN2 HN3 hpc HQ0 HQ1 HQ2 HQ3
        generalize (numA w0 : Int) = nid at *
        generalize ((numA w2' : Int)).tmod 12 = ax at *
        generalize (numA w3' : Int) = nw at *
        have P0 := P.cell 0 _ rfl; have P1 := P.cell 1 _ rfl; have P2 := P.cell 2 _ rfl; have P3 := P.cell 3 _ rfl; have P4 := P.cell 4 _ rfl; have P5 := P.cell 5 _ rfl; have P6 := P.cell 6 _ rfl; have Plt := P.lt
        go_wp2_with fail
        refine (rsvalidb_any ⟨nid, o1, r1, o2, r2, ax, nw⟩ _).mono ?_; rintro e w7 ⟨rfl, hb7⟩
        (replace hb := hb.trans (hb7.mono hb.size)); replace Z := Z.up hb7; replace P := P.up hb7; clear hb7; (try clear Z0); (try clear Z1); (try clear Z2); (try clear Z3); (try clear Z4); (try clear Z5); (try clear Z6); (try clear Zf0); (try clear Zf1); (try clear Zf2); (try clear Zf3); (try clear Zf4); (try clear Zf5); (try clear Zf6); (try clear Zlt); (try clear P0); (try clear P1); (try clear P2); (try clear P3); (try clear P4); (try clear P5); (try clear P6); (try clear Plt)
        have Z0 := Z.cell 0 _ rfl; have Zf0 := Z.frz 0; have Z1 := Z.cell 1 _ rfl; have Zf1 := Z.frz 1; have Z2 := Z.cell 2 _ rfl; have Zf2 := Z.frz 2; have Z3 := Z.cell 3 _ rfl; have Zf3 := Z.frz 3; have Z4 := Z.cell 4 _ rfl; have Zf4 := Z.frz 4; have Z5 := Z.cell 5 _ rfl; have Zf5 := Z.frz 5; have Z6 := Z.cell 6 _ rfl; have Zf6 := Z.frz 6; have Zlt := Z.lt
        cases hv : validS ⟨nid, o1, r1, o2, r2, ax, nw⟩
        · have HV : Hid (parseSpV l = .tuple #[.agg #[.int .i64 0, .int .i64 0, .int .i64 0, .int .i64 0, .int .i64 0, .int .i64 0, .int .i64 0], .int .i64 3]) := by
            show _ = _
            exact parseSpV_none (by rw [HSP.out, HX.out, hv]; rfl)
          go_wp2_with fail
          refine bodyPost_ret (v := parseSpV l) (by rw [HV.out]; simp [results, Tryz.results18, go_sem, (Z.all7 _ _ _ _ _ _ _).cell 0 _ rfl, (Z.all7 _ _ _ _ _ _ _).cell 1 _ rfl, (Z.all7 _ _ _ _ _ _ _).cell 2 _ rfl, (Z.all7 _ _ _ _ _ _ _).cell 3 _ rfl, (Z.all7 _ _ _ _ _ _ _).cell 4 _ rfl, (Z.all7 _ _ _ _ _ _ _).cell 5 _ rfl, (Z.all7 _ _ _ _ _ _ _).cell 6 _ rfl]) rfl ⟨rfl, below_set7 hb (Nat.le_refl _) _ _ _ _ _ _ _⟩
        · have HVV := Lib.hid hv; clear hv
          clear Z0 Z1 Z2 Z3 Z4 Z5 Z6 Zf0 Zf1 Zf2 Zf3 Zf4 Zf5 Zf6 Zlt
          have P0 := P.cell 0 _ rfl; have P1 := P.cell 1 _ rfl; have P2 := P.cell 2 _ rfl; have P3 := P.cell 3 _ rfl; have P4 := P.cell 4 _ rfl; have P5 := P.cell 5 _ rfl; have P6 := P.cell 6 _ rfl; have Plt := P.lt
          go_wp2_with fail
          refine (rstext_any ⟨nid, o1, r1, o2, r2, ax, nw⟩ _).mono ?_; rintro e w8 ⟨rfl, hb8⟩
          (replace hb := hb.trans (hb8.mono hb.size)); replace Z := Z.up hb8; replace P := P.up hb8; clear hb8; (try clear Z0); (try clear Z1); (try clear Z2); (try clear Z3); (try clear Z4); (try clear Z5); (try clear Z6); (try clear Zf0); (try clear Zf1); (try clear Zf2); (try clear Zf3); (try clear Zf4); (try clear Zf5); (try clear Zf6); (try clear Zlt); (try clear P0); (try clear P1); (try clear P2); (try clear P3); (try clear P4); (try clear P5); (try clear P6); (try clear Plt)
          have P0 := P.cell 0 _ rfl; have P1 := P.cell 1 _ rfl; have P2 := P.cell 2 _ rfl; have P3 := P.cell 3 _ rfl; have P4 := P.cell 4 _ rfl; have P5 := P.cell 5 _ rfl; have P6 := P.cell 6 _ rfl; have Plt := P.lt
          have Z0 := Z.cell 0 _ rfl; have Zf0 := Z.frz 0; have Z1 := Z.cell 1 _ rfl; have Zf1 := Z.frz 1; have Z2 := Z.cell 2 _ rfl; have Zf2 := Z.frz 2; have Z3 := Z.cell 3 _ rfl; have Zf3 := Z.frz 3; have Z4 := Z.cell 4 _ rfl; have Zf4 := Z.frz 4; have Z5 := Z.cell 5 _ rfl; have Zf5 := Z.frz 5; have Z6 := Z.cell 6 _ rfl; have Zf6 := Z.frz 6; have Zlt := Z.lt
          cases ht : (textSp ⟨nid, o1, r1, o2, r2, ax, nw⟩ == l)
          · have HV : Hid (parseSpV l = .tuple #[.agg #[.int .i64 0, .int .i64 0, .int .i64 0, .int .i64 0, .int .i64 0, .int .i64 0, .int .i64 0], .int .i64 3]) := by
              show _ = _
              exact parseSpV_none (by rw [HSP.out, HX.out, ht]; simp)
            go_wp2_with fail
            refine bodyPost_ret (v := parseSpV l) (by rw [HV.out]; simp [results, Tryz.results18, go_sem, (Z.all7 _ _ _ _ _ _ _).cell 0 _ rfl, (Z.all7 _ _ _ _ _ _ _).cell 1 _ rfl, (Z.all7 _ _ _ _ _ _ _).cell 2 _ rfl, (Z.all7 _ _ _ _ _ _ _).cell 3 _ rfl, (Z.all7 _ _ _ _ _ _ _).cell 4 _ rfl, (Z.all7 _ _ _ _ _ _ _).cell 5 _ rfl, (Z.all7 _ _ _ _ _ _ _).cell 6 _ rfl]) rfl ⟨rfl, below_set7 hb (Nat.le_refl _) _ _ _ _ _ _ _⟩
          · have HV : Hid (parseSpV l = .tuple #[.agg #[.int .i64 nid, .int .i64 o1, .int .i64 r1, .int .i64 o2, .int .i64 r2, .int .i64 ax, .int .i64 nw], .int .i64 0]) := by
              show _ = _
              exact parseSpV_some (x := ⟨nid, o1, r1, o2, r2, ax, nw⟩) (by rw [HSP.out, HX.out, HVV.out, ht]; rfl)
            go_wp2_with fail
            refine bodyPost_ret (v := parseSpV l) (by rw [HV.out]; simp [results, Tryz.results18, go_sem, (Z.all7 _ _ _ _ _ _ _).cell 0 _ rfl, (Z.all7 _ _ _ _ _ _ _).cell 1 _ rfl, (Z.all7 _ _ _ _ _ _ _).cell 2 _ rfl, (Z.all7 _ _ _ _ _ _ _).cell 3 _ rfl, (Z.all7 _ _ _ _ _ _ _).cell 4 _ rfl, (Z.all7 _ _ _ _ _ _ _).cell 5 _ rfl, (Z.all7 _ _ _ _ _ _ _).cell 6 _ rfl]) rfl ⟨rfl, below_set7 hb (Nat.le_refl _) _ _ _ _ _ _ _⟩
  · have HV : Hid (parseSpV l = .tuple #[.agg #[.int .i64 0, .int .i64 0, .int .i64 0, .int .i64 0, .int .i64 0, .int .i64 0, .int .i64 0], .int .i64 3]) := by
      show _ = _
      refine parseSpV_none ?_
      cases h : parseSp l with
      | none => rfl
      | some x => exact absurd (parseSp_words h).1 h4
    have hne : (((wordsL 32 l).length : Int) != 4) = true := by simp; omega
    clear h4
    have Z0 := Z.cell 0 _ rfl; have Zf0 := Z.frz 0; have Z1 := Z.cell 1 _ rfl; have Zf1 := Z.frz 1; have Z2 := Z.cell 2 _ rfl; have Zf2 := Z.frz 2; have Z3 := Z.cell 3 _ rfl; have Zf3 := Z.frz 3; have Z4 := Z.cell 4 _ rfl; have Zf4 := Z.frz 4; have Z5 := Z.cell 5 _ rfl; have Zf5 := Z.frz 5; have Z6 := Z.cell 6 _ rfl; have Zf6 := Z.frz 6; have Zlt := Z.lt
    go_wp2_with fail
    refine bodyPost_ret (v := parseSpV l) (by rw [HV.out]; simp [results, Tryz.results18, go_sem, (Z.all7 _ _ _ _ _ _ _).cell 0 _ rfl, (Z.all7 _ _ _ _ _ _ _).cell 1 _ rfl, (Z.all7 _ _ _ _ _ _ _).cell 2 _ rfl, (Z.all7 _ _ _ _ _ _ _).cell 3 _ rfl, (Z.all7 _ _ _ _ _ _ _).cell 4 _ rfl, (Z.all7 _ _ _ _ _ _ _).cell 5 _ rfl, (Z.all7 _ _ _ _ _ _ _).cell 6 _ rfl]) rfl ⟨rfl, below_set7 hb (Nat.le_refl _) _ _ _ _ _ _ _⟩
end Go.Proofs.YtnaoagkelbjflaaGreatDoor
