/- Parse: the program's. -/
import Derived.Test.YthbckkjihijekaaDoorYu
import Derived.Deep.DeepCutAuto
set_option linter.unusedSimpArgs false
set_option linter.unusedVariables false
namespace Go.Proofs.YthbckkjihijekaaDoor
open Go.RowKit

def yearV (l : List UInt8) (bc : Bool) : Int :=
  match Lib.atoiAll l with
  | .ok n => if 19998 < n then 19998 else if bc then wrap64 (1 - n) else n
  | _ => 19998
theorem year_any (s : ByteArray) (bc : Bool) (w : World) (hs : s.size ≤ 1000000) (hE : Env w) :
    Calls Tryd.prog 37 #[.string s, .bool bc] w fun e w' => e = .returned (.int .i64 (yearV s.data.toList bc)) ∧ Below w.heap.size w w' := by
  by_cases hv : ∃ v, Lib.atoiAll s.data.toList = .ok v
  · obtain ⟨v, hv⟩ := hv
    have hf : yearV s.data.toList bc = if 19998 < v then 19998 else if bc then wrap64 (1 - v) else v := by simp [yearV, hv]
    have HF := Lib.hid hf; clear hf
    have HV := Lib.hid hv; clear hv
    by_cases h1 : 19998 < v
    · go_enter Tryd.func37, Tryd.ntmps37
      go_wp2_with (go_at_call 53; refine (atoi_ok s v _ (by omega) HV.out).mono ?_; rintro e w' ⟨rfl, hb⟩)
      go_ret
      exact ⟨by rw [HF.out, if_pos h1]; rfl, hb⟩
    · cases bc
      · go_enter Tryd.func37, Tryd.ntmps37
        go_wp2_with (go_at_call 53; refine (atoi_ok s v _ (by omega) HV.out).mono ?_; rintro e w' ⟨rfl, hb⟩)
        go_ret
        exact ⟨by rw [HF.out, if_neg (by omega)]; rfl, hb⟩
      · go_enter Tryd.func37, Tryd.ntmps37
        go_wp2_with (go_at_call 53; refine (atoi_ok s v _ (by omega) HV.out).mono ?_; rintro e w' ⟨rfl, hb⟩)
        go_ret
        exact ⟨by rw [HF.out, if_neg (by omega)]; rfl, hb⟩
  · have hf : yearV s.data.toList bc = 19998 := by
      unfold yearV
      cases h : Lib.atoiAll s.data.toList
      · exact absurd ⟨_, h⟩ hv
      · rfl
      · rfl
    have HF := Lib.hid hf; clear hf
    have hv' : ∀ v, Lib.atoiAll s.data.toList ≠ .ok v := fun v h => hv ⟨v, h⟩
    have HV := Lib.hid hv'; clear hv' hv
    go_enter Tryd.func37, Tryd.ntmps37
    go_wp2_with fail
    refine (atoi_err s _ (by omega) HV.out hE).mono ?_
    rintro e w1 ⟨⟨k, te, pv, rfl⟩, hb⟩
    go_wp2_with fail
    go_ret
    exact ⟨by rw [HF.out]; rfl, hb⟩

def sBC : List UInt8 := [32, 66, 67]
def sAD : List UInt8 := [32, 65, 68]
def pNums (l : List UInt8) : List UInt8 := if Lib.hasSuffix l sBC then Lib.trimSuffix l sBC else Lib.trimSuffix l sAD
def pA (l : List UInt8) : List UInt8 := (Lib.cut (pNums l) [45]).1
def pB (l : List UInt8) : List UInt8 := if (Lib.cut (pNums l) [45]).2.2 then (Lib.cut (pNums l) [45]).2.1 else pA l
def pFrom (l : List UInt8) : Int := yearV (Lib.trimSuffix (pA l) sBC) (Lib.hasSuffix l sBC || Lib.hasSuffix (pA l) sBC)
def pTo (l : List UInt8) : Int := yearV (pB l) (Lib.hasSuffix l sBC)
def pOk (l : List UInt8) : Bool := validB (pFrom l) (pTo l) && textS (pFrom l) (pTo l) == l
def parseV (l : List UInt8) : Value := if pOk l then .tuple #[.agg #[.int .i64 (pFrom l), .int .i64 (pTo l)], .int .i64 0] else .tuple #[.agg #[.int .i64 0, .int .i64 0], .int .i64 3]

theorem trimSuffix_len (s p : List UInt8) : (Lib.trimSuffix s p).length ≤ s.length := by
  unfold Lib.trimSuffix; split
  · rw [List.length_take]; omega
  · exact Nat.le_refl _
theorem cut_len1 (s p : List UInt8) : (Lib.cut s p).1.length ≤ s.length := by
  unfold Lib.cut; split
  · simp [List.length_take]; omega
  · exact Nat.le_refl _
theorem cut_len2 (s p : List UInt8) : (Lib.cut s p).2.1.length ≤ s.length := by
  unfold Lib.cut; split
  · simp [List.length_drop]
  · simp
theorem two_set0 {w : World} {b : Nat} {x y u v : Value} (h0 : w.cell? ⟨b, 0, none⟩ = some x) (h1 : w.cell? ⟨b, 1, none⟩ = some y) : ((w.setCell ⟨b, 0, none⟩ u).setCell ⟨b, 1, none⟩ v).cell? ⟨b, 0, none⟩ = some u := by
  rw [World.cell?_setCell_other _ _ _ _ (by simp)]
  exact World.cell?_setCell_same' _ _ _ (by rw [h0]; rfl)
theorem two_set1 {w : World} {b : Nat} {x y u v : Value} (h0 : w.cell? ⟨b, 0, none⟩ = some x) (h1 : w.cell? ⟨b, 1, none⟩ = some y) : ((w.setCell ⟨b, 0, none⟩ u).setCell ⟨b, 1, none⟩ v).cell? ⟨b, 1, none⟩ = some v := by
  refine World.cell?_setCell_same' _ _ _ ?_
  rw [World.cell?_setCell_other _ _ _ _ (by simp), h1]; rfl
set_option maxRecDepth 100000 in
set_option maxHeartbeats 1000000 in
theorem parse_any (l : List UInt8) (w : World) (hs : l.length ≤ 1000) (hE : Env w) :
    Calls Tryd.prog 22 #[.string ⟨l.toArray⟩] w fun e w' => e = .returned (parseV l) ∧ Below w.heap.size w w' := by
  have hA : (pNums l).length ≤ 1000 := by
    unfold pNums; split
    · exact Nat.le_trans (trimSuffix_len _ _) hs
    · exact Nat.le_trans (trimSuffix_len _ _) hs
  have hpA : (pA l).length ≤ 1000 := Nat.le_trans (cut_len1 _ _) hA
  have hpB : (pB l).length ≤ 1000 := by
    unfold pB; split
    · exact Nat.le_trans (cut_len2 _ _) hA
    · exact hpA
  have hpO : (Lib.trimSuffix (pA l) sBC).length ≤ 1000 := Nat.le_trans (trimSuffix_len _ _) hpA
  have hN : Hid (pNums l = if Lib.hasSuffix l sBC then Lib.trimSuffix l sBC else Lib.trimSuffix l sAD) := rfl
  have hPB : Hid (pB l = if (Lib.cut (pNums l) [45]).2.2 then (Lib.cut (pNums l) [45]).2.1 else pA l) := rfl
  have hA1 : Hid (pA l = (Lib.cut (pNums l) [45]).1) := rfl
  have hO : Hid (pOk l = (validB (pFrom l) (pTo l) && textS (pFrom l) (pTo l) == l)) := rfl
  have hF : Hid (pFrom l = yearV (Lib.trimSuffix (pA l) sBC) (Lib.hasSuffix l sBC || Lib.hasSuffix (pA l) sBC)) := rfl
  have hT : Hid (pTo l = yearV (pB l) (Lib.hasSuffix l sBC)) := rfl
  go_enter Tryd.func22, Tryd.ntmps22
  go_wp2_with fail
  refine (cutSuf l sBC _ (by omega)).mono ?_
  rintro e w1 ⟨rfl, rfl⟩
  generalize Lib.hasSuffix l sBC = bc at *
  go_upto_if 18 with fail
  go_cut [4] (fun s4 wx => s4 = .string ⟨(pNums l).toArray⟩ ∧ wx = w.alloc (.cells #[.int .i64 0, .int .i64 0] 23))
  case first =>
    cases bc
    · go_wp2_with fail
      refine (cutSuf l sAD _ (by omega)).mono ?_
      rintro e w1 ⟨rfl, rfl⟩
      go_wp2_with fail
      go_meet
      exact ⟨by rw [hN.out]; rfl, rfl⟩
    · go_wp2_with fail
      go_meet
      exact ⟨by rw [hN.out]; rfl, rfl⟩
  case rest =>
    obtain ⟨rfl, rfl⟩ := hcut
    go_wp2_with fail
    refine (cutL (pNums l) [45] _ (by omega) (hE.step (by (repeat (first | exact Below.refl _ _ | assumption | refine Below.alloc ?_ (by first | omega | (simp only [World.size_alloc]; omega) | (simp; done) | (simp; omega)) _ | refine Below.setCell ?_ (by first | omega | (simp only [World.size_alloc]; omega) | (simp; done) | (simp; omega)) _ | refine Below.drew ?_ | refine below_drewN ?_ _))))).mono ?_
    rintro e w2 ⟨rfl, hb2⟩
    simp only [World.size_alloc] at hb2
    have hb2' : Below w.heap.size w w2 := Below.trans (by (repeat (first | exact Below.refl _ _ | assumption | refine Below.alloc ?_ (by first | omega | (simp only [World.size_alloc]; omega) | (simp; done) | (simp; omega)) _ | refine Below.setCell ?_ (by first | omega | (simp only [World.size_alloc]; omega) | (simp; done) | (simp; omega)) _ | refine Below.drew ?_ | refine below_drewN ?_ _))) (hb2.mono (by omega))
    have c0 : w2.cell? ⟨w.heap.size, 0, none⟩ = some (.int .i64 0) := (hb2.cell (by first | (simp; done) | (simp; omega) | (show _ < _; omega))).trans (by simp); have fc0 : w2.frozen? ⟨w.heap.size, 0, none⟩ = false := (hb2.frozen (by first | (simp; done) | (simp; omega) | (show _ < _; omega))).trans (by simp)
    have c1 : w2.cell? ⟨w.heap.size, 1, none⟩ = some (.int .i64 0) := (hb2.cell (by first | (simp; done) | (simp; omega) | (show _ < _; omega))).trans (by simp); have fc1 : w2.frozen? ⟨w.heap.size, 1, none⟩ = false := (hb2.frozen (by first | (simp; done) | (simp; omega) | (show _ < _; omega))).trans (by simp)
    have hz2 : w.heap.size < w2.heap.size := by have := hb2.size; simp at this; omega
    clear hb2
    generalize Lib.cut (pNums l) [45] = c at *
    obtain ⟨ca, cb, two⟩ := c
    have hpA' : pA l = ca := hA1.out
    rw [← hpA']
    clear hpA'
    go_upto_if 31 with fail
    go_cut [7] (fun s7 wx => s7 = .string ⟨(pB l).toArray⟩ ∧ wx = w2)
    case first =>
      cases two
      · go_wp2_with fail
        go_meet
        exact ⟨by rw [hPB.out]; rfl, rfl⟩
      · go_wp2_with fail
        go_meet
        exact ⟨by rw [hPB.out]; rfl, rfl⟩
    case rest =>
      obtain ⟨rfl, rfl⟩ := hcut
      go_wp2_with fail
      refine (cutSuf (pA l) sBC _ (by omega)).mono ?_
      rintro e w1 ⟨rfl, rfl⟩
      generalize Lib.trimSuffix (pA l) sBC = old at *
      generalize Lib.hasSuffix (pA l) sBC = both at *
      cases bc
      · go_wp2_with fail
        refine (year_any ⟨old.toArray⟩ _ _ (by rw [size_mk']; omega) (hE.step hb2')).mono ?_
        rintro e w3 ⟨rfl, hb3⟩
        rw [show yearV (ByteArray.mk old.toArray).data.toList both = pFrom l from hF.out.symm]
        have hb3' : Below w.heap.size w w3 := hb2'.trans (hb3.mono (by omega))
        have d0 := (hb3.cell (p := ⟨w.heap.size, 0, none⟩) hz2).trans c0
        have d1 := (hb3.cell (p := ⟨w.heap.size, 1, none⟩) hz2).trans c1
        have fd0 := (hb3.frozen (p := ⟨w.heap.size, 0, none⟩) hz2).trans fc0
        have fd1 := (hb3.frozen (p := ⟨w.heap.size, 1, none⟩) hz2).trans fc1
        have hz3 : w.heap.size < w3.heap.size := by have := hb3.size; omega
        clear hb3 hb2' c0 c1 fc0 fc1 hz2
        go_wp2_with fail
        refine (year_any ⟨(pB l).toArray⟩ _ _ (by rw [size_mk']; omega) (hE.step hb3')).mono ?_
        rintro e w4 ⟨rfl, hb4⟩
        rw [show yearV (ByteArray.mk (pB l).toArray).data.toList false = pTo l from hT.out.symm]
        have hb4' : Below w.heap.size w w4 := hb3'.trans (hb4.mono (by omega))
        have c0 := (hb4.cell (p := ⟨w.heap.size, 0, none⟩) hz3).trans d0
        have c1 := (hb4.cell (p := ⟨w.heap.size, 1, none⟩) hz3).trans d1
        have fc0 := (hb4.frozen (p := ⟨w.heap.size, 0, none⟩) hz3).trans fd0
        have fc1 := (hb4.frozen (p := ⟨w.heap.size, 1, none⟩) hz3).trans fd1
        have hz4 : w.heap.size < w4.heap.size := by have := hb4.size; omega
        clear hb4 hb3' d0 d1 fd0 fd1 hz3
        generalize hfr : pFrom l = fr at *
        generalize htt : pTo l = tt at *
        have HFR := Lib.hid hfr; clear hfr
        have HTT := Lib.hid htt; clear htt
        go_wp2_with fail
        refine (valid_any _ _ _).mono ?_; rintro e w5 ⟨rfl, hw5⟩
        have hb5 : Below w4.heap.size w4 w5 := by rw [← hw5]; (repeat (first | exact Below.refl _ _ | assumption | refine Below.alloc ?_ (by first | omega | (simp only [World.size_alloc]; omega) | (simp; done) | (simp; omega)) _ | refine Below.setCell ?_ (by first | omega | (simp only [World.size_alloc]; omega) | (simp; done) | (simp; omega)) _ | refine Below.drew ?_ | refine below_drewN ?_ _))
        obtain ⟨e0, e1⟩ : w5.cell? ⟨w4.heap.size, 0, none⟩ = some (.int .i64 fr) ∧ w5.cell? ⟨w4.heap.size, 1, none⟩ = some (.int .i64 tt) := by
          subst hw5; constructor <;> go_simp
        have hz5 : w4.heap.size < w5.heap.size := by rw [← hw5]; simp; omega
        clear hw5
        have d0 := (hb5.cell (p := ⟨w.heap.size, 0, none⟩) hz4).trans c0
        have d1 := (hb5.cell (p := ⟨w.heap.size, 1, none⟩) hz4).trans c1
        have fd0 := (hb5.frozen (p := ⟨w.heap.size, 0, none⟩) hz4).trans fc0
        have fd1 := (hb5.frozen (p := ⟨w.heap.size, 1, none⟩) hz4).trans fc1
        have hb5' : Below w.heap.size w w5 := hb4'.trans (hb5.mono (by omega))
        have hz50 : w.heap.size < w5.heap.size := by omega
        clear hb5
        cases hv : validB fr tt
        · have HV := Lib.hid hv; clear hv
          have HP : Hid (parseV l = .tuple #[.agg #[.int .i64 0, .int .i64 0], .int .i64 3]) := by
            show parseV l = _
            unfold parseV
            rw [hO.out, HV.out]; rfl
          go_wp2_with fail
          refine bodyPost_ret (v := parseV l) (by rw [HP.out]; simp [results, Tryd.results22, go_sem, two_set0 d0 d1, two_set1 d0 d1]) rfl ⟨rfl, ?_⟩
          exact (hb5'.setCell (by simp) _).setCell (by simp) _
        · have HV := Lib.hid hv; clear hv
          go_wp2_with fail
          refine (text_years _ _ _ (hE.step hb5')).mono ?_
          rintro e w6 ⟨rfl, hb6⟩
          have hb6' : Below w.heap.size w w6 := hb5'.trans (hb6.mono (by omega))
          have c0 := (hb6.cell (p := ⟨w.heap.size, 0, none⟩) hz50).trans d0
          have c1 := (hb6.cell (p := ⟨w.heap.size, 1, none⟩) hz50).trans d1
          have fc0 := (hb6.frozen (p := ⟨w.heap.size, 0, none⟩) hz50).trans fd0
          have fc1 := (hb6.frozen (p := ⟨w.heap.size, 1, none⟩) hz50).trans fd1
          have f0 := (hb6.cell (p := ⟨w4.heap.size, 0, none⟩) hz5).trans e0
          have f1 := (hb6.cell (p := ⟨w4.heap.size, 1, none⟩) hz5).trans e1
          have hz6 : w.heap.size < w6.heap.size := by have := hb6.size; omega
          have hz64 : w4.heap.size < w6.heap.size := by have := hb6.size; omega
          clear hb6 hb5' d0 d1 fd0 fd1 e0 e1 hz50 hz5
          cases ht : (textS fr tt == l)
          · have HP : Hid (parseV l = .tuple #[.agg #[.int .i64 0, .int .i64 0], .int .i64 3]) := by
              show parseV l = _
              unfold parseV
              rw [hO.out, HV.out, ht]; rfl
            go_wp2_with fail
            refine bodyPost_ret (v := parseV l) (by rw [HP.out]; simp [results, Tryd.results22, go_sem, two_set0 c0 c1, two_set1 c0 c1]) rfl ⟨rfl, ?_⟩
            exact (hb6'.setCell (by simp) _).setCell (by simp) _
          · have HP : Hid (parseV l = .tuple #[.agg #[.int .i64 fr, .int .i64 tt], .int .i64 0]) := by
              show parseV l = _
              unfold parseV
              rw [hO.out, HV.out, ht, HFR.out, HTT.out]; rfl
            go_wp2_with fail
            refine bodyPost_ret (v := parseV l) (by rw [HP.out]; simp [results, Tryd.results22, go_sem, two_set0 c0 c1, two_set1 c0 c1]) rfl ⟨rfl, ?_⟩
            exact (hb6'.setCell (by simp) _).setCell (by simp) _
      · go_wp2_with fail
        refine (year_any ⟨old.toArray⟩ _ _ (by rw [size_mk']; omega) (hE.step hb2')).mono ?_
        rintro e w3 ⟨rfl, hb3⟩
        rw [show yearV (ByteArray.mk old.toArray).data.toList true = pFrom l from hF.out.symm]
        have hb3' : Below w.heap.size w w3 := hb2'.trans (hb3.mono (by omega))
        have d0 := (hb3.cell (p := ⟨w.heap.size, 0, none⟩) hz2).trans c0
        have d1 := (hb3.cell (p := ⟨w.heap.size, 1, none⟩) hz2).trans c1
        have fd0 := (hb3.frozen (p := ⟨w.heap.size, 0, none⟩) hz2).trans fc0
        have fd1 := (hb3.frozen (p := ⟨w.heap.size, 1, none⟩) hz2).trans fc1
        have hz3 : w.heap.size < w3.heap.size := by have := hb3.size; omega
        clear hb3 hb2' c0 c1 fc0 fc1 hz2
        go_wp2_with fail
        refine (year_any ⟨(pB l).toArray⟩ _ _ (by rw [size_mk']; omega) (hE.step hb3')).mono ?_
        rintro e w4 ⟨rfl, hb4⟩
        rw [show yearV (ByteArray.mk (pB l).toArray).data.toList true = pTo l from hT.out.symm]
        have hb4' : Below w.heap.size w w4 := hb3'.trans (hb4.mono (by omega))
        have c0 := (hb4.cell (p := ⟨w.heap.size, 0, none⟩) hz3).trans d0
        have c1 := (hb4.cell (p := ⟨w.heap.size, 1, none⟩) hz3).trans d1
        have fc0 := (hb4.frozen (p := ⟨w.heap.size, 0, none⟩) hz3).trans fd0
        have fc1 := (hb4.frozen (p := ⟨w.heap.size, 1, none⟩) hz3).trans fd1
        have hz4 : w.heap.size < w4.heap.size := by have := hb4.size; omega
        clear hb4 hb3' d0 d1 fd0 fd1 hz3
        generalize hfr : pFrom l = fr at *
        generalize htt : pTo l = tt at *
        have HFR := Lib.hid hfr; clear hfr
        have HTT := Lib.hid htt; clear htt
        go_wp2_with fail
        refine (valid_any _ _ _).mono ?_; rintro e w5 ⟨rfl, hw5⟩
        have hb5 : Below w4.heap.size w4 w5 := by rw [← hw5]; (repeat (first | exact Below.refl _ _ | assumption | refine Below.alloc ?_ (by first | omega | (simp only [World.size_alloc]; omega) | (simp; done) | (simp; omega)) _ | refine Below.setCell ?_ (by first | omega | (simp only [World.size_alloc]; omega) | (simp; done) | (simp; omega)) _ | refine Below.drew ?_ | refine below_drewN ?_ _))
        obtain ⟨e0, e1⟩ : w5.cell? ⟨w4.heap.size, 0, none⟩ = some (.int .i64 fr) ∧ w5.cell? ⟨w4.heap.size, 1, none⟩ = some (.int .i64 tt) := by
          subst hw5; constructor <;> go_simp
        have hz5 : w4.heap.size < w5.heap.size := by rw [← hw5]; simp; omega
        clear hw5
        have d0 := (hb5.cell (p := ⟨w.heap.size, 0, none⟩) hz4).trans c0
        have d1 := (hb5.cell (p := ⟨w.heap.size, 1, none⟩) hz4).trans c1
        have fd0 := (hb5.frozen (p := ⟨w.heap.size, 0, none⟩) hz4).trans fc0
        have fd1 := (hb5.frozen (p := ⟨w.heap.size, 1, none⟩) hz4).trans fc1
        have hb5' : Below w.heap.size w w5 := hb4'.trans (hb5.mono (by omega))
        have hz50 : w.heap.size < w5.heap.size := by omega
        clear hb5
        cases hv : validB fr tt
        · have HV := Lib.hid hv; clear hv
          have HP : Hid (parseV l = .tuple #[.agg #[.int .i64 0, .int .i64 0], .int .i64 3]) := by
            show parseV l = _
            unfold parseV
            rw [hO.out, HV.out]; rfl
          go_wp2_with fail
          refine bodyPost_ret (v := parseV l) (by rw [HP.out]; simp [results, Tryd.results22, go_sem, two_set0 d0 d1, two_set1 d0 d1]) rfl ⟨rfl, ?_⟩
          exact (hb5'.setCell (by simp) _).setCell (by simp) _
        · have HV := Lib.hid hv; clear hv
          go_wp2_with fail
          refine (text_years _ _ _ (hE.step hb5')).mono ?_
          rintro e w6 ⟨rfl, hb6⟩
          have hb6' : Below w.heap.size w w6 := hb5'.trans (hb6.mono (by omega))
          have c0 := (hb6.cell (p := ⟨w.heap.size, 0, none⟩) hz50).trans d0
          have c1 := (hb6.cell (p := ⟨w.heap.size, 1, none⟩) hz50).trans d1
          have fc0 := (hb6.frozen (p := ⟨w.heap.size, 0, none⟩) hz50).trans fd0
          have fc1 := (hb6.frozen (p := ⟨w.heap.size, 1, none⟩) hz50).trans fd1
          have f0 := (hb6.cell (p := ⟨w4.heap.size, 0, none⟩) hz5).trans e0
          have f1 := (hb6.cell (p := ⟨w4.heap.size, 1, none⟩) hz5).trans e1
          have hz6 : w.heap.size < w6.heap.size := by have := hb6.size; omega
          have hz64 : w4.heap.size < w6.heap.size := by have := hb6.size; omega
          clear hb6 hb5' d0 d1 fd0 fd1 e0 e1 hz50 hz5
          cases ht : (textS fr tt == l)
          · have HP : Hid (parseV l = .tuple #[.agg #[.int .i64 0, .int .i64 0], .int .i64 3]) := by
              show parseV l = _
              unfold parseV
              rw [hO.out, HV.out, ht]; rfl
            go_wp2_with fail
            refine bodyPost_ret (v := parseV l) (by rw [HP.out]; simp [results, Tryd.results22, go_sem, two_set0 c0 c1, two_set1 c0 c1]) rfl ⟨rfl, ?_⟩
            exact (hb6'.setCell (by simp) _).setCell (by simp) _
          · have HP : Hid (parseV l = .tuple #[.agg #[.int .i64 fr, .int .i64 tt], .int .i64 0]) := by
              show parseV l = _
              unfold parseV
              rw [hO.out, HV.out, ht, HFR.out, HTT.out]; rfl
            go_wp2_with fail
            refine bodyPost_ret (v := parseV l) (by rw [HP.out]; simp [results, Tryd.results22, go_sem, two_set0 c0 c1, two_set1 c0 c1]) rfl ⟨rfl, ?_⟩
            exact (hb6'.setCell (by simp) _).setCell (by simp) _
end Go.Proofs.YthbckkjihijekaaDoor
