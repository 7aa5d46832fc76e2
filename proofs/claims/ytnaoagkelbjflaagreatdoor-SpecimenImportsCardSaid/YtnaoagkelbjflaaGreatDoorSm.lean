/- Pairs of labels read: the reference's ParsePairing. -/
import Derived.Test.YtnaoagkelbjflaaGreatDoorSl
import Derived.Test.YtnaoagkelbjflaaGreatDoorSh
set_option linter.unusedSimpArgs false
set_option linter.unusedVariables false
namespace Go.Proofs.YtnaoagkelbjflaaGreatDoor
open Go.RowKit

theorem size_set (w : World) (p : Addr) (u : Value) : (w.setCell p u).heap.size = w.heap.size := by simp [World.setCell]
theorem pp_slash {l : List UInt8} {o r : Lab} (h : parsePair l = some (o, r)) : (47 : UInt8) ∈ l := by
  obtain ⟨h1, h2⟩ := parsePair_some h
  rw [← h2, pairS_ok h1]; simp
theorem rpp_cases (d r : List UInt8) (hd : (47 : UInt8) ∉ d) :
    ((parseLabE d != 0) = true ∧ parsePair (d ++ 47 :: r) = none) ∨
    ((parseLabE d != 0) = false ∧ (parseLabE r != 0) = true ∧ parsePair (d ++ 47 :: r) = none) ∨
    ((parseLabE d != 0) = false ∧ (parseLabE r != 0) = false ∧ ((parseLabX d).side != 0) = true ∧ parsePair (d ++ 47 :: r) = none) ∨
    ((parseLabE d != 0) = false ∧ (parseLabE r != 0) = false ∧ ((parseLabX d).side != 0) = false ∧ ((parseLabX r).side != 1) = true ∧ parsePair (d ++ 47 :: r) = none) ∨
    ((parseLabE d != 0) = false ∧ (parseLabE r != 0) = false ∧ ((parseLabX d).side != 0) = false ∧ ((parseLabX r).side != 1) = false ∧ parsePair (d ++ 47 :: r) = some (parseLabX d, parseLabX r)) := by
  have hc := cut_hit1 47 d r hd
  have key : parsePair (d ++ 47 :: r) = none ∨ ∃ o r', parsePair (d ++ 47 :: r) = some (o, r') := by
    cases h : parsePair (d ++ 47 :: r) with
    | none => exact .inl rfl
    | some p => exact .inr ⟨p.1, p.2, rfl⟩
  have hn : ∀ {x y : Lab}, parseLab d = some x → parseLab r = some y → ¬ (x.side = 0 ∧ y.side = 1) → parsePair (d ++ 47 :: r) = none := by
    intro x y hx hy hno
    rcases key with h | ⟨o, r', h⟩
    · exact h
    · obtain ⟨h1, h2, h3, h4⟩ := (parsePair_iff _ o r').1 h
      rw [hc] at h1 h2
      rw [hx] at h1; rw [hy] at h2
      cases h1; cases h2
      have := (pairOk_iff x y).1 h3
      exact absurd ⟨this.2.2.1, this.2.2.2⟩ hno
  unfold parseLabE parseLabX
  cases h1 : parseLab d with
  | none =>
    refine .inl ⟨rfl, ?_⟩
    rcases key with h | ⟨o, r', h⟩
    · exact h
    · have := ((parsePair_iff _ o r').1 h).1; rw [hc, h1] at this; cases this
  | some o =>
    cases h2 : parseLab r with
    | none =>
      refine .inr (.inl ⟨rfl, rfl, ?_⟩)
      rcases key with h | ⟨o', r', h⟩
      · exact h
      · have := ((parsePair_iff _ o' r').1 h).2.1; rw [hc, h2] at this; cases this
    | some y =>
      simp only [Option.getD_some, Option.isSome_some, if_true]
      obtain ⟨o1, o2⟩ := parseLab_some h1
      obtain ⟨y1, y2⟩ := parseLab_some h2
      by_cases h3 : o.side = 0
      · by_cases h4 : y.side = 1
        · refine .inr (.inr (.inr (.inr ⟨rfl, rfl, by simpa using h3, by simpa using h4, ?_⟩)))
          have hp : pairOk o y = true := (pairOk_iff o y).2 ⟨o1, y1, h3, h4⟩
          refine (parsePair_iff _ o y).2 ⟨by rw [hc]; exact h1, by rw [hc]; exact h2, hp, ?_⟩
          rw [pairS_ok hp, o2, y2]
        · exact .inr (.inr (.inr (.inl ⟨rfl, rfl, by simpa using h3, by simpa using h4, hn h1 h2 (fun h => h4 h.2)⟩)))
      · exact .inr (.inr (.inl ⟨rfl, rfl, by simpa using h3, hn h1 h2 (fun h => h3 h.1)⟩))

set_option maxRecDepth 100000 in
set_option maxHeartbeats 2000000 in
theorem rppair_any (l : List UInt8) (w : World) (hs : l.length ≤ 5000) :
    Calls Tryz.prog 51 #[.string ⟨l.toArray⟩] w fun e w' => e = .returned (parsePairV l) ∧ Below w.heap.size w w' := by
  go_enter Tryz.func51, Tryz.ntmps51
  go_wp2_with fail
  go_loopw [5] (fun s5 wr => ∃ k : Nat, k ≤ l.length ∧ s5 = .int .i64 (k : Int) ∧ (47 : UInt8) ∉ l.take k ∧ wr = (w.alloc (.cells #[.int .i64 0, .int .i64 0, .int .i64 0] 55)).alloc (.cells #[.int .i64 0, .int .i64 0, .int .i64 0] 55)) (fun s5 _ => l.length - (intOf s5).toNat)
  case atStart => exact ⟨0, by omega, rfl, by simp, rfl⟩
  case round =>
    obtain ⟨k, hk, rfl, hno, hwr⟩ := hrel
    have Z1 : Bx wr w.heap.size [.int .i64 0, .int .i64 0, .int .i64 0] := by rw [hwr]; exact (Bx.new _ _ _).alloc _
    have Z2 : Bx wr (w.heap.size + 1) [.int .i64 0, .int .i64 0, .int .i64 0] := by
      rw [hwr]
      have := Bx.new (w.alloc (.cells #[.int .i64 0, .int .i64 0, .int .i64 0] 55)) [.int .i64 0, .int .i64 0, .int .i64 0] 55
      rwa [World.size_alloc] at this
    have hb : Below w.heap.size w wr := by rw [hwr]; (repeat (first | exact Below.refl _ _ | assumption | refine Below.alloc ?_ (by first | omega | (simp only [World.size_alloc]; omega) | (simp; done) | (simp; omega)) _ | refine Below.setCell ?_ (by first | omega | (simp only [World.size_alloc]; omega) | (simp; done) | (simp; omega)) _ | refine Below.drew ?_ | refine below_drewN ?_ _))
    have HWR := Lib.hid hwr; clear hwr
    have HNO := Lib.hid hno; clear hno
    by_cases hlt : k < l.length
    · obtain ⟨c, hc⟩ : ∃ c, l[k]? = some c := ⟨l[k], List.getElem?_eq_getElem hlt⟩
      have h0 : ∀ h, (ByteArray.mk l.toArray)[k]'h = c := fun h => by
        have := (List.getElem?_eq_some_iff.1 hc).2
        exact this
      have hdr : l = l.take k ++ c :: l.drop (k + 1) := by
        obtain ⟨h1, h2⟩ := List.getElem?_eq_some_iff.1 hc
        conv => lhs; rw [← List.take_append_drop k l]
        rw [List.drop_eq_getElem_cons h1, h2]
      by_cases h47 : c = 47
      · subst h47
        have HC := Lib.hid (rpp_cases (l.take k) (l.drop (k + 1)) HNO.out)
        rw [← hdr] at HC
        clear hdr
        have hx1 : (ByteArray.mk l.toArray).extract 0 k = ⟨(l.take k).toArray⟩ := by rw [ByteArray.extract_mk]; rfl
        have hx2 : (ByteArray.mk l.toArray).extract (k + 1) l.length = ⟨(l.drop (k + 1)).toArray⟩ := by rw [ByteArray.extract_mk, List.take_of_length_le (by simp)]
        have hl1 : (l.take k).length ≤ 5000 := by simp; omega
        have hl2 : (l.drop (k + 1)).length ≤ 5000 := by simp; omega
        have HCC := Lib.hid hc; clear hc
        generalize l.take k = a at *
        generalize l.drop (k + 1) = b at *
        go_wp2_with fail
        refine (rlparse_any a _ hl1).mono ?_
        rintro e w2 ⟨rfl, hb2⟩
        (replace hb := hb.trans (hb2.mono hb.size)); replace Z1 := Z1.up hb2; replace Z2 := Z2.up hb2; clear hb2; (try clear Z10); (try clear Z11); (try clear Z12); (try clear Z1f0); (try clear Z1f1); (try clear Z1f2); (try clear Z1lt); (try clear Z20); (try clear Z21); (try clear Z22); (try clear Z2f0); (try clear Z2f1); (try clear Z2f2); (try clear Z2lt)
        unfold parseLabV
        go_wp2_with fail
        have hbo : w.heap.size + 1 < w2.heap.size := Z2.lt
        refine (rlparse_any b _ hl2).mono ?_
        rintro e w3 ⟨rfl, hb3⟩
        obtain ⟨hw3, hb', O⟩ := step1 hb hb3
        replace Z1 := Z1.up hw3
        replace Z2 := Z2.up hw3
        clear hb hb3 hw3
        generalize w2.heap.size = bo at *
        unfold parseLabV
        have hbr : w.heap.size + 1 < w3.heap.size := Z2.lt
        have hbor : bo < w3.heap.size := O.lt
        generalize parseLabE a = ea at *
        generalize parseLabE b = eb at *
        rcases HC.out with ⟨h1, h⟩ | ⟨h1, h2, h⟩ | ⟨h1, h2, h3, h⟩ | ⟨h1, h2, h3, h4, h⟩ | ⟨h1, h2, h3, h4, h⟩
        case inr.inr.inr.inr =>
          have HV := Lib.hid (parsePairV_some h)
          clear h HC
          generalize parseLabX a = o at *
          generalize parseLabX b = r at *
          obtain ⟨o0, o1, o2⟩ := o
          obtain ⟨r0, r1, r2⟩ := r
          have O0 := O.cell 0 _ rfl; have Of0 := O.frz 0; have O1 := O.cell 1 _ rfl; have Of1 := O.frz 1; have O2 := O.cell 2 _ rfl; have Of2 := O.frz 2; have Olt := O.lt
          have Z10 := Z1.cell 0 _ rfl; have Z1f0 := Z1.frz 0; have Z11 := Z1.cell 1 _ rfl; have Z1f1 := Z1.frz 1; have Z12 := Z1.cell 2 _ rfl; have Z1f2 := Z1.frz 2; have Z1lt := Z1.lt
          have Z20 := Z2.cell 0 _ rfl; have Z2f0 := Z2.frz 0; have Z21 := Z2.cell 1 _ rfl; have Z2f1 := Z2.frz 1; have Z22 := Z2.cell 2 _ rfl; have Z2f2 := Z2.frz 2; have Z2lt := Z2.lt
          have n1 : ¬ bo = w.heap.size := by omega
          have n2 : ¬ bo = w.heap.size + 1 := by omega
          have n5 : ¬ w.heap.size = bo := by omega
          have n6 : ¬ w.heap.size + 1 = bo := by omega
          have n3 : ¬ w3.heap.size = w.heap.size := by omega
          have n4 : ¬ w3.heap.size = w.heap.size + 1 := by omega
          have n7 : ¬ w.heap.size = w3.heap.size := by omega
          have n8 : ¬ w.heap.size + 1 = w3.heap.size := by omega
          go_wp2_with fail
          generalize hW : w3.alloc (.cells #[.int .i64 r0, .int .i64 r1, .int .i64 r2] 55) = W at *
          have hbW : Below w3.heap.size w3 W := by rw [← hW]; exact one_alloc _ _
          have R : Bx W w3.heap.size [.int .i64 r0, .int .i64 r1, .int .i64 r2] := by rw [← hW]; exact Bx.new _ _ _
          clear hW
          clear O0 O1 O2 Of0 Of1 Of2 Olt Z10 Z11 Z12 Z1f0 Z1f1 Z1f2 Z1lt Z20 Z21 Z22 Z2f0 Z2f1 Z2f2 Z2lt
          replace O := O.up hbW
          replace Z1 := Z1.up hbW
          replace Z2 := Z2.up hbW
          have hb := hb'.trans (hbW.mono hb'.size)
          have O0 := O.cell 0 _ rfl; have Of0 := O.frz 0; have O1 := O.cell 1 _ rfl; have Of1 := O.frz 1; have O2 := O.cell 2 _ rfl; have Of2 := O.frz 2; have Olt := O.lt
          have R0 := R.cell 0 _ rfl; have Rf0 := R.frz 0; have R1 := R.cell 1 _ rfl; have Rf1 := R.frz 1; have R2 := R.cell 2 _ rfl; have Rf2 := R.frz 2; have Rlt := R.lt
          have Z10 := Z1.cell 0 _ rfl; have Z1f0 := Z1.frz 0; have Z11 := Z1.cell 1 _ rfl; have Z1f1 := Z1.frz 1; have Z12 := Z1.cell 2 _ rfl; have Z1f2 := Z1.frz 2; have Z1lt := Z1.lt
          have Z20 := Z2.cell 0 _ rfl; have Z2f0 := Z2.frz 0; have Z21 := Z2.cell 1 _ rfl; have Z2f1 := Z2.frz 1; have Z22 := Z2.cell 2 _ rfl; have Z2f2 := Z2.frz 2; have Z2lt := Z2.lt
          generalize w3.heap.size = br at *
          clear hbo hbr hbor hb' hbW
          go_region
          all_goals
            go_wp2_with fail
            refine bodyPost_ret (v := parsePairV l) (by rw [HV.out]; simp [results, Tryz.results51, go_sem, (two3 Z1 Z2 (by simp) _ _ _ _ _ _).1.cell 0 _ rfl, (two3 Z1 Z2 (by simp) _ _ _ _ _ _).1.cell 1 _ rfl, (two3 Z1 Z2 (by simp) _ _ _ _ _ _).1.cell 2 _ rfl, (two3 Z1 Z2 (by simp) _ _ _ _ _ _).2.cell 0 _ rfl, (two3 Z1 Z2 (by simp) _ _ _ _ _ _).2.cell 1 _ rfl, (two3 Z1 Z2 (by simp) _ _ _ _ _ _).2.cell 2 _ rfl]) rfl ⟨rfl, ?_⟩
            exact Below.drew ((((((hb.setCell (by simp) _).setCell (by simp) _).setCell (by simp) _).setCell (by simp) _).setCell (by simp) _).setCell (by simp) _)
        all_goals
          have HV := Lib.hid (parsePairV_none h)
          clear h HC
          have O0 := O.cell 0 _ rfl; have O1 := O.cell 1 _ rfl; have O2 := O.cell 2 _ rfl; have Olt := O.lt
          have Z10 := Z1.cell 0 _ rfl; have Z1f0 := Z1.frz 0; have Z11 := Z1.cell 1 _ rfl; have Z1f1 := Z1.frz 1; have Z12 := Z1.cell 2 _ rfl; have Z1f2 := Z1.frz 2; have Z1lt := Z1.lt
          have Z20 := Z2.cell 0 _ rfl; have Z2f0 := Z2.frz 0; have Z21 := Z2.cell 1 _ rfl; have Z2f1 := Z2.frz 1; have Z22 := Z2.cell 2 _ rfl; have Z2f2 := Z2.frz 2; have Z2lt := Z2.lt
          go_wp2_with fail
          refine bodyPost_ret (v := parsePairV l) (by rw [HV.out]; simp [results, Tryz.results51, go_sem, ((two3 Z1 Z2 (by simp) _ _ _ _ _ _).1.alloc _).cell 0 _ rfl, ((two3 Z1 Z2 (by simp) _ _ _ _ _ _).1.alloc _).cell 1 _ rfl, ((two3 Z1 Z2 (by simp) _ _ _ _ _ _).1.alloc _).cell 2 _ rfl, ((two3 Z1 Z2 (by simp) _ _ _ _ _ _).2.alloc _).cell 0 _ rfl, ((two3 Z1 Z2 (by simp) _ _ _ _ _ _).2.alloc _).cell 1 _ rfl, ((two3 Z1 Z2 (by simp) _ _ _ _ _ _).2.alloc _).cell 2 _ rfl]) rfl ⟨rfl, ?_⟩
          exact Below.alloc ((((((hb'.setCell (by simp) _).setCell (by simp) _).setCell (by simp) _).setCell (by simp) _).setCell (by simp) _).setCell (by simp) _) (by simp only [size_set]; exact hb'.size) _
      · have hne : ((c.toNat : Int) != 47) = true := by
          have : c.toNat ≠ 47 := fun e => h47 (UInt8.toNat_inj.1 e)
          simp; omega
        have hno' : Hid ((47 : UInt8) ∉ l.take (k + 1)) := by
          show _ ∉ _
          rw [take_snoc' hc]
          intro hm
          rcases List.mem_append.1 hm with hm | hm
          · exact HNO.out hm
          · rw [List.mem_singleton] at hm; exact h47 hm.symm
        clear hdr
        have HC := Lib.hid hc; clear hc
        go_wp2_with fail
        go_roundw
        case rel => exact ⟨k + 1, by omega, by go_num, hno'.out, HWR.out⟩
        case measure => simp [intOf]; omega
    · obtain rfl : k = l.length := by omega
      have HV : Hid (parsePairV l = .tuple #[.agg #[.int .i64 0, .int .i64 0, .int .i64 0], .agg #[.int .i64 0, .int .i64 0, .int .i64 0], .int .i64 3]) := by
        show parsePairV l = _
        refine parsePairV_none ?_
        cases h : parsePair l with
        | none => rfl
        | some p =>
          have := pp_slash (o := p.1) (r := p.2) h
          have h2 := HNO.out
          rw [List.take_length] at h2
          exact absurd this h2
      have Z10 := Z1.cell 0 _ rfl; have Z1f0 := Z1.frz 0; have Z11 := Z1.cell 1 _ rfl; have Z1f1 := Z1.frz 1; have Z12 := Z1.cell 2 _ rfl; have Z1f2 := Z1.frz 2; have Z1lt := Z1.lt
      have Z20 := Z2.cell 0 _ rfl; have Z2f0 := Z2.frz 0; have Z21 := Z2.cell 1 _ rfl; have Z2f1 := Z2.frz 1; have Z22 := Z2.cell 2 _ rfl; have Z2f2 := Z2.frz 2; have Z2lt := Z2.lt
      go_wp2_with fail
      refine bodyPost_ret (v := parsePairV l) (by rw [HV.out]; simp [results, Tryz.results51, go_sem, (two3 Z1 Z2 (by simp) _ _ _ _ _ _).1.cell 0 _ rfl, (two3 Z1 Z2 (by simp) _ _ _ _ _ _).1.cell 1 _ rfl, (two3 Z1 Z2 (by simp) _ _ _ _ _ _).1.cell 2 _ rfl, (two3 Z1 Z2 (by simp) _ _ _ _ _ _).2.cell 0 _ rfl, (two3 Z1 Z2 (by simp) _ _ _ _ _ _).2.cell 1 _ rfl, (two3 Z1 Z2 (by simp) _ _ _ _ _ _).2.cell 2 _ rfl]) rfl ⟨rfl, ?_⟩
      exact (((((hb.setCell (by simp) _).setCell (by simp) _).setCell (by simp) _).setCell (by simp) _).setCell (by simp) _).setCell (by simp) _
end Go.Proofs.YtnaoagkelbjflaaGreatDoor
