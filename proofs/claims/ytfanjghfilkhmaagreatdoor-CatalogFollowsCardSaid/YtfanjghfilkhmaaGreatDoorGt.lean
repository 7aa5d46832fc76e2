/- Next: the program's (chapter 47). -/
import Derived.Test.YtfanjghfilkhmaaGreatDoorGs
set_option linter.unusedSimpArgs false
set_option linter.unusedVariables false
namespace Go.Proofs.YtfanjghfilkhmaaGreatDoor
open Go.RowKit

/-- As EdOut; and what is handed over lies above the world of the call. -/
def EdNew (w : World) (out : Ed) (code : Int) (r : Ending) (w' : World) : Prop :=
  (∃ A n c A' n' c', r = .returned (.tuple #[.agg #[.slice A n c, .slice A' n' c'], .int .i64 code]) ∧ EdS w' A n A' n' out ∧ Sl w' w.heap.size w'.heap.size 2 encE A n out.ents ∧ Sl w' w.heap.size w'.heap.size 1 encI A' n' out.ret) ∧ Below w.heap.size w w'
set_option maxRecDepth 100000 in
set_option maxHeartbeats 8000000 in
theorem pnext_new (A : Option Addr) (n c : Nat) (A' : Option Addr) (n' c' : Nat) (e : Ed) (K : Option Addr) (nk ck : Nat) (l : List Int) (w : World) (hn : n ≤ 1000000) (hn' : n' ≤ 1000000) (hnk : nk ≤ 1000000) (hS : EdS w A n A' n' e) (hK : Sl w 0 w.heap.size 1 encI K nk l) :
    Calls Tryz.prog 13 #[.agg #[.slice A n c, .slice A' n' c'], .slice K nk ck] w (EdNew w (nextE 1 6 2 e l).1 (nextE 1 6 2 e l).2) := by
  have HLK := Lib.hid hK.len
  have HL := Lib.hid hS.ents.len
  have HL' := Lib.hid hS.ret.len
  have HU : Hid (∀ W, Below w.heap.size w W → EdS W A n A' n' e) := fun W hW => hS.up hW
  have HKU : Hid (∀ W, Below w.heap.size w W → Sl W 0 W.heap.size 1 encI K nk l) := fun W hW => hK.up hW (Nat.le_refl _) (Nat.le_refl _)
  clear hS hK
  go_enter Tryz.func13, Tryz.ntmps13
  go_wp2_with fail
  refine (valid_any A n c A' n' c' e _ hn hn' (HU.out _ (by (repeat (first | exact Below.refl _ _ | assumption | refine Below.alloc ?_ (by first | omega | (simp only [World.size_alloc]; omega) | (simp; done) | (simp; omega)) _ | refine Below.setCell ?_ (by first | omega | (simp only [World.size_alloc]; omega) | (simp; done) | (simp; omega)) _ | refine Below.drew ?_ | refine below_drewN ?_ _))))).mono ?_; rintro r w1 ⟨rfl, hb1⟩
  obtain ⟨_, hb, Z, R⟩ := step2 (Below.refl _ w) hb1
  clear hb1
  by_cases hv : ¬ validE e
  · have HV := Lib.hid (next_arg (e := e) (l := l) fun h => hv h.1)
    rw [decide_eq_false hv]
    clear hv
    have R0 := R.cell 0 _ rfl; have Rf0 := R.frz 0; have R1 := R.cell 1 _ rfl; have Rf1 := R.frz 1; have Rlt := R.lt
    go_wp2_with fail
    refine bodyPost_ret (v := .tuple #[.agg #[.slice none 0 0, .slice none 0 0], .int .i64 1]) (by simp [results, Tryz.results13, go_sem, (R.all2 _ _).cell 0 _ rfl, (R.all2 _ _).cell 1 _ rfl]) rfl ?_
    rw [HV.out]
    exact ⟨⟨_, _, _, _, _, _, rfl, EdS.none, Sl.nil, Sl.nil⟩, below_set2 hb (by omega) _ _⟩
  replace hv := Classical.not_not.1 hv
  rw [decide_eq_true hv]
  have HVE := Lib.hid hv; clear hv
  go_wp2_with fail
  refine (asc_any K nk ck l _ _ hnk (HKU.out _ hb)).mono ?_; rintro r w2 ⟨rfl, rfl⟩
  cases ha : okB l 9999
  · have HV := Lib.hid (next_arg (e := e) (l := l) fun h => of_decide_eq_false ha h.2)
    clear ha
    have R0 := R.cell 0 _ rfl; have Rf0 := R.frz 0; have R1 := R.cell 1 _ rfl; have Rf1 := R.frz 1; have Rlt := R.lt
    go_wp2_with fail
    refine bodyPost_ret (v := .tuple #[.agg #[.slice none 0 0, .slice none 0 0], .int .i64 1]) (by simp [results, Tryz.results13, go_sem, (R.all2 _ _).cell 0 _ rfl, (R.all2 _ _).cell 1 _ rfl]) rfl ?_
    rw [HV.out]
    exact ⟨⟨_, _, _, _, _, _, rfl, EdS.none, Sl.nil, Sl.nil⟩, below_set2 hb (by omega) _ _⟩
  have HOK : Hid (validE e ∧ okList l 9999) := ⟨HVE.out, of_decide_eq_true ha⟩
  clear ha
  obtain ⟨i0, hi, hz0, hz1, hz2⟩ := info_parts Tryz.infoI
  obtain ⟨i1, hi1, hy0, hy1, hy2⟩ := info_parts Tryz.infoE
  have hlens := valid_lens HVE.out
  have hn64 : n ≤ 64 := by have := HL.out; omega
  have hn64' : n' ≤ 64 := by have := HL'.out; omega
  clear hlens
  have Z0 := Z.cell 0 _ rfl; have Zf0 := Z.frz 0; have Z1 := Z.cell 1 _ rfl; have Zf1 := Z.frz 1; have Zlt := Z.lt
  go_wp2_with fail
  refine (cloneI_any A' n' c' e.ret _ hn' (HU.out _ hb).ret).mono ?_; rintro r w3 ⟨v0, rfl, hown, hb3⟩
  have h13 := hb3.size
  have hRl := R.lt
  obtain ⟨B2, hB2⟩ : ∃ B2, B2 = w1.heap.size := ⟨_, rfl⟩
  rw [← hB2] at hown
  have hB2R : w.heap.size + 1 < B2 := by omega
  (replace hb := hb.trans (hb3.mono hb.size)); replace Z := Z.up hb3; replace R := R.up hb3; clear hb3; (try clear Z0); (try clear Z1); (try clear Zf0); (try clear Zf1); (try clear Zlt); (try clear R0); (try clear R1); (try clear Rf0); (try clear Rf1); (try clear Rlt)
  replace h13 : B2 ≤ w3.heap.size := by omega
  clear hB2 hRl
  rw [← retA_zero e l] at hown
  obtain ⟨Av, cv, rfl, _⟩ := own_form hown
  have hne0 : (Value.slice Av (retA e l 0).length cv).ownBlock ≠ some w3.heap.size := fun h => by have := (hown.lt _ h).2; omega
  have hnn : e.ret.length = (retA e l 0).length := by rw [retA_zero]
  have Z0 := Z.cell 0 _ rfl; have Zf0 := Z.frz 0; have Z1 := Z.cell 1 _ rfl; have Zf1 := Z.frz 1; have Zlt := Z.lt
  go_wp2_with fail
  have O := Bx.new w3 [.slice none 0 0, .slice Av (retA e l 0).length cv] 25
  have hb0 : Below w.heap.size w (w3.alloc (.cells #[.slice none 0 0, .slice Av (retA e l 0).length cv] 25)) := hb.alloc hb.size _
  replace Z := Z.alloc (.cells #[.slice none 0 0, .slice Av (retA e l 0).length cv] 25)
  replace R := R.alloc (.cells #[.slice none 0 0, .slice Av (retA e l 0).length cv] 25)
  replace hown := hown.alloc (.cells #[.slice none 0 0, .slice Av (retA e l 0).length cv] 25)
  generalize w3.alloc (.cells #[.slice none 0 0, .slice Av (retA e l 0).length cv] 25) = W0 at *
  generalize w3.heap.size = bo at *
  clear hb Z0 Z1 Zf0 Zf1 Zlt hnn
  go_loopw [30] (fun s wr => ∃ (k : Nat) (v : Value), k ≤ n ∧ s = .int .i64 (k : Int) ∧ wr.ownsRow B2 3 1 v (retA e l k).length ((retA e l k).flatMap encI) ∧ v.ownBlock ≠ some bo ∧ Bx wr w.heap.size [.slice A n c, .slice A' n' c'] ∧ Bx wr (w.heap.size + 1) [.slice none 0 0, .slice none 0 0] ∧ Bx wr bo [.slice none 0 0, v] ∧ Below w.heap.size w wr) (fun s _ => n - (intOf s).toNat)
  case atStart => exact ⟨0, _, by omega, rfl, hown, hne0, Z, R, O, hb0⟩
  case round =>
    clear hb0 Z R O hown hne0
    obtain ⟨k, v, hk, rfl, hown, hne, Z, R, O, hb⟩ := hrel
    have hOl := O.lt
    have hrl : (retA e l k).length ≤ 128 := by have := retA_len e l k; have := HL.out; have := HL'.out; omega
    by_cases hlt : k < n
    · obtain ⟨b, off, x, hA, hbb, hx, c0, c1⟩ := (HU.out _ hb).ents.en hlt
      subst hA
      have HC : Hid (∀ W, Below w.heap.size w W → Calls Tryz.prog 33 #[.slice K nk ck, .int .i64 x.1] W fun r w' => r = .returned (.bool (decide (x.1 ∈ l))) ∧ W = w') := fun W hW => contains_any K nk ck _ _ _ hnk (HKU.out _ hW)
      have HY : Hid (decide (x.1 ∈ l) = false → retA e l (k + 1) = retA e l k ++ [x.2]) := retA_yes hx
      have HN : Hid (decide (x.1 ∈ l) = true → retA e l (k + 1) = retA e l k) := retA_no hx
      clear hx
      generalize retA e l k = rk at *
      cases hm : decide (x.1 ∈ l)
      · have HNN := Lib.hid (HY.out hm)
        rw [hm] at HC
        clear hm
        have O0 := O.cell 0 _ rfl; have Of0 := O.frz 0; have O1 := O.cell 1 _ rfl; have Of1 := O.frz 1; have Olt := O.lt
        go_wp2_with fail
        refine (HC.out _ (by (repeat (first | exact Below.refl _ _ | assumption | refine Below.alloc ?_ (by first | omega | (simp only [World.size_alloc]; omega) | (simp; done) | (simp; omega)) _ | refine Below.setCell ?_ (by first | omega | (simp only [World.size_alloc]; omega) | (simp; done) | (simp; omega)) _ | refine Below.drew ?_ | refine below_drewN ?_ _)))).mono ?_; rintro r w4 ⟨rfl, rfl⟩
        have O' := (O.alloc (.cells #[.int .i64 x.1, .int .i64 x.2] 36))
        have O'0 := O'.cell 0 _ rfl
        have O'1 := O'.cell 1 _ rfl
        go_wp2_with (at_builtin; refine wpList_append_lies _ rfl _ _ 23 rfl B2 3 i0 (.int .i64 0) 1 8 Tryz.underlying23 hi hz0 hz1 hz2 rfl (by decide) _ _ _ rfl ((hown.alloc _).alloc _) ⟨wr.heap.size + 1, 0, none⟩ 1 1 [.int .i64 x.2] rfl rfl ?c1 ?c2 ?c6 ?c3 ?c4 ?c5 _ rfl ?_)
        case c1 => exact cell_list_at (by simp) _ _
        case c2 => simp [Value.oneCell']
        case c6 => omega
        case c3 => unfold maxLen; omega
        case c4 => omega
        case c5 => simp; omega
        · intro g cap w5 hown' hgrow hat hlt5
          have hg2 := (hown'.lt g rfl).1
          have hgo : g ≠ bo := by
            rcases hat with h | h
            · exact fun h' => hne (by rw [h, h'])
            · rw [h]; simp; omega
          have hb5 : Below B2 wr w5 := Below.grown (((Below.refl _ _).alloc (by omega) _).alloc (by simp; omega) _) hgrow (by simp; omega) (fun g hg => (hown.lt g hg).1)
          have O5 := ((O.alloc _).alloc _).grown hgrow hne
          replace hb := hb.trans (hb5.mono (by omega))
          replace Z := Z.keepD hb5 (by omega)
          replace R := R.keepD hb5 (by omega)
          clear hb5 hgrow hown O0 O1 Of0 Of1 Olt hat O'0 O'1 O'
          have O50 := O5.cell 0 _ rfl; have O5f0 := O5.frz 0; have O51 := O5.cell 1 _ rfl; have O5f1 := O5.frz 1; have O5lt := O5.lt
          go_wp2_with fail
          go_roundw
          case rel => exact ⟨k + 1, _, by omega, by go_num, by rw [HNN.out, List.flatMap_append, List.length_append]; exact ownsRow_setCell_other hown' (by simpa [Value.ownBlock] using hgo) _, by simpa [Value.ownBlock] using hgo, Z.far (by simp; omega) _, R.far (by simp; omega) _, O5.set (i := 1) (by simp) _, hb.setCell (by simp; omega) _⟩
          case measure => simp [intOf]; omega
      · have HNN := Lib.hid (HN.out hm)
        rw [hm] at HC
        clear hm
        go_wp2_with fail
        refine (HC.out _ (by (repeat (first | exact Below.refl _ _ | assumption | refine Below.alloc ?_ (by first | omega | (simp only [World.size_alloc]; omega) | (simp; done) | (simp; omega)) _ | refine Below.setCell ?_ (by first | omega | (simp only [World.size_alloc]; omega) | (simp; done) | (simp; omega)) _ | refine Below.drew ?_ | refine below_drewN ?_ _)))).mono ?_; rintro r w4 ⟨rfl, rfl⟩
        go_wp2_with fail
        go_roundw
        case rel => exact ⟨k + 1, v, by omega, by go_num, by rw [HNN.out]; exact hown.alloc _, hne, Z.alloc _, R.alloc _, O.alloc _, hb.alloc hb.size _⟩
        case measure => simp [intOf]; omega
    · obtain rfl : k = n := by omega
      have HRT : Hid (sortI (retA e l k) = retE e l) := retA_all (by have := HL.out; omega)
      have HF : Hid (64 < (retE e l).length → nextE 1 6 2 e l = (edZero, 6)) := next_full HOK.out
      have HG : Hid ((retE e l).length ≤ 64 → 999 < (newEnts e l (topE e)).2 → nextE 1 6 2 e l = (edZero, 2)) := next_range HOK.out
      have HH : Hid ((retE e l).length ≤ 64 → (newEnts e l (topE e)).2 ≤ 999 → nextE 1 6 2 e l = (⟨(newEnts e l (topE e)).1, retE e l⟩, 0)) := next_ok HOK.out
      have HLR : Hid ((retE e l).length = (retA e l k).length) := by show _ = _; rw [← HRT.out, sortI_len]
      generalize hra : retA e l k = ra at *
      clear hra
      obtain ⟨Av, cv, rfl, _⟩ := own_form hown
      have hsort : Calls Tryz.prog 34 #[.slice Av ra.length cv] wr fun r w' => r = .returned (.tuple #[]) ∧ ∃ g, Sl w' g (g + 1) 1 encI Av ra.length (sortI ra) ∧ Below B2 wr w' ∧ g ≠ bo ∧ g ≠ w.heap.size + 1 ∧ g < wr.heap.size ∧ w.heap.size ≤ g ∧ (∀ b vs, b < B2 ∨ b = bo → Bx wr b vs → Bx w' b vs) := by
        rcases Nat.eq_zero_or_pos ra.length with h0 | h0
        · have hne : ra = [] := List.eq_nil_of_length_eq_zero h0
          subst hne
          refine (Tryz.slices_Sort_int_none _ _ _).mono ?_; rintro r w2 ⟨rfl, rfl⟩
          have := Z.lt
          exact ⟨rfl, w.heap.size, by rw [show sortI [] = [] from List.eq_nil_of_length_eq_zero (by rw [sortI_len]; rfl)]; exact Sl.nil, Below.refl _ _, by omega, by omega, this, Nat.le_refl _, fun b vs _ h => h⟩
        · obtain ⟨m, hm⟩ : ∃ m, ra.length = m + 1 := ⟨ra.length - 1, by omega⟩
          rw [hm] at hown hne ⊢
          obtain ⟨g, c2, hv⟩ := ownsRow_succ hown
          rw [hv] at hown hne ⊢
          injection hv with hv1 hv2 hv3
          rw [hv1]
          have hgl := hown.lt g rfl
          have hgo : g ≠ bo := fun h => hne (by rw [h]; rfl)
          refine (sortInts_keep B2 g (m + 1) c2 ra wr hown hm hgl.1 hgl.2 (by omega)).mono ?_; rintro r w2 ⟨rfl, hS2, hb2, hkeep⟩
          exact ⟨rfl, g, hS2, hb2, hgo, by omega, hgl.2, by omega, fun b vs h hB => hkeep b vs (by rcases h with h | h <;> omega) hB⟩
      have HSORT := Lib.hid hsort; clear hsort hown hne
      have O0 := O.cell 0 _ rfl; have Of0 := O.frz 0; have O1 := O.cell 1 _ rfl; have Of1 := O.frz 1; have Olt := O.lt
      go_wp2_with fail
      refine HSORT.out.mono ?_; rintro r w3 ⟨rfl, g, hSr, hb3, hgo, hgR, hg3, hgw, hkeep⟩
      have hz3 := hb3.size
      replace Z := hkeep _ _ (.inl (by omega)) Z
      replace R := hkeep _ _ (.inl (by omega)) R
      replace O := hkeep _ _ (.inr rfl) O
      replace hb := hb.trans (hb3.mono (by omega))
      clear hb3 hkeep O0 O1 Of0 Of1 Olt
      rw [HRT.out] at hSr
      replace hOl := O.lt
      generalize retE e l = rt at *
      have hrtl := HLR.out
      rw [← hrtl] at hSr O
      have O0 := O.cell 0 _ rfl; have Of0 := O.frz 0; have O1 := O.cell 1 _ rfl; have Of1 := O.frz 1; have Olt := O.lt
      have R0 := R.cell 0 _ rfl; have Rf0 := R.frz 0; have R1 := R.cell 1 _ rfl; have Rf1 := R.frz 1; have Rlt := R.lt
      have Z0 := Z.cell 0 _ rfl; have Z1 := Z.cell 1 _ rfl; have Zlt := Z.lt
      by_cases h64r : 64 < rt.length
      · have HV := Lib.hid (HF.out h64r)
        go_wp2_with fail
        refine bodyPost_ret (v := .tuple #[.agg #[.slice none 0 0, .slice none 0 0], .int .i64 6]) (by simp [results, Tryz.results13, go_sem, (R.all2 _ _).cell 0 _ rfl, (R.all2 _ _).cell 1 _ rfl]) rfl ?_
        rw [HV.out]
        exact ⟨⟨_, _, _, _, _, _, rfl, EdS.none, Sl.nil, Sl.nil⟩, below_set2 hb (by omega) _ _⟩
      have h64r' : rt.length ≤ 64 := by omega
      go_wp2_with fail
      refine (top_any A k c A' n' c' e _ hn hn' (HU.out _ hb)).mono ?_; rintro r w4 ⟨rfl, hb4⟩
      replace hSr := hSr.below hb4 (by omega)
      have hz4 := hb4.size
      (replace hb := hb.trans (hb4.mono hb.size)); replace Z := Z.up hb4; replace R := R.up hb4; replace O := O.up hb4; clear hb4; (try clear Z0); (try clear Z1); (try clear Zf0); (try clear Zf1); (try clear Zlt); (try clear R0); (try clear R1); (try clear Rf0); (try clear Rf1); (try clear Rlt); (try clear O0); (try clear O1); (try clear Of0); (try clear Of1); (try clear Olt)
      have htl0 := topE_pos e
      have htl : topE e ≤ 999 := top_le HVE.out
      have hOl4 := O.lt
      have hbb : Below w.heap.size w w4 := hb
      obtain ⟨B1, hB1⟩ : ∃ B1, B1 = w4.heap.size := ⟨_, rfl⟩
      have hB1' : B1 ≤ w4.heap.size := by omega
      have hbo1 : bo + 1 ≤ B1 := by omega
      have hgB1 : g + 1 ≤ B1 := by omega
      clear hB1 hz4 hz3 hg3
      go_wp2_with fail
      go_loopw [9, 59] (fun t s wr => ∃ (j : Nat) (v : Value), j ≤ nk ∧ s = .int .i64 (j : Int) ∧ t = .int .i64 (newEnts e (l.take j) (topE e)).2 ∧ wr.ownsRow B1 36 2 v (newEnts e (l.take j) (topE e)).1.length ((newEnts e (l.take j) (topE e)).1.flatMap encE) ∧ Sl wr g (g + 1) 1 encI Av rt.length rt ∧ Bx wr w.heap.size [.slice A k c, .slice A' n' c'] ∧ Bx wr (w.heap.size + 1) [.slice none 0 0, .slice none 0 0] ∧ Bx wr bo [v, .slice Av rt.length cv] ∧ Below w.heap.size w wr ∧ B1 ≤ wr.heap.size) (fun _ s _ => nk - (intOf s).toNat)
      case atStart => exact ⟨0, .slice none 0 0, by omega, rfl, rfl, World.ownsRow_nil _ _ _ _, hSr, Z, R, O, hbb, hB1'⟩
      case round =>
        clear hb Z R O hSr hB1' hbb
        obtain ⟨j, v, hj, rfl, rfl, hown, hSr, Z, R, O, hb, hB1⟩ := hrel
        by_cases hlt : j < nk
        · obtain ⟨bk, off, x, hA, hbk, hx, c0⟩ := (HKU.out _ hb).in_ hlt
          subst hA
          have HX := Lib.hid hx; clear hx
          have Z0 := Z.cell 0 _ rfl; have Z1 := Z.cell 1 _ rfl; have Zlt := Z.lt
          go_wp2_with fail
          refine (find_any A k c A' n' c' e x _ hn (HU.out _ hb)).mono ?_; rintro r w5 ⟨rfl, hb5⟩
          replace hown := own_below' hown hb5
          replace hSr := hSr.below hb5 (by omega)
          replace hB1 := Nat.le_trans hB1 hb5.size
          clear c0
          (replace hb := hb.trans (hb5.mono hb.size)); replace Z := Z.up hb5; replace R := R.up hb5; replace O := O.up hb5; clear hb5; (try clear Z0); (try clear Z1); (try clear Zf0); (try clear Zf1); (try clear Zlt); (try clear R0); (try clear R1); (try clear Rf0); (try clear Rf1); (try clear Rlt); (try clear O0); (try clear O1); (try clear Of0); (try clear Of1); (try clear Olt)
          have hesl : (newEnts e (l.take j) (topE e)).1.length ≤ nk := by rw [newEnts_len, List.length_take]; omega
          have hup : (newEnts e (l.take j) (topE e)).2 ≤ 999 + nk := by have := newEnts_up e (l.take j) (topE e); rw [List.length_take] at this; omega
          obtain ⟨es, t, hne⟩ : ∃ es t, newEnts e (l.take j) (topE e) = (es, t) := ⟨_, _, rfl⟩
          have HS1 : Hid (∀ m, findE e x = some m → newEnts e (l.take (j + 1)) (topE e) = (es ++ [(x, m)], t)) := fun m hm => by rw [newEnts_some HX.out hm, hne]
          have HS2 : Hid (findE e x = none → newEnts e (l.take (j + 1)) (topE e) = (es ++ [(x, t + 1)], t + 1)) := fun hm => by rw [newEnts_none HX.out hm, hne]
          rw [hne] at hown hesl hup ⊢
          simp only at hown hesl hup ⊢
          have htl0 : 0 ≤ t := by have := newEnts_top e (l.take j) (topE e); rw [hne] at this; have := topE_pos e; omega
          clear hne
          obtain ⟨Ae, ce, rfl, _⟩ := own_form hown
          cases hf : findE e x with
          | some m =>
            have HFO := Lib.hid (findV_some hf)
            rw [HFO.out]
            have HNX := Lib.hid (HS1.out m hf)
            clear hf
            have O0 := O.cell 0 _ rfl; have Of0 := O.frz 0; have O1 := O.cell 1 _ rfl; have Of1 := O.frz 1; have Olt := O.lt
            have Z0 := Z.cell 0 _ rfl; have Z1 := Z.cell 1 _ rfl; have Zlt := Z.lt
            go_wp2_with (at_builtin; refine wpList_append_own _ rfl _ _ 22 rfl B1 36 i1 (.agg #[.int .i64 0, .int .i64 0]) 2 16 Tryz.underlying22 hi1 hy0 hy1 hy2 rfl (by decide) _ _ _ rfl (hown.alloc _) ⟨w5.heap.size, 0, none⟩ 1 1 [.int .i64 x, .int .i64 m] rfl rfl ?c1 ?c2 ?c3 ?c4 ?c5 ?_)
            case c1 => exact cell_list_at rfl _ _
            case c2 => simp [Value.oneCell']
            case c3 => unfold maxLen; omega
            case c4 => omega
            case c5 => simp; omega
            · intro v' w6 hown' hgrow _
              obtain ⟨Av', cv', rfl, _⟩ := own_form hown'
              have hb6 : Below B1 w5 w6 := Below.grown ((Below.refl _ _).alloc (by omega) _) hgrow (by simp; omega) (fun g hg => (hown.lt g hg).1)
              have O6 := O.keepD hb6 (by omega)
              have O60 := O6.cell 0 _ rfl; have O6f0 := O6.frz 0; have O61 := O6.cell 1 _ rfl; have O6f1 := O6.frz 1; have O6lt := O6.lt
              go_wp2_with fail
              go_roundw
              case rel => exact ⟨j + 1, _, by omega, by go_num, by rw [HNX.out], by rw [HNX.out]; simp only [List.flatMap_append, List.length_append]; exact ownsRow_setCell_below hown' (by simp; omega) _, (hSr.below hb6 (by omega)).set_ne (by simp; omega) _, (Z.keepD hb6 (by omega)).far (by simp; omega) _, (R.keepD hb6 (by omega)).far (by simp; omega) _, O6.set (i := 0) (by simp) _, (hb.trans (hb6.mono (by omega))).setCell (by simp; omega) _, by rw [size_set]; exact Nat.le_trans hB1 hb6.size⟩
              case measure => simp [intOf]; omega
          | none =>
            have HFO := Lib.hid (findV_none hf)
            rw [HFO.out]
            have HNX := Lib.hid (HS2.out hf)
            clear hf
            have O0 := O.cell 0 _ rfl; have Of0 := O.frz 0; have O1 := O.cell 1 _ rfl; have Of1 := O.frz 1; have Olt := O.lt
            have Z0 := Z.cell 0 _ rfl; have Z1 := Z.cell 1 _ rfl; have Zlt := Z.lt
            go_wp2_with (at_builtin; refine wpList_append_own _ rfl _ _ 22 rfl B1 36 i1 (.agg #[.int .i64 0, .int .i64 0]) 2 16 Tryz.underlying22 hi1 hy0 hy1 hy2 rfl (by decide) _ _ _ rfl (hown.alloc _) ⟨w5.heap.size, 0, none⟩ 1 1 [.int .i64 x, .int .i64 (t + 1)] rfl rfl ?c1 ?c2 ?c3 ?c4 ?c5 ?_)
            case c1 => exact cell_list_at rfl _ _
            case c2 => simp [Value.oneCell']
            case c3 => unfold maxLen; omega
            case c4 => omega
            case c5 => simp; omega
            · intro v' w6 hown' hgrow _
              obtain ⟨Av', cv', rfl, _⟩ := own_form hown'
              have hb6 : Below B1 w5 w6 := Below.grown ((Below.refl _ _).alloc (by omega) _) hgrow (by simp; omega) (fun g hg => (hown.lt g hg).1)
              have O6 := O.keepD hb6 (by omega)
              have O60 := O6.cell 0 _ rfl; have O6f0 := O6.frz 0; have O61 := O6.cell 1 _ rfl; have O6f1 := O6.frz 1; have O6lt := O6.lt
              go_wp2_with fail
              go_roundw
              case rel => exact ⟨j + 1, _, by omega, by go_num, by rw [HNX.out], by rw [HNX.out]; simp only [List.flatMap_append, List.length_append]; exact ownsRow_setCell_below hown' (by simp; omega) _, (hSr.below hb6 (by omega)).set_ne (by simp; omega) _, (Z.keepD hb6 (by omega)).far (by simp; omega) _, (R.keepD hb6 (by omega)).far (by simp; omega) _, O6.set (i := 0) (by simp) _, (hb.trans (hb6.mono (by omega))).setCell (by simp; omega) _, by rw [size_set]; exact Nat.le_trans hB1 hb6.size⟩
              case measure => simp [intOf]; omega
        · obtain rfl : j = nk := by omega
          have HTK : Hid (l.take j = l) := List.take_of_length_le (by have := HLK.out; omega)
          rw [HTK.out] at hown
          rw [HTK.out]
          have HG1 : Hid (999 < (newEnts e l (topE e)).2 → nextE 1 6 2 e l = (edZero, 2)) := HG.out h64r'
          have HH1 : Hid ((newEnts e l (topE e)).2 ≤ 999 → nextE 1 6 2 e l = (⟨(newEnts e l (topE e)).1, rt⟩, 0)) := HH.out h64r'
          clear HG HH HF
          generalize newEnts e l (topE e) = ne at *
          obtain ⟨es, t⟩ := ne
          simp only at hown ⊢
          obtain ⟨Ae, ce, rfl, _⟩ := own_form hown
          have hSe := Sl.of_own (enc := encE) encE_len hown rfl
          clear hown
          have O0 := O.cell 0 _ rfl; have Of0 := O.frz 0; have O1 := O.cell 1 _ rfl; have Of1 := O.frz 1; have Olt := O.lt
          have R0 := R.cell 0 _ rfl; have Rf0 := R.frz 0; have R1 := R.cell 1 _ rfl; have Rf1 := R.frz 1; have Rlt := R.lt
          by_cases ht9 : 999 < t
          · have HV := Lib.hid (HG1.out ht9)
            go_wp2_with fail
            refine bodyPost_ret (v := .tuple #[.agg #[.slice none 0 0, .slice none 0 0], .int .i64 2]) (by simp [results, Tryz.results13, go_sem, (R.all2 _ _).cell 0 _ rfl, (R.all2 _ _).cell 1 _ rfl]) rfl ?_
            rw [HV.out]
            exact ⟨⟨_, _, _, _, _, _, rfl, EdS.none, Sl.nil, Sl.nil⟩, below_set2 hb (by omega) _ _⟩
          · have HV := Lib.hid (HH1.out (by simp only; omega))
            go_wp2_with fail
            refine bodyPost_ret (v := .tuple #[.agg #[.slice Ae es.length ce, .slice Av rt.length cv], .int .i64 0]) (by simp [results, Tryz.results13, go_sem, (R.all2 _ _).cell 0 _ rfl, (R.all2 _ _).cell 1 _ rfl, hrtl]) rfl ?_
            rw [HV.out]
            refine ⟨⟨_, _, _, _, _, _, rfl, ⟨?_, ?_⟩, ?_, ?_⟩, below_set2 hb (by omega) _ _⟩
            · exact ((hSe.set_ (by simp; omega) _).set_ (by simp; omega) _).any.more (by simp [size_set])
            · exact ((hSr.set_ne (by simp; omega) _).set_ne (by simp; omega) _).any.more (by simp only [size_set]; omega)
            · exact (((hSe.set_ (by simp; omega) _).set_ (by simp; omega) _).less (by omega)).more (by simp [size_set])
            · exact (((hSr.set_ne (by simp; omega) _).set_ne (by simp; omega) _).less (by omega)).more (by simp only [size_set]; omega)
theorem pnext_any (A : Option Addr) (n c : Nat) (A' : Option Addr) (n' c' : Nat) (e : Ed) (K : Option Addr) (nk ck : Nat) (l : List Int) (w : World) (hn : n ≤ 1000000) (hn' : n' ≤ 1000000) (hnk : nk ≤ 1000000) (hS : EdS w A n A' n' e) (hK : Sl w 0 w.heap.size 1 encI K nk l) :
    Calls Tryz.prog 13 #[.agg #[.slice A n c, .slice A' n' c'], .slice K nk ck] w (EdOut w (nextE 1 6 2 e l).1 (nextE 1 6 2 e l).2) :=
  (pnext_new A n c A' n' c' e K nk ck l w hn hn' hnk hS hK).mono fun r w' ⟨⟨P, p, q, P', p', q', h1, h2, _, _⟩, hb⟩ => ⟨⟨P, p, q, P', p', q', h1, h2⟩, hb⟩
end Go.Proofs.YtfanjghfilkhmaaGreatDoor
