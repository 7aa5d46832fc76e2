/- The fixed results that every law asks for first (chapter 47). -/
import Derived.Test.YtfanjghfilkhmaaGreatDoorHd
import Derived.Test.YtfanjghfilkhmaaGreatDoorGt
import Derived.Test.YtfanjghfilkhmaaGreatDoorGr
import Derived.Test.YtfanjghfilkhmaaGreatDoorEk
set_option linter.unusedSimpArgs false
set_option linter.unusedVariables false
namespace Go.Proofs.YtfanjghfilkhmaaGreatDoor
open Go.RowKit

theorem Sl.fresh {α : Type} {k : Nat} {enc : α → List Value} (hk : ∀ x, (enc x).length = k) (w : World) (xs : List α) (vs : Array Value) (t : TypeId) (n : Nat) (hv : vs.toList = xs.flatMap enc) (hn : xs.length = n) :
    Sl (w.alloc (.cells vs t)) w.heap.size (w.alloc (.cells vs t)).heap.size k enc (some ⟨w.heap.size, 0, none⟩) n xs := by
  refine ⟨hn, fun _ => ⟨w.heap.size, 0, rfl, Nat.le_refl _, by simp, fun i x hx j u hu => ?_⟩⟩
  rw [World.cell?_alloc_new, Nat.zero_add, ← Array.getElem?_toList, hv]
  exact flat_at hk xs i x j u hx hu
/-- Two rows laid one behind the other. -/
theorem lay_ed (w : World) (es : List (Int × Int)) (rs : List Int) (vs us : Array Value) (n n' : Nat) (hv : vs.toList = es.flatMap encE) (hu : us.toList = rs.flatMap encI) (hn : es.length = n) (hn' : rs.length = n') :
    EdS ((w.alloc (.cells vs 36)).alloc (.cells us 3)) (some ⟨w.heap.size, 0, none⟩) n (some ⟨w.heap.size + 1, 0, none⟩) n' ⟨es, rs⟩ := by
  have h1 := (Sl.fresh encE_len w es vs 36 n hv hn).alloc (.cells us 3)
  have h2 := Sl.fresh encI_len (w.alloc (.cells vs 36)) rs us 3 n' hu hn'
  rw [World.size_alloc] at h2
  exact ⟨h1.any, h2.any⟩
set_option maxHeartbeats 1000000 in
theorem example_any (w : World) : Calls Tryz.prog 30 #[] w fun e w' => (∃ A A' c c', e = .returned (.agg #[.slice A 2 c, .slice A' 1 c']) ∧ EdS w' A 2 A' 1 exE) ∧ Below w.heap.size w w' := by
  go_enter Tryz.func30, Tryz.ntmps30
  go_wp2_with fail
  refine bodyPost_ret (v := .agg #[.slice (some ⟨w.heap.size + 1, 0, none⟩) 2 2, .slice (some ⟨w.heap.size + 1 + 1, 0, none⟩) 1 1]) (by simp [results, Tryz.results30, go_sem]) rfl ⟨⟨_, _, _, _, rfl, ?_⟩, by (repeat (first | exact Below.refl _ _ | assumption | refine Below.alloc ?_ (by first | omega | (simp only [World.size_alloc]; omega) | (simp; done) | (simp; omega)) _ | refine Below.setCell ?_ (by first | omega | (simp only [World.size_alloc]; omega) | (simp; done) | (simp; omega)) _ | refine Below.drew ?_ | refine below_drewN ?_ _))⟩
  have h := lay_ed (w.alloc (.cells #[.slice (some ⟨w.heap.size + 1, 0, none⟩) 2 2, .slice (some ⟨w.heap.size + 1 + 1, 0, none⟩) 1 1] 25)) [(12, 3), (20, 1)] [2] #[.int .i64 12, .int .i64 3, .int .i64 20, .int .i64 1] #[.int .i64 2] 2 1 rfl rfl rfl rfl
  rw [World.size_alloc] at h
  exact h
set_option maxHeartbeats 1000000 in
theorem few_any (A : Option Addr) (n c : Nat) (A' : Option Addr) (n' c' : Nat) (w : World) :
    Calls Tryz.prog 12 #[.agg #[.slice A n c, .slice A' n' c']] w fun e w' => e = .returned (.bool (decide (n ≤ 100) && decide (n' ≤ 100))) ∧ Below w.heap.size w w' := by
  go_enter Tryz.func12, Tryz.ntmps12
  by_cases h1 : n ≤ 100
  · go_wp2_with fail
    go_ret
    have h2 : decide ((n' : Int) ≤ 100) = decide (n' ≤ 100) := by rw [decide_eq_decide]; omega
    exact ⟨by rw [decide_eq_true h1, Bool.true_and, ← h2]; rfl, by (repeat (first | exact Below.refl _ _ | assumption | refine Below.alloc ?_ (by first | omega | (simp only [World.size_alloc]; omega) | (simp; done) | (simp; omega)) _ | refine Below.setCell ?_ (by first | omega | (simp only [World.size_alloc]; omega) | (simp; done) | (simp; omega)) _ | refine Below.drew ?_ | refine below_drewN ?_ _))⟩
  · go_wp2_with fail
    go_ret
    exact ⟨by simp [h1], by (repeat (first | exact Below.refl _ _ | assumption | refine Below.alloc ?_ (by first | omega | (simp only [World.size_alloc]; omega) | (simp; done) | (simp; omega)) _ | refine Below.setCell ?_ (by first | omega | (simp only [World.size_alloc]; omega) | (simp; done) | (simp; omega)) _ | refine Below.drew ?_ | refine below_drewN ?_ _))⟩
theorem exNext : nextE 1 6 2 exE [5, 20] = (exN, 0) := by rw [nextE_ok exE_ok, exE_next]
theorem exNum : numV exE 12 = .tuple #[.int .i64 3, .int .i64 0] := numV_yes exE_valid exE_find
theorem exKey : keyV exE 2 = .tuple #[.int .i64 0, .int .i64 7] := keyV_none exE_valid exE_own
theorem exTop : topV exE = .tuple #[.int .i64 3, .int .i64 0] := by rw [topV_yes exE_valid, exE_top]
theorem exFol : folB exE exN = true := decide_eq_true exE_follows
theorem exFol2 : folB exN exE = false := decide_eq_false exN_not
set_option maxRecDepth 100000 in
set_option maxHeartbeats 8000000 in
theorem awake_any (w : World) (hE : Env w) :
    Calls Tryz.prog 11 #[] w fun e w' => e = .returned (.bool true) ∧ Below w.heap.size w w' := by
  go_enter Tryz.func11, Tryz.ntmps11
  go_wp2_with fail
  refine (example_any _).mono ?_; rintro r w1 ⟨⟨A, A', c, c', rfl, hX⟩, hb⟩
  go_wp2_with fail
  have hK := Sl.fresh encI_len (w1.alloc (.cells #[.slice A 2 c, .slice A' 1 c'] 25)) [5, 20] #[.int .i64 5, .int .i64 20] 3 2 rfl rfl
  have B1 := (Bx.new w1 [.slice A 2 c, .slice A' 1 c'] 25).alloc (.cells #[.int .i64 5, .int .i64 20] 3)
  have hbW : Below w1.heap.size w1 ((w1.alloc (.cells #[.slice A 2 c, .slice A' 1 c'] 25)).alloc (.cells #[.int .i64 5, .int .i64 20] 3)) := by (repeat (first | exact Below.refl _ _ | assumption | refine Below.alloc ?_ (by first | omega | (simp only [World.size_alloc]; omega) | (simp; done) | (simp; omega)) _ | refine Below.setCell ?_ (by first | omega | (simp only [World.size_alloc]; omega) | (simp; done) | (simp; omega)) _ | refine Below.drew ?_ | refine below_drewN ?_ _))
  rw [World.size_alloc] at hK
  generalize (w1.alloc (.cells #[.slice A 2 c, .slice A' 1 c'] 25)).alloc (.cells #[.int .i64 5, .int .i64 20] 3) = W1 at *
  replace hX := hX.up hbW
  replace hb := hb.trans (hbW.mono hb.size)
  clear hbW
  generalize w1.heap.size + 1 = bk at *
  generalize w1.heap.size = b1 at *
  refine (pnext_any A 2 c A' 1 c' exE (some ⟨bk, 0, none⟩) 2 2 [5, 20] _ (by decide) (by decide) (by decide) hX hK.any).mono ?_
  rw [exNext]
  rintro r w2 ⟨⟨N, n, d, N', n', d', rfl, hN⟩, hb2⟩
  obtain rfl : 2 = n := hN.ents.len
  obtain rfl : 2 = n' := hN.ret.len
  dsimp only at hN ⊢
  (replace hb := hb.trans (hb2.mono hb.size)); replace B1 := B1.up hb2; replace hX := hX.up hb2; clear hb2; (try clear B10); (try clear B11); (try clear B1lt)
  have B10 := B1.cell 0 _ rfl; have B11 := B1.cell 1 _ rfl; have B1lt := B1.lt
  clear hK
  go_wp2_with fail
  refine (number_any A 2 c A' 1 c' exE 12 _ (by decide) (by decide) (hX.up (one_alloc _ _))).mono ?_; rintro r w3 ⟨rfl, hb3⟩
  rw [exNum]
  obtain ⟨h23, hb', B2⟩ := step1 hb hb3
  replace B1 := B1.up h23
  replace hX := hX.up h23
  replace hN := hN.up h23
  clear hb hb3 h23 B10 B11 B1lt
  have hb := hb'; clear hb'
  generalize w2.heap.size = b2 at *
  have B10 := B1.cell 0 _ rfl; have B11 := B1.cell 1 _ rfl; have B1lt := B1.lt
  have B20 := B2.cell 0 _ rfl; have B21 := B2.cell 1 _ rfl; have B2lt := B2.lt
  go_wp2_with fail
  refine (key_any A 2 c A' 1 c' exE 2 _ (by decide) (by decide) hX).mono ?_; rintro r w4 ⟨rfl, hb4⟩
  rw [exKey]
  (replace hb := hb.trans (hb4.mono hb.size)); replace B1 := B1.up hb4; replace B2 := B2.up hb4; replace hX := hX.up hb4; replace hN := hN.up hb4; clear hb4; (try clear B10); (try clear B11); (try clear B1lt); (try clear B20); (try clear B21); (try clear B2lt)
  have B10 := B1.cell 0 _ rfl; have B11 := B1.cell 1 _ rfl; have B1lt := B1.lt
  go_wp2_with fail
  refine (ptop_any A 2 c A' 1 c' exE _ (by decide) (by decide) hX).mono ?_; rintro r w5 ⟨rfl, hb5⟩
  rw [exTop]
  (replace hb := hb.trans (hb5.mono hb.size)); replace B1 := B1.up hb5; replace B2 := B2.up hb5; replace hX := hX.up hb5; replace hN := hN.up hb5; clear hb5; (try clear B10); (try clear B11); (try clear B1lt); (try clear B20); (try clear B21); (try clear B2lt)
  go_wp2_with fail
  refine (pparse_any exT47 _ (by decide) (hE.step hb)).mono ?_
  rintro r w6 ⟨⟨e, hok, P, p, q, P', p', q', rfl, hP⟩ | ⟨hno, _⟩, hb6⟩
  rotate_left 1
  · exact absurd ⟨exE_isText, by decide⟩ (hno exE)
  obtain rfl : e = exE := isText_unique hok.1 exE_isText
  clear hok
  obtain rfl : 2 = p := hP.ents.len
  obtain rfl : 1 = p' := hP.ret.len
  (replace hb := hb.trans (hb6.mono hb.size)); replace B1 := B1.up hb6; replace B2 := B2.up hb6; replace hX := hX.up hb6; replace hN := hN.up hb6; clear hb6; (try clear B10); (try clear B11); (try clear B1lt); (try clear B20); (try clear B21); (try clear B2lt)
  have B3 := Bx.new w6 [.slice P 2 q, .slice P' 1 q'] 25
  have hL := lay_ed (w6.alloc (.cells #[.slice P 2 q, .slice P' 1 q'] 25)) [(5, 4), (20, 1)] [2, 3] #[.int .i64 5, .int .i64 4, .int .i64 20, .int .i64 1] #[.int .i64 2, .int .i64 3] 2 2 rfl rfl rfl rfl
  rw [World.size_alloc] at hL
  have B10 := B1.cell 0 _ rfl; have B11 := B1.cell 1 _ rfl; have B1lt := B1.lt
  have B20 := B2.cell 0 _ rfl; have B21 := B2.cell 1 _ rfl; have B2lt := B2.lt
  go_wp2_with fail
  have hb7 : Below w6.heap.size w6 (((w6.alloc (.cells #[.slice P 2 q, .slice P' 1 q'] 25)).alloc (.cells #[.int .i64 5, .int .i64 4, .int .i64 20, .int .i64 1] 36)).alloc (.cells #[.int .i64 2, .int .i64 3] 3)) := by (repeat (first | exact Below.refl _ _ | assumption | refine Below.alloc ?_ (by first | omega | (simp only [World.size_alloc]; omega) | (simp; done) | (simp; omega)) _ | refine Below.setCell ?_ (by first | omega | (simp only [World.size_alloc]; omega) | (simp; done) | (simp; omega)) _ | refine Below.drew ?_ | refine below_drewN ?_ _))
  replace B3 := (B3.alloc (.cells #[.int .i64 5, .int .i64 4, .int .i64 20, .int .i64 1] 36)).alloc (.cells #[.int .i64 2, .int .i64 3] 3)
  generalize ((w6.alloc (.cells #[.slice P 2 q, .slice P' 1 q'] 25)).alloc (.cells #[.int .i64 5, .int .i64 4, .int .i64 20, .int .i64 1] 36)).alloc (.cells #[.int .i64 2, .int .i64 3] 3) = W7 at *
  generalize w6.heap.size + 1 + 1 = bi at *
  generalize w6.heap.size + 1 = be at *
  (replace hb := hb.trans (hb7.mono hb.size)); replace B1 := B1.up hb7; replace B2 := B2.up hb7; replace hX := hX.up hb7; replace hN := hN.up hb7; replace hP := hP.up hb7; clear hb7; (try clear B10); (try clear B11); (try clear B1lt); (try clear B20); (try clear B21); (try clear B2lt)
  generalize w6.heap.size = b3 at *
  refine (editions_any N 2 d N' 2 d' exN (some ⟨be, 0, none⟩) 2 2 (some ⟨bi, 0, none⟩) 2 2 exN W7 (by decide) (by decide) (by decide) (by decide) hN hL).mono ?_; rintro r w8 ⟨rfl, hb8⟩
  rw [decide_eq_true (rfl : exN = exN)]
  (replace hb := hb.trans (hb8.mono hb.size)); replace B1 := B1.up hb8; replace B2 := B2.up hb8; replace B3 := B3.up hb8; replace hX := hX.up hb8; replace hN := hN.up hb8; replace hP := hP.up hb8; clear hb8; (try clear B10); (try clear B11); (try clear B1lt); (try clear B20); (try clear B21); (try clear B2lt); (try clear B30); (try clear B31); (try clear B3lt)
  clear hL
  have B10 := B1.cell 0 _ rfl; have B11 := B1.cell 1 _ rfl; have B1lt := B1.lt
  have B20 := B2.cell 0 _ rfl; have B21 := B2.cell 1 _ rfl; have B2lt := B2.lt
  have B30 := B3.cell 0 _ rfl; have B31 := B3.cell 1 _ rfl; have B3lt := B3.lt
  go_wp2_with fail
  refine (editions_any P 2 q P' 1 q' exE A 2 c A' 1 c' exE w8 (by decide) (by decide) (by decide) (by decide) hP hX).mono ?_; rintro r w9 ⟨rfl, hb9⟩
  rw [decide_eq_true (rfl : exE = exE)]
  (replace hb := hb.trans (hb9.mono hb.size)); replace B1 := B1.up hb9; replace B2 := B2.up hb9; replace B3 := B3.up hb9; replace hX := hX.up hb9; replace hN := hN.up hb9; replace hP := hP.up hb9; clear hb9; (try clear B10); (try clear B11); (try clear B1lt); (try clear B20); (try clear B21); (try clear B2lt); (try clear B30); (try clear B31); (try clear B3lt)
  have B10 := B1.cell 0 _ rfl; have B11 := B1.cell 1 _ rfl; have B1lt := B1.lt
  have B20 := B2.cell 0 _ rfl; have B21 := B2.cell 1 _ rfl; have B2lt := B2.lt
  go_wp2_with fail
  refine (ptext_any A 2 c A' 1 c' exE _ (hE.step hb) (by decide) (by decide) hX).mono ?_; rintro r wa ⟨rfl, hba⟩
  rw [exE_text]
  dsimp only [exT47]
  (replace hb := hb.trans (hba.mono hb.size)); replace B1 := B1.up hba; replace B2 := B2.up hba; replace B3 := B3.up hba; replace hX := hX.up hba; replace hN := hN.up hba; replace hP := hP.up hba; clear hba; (try clear B10); (try clear B11); (try clear B1lt); (try clear B20); (try clear B21); (try clear B2lt); (try clear B30); (try clear B31); (try clear B3lt)
  have B10 := B1.cell 0 _ rfl; have B11 := B1.cell 1 _ rfl; have B1lt := B1.lt
  have B20 := B2.cell 0 _ rfl; have B21 := B2.cell 1 _ rfl; have B2lt := B2.lt
  go_wp2_with fail
  refine (pfollows_any A 2 c A' 1 c' exE N 2 d N' 2 d' exN _ (by decide) (by decide) (by decide) (by decide) hX hN).mono ?_; rintro r wb ⟨rfl, hbb⟩
  rw [exFol]
  (replace hb := hb.trans (hbb.mono hb.size)); replace B1 := B1.up hbb; replace B2 := B2.up hbb; replace B3 := B3.up hbb; replace hX := hX.up hbb; replace hN := hN.up hbb; replace hP := hP.up hbb; clear hbb; (try clear B10); (try clear B11); (try clear B1lt); (try clear B20); (try clear B21); (try clear B2lt); (try clear B30); (try clear B31); (try clear B3lt)
  have B10 := B1.cell 0 _ rfl; have B11 := B1.cell 1 _ rfl; have B1lt := B1.lt
  have B20 := B2.cell 0 _ rfl; have B21 := B2.cell 1 _ rfl; have B2lt := B2.lt
  go_wp2_with fail
  refine (pfollows_any N 2 d N' 2 d' exN A 2 c A' 1 c' exE _ (by decide) (by decide) (by decide) (by decide) hN hX).mono ?_; rintro r wc ⟨rfl, hbc⟩
  rw [exFol2]
  (replace hb := hb.trans (hbc.mono hb.size)); replace B1 := B1.up hbc; replace B2 := B2.up hbc; replace B3 := B3.up hbc; replace hX := hX.up hbc; replace hN := hN.up hbc; replace hP := hP.up hbc; clear hbc; (try clear B10); (try clear B11); (try clear B1lt); (try clear B20); (try clear B21); (try clear B2lt); (try clear B30); (try clear B31); (try clear B3lt)
  have B10 := B1.cell 0 _ rfl; have B11 := B1.cell 1 _ rfl; have B1lt := B1.lt
  go_wp2_with fail
  refine (valid_any A 2 c A' 1 c' exE _ (by decide) (by decide) hX).mono ?_; rintro r wd ⟨rfl, hbd⟩
  rw [decide_eq_true exE_valid]
  (replace hb := hb.trans (hbd.mono hb.size)); clear hbd
  go_wp2_with fail
  go_ret
  exact ⟨rfl, hb⟩
end Go.Proofs.YtfanjghfilkhmaaGreatDoor
