/- The fixed results that every law asks for first. -/
import Derived.Test.YtnaoagkelbjflaaGreatDoorSy
set_option linter.unusedSimpArgs false
set_option linter.unusedVariables false
namespace Go.Proofs.YtnaoagkelbjflaaGreatDoor
open Go.RowKit

def ex : Spm := ⟨17, 3, 12, 2, 1, 6, 16820⟩
def exT : List UInt8 := [49, 55, 32, 79, 51, 98, 47, 82, 49, 50, 97, 32, 54, 104, 32, 49, 54, 46, 56, 50, 48]
def exB : List UInt8 := [49, 55, 32, 79, 51, 47, 82, 49, 50, 97, 32, 54, 104, 32, 49, 54, 46, 56, 50, 48]
theorem ex_valid : validS ex = true := by decide
theorem ex_text : textSp ex = exT := by
  decide +kernel
theorem ex_parse : parseSp exT = some ex := by rw [← ex_text]; exact parseSp_text ex ex_valid
theorem ex_bad : parseSp exB = none := by
  decide +kernel
theorem ex_chk : chk [ex] = 0 := by decide
theorem ex_chk2 : chk [ex, ex] = 8 := by decide
theorem ex_sort : sortS [ex] = [ex] := sortS_of_lt (List.pairwise_singleton ..)
theorem ex_find : findV [ex] 17 = .tuple #[.agg #[.int .i64 17, .int .i64 3, .int .i64 12, .int .i64 2, .int .i64 1, .int .i64 6, .int .i64 16820], .bool true] := findV_some (x := ex) (by decide)
theorem ex_ue : unionE [ex] [ex] = 0 := by decide
theorem ex_ul : unionL [ex] [ex] = [ex] := by unfold unionL; rw [if_pos ex_ue]; show sortS (joined [ex] [ex]) = _; rw [show joined [ex] [ex] = [ex] from by decide, ex_sort]
theorem ex_oe : ofE [ex] 1 12 = 0 := by decide
theorem ex_ol : ofL [ex] 1 12 = [17] := by unfold ofL; rw [if_pos ex_oe, ex_sort]; decide
theorem ex_exp : expL [ex] = exT ++ [10] := by unfold expL; rw [if_pos ex_chk, ex_sort]; simp [texts, ex_text]
theorem ex_imp : ImpOk (exT ++ [10]) [ex] := by
  have h := imp_exp ex_chk
  rwa [ex_exp, ex_sort] at h
theorem Sl.fresh {α : Type} {k : Nat} {enc : α → List Value} (hk : ∀ x, (enc x).length = k) (w : World) (xs : List α) (vs : Array Value) (t : TypeId) (n : Nat) (hv : vs.toList = xs.flatMap enc) (hn : xs.length = n) :
    Sl (w.alloc (.cells vs t)) w.heap.size (w.alloc (.cells vs t)).heap.size k enc (some ⟨w.heap.size, 0, none⟩) n xs := by
  refine ⟨hn, fun _ => ⟨w.heap.size, 0, rfl, Nat.le_refl _, by simp, fun i x hx j u hu => ?_⟩⟩
  rw [World.cell?_alloc_new, Nat.zero_add, ← Array.getElem?_toList, hv]
  exact flat_at hk xs i x j u hx hu
theorem example_any (w : World) : Calls Tryz.prog 36 #[] w fun e w' => e = .returned (.agg #[.int .i64 17, .int .i64 3, .int .i64 12, .int .i64 2, .int .i64 1, .int .i64 6, .int .i64 16820]) ∧ Below w.heap.size w w' := by
  go_enter Tryz.func36, Tryz.ntmps36
  go_wp2
  refine bodyPost_ret (v := .agg #[.int .i64 17, .int .i64 3, .int .i64 12, .int .i64 2, .int .i64 1, .int .i64 6, .int .i64 16820]) (by simp [results, Tryz.results36, go_sem]) rfl ⟨rfl, by (repeat (first | exact Below.refl _ _ | assumption | refine Below.alloc ?_ (by first | omega | (simp only [World.size_alloc]; omega) | (simp; done) | (simp; omega)) _ | refine Below.setCell ?_ (by first | omega | (simp only [World.size_alloc]; omega) | (simp; done) | (simp; omega)) _ | refine Below.drew ?_ | refine below_drewN ?_ _))⟩
theorem ex_eq (W : World) : (binOp .eql 23 (.agg #[.int .i64 17, .int .i64 3, .int .i64 12, .int .i64 2, .int .i64 1, .int .i64 6, .int .i64 16820]) (.agg #[.int .i64 17, .int .i64 3, .int .i64 12, .int .i64 2, .int .i64 1, .int .i64 6, .int .i64 16820])).run Tryz.prog W = .ok (.bool true) W := (eqSpmV ex ex W).trans (by simp)

set_option maxRecDepth 100000 in
set_option maxHeartbeats 4000000 in
theorem awake_any (w : World) (hE : Env w) :
    Calls Tryz.prog 12 #[] w fun e w' => e = .returned (.bool true) ∧ Below w.heap.size w w' := by
  go_enter Tryz.func12, Tryz.ntmps12
  go_wp2_with fail
  refine (example_any _).mono ?_; rintro e w1 ⟨rfl, hb⟩
  go_wp2_with fail
  refine (sparse_any exT _ (by decide) (hE.step (hb.alloc hb.size _))).mono ?_; rintro e w2 ⟨rfl, hb2⟩
  rw [parseSpV_some ex_parse]
  obtain ⟨hb12, hbb, X⟩ := step1 hb hb2
  clear hb hb2 hb12
  generalize w1.heap.size = b1 at *
  dsimp only [ex]
  go_wp2_with fail
  refine (sparse_any exB _ (by decide) (hE.step (hbb.alloc hbb.size _))).mono ?_; rintro e w3 ⟨rfl, hb3⟩
  rw [parseSpV_none ex_bad]
  obtain ⟨hb23, hb, Y⟩ := step1 hbb hb3
  replace X := X.up hb23
  clear hbb hb3 hb23
  generalize w2.heap.size = b2 at *
  have X0 := X.cell 0 _ rfl; have X1 := X.cell 1 _ rfl; have X2 := X.cell 2 _ rfl; have X3 := X.cell 3 _ rfl; have X4 := X.cell 4 _ rfl; have X5 := X.cell 5 _ rfl; have X6 := X.cell 6 _ rfl; have Xlt := X.lt
  have Y0 := Y.cell 0 _ rfl; have Y1 := Y.cell 1 _ rfl; have Y2 := Y.cell 2 _ rfl; have Y3 := Y.cell 3 _ rfl; have Y4 := Y.cell 4 _ rfl; have Y5 := Y.cell 5 _ rfl; have Y6 := Y.cell 6 _ rfl; have Ylt := Y.lt
  go_wp2_with fail
  have hS0 : Sl ((w3.alloc (.cells #[.int .i64 0, .int .i64 0, .int .i64 0, .int .i64 0, .int .i64 0, .int .i64 0, .int .i64 0] 23)).alloc (.cells #[.int .i64 17, .int .i64 3, .int .i64 12, .int .i64 2, .int .i64 1, .int .i64 6, .int .i64 16820] 23)) 0 ((w3.alloc (.cells #[.int .i64 0, .int .i64 0, .int .i64 0, .int .i64 0, .int .i64 0, .int .i64 0, .int .i64 0] 23)).alloc (.cells #[.int .i64 17, .int .i64 3, .int .i64 12, .int .i64 2, .int .i64 1, .int .i64 6, .int .i64 16820] 23)).heap.size 7 encS (some ⟨w3.heap.size + 1, 0, none⟩) 1 [ex] := by
    have h := Sl.fresh encS_len (w3.alloc (.cells #[.int .i64 0, .int .i64 0, .int .i64 0, .int .i64 0, .int .i64 0, .int .i64 0, .int .i64 0] 23)) [ex] #[.int .i64 17, .int .i64 3, .int .i64 12, .int .i64 2, .int .i64 1, .int .i64 6, .int .i64 16820] 23 1 rfl rfl
    rw [World.size_alloc] at h
    exact h.any
  generalize hW : (w3.alloc (.cells #[.int .i64 0, .int .i64 0, .int .i64 0, .int .i64 0, .int .i64 0, .int .i64 0, .int .i64 0] 23)).alloc (.cells #[.int .i64 17, .int .i64 3, .int .i64 12, .int .i64 2, .int .i64 1, .int .i64 6, .int .i64 16820] 23) = W at *
  have hbW : Below w3.heap.size w3 W := by rw [← hW]; (repeat (first | exact Below.refl _ _ | assumption | refine Below.alloc ?_ (by first | omega | (simp only [World.size_alloc]; omega) | (simp; done) | (simp; omega)) _ | refine Below.setCell ?_ (by first | omega | (simp only [World.size_alloc]; omega) | (simp; done) | (simp; omega)) _ | refine Below.drew ?_ | refine below_drewN ?_ _))
  (replace hb := hb.trans (hbW.mono hb.size)); replace X := X.up hbW; replace Y := Y.up hbW; clear hbW; (try clear X0); (try clear X1); (try clear X2); (try clear X3); (try clear X4); (try clear X5); (try clear X6); (try clear Xlt); (try clear Y0); (try clear Y1); (try clear Y2); (try clear Y3); (try clear Y4); (try clear Y5); (try clear Y6); (try clear Ylt)
  clear hW
  generalize w3.heap.size + 1 = bl at *
  refine (sunion_any (some ⟨bl, 0, none⟩) 1 1 [ex] (some ⟨bl, 0, none⟩) 1 1 [ex] W (by decide) (by decide) hS0 hS0).mono ?_
  rintro e w4 ⟨⟨A7, n7, c7, rfl, hS7⟩, hb4⟩
  rw [ex_ul] at hS7
  obtain rfl : 1 = n7 := hS7.len
  rw [ex_ue]
  replace hS7 := hS7.any
  (replace hb := hb.trans (hb4.mono hb.size)); replace X := X.up hb4; replace Y := Y.up hb4; replace hS0 := hS0.up hb4 (Nat.le_refl _) (Nat.le_refl _); clear hb4; (try clear X0); (try clear X1); (try clear X2); (try clear X3); (try clear X4); (try clear X5); (try clear X6); (try clear Xlt); (try clear Y0); (try clear Y1); (try clear Y2); (try clear Y3); (try clear Y4); (try clear Y5); (try clear Y6); (try clear Ylt)
  go_wp2_with fail
  refine (sof_any (some ⟨bl, 0, none⟩) 1 1 [ex] 1 12 _ (by decide) hS0).mono ?_
  rintro e w5 ⟨⟨A9, n9, c9, rfl, hS9⟩, hb5⟩
  rw [ex_ol] at hS9
  obtain rfl : 1 = n9 := hS9.len
  rw [ex_oe]
  replace hS9 := hS9.any
  (replace hb := hb.trans (hb5.mono hb.size)); replace X := X.up hb5; replace Y := Y.up hb5; replace hS0 := hS0.up hb5 (Nat.le_refl _) (Nat.le_refl _); replace hS7 := hS7.up hb5 (Nat.le_refl _) (Nat.le_refl _); clear hb5; (try clear X0); (try clear X1); (try clear X2); (try clear X3); (try clear X4); (try clear X5); (try clear X6); (try clear Xlt); (try clear Y0); (try clear Y1); (try clear Y2); (try clear Y3); (try clear Y4); (try clear Y5); (try clear Y6); (try clear Ylt)
  go_wp2_with fail
  refine (sexport_any (some ⟨bl, 0, none⟩) 1 1 [ex] _ (hE.step hb) (by decide) hS0).mono ?_
  rintro e w6 ⟨rfl, hb6⟩
  rw [ex_exp, ex_chk]
  (replace hb := hb.trans (hb6.mono hb.size)); replace X := X.up hb6; replace Y := Y.up hb6; replace hS0 := hS0.up hb6 (Nat.le_refl _) (Nat.le_refl _); replace hS7 := hS7.up hb6 (Nat.le_refl _) (Nat.le_refl _); replace hS9 := hS9.up hb6 (Nat.le_refl _) (Nat.le_refl _); clear hb6; (try clear X0); (try clear X1); (try clear X2); (try clear X3); (try clear X4); (try clear X5); (try clear X6); (try clear Xlt); (try clear Y0); (try clear Y1); (try clear Y2); (try clear Y3); (try clear Y4); (try clear Y5); (try clear Y6); (try clear Ylt)
  go_wp2_with fail
  refine (sfind_any (some ⟨bl, 0, none⟩) 1 1 [ex] 17 _ (by decide) hS0).mono ?_
  rintro e w7 ⟨rfl, hb7⟩
  rw [ex_find]
  (replace hb := hb.trans (hb7.mono hb.size)); replace X := X.up hb7; replace Y := Y.up hb7; replace hS0 := hS0.up hb7 (Nat.le_refl _) (Nat.le_refl _); replace hS7 := hS7.up hb7 (Nat.le_refl _) (Nat.le_refl _); replace hS9 := hS9.up hb7 (Nat.le_refl _) (Nat.le_refl _); clear hb7; (try clear X0); (try clear X1); (try clear X2); (try clear X3); (try clear X4); (try clear X5); (try clear X6); (try clear Xlt); (try clear Y0); (try clear Y1); (try clear Y2); (try clear Y3); (try clear Y4); (try clear Y5); (try clear Y6); (try clear Ylt)
  go_wp2_with fail
  refine (simport_any (exT ++ [10]) _ (hE.step (hb.alloc hb.size _)) (by decide)).mono ?_
  rintro e w8 ⟨hcase, hb8⟩
  obtain ⟨hb78, hb', G⟩ := step1 hb hb8
  obtain ⟨A15, c15, rfl, hS15⟩ : ∃ A c, e = .returned (.tuple #[.slice A 1 c, .int .i64 0]) ∧ Sl w8 0 w8.heap.size 7 encS A 1 [ex] := by
    rcases hcase with ⟨l, hl, A, n, c, he, hS⟩ | ⟨hn, _⟩
    · obtain rfl := imp_unique hl ex_imp
      obtain rfl : 1 = n := hS.len
      exact ⟨A, c, he, hS.any⟩
    · exact absurd ex_imp (hn _)
  clear hb hcase hb8
  replace X := X.up hb78
  replace Y := Y.up hb78
  replace hS0 := hS0.up hb78 (Nat.le_refl _) (Nat.le_refl _)
  replace hS7 := hS7.up hb78 (Nat.le_refl _) (Nat.le_refl _)
  replace hS9 := hS9.up hb78 (Nat.le_refl _) (Nat.le_refl _)
  clear hb78
  generalize w7.heap.size = b7 at *
  rw [show (exT ++ [10] : List UInt8).toArray = #[49, 55, 32, 79, 51, 98, 47, 82, 49, 50, 97, 32, 54, 104, 32, 49, 54, 46, 56, 50, 48, 10] from rfl]
  have heq := ex_eq
  have X0 := X.cell 0 _ rfl; have X1 := X.cell 1 _ rfl; have X2 := X.cell 2 _ rfl; have X3 := X.cell 3 _ rfl; have X4 := X.cell 4 _ rfl; have X5 := X.cell 5 _ rfl; have X6 := X.cell 6 _ rfl; have Xlt := X.lt
  have Y0 := Y.cell 0 _ rfl; have Y1 := Y.cell 1 _ rfl; have Y2 := Y.cell 2 _ rfl; have Y3 := Y.cell 3 _ rfl; have Y4 := Y.cell 4 _ rfl; have Y5 := Y.cell 5 _ rfl; have Y6 := Y.cell 6 _ rfl; have Ylt := Y.lt
  have G0 := G.cell 0 _ rfl; have G1 := G.cell 1 _ rfl; have G2 := G.cell 2 _ rfl; have G3 := G.cell 3 _ rfl; have G4 := G.cell 4 _ rfl; have G5 := G.cell 5 _ rfl; have G6 := G.cell 6 _ rfl; have Glt := G.lt
  have hb := hb'
  clear hb'
  go_wp2_with fail
  refine (stext_any ex _ (hE.step hb)).mono ?_; rintro e w9 ⟨rfl, hb9⟩
  rw [ex_text, show exT.toArray = #[49, 55, 32, 79, 51, 98, 47, 82, 49, 50, 97, 32, 54, 104, 32, 49, 54, 46, 56, 50, 48] from rfl]
  (replace hb := hb.trans (hb9.mono hb.size)); replace X := X.up hb9; replace Y := Y.up hb9; replace G := G.up hb9; replace hS0 := hS0.up hb9 (Nat.le_refl _) (Nat.le_refl _); replace hS7 := hS7.up hb9 (Nat.le_refl _) (Nat.le_refl _); replace hS9 := hS9.up hb9 (Nat.le_refl _) (Nat.le_refl _); replace hS15 := hS15.up hb9 (Nat.le_refl _) (Nat.le_refl _); clear hb9; (try clear X0); (try clear X1); (try clear X2); (try clear X3); (try clear X4); (try clear X5); (try clear X6); (try clear Xlt); (try clear Y0); (try clear Y1); (try clear Y2); (try clear Y3); (try clear Y4); (try clear Y5); (try clear Y6); (try clear Ylt); (try clear G0); (try clear G1); (try clear G2); (try clear G3); (try clear G4); (try clear G5); (try clear G6); (try clear Glt)
  have X0 := X.cell 0 _ rfl; have X1 := X.cell 1 _ rfl; have X2 := X.cell 2 _ rfl; have X3 := X.cell 3 _ rfl; have X4 := X.cell 4 _ rfl; have X5 := X.cell 5 _ rfl; have X6 := X.cell 6 _ rfl; have Xlt := X.lt
  have Y0 := Y.cell 0 _ rfl; have Y1 := Y.cell 1 _ rfl; have Y2 := Y.cell 2 _ rfl; have Y3 := Y.cell 3 _ rfl; have Y4 := Y.cell 4 _ rfl; have Y5 := Y.cell 5 _ rfl; have Y6 := Y.cell 6 _ rfl; have Ylt := Y.lt
  have G0 := G.cell 0 _ rfl; have G1 := G.cell 1 _ rfl; have G2 := G.cell 2 _ rfl; have G3 := G.cell 3 _ rfl; have G4 := G.cell 4 _ rfl; have G5 := G.cell 5 _ rfl; have G6 := G.cell 6 _ rfl; have Glt := G.lt
  go_wp2_with fail
  have hSx := (Sl.fresh encS_len w9 [ex, ex] #[.int .i64 17, .int .i64 3, .int .i64 12, .int .i64 2, .int .i64 1, .int .i64 6, .int .i64 16820, .int .i64 17, .int .i64 3, .int .i64 12, .int .i64 2, .int .i64 1, .int .i64 6, .int .i64 16820] 23 2 rfl rfl).any
  refine (scheck_any (some ⟨w9.heap.size, 0, none⟩) 2 2 [ex, ex] _ (by decide) hSx).mono ?_; rintro e w10 ⟨rfl, hb10⟩
  rw [ex_chk2]
  clear hSx
  obtain ⟨hb91, hb', _⟩ := step1 hb hb10
  (replace hb := hb.trans (hb91.mono hb.size)); replace X := X.up hb91; replace Y := Y.up hb91; replace G := G.up hb91; replace hS0 := hS0.up hb91 (Nat.le_refl _) (Nat.le_refl _); replace hS7 := hS7.up hb91 (Nat.le_refl _) (Nat.le_refl _); replace hS9 := hS9.up hb91 (Nat.le_refl _) (Nat.le_refl _); replace hS15 := hS15.up hb91 (Nat.le_refl _) (Nat.le_refl _); clear hb91; (try clear X0); (try clear X1); (try clear X2); (try clear X3); (try clear X4); (try clear X5); (try clear X6); (try clear Xlt); (try clear Y0); (try clear Y1); (try clear Y2); (try clear Y3); (try clear Y4); (try clear Y5); (try clear Y6); (try clear Ylt); (try clear G0); (try clear G1); (try clear G2); (try clear G3); (try clear G4); (try clear G5); (try clear G6); (try clear Glt)
  clear hb10 hb'
  have X0 := X.cell 0 _ rfl; have X1 := X.cell 1 _ rfl; have X2 := X.cell 2 _ rfl; have X3 := X.cell 3 _ rfl; have X4 := X.cell 4 _ rfl; have X5 := X.cell 5 _ rfl; have X6 := X.cell 6 _ rfl; have Xlt := X.lt
  have Y0 := Y.cell 0 _ rfl; have Y1 := Y.cell 1 _ rfl; have Y2 := Y.cell 2 _ rfl; have Y3 := Y.cell 3 _ rfl; have Y4 := Y.cell 4 _ rfl; have Y5 := Y.cell 5 _ rfl; have Y6 := Y.cell 6 _ rfl; have Ylt := Y.lt
  have G0 := G.cell 0 _ rfl; have G1 := G.cell 1 _ rfl; have G2 := G.cell 2 _ rfl; have G3 := G.cell 3 _ rfl; have G4 := G.cell 4 _ rfl; have G5 := G.cell 5 _ rfl; have G6 := G.cell 6 _ rfl; have Glt := G.lt
  go_wp2_with fail
  refine (specs_any A7 1 c7 [ex] (some ⟨bl, 0, none⟩) 1 1 [ex] _ (by decide) (by decide) hS7 hS0).mono ?_; rintro e w11 ⟨rfl, hb11⟩
  rw [decide_eq_true rfl]
  (replace hb := hb.trans (hb11.mono hb.size)); replace X := X.up hb11; replace Y := Y.up hb11; replace G := G.up hb11; replace hS0 := hS0.up hb11 (Nat.le_refl _) (Nat.le_refl _); replace hS7 := hS7.up hb11 (Nat.le_refl _) (Nat.le_refl _); replace hS9 := hS9.up hb11 (Nat.le_refl _) (Nat.le_refl _); replace hS15 := hS15.up hb11 (Nat.le_refl _) (Nat.le_refl _); clear hb11; (try clear X0); (try clear X1); (try clear X2); (try clear X3); (try clear X4); (try clear X5); (try clear X6); (try clear Xlt); (try clear Y0); (try clear Y1); (try clear Y2); (try clear Y3); (try clear Y4); (try clear Y5); (try clear Y6); (try clear Ylt); (try clear G0); (try clear G1); (try clear G2); (try clear G3); (try clear G4); (try clear G5); (try clear G6); (try clear Glt)
  have X0 := X.cell 0 _ rfl; have X1 := X.cell 1 _ rfl; have X2 := X.cell 2 _ rfl; have X3 := X.cell 3 _ rfl; have X4 := X.cell 4 _ rfl; have X5 := X.cell 5 _ rfl; have X6 := X.cell 6 _ rfl; have Xlt := X.lt
  have Y0 := Y.cell 0 _ rfl; have Y1 := Y.cell 1 _ rfl; have Y2 := Y.cell 2 _ rfl; have Y3 := Y.cell 3 _ rfl; have Y4 := Y.cell 4 _ rfl; have Y5 := Y.cell 5 _ rfl; have Y6 := Y.cell 6 _ rfl; have Ylt := Y.lt
  have G0 := G.cell 0 _ rfl; have G1 := G.cell 1 _ rfl; have G2 := G.cell 2 _ rfl; have G3 := G.cell 3 _ rfl; have G4 := G.cell 4 _ rfl; have G5 := G.cell 5 _ rfl; have G6 := G.cell 6 _ rfl; have Glt := G.lt
  go_wp2_with fail
  have hSi := (Sl.fresh encI_len w11 [17] #[.int .i64 17] 3 1 rfl rfl).any
  refine (ints_any A9 1 c9 [17] (some ⟨w11.heap.size, 0, none⟩) 1 1 [17] _ (by decide) (by decide) (hS9.alloc _) hSi).mono ?_; rintro e w12 ⟨rfl, hb12⟩
  rw [decide_eq_true rfl]
  clear hSi
  obtain ⟨hb91, hb', _⟩ := step1 hb hb12
  (replace hb := hb.trans (hb91.mono hb.size)); replace X := X.up hb91; replace Y := Y.up hb91; replace G := G.up hb91; replace hS0 := hS0.up hb91 (Nat.le_refl _) (Nat.le_refl _); replace hS7 := hS7.up hb91 (Nat.le_refl _) (Nat.le_refl _); replace hS9 := hS9.up hb91 (Nat.le_refl _) (Nat.le_refl _); replace hS15 := hS15.up hb91 (Nat.le_refl _) (Nat.le_refl _); clear hb91; (try clear X0); (try clear X1); (try clear X2); (try clear X3); (try clear X4); (try clear X5); (try clear X6); (try clear Xlt); (try clear Y0); (try clear Y1); (try clear Y2); (try clear Y3); (try clear Y4); (try clear Y5); (try clear Y6); (try clear Ylt); (try clear G0); (try clear G1); (try clear G2); (try clear G3); (try clear G4); (try clear G5); (try clear G6); (try clear Glt)
  clear hb12 hb'
  have X0 := X.cell 0 _ rfl; have X1 := X.cell 1 _ rfl; have X2 := X.cell 2 _ rfl; have X3 := X.cell 3 _ rfl; have X4 := X.cell 4 _ rfl; have X5 := X.cell 5 _ rfl; have X6 := X.cell 6 _ rfl; have Xlt := X.lt
  have Y0 := Y.cell 0 _ rfl; have Y1 := Y.cell 1 _ rfl; have Y2 := Y.cell 2 _ rfl; have Y3 := Y.cell 3 _ rfl; have Y4 := Y.cell 4 _ rfl; have Y5 := Y.cell 5 _ rfl; have Y6 := Y.cell 6 _ rfl; have Ylt := Y.lt
  have G0 := G.cell 0 _ rfl; have G1 := G.cell 1 _ rfl; have G2 := G.cell 2 _ rfl; have G3 := G.cell 3 _ rfl; have G4 := G.cell 4 _ rfl; have G5 := G.cell 5 _ rfl; have G6 := G.cell 6 _ rfl; have Glt := G.lt
  go_wp2_with fail
  refine (specs_any A15 1 c15 [ex] (some ⟨bl, 0, none⟩) 1 1 [ex] _ (by decide) (by decide) hS15 hS0).mono ?_; rintro e w13 ⟨rfl, hb13⟩
  rw [decide_eq_true rfl]
  (replace hb := hb.trans (hb13.mono hb.size)); replace X := X.up hb13; replace Y := Y.up hb13; replace G := G.up hb13; replace hS0 := hS0.up hb13 (Nat.le_refl _) (Nat.le_refl _); replace hS7 := hS7.up hb13 (Nat.le_refl _) (Nat.le_refl _); replace hS9 := hS9.up hb13 (Nat.le_refl _) (Nat.le_refl _); replace hS15 := hS15.up hb13 (Nat.le_refl _) (Nat.le_refl _); clear hb13; (try clear X0); (try clear X1); (try clear X2); (try clear X3); (try clear X4); (try clear X5); (try clear X6); (try clear Xlt); (try clear Y0); (try clear Y1); (try clear Y2); (try clear Y3); (try clear Y4); (try clear Y5); (try clear Y6); (try clear Ylt); (try clear G0); (try clear G1); (try clear G2); (try clear G3); (try clear G4); (try clear G5); (try clear G6); (try clear Glt)
  have X0 := X.cell 0 _ rfl; have X1 := X.cell 1 _ rfl; have X2 := X.cell 2 _ rfl; have X3 := X.cell 3 _ rfl; have X4 := X.cell 4 _ rfl; have X5 := X.cell 5 _ rfl; have X6 := X.cell 6 _ rfl; have Xlt := X.lt
  have Y0 := Y.cell 0 _ rfl; have Y1 := Y.cell 1 _ rfl; have Y2 := Y.cell 2 _ rfl; have Y3 := Y.cell 3 _ rfl; have Y4 := Y.cell 4 _ rfl; have Y5 := Y.cell 5 _ rfl; have Y6 := Y.cell 6 _ rfl; have Ylt := Y.lt
  have G0 := G.cell 0 _ rfl; have G1 := G.cell 1 _ rfl; have G2 := G.cell 2 _ rfl; have G3 := G.cell 3 _ rfl; have G4 := G.cell 4 _ rfl; have G5 := G.cell 5 _ rfl; have G6 := G.cell 6 _ rfl; have Glt := G.lt
  go_wp2_with fail
  refine (svalidb_any ex _).mono ?_; rintro e w14 ⟨rfl, hb14⟩
  rw [ex_valid]
  (replace hb := hb.trans (hb14.mono hb.size)); clear hb14
  go_wp2_with fail
  go_ret
  exact ⟨rfl, hb⟩
end Go.Proofs.YtnaoagkelbjflaaGreatDoor
