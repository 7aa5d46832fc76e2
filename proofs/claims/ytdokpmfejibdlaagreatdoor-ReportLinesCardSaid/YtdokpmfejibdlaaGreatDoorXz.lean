/- Chapter 54: the reference's summary. -/
import Derived.Test.YtdokpmfejibdlaaGreatDoorXx
set_option linter.unusedSimpArgs false
set_option linter.unusedVariables false
namespace Go.Proofs.YtdokpmfejibdlaaGreatDoor
open Go.RowKit

theorem sumL_ref (a b c d e f : Int) : sumL [a, b, c, d, e, f] = [115, 112, 101, 99, 105, 109, 101, 110, 115, 32] ++ Lib.itoa a ++ [32, 111, 98, 118, 101, 114, 115, 101, 115, 32] ++ Lib.itoa b ++ [32, 114, 101, 118, 101, 114, 115, 101, 115, 32] ++ Lib.itoa c ++ [32, 112, 97, 105, 114, 115, 32] ++ Lib.itoa d ++ [32, 99, 104, 97, 105, 110, 115, 32] ++ Lib.itoa e ++ [32, 108, 111, 111, 112, 115, 32] ++ Lib.itoa f ++ [10] := by
 unfold sumL
 rw [show List.range 6 = [0, 1, 2, 3, 4, 5] from rfl]
 simp only [List.flatMap_cons, List.flatMap_nil, sumT, sumW, List.getD_cons_zero, List.getD_cons_succ, List.append_assoc, List.cons_append, List.nil_append, List.append_nil]
 rfl
set_option maxRecDepth 100000 in
set_option maxHeartbeats 8000000 in
theorem rsummary54_any (A : Option Addr) (len cap : Nat) (xs : List Spm) (w : World) (hlen : len ≤ 1000000) (hS : Sl w 0 w.heap.size 7 encS A len xs) :
  Calls Tryz.prog 13 #[.slice A len cap] w (RepW w (repL xs (sumL (nsG xs))) (grE xs)) := by
 have HO := Lib.hid (rof_any A len cap xs w hlen hS)
 have hlx := hS.len
 clear hS
 go_enter Tryz.func13, Tryz.ntmps13
 go_wp2_with fail
 refine HO.out.mono ?_; rintro e w1 ⟨⟨A1, n1, c1, B1, m1, d1, C1, k1, l1, rfl, hn1, hm1, hk1, hG1⟩, hb1⟩
 by_cases he : ¬ grE xs = 0
 ·have hd : (grE xs != 0) = true := by simpa using he
  have HT : Hid (repL xs (sumL (nsG xs)) = []) := if_neg he
  generalize grE xs = code at *
  clear he hG1
  go_wp2_with fail
  go_ret2
  exact ⟨by rw [HT.out]; rfl, hb1.alloc hb1.size _⟩
 replace he := Classical.not_not.1 he
 have HT : Hid (repL xs (sumL (nsG xs)) = sumL (nsG xs)) := if_pos he
 have HE := Lib.hid he
 have HK := Lib.hid (grOk_of he)
 have hl64 : len ≤ 64 := by have := (spm_ok he).1; omega
 have HNS : Hid (nsG xs = [(len : Int), (grOf xs).obv.length, (grOf xs).rev.length, (pairsG (grOf xs)).length, (chainsG (grOf xs)).length, loopsG (grOf xs)]) := by show _ = _; unfold nsG; rw [hlx]
 rw [grR_ok he] at hG1
 rw [he]
 generalize grOf xs = g at *
 have hb2 := hb1.alloc hb1.size (.cells #[.slice A1 n1 c1, .slice B1 m1 d1, .slice C1 k1 l1] 52)
 have hG2 := hG1.up (one_alloc w1 (.cells #[.slice A1 n1 c1, .slice B1 m1 d1, .slice C1 k1 l1] 52))
 have D0 := Bx.new w1 [.slice A1 n1 c1, .slice B1 m1 d1, .slice C1 k1 l1] 52
 have D2' : Bx (w1.alloc (.cells #[.slice A1 n1 c1, .slice B1 m1 d1, .slice C1 k1 l1] 52)) w1.heap.size [.slice A1 n1 c1, .slice B1 m1 d1, .slice C1 k1 l1] := D0
 clear D0
 have HLO := Lib.hid hG2.obv.len
 have HLR := Lib.hid hG2.rev.len
 have hn32 : n1 ≤ 32 := by have := HLO.out; have := HK.out.lo; omega
 have hm32 : m1 ≤ 32 := by have := HLR.out; have := HK.out.lr; omega
 have hk64 : k1 ≤ 64 := by have := hG2.links.len; have := HK.out.ll; omega
 have hlp := loops_pos HK.out
 have hlo : loopsG g = (k1 : Int) - n1 - m1 + (chainsG g).length := by unfold loopsG; rw [hG2.links.len, HLO.out, HLR.out]
 have hcr := (chainsG_row HK.out).1
 have hlt : loopsG g ≤ 1000 := by omega
 have hpl := pairsG_le HK.out
 have hcl : (chainsG g).length ≤ 64 := hcr
 have HPA : Hid (∀ W, Below (w1.alloc (.cells #[.slice A1 n1 c1, .slice B1 m1 d1, .slice C1 k1 l1] 52)).heap.size (w1.alloc (.cells #[.slice A1 n1 c1, .slice B1 m1 d1, .slice C1 k1 l1] 52)) W → Calls Tryz.prog 40 #[.agg #[.slice A1 n1 c1, .slice B1 m1 d1, .slice C1 k1 l1]] W (PairsW W (pairsG g) 0)) := fun W hW => rpairs13_any _ _ _ _ _ _ _ _ _ _ _ (hG2.up hW) HK.out
 have HCH : Hid (∀ W, Below (w1.alloc (.cells #[.slice A1 n1 c1, .slice B1 m1 d1, .slice C1 k1 l1] 52)).heap.size (w1.alloc (.cells #[.slice A1 n1 c1, .slice B1 m1 d1, .slice C1 k1 l1] 52)) W → Calls Tryz.prog 41 #[.agg #[.slice A1 n1 c1, .slice B1 m1 d1, .slice C1 k1 l1]] W (ChainsW W (chainsG g) 0)) := fun W hW => rchains14_any _ _ _ _ _ _ _ _ _ _ _ (hG2.up hW) HK.out
 have HLP : Hid (∀ W, Below (w1.alloc (.cells #[.slice A1 n1 c1, .slice B1 m1 d1, .slice C1 k1 l1] 52)).heap.size (w1.alloc (.cells #[.slice A1 n1 c1, .slice B1 m1 d1, .slice C1 k1 l1] 52)) W → Calls Tryz.prog 42 #[.agg #[.slice A1 n1 c1, .slice B1 m1 d1, .slice C1 k1 l1]] W fun e w' => e = .returned (.tuple #[.int .i64 (loopsG g), .int .i64 0]) ∧ Below W.heap.size W w') := fun W hW => rloops14_any _ _ _ _ _ _ _ _ _ _ _ (hG2.up hW) HK.out
 have HSR : Hid (sumL (nsG xs) = sumL [(len : Int), n1, m1, (pairsG g).length, (chainsG g).length, loopsG g]) := by show _ = _; rw [HNS.out, HLO.out, HLR.out]
 rw [sumL_ref] at HSR
 clear he hG1 hb1 hlx hG2 hlo HNS
 generalize loopsG g = lps at *
 go_wp2_with fail
 generalize w1.alloc (.cells #[.slice A1 n1 c1, .slice B1 m1 d1, .slice C1 k1 l1] 52) = w2 at *
 generalize w1.heap.size = bg at *
 refine (HPA.out _ (Below.refl _ _)).mono ?_; rintro e w5 ⟨⟨A5, n5, c5, rfl, hn5, hS5⟩, hb5⟩
 have hn5l := hS5.len
 obtain ⟨g0, g1, g2⟩ := bx3 (D2'.up hb5)
 clear hS5
 go_wp2_with fail
 refine (HCH.out _ hb5).mono ?_; rintro e w6 ⟨⟨A6, n6, c6, vs, rfl, hn6, hl6, _⟩, hb6⟩
 have HL6 := Lib.hid hl6
 clear hl6
 replace hb6 := below_keep' hb5 hb6
 clear g0 g1 g2
 obtain ⟨g0, g1, g2⟩ := bx3 (D2'.up hb6)
 go_wp2_with fail
 refine (HLP.out _ hb6).mono ?_; rintro e w7 ⟨rfl, hb7⟩
 replace hb7 := below_keep' hb6 hb7
 clear g0 g1 g2 hb5 hb6
 have HBX : Hid (∀ W, Below w7.heap.size w7 W → W.cell? ⟨bg, 0, none⟩ = some (.slice A1 n1 c1) ∧ W.cell? ⟨bg, 1, none⟩ = some (.slice B1 m1 d1) ∧ W.cell? ⟨bg, 2, none⟩ = some (.slice C1 k1 l1)) := fun W hW => bx3 ((D2'.up hb7).up hW)
 have HUW : Hid (∀ W, Below w7.heap.size w7 W → Below w.heap.size w W) := fun W hW => below_keep' (below_keep' hb2 hb7) hW
 rw [hn5l, ← HL6.out] at HSR
 rw [hn5l] at hpl
 rw [← HL6.out] at hcl
 clear hcr
 have HR1 : Hid (∀ W, Calls Tryz.prog 43 #[.int .i64 (len : Int)] W fun e w' => e = .returned (.string ⟨(Lib.itoa (len : Int)).toArray⟩) ∧ Below W.heap.size W w') := fun W => rdec_any _ W (by omega) (by omega)
 have HR2 : Hid (∀ W, Calls Tryz.prog 43 #[.int .i64 (n1 : Int)] W fun e w' => e = .returned (.string ⟨(Lib.itoa (n1 : Int)).toArray⟩) ∧ Below W.heap.size W w') := fun W => rdec_any _ W (by omega) (by omega)
 have HR3 : Hid (∀ W, Calls Tryz.prog 43 #[.int .i64 (m1 : Int)] W fun e w' => e = .returned (.string ⟨(Lib.itoa (m1 : Int)).toArray⟩) ∧ Below W.heap.size W w') := fun W => rdec_any _ W (by omega) (by omega)
 have HR4 : Hid (∀ W, Calls Tryz.prog 43 #[.int .i64 (n5 : Int)] W fun e w' => e = .returned (.string ⟨(Lib.itoa (n5 : Int)).toArray⟩) ∧ Below W.heap.size W w') := fun W => rdec_any _ W (by omega) (by omega)
 have HR5 : Hid (∀ W, Calls Tryz.prog 43 #[.int .i64 (n6 : Int)] W fun e w' => e = .returned (.string ⟨(Lib.itoa (n6 : Int)).toArray⟩) ∧ Below W.heap.size W w') := fun W => rdec_any _ W (by omega) (by omega)
 have HR6 : Hid (∀ W, Calls Tryz.prog 43 #[.int .i64 lps] W fun e w' => e = .returned (.string ⟨(Lib.itoa lps).toArray⟩) ∧ Below W.heap.size W w') := fun W => rdec_any _ W (by omega) (by omega)
 have hi1 := itoa21 (len : Int) (by omega) (by omega)
 have hi2 := itoa21 (n1 : Int) (by omega) (by omega)
 have hi3 := itoa21 (m1 : Int) (by omega) (by omega)
 have hi4 := itoa21 (n5 : Int) (by omega) (by omega)
 have hi5 := itoa21 (n6 : Int) (by omega) (by omega)
 have hi6 := itoa21 lps (by omega) (by omega)
 generalize Lib.itoa (len : Int) = s1 at *
 generalize Lib.itoa (n1 : Int) = s2 at *
 generalize Lib.itoa (m1 : Int) = s3 at *
 generalize Lib.itoa (n5 : Int) = s4 at *
 generalize Lib.itoa (n6 : Int) = s5 at *
 generalize Lib.itoa lps = s6 at *
 have ha0 := add_lists (P := Tryz.prog) ([115, 112, 101, 99, 105, 109, 101, 110, 115, 32]) s1 (by simp only [List.length_append, List.length_cons, List.length_nil]; omega)
 have ha1 := add_lists (P := Tryz.prog) ([115, 112, 101, 99, 105, 109, 101, 110, 115, 32] ++ s1) [32, 111, 98, 118, 101, 114, 115, 101, 115, 32] (by simp only [List.length_append, List.length_cons, List.length_nil]; omega)
 have ha2 := add_lists (P := Tryz.prog) ([115, 112, 101, 99, 105, 109, 101, 110, 115, 32] ++ s1 ++ [32, 111, 98, 118, 101, 114, 115, 101, 115, 32]) s2 (by simp only [List.length_append, List.length_cons, List.length_nil]; omega)
 have ha3 := add_lists (P := Tryz.prog) ([115, 112, 101, 99, 105, 109, 101, 110, 115, 32] ++ s1 ++ [32, 111, 98, 118, 101, 114, 115, 101, 115, 32] ++ s2) [32, 114, 101, 118, 101, 114, 115, 101, 115, 32] (by simp only [List.length_append, List.length_cons, List.length_nil]; omega)
 have ha4 := add_lists (P := Tryz.prog) ([115, 112, 101, 99, 105, 109, 101, 110, 115, 32] ++ s1 ++ [32, 111, 98, 118, 101, 114, 115, 101, 115, 32] ++ s2 ++ [32, 114, 101, 118, 101, 114, 115, 101, 115, 32]) s3 (by simp only [List.length_append, List.length_cons, List.length_nil]; omega)
 have ha5 := add_lists (P := Tryz.prog) ([115, 112, 101, 99, 105, 109, 101, 110, 115, 32] ++ s1 ++ [32, 111, 98, 118, 101, 114, 115, 101, 115, 32] ++ s2 ++ [32, 114, 101, 118, 101, 114, 115, 101, 115, 32] ++ s3) [32, 112, 97, 105, 114, 115, 32] (by simp only [List.length_append, List.length_cons, List.length_nil]; omega)
 have ha6 := add_lists (P := Tryz.prog) ([115, 112, 101, 99, 105, 109, 101, 110, 115, 32] ++ s1 ++ [32, 111, 98, 118, 101, 114, 115, 101, 115, 32] ++ s2 ++ [32, 114, 101, 118, 101, 114, 115, 101, 115, 32] ++ s3 ++ [32, 112, 97, 105, 114, 115, 32]) s4 (by simp only [List.length_append, List.length_cons, List.length_nil]; omega)
 have ha7 := add_lists (P := Tryz.prog) ([115, 112, 101, 99, 105, 109, 101, 110, 115, 32] ++ s1 ++ [32, 111, 98, 118, 101, 114, 115, 101, 115, 32] ++ s2 ++ [32, 114, 101, 118, 101, 114, 115, 101, 115, 32] ++ s3 ++ [32, 112, 97, 105, 114, 115, 32] ++ s4) [32, 99, 104, 97, 105, 110, 115, 32] (by simp only [List.length_append, List.length_cons, List.length_nil]; omega)
 have ha8 := add_lists (P := Tryz.prog) ([115, 112, 101, 99, 105, 109, 101, 110, 115, 32] ++ s1 ++ [32, 111, 98, 118, 101, 114, 115, 101, 115, 32] ++ s2 ++ [32, 114, 101, 118, 101, 114, 115, 101, 115, 32] ++ s3 ++ [32, 112, 97, 105, 114, 115, 32] ++ s4 ++ [32, 99, 104, 97, 105, 110, 115, 32]) s5 (by simp only [List.length_append, List.length_cons, List.length_nil]; omega)
 have ha9 := add_lists (P := Tryz.prog) ([115, 112, 101, 99, 105, 109, 101, 110, 115, 32] ++ s1 ++ [32, 111, 98, 118, 101, 114, 115, 101, 115, 32] ++ s2 ++ [32, 114, 101, 118, 101, 114, 115, 101, 115, 32] ++ s3 ++ [32, 112, 97, 105, 114, 115, 32] ++ s4 ++ [32, 99, 104, 97, 105, 110, 115, 32] ++ s5) [32, 108, 111, 111, 112, 115, 32] (by simp only [List.length_append, List.length_cons, List.length_nil]; omega)
 have ha10 := add_lists (P := Tryz.prog) ([115, 112, 101, 99, 105, 109, 101, 110, 115, 32] ++ s1 ++ [32, 111, 98, 118, 101, 114, 115, 101, 115, 32] ++ s2 ++ [32, 114, 101, 118, 101, 114, 115, 101, 115, 32] ++ s3 ++ [32, 112, 97, 105, 114, 115, 32] ++ s4 ++ [32, 99, 104, 97, 105, 110, 115, 32] ++ s5 ++ [32, 108, 111, 111, 112, 115, 32]) s6 (by simp only [List.length_append, List.length_cons, List.length_nil]; omega)
 have ha11 := add_lists (P := Tryz.prog) ([115, 112, 101, 99, 105, 109, 101, 110, 115, 32] ++ s1 ++ [32, 111, 98, 118, 101, 114, 115, 101, 115, 32] ++ s2 ++ [32, 114, 101, 118, 101, 114, 115, 101, 115, 32] ++ s3 ++ [32, 112, 97, 105, 114, 115, 32] ++ s4 ++ [32, 99, 104, 97, 105, 110, 115, 32] ++ s5 ++ [32, 108, 111, 111, 112, 115, 32] ++ s6) [10] (by simp only [List.length_append, List.length_cons, List.length_nil]; omega)
 simp only [List.append_assoc, List.cons_append, List.nil_append] at ha0 ha1 ha2 ha3 ha4 ha5 ha6 ha7 ha8 ha9 ha10 ha11
 have hC := Below.drew (Below.refl w7.heap.size w7)
 clear hb7 hb2 D2'
 go_wp2_with fail
 refine wp_region_noPanic ?_
 refine wp_region_held_drew (S := fun U => U.cell? ⟨bg, 0, none⟩ = some (.slice A1 n1 c1) ∧ U.cell? ⟨bg, 1, none⟩ = some (.slice B1 m1 d1) ∧ U.cell? ⟨bg, 2, none⟩ = some (.slice C1 k1 l1)) (by kernel_rfl) (HBX.out _ hC) (fun hHeld => ?_)
 generalize w7.drew = W6 at *
 refine' takeW 0 ?_ ?_ ?_ (by kernel_rfl) (by kernel_rfl) (by kernel_rfl) (fun _ _ _ h => h) hHeld ?_
 rotate_left 2
 ·(simp only [List.getElem?_toArray, List.getElem?_cons_succ, List.getElem?_cons_zero]; try rfl)
 ·rfl
 ·(intro w hSw; (try dsimp only at hSw); go_simp; first | done | with_reducible rfl)
 (try simp only [Act.put, List.setIfInBounds_toArray, List.set_cons_zero, List.set_cons_succ])
 refine' takeW 1 ?_ ?_ ?_ (by kernel_rfl) (by kernel_rfl) (by kernel_rfl) (fun _ _ _ h => h) hHeld ?_
 rotate_left 2
 ·(simp only [List.getElem?_toArray, List.getElem?_cons_succ, List.getElem?_cons_zero]; try rfl)
 ·rfl
 ·(intro w hSw; (try dsimp only at hSw); go_simp; first | done | with_reducible rfl)
 (try simp only [Act.put, List.setIfInBounds_toArray, List.set_cons_zero, List.set_cons_succ])
 refine' takeW 5 ?_ ?_ ?_ (by kernel_rfl) (by kernel_rfl) (by kernel_rfl) (fun _ _ _ h => h) hHeld ?_
 rotate_left 2
 ·(simp only [List.getElem?_toArray, List.getElem?_cons_succ, List.getElem?_cons_zero]; try rfl)
 ·rfl
 ·(intro w hSw; (try dsimp only at hSw); go_simp; first | done | with_reducible rfl)
 (try simp only [Act.put, List.setIfInBounds_toArray, List.set_cons_zero, List.set_cons_succ])
 refine' takeW 6 ?_ ?_ ?_ (by kernel_rfl) (by kernel_rfl) (by kernel_rfl) (fun _ _ _ h => h) hHeld ?_
 rotate_left 2
 ·(simp only [List.getElem?_toArray, List.getElem?_cons_succ, List.getElem?_cons_zero]; try rfl)
 ·rfl
 ·(intro w hSw; (try dsimp only at hSw); go_simp; first | done | with_reducible rfl)
 (try simp only [Act.put, List.setIfInBounds_toArray, List.set_cons_zero, List.set_cons_succ])
 refine' takeW 7 ?_ ?_ ?_ (by kernel_rfl) (by kernel_rfl) (by kernel_rfl) (fun _ _ _ h => h) hHeld ?_
 rotate_left 2
 ·(simp only [List.getElem?_toArray, List.getElem?_cons_succ, List.getElem?_cons_zero]; try rfl)
 ·rfl
 ·(intro w hSw; (try dsimp only at hSw); go_simp; first | done | with_reducible rfl)
 (try simp only [Act.put, List.setIfInBounds_toArray, List.set_cons_zero, List.set_cons_succ])
 refine' takeW 11 ?_ ?_ ?_ (by kernel_rfl) (by kernel_rfl) (by kernel_rfl) (fun _ _ _ h => h) hHeld ?_
 rotate_left 2
 ·(simp only [List.getElem?_toArray, List.getElem?_cons_succ, List.getElem?_cons_zero]; try rfl)
 ·rfl
 ·(intro w hSw; (try dsimp only at hSw); go_simp; first | done | with_reducible rfl)
 (try simp only [Act.put, List.setIfInBounds_toArray, List.set_cons_zero, List.set_cons_succ])
 refine' takeW 12 ?_ ?_ ?_ (by kernel_rfl) (by kernel_rfl) (by kernel_rfl) (fun _ _ _ h => h) hHeld ?_
 rotate_left 2
 ·(simp only [List.getElem?_toArray, List.getElem?_cons_succ, List.getElem?_cons_zero]; try rfl)
 ·rfl
 ·(intro w hSw; (try dsimp only at hSw); go_simp; first | done | with_reducible rfl)
 (try simp only [Act.put, List.setIfInBounds_toArray, List.set_cons_zero, List.set_cons_succ])
 refine' takeW 13 ?_ ?_ ?_ (by kernel_rfl) (by kernel_rfl) (by kernel_rfl) (fun _ _ _ h => h) hHeld ?_
 rotate_left 2
 ·(simp only [List.getElem?_toArray, List.getElem?_cons_succ, List.getElem?_cons_zero]; try rfl)
 ·rfl
 ·(intro w hSw; (try dsimp only at hSw); go_simp; first | done | with_reducible rfl)
 (try simp only [Act.put, List.setIfInBounds_toArray, List.set_cons_zero, List.set_cons_succ])
 refine' takeW 17 ?_ ?_ ?_ (by kernel_rfl) (by kernel_rfl) (by kernel_rfl) (fun _ _ _ h => h) hHeld ?_
 rotate_left 2
 ·(simp only [List.getElem?_toArray, List.getElem?_cons_succ, List.getElem?_cons_zero]; try rfl)
 ·rfl
 ·(intro w hSw; (try dsimp only at hSw); go_simp; first | done | with_reducible rfl)
 (try simp only [Act.put, List.setIfInBounds_toArray, List.set_cons_zero, List.set_cons_succ])
 refine' takeW 18 ?_ ?_ ?_ (by kernel_rfl) (by kernel_rfl) (by kernel_rfl) (fun _ _ _ h => h) hHeld ?_
 rotate_left 2
 ·(simp only [List.getElem?_toArray, List.getElem?_cons_succ, List.getElem?_cons_zero]; try rfl)
 ·rfl
 ·(intro w hSw; (try dsimp only at hSw); go_simp; first | done | with_reducible rfl)
 (try simp only [Act.put, List.setIfInBounds_toArray, List.set_cons_zero, List.set_cons_succ])
 refine' takeW 22 ?_ ?_ ?_ (by kernel_rfl) (by kernel_rfl) (by kernel_rfl) (fun _ _ _ h => h) hHeld ?_
 rotate_left 2
 ·(simp only [List.getElem?_toArray, List.getElem?_cons_succ, List.getElem?_cons_zero]; try rfl)
 ·rfl
 ·(intro w hSw; (try dsimp only at hSw); go_simp; first | done | with_reducible rfl)
 (try simp only [Act.put, List.setIfInBounds_toArray, List.set_cons_zero, List.set_cons_succ])
 refine' takeW 23 ?_ ?_ ?_ (by kernel_rfl) (by kernel_rfl) (by kernel_rfl) (fun _ _ _ h => h) hHeld ?_
 rotate_left 2
 ·(simp only [List.getElem?_toArray, List.getElem?_cons_succ, List.getElem?_cons_zero]; try rfl)
 ·rfl
 ·(intro w hSw; (try dsimp only at hSw); go_simp; first | done | with_reducible rfl)
 (try simp only [Act.put, List.setIfInBounds_toArray, List.set_cons_zero, List.set_cons_succ])
 refine' takeW 27 ?_ ?_ ?_ (by kernel_rfl) (by kernel_rfl) (by kernel_rfl) (fun _ _ _ h => h) hHeld ?_
 rotate_left 2
 ·(simp only [List.getElem?_toArray, List.getElem?_cons_succ, List.getElem?_cons_zero]; try rfl)
 ·rfl
 ·(intro w hSw; (try dsimp only at hSw); go_simp; first | done | with_reducible rfl)
 (try simp only [Act.put, List.setIfInBounds_toArray, List.set_cons_zero, List.set_cons_succ])
 refine wpAnyH_ready (rs := [2]) (by kernel_rfl) (by simp) ?_
 refine' AllReadyH.cons ?_ (fun K hK => ?_) AllReadyH.nil
 rotate_left 1
 ·(simp only [List.getElem?_toArray, List.getElem?_cons_succ, List.getElem?_cons_zero]; try rfl)
 (try go_simp)
 go_at_call 43
 refine (HR1.out _).mono ?_
 rintro e wz ⟨rfl, hbz⟩
 replace hC := below_keep' hC hbz
 clear hbz
 (try go_simp)
 refine hK.out _ _ ?_ (fun hHeld => ?_)
 ·exact HBX.out _ hC
 clear hK K
 (try simp only [Act.put, List.setIfInBounds_toArray, List.set_cons_zero, List.set_cons_succ])
 refine' takeW 3 ?_ ?_ ?_ (by kernel_rfl) (by kernel_rfl) (by kernel_rfl) (fun _ _ _ h => h) hHeld ?_
 rotate_left 2
 ·(simp only [List.getElem?_toArray, List.getElem?_cons_succ, List.getElem?_cons_zero]; try rfl)
 ·rfl
 ·(intro w hSw; (try dsimp only at hSw); go_simp; first | done | with_reducible rfl)
 (try simp only [Act.put, List.setIfInBounds_toArray, List.set_cons_zero, List.set_cons_succ])
 refine' takeW 4 ?_ ?_ ?_ (by kernel_rfl) (by kernel_rfl) (by kernel_rfl) (fun _ _ _ h => h) hHeld ?_
 rotate_left 2
 ·(simp only [List.getElem?_toArray, List.getElem?_cons_succ, List.getElem?_cons_zero]; try rfl)
 ·rfl
 ·(intro w hSw; (try dsimp only at hSw); go_simp; first | done | with_reducible rfl)
 (try simp only [Act.put, List.setIfInBounds_toArray, List.set_cons_zero, List.set_cons_succ])
 refine wpAnyH_ready (rs := [8]) (by kernel_rfl) (by simp) ?_
 refine' AllReadyH.cons ?_ (fun K hK => ?_) AllReadyH.nil
 rotate_left 1
 ·(simp only [List.getElem?_toArray, List.getElem?_cons_succ, List.getElem?_cons_zero]; try rfl)
 (try go_simp)
 go_at_call 43
 refine (HR2.out _).mono ?_
 rintro e wz ⟨rfl, hbz⟩
 replace hC := below_keep' hC hbz
 clear hbz
 (try go_simp)
 refine hK.out _ _ ?_ (fun hHeld => ?_)
 ·exact HBX.out _ hC
 clear hK K
 (try simp only [Act.put, List.setIfInBounds_toArray, List.set_cons_zero, List.set_cons_succ])
 refine' takeW 9 ?_ ?_ ?_ (by kernel_rfl) (by kernel_rfl) (by kernel_rfl) (fun _ _ _ h => h) hHeld ?_
 rotate_left 2
 ·(simp only [List.getElem?_toArray, List.getElem?_cons_succ, List.getElem?_cons_zero]; try rfl)
 ·rfl
 ·(intro w hSw; (try dsimp only at hSw); go_simp; first | done | with_reducible rfl)
 (try simp only [Act.put, List.setIfInBounds_toArray, List.set_cons_zero, List.set_cons_succ])
 refine' takeW 10 ?_ ?_ ?_ (by kernel_rfl) (by kernel_rfl) (by kernel_rfl) (fun _ _ _ h => h) hHeld ?_
 rotate_left 2
 ·(simp only [List.getElem?_toArray, List.getElem?_cons_succ, List.getElem?_cons_zero]; try rfl)
 ·rfl
 ·(intro w hSw; (try dsimp only at hSw); go_simp; first | done | with_reducible rfl)
 (try simp only [Act.put, List.setIfInBounds_toArray, List.set_cons_zero, List.set_cons_succ])
 refine wpAnyH_ready (rs := [14]) (by kernel_rfl) (by simp) ?_
 refine' AllReadyH.cons ?_ (fun K hK => ?_) AllReadyH.nil
 rotate_left 1
 ·(simp only [List.getElem?_toArray, List.getElem?_cons_succ, List.getElem?_cons_zero]; try rfl)
 (try go_simp)
 go_at_call 43
 refine (HR3.out _).mono ?_
 rintro e wz ⟨rfl, hbz⟩
 replace hC := below_keep' hC hbz
 clear hbz
 (try go_simp)
 refine hK.out _ _ ?_ (fun hHeld => ?_)
 ·exact HBX.out _ hC
 clear hK K
 (try simp only [Act.put, List.setIfInBounds_toArray, List.set_cons_zero, List.set_cons_succ])
 refine' takeW 15 ?_ ?_ ?_ (by kernel_rfl) (by kernel_rfl) (by kernel_rfl) (fun _ _ _ h => h) hHeld ?_
 rotate_left 2
 ·(simp only [List.getElem?_toArray, List.getElem?_cons_succ, List.getElem?_cons_zero]; try rfl)
 ·rfl
 ·(intro w hSw; (try dsimp only at hSw); go_simp; first | done | with_reducible rfl)
 (try simp only [Act.put, List.setIfInBounds_toArray, List.set_cons_zero, List.set_cons_succ])
 refine' takeW 16 ?_ ?_ ?_ (by kernel_rfl) (by kernel_rfl) (by kernel_rfl) (fun _ _ _ h => h) hHeld ?_
 rotate_left 2
 ·(simp only [List.getElem?_toArray, List.getElem?_cons_succ, List.getElem?_cons_zero]; try rfl)
 ·rfl
 ·(intro w hSw; (try dsimp only at hSw); go_simp; first | done | with_reducible rfl)
 (try simp only [Act.put, List.setIfInBounds_toArray, List.set_cons_zero, List.set_cons_succ])
 refine wpAnyH_ready (rs := [19]) (by kernel_rfl) (by simp) ?_
 refine' AllReadyH.cons ?_ (fun K hK => ?_) AllReadyH.nil
 rotate_left 1
 ·(simp only [List.getElem?_toArray, List.getElem?_cons_succ, List.getElem?_cons_zero]; try rfl)
 (try go_simp)
 go_at_call 43
 refine (HR4.out _).mono ?_
 rintro e wz ⟨rfl, hbz⟩
 replace hC := below_keep' hC hbz
 clear hbz
 (try go_simp)
 refine hK.out _ _ ?_ (fun hHeld => ?_)
 ·exact HBX.out _ hC
 clear hK K
 (try simp only [Act.put, List.setIfInBounds_toArray, List.set_cons_zero, List.set_cons_succ])
 refine' takeW 20 ?_ ?_ ?_ (by kernel_rfl) (by kernel_rfl) (by kernel_rfl) (fun _ _ _ h => h) hHeld ?_
 rotate_left 2
 ·(simp only [List.getElem?_toArray, List.getElem?_cons_succ, List.getElem?_cons_zero]; try rfl)
 ·rfl
 ·(intro w hSw; (try dsimp only at hSw); go_simp; first | done | with_reducible rfl)
 (try simp only [Act.put, List.setIfInBounds_toArray, List.set_cons_zero, List.set_cons_succ])
 refine' takeW 21 ?_ ?_ ?_ (by kernel_rfl) (by kernel_rfl) (by kernel_rfl) (fun _ _ _ h => h) hHeld ?_
 rotate_left 2
 ·(simp only [List.getElem?_toArray, List.getElem?_cons_succ, List.getElem?_cons_zero]; try rfl)
 ·rfl
 ·(intro w hSw; (try dsimp only at hSw); go_simp; first | done | with_reducible rfl)
 (try simp only [Act.put, List.setIfInBounds_toArray, List.set_cons_zero, List.set_cons_succ])
 refine wpAnyH_ready (rs := [24]) (by kernel_rfl) (by simp) ?_
 refine' AllReadyH.cons ?_ (fun K hK => ?_) AllReadyH.nil
 rotate_left 1
 ·(simp only [List.getElem?_toArray, List.getElem?_cons_succ, List.getElem?_cons_zero]; try rfl)
 (try go_simp)
 go_at_call 43
 refine (HR5.out _).mono ?_
 rintro e wz ⟨rfl, hbz⟩
 replace hC := below_keep' hC hbz
 clear hbz
 (try go_simp)
 refine hK.out _ _ ?_ (fun hHeld => ?_)
 ·exact HBX.out _ hC
 clear hK K
 (try simp only [Act.put, List.setIfInBounds_toArray, List.set_cons_zero, List.set_cons_succ])
 refine' takeW 25 ?_ ?_ ?_ (by kernel_rfl) (by kernel_rfl) (by kernel_rfl) (fun _ _ _ h => h) hHeld ?_
 rotate_left 2
 ·(simp only [List.getElem?_toArray, List.getElem?_cons_succ, List.getElem?_cons_zero]; try rfl)
 ·rfl
 ·(intro w hSw; (try dsimp only at hSw); go_simp; first | done | with_reducible rfl)
 (try simp only [Act.put, List.setIfInBounds_toArray, List.set_cons_zero, List.set_cons_succ])
 refine' takeW 26 ?_ ?_ ?_ (by kernel_rfl) (by kernel_rfl) (by kernel_rfl) (fun _ _ _ h => h) hHeld ?_
 rotate_left 2
 ·(simp only [List.getElem?_toArray, List.getElem?_cons_succ, List.getElem?_cons_zero]; try rfl)
 ·rfl
 ·(intro w hSw; (try dsimp only at hSw); go_simp; first | done | with_reducible rfl)
 (try simp only [Act.put, List.setIfInBounds_toArray, List.set_cons_zero, List.set_cons_succ])
 refine wpAnyH_ready (rs := [28]) (by kernel_rfl) (by simp) ?_
 refine' AllReadyH.cons ?_ (fun K hK => ?_) AllReadyH.nil
 rotate_left 1
 ·(simp only [List.getElem?_toArray, List.getElem?_cons_succ, List.getElem?_cons_zero]; try rfl)
 (try go_simp)
 go_at_call 43
 refine (HR6.out _).mono ?_
 rintro e wz ⟨rfl, hbz⟩
 replace hC := below_keep' hC hbz
 clear hbz
 (try go_simp)
 refine hK.out _ _ ?_ (fun hHeld => ?_)
 ·exact HBX.out _ hC
 clear hK K
 (try simp only [Act.put, List.setIfInBounds_toArray, List.set_cons_zero, List.set_cons_succ])
 refine' takeW 29 ?_ ?_ ?_ (by kernel_rfl) (by kernel_rfl) (by kernel_rfl) (fun _ _ _ h => h) hHeld ?_
 rotate_left 2
 ·(simp only [List.getElem?_toArray, List.getElem?_cons_succ, List.getElem?_cons_zero]; try rfl)
 ·rfl
 ·(intro w hSw; (try dsimp only at hSw); go_simp; first | done | with_reducible rfl)
 (try simp only [Act.put, List.setIfInBounds_toArray, List.set_cons_zero, List.set_cons_succ])
 refine' takeW 30 ?_ ?_ ?_ (by kernel_rfl) (by kernel_rfl) (by kernel_rfl) (fun _ _ _ h => h) hHeld ?_
 rotate_left 2
 ·(simp only [List.getElem?_toArray, List.getElem?_cons_succ, List.getElem?_cons_zero]; try rfl)
 ·rfl
 ·(intro w hSw; (try dsimp only at hSw); go_simp; first | done | with_reducible rfl)
 (try simp only [Act.put, List.setIfInBounds_toArray, List.set_cons_zero, List.set_cons_succ])
 refine' takeW 31 ?_ ?_ ?_ (by kernel_rfl) (by kernel_rfl) (by kernel_rfl) (fun _ _ _ h => h) hHeld ?_
 rotate_left 2
 ·(simp only [List.getElem?_toArray, List.getElem?_cons_succ, List.getElem?_cons_zero]; try rfl)
 ·rfl
 ·(intro w hSw; (try dsimp only at hSw); go_simp; first | done | with_reducible rfl)
 (try simp only [Act.put, List.setIfInBounds_toArray, List.set_cons_zero, List.set_cons_succ])
 refine' takeW 32 ?_ ?_ ?_ (by kernel_rfl) (by kernel_rfl) (by kernel_rfl) (fun _ _ _ h => h) hHeld ?_
 rotate_left 2
 ·(simp only [List.getElem?_toArray, List.getElem?_cons_succ, List.getElem?_cons_zero]; try rfl)
 ·rfl
 ·(intro w hSw; (try dsimp only at hSw); go_simp; first | done | with_reducible rfl)
 (try simp only [Act.put, List.setIfInBounds_toArray, List.set_cons_zero, List.set_cons_succ])
 refine wpAnyH_done (by kernel_rfl) ?_ _
 refine NoPanic.normal ?_
 clear hHeld
 have hb9 := HUW.out _ hC
 clear hC
 go_wp2_with fail
 go_ret2
 exact ⟨by rw [HT.out, HSR.out, HE.out]; simp; try rfl, hb9⟩
end Go.Proofs.YtdokpmfejibdlaaGreatDoor
