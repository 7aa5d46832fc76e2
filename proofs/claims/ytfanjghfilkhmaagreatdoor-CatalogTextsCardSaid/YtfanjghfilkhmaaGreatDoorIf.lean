/- CatalogTexts: the law's walk (chapter 47). -/
import Derived.Test.YtfanjghfilkhmaaGreatDoorIa
set_option linter.unusedSimpArgs false
set_option linter.unusedVariables false
namespace Go.Proofs.YtfanjghfilkhmaaGreatDoor
open Go.RowKit

theorem text_len4096 {e : Ed} (h : validE e) : (textE e).length ≤ 4096 := by
  have h1 := lines_len (zs := byNum e) (fun x hx => ents_in h x ((byNum_mem e x).1 hx))
  have h2 : (byNum e).length = e.ents.length := (List.mergeSort_perm e.ents _).length_eq
  have h3 := valid_lens h
  have h4 := retTk_len h.2.2.1.2.1 e.ret.length
  unfold textE
  rw [if_pos h, List.length_append]
  obtain ⟨h5, h6⟩ := h3
  generalize (byNum e).flatMap lineE = L at *
  by_cases hr : e.ret = []
  · rw [hr]; simp [retT]; omega
  · rw [retT_eq hr]; generalize retTk e.ret e.ret.length = M at *; simp; omega
set_option maxRecDepth 100000 in
set_option maxHeartbeats 8000000 in
theorem texts_law (A : Option Addr) (n c : Nat) (A' : Option Addr) (n' c' : Nat) (e : Ed) (w : World) (hE : Env w) (hS : EdS w A n A' n' e) :
    Calls Tryz.prog 9 #[.agg #[.slice A n c, .slice A' n' c']] w fun r w' => r = .returned (.bool true) ∧ Below w.heap.size w w' := by
  have HEN : Hid (∀ W, Below w.heap.size w W → Env W) := fun W hW => hE.step hW
  have HU : Hid (∀ W, Below w.heap.size w W → EdS W A n A' n' e) := fun W hW => hS.up hW
  clear hE hS
  go_enter Tryz.func9, Tryz.ntmps9
  go_wp2_with fail
  refine (awake_any _ (HEN.out _ (by (repeat (first | exact Below.refl _ _ | assumption | refine Below.alloc ?_ (by first | omega | (simp only [World.size_alloc]; omega) | (simp; done) | (simp; omega)) _ | refine Below.setCell ?_ (by first | omega | (simp only [World.size_alloc]; omega) | (simp; done) | (simp; omega)) _ | refine Below.drew ?_ | refine below_drewN ?_ _))))).mono ?_; rintro r w1 ⟨rfl, hb1⟩
  obtain ⟨_, hb, Z⟩ := step1 (Below.refl _ w) hb1
  clear hb1
  have Z0 := Z.cell 0 _ rfl; have Z1 := Z.cell 1 _ rfl; have Zlt := Z.lt
  go_wp2_with fail
  refine (few_any A n c A' n' c' _).mono ?_; rintro r w2 ⟨rfl, hb2⟩
  (replace hb := hb.trans (hb2.mono hb.size)); replace Z := Z.up hb2; clear hb2; (try clear Z0); (try clear Z1); (try clear Zlt)
  cases h1 : (decide (n ≤ 100) && decide (n' ≤ 100))
  · clear h1
    go_wp2_with fail
    refine (awake_any _ (HEN.out _ hb)).mono ?_; rintro r w3 ⟨rfl, hb3⟩
    (replace hb := hb.trans (hb3.mono hb.size)); clear hb3
    go_wp2_with fail
    go_ret
    exact ⟨rfl, hb⟩
  rw [Bool.and_eq_true, decide_eq_true_iff, decide_eq_true_iff] at h1
  have hn : n ≤ 1000000 := by omega
  have hn' : n' ≤ 1000000 := by omega
  clear h1
  have hlen : (textE e).length ≤ 4096 := by
    by_cases hv : validE e
    · exact text_len4096 hv
    · rw [text_bad hv]; decide
  obtain ⟨f, hf, hfe⟩ := any_text e
  have Z0 := Z.cell 0 _ rfl; have Z1 := Z.cell 1 _ rfl; have Zlt := Z.lt
  go_wp2_with fail
  refine (ptext_any A n c A' n' c' e _ (HEN.out _ hb) hn hn' (HU.out _ hb)).mono ?_; rintro r w3 ⟨rfl, hb3⟩
  (replace hb := hb.trans (hb3.mono hb.size)); replace Z := Z.up hb3; clear hb3; (try clear Z0); (try clear Z1); (try clear Zlt)
  have HF : Hid (ParOk (textE e) f) := ⟨hf, hlen⟩
  have HFE := Lib.hid hfe; clear hf hfe
  have HRT : Hid (∀ W, Below w.heap.size w W → Calls Tryz.prog 28 #[.agg #[.slice A n c, .slice A' n' c']] W fun r w' => r = .returned (.string ⟨(textE e).toArray⟩) ∧ Below W.heap.size W w') := fun W hW => rtext_any A n c A' n' c' e W hn hn' (HU.out _ hW)
  have HTB : Hid (¬ validE e → textE e = []) := text_bad
  generalize textE e = tx at *
  have Z0 := Z.cell 0 _ rfl; have Z1 := Z.cell 1 _ rfl; have Zlt := Z.lt
  go_wp2_with fail
  refine (pparse_any tx _ (by omega) (HEN.out _ hb)).mono ?_
  rintro r w4 ⟨hP, hb4⟩
  rcases hP with ⟨x, hok, P, p, q, P', p', q', rfl, hP⟩ | ⟨hno, _⟩
  rotate_left 1
  · exact absurd HF.out (hno f)
  obtain rfl : x = f := isText_unique hok.1 HF.out.1
  have hlens := valid_lens hok.1.1
  have hp1 : p ≤ 1000000 := by have := hP.ents.len; omega
  have hp2 : p' ≤ 1000000 := by have := hP.ret.len; omega
  clear hok hlens HF
  (replace hb := hb.trans (hb4.mono hb.size)); replace Z := Z.up hb4; clear hb4; (try clear Z0); (try clear Z1); (try clear Zlt)
  have V := Bx.new w4 [.slice P p q, .slice P' p' q'] 25
  have hbW : Below w4.heap.size w4 (w4.alloc (.cells #[.slice P p q, .slice P' p' q'] 25)) := one_alloc _ _
  have Z0 := Z.cell 0 _ rfl; have Z1 := Z.cell 1 _ rfl; have Zlt := Z.lt
  go_wp2_with fail
  generalize w4.alloc (.cells #[.slice P p q, .slice P' p' q'] 25) = W5 at *
  (replace hb := hb.trans (hbW.mono hb.size)); replace Z := Z.up hbW; replace hP := hP.up hbW; clear hbW; (try clear Z0); (try clear Z1); (try clear Zlt)
  generalize w4.heap.size = b4 at *
  refine (HRT.out _ hb).mono ?_; rintro r w6 ⟨rfl, hb6⟩
  (replace hb := hb.trans (hb6.mono hb.size)); replace Z := Z.up hb6; replace V := V.up hb6; replace hP := hP.up hb6; clear hb6; (try clear Z0); (try clear Z1); (try clear Zlt); (try clear V0); (try clear V1); (try clear Vlt)
  have Z0 := Z.cell 0 _ rfl; have Z1 := Z.cell 1 _ rfl; have Zlt := Z.lt
  go_wp2_with fail
  refine (rvalid_any A n c A' n' c' e _ hn hn' (HU.out _ hb)).mono ?_; rintro r w7 ⟨rfl, hb7⟩
  (replace hb := hb.trans (hb7.mono hb.size)); replace Z := Z.up hb7; replace V := V.up hb7; replace hP := hP.up hb7; clear hb7; (try clear Z0); (try clear Z1); (try clear Zlt); (try clear V0); (try clear V1); (try clear Vlt)
  by_cases hv : ¬ validE e
  · have HT0 := Lib.hid (HTB.out hv)
    rw [decide_eq_false hv]
    clear hv
    rw [HT0.out]
    go_wp2_with fail
    go_ret
    exact ⟨rfl, hb⟩
  replace hv := Classical.not_not.1 hv
  have hxe := HFE.out hv
  rw [decide_eq_true hv]
  clear hv
  rw [hxe] at hP
  have Z0 := Z.cell 0 _ rfl; have Z1 := Z.cell 1 _ rfl; have Zlt := Z.lt
  have V0 := V.cell 0 _ rfl; have V1 := V.cell 1 _ rfl; have Vlt := V.lt
  go_wp2_with fail
  refine (editions_any P p q P' p' q' e A n c A' n' c' e _ hp1 hp2 hn hn' hP (HU.out _ hb)).mono ?_; rintro r w8 ⟨rfl, hb8⟩
  rw [decide_eq_true (rfl : e = e)]
  (replace hb := hb.trans (hb8.mono hb.size)); clear hb8
  go_wp2_with fail
  go_ret
  exact ⟨rfl, hb⟩
end Go.Proofs.YtfanjghfilkhmaaGreatDoor
