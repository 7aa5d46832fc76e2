/- CatalogParses: the law's walk (chapter 47). -/
import Derived.Test.YtfanjghfilkhmaaGreatDoorIa
set_option linter.unusedSimpArgs false
set_option linter.unusedVariables false
namespace Go.Proofs.YtfanjghfilkhmaaGreatDoor
open Go.RowKit

set_option maxRecDepth 100000 in
set_option maxHeartbeats 8000000 in
theorem parses_law (s : List UInt8) (w : World) (hE : Env w) (hmax : s.length ≤ maxLen) :
    Calls Tryz.prog 10 #[.string ⟨s.toArray⟩] w fun r w' => r = .returned (.bool true) ∧ Below w.heap.size w w' := by
  have HEN : Hid (∀ W, Below w.heap.size w W → Env W) := fun W hW => hE.step hW
  clear hE
  unfold maxLen at hmax
  go_enter Tryz.func10, Tryz.ntmps10
  go_wp2_with fail
  refine (awake_any _ (HEN.out _ (Below.refl _ _))).mono ?_; rintro r w1 ⟨rfl, hb⟩
  by_cases hl : 4200 < s.length
  · go_wp2_with fail
    refine (awake_any _ (HEN.out _ hb)).mono ?_; rintro r w3 ⟨rfl, hb3⟩
    (replace hb := hb.trans (hb3.mono hb.size)); clear hb3
    go_wp2_with fail
    go_ret
    exact ⟨rfl, hb⟩
  have hs : s.length ≤ 100000 := by omega
  go_wp2_with fail
  refine (pparse_any s _ hs (HEN.out _ hb)).mono ?_
  rintro r w2 ⟨hP, hb2⟩
  (replace hb := hb.trans (hb2.mono hb.size)); clear hb2
  rcases hP with ⟨x, hok, P, p, q, P', p', q', rfl, hP⟩ | ⟨hno, rfl⟩
  · have HOK := Lib.hid hok
    have hlens := valid_lens hok.1.1
    have hp1 : p ≤ 1000000 := by have := hP.ents.len; omega
    have hp2 : p' ≤ 1000000 := by have := hP.ret.len; omega
    clear hok hlens
    go_wp2_with fail
    refine (rparse_any s _ (by omega)).mono ?_
    rintro r w3 ⟨hR, hb3⟩
    rcases hR with ⟨y, hok2, R, t, u, R', t', u', rfl, hR⟩ | ⟨hno, _⟩
    rotate_left 1
    · exact absurd HOK.out (hno x)
    obtain rfl : y = x := isText_unique hok2.1 HOK.out.1
    have hlens := valid_lens hok2.1.1
    have ht1 : t ≤ 1000000 := by have := hR.ents.len; omega
    have ht2 : t' ≤ 1000000 := by have := hR.ret.len; omega
    clear hok2 hlens
    obtain ⟨h23, hb', Z⟩ := step1 hb hb3
    replace hP := hP.up h23
    clear hb hb3 h23
    have hb := hb'; clear hb'
    generalize w2.heap.size = b2 at *
    have HTX : Hid (textE y = s) := HOK.out.1.2
    have V := Bx.new w3 [.slice R t u, .slice R' t' u'] 25
    have hbW : Below w3.heap.size w3 (w3.alloc (.cells #[.slice R t u, .slice R' t' u'] 25)) := one_alloc _ _
    have Z0 := Z.cell 0 _ rfl; have Z1 := Z.cell 1 _ rfl; have Zlt := Z.lt
    go_wp2_with fail
    generalize w3.alloc (.cells #[.slice R t u, .slice R' t' u'] 25) = W4 at *
    (replace hb := hb.trans (hbW.mono hb.size)); replace Z := Z.up hbW; replace hP := hP.up hbW; replace hR := hR.up hbW; clear hbW; (try clear Z0); (try clear Z1); (try clear Zlt)
    generalize w3.heap.size = b3 at *
    refine (editions_any P p q P' p' q' y R t u R' t' u' y W4 hp1 hp2 ht1 ht2 hP hR).mono ?_; rintro r w5 ⟨rfl, hb5⟩
    rw [decide_eq_true (rfl : y = y)]
    (replace hb := hb.trans (hb5.mono hb.size)); replace Z := Z.up hb5; replace hP := hP.up hb5; clear hb5; (try clear Z0); (try clear Z1); (try clear Zlt)
    have Z0 := Z.cell 0 _ rfl; have Z1 := Z.cell 1 _ rfl; have Zlt := Z.lt
    go_wp2_with fail
    refine (ptext_any P p q P' p' q' y _ (HEN.out _ hb) hp1 hp2 hP).mono ?_; rintro r w6 ⟨rfl, hb6⟩
    rw [HTX.out]
    (replace hb := hb.trans (hb6.mono hb.size)); clear hb6
    go_wp2_with fail
    go_ret
    exact ⟨rfl, hb⟩
  · have HNO := Lib.hid hno; clear hno
    have hc0 : parCode s ≠ 0 := by unfold parCode; split <;> decide
    go_wp2_with fail
    refine (rparse_any s _ (by omega)).mono ?_
    rintro r w3 ⟨hR, hb3⟩
    rcases hR with ⟨y, hok2, _⟩ | ⟨_, rfl⟩
    · exact absurd hok2 (HNO.out y)
    obtain ⟨h23, hb', Z⟩ := step1 hb hb3
    clear hb hb3 h23
    have hb := hb'; clear hb'
    generalize w2.heap.size = b2 at *
    generalize parCode s = pc at *
    have Z0 := Z.cell 0 _ rfl; have Z1 := Z.cell 1 _ rfl; have Zlt := Z.lt
    go_wp2_with fail
    refine (editions_any none 0 0 none 0 0 edZero none 0 0 none 0 0 edZero _ (by decide) (by decide) (by decide) (by decide) EdS.none EdS.none).mono ?_; rintro r w5 ⟨rfl, hb5⟩
    rw [decide_eq_true (rfl : edZero = edZero)]
    obtain ⟨_, hb', _⟩ := step1 hb hb5
    have hd : (pc != 0) = true := by simpa using hc0
    go_wp2_with fail
    go_ret
    exact ⟨rfl, hb'⟩
end Go.Proofs.YtfanjghfilkhmaaGreatDoor
