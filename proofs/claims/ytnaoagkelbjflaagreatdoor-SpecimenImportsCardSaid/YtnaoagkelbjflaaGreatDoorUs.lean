/- The law of the sorted list. -/
import Derived.Test.YtnaoagkelbjflaaGreatDoorUa
import Derived.Test.YtnaoagkelbjflaaGreatDoorVa
set_option linter.unusedSimpArgs false
set_option linter.unusedVariables false
namespace Go.Proofs.YtnaoagkelbjflaaGreatDoor
open Go.RowKit

theorem below3 {w w1 w2 : World} (h : Below w.heap.size w w1) (h2 : Below w1.heap.size w1 w2) : Below w.heap.size w w2 := h.trans (h2.mono h.size)
theorem srtL_lt (xs : List Spm) : (srtL xs).Pairwise ltS := by
  unfold srtL
  split
  · rename_i h; exact sortS_lt ((chk_zero xs).1 h).2.2
  · exact List.Pairwise.nil
theorem srtL_len (xs : List Spm) (h : chk xs = 0) : (srtL xs).length = xs.length := by unfold srtL; rw [if_pos h, sortS_len]
theorem srtL_le (xs : List Spm) : (srtL xs).length ≤ xs.length := by
  unfold srtL; split
  · rw [sortS_len]; omega
  · simp
theorem lt_at {zs : List Spm} (h : zs.Pairwise ltS) {i : Nat} {x y : Spm} (hx : zs[i]? = some x) (hy : zs[i + 1]? = some y) : x.id < y.id := by
  obtain ⟨h1, rfl⟩ := List.getElem?_eq_some_iff.1 hx
  obtain ⟨h2, rfl⟩ := List.getElem?_eq_some_iff.1 hy
  exact List.pairwise_iff_getElem.1 h i (i + 1) h1 h2 (by omega)

set_option maxRecDepth 100000 in
set_option maxHeartbeats 4000000 in
theorem sorts_law (A : Option Addr) (len cap : Nat) (xs : List Spm) (w : World) (hE : Env w) (hS : Sl w 0 w.heap.size 7 encS A len xs) (hlm : len ≤ maxLen) :
    Calls Tryz.prog 11 #[.slice A len cap] w fun e w' => e = .returned (.bool true) ∧ Below w.heap.size w w' := by
  have hE' := Lib.hid hE; clear hE
  have HS := Lib.hid hS; clear hS
  obtain ⟨i0, hi, hz0, hz1, hz2⟩ := info_parts Tryz.infoS
  go_enter Tryz.func11, Tryz.ntmps11
  by_cases hl : 100 < len
  · go_wp2_with fail
    refine (awake_any _ hE'.out).mono ?_; rintro e w1 ⟨rfl, hb⟩
    go_wp2_with fail
    refine (awake_any _ (hE'.out.step hb)).mono ?_; rintro e w2 ⟨rfl, hb2⟩
    (replace hb := hb.trans (hb2.mono hb.size)); clear hb2
    go_wp2_with fail
    go_ret
    exact ⟨rfl, hb⟩
  have hl' : len ≤ 100 := by omega
  clear hl
  go_wp2_with fail
  refine (awake_any _ hE'.out).mono ?_; rintro e w1 ⟨rfl, hb⟩
  have HL : Hid (xs.length = len) := HS.out.len
  have hown0 : (w1.alloc (.cells #[] 23)).ownsRow w1.heap.size 23 7 (.slice (some ⟨w1.heap.size, 0, none⟩) 0 0) 0 [] := World.ownsRow_lit w1 #[] 0 (Nat.le_refl _) (by unfold maxLen; omega) rfl
  have HO := Lib.hid hown0; clear hown0
  have hS1 : Sl (w1.alloc (.cells #[] 23)) 0 w.heap.size 7 encS A len xs := (HS.out.below hb (Nat.le_refl _)).below (one_alloc _ _) (by have := hb.size; omega)
  have HS1 := Lib.hid hS1; clear hS1
  go_wp2_with (at_builtin; refine wpList_append_sl _ rfl _ _ 31 rfl w1.heap.size 23 i0 (.agg #[.int .i64 0, .int .i64 0, .int .i64 0, .int .i64 0, .int .i64 0, .int .i64 0, .int .i64 0]) 7 56 encS_len oneS Tryz.underlying31 hi hz0 hz1 hz2 rfl (by decide) _ _ _ rfl HO.out cap rfl HS1.out ?c3 ?c4 ?c5 ?_)
  case c3 => unfold maxLen; omega
  case c4 => omega
  case c5 => simp
  intro v' w3 hown' hgrow
  have hb1 : Below w1.heap.size w1 w3 := Below.grown (one_alloc _ _) hgrow (by simp) (fun g hg => by simp [Value.ownBlock] at hg; omega)
  have hown : w3.ownsRow w1.heap.size 23 7 v' xs.length (xs.flatMap encS) := by have := HL.out; simpa [this] using hown'
  clear hown' hgrow
  replace hb := hb.trans (hb1.mono hb.size)
  clear hb1
  obtain ⟨O, co, rfl, _⟩ := own_form hown
  have hO := (Sl.of_own (enc := encS) encS_len hown rfl).any
  rw [HL.out] at hO ⊢
  clear hown
  have hS3 := HS.out.up hb (Nat.le_refl _) (Nat.le_refl _)
  go_wp2_with fail
  refine (ssort_any O len co xs _ (by omega) hO).mono ?_
  rintro e w4 ⟨⟨S, ns, cs, rfl, hSs⟩, hb4⟩
  replace hSs := hSs.any
  (replace hb := hb.trans (hb4.mono hb.size)); replace hO := hO.up hb4 (Nat.le_refl _) (Nat.le_refl _); replace hS3 := hS3.up hb4 (Nat.le_refl _) (Nat.le_refl _); clear hb4
  go_wp2_with fail
  refine (rsort_any A len cap xs _ (by omega) hS3).mono ?_
  rintro e w5 ⟨⟨T, nt, ct, rfl, hT⟩, hb5⟩
  replace hT := hT.any
  (replace hb := hb.trans (hb5.mono hb.size)); replace hO := hO.up hb5 (Nat.le_refl _) (Nat.le_refl _); replace hS3 := hS3.up hb5 (Nat.le_refl _) (Nat.le_refl _); replace hSs := hSs.up hb5 (Nat.le_refl _) (Nat.le_refl _); clear hb5
  have hns : ns ≤ 100 := by have := hSs.len; have := srtL_le xs; have := HL.out; omega
  have hnt : nt ≤ 100 := by have := hT.len; have := srtL_le xs; have := HL.out; omega
  have HLT : Hid ((srtL xs).Pairwise ltS) := srtL_lt xs
  have HEN : Hid (chk xs = 0 → ns = len) := fun h => by have := hSs.len; have := srtL_len xs h; have := HL.out; omega
  go_wp2_with fail
  refine (specs_any S ns cs _ T nt ct _ _ (by omega) (by omega) hSs hT).mono ?_; rintro e w6 ⟨rfl, hb6⟩
  rw [decide_eq_true (rfl : srtL xs = srtL xs)]
  (replace hb := hb.trans (hb6.mono hb.size)); replace hO := hO.up hb6 (Nat.le_refl _) (Nat.le_refl _); replace hS3 := hS3.up hb6 (Nat.le_refl _) (Nat.le_refl _); replace hSs := hSs.up hb6 (Nat.le_refl _) (Nat.le_refl _); clear hb6
  go_wp2_with fail
  refine (scheck_any O len co xs _ (by omega) hO).mono ?_; rintro e w7 ⟨rfl, hb7⟩
  (replace hb := hb.trans (hb7.mono hb.size)); replace hO := hO.up hb7 (Nat.le_refl _) (Nat.le_refl _); replace hS3 := hS3.up hb7 (Nat.le_refl _) (Nat.le_refl _); replace hSs := hSs.up hb7 (Nat.le_refl _) (Nat.le_refl _); clear hb7
  go_wp2_with fail
  refine (specs_any O len co xs A len cap xs _ (by omega) (by omega) hO hS3).mono ?_; rintro e w8 ⟨rfl, hb8⟩
  rw [decide_eq_true (rfl : xs = xs)]
  (replace hb := hb.trans (hb8.mono hb.size)); replace hSs := hSs.up hb8 (Nat.le_refl _) (Nat.le_refl _); clear hb8
  have HSS := Lib.hid hSs; clear hSs hT hO hS3
  generalize srtL xs = zs at *
  have HB8 := Lib.hid hb; clear hb
  go_wp2_with fail
  go_loopw [8] (fun i wr => ∃ k : Nat, i = .int .i64 ((k : Int) + 1) ∧ Below w8.heap.size w8 wr) (fun i _ => ns + 1 - (intOf i).toNat)
  case atStart => exact ⟨0, rfl, Below.refl _ _⟩
  case round =>
    obtain ⟨k, rfl, hbr⟩ := hrel
    by_cases hlt : k + 1 < ns
    · obtain ⟨b, off, y, rfl, hbb, hy, c0, _, _, _, _, _, _⟩ := (HSS.out.up hbr (Nat.le_refl _) (Nat.le_refl _)).sp hlt
      obtain ⟨b', off', x, hbo, _, hx, d0, _, _, _, _, _, _⟩ := (HSS.out.up hbr (Nat.le_refl _) (Nat.le_refl _)).sp (show k < ns by omega)
      injection hbo with hbo
      injection hbo with e1 e2
      subst e1 e2
      have hlt2 := lt_at HLT.out hx hy
      clear hx hy
      have hwp : IntKind.i64.wrap (k : Int) = (k : Int) := by rw [IntKind.wrap_i64]; omega
      have jz : (k : Int) + 1 < (ns : Int) := by omega
      have jz1 : (k : Int) < (ns : Int) := by omega
      have z0 : (0 : Int) ≤ (k : Int) + 1 := by omega
      have z1 : (0 : Int) ≤ (k : Int) := by omega
      have e0 : ((k : Int) + 1).toNat = k + 1 := by omega
      go_wp2_with fail
      go_quiet (fail)
      go_wp2_with fail
      go_roundw
      case rel => exact ⟨k + 1, by go_num, below_drewN hbr _⟩
      case measure => simp [intOf]; omega
    · have jz : ¬ (k : Int) + 1 < (ns : Int) := by omega
      by_cases hc : chk xs = 0
      · obtain rfl := HEN.out hc
        rw [hc]
        go_wp2_with fail
        go_ret
        exact ⟨by simp, HB8.out.trans (hbr.mono HB8.out.size)⟩
      · have hd : (chk xs != 0) = true := by simpa using hc
        generalize chk xs = c at *
        clear hc
        go_wp2_with fail
        go_ret
        exact ⟨by simp, HB8.out.trans (hbr.mono HB8.out.size)⟩
end Go.Proofs.YtnaoagkelbjflaaGreatDoor
