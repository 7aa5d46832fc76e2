/- Chapter 54: the reference's tables (37) and reports of axes and weights. -/
import Derived.Test.YtdokpmfejibdlaaGreatDoorXl
set_option linter.unusedSimpArgs false
set_option linter.unusedVariables false
namespace Go.Proofs.YtdokpmfejibdlaaGreatDoor
open Go.RowKit

theorem rwchk_any (A : Option Addr) (len cap : Nat) (xs : List Int) (w : World) (hlen : len ≤ 64) (hS : Sl w 0 w.heap.size 1 encI A len xs) (hall : ∀ x ∈ xs, 1 ≤ x ∧ x ≤ 200000) :
    Calls Tryz.prog 102 #[.slice A len cap] w fun e w' => e = .returned (.int .i64 0) ∧ w = w' := by
  have HS := Lib.hid hS; clear hS
  have HA := Lib.hid hall; clear hall
  go_enter Tryz.func102, Tryz.ntmps102
  go_wp2_with fail
  go_loop [3] (fun s => ∃ k : Nat, k ≤ len ∧ s = .int .i64 (k : Int)) (fun s => len - (intOf s).toNat)
  case atStart => exact ⟨0, by omega, rfl⟩
  case round =>
    obtain ⟨k, hk, rfl⟩ := hrel
    by_cases hlt : k < len
    · obtain ⟨b, off, x, rfl, hbb, hx, c0⟩ := HS.out.in_ hlt
      obtain ⟨h1, h2⟩ := HA.out x (List.mem_of_getElem? hx)
      clear hx
      go_wp2_with fail
      go_round
      case rel => exact ⟨k + 1, by omega, by go_num⟩
      case measure => simp [intOf]; omega
    · obtain rfl : k = len := by omega
      go_wp2_with fail
      go_ret
      exact ⟨rfl, rfl⟩
set_option maxHeartbeats 1000000 in
theorem rbetween_any (A : Option Addr) (len cap : Nat) (xs : List Int) (lo hi : Int) (w : World) (hlen : len ≤ 64) (hS : Sl w 0 w.heap.size 1 encI A len xs) :
    Calls Tryz.prog 103 #[.slice A len cap, .int .i64 lo, .int .i64 hi] w fun e w' => e = .returned (.int .i64 (withinW xs lo hi : Nat)) ∧ w = w' := by
  have HL := Lib.hid hS.len
  have HS := Lib.hid hS; clear hS
  go_enter Tryz.func103, Tryz.ntmps103
  go_wp2_with fail
  go_loop [7, 8] (fun v s => ∃ k : Nat, k ≤ len ∧ s = .int .i64 (k : Int) ∧ v = .int .i64 (withinW (xs.take k) lo hi : Nat)) (fun _ s => len - (intOf s).toNat)
  case atStart => exact ⟨0, by omega, rfl, rfl⟩
  case round =>
    obtain ⟨k, hk, rfl, rfl⟩ := hrel
    by_cases hlt : k < len
    · obtain ⟨b, off, x, rfl, hbb, hx, c0⟩ := HS.out.in_ hlt
      have HST := Lib.hid (withinT_step lo hi hx)
      have hwl : withinW (xs.take k) lo hi ≤ 64 := by have := withinT_le (xs.take k) lo hi; rw [List.length_take] at this; omega
      generalize withinW (xs.take k) lo hi = q at *
      clear hx
      by_cases h1 : lo ≤ x
      · by_cases h2 : x < hi
        · have HQ : Hid (withinW (xs.take (k + 1)) lo hi = q + 1) := by show _ = _; rw [HST.out]; simp [h1, h2]
          go_wp2_with fail
          go_round
          case rel => exact ⟨k + 1, by omega, by go_num, by rw [HQ.out]; go_num⟩
          case measure => simp [intOf]; omega
        · have HQ : Hid (withinW (xs.take (k + 1)) lo hi = q) := by show _ = _; rw [HST.out]; simp [h2]
          go_wp2_with fail
          go_round
          case rel => exact ⟨k + 1, by omega, by go_num, by rw [HQ.out]⟩
          case measure => simp [intOf]; omega
      · have HQ : Hid (withinW (xs.take (k + 1)) lo hi = q) := by show _ = _; rw [HST.out]; simp [h1]
        go_wp2_with fail
        go_round
        case rel => exact ⟨k + 1, by omega, by go_num, by rw [HQ.out]⟩
        case measure => simp [intOf]; omega
    · obtain rfl : k = len := by omega
      have HT : Hid (xs.take k = xs) := take_all HL.out
      rw [HT.out]
      go_wp2_with fail
      go_ret
      exact ⟨rfl, rfl⟩
set_option maxRecDepth 100000 in
set_option maxHeartbeats 4000000 in
theorem rtable_any (A : Option Addr) (len cap : Nat) (xs : List Int) (low step n : Int) (w : World) (hlen : len ≤ 64) (hS : Sl w 0 w.heap.size 1 encI A len xs) (hall : ∀ x ∈ xs, 1 ≤ x ∧ x ≤ 200000) :
    Calls Tryz.prog 59 #[.slice A len cap, .int .i64 low, .int .i64 step, .int .i64 n] w (NumsW w (tableR xs low step n) (tableE low step n)) := by
  have HC := Lib.hid (rwchk_any A len cap xs w hlen hS hall)
  have HW : Hid (∀ lo hi W, Below w.heap.size w W → Calls Tryz.prog 103 #[.slice A len cap, .int .i64 lo, .int .i64 hi] W fun e w' => e = .returned (.int .i64 (withinW xs lo hi : Nat)) ∧ W = w') := fun lo hi W hW => rbetween_any A len cap xs lo hi W hlen (hS.up hW (Nat.le_refl _) (Nat.le_refl _))
  have HTOP : Hid (∀ lo, withinW xs lo 1000000000 = withinW xs lo 200001) := fun lo => within_top (fun x hx => (hall x hx).2) lo (by omega)
  clear hS hall
  obtain ⟨i0, hi, hz0, hz1, hz2⟩ := info_parts Tryz.infoI
  go_enter Tryz.func59, Tryz.ntmps59
  go_wp2_with fail
  go_fit HC.out
  rintro e w1 ⟨rfl, rfl⟩
  rcases tableE_or low step n with ⟨he, h1, h2, h3, h4, h5, h6⟩ | ⟨he, hbad⟩
  · have HE := Lib.hid he
    have HR : Hid (tableR xs low step n = tableW xs low step n.toNat) := if_pos he
    obtain ⟨nn, rfl⟩ := Int.eq_ofNat_of_zero_le (show 0 ≤ n by omega)
    rw [Int.toNat_natCast] at HR
    clear he
    go_wp2_with fail
    go_fit (HW.out _ _ _ (Below.refl _ _))
    rintro e w2 ⟨rfl, rfl⟩
    have own0 : (w.alloc (.cells #[.int .i64 (withinW xs 0 low : Nat)] 3)).ownsRow w.heap.size 3 1 (.slice (some ⟨w.heap.size, 0, none⟩) 1 1) 1 ((tabT xs low step 0).flatMap encI) := World.ownsRow_lit w #[.int .i64 (withinW xs 0 low : Nat)] 1 (Nat.le_refl _) (by unfold maxLen; omega) rfl
    go_wp2_with fail
    go_loopw [11, 12] (fun v i wr => ∃ j : Nat, j ≤ nn ∧ i = .int .i64 (j : Int) ∧ wr.ownsRow w.heap.size 3 1 v (j + 1) ((tabT xs low step j).flatMap encI) ∧ Below w.heap.size w wr) (fun _ i _ => nn - (intOf i).toNat)
    case atStart => exact ⟨0, by omega, rfl, own0, one_alloc _ _⟩
    case round =>
      clear own0
      obtain ⟨j, hj, rfl, hown, hbr⟩ := hrel
      have hm1 : 0 ≤ (j : Int) * step ∧ (j : Int) * step ≤ 64 * 10000 := ⟨Int.mul_nonneg (by omega) (by omega), Int.mul_le_mul (by omega) h4 (by omega) (by omega)⟩
      have hm2 : 0 ≤ ((j : Int) + 1) * step ∧ ((j : Int) + 1) * step ≤ 65 * 10000 := ⟨Int.mul_nonneg (by omega) (by omega), Int.mul_le_mul (by omega) h4 (by omega) (by omega)⟩
      have e1 : low + (j : Int) * step = low + j * step := rfl
      obtain ⟨p1, hp1⟩ : ∃ p1, p1 = (j : Int) * step := ⟨_, rfl⟩
      obtain ⟨p2, hp2⟩ : ∃ p2, p2 = ((j : Int) + 1) * step := ⟨_, rfl⟩
      rw [← hp1] at hm1
      rw [← hp2] at hm2
      by_cases hlt : j < nn
      · have hw1 : IntKind.i64.wrap ((j : Int) * step) = p1 := by rw [← hp1, IntKind.wrap_i64]; omega
        have hw2 : IntKind.i64.wrap (((j : Int) + 1) * step) = p2 := by rw [← hp2, IntKind.wrap_i64]; omega
        have HT : Hid (tabT xs low step (j + 1) = tabT xs low step j ++ [(withinW xs (low + p1) (low + p2) : Int)]) := by show _ = _; rw [tabT_succ, hp1, hp2]
        clear hp1 hp2 e1
        go_wp2_with fail
        go_fit (HW.out _ _ _ hbr)
        rintro e w2 ⟨rfl, rfl⟩
        generalize hq : withinW xs (low + p1) (low + p2) = q at *
        clear hq
        go_wp2_with (at_builtin; refine wpList_append_own _ rfl _ _ 36 rfl w.heap.size 3 i0 (.int .i64 0) 1 8 Tryz.underlying36 hi hz0 hz1 hz2 rfl (by decide) _ _ _ rfl (hown.alloc _) ⟨wr.heap.size, 0, none⟩ 1 1 [.int .i64 (q : Nat)] rfl rfl ?c1 ?c2 ?c3 ?c4 ?c5 ?_)
        case c1 => exact cell_list_at (by simp) _ _
        case c2 => exact encI_one (q : Nat)
        case c3 => unfold maxLen; omega
        case c4 => omega
        case c5 => have := hbr.size; simp; omega
        intro v' w5 hown5 hgrow _
        have hb5 : Below w.heap.size w w5 := Below.grown (hbr.alloc hbr.size _) hgrow (by have := hbr.size; simp; omega) (fun g hg => (hown.lt g hg).1)
        clear hgrow
        go_wp2_with fail
        exact ⟨⟨j + 1, by omega, by go_num, by rw [HT.out, List.flatMap_append]; exact hown5, hb5⟩, by simp [intOf]; omega⟩
      · obtain rfl : j = nn := by omega
        have hw1 : IntKind.i64.wrap ((j : Int) * step) = p1 := by rw [← hp1, IntKind.wrap_i64]; omega
        have HT : Hid (tableW xs low step j = tabT xs low step j ++ [(withinW xs (low + p1) 200001 : Int)]) := by show _ = _; unfold tableW tabT; rw [hp1]
        clear hp1 hp2 e1
        go_wp2_with fail
        go_fit (HW.out _ _ _ hbr)
        rintro e w2 ⟨rfl, rfl⟩
        rw [HTOP.out]
        generalize hq : withinW xs (low + p1) 200001 = q at *
        clear hq
        go_wp2_with (at_builtin; refine wpList_append_own _ rfl _ _ 36 rfl w.heap.size 3 i0 (.int .i64 0) 1 8 Tryz.underlying36 hi hz0 hz1 hz2 rfl (by decide) _ _ _ rfl (hown.alloc _) ⟨wr.heap.size, 0, none⟩ 1 1 [.int .i64 (q : Nat)] rfl rfl ?c1 ?c2 ?c3 ?c4 ?c5 ?_)
        case c1 => exact cell_list_at (by simp) _ _
        case c2 => exact encI_one (q : Nat)
        case c3 => unfold maxLen; omega
        case c4 => omega
        case c5 => have := hbr.size; simp; omega
        intro v' w5 hown5 hgrow _
        have hb5 : Below w.heap.size w w5 := Below.grown (hbr.alloc hbr.size _) hgrow (by have := hbr.size; simp; omega) (fun g hg => (hown.lt g hg).1)
        have hown6 : w5.ownsRow w.heap.size 3 1 v' (j + 2) ((tableW xs low step j).flatMap encI) := by rw [HT.out, List.flatMap_append]; exact hown5
        obtain ⟨A6, c6, rfl, _⟩ := own_form hown6
        have HSL := Lib.hid (Sl.of_own (k := 1) (enc := encI) (fun _ => rfl) hown6 (by rw [HT.out, List.length_append, tabT_len]; rfl)).any
        clear hown6 hown5 hgrow
        go_wp2_with fail
        go_ret2
        exact ⟨⟨A6, j + 2, c6, by rw [HE.out]; rfl, by omega, by rw [HR.out]; exact HSL.out⟩, hb5⟩
  · have HE := Lib.hid he
    have HR : Hid (tableR xs low step n = []) := if_neg (by rw [he]; decide)
    clear he
    have hfin : NumsW w (tableR xs low step n) (tableE low step n) (.returned (.tuple #[.slice none 0 0, .int .i64 2])) w := ⟨⟨none, 0, 0, by rw [HE.out], by omega, by rw [HR.out]; exact Sl.nil⟩, Below.refl _ _⟩
    have HF := Lib.hid hfin
    clear hfin
    by_cases b1 : low < 0
    · go_wp2_with fail
      go_ret2
      exact HF.out
    by_cases b2 : 200000 < low
    · go_wp2_with fail
      go_ret2
      exact HF.out
    by_cases b3 : step < 1
    · go_wp2_with fail
      go_ret2
      exact HF.out
    by_cases b4 : 10000 < step
    · go_wp2_with fail
      go_ret2
      exact HF.out
    by_cases b5 : n < 1
    · go_wp2_with fail
      go_ret2
      exact HF.out
    have b6 : 64 < n := by omega
    go_wp2_with fail
    go_ret2
    exact HF.out
set_option maxRecDepth 100000 in
set_option maxHeartbeats 4000000 in
theorem raxes54_any (A : Option Addr) (len cap : Nat) (xs : List Spm) (w : World) (hlen : len ≤ 1000000) (hS : Sl w 0 w.heap.size 7 encS A len xs) :
    Calls Tryz.prog 21 #[.slice A len cap] w (RepW w (repL xs (hoursL (xs.map Spm.ax))) (grE xs)) := by
  have HO := Lib.hid (rof_any A len cap xs w hlen hS)
  have HS : Hid (∀ W, Below w.heap.size w W → Sl W 0 W.heap.size 7 encS A len xs) := fun W hW => hS.up hW (Nat.le_refl _) (Nat.le_refl _)
  have HL := Lib.hid hS.len
  clear hS
  go_enter Tryz.func21, Tryz.ntmps21
  go_wp2_with fail
  refine HO.out.mono ?_; rintro e w1 ⟨⟨A1, n1, c1, B1, m1, d1, C1, k1, l1, rfl, hn1, hm1, hk1, hG1⟩, hb1⟩
  clear hG1
  by_cases he : ¬ grE xs = 0
  · have hd : (grE xs != 0) = true := by simpa using he
    have HT : Hid (repL xs (hoursL (xs.map Spm.ax)) = []) := if_neg he
    generalize grE xs = code at *
    clear he
    go_wp2_with fail
    go_ret2
    exact ⟨by rw [HT.out]; rfl, hb1.alloc hb1.size _⟩
  replace he := Classical.not_not.1 he
  have HT : Hid (repL xs (hoursL (xs.map Spm.ax)) = hoursL (xs.map Spm.ax)) := if_pos he
  obtain ⟨h64, hok⟩ := spm_ok he
  have hl64 : len ≤ 64 := by have := HL.out; omega
  have HLA : Hid ((xs.map Spm.ax).length ≤ 64) := by show _ ≤ _; rw [List.length_map]; exact h64
  have HLB : Hid ((xs.map Spm.ax).length = len) := by show _ = _; rw [List.length_map]; exact HL.out
  have HXS : Hid (∀ (j : Nat) (x : Spm), xs[j]? = some x → (xs.map Spm.ax)[j]? = some x.ax) := fun j x h => by rw [List.getElem?_map, h]; rfl
  rw [he]
  have HE := Lib.hid he
  clear he hok h64
  generalize xs.map Spm.ax = hs at *
  go_wp2_with fail
  have hb := hb1.alloc hb1.size (.cells #[.slice A1 n1 c1, .slice B1 m1 d1, .slice C1 k1 l1] 52)
  clear hb1
  generalize w1.alloc (.cells #[.slice A1 n1 c1, .slice B1 m1 d1, .slice C1 k1 l1] 52) = w2 at *
  go_loopw [6, 7] (fun s i wr => ∃ q : Nat, q ≤ 12 ∧ i = .int .i64 ((q : Int) + 1) ∧ s = .string ⟨((List.range q).flatMap (hourT54 hs)).toArray⟩ ∧ Below w.heap.size w wr) (fun _ i _ => 13 - (intOf i).toNat)
  case atStart => exact ⟨0, by omega, rfl, rfl, hb⟩
  case round =>
    clear hb
    obtain ⟨q, hq, rfl, rfl, hbr⟩ := hrel
    by_cases hlt2 : q < 12
    · have hft := flatR_len (m := 50) (hourT54 hs) q (fun i hi => hourT_len hs HLA.out i (by omega))
      have HFS := Lib.hid (flatR_succ (hourT54 hs) q)
      have HQ : Hid (hourT54 hs q = if 0 < hs.countP (fun y => y == (((q + 1) % 12 : Nat) : Int)) then Lib.itoa ((q : Int) + 1) ++ [104, 32] ++ Lib.itoa (hs.countP (fun y => y == (((q + 1) % 12 : Nat) : Int)) : Nat) ++ [10] else []) := rfl
      have hm1 : ((q : Int) + 1).tmod 12 = (((q + 1) % 12 : Nat) : Int) := by rw [Int.tmod_eq_emod_of_nonneg (by omega)]; omega
      have hm2 : IntKind.i64.wrap (((q + 1) % 12 : Nat) : Int) = (((q + 1) % 12 : Nat) : Int) := by rw [IntKind.wrap_i64]; omega
      generalize (q + 1) % 12 = hm at *
      generalize (List.range q).flatMap (hourT54 hs) = txt at *
      go_wp2_with fail
      go_loopw [8, 9] (fun v i wq => ∃ j : Nat, j ≤ len ∧ i = .int .i64 (j : Int) ∧ v = .int .i64 (((hs.take j).countP (fun y => y == (hm : Int)) : Nat) : Int) ∧ Below w.heap.size w wq) (fun _ i _ => len - (intOf i).toNat)
      case atStart => exact ⟨0, by omega, rfl, rfl, hbr⟩
      case round =>
        obtain ⟨j, hj, rfl, rfl, hbq⟩ := hrel
        by_cases hlt : j < len
        · obtain ⟨b, off, x, rfl, hbb, hx, x0, x1, x2, x3, x4, x5, x6⟩ := (HS.out _ hbq).sp hlt
          have HCP := Lib.hid (countP_snocW (p := fun y => y == (hm : Int)) (HXS.out j x hx))
          have hcl := List.countP_le_length (p := fun y => y == (hm : Int)) (l := hs.take j)
          rw [List.length_take] at hcl
          clear hx
          generalize (hs.take j).countP (fun y => y == (hm : Int)) = cn at *
          by_cases hxe : x.ax = (hm : Int)
          · have hxb : (x.ax == (hm : Int)) = true := by simpa using hxe
            have HC2 : Hid ((hs.take (j + 1)).countP (fun y => y == (hm : Int)) = cn + 1) := by show _ = _; rw [HCP.out, if_pos hxb]
            clear hxe
            go_wp2_with fail
            exact ⟨⟨j + 1, by omega, by go_num, by rw [HC2.out]; go_num, hbq⟩, by simp [intOf]; omega⟩
          · have hxb : (x.ax == (hm : Int)) = false := by simpa using hxe
            have HC2 : Hid ((hs.take (j + 1)).countP (fun y => y == (hm : Int)) = cn) := by show _ = _; rw [HCP.out, if_neg (by rw [hxb]; decide)]; rfl
            clear hxe
            go_wp2_with fail
            exact ⟨⟨j + 1, by omega, by go_num, by rw [HC2.out], hbq⟩, by simp [intOf]; omega⟩
        · obtain rfl : j = len := by omega
          rw [take_all HLB.out]
          have hcl := List.countP_le_length (p := fun y => y == (hm : Int)) (l := hs)
          have hcl2 := HLA.out
          generalize hs.countP (fun y => y == (hm : Int)) = cn at *
          have hi1 := itoa21 ((q : Int) + 1) (by omega) (by omega)
          have hi2 := itoa21 ((cn : Nat) : Int) (by omega) (by omega)
          by_cases hc : 0 < cn
          · rw [if_pos hc] at HQ
            have ha1 := add_lists (P := Tryz.prog) txt (Lib.itoa ((q : Int) + 1)) (by omega)
            have ha2 := add_lists (P := Tryz.prog) (txt ++ Lib.itoa ((q : Int) + 1)) [104, 32] (by simp; omega)
            have ha3 := add_lists (P := Tryz.prog) (txt ++ Lib.itoa ((q : Int) + 1) ++ [104, 32]) (Lib.itoa ((cn : Nat) : Int)) (by simp; omega)
            have ha4 := add_lists (P := Tryz.prog) (txt ++ Lib.itoa ((q : Int) + 1) ++ [104, 32] ++ Lib.itoa ((cn : Nat) : Int)) [10] (by simp; omega)
            simp only [List.append_assoc, List.cons_append, List.nil_append] at ha1 ha2 ha3 ha4
            go_wp2_with fail
            refine (rdec_any _ _ (by omega) (by omega)).mono ?_; rintro e w4 ⟨rfl, hb4⟩
            replace hbq := below_keep' hbq hb4
            go_wp2_with fail
            refine (rdec_any _ _ (by omega) (by omega)).mono ?_; rintro e w5 ⟨rfl, hb5⟩
            replace hbq := below_keep' hbq hb5
            go_wp2_with fail
            exact ⟨⟨q + 1, by omega, by go_num, by rw [HFS.out, HQ.out]; simp, hbq⟩, by simp [intOf]; omega⟩
          · rw [if_neg hc] at HQ
            obtain rfl : cn = 0 := by omega
            go_wp2_with fail
            exact ⟨⟨q + 1, by omega, by go_num, by rw [HFS.out, HQ.out, List.append_nil], hbq⟩, by simp [intOf]; omega⟩
    · obtain rfl : q = 12 := by omega
      have HH : Hid (hoursL hs = (List.range 12).flatMap (hourT54 hs)) := rfl
      generalize (List.range 12).flatMap (hourT54 hs) = txt at *
      go_wp2_with fail
      go_ret2
      exact ⟨by rw [HT.out, HH.out, HE.out]; rfl, hbr⟩
theorem rgramsI (x : Int) (w : World) (h1 : 0 ≤ x) (h2 : x ≤ 999999) : Calls Tryz.prog 60 #[.int .i64 x] w fun e w' => e = .returned (.string ⟨(gramsL x).toArray⟩) ∧ Below w.heap.size w w' := by
  obtain ⟨k, rfl⟩ := Int.eq_ofNat_of_zero_le h1
  rw [grams_same]
  exact rgrams_any k w (by omega)
set_option maxRecDepth 100000 in
set_option maxHeartbeats 4000000 in
theorem rweights54_any (A : Option Addr) (len cap : Nat) (xs : List Spm) (low step n : Int) (w : World) (hlen : len ≤ 1000000) (hS : Sl w 0 w.heap.size 7 encS A len xs) :
    Calls Tryz.prog 23 #[.slice A len cap, .int .i64 low, .int .i64 step, .int .i64 n] w (RepW w (wtL xs low step n) (wtE xs low step n)) := by
  have HO := Lib.hid (rof_any A len cap xs w hlen hS)
  have HS : Hid (∀ W, Below w.heap.size w W → Sl W 0 W.heap.size 7 encS A len xs) := fun W hW => hS.up hW (Nat.le_refl _) (Nat.le_refl _)
  have HL := Lib.hid hS.len
  clear hS
  obtain ⟨i0, hi, hz0, hz1, hz2⟩ := info_parts Tryz.infoI
  go_enter Tryz.func23, Tryz.ntmps23
  go_wp2_with fail
  refine HO.out.mono ?_; rintro e w1 ⟨⟨A1, n1, c1, B1, m1, d1, C1, k1, l1, rfl, hn1, hm1, hk1, hG1⟩, hb1⟩
  clear hG1
  by_cases he : ¬ grE xs = 0
  · have hd : (grE xs != 0) = true := by simpa using he
    have HW : Hid (wtE xs low step n = grE xs) := if_neg he
    have HT : Hid (wtL xs low step n = []) := if_neg (by rw [HW.out]; exact he)
    generalize grE xs = code at *
    clear he
    go_wp2_with fail
    go_ret2
    exact ⟨by rw [HT.out, HW.out]; rfl, hb1.alloc hb1.size _⟩
  replace he := Classical.not_not.1 he
  have HW : Hid (wtE xs low step n = tableE low step n) := if_pos he
  obtain ⟨h64, hok⟩ := spm_ok he
  have HOK : Hid (∀ x ∈ xs.map Spm.wt, 1 ≤ x ∧ x ≤ 200000) := fun x hx => by obtain ⟨s, hs, rfl⟩ := List.mem_map.1 hx; exact (hok s hs).2.2.2.2.2
  have hl64 : len ≤ 64 := by have := HL.out; omega
  have HLA : Hid ((xs.map Spm.wt).length ≤ 64) := by show _ ≤ _; rw [List.length_map]; exact h64
  rw [he]
  clear he hok h64
  go_wp2_with fail
  have hb := hb1.alloc hb1.size (.cells #[.slice A1 n1 c1, .slice B1 m1 d1, .slice C1 k1 l1] 52)
  clear hb1
  generalize w1.alloc (.cells #[.slice A1 n1 c1, .slice B1 m1 d1, .slice C1 k1 l1] 52) = w2 at *
  go_loopw [12, 13] (fun v i wr => ∃ j : Nat, j ≤ len ∧ i = .int .i64 (j : Int) ∧ wr.ownsRow w.heap.size 3 1 v j (((xs.take j).map Spm.wt).flatMap encI) ∧ Below w.heap.size w wr) (fun _ i _ => len - (intOf i).toNat)
  case atStart => exact ⟨0, by omega, rfl, World.ownsRow_nil _ _ _ _, hb⟩
  case round =>
    clear hb
    obtain ⟨j, hj, rfl, hown, hbr⟩ := hrel
    have hbz := hbr.size
    by_cases hlt : j < len
    · obtain ⟨b, off, x, rfl, hbb, hx, x0, x1, x2, x3, x4, x5, x6⟩ := (HS.out _ hbr).sp hlt
      have HX : Hid ((xs.take (j + 1)).map Spm.wt = (xs.take j).map Spm.wt ++ [x.wt]) := by show _ = _; rw [takeSnocW hx, List.map_append]; rfl
      clear hx
      generalize (xs.take j).map Spm.wt = ps at *
      go_wp2_with (at_builtin; refine wpList_append_own _ rfl _ _ 36 rfl w.heap.size 3 i0 (.int .i64 0) 1 8 Tryz.underlying36 hi hz0 hz1 hz2 rfl (by decide) _ _ _ rfl (hown.alloc _) ⟨wr.heap.size, 0, none⟩ 1 1 [.int .i64 x.wt] rfl rfl ?c1 ?c2 ?c3 ?c4 ?c5 ?_)
      case c1 => exact cell_list_at (by simp) _ _
      case c2 => exact encI_one x.wt
      case c3 => unfold maxLen; omega
      case c4 => omega
      case c5 => simp; omega
      intro v' w5 hown' hgrow _
      have hb6 : Below w.heap.size w w5 := Below.grown (hbr.alloc hbz _) hgrow (by simp; omega) (fun g hg => (hown.lt g hg).1)
      clear hgrow hown hbr
      go_wp2_with fail
      exact ⟨⟨j + 1, by omega, by go_num, by rw [HX.out, List.flatMap_append]; exact hown', hb6⟩, by simp [intOf]; omega⟩
    · obtain rfl : j = len := by omega
      rw [take_all HL.out] at hown
      obtain ⟨Ao, co, rfl, hco⟩ := own_form hown
      have HCN := Lib.hid (rtable_any Ao j co (xs.map Spm.wt) low step n wr hl64 (Sl.of_own (k := 1) (enc := encI) (fun _ => rfl) hown (by rw [List.length_map]; exact HL.out)).any HOK.out)
      clear hown
      have HWT : Hid (wtL xs low step n = if tableE low step n = 0 then weightsL (tableW (xs.map Spm.wt) low step n.toNat) low step else []) := by show _ = _; unfold wtL; rw [HW.out]
      generalize xs.map Spm.wt = hs at *
      rcases tableE_or low step n with ⟨he2, h1, h2, h3, h4, h5, h6⟩ | ⟨he2, _⟩
      rotate_left 1
      · have HE2 := Lib.hid he2
        have HTX : Hid (wtL xs low step n = []) := by show _ = _; rw [HWT.out, if_neg (by rw [he2]; decide)]
        rw [he2] at HCN
        clear he2
        go_wp2_with fail
        refine HCN.out.mono ?_; rintro e w3 ⟨⟨A3, n3, c3, rfl, hn3, hS3⟩, hb3⟩
        replace hb3 := below_keep' hbr hb3
        go_wp2_with fail
        go_ret2
        exact ⟨by rw [HTX.out, HW.out, HE2.out]; rfl, hb3⟩
      have HE2 := Lib.hid he2
      obtain ⟨nn, rfl⟩ := Int.eq_ofNat_of_zero_le (show 0 ≤ n by omega)
      have hTR : tableR hs low step nn = tableW hs low step nn := by unfold tableR; rw [if_pos he2, Int.toNat_natCast]
      have HTX : Hid (wtL xs low step nn = weightsL (tableW hs low step nn) low step) := by show _ = _; rw [HWT.out, if_pos he2, Int.toNat_natCast]
      rw [he2, hTR] at HCN
      have htl := tableW_len hs low step nn
      have HTB := Lib.hid (tableW_bd hs low step nn)
      clear he2 hTR HWT
      generalize tableW hs low step nn = tb at *
      go_wp2_with fail
      refine HCN.out.mono ?_; rintro e w3 ⟨⟨A3, n3, c3, rfl, hn3, hS3⟩, hb3⟩
      replace hb3 := below_keep' hbr hb3
      have HN3 : Hid (n3 = nn + 2) := by show _ = _; rw [← hS3.len, htl]
      have hn3a : 3 ≤ n3 ∧ n3 ≤ 66 := by have := HN3.out; omega
      have HTL : Hid (tb.length = n3) := by show _ = _; rw [htl, HN3.out]
      clear htl
      have HSC : Hid (∀ W, Below w3.heap.size w3 W → Sl W 0 W.heap.size 1 encI A3 n3 tb) := fun W hW => hS3.up hW (Nat.le_refl _) (Nat.le_refl _)
      clear hS3 hbr HCN
      obtain ⟨b, off, x, hA3, hbb, hx, x0⟩ := (HSC.out _ (Below.refl _ _)).in_ (show 0 < n3 by omega)
      obtain ⟨hx1, hx2⟩ := HTB.out x (List.mem_of_getElem? hx)
      have hla := HLA.out
      have hi2 := itoa21 x (by omega) (by omega)
      have ha1 := add_lists (P := Tryz.prog) [98, 101, 108, 111, 119, 32] (Lib.itoa x) (by simp; omega)
      have ha2 := add_lists (P := Tryz.prog) ([98, 101, 108, 111, 119, 32] ++ Lib.itoa x) [10] (by simp; omega)
      simp only [List.append_assoc, List.cons_append, List.nil_append] at ha1 ha2
      have HW0 : Hid ((List.range (0 + 1)).flatMap (wlineT tb low step) = [98, 101, 108, 111, 119, 32] ++ Lib.itoa x ++ [10]) := by
        show _ = _
        rw [flatR_succ]
        unfold wlineT
        rw [List.getD_eq_getElem?_getD, hx]
        simp [classT]
      subst hA3
      clear hx
      rw [Nat.add_zero] at x0
      go_wp2_with fail
      refine (rdec_any _ _ (by omega) (by omega)).mono ?_; rintro e w4 ⟨rfl, hb4⟩
      clear x0 hbb
      go_wp2_with fail
      go_loopw [16, 17] (fun s i wq => ∃ q : Nat, q ≤ nn ∧ i = .int .i64 (q : Int) ∧ s = .string ⟨((List.range (q + 1)).flatMap (wlineT tb low step)).toArray⟩ ∧ Below w3.heap.size w3 wq) (fun _ i _ => nn - (intOf i).toNat)
      case atStart => exact ⟨0, by omega, rfl, by rw [HW0.out]; simp, hb4⟩
      case round =>
        clear ha1 ha2 hi2 hx1 hx2 HW0 hb4
        obtain ⟨q, hq, rfl, rfl, hbq⟩ := hrel
        have hq1 : q + 1 < n3 := by have := HN3.out; omega
        obtain ⟨b', off', x, hA3, hbb, hx, hxq⟩ := (HSC.out _ (Below.refl _ _)).in_ hq1
        simp only [Option.some.injEq, Addr.mk.injEq, and_true] at hA3
        obtain ⟨rfl, rfl⟩ := hA3
        obtain ⟨hx1, hx2⟩ := HTB.out x (List.mem_of_getElem? hx)
        have hi2 := itoa21 x (by omega) (by omega)
        have HFS := Lib.hid (flatR_succ (wlineT tb low step) (q + 1))
        have hft := flatR_len (m := 90) (wlineT tb low step) (q + 1) (fun i hi => by
          have hil : i < tb.length := by have := HTL.out; omega
          have h9 := classT_len low step tb.length i h1 h2 h3 h4 (by omega)
          have h8 := HTB.out _ (List.getElem_mem hil)
          have h7 := itoa21 tb[i] (by omega) (by omega)
          unfold wlineT
          rw [List.getD_eq_getElem?_getD, List.getElem?_eq_getElem hil]
          simp only [List.length_append, List.length_cons, List.length_nil, Option.getD_some]
          omega)
        replace hxq := (hbq.cell (p := ⟨b, off + (q + 1), none⟩) hbb).trans hxq
        by_cases hlt : q < nn
        · have hm1 : 0 ≤ (q : Int) * step ∧ (q : Int) * step ≤ 64 * 10000 := ⟨Int.mul_nonneg (by omega) (by omega), Int.mul_le_mul (by omega) h4 (by omega) (by omega)⟩
          have hm2 : 1 ≤ ((q : Int) + 1) * step ∧ ((q : Int) + 1) * step ≤ 64 * 10000 := ⟨by
            have : (1 : Int) * 1 ≤ ((q : Int) + 1) * step := Int.mul_le_mul (by omega) h3 (by omega) (by omega)
            omega, Int.mul_le_mul (by omega) h4 (by omega) (by omega)⟩
          have HWL : Hid (wlineT tb low step (q + 1) = gramsL (low + (q : Int) * step) ++ [45] ++ gramsL (low + ((q : Int) + 1) * step - 1) ++ [32] ++ Lib.itoa x ++ [10]) := by
            show _ = _; unfold wlineT classT
            rw [List.getD_eq_getElem?_getD, hx, if_neg (by omega), if_neg (by have := HTL.out; have := HN3.out; omega), show ((q + 1 : Nat) : Int) = (q : Int) + 1 by omega, show (q : Int) + 1 - 1 = q by omega]; rfl
          obtain ⟨p1, hp1⟩ : ∃ p1, p1 = (q : Int) * step := ⟨_, rfl⟩
          obtain ⟨p2, hp2⟩ : ∃ p2, p2 = ((q : Int) + 1) * step := ⟨_, rfl⟩
          rw [← hp1, ← hp2] at HWL
          rw [← hp1] at hm1
          rw [← hp2] at hm2
          have hw1 : IntKind.i64.wrap ((q : Int) * step) = p1 := by rw [← hp1, IntKind.wrap_i64]; omega
          have hw2 : IntKind.i64.wrap (((q : Int) + 1) * step) = p2 := by rw [← hp2, IntKind.wrap_i64]; omega
          have hw3 : IntKind.i64.wrap ((q : Int) + 1) = (q : Int) + 1 := IntWalk.i64_in _ (by omega)
          have hw4 : IntKind.i64.wrap (low + p1) = low + p1 := IntWalk.i64_in _ (by omega)
          have hw5 : IntKind.i64.wrap (low + p2) = low + p2 := IntWalk.i64_in _ (by omega)
          have hw6 : IntKind.i64.wrap (low + p2 - 1) = low + p2 - 1 := IntWalk.i64_in _ (by omega)
          have hi3 : (0 : Int) ≤ (q : Int) + 1 := by omega
          have hi4 : (q : Int) + 1 < (n3 : Int) := by omega
          have hi5 : ((q : Int) + 1).toNat = q + 1 := by omega
          have g1 := gramsL_len (low + p1) (by omega) (by omega)
          have g2 := gramsL_len (low + p2 - 1) (by omega) (by omega)
          clear hp1 hp2 hx
          generalize (List.range (q + 1)).flatMap (wlineT tb low step) = txt at *
          have ha1 := add_lists (P := Tryz.prog) txt (gramsL (low + p1)) (by omega)
          have ha2 := add_lists (P := Tryz.prog) (txt ++ gramsL (low + p1)) [45] (by simp; omega)
          have ha3 := add_lists (P := Tryz.prog) (txt ++ gramsL (low + p1) ++ [45]) (gramsL (low + p2 - 1)) (by simp; omega)
          have ha4 := add_lists (P := Tryz.prog) (txt ++ gramsL (low + p1) ++ [45] ++ gramsL (low + p2 - 1)) [32] (by simp; omega)
          have ha5 := add_lists (P := Tryz.prog) (txt ++ gramsL (low + p1) ++ [45] ++ gramsL (low + p2 - 1) ++ [32]) (Lib.itoa x) (by simp; omega)
          have ha6 := add_lists (P := Tryz.prog) (txt ++ gramsL (low + p1) ++ [45] ++ gramsL (low + p2 - 1) ++ [32] ++ Lib.itoa x) [10] (by simp; omega)
          simp only [List.append_assoc, List.cons_append, List.nil_append] at ha1 ha2 ha3 ha4 ha5 ha6
          go_wp2_with fail
          refine wp_region_noPanic ?_
          refine wp_region_held_drew (S := fun U => Below w3.heap.size w3 U ∧ U.cell? ⟨b, off + (q + 1), none⟩ = some (.int .i64 x)) (by kernel_rfl) ⟨hbq.drew, hxq⟩ (fun hHeld => ?_)
          generalize wr.drew = W6 at *
          refine' takeW 0 ?_ ?_ ?_ (by kernel_rfl) (by kernel_rfl) (by kernel_rfl) (fun _ _ _ h => h) hHeld ?_
          rotate_left 2
          · (simp only [List.getElem?_toArray, List.getElem?_cons_succ, List.getElem?_cons_zero]; try rfl)
          · rfl
          · (intro w hSw; (try dsimp only at hSw); go_simp; first | done | with_reducible rfl)
          (try simp only [Act.put, List.setIfInBounds_toArray, List.set_cons_zero, List.set_cons_succ])
          refine' takeW 1 ?_ ?_ ?_ (by kernel_rfl) (by kernel_rfl) (by kernel_rfl) (fun _ _ _ h => h) hHeld ?_
          rotate_left 2
          · (simp only [List.getElem?_toArray, List.getElem?_cons_succ, List.getElem?_cons_zero]; try rfl)
          · rfl
          · (intro w hSw; (try dsimp only at hSw); go_simp; first | done | with_reducible rfl)
          (try simp only [Act.put, List.setIfInBounds_toArray, List.set_cons_zero, List.set_cons_succ])
          refine' takeW 2 ?_ ?_ ?_ (by kernel_rfl) (by kernel_rfl) (by kernel_rfl) (fun _ _ _ h => h) hHeld ?_
          rotate_left 2
          · (simp only [List.getElem?_toArray, List.getElem?_cons_succ, List.getElem?_cons_zero]; try rfl)
          · rfl
          · (intro w hSw; (try dsimp only at hSw); go_simp; first | done | with_reducible rfl)
          (try simp only [Act.put, List.setIfInBounds_toArray, List.set_cons_zero, List.set_cons_succ])
          refine' takeW 3 ?_ ?_ ?_ (by kernel_rfl) (by kernel_rfl) (by kernel_rfl) (fun _ _ _ h => h) hHeld ?_
          rotate_left 2
          · (simp only [List.getElem?_toArray, List.getElem?_cons_succ, List.getElem?_cons_zero]; try rfl)
          · rfl
          · (intro w hSw; (try dsimp only at hSw); go_simp; first | done | with_reducible rfl)
          (try simp only [Act.put, List.setIfInBounds_toArray, List.set_cons_zero, List.set_cons_succ])
          refine' takeW 4 ?_ ?_ ?_ (by kernel_rfl) (by kernel_rfl) (by kernel_rfl) (fun _ _ _ h => h) hHeld ?_
          rotate_left 2
          · (simp only [List.getElem?_toArray, List.getElem?_cons_succ, List.getElem?_cons_zero]; try rfl)
          · rfl
          · (intro w hSw; (try dsimp only at hSw); go_simp; first | done | with_reducible rfl)
          (try simp only [Act.put, List.setIfInBounds_toArray, List.set_cons_zero, List.set_cons_succ])
          refine' takeW 5 ?_ ?_ ?_ (by kernel_rfl) (by kernel_rfl) (by kernel_rfl) (fun _ _ _ h => h) hHeld ?_
          rotate_left 2
          · (simp only [List.getElem?_toArray, List.getElem?_cons_succ, List.getElem?_cons_zero]; try rfl)
          · rfl
          · (intro w hSw; (try dsimp only at hSw); go_simp; first | done | with_reducible rfl)
          (try simp only [Act.put, List.setIfInBounds_toArray, List.set_cons_zero, List.set_cons_succ])
          refine' takeW 9 ?_ ?_ ?_ (by kernel_rfl) (by kernel_rfl) (by kernel_rfl) (fun _ _ _ h => h) hHeld ?_
          rotate_left 2
          · (simp only [List.getElem?_toArray, List.getElem?_cons_succ, List.getElem?_cons_zero]; try rfl)
          · rfl
          · (intro w hSw; (try dsimp only at hSw); go_simp; first | done | with_reducible rfl)
          (try simp only [Act.put, List.setIfInBounds_toArray, List.set_cons_zero, List.set_cons_succ])
          refine' takeW 10 ?_ ?_ ?_ (by kernel_rfl) (by kernel_rfl) (by kernel_rfl) (fun _ _ _ h => h) hHeld ?_
          rotate_left 2
          · (simp only [List.getElem?_toArray, List.getElem?_cons_succ, List.getElem?_cons_zero]; try rfl)
          · rfl
          · (intro w hSw; (try dsimp only at hSw); go_simp; first | done | with_reducible rfl)
          (try simp only [Act.put, List.setIfInBounds_toArray, List.set_cons_zero, List.set_cons_succ])
          refine' takeW 11 ?_ ?_ ?_ (by kernel_rfl) (by kernel_rfl) (by kernel_rfl) (fun _ _ _ h => h) hHeld ?_
          rotate_left 2
          · (simp only [List.getElem?_toArray, List.getElem?_cons_succ, List.getElem?_cons_zero]; try rfl)
          · rfl
          · (intro w hSw; (try dsimp only at hSw); go_simp; first | done | with_reducible rfl)
          (try simp only [Act.put, List.setIfInBounds_toArray, List.set_cons_zero, List.set_cons_succ])
          refine' takeW 12 ?_ ?_ ?_ (by kernel_rfl) (by kernel_rfl) (by kernel_rfl) (fun _ _ _ h => h) hHeld ?_
          rotate_left 2
          · (simp only [List.getElem?_toArray, List.getElem?_cons_succ, List.getElem?_cons_zero]; try rfl)
          · rfl
          · (intro w hSw; (try dsimp only at hSw); go_simp; first | done | with_reducible rfl)
          (try simp only [Act.put, List.setIfInBounds_toArray, List.set_cons_zero, List.set_cons_succ])
          refine' takeW 13 ?_ ?_ ?_ (by kernel_rfl) (by kernel_rfl) (by kernel_rfl) (fun _ _ _ h => h) hHeld ?_
          rotate_left 2
          · (simp only [List.getElem?_toArray, List.getElem?_cons_succ, List.getElem?_cons_zero]; try rfl)
          · rfl
          · (intro w hSw; (try dsimp only at hSw); go_simp; first | done | with_reducible rfl)
          (try simp only [Act.put, List.setIfInBounds_toArray, List.set_cons_zero, List.set_cons_succ])
          refine' takeW 14 ?_ ?_ ?_ (by kernel_rfl) (by kernel_rfl) (by kernel_rfl) (fun _ _ _ h => h) hHeld ?_
          rotate_left 2
          · (simp only [List.getElem?_toArray, List.getElem?_cons_succ, List.getElem?_cons_zero]; try rfl)
          · rfl
          · (intro w hSw; (try dsimp only at hSw); go_simp; first | done | with_reducible rfl)
          (try simp only [Act.put, List.setIfInBounds_toArray, List.set_cons_zero, List.set_cons_succ])
          refine' takeW 15 ?_ ?_ ?_ (by kernel_rfl) (by kernel_rfl) (by kernel_rfl) (fun _ _ _ h => h) hHeld ?_
          rotate_left 2
          · (simp only [List.getElem?_toArray, List.getElem?_cons_succ, List.getElem?_cons_zero]; try rfl)
          · rfl
          · (intro w hSw; (try dsimp only at hSw); go_simp; first | done | with_reducible rfl)
          (try simp only [Act.put, List.setIfInBounds_toArray, List.set_cons_zero, List.set_cons_succ])
          refine' takeW 19 ?_ ?_ ?_ (by kernel_rfl) (by kernel_rfl) (by kernel_rfl) (fun _ _ _ h => h) hHeld ?_
          rotate_left 2
          · (simp only [List.getElem?_toArray, List.getElem?_cons_succ, List.getElem?_cons_zero]; try rfl)
          · rfl
          · (intro w hSw; (try dsimp only at hSw); go_simp; first | done | with_reducible rfl)
          (try simp only [Act.put, List.setIfInBounds_toArray, List.set_cons_zero, List.set_cons_succ])
          refine' takeW 20 ?_ ?_ ?_ (by kernel_rfl) (by kernel_rfl) (by kernel_rfl) (fun _ _ _ h => h) hHeld ?_
          rotate_left 2
          · (simp only [List.getElem?_toArray, List.getElem?_cons_succ, List.getElem?_cons_zero]; try rfl)
          · rfl
          · (intro w hSw; (try dsimp only at hSw); go_simp; first | done | with_reducible rfl)
          (try simp only [Act.put, List.setIfInBounds_toArray, List.set_cons_zero, List.set_cons_succ])
          refine' takeW 21 ?_ ?_ ?_ (by kernel_rfl) (by kernel_rfl) (by kernel_rfl) (fun _ _ _ h => h) hHeld ?_
          rotate_left 2
          · (simp only [List.getElem?_toArray, List.getElem?_cons_succ, List.getElem?_cons_zero]; try rfl)
          · rfl
          · (intro w hSw; (try dsimp only at hSw); go_simp; first | done | with_reducible rfl)
          (try simp only [Act.put, List.setIfInBounds_toArray, List.set_cons_zero, List.set_cons_succ])
          refine' takeW 22 ?_ ?_ ?_ (by kernel_rfl) (by kernel_rfl) (by kernel_rfl) (fun _ _ _ h => h) hHeld ?_
          rotate_left 2
          · (simp only [List.getElem?_toArray, List.getElem?_cons_succ, List.getElem?_cons_zero]; try rfl)
          · rfl
          · (intro w hSw; (try dsimp only at hSw); go_simp; first | done | with_reducible rfl)
          (try simp only [Act.put, List.setIfInBounds_toArray, List.set_cons_zero, List.set_cons_succ])
          refine' takeW 23 ?_ ?_ ?_ (by kernel_rfl) (by kernel_rfl) (by kernel_rfl) (fun _ _ _ h => h) hHeld ?_
          rotate_left 2
          · (simp only [List.getElem?_toArray, List.getElem?_cons_succ, List.getElem?_cons_zero]; try rfl)
          · rfl
          · (intro w hSw; (try dsimp only at hSw); go_simp; first | done | with_reducible rfl)
          (try simp only [Act.put, List.setIfInBounds_toArray, List.set_cons_zero, List.set_cons_succ])
          refine wpAnyH_ready (rs := [6]) (by kernel_rfl) (by simp) ?_
          refine' AllReadyH.cons ?_ (fun K hK => ?_) AllReadyH.nil
          rotate_left 1
          · (simp only [List.getElem?_toArray, List.getElem?_cons_succ, List.getElem?_cons_zero]; try rfl)
          (try go_simp)
          go_at_call 60
          refine (rgramsI _ _ (by omega) (by omega)).mono ?_
          rintro e wz ⟨rfl, hbz⟩
          (try go_simp)
          refine hK.out _ _ ?_ (fun hHeld => ?_)
          · exact ⟨below_keep' hHeld.1 hbz, (hbz.cell (p := ⟨b, off + (q + 1), none⟩) (Nat.lt_of_lt_of_le hbb hHeld.1.size)).trans hHeld.2⟩
          clear hK K
          (try simp only [Act.put, List.setIfInBounds_toArray, List.set_cons_zero, List.set_cons_succ])
          refine' takeW 7 ?_ ?_ ?_ (by kernel_rfl) (by kernel_rfl) (by kernel_rfl) (fun _ _ _ h => h) hHeld ?_
          rotate_left 2
          · (simp only [List.getElem?_toArray, List.getElem?_cons_succ, List.getElem?_cons_zero]; try rfl)
          · rfl
          · (intro w hSw; (try dsimp only at hSw); go_simp; first | done | with_reducible rfl)
          (try simp only [Act.put, List.setIfInBounds_toArray, List.set_cons_zero, List.set_cons_succ])
          refine' takeW 8 ?_ ?_ ?_ (by kernel_rfl) (by kernel_rfl) (by kernel_rfl) (fun _ _ _ h => h) hHeld ?_
          rotate_left 2
          · (simp only [List.getElem?_toArray, List.getElem?_cons_succ, List.getElem?_cons_zero]; try rfl)
          · rfl
          · (intro w hSw; (try dsimp only at hSw); go_simp; first | done | with_reducible rfl)
          (try simp only [Act.put, List.setIfInBounds_toArray, List.set_cons_zero, List.set_cons_succ])
          refine wpAnyH_ready (rs := [16]) (by kernel_rfl) (by simp) ?_
          refine' AllReadyH.cons ?_ (fun K hK => ?_) AllReadyH.nil
          rotate_left 1
          · (simp only [List.getElem?_toArray, List.getElem?_cons_succ, List.getElem?_cons_zero]; try rfl)
          (try go_simp)
          go_at_call 60
          refine (rgramsI _ _ (by omega) (by omega)).mono ?_
          rintro e wz ⟨rfl, hbz⟩
          (try go_simp)
          refine hK.out _ _ ?_ (fun hHeld => ?_)
          · exact ⟨below_keep' hHeld.1 hbz, (hbz.cell (p := ⟨b, off + (q + 1), none⟩) (Nat.lt_of_lt_of_le hbb hHeld.1.size)).trans hHeld.2⟩
          clear hK K
          (try simp only [Act.put, List.setIfInBounds_toArray, List.set_cons_zero, List.set_cons_succ])
          refine' takeW 17 ?_ ?_ ?_ (by kernel_rfl) (by kernel_rfl) (by kernel_rfl) (fun _ _ _ h => h) hHeld ?_
          rotate_left 2
          · (simp only [List.getElem?_toArray, List.getElem?_cons_succ, List.getElem?_cons_zero]; try rfl)
          · rfl
          · (intro w hSw; (try dsimp only at hSw); go_simp; first | done | with_reducible rfl)
          (try simp only [Act.put, List.setIfInBounds_toArray, List.set_cons_zero, List.set_cons_succ])
          refine' takeW 18 ?_ ?_ ?_ (by kernel_rfl) (by kernel_rfl) (by kernel_rfl) (fun _ _ _ h => h) hHeld ?_
          rotate_left 2
          · (simp only [List.getElem?_toArray, List.getElem?_cons_succ, List.getElem?_cons_zero]; try rfl)
          · rfl
          · (intro w hSw; (try dsimp only at hSw); go_simp; first | done | with_reducible rfl)
          (try simp only [Act.put, List.setIfInBounds_toArray, List.set_cons_zero, List.set_cons_succ])
          refine wpAnyH_ready (rs := [24]) (by kernel_rfl) (by simp) ?_
          refine' AllReadyH.cons ?_ (fun K hK => ?_) AllReadyH.nil
          rotate_left 1
          · (simp only [List.getElem?_toArray, List.getElem?_cons_succ, List.getElem?_cons_zero]; try rfl)
          (try go_simp)
          go_at_call 43
          refine (rdec_any _ _ (by omega) (by omega)).mono ?_
          rintro e wz ⟨rfl, hbz⟩
          (try go_simp)
          refine hK.out _ _ ?_ (fun hHeld => ?_)
          · exact ⟨below_keep' hHeld.1 hbz, (hbz.cell (p := ⟨b, off + (q + 1), none⟩) (Nat.lt_of_lt_of_le hbb hHeld.1.size)).trans hHeld.2⟩
          clear hK K
          (try simp only [Act.put, List.setIfInBounds_toArray, List.set_cons_zero, List.set_cons_succ])
          refine' takeW 25 ?_ ?_ ?_ (by kernel_rfl) (by kernel_rfl) (by kernel_rfl) (fun _ _ _ h => h) hHeld ?_
          rotate_left 2
          · (simp only [List.getElem?_toArray, List.getElem?_cons_succ, List.getElem?_cons_zero]; try rfl)
          · rfl
          · (intro w hSw; (try dsimp only at hSw); go_simp; first | done | with_reducible rfl)
          (try simp only [Act.put, List.setIfInBounds_toArray, List.set_cons_zero, List.set_cons_succ])
          refine' takeW 26 ?_ ?_ ?_ (by kernel_rfl) (by kernel_rfl) (by kernel_rfl) (fun _ _ _ h => h) hHeld ?_
          rotate_left 2
          · (simp only [List.getElem?_toArray, List.getElem?_cons_succ, List.getElem?_cons_zero]; try rfl)
          · rfl
          · (intro w hSw; (try dsimp only at hSw); go_simp; first | done | with_reducible rfl)
          (try simp only [Act.put, List.setIfInBounds_toArray, List.set_cons_zero, List.set_cons_succ])
          refine' takeW 27 ?_ ?_ ?_ (by kernel_rfl) (by kernel_rfl) (by kernel_rfl) (fun _ _ _ h => h) hHeld ?_
          rotate_left 2
          · (simp only [List.getElem?_toArray, List.getElem?_cons_succ, List.getElem?_cons_zero]; try rfl)
          · rfl
          · (intro w hSw; (try dsimp only at hSw); go_simp; first | done | with_reducible rfl)
          (try simp only [Act.put, List.setIfInBounds_toArray, List.set_cons_zero, List.set_cons_succ])
          refine wpAnyH_done (by kernel_rfl) ?_ _
          refine NoPanic.normal ?_
          have hbf := hHeld.1
          go_wp2_with fail
          go_roundw
          case rel => exact ⟨q + 1, by omega, by go_num, by rw [HFS.out, HWL.out]; simp, hbf⟩
          case measure => simp [intOf]; omega
        · obtain rfl : q = nn := by omega
          have HWL : Hid (wlineT tb low step (q + 1) = [97, 98, 111, 118, 101, 32] ++ Lib.itoa x ++ [10]) := by
            show _ = _; unfold wlineT classT
            rw [List.getD_eq_getElem?_getD, hx, if_neg (by omega), if_pos (by have := HTL.out; have := HN3.out; omega)]; rfl
          have HH : Hid (weightsL tb low step = (List.range (q + 1 + 1)).flatMap (wlineT tb low step)) := by show _ = _; unfold weightsL; rw [HTL.out, HN3.out]
          clear hx
          generalize (List.range (q + 1)).flatMap (wlineT tb low step) = txt at *
          have ha1 := add_lists (P := Tryz.prog) txt [97, 98, 111, 118, 101, 32] (by simp; omega)
          have ha2 := add_lists (P := Tryz.prog) (txt ++ [97, 98, 111, 118, 101, 32]) (Lib.itoa x) (by simp; omega)
          have ha3 := add_lists (P := Tryz.prog) (txt ++ [97, 98, 111, 118, 101, 32] ++ Lib.itoa x) [10] (by simp; omega)
          simp only [List.append_assoc, List.cons_append, List.nil_append] at ha1 ha2 ha3
          go_wp2_with fail
          refine (rdec_any _ _ (by omega) (by omega)).mono ?_; rintro e w5 ⟨rfl, hb5⟩
          go_wp2_with fail
          go_ret2
          exact ⟨by rw [HTX.out, HH.out, HFS.out, HWL.out, HW.out, HE2.out]; simp, below_keep' hb3 (below_keep' hbq hb5)⟩
end Go.Proofs.YtdokpmfejibdlaaGreatDoor
