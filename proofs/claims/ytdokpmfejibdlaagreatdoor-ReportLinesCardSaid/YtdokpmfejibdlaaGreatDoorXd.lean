/- Chapter 54: report.Matrix. -/
import Derived.Test.YtdokpmfejibdlaaGreatDoorWz
set_option linter.unusedSimpArgs false
set_option linter.unusedVariables false
namespace Go.Proofs.YtdokpmfejibdlaaGreatDoor
open Go.RowKit

/-- A report handed back: its text, its code. -/
def RepW (w : World) (t : List UInt8) (code : Int) (e : Ending) (w' : World) : Prop := e = .returned (.tuple #[.string ⟨t.toArray⟩, .int .i64 code]) ∧ Below w.heap.size w w'
def repL (xs : List Spm) (t : List UInt8) : List UInt8 := if grE xs = 0 then t else []
theorem spm_ok {xs : List Spm} (h : grE xs = 0) : xs.length ≤ 64 ∧ ∀ x ∈ xs, (1 ≤ x.obv ∧ x.obv ≤ 999) ∧ (1 ≤ x.rev ∧ x.rev ≤ 999) ∧ (1 ≤ x.os ∧ x.os ≤ 9) ∧ (1 ≤ x.rs ∧ x.rs ≤ 9) ∧ (0 ≤ x.ax ∧ x.ax < 12) ∧ (1 ≤ x.wt ∧ x.wt ≤ 200000) := by
  obtain ⟨h0, _, _⟩ := grE_chk h
  obtain ⟨h64, hv, _⟩ := (chk_zero xs).1 h0
  refine ⟨h64, fun x hx => ?_⟩
  obtain ⟨a1, a2, a3, a4, a5, a6, a7⟩ := (validS_iff x).1 (hv x hx)
  exact ⟨a1, a2, a3, a4, ⟨a6.1, by omega⟩, a7⟩
theorem hrsW_get {xs : List Int} {h : Nat} {x : Int} (hx : (hrsW xs)[h]? = some x) : x = (xs.countP (fun y => y == (h : Int)) : Nat) := by
  unfold hrsW at hx
  rw [List.getElem?_map] at hx
  by_cases hh : h < 12
  · rw [List.getElem?_range hh] at hx
    exact (Option.some.inj hx).symm
  · rw [List.getElem?_eq_none (by simp; omega)] at hx
    cases hx
theorem hourT_len (xs : List Int) (h : xs.length ≤ 64) (i : Nat) (hi : i < 12) : (hourT54 xs i).length ≤ 50 := by
  have h1 := itoa21 ((i : Int) + 1) (by omega) (by omega)
  have h2 := List.countP_le_length (p := fun x => x == (((i + 1) % 12 : Nat) : Int)) (l := xs)
  have h3 := itoa21 (xs.countP (fun x => x == (((i + 1) % 12 : Nat) : Int)) : Nat) (by omega) (by omega)
  unfold hourT54
  split
  · simp only [List.length_append, List.length_cons, List.length_nil]; omega
  · simp
set_option maxRecDepth 100000 in
set_option maxHeartbeats 4000000 in
theorem raxes_any (A : Option Addr) (len cap : Nat) (xs : List Spm) (w : World) (hE : Env w) (hlen : len ≤ 1000000) (hS : Sl w 0 w.heap.size 7 encS A len xs) :
    Calls Tryz.prog 20 #[.slice A len cap] w (RepW w (repL xs (hoursL (xs.map Spm.ax))) (grE xs)) := by
  have HO := Lib.hid (lof_any A len cap xs w hlen hS)
  have HS : Hid (∀ W, Below w.heap.size w W → Sl W 0 W.heap.size 7 encS A len xs) := fun W hW => hS.up hW (Nat.le_refl _) (Nat.le_refl _)
  have HL := Lib.hid hS.len
  clear hS
  obtain ⟨i0, hi, hz0, hz1, hz2⟩ := info_parts Tryz.infoI
  go_enter Tryz.func20, Tryz.ntmps20
  go_wp2_with fail
  refine HO.out.mono ?_; rintro e w1 ⟨⟨A1, n1, c1, B1, m1, d1, C1, k1, l1, rfl, hn1, hm1, hk1, hG1⟩, hb1⟩
  clear hG1
  by_cases he : ¬ grE xs = 0
  · have hd : (grE xs != 0) = true := by simpa using he
    have HT : Hid (repL xs (hoursL (xs.map Spm.ax)) = []) := if_neg he
    generalize grE xs = code at *
    clear he
    go_wp2_with fail
    go_ret2
    exact ⟨by rw [HT.out]; rfl, hb1.alloc hb1.size _⟩
  replace he := Classical.not_not.1 he
  have HT : Hid (repL xs (hoursL (xs.map Spm.ax)) = hoursL (xs.map Spm.ax)) := if_pos he
  obtain ⟨h64, hok⟩ := spm_ok he
  have HOK : Hid (∀ x ∈ xs.map Spm.ax, 0 ≤ x ∧ x < 12) := fun x hx => by obtain ⟨s, hs, rfl⟩ := List.mem_map.1 hx; exact (hok s hs).2.2.2.2.1
  have hl64 : len ≤ 64 := by have := HL.out; omega
  have HLA : Hid ((xs.map Spm.ax).length ≤ 64) := by show _ ≤ _; rw [List.length_map]; exact h64
  rw [he]
  have HE := Lib.hid he
  clear he hok h64
  go_wp2_with fail
  have hb := hb1.alloc hb1.size (.cells #[.slice A1 n1 c1, .slice B1 m1 d1, .slice C1 k1 l1] 52)
  clear hb1
  generalize w1.alloc (.cells #[.slice A1 n1 c1, .slice B1 m1 d1, .slice C1 k1 l1] 52) = w2 at *
  go_loopw [6, 24] (fun v i wr => ∃ j : Nat, j ≤ len ∧ i = .int .i64 (j : Int) ∧ wr.ownsRow w.heap.size 3 1 v j (((xs.take j).map Spm.ax).flatMap encI) ∧ Below w.heap.size w wr) (fun _ i _ => len - (intOf i).toNat)
  case atStart => exact ⟨0, by omega, rfl, World.ownsRow_nil _ _ _ _, hb⟩
  case round =>
    clear hb
    obtain ⟨j, hj, rfl, hown, hbr⟩ := hrel
    have hbz := hbr.size
    by_cases hlt : j < len
    · obtain ⟨b, off, x, rfl, hbb, hx, x0, x1, x2, x3, x4, x5, x6⟩ := (HS.out _ hbr).sp hlt
      have HX : Hid ((xs.take (j + 1)).map Spm.ax = (xs.take j).map Spm.ax ++ [x.ax]) := by show _ = _; rw [takeSnocW hx, List.map_append]; rfl
      clear hx
      generalize (xs.take j).map Spm.ax = ps at *
      go_wp2_with (at_builtin; refine wpList_append_own _ rfl _ _ 36 rfl w.heap.size 3 i0 (.int .i64 0) 1 8 Tryz.underlying36 hi hz0 hz1 hz2 rfl (by decide) _ _ _ rfl ((hown.alloc _).alloc _) ⟨wr.heap.size + 1, 0, none⟩ 1 1 [.int .i64 x.ax] rfl rfl ?c1 ?c2 ?c3 ?c4 ?c5 ?_)
      case c1 => exact cell_list_at (by simp) _ _
      case c2 => exact encI_one x.ax
      case c3 => unfold maxLen; omega
      case c4 => omega
      case c5 => simp; omega
      intro v' w5 hown' hgrow _
      have hb6 : Below w.heap.size w w5 := Below.grown ((hbr.alloc hbz _).alloc (by simp; omega) _) hgrow (by simp; omega) (fun g hg => (hown.lt g hg).1)
      clear hgrow hown hbr
      go_wp2_with fail
      exact ⟨⟨j + 1, by omega, by go_num, by rw [HX.out, List.flatMap_append]; exact hown', hb6⟩, by simp [intOf]; omega⟩
    · obtain rfl : j = len := by omega
      rw [take_all HL.out] at hown
      obtain ⟨Ao, co, rfl, hco⟩ := own_form hown
      have HCN := Lib.hid (counts_any Ao j co (xs.map Spm.ax) wr hl64 (Sl.of_own (k := 1) (enc := encI) (fun _ => rfl) hown (by rw [List.length_map]; exact HL.out)).any HOK.out)
      clear hown
      generalize xs.map Spm.ax = hs at *
      go_wp2_with fail
      refine HCN.out.mono ?_; rintro e w3 ⟨⟨A3, c3, rfl, hS3⟩, hb3⟩
      replace hb3 := below_keep' hbr hb3
      have HSC : Hid (∀ W, Below w3.heap.size w3 W → Sl W 0 W.heap.size 1 encI A3 12 (hrsW hs)) := fun W hW => hS3.up hW (Nat.le_refl _) (Nat.le_refl _)
      have hRep := Rep.start w3
      clear hS3 hbr HCN
      go_wp2_with fail
      go_loopw [12] (fun i wq => ∃ q : Nat, q ≤ 12 ∧ i = .int .i64 ((q : Int) + 1) ∧ Rep w3 wq w3.heap.size ((List.range q).flatMap (hourT54 hs))) (fun i _ => 13 - (intOf i).toNat)
      case atStart => exact ⟨0, by omega, rfl, hRep⟩
      case round =>
        clear hRep
        obtain ⟨q, hq, rfl, hRep⟩ := hrel
        rename World => wq
        by_cases hlt2 : q < 12
        · have hmod : (q + 1) % 12 < 12 := Nat.mod_lt _ (by omega)
          obtain ⟨b, off, x, rfl, hbb, hx, x0⟩ := (HSC.out _ hRep.base).in_ hmod
          have hxv := hrsW_get hx
          have hft := flatR_len (m := 50) (hourT54 hs) q (fun i hi => hourT_len hs HLA.out i (by omega))
          have hcl := List.countP_le_length (p := fun y => y == (((q + 1) % 12 : Nat) : Int)) (l := hs)
          have hcl2 := HLA.out
          have HFS := Lib.hid (flatR_succ (hourT54 hs) q)
          have HQ : Hid (hourT54 hs q = if 0 < hs.countP (fun y => y == (((q + 1) % 12 : Nat) : Int)) then Lib.itoa ((q : Int) + 1) ++ [104, 32] ++ Lib.itoa (hs.countP (fun y => y == (((q + 1) % 12 : Nat) : Int)) : Nat) ++ [10] else []) := rfl
          generalize hs.countP (fun y => y == (((q + 1) % 12 : Nat) : Int)) = cn at *
          subst hxv
          clear hx
          have hm1 : ((q : Int) + 1).tmod 12 = (((q + 1) % 12 : Nat) : Int) := by rw [Int.tmod_eq_emod_of_nonneg (by omega)]; omega
          have hm2 : IntKind.i64.wrap (((q + 1) % 12 : Nat) : Int) = (((q + 1) % 12 : Nat) : Int) := by rw [IntKind.wrap_i64]; omega
          generalize (q + 1) % 12 = hm at *
          have hi1 := itoa21 ((q : Int) + 1) (by omega) (by omega)
          have hi2 := itoa21 ((cn : Nat) : Int) (by omega) (by omega)
          have HIT : Hid (∀ x W, 0 ≤ x → x ≤ 100000000 → Below w3.heap.size w3 W → Calls Tryz.prog 37 #[.int .i64 x] W fun e w' => e = .returned (.string ⟨(Lib.itoa x).toArray⟩) ∧ Below W.heap.size W w') := fun x W g1 g2 hW => itoa_any x W (by omega) (by omega) (hE.step (below_keep' hb3 hW))
          by_cases hc : 0 < cn
          · rw [if_pos hc] at HQ
            have ha1 := add_lists (P := Tryz.prog) (Lib.itoa ((q : Int) + 1)) [104, 32] (by simp; omega)
            have ha2 := add_lists (P := Tryz.prog) (Lib.itoa ((q : Int) + 1) ++ [104, 32]) (Lib.itoa ((cn : Nat) : Int)) (by simp; omega)
            have ha3 := add_lists (P := Tryz.prog) (Lib.itoa ((q : Int) + 1) ++ [104, 32] ++ Lib.itoa ((cn : Nat) : Int)) [10] (by simp; omega)
            simp only [List.append_assoc, List.cons_append, List.nil_append] at ha1 ha2 ha3
            go_wp2_with fail
            refine (HIT.out _ _ (by omega) (by omega) hRep.base).mono ?_; rintro e w4 ⟨rfl, hb4⟩
            have hRep4 := hRep.up hb4
            go_wp2_with fail
            refine (HIT.out _ _ (by omega) (by omega) hRep4.base).mono ?_; rintro e w5 ⟨rfl, hb5⟩
            have hRep5 := hRep4.up hb5
            clear hRep hRep4 hb4 hb5
            go_wp2_with fail
            refine (hRep5.wstr _ (by simp only [List.length_append, List.length_cons, List.length_nil]; omega)).mono ?_; rintro e w6 ⟨rfl, hRep6, _⟩
            go_wp2_with fail
            exact ⟨⟨q + 1, by omega, by go_num, by rw [HFS.out, HQ.out]; simpa using hRep6⟩, by simp [intOf]; omega⟩
          · rw [if_neg hc] at HQ
            obtain rfl : cn = 0 := by omega
            go_wp2_with fail
            exact ⟨⟨q + 1, by omega, by go_num, by rw [HFS.out, HQ.out, List.append_nil]; exact hRep⟩, by simp [intOf]; omega⟩
        · obtain rfl : q = 12 := by omega
          have HH : Hid (hoursL hs = (List.range 12).flatMap (hourT54 hs)) := rfl
          generalize (List.range 12).flatMap (hourT54 hs) = txt at *
          go_wp2_with fail
          refine hRep.fin.mono ?_; rintro e w4 ⟨rfl, hb4⟩
          go_wp2_with fail
          go_ret2
          exact ⟨by rw [HT.out, HH.out, HE.out]; rfl, below_keep' hb3 hb4⟩
end Go.Proofs.YtdokpmfejibdlaaGreatDoor
set_option linter.unusedSimpArgs false
set_option linter.unusedVariables false
namespace Go.Proofs.YtdokpmfejibdlaaGreatDoor
open Go.RowKit

def wtE (xs : List Spm) (low step n : Int) : Int := if grE xs = 0 then tableE low step n else grE xs
def wtL (xs : List Spm) (low step n : Int) : List UInt8 := if wtE xs low step n = 0 then weightsL (tableW (xs.map Spm.wt) low step n.toNat) low step else []
theorem tableW_len (xs : List Int) (low step : Int) (n : Nat) : (tableW xs low step n).length = n + 2 := by unfold tableW; simp
theorem tableW_bd (xs : List Int) (low step : Int) (n : Nat) : ∀ x ∈ tableW xs low step n, 0 ≤ x ∧ x ≤ xs.length := by
  have hw : ∀ lo hi, (0 : Int) ≤ (withinW xs lo hi : Nat) ∧ ((withinW xs lo hi : Nat) : Int) ≤ xs.length := fun lo hi => by
    have := withinT_le xs lo hi; omega
  intro x hx
  unfold tableW at hx
  rcases List.mem_append.1 hx with hx | hx
  · rcases List.mem_cons.1 hx with rfl | hx
    · exact hw _ _
    · obtain ⟨k, _, rfl⟩ := List.mem_map.1 hx
      exact hw _ _
  · rw [List.mem_singleton] at hx
    subst hx
    exact hw _ _
theorem classT_len (low step : Int) (n i : Nat) (h1 : 0 ≤ low) (h2 : low ≤ 200000) (h3 : 1 ≤ step) (h4 : step ≤ 10000) (hi : i ≤ 70) : (classT low step n i).length ≤ 60 := by
  unfold classT
  split
  · simp
  · split
    · simp
    · have hm1 : 0 ≤ ((i : Int) - 1) * step ∧ ((i : Int) - 1) * step ≤ 70 * 10000 := ⟨Int.mul_nonneg (by omega) (by omega), Int.mul_le_mul (by omega) h4 (by omega) (by omega)⟩
      have hm2 : 1 ≤ (i : Int) * step ∧ (i : Int) * step ≤ 70 * 10000 := ⟨by
        have : (1 : Int) * 1 ≤ (i : Int) * step := Int.mul_le_mul (by omega) h3 (by omega) (by omega)
        omega, Int.mul_le_mul (by omega) h4 (by omega) (by omega)⟩
      have g1 := gramsL_len (low + ((i : Int) - 1) * step) (by omega) (by omega)
      have g2 := gramsL_len (low + (i : Int) * step - 1) (by omega) (by omega)
      simp only [List.length_append, List.length_cons, List.length_nil]
      omega
set_option maxRecDepth 100000 in
set_option maxHeartbeats 4000000 in
theorem rweights_any (A : Option Addr) (len cap : Nat) (xs : List Spm) (low step n : Int) (w : World) (hE : Env w) (hlen : len ≤ 1000000) (hS : Sl w 0 w.heap.size 7 encS A len xs) :
    Calls Tryz.prog 22 #[.slice A len cap, .int .i64 low, .int .i64 step, .int .i64 n] w (RepW w (wtL xs low step n) (wtE xs low step n)) := by
  have HO := Lib.hid (lof_any A len cap xs w hlen hS)
  have HS : Hid (∀ W, Below w.heap.size w W → Sl W 0 W.heap.size 7 encS A len xs) := fun W hW => hS.up hW (Nat.le_refl _) (Nat.le_refl _)
  have HL := Lib.hid hS.len
  clear hS
  obtain ⟨i0, hi, hz0, hz1, hz2⟩ := info_parts Tryz.infoI
  go_enter Tryz.func22, Tryz.ntmps22
  go_wp2_with fail
  refine HO.out.mono ?_; rintro e w1 ⟨⟨A1, n1, c1, B1, m1, d1, C1, k1, l1, rfl, hn1, hm1, hk1, hG1⟩, hb1⟩
  clear hG1
  by_cases he : ¬ grE xs = 0
  · have hd : (grE xs != 0) = true := by simpa using he
    have HW : Hid (wtE xs low step n = grE xs) := if_neg he
    have HT : Hid (wtL xs low step n = []) := if_neg (by rw [HW.out]; exact he)
    generalize grE xs = code at *
    clear he
    go_wp2_with fail
    go_ret2
    exact ⟨by rw [HT.out, HW.out]; rfl, hb1.alloc hb1.size _⟩
  replace he := Classical.not_not.1 he
  have HW : Hid (wtE xs low step n = tableE low step n) := if_pos he
  obtain ⟨h64, hok⟩ := spm_ok he
  have HOK : Hid (∀ x ∈ xs.map Spm.wt, 1 ≤ x ∧ x ≤ 200000) := fun x hx => by obtain ⟨s, hs, rfl⟩ := List.mem_map.1 hx; exact (hok s hs).2.2.2.2.2
  have hl64 : len ≤ 64 := by have := HL.out; omega
  have HLA : Hid ((xs.map Spm.wt).length ≤ 64) := by show _ ≤ _; rw [List.length_map]; exact h64
  rw [he]
  clear he hok h64
  go_wp2_with fail
  have hb := hb1.alloc hb1.size (.cells #[.slice A1 n1 c1, .slice B1 m1 d1, .slice C1 k1 l1] 52)
  clear hb1
  generalize w1.alloc (.cells #[.slice A1 n1 c1, .slice B1 m1 d1, .slice C1 k1 l1] 52) = w2 at *
  go_loopw [12, 31] (fun v i wr => ∃ j : Nat, j ≤ len ∧ i = .int .i64 (j : Int) ∧ wr.ownsRow w.heap.size 3 1 v j (((xs.take j).map Spm.wt).flatMap encI) ∧ Below w.heap.size w wr) (fun _ i _ => len - (intOf i).toNat)
  case atStart => exact ⟨0, by omega, rfl, World.ownsRow_nil _ _ _ _, hb⟩
  case round =>
    clear hb
    obtain ⟨j, hj, rfl, hown, hbr⟩ := hrel
    have hbz := hbr.size
    by_cases hlt : j < len
    · obtain ⟨b, off, x, rfl, hbb, hx, x0, x1, x2, x3, x4, x5, x6⟩ := (HS.out _ hbr).sp hlt
      have HX : Hid ((xs.take (j + 1)).map Spm.wt = (xs.take j).map Spm.wt ++ [x.wt]) := by show _ = _; rw [takeSnocW hx, List.map_append]; rfl
      clear hx
      generalize (xs.take j).map Spm.wt = ps at *
      go_wp2_with (at_builtin; refine wpList_append_own _ rfl _ _ 36 rfl w.heap.size 3 i0 (.int .i64 0) 1 8 Tryz.underlying36 hi hz0 hz1 hz2 rfl (by decide) _ _ _ rfl ((hown.alloc _).alloc _) ⟨wr.heap.size + 1, 0, none⟩ 1 1 [.int .i64 x.wt] rfl rfl ?c1 ?c2 ?c3 ?c4 ?c5 ?_)
      case c1 => exact cell_list_at (by simp) _ _
      case c2 => exact encI_one x.wt
      case c3 => unfold maxLen; omega
      case c4 => omega
      case c5 => simp; omega
      intro v' w5 hown' hgrow _
      have hb6 : Below w.heap.size w w5 := Below.grown ((hbr.alloc hbz _).alloc (by simp; omega) _) hgrow (by simp; omega) (fun g hg => (hown.lt g hg).1)
      clear hgrow hown hbr
      go_wp2_with fail
      exact ⟨⟨j + 1, by omega, by go_num, by rw [HX.out, List.flatMap_append]; exact hown', hb6⟩, by simp [intOf]; omega⟩
    · obtain rfl : j = len := by omega
      rw [take_all HL.out] at hown
      obtain ⟨Ao, co, rfl, hco⟩ := own_form hown
      have HCN := Lib.hid (ltable_any Ao j co (xs.map Spm.wt) low step n wr hl64 (Sl.of_own (k := 1) (enc := encI) (fun _ => rfl) hown (by rw [List.length_map]; exact HL.out)).any HOK.out)
      clear hown
      have HWT : Hid (wtL xs low step n = if tableE low step n = 0 then weightsL (tableW (xs.map Spm.wt) low step n.toNat) low step else []) := by show _ = _; unfold wtL; rw [HW.out]
      generalize xs.map Spm.wt = hs at *
      rcases tableE_or low step n with ⟨he2, h1, h2, h3, h4, h5, h6⟩ | ⟨he2, _⟩
      rotate_left 1
      · have HE2 := Lib.hid he2
        have HTX : Hid (wtL xs low step n = []) := by show _ = _; rw [HWT.out, if_neg (by rw [he2]; decide)]
        rw [he2] at HCN
        clear he2
        go_wp2_with fail
        refine HCN.out.mono ?_; rintro e w3 ⟨⟨A3, n3, c3, rfl, hn3, hS3⟩, hb3⟩
        replace hb3 := below_keep' hbr hb3
        go_wp2_with fail
        go_ret2
        exact ⟨by rw [HTX.out, HW.out, HE2.out]; rfl, hb3⟩
      have HE2 := Lib.hid he2
      obtain ⟨nn, rfl⟩ := Int.eq_ofNat_of_zero_le (show 0 ≤ n by omega)
      have hTR : tableR hs low step nn = tableW hs low step nn := by unfold tableR; rw [if_pos he2, Int.toNat_natCast]
      have HTX : Hid (wtL xs low step nn = weightsL (tableW hs low step nn) low step) := by show _ = _; rw [HWT.out, if_pos he2, Int.toNat_natCast]
      rw [he2, hTR] at HCN
      have htl := tableW_len hs low step nn
      have HTB := Lib.hid (tableW_bd hs low step nn)
      clear he2 hTR HWT
      generalize tableW hs low step nn = tb at *
      go_wp2_with fail
      refine HCN.out.mono ?_; rintro e w3 ⟨⟨A3, n3, c3, rfl, hn3, hS3⟩, hb3⟩
      replace hb3 := below_keep' hbr hb3
      have HN3 : Hid (n3 = nn + 2) := by show _ = _; rw [← hS3.len, htl]
      have hn3a : 3 ≤ n3 ∧ n3 ≤ 66 := by have := HN3.out; omega
      have HTL : Hid (tb.length = n3) := by show _ = _; rw [htl, HN3.out]
      clear htl
      have HSC : Hid (∀ W, Below w3.heap.size w3 W → Sl W 0 W.heap.size 1 encI A3 n3 tb) := fun W hW => hS3.up hW (Nat.le_refl _) (Nat.le_refl _)
      have hRep := Rep.start w3
      clear hS3 hbr HCN
      go_wp2_with fail
      go_loopw [54] (fun i wq => ∃ q : Nat, q ≤ n3 ∧ i = .int .i64 (q : Int) ∧ Rep w3 wq w3.heap.size ((List.range q).flatMap (wlineT tb low step))) (fun i _ => n3 - (intOf i).toNat)
      case atStart => exact ⟨0, by omega, rfl, hRep⟩
      case round =>
        clear hRep
        obtain ⟨q, hq, rfl, hRep⟩ := hrel
        rename World => wq
        by_cases hlt2 : q < n3
        · obtain ⟨b, off, x, rfl, hbb, hx, x0⟩ := (HSC.out _ hRep.base).in_ hlt2
          obtain ⟨hx1, hx2⟩ := HTB.out x (List.mem_of_getElem? hx)
          have hla := HLA.out
          have hi2 := itoa21 x (by omega) (by omega)
          have HFS := Lib.hid (flatR_succ (wlineT tb low step) q)
          have hcL := classT_len low step tb.length q h1 h2 h3 h4 (by omega)
          have htl := HTL.out
          have HWL : Hid (wlineT tb low step q = classT low step tb.length q ++ [32] ++ Lib.itoa x ++ [10]) := by
            show _ = _; unfold wlineT
            rw [List.getD_eq_getElem?_getD, hx]; rfl
          have hft := flatR_len (m := 90) (wlineT tb low step) q (fun i hi => by
            have hil : i < tb.length := by omega
            have h9 := classT_len low step tb.length i h1 h2 h3 h4 (by omega)
            have h8 := HTB.out _ (List.getElem_mem hil)
            have h7 := itoa21 tb[i] (by omega) (by omega)
            unfold wlineT
            rw [List.getD_eq_getElem?_getD, List.getElem?_eq_getElem hil]
            simp only [List.length_append, List.length_cons, List.length_nil, Option.getD_some]
            omega)
          rw [htl] at HWL hcL
          clear htl
          have HCT : Hid (classT low step n3 q = if q = 0 then [98, 101, 108, 111, 119] else if q = n3 - 1 then [97, 98, 111, 118, 101] else gramsL (low + ((q : Int) - 1) * step) ++ [45] ++ gramsL (low + (q : Int) * step - 1)) := rfl
          have HIT : Hid (∀ W, Below w3.heap.size w3 W → Calls Tryz.prog 37 #[.int .i64 x] W fun e w' => e = .returned (.string ⟨(Lib.itoa x).toArray⟩) ∧ Below W.heap.size W w') := fun W hW => itoa_any x W (by omega) (by omega) (hE.step (below_keep' hb3 hW))
          have ha1 := add_lists (P := Tryz.prog) (classT low step n3 q) [32] (by simp; omega)
          have ha2 := add_lists (P := Tryz.prog) (classT low step n3 q ++ [32]) (Lib.itoa x) (by simp; omega)
          have ha3 := add_lists (P := Tryz.prog) (classT low step n3 q ++ [32] ++ Lib.itoa x) [10] (by simp; omega)
          generalize hct : classT low step n3 q = ct at *
          clear hx
          have hle := hcL
          by_cases hq0 : q = 0
          · have hc1 : ct = [98, 101, 108, 111, 119] := by rw [HCT.out, if_pos hq0]
            subst hc1
            have hne0 : ((q : Int) == 0) = true := by simpa using hq0
            clear hct HCT hcL hle hq0
            simp only [List.append_assoc, List.cons_append, List.nil_append] at ha1 ha2 ha3
            go_wp2_with fail
            refine (HIT.out _ hRep.base).mono ?_; rintro e w5 ⟨rfl, hb5⟩
            have hRep5 := hRep.up hb5
            go_wp2_with fail
            refine (hRep5.wstr _ (by simp only [List.length_append, List.length_cons, List.length_nil]; omega)).mono ?_; rintro e w6 ⟨rfl, hRep6, _⟩
            go_wp2_with fail
            exact ⟨⟨q + 1, by omega, by go_num, by rw [HFS.out, HWL.out]; simpa using hRep6⟩, by simp [intOf]; omega⟩
          by_cases hq1 : q = n3 - 1
          · have hc1 : ct = [97, 98, 111, 118, 101] := by rw [HCT.out, if_neg hq0, if_pos hq1]
            subst hc1
            have hne0 : ((q : Int) == 0) = false := by simpa using hq0
            have hne1 : ((q : Int) == (n3 : Int) - 1) = true := by simp; omega
            clear hct HCT hcL hle hq0 hq1
            simp only [List.append_assoc, List.cons_append, List.nil_append] at ha1 ha2 ha3
            go_wp2_with fail
            refine (HIT.out _ hRep.base).mono ?_; rintro e w5 ⟨rfl, hb5⟩
            have hRep5 := hRep.up hb5
            go_wp2_with fail
            refine (hRep5.wstr _ (by simp only [List.length_append, List.length_cons, List.length_nil]; omega)).mono ?_; rintro e w6 ⟨rfl, hRep6, _⟩
            go_wp2_with fail
            exact ⟨⟨q + 1, by omega, by go_num, by rw [HFS.out, HWL.out]; simpa using hRep6⟩, by simp [intOf]; omega⟩
          have hm1 : 0 ≤ ((q : Int) - 1) * step ∧ ((q : Int) - 1) * step ≤ 70 * 10000 := ⟨Int.mul_nonneg (by omega) (by omega), Int.mul_le_mul (by omega) h4 (by omega) (by omega)⟩
          have hm2 : 1 ≤ (q : Int) * step ∧ (q : Int) * step ≤ 70 * 10000 := ⟨by
            have : (1 : Int) * 1 ≤ (q : Int) * step := Int.mul_le_mul (by omega) h3 (by omega) (by omega)
            omega, Int.mul_le_mul (by omega) h4 (by omega) (by omega)⟩
          have hc1 : gramsL (low + ((q : Int) - 1) * step) ++ [45] ++ gramsL (low + (q : Int) * step - 1) = ct := by rw [HCT.out, if_neg hq0, if_neg hq1]
          obtain ⟨p1, hp1⟩ : ∃ p1, p1 = ((q : Int) - 1) * step := ⟨_, rfl⟩
          obtain ⟨p2, hp2⟩ : ∃ p2, p2 = (q : Int) * step := ⟨_, rfl⟩
          rw [← hp1, ← hp2] at hc1
          rw [← hp1] at hm1
          rw [← hp2] at hm2
          have hw1 : IntKind.i64.wrap (((q : Int) - 1) * step) = p1 := by rw [← hp1, IntKind.wrap_i64]; omega
          have hw2 : IntKind.i64.wrap ((q : Int) * step) = p2 := by rw [← hp2, IntKind.wrap_i64]; omega
          have HGR : Hid (∀ x W, 0 ≤ x → x ≤ 100000000 → Below w3.heap.size w3 W → Calls Tryz.prog 58 #[.int .i64 x] W fun e w' => e = .returned (.string ⟨(gramsL x).toArray⟩) ∧ Below W.heap.size W w') := fun x W g1 g2 hW => grams_any x W (hE.step (below_keep' hb3 hW)) g1 g2
          have g1 := gramsL_len (low + p1) (by omega) (by omega)
          have g2 := gramsL_len (low + p2 - 1) (by omega) (by omega)
          have gb1 := add_lists (P := Tryz.prog) (gramsL (low + p1)) [45] (by simp; omega)
          have gb2 := add_lists (P := Tryz.prog) (gramsL (low + p1) ++ [45]) (gramsL (low + p2 - 1)) (by simp; omega)
          rw [hc1] at gb2
          have hne0 : ((q : Int) == 0) = false := by simpa using hq0
          have hne1 : ((q : Int) == (n3 : Int) - 1) = false := by simp; omega
          clear hct HCT hp1 hp2 hc1 hq0 hq1
          go_wp2_with fail
          refine (HGR.out _ _ (by omega) (by omega) hRep.base).mono ?_; rintro e w4 ⟨rfl, hb4⟩
          have hRep4 := hRep.up hb4
          go_wp2_with fail
          refine (HGR.out _ _ (by omega) (by omega) hRep4.base).mono ?_; rintro e w7 ⟨rfl, hb7⟩
          have hRep7 := hRep4.up hb7
          clear hRep hRep4 hb4 hb7
          simp only [List.append_assoc, List.cons_append, List.nil_append] at ha1 ha2 ha3
          go_wp2_with fail
          refine (HIT.out _ hRep7.base).mono ?_; rintro e w5 ⟨rfl, hb5⟩
          have hRep5 := hRep7.up hb5
          go_wp2_with fail
          refine (hRep5.wstr _ (by simp only [List.length_append, List.length_cons, List.length_nil]; omega)).mono ?_; rintro e w6 ⟨rfl, hRep6, _⟩
          go_wp2_with fail
          exact ⟨⟨q + 1, by omega, by go_num, by rw [HFS.out, HWL.out]; simpa using hRep6⟩, by simp [intOf]; omega⟩
        · obtain rfl : q = n3 := by omega
          have HH : Hid (weightsL tb low step = (List.range q).flatMap (wlineT tb low step)) := by show _ = _; unfold weightsL; rw [HTL.out]
          generalize (List.range q).flatMap (wlineT tb low step) = txt at *
          go_wp2_with fail
          refine hRep.fin.mono ?_; rintro e w4 ⟨rfl, hb4⟩
          go_wp2_with fail
          go_ret2
          exact ⟨by rw [HTX.out, HH.out, HW.out, HE2.out]; rfl, below_keep' hb3 hb4⟩
end Go.Proofs.YtdokpmfejibdlaaGreatDoor
set_option linter.unusedSimpArgs false
set_option linter.unusedVariables false
namespace Go.Proofs.YtdokpmfejibdlaaGreatDoor
open Go.RowKit

theorem Rep.wnl {w0 w : World} {b : Nat} {l : List UInt8} (h : Rep w0 w b l) (hlen : l.length ≤ 100000000) :
    Calls Tryz.prog 35 #[.pointer (some ⟨b, 0, none⟩), .int .u8 10] w fun e w' => e = .returned .nilIface ∧ Rep w0 w' b (l ++ [10]) ∧ Lib.OthersKept 5 (some b) w w' := h.wbyte 10 hlen
theorem Rep.wsp {w0 w : World} {b : Nat} {l : List UInt8} (h : Rep w0 w b l) (hlen : l.length ≤ 100000000) :
    Calls Tryz.prog 35 #[.pointer (some ⟨b, 0, none⟩), .int .u8 32] w fun e w' => e = .returned .nilIface ∧ Rep w0 w' b (l ++ [32]) ∧ Lib.OthersKept 5 (some b) w w' := h.wbyte 32 hlen
theorem Rep.wda {w0 w : World} {b : Nat} {l : List UInt8} (h : Rep w0 w b l) (hlen : l.length ≤ 100000000) :
    Calls Tryz.prog 35 #[.pointer (some ⟨b, 0, none⟩), .int .u8 45] w fun e w' => e = .returned .nilIface ∧ Rep w0 w' b (l ++ [45]) ∧ Lib.OthersKept 5 (some b) w w' := h.wbyte 45 hlen
theorem chainsG_row {g : Gr} (hg : GrOk g) : (chainsG g).length ≤ 64 ∧ ∀ c ∈ chainsG g, c.length ≤ 64 := by
  have hN : (diesG g).length ≤ 64 := by rw [diesG_len]; have := hg.lo; have := hg.lr; omega
  refine ⟨?_, fun c hc => ?_⟩
  · rw [← chainsT_all, chainsT_len]
    exact Nat.le_trans (cntF_le _ _) hN
  · unfold chainsG at hc
    obtain ⟨k, _, rfl⟩ := List.mem_map.1 hc
    exact Nat.le_trans (chainT_len (g := g) (i := (diesG g).length) (k := k)) hN
theorem dieT_len (d : DieP) : (dieT d).length ≤ 6 := by
  have := nameL_len d.side d.num
  unfold dieT
  simp only [List.length_cons]; omega
theorem chainT54_len {css : List (List DieP)} (h : ∀ c ∈ css, c.length ≤ 64) (i : Nat) (hi : i ≤ 64) : (chainT54 css i).length ≤ 410 := by
  have h1 := itoa21 ((i : Int) + 1) (by omega) (by omega)
  have h2 : (css.getD i []).length ≤ 64 := by
    rw [List.getD_eq_getElem?_getD]
    cases hc : css[i]? with
    | none => simp
    | some c => exact h c (List.mem_of_getElem? hc)
  have h3 := flatL_len (m := 6) (f := dieT) (l := css.getD i []) (fun d _ => dieT_len d)
  unfold chainT54
  simp only [List.length_append, List.length_cons, List.length_nil]
  omega
set_option maxRecDepth 100000 in
set_option maxHeartbeats 4000000 in
theorem rchains_any (A : Option Addr) (len cap : Nat) (xs : List Spm) (w : World) (hE : Env w) (hlen : len ≤ 1000000) (hS : Sl w 0 w.heap.size 7 encS A len xs) :
    Calls Tryz.prog 14 #[.slice A len cap] w (RepW w (repL xs (chainsL (chainsG (grOf xs)))) (grE xs)) := by
  have HO := Lib.hid (lof_any A len cap xs w hlen hS)
  clear hS
  go_enter Tryz.func14, Tryz.ntmps14
  go_wp2_with fail
  refine HO.out.mono ?_; rintro e w1 ⟨⟨A1, n1, c1, B1, m1, d1, C1, k1, l1, rfl, hn1, hm1, hk1, hG1⟩, hb1⟩
  by_cases he : ¬ grE xs = 0
  · have hd : (grE xs != 0) = true := by simpa using he
    have HT : Hid (repL xs (chainsL (chainsG (grOf xs))) = []) := if_neg he
    generalize grE xs = code at *
    clear he hG1
    go_wp2_with fail
    go_ret2
    exact ⟨by rw [HT.out]; rfl, hb1.alloc hb1.size _⟩
  replace he := Classical.not_not.1 he
  have HT : Hid (repL xs (chainsL (chainsG (grOf xs))) = chainsL (chainsG (grOf xs))) := if_pos he
  have HE := Lib.hid he
  have HK := Lib.hid (grOk_of he)
  rw [grR_ok he] at hG1
  rw [he]
  generalize grOf xs = g at *
  have hb2 := hb1.alloc hb1.size (.cells #[.slice A1 n1 c1, .slice B1 m1 d1, .slice C1 k1 l1] 52)
  have hG2 := hG1.up (one_alloc w1 (.cells #[.slice A1 n1 c1, .slice B1 m1 d1, .slice C1 k1 l1] 52))
  have hRep := Rep.start (w1.alloc (.cells #[.slice A1 n1 c1, .slice B1 m1 d1, .slice C1 k1 l1] 52))
  have HC := Lib.hid (lchains_any A1 n1 c1 B1 m1 d1 C1 k1 l1 g _ (hG2.up hRep.base) HK.out)
  have HRW := Lib.hid (chainsG_row HK.out)
  generalize chainsG g = css at *
  clear he hG1 hG2 hb1
  rw [World.size_alloc] at hRep
  go_wp2_with fail
  refine HC.out.mono ?_; rintro e w4 ⟨⟨A4, n4, c4, vs, rfl, hn4, hl4, hR⟩, hb4⟩
  have hRep4 := hRep.up hb4
  generalize hbs : (w1.alloc (.cells #[.slice A1 n1 c1, .slice B1 m1 d1, .slice C1 k1 l1] 52)).alloc (.cells #[.pointer none, .slice none 0 0] 66) = w3 at *
  generalize w1.alloc (.cells #[.slice A1 n1 c1, .slice B1 m1 d1, .slice C1 k1 l1] 52) = w2 at *
  generalize w1.heap.size + 1 = bb at *
  generalize w3.heap.size = base at *
  have HL4 := Lib.hid hl4
  have hout : w4.ownsRow base 70 1 (.slice A4 n4 c4) n4 vs := by have := hR.out; rwa [← hl4] at this
  clear hl4 HC hb4 hRep hbs hout
  go_wp2_with fail
  go_loopw [28] (fun i wr => ∃ j : Nat, j ≤ n4 ∧ i = .int .i64 (j : Int) ∧ Rep w2 wr bb ((List.range j).flatMap (chainT54 css)) ∧ RoR wr base 70 72 2 encD (.slice A4 n4 c4) vs css) (fun i _ => n4 - (intOf i).toNat)
  case atStart => exact ⟨0, by omega, rfl, hRep4, hR⟩
  case round =>
    clear hRep4 hR
    obtain ⟨j, hj, rfl, hRep, hR⟩ := hrel
    have hout : wr.ownsRow base 70 1 (.slice A4 n4 c4) n4 vs := by have := hR.out; rwa [← HL4.out] at this
    by_cases hlt : j < n4
    · obtain ⟨go, co, hgo⟩ := own_some' hout (by omega)
      injection hgo with hgo1 _ hgo2
      subst hgo1 hgo2
      obtain ⟨cj, hcj⟩ : ∃ cj, css[j]? = some cj := ⟨_, List.getElem?_eq_getElem (by rw [← HL4.out]; exact hlt)⟩
      obtain ⟨u, hu⟩ : ∃ u, vs[j]? = some u := ⟨_, List.getElem?_eq_getElem (by rw [hR.len, ← HL4.out]; exact hlt)⟩
      obtain ⟨Ak, ck, rfl, hck⟩ := own_form (hR.row j u cj hu hcj)
      have r0 := (hout.cellAt j (by omega)).trans hu
      have rl := (hout.lt go rfl).2
      have HU := Lib.hid hu
      have HCJ := Lib.hid hcj
      have hcl : cj.length ≤ 64 := HRW.out.2 cj (List.mem_of_getElem? hcj)
      have hft := flatR_len (m := 410) (chainT54 css) j (fun i hi => chainT54_len HRW.out.2 i (by omega))
      have HFS := Lib.hid (flatR_succ (chainT54 css) j)
      have HTJ : Hid (chainT54 css j = Lib.itoa ((j : Int) + 1) ++ [58] ++ cj.flatMap dieT ++ [10]) := by
        show _ = _; unfold chainT54; rw [List.getD_eq_getElem?_getD, hcj]; rfl
      generalize (List.range j).flatMap (chainT54 css) = tj at *
      have hi1 := itoa21 ((j : Int) + 1) (by omega) (by omega)
      have ha1 := add_lists (P := Tryz.prog) (Lib.itoa ((j : Int) + 1)) [58] (by simp; omega)
      have HIT := Lib.hid (itoa_any ((j : Int) + 1) wr (by omega) (by omega) (hE.step (below_keep' hb2 hRep.base)))
      generalize Lib.itoa ((j : Int) + 1) = sj at *
      clear hu hcj hout
      go_wp2_with fail
      refine HIT.out.mono ?_; rintro e w5 ⟨rfl, hb5⟩
      have hRep5 := hRep.up hb5
      have hR5 := hR.up hb5
      clear r0 rl hb5 hRep hR HIT
      go_wp2_with fail
      refine (hRep5.wstr _ (by simp only [List.length_append, List.length_cons, List.length_nil]; omega)).mono ?_; rintro e w6 ⟨rfl, hRep6, hok6⟩
      have hR6 := hR5.others (by decide) (by decide) (by decide) (by decide) hRep5.cells hok6
      clear hok6 hRep5 hR5 ha1
      obtain ⟨pre, hpre⟩ : ∃ pre, pre = tj ++ (sj ++ [58]) := ⟨_, rfl⟩
      have hprl : pre.length ≤ 410 * 64 + 25 := by rw [hpre]; simp only [List.length_append, List.length_cons, List.length_nil]; omega
      rw [← hpre] at hRep6
      have HPR := Lib.hid hpre
      clear hpre
      go_wp2_with fail
      go_loopw [40] (fun i wq => ∃ q : Nat, q ≤ cj.length ∧ i = .int .i64 (q : Int) ∧ Rep w2 wq bb (pre ++ (cj.take q).flatMap dieT) ∧ RoR wq base 70 72 2 encD (.slice (some ⟨go, 0, none⟩) n4 c4) vs css) (fun i _ => cj.length - (intOf i).toNat)
      case atStart => exact ⟨0, by omega, rfl, by simpa using hRep6, hR6⟩
      case round =>
        clear hRep6 hR6
        obtain ⟨q, hq, rfl, hRep, hR⟩ := hrel
        rename World => wq
        have hdl := flatL_len (m := 6) (f := dieT) (l := cj.take q) (fun d _ => dieT_len d)
        rw [List.length_take] at hdl
        by_cases hlt2 : q < cj.length
        · obtain ⟨b, off, x, rfl, hbb, hx, x0, x1⟩ := (Sl.of_own encD_len (hR.row j _ cj HU.out HCJ.out) rfl).di hlt2
          have HFT := Lib.hid (flatT_snoc (f := dieT) hx)
          have HN := Lib.hid (name_any x.side x.num (wq.alloc (.cells #[.int .i64 x.side, .int .i64 x.num] 72)) (hE.step (below_keep' (below_keep' hb2 hRep.base) (one_alloc _ _))))
          have hnl := nameL_len x.side x.num
          have HDT : Hid (dieT x = 32 :: nameL x.side x.num) := rfl
          have ha1 := add_lists (P := Tryz.prog) [32] (nameL x.side x.num) (by simp; omega)
          simp only [List.cons_append, List.nil_append] at ha1
          generalize nameL x.side x.num = nm at *
          generalize (cj.take q).flatMap dieT = dt at *
          have hRepA := hRep.up (one_alloc wq (.cells #[.int .i64 x.side, .int .i64 x.num] 72))
          have hRA := hR.up (one_alloc wq (.cells #[.int .i64 x.side, .int .i64 x.num] 72))
          clear hx hRep hR
          go_wp2_with fail
          refine HN.out.mono ?_; rintro e w7 ⟨rfl, hb7⟩
          have hRep7 := hRepA.up hb7
          have hR7 := hRA.up hb7
          clear x0 x1 hb7 hRepA hRA HN
          go_wp2_with fail
          refine (hRep7.wstr _ (by simp only [List.length_append, List.length_cons, List.length_nil]; omega)).mono ?_; rintro e w8 ⟨rfl, hRep8, hok8⟩
          have hR8 := hR7.others (by decide) (by decide) (by decide) (by decide) hRep7.cells hok8
          clear hok8 hRep7 hR7
          go_wp2_with fail
          exact ⟨⟨q + 1, by omega, by go_num, by rw [HFT.out, HDT.out, ← List.append_assoc]; exact hRep8, hR8⟩, by simp [intOf]; omega⟩
        · obtain rfl : q = cj.length := by omega
          rw [List.take_length] at hRep hdl
          have HTE : Hid (tj ++ chainT54 css j = pre ++ cj.flatMap dieT ++ [10]) := by show _ = _; rw [HTJ.out, HPR.out]; simp
          generalize cj.flatMap dieT = dt at *
          go_wp2_with fail
          refine (hRep.wnl (by simp only [List.length_append]; omega)).mono ?_; rintro e w7 ⟨rfl, hRep7, hok7⟩
          have hR7 := hR.others (by decide) (by decide) (by decide) (by decide) hRep.cells hok7
          clear hok7 hRep hR
          go_wp2_with fail
          exact ⟨⟨j + 1, by omega, by go_num, by rw [HFS.out, HTE.out]; exact hRep7, hR7⟩, by simp [intOf]; omega⟩
    · obtain rfl : j = n4 := by omega
      have HH : Hid (chainsL css = (List.range j).flatMap (chainT54 css)) := by show _ = _; unfold chainsL; rw [← HL4.out]
      generalize (List.range j).flatMap (chainT54 css) = txt at *
      clear hR hout
      go_wp2_with fail
      refine hRep.fin.mono ?_; rintro e w5 ⟨rfl, hb5⟩
      go_wp2_with fail
      go_ret2
      exact ⟨by rw [HT.out, HH.out, HE.out]; rfl, below_keep' hb2 hb5⟩
end Go.Proofs.YtdokpmfejibdlaaGreatDoor
set_option linter.unusedSimpArgs false
set_option linter.unusedVariables false
namespace Go.Proofs.YtdokpmfejibdlaaGreatDoor
open Go.RowKit

theorem matrixG_len (g : Gr) : (matrixG g).length = g.obv.length := by unfold matrixG; simp
theorem matrixG_row {g : Gr} (hg : GrOk g) : ∀ r ∈ matrixG g, r.length ≤ 32 ∧ ∀ x ∈ r, 0 ≤ x ∧ x ≤ 64 := by
  intro r hr
  unfold matrixG at hr
  obtain ⟨o, _, rfl⟩ := List.mem_map.1 hr
  refine ⟨by rw [List.length_map]; exact hg.lr, fun x hx => ?_⟩
  obtain ⟨q, _, rfl⟩ := List.mem_map.1 hx
  have := List.countP_le_length (p := fun x : Lnk => x.obv == o && x.rev == q) (l := g.links)
  have := hg.ll
  unfold cntL
  omega
theorem numT_len {x : Int} (h : 0 ≤ x ∧ x ≤ 64) : (numT x).length ≤ 22 := by
  have := itoa21 x (by omega) (by omega)
  unfold numT
  simp only [List.length_cons]; omega
theorem mrowT_len {g : Gr} (hg : GrOk g) (i : Nat) : (mrowT g i).length ≤ 720 := by
  have h1 := nameL_len 0 (g.obv.getD i 0)
  have h2 : ((matrixG g).getD i []).length ≤ 32 ∧ ∀ x ∈ (matrixG g).getD i [], 0 ≤ x ∧ x ≤ 64 := by
    rw [List.getD_eq_getElem?_getD]
    cases hc : (matrixG g)[i]? with
    | none => simp
    | some r => exact matrixG_row hg r (List.mem_of_getElem? hc)
  have h3 := flatL_len (m := 22) (f := numT) (l := (matrixG g).getD i []) (fun x hx => numT_len (h2.2 x hx))
  unfold mrowT
  simp only [List.length_append, List.length_cons, List.length_nil]
  omega
def revT (r : Int) : List UInt8 := 32 :: nameL 1 r
theorem revT_len (r : Int) : (revT r).length ≤ 6 := by have := nameL_len 1 r; unfold revT; simp only [List.length_cons]; omega
set_option maxRecDepth 100000 in
set_option maxHeartbeats 4000000 in
theorem rmatrix_any (A : Option Addr) (len cap : Nat) (xs : List Spm) (w : World) (hE : Env w) (hlen : len ≤ 1000000) (hS : Sl w 0 w.heap.size 7 encS A len xs) :
    Calls Tryz.prog 16 #[.slice A len cap] w (RepW w (repL xs (matrixL (grOf xs))) (grE xs)) := by
  have HO := Lib.hid (lof_any A len cap xs w hlen hS)
  clear hS
  go_enter Tryz.func16, Tryz.ntmps16
  go_wp2_with fail
  refine HO.out.mono ?_; rintro e w1 ⟨⟨A1, n1, c1, B1, m1, d1, C1, k1, l1, rfl, hn1, hm1, hk1, hG1⟩, hb1⟩
  by_cases he : ¬ grE xs = 0
  · have hd : (grE xs != 0) = true := by simpa using he
    have HT : Hid (repL xs (matrixL (grOf xs)) = []) := if_neg he
    generalize grE xs = code at *
    clear he hG1
    go_wp2_with fail
    go_ret2
    exact ⟨by rw [HT.out]; rfl, hb1.alloc hb1.size _⟩
  replace he := Classical.not_not.1 he
  have HT : Hid (repL xs (matrixL (grOf xs)) = matrixL (grOf xs)) := if_pos he
  have HE := Lib.hid he
  have HK := Lib.hid (grOk_of he)
  rw [grR_ok he] at hG1
  rw [he]
  generalize grOf xs = g at *
  have hb2 := hb1.alloc hb1.size (.cells #[.slice A1 n1 c1, .slice B1 m1 d1, .slice C1 k1 l1] 52)
  have hG2 := hG1.up (one_alloc w1 (.cells #[.slice A1 n1 c1, .slice B1 m1 d1, .slice C1 k1 l1] 52))
  have hRep := Rep.start (w1.alloc (.cells #[.slice A1 n1 c1, .slice B1 m1 d1, .slice C1 k1 l1] 52))
  have D4 := (Bx.new w1 [.slice A1 n1 c1, .slice B1 m1 d1, .slice C1 k1 l1] 52)
  have D4' : Bx (w1.alloc (.cells #[.slice A1 n1 c1, .slice B1 m1 d1, .slice C1 k1 l1] 52)) w1.heap.size [.slice A1 n1 c1, .slice B1 m1 d1, .slice C1 k1 l1] := D4
  clear D4
  have HM : Hid (∀ W, Below (w1.alloc (.cells #[.slice A1 n1 c1, .slice B1 m1 d1, .slice C1 k1 l1] 52)).heap.size (w1.alloc (.cells #[.slice A1 n1 c1, .slice B1 m1 d1, .slice C1 k1 l1] 52)) W → Calls Tryz.prog 46 #[.agg #[.slice A1 n1 c1, .slice B1 m1 d1, .slice C1 k1 l1]] W (MatW W (matrixG g) 0)) := fun W hW => lmatrix_any A1 n1 c1 B1 m1 d1 C1 k1 l1 g W (hG2.up hW) HK.out
  have HMR := Lib.hid (matrixG_row HK.out)
  have HGO : Hid (∀ W, Below (w1.alloc (.cells #[.slice A1 n1 c1, .slice B1 m1 d1, .slice C1 k1 l1] 52)).heap.size (w1.alloc (.cells #[.slice A1 n1 c1, .slice B1 m1 d1, .slice C1 k1 l1] 52)) W → Sl W 0 W.heap.size 1 encI A1 n1 g.obv) := fun W hW => hG2.obv.up hW (Nat.le_refl _) (Nat.le_refl _)
  have HGR : Hid (∀ W, Below (w1.alloc (.cells #[.slice A1 n1 c1, .slice B1 m1 d1, .slice C1 k1 l1] 52)).heap.size (w1.alloc (.cells #[.slice A1 n1 c1, .slice B1 m1 d1, .slice C1 k1 l1] 52)) W → Sl W 0 W.heap.size 1 encI B1 m1 g.rev) := fun W hW => hG2.rev.up hW (Nat.le_refl _) (Nat.le_refl _)
  have HLO := Lib.hid hG2.obv.len
  have HLR := Lib.hid hG2.rev.len
  have HML : Hid ((matrixG g).length = n1) := by show _ = _; rw [matrixG_len, HLO.out]
  have HMT := Lib.hid (fun i => mrowT_len HK.out i)
  have HML54 : Hid (matrixL g = [45] ++ g.rev.flatMap revT ++ [10] ++ (List.range n1).flatMap (mrowT g)) := by show _ = _; rw [← HLO.out]; rfl
  clear he hG1 hG2 hb1
  rw [World.size_alloc] at hRep
  go_wp2_with fail
  generalize hbs : (w1.alloc (.cells #[.slice A1 n1 c1, .slice B1 m1 d1, .slice C1 k1 l1] 52)).alloc (.cells #[.pointer none, .slice none 0 0] 66) = w3 at *
  generalize w1.alloc (.cells #[.slice A1 n1 c1, .slice B1 m1 d1, .slice C1 k1 l1] 52) = w2 at *
  generalize w1.heap.size + 1 = bb at *
  generalize w1.heap.size = bg at *
  clear hbs
  refine (hRep.wda (by simp)).mono ?_; rintro e w4 ⟨rfl, hRep4, _⟩
  have D4 := D4'.up hRep4.base
  have q1 := D4.cell 1 _ rfl
  have ql := D4.lt
  clear D4 hRep
  go_wp2_with fail
  clear q1 ql
  go_loopw [27] (fun i wr => ∃ j : Nat, j ≤ m1 ∧ i = .int .i64 (j : Int) ∧ Rep w2 wr bb ([45] ++ (g.rev.take j).flatMap revT)) (fun i _ => m1 - (intOf i).toNat)
  case atStart => exact ⟨0, by omega, rfl, by simpa using hRep4⟩
  case round =>
    clear hRep4
    obtain ⟨j, hj, rfl, hRep⟩ := hrel
    have hrl := flatL_len (m := 6) (f := revT) (l := g.rev.take j) (fun r _ => revT_len r)
    rw [List.length_take] at hrl
    by_cases hlt : j < m1
    · obtain ⟨b, off, x, rfl, hbb, hx, x0⟩ := (HGR.out _ hRep.base).in_ hlt
      have HFT := Lib.hid (flatT_snoc (f := revT) hx)
      have HN := Lib.hid (name_any 1 x wr (hE.step (below_keep' hb2 hRep.base)))
      have hnl := nameL_len 1 x
      have HDT : Hid (revT x = 32 :: nameL 1 x) := rfl
      have ha1 := add_lists (P := Tryz.prog) [32] (nameL 1 x) (by simp; omega)
      simp only [List.cons_append, List.nil_append] at ha1
      generalize nameL 1 x = nm at *
      generalize (g.rev.take j).flatMap revT = dt at *
      clear hx
      go_wp2_with fail
      refine HN.out.mono ?_; rintro e w7 ⟨rfl, hb7⟩
      have hRep7 := hRep.up hb7
      clear x0 hb7 hRep HN
      go_wp2_with fail
      refine (hRep7.wstr _ (by simp only [List.length_append, List.length_cons, List.length_nil]; omega)).mono ?_; rintro e w8 ⟨rfl, hRep8, _⟩
      go_wp2_with fail
      exact ⟨⟨j + 1, by omega, by go_num, by rw [HFT.out, HDT.out, ← List.append_assoc]; exact hRep8⟩, by simp [intOf]; omega⟩
    · obtain rfl : j = m1 := by omega
      rw [take_all HLR.out] at hRep hrl
      have HHD : Hid (matrixL g = [45] ++ g.rev.flatMap revT ++ [10] ++ (List.range n1).flatMap (mrowT g)) := HML54.out
      generalize g.rev.flatMap revT = dt at *
      go_wp2_with fail
      refine (hRep.wnl (by simp only [List.length_append, List.length_cons, List.length_nil]; omega)).mono ?_; rintro e w5 ⟨rfl, hRep5, _⟩
      have D5 := D4'.up hRep5.base
      have q0 := D5.cell 0 _ rfl
      have q1 := D5.cell 1 _ rfl
      have q2 := D5.cell 2 _ rfl
      have ql := D5.lt
      clear D5 hRep
      go_wp2_with fail
      refine (HM.out _ hRep5.base).mono ?_; rintro e w6 ⟨⟨A4, n4, c4, vs, rfl, hn4, hl4, hR⟩, hb6⟩
      have hRep6 := hRep5.up hb6
      obtain rfl : n4 = n1 := by rw [hl4, HML.out]
      clear hl4 hb6 hRep5 q0 q1 q2 ql
      generalize w5.heap.size = base at *
      obtain ⟨pr0, hpr0⟩ : ∃ p, p = [45] ++ dt ++ [10] := ⟨_, rfl⟩
      have hpl0 : pr0.length ≤ 6 * 64 + 10 := by rw [hpr0]; simp only [List.length_append, List.length_cons, List.length_nil]; omega
      rw [← hpr0] at hRep6 HHD
      clear hpr0
      go_wp2_with fail
      go_loopw [44] (fun i wr => ∃ j : Nat, j ≤ n4 ∧ i = .int .i64 (j : Int) ∧ Rep w2 wr bb (pr0 ++ (List.range j).flatMap (mrowT g)) ∧ RoR wr base 36 3 1 encI (.slice A4 n4 c4) vs (matrixG g)) (fun i _ => n4 - (intOf i).toNat)
      case atStart => exact ⟨0, by omega, rfl, by simpa using hRep6, hR⟩
      case round =>
        clear hRep6 hR
        obtain ⟨p, hp, rfl, hRep, hR⟩ := hrel
        rename World => wp
        have hout : wp.ownsRow base 36 1 (.slice A4 n4 c4) n4 vs := by have := hR.out; rwa [HML.out] at this
        by_cases hlt : p < n4
        · obtain ⟨go, co, hgo⟩ := own_some' hout (by omega)
          injection hgo with hgo1 _ hgo2
          subst hgo1 hgo2
          obtain ⟨cj, hcj⟩ : ∃ cj, (matrixG g)[p]? = some cj := ⟨_, List.getElem?_eq_getElem (by rw [HML.out]; exact hlt)⟩
          obtain ⟨u, hu⟩ : ∃ u, vs[p]? = some u := ⟨_, List.getElem?_eq_getElem (by rw [hR.len, HML.out]; exact hlt)⟩
          obtain ⟨Ak, ck, rfl, hck⟩ := own_form (hR.row p u cj hu hcj)
          have r0 := (hout.cellAt p (by omega)).trans hu
          have rl := (hout.lt go rfl).2
          have HU := Lib.hid hu
          have HCJ := Lib.hid hcj
          obtain ⟨hcl, hcx⟩ := HMR.out cj (List.mem_of_getElem? hcj)
          have HCX := Lib.hid hcx
          obtain ⟨b, off, x, rfl, hbb, hx, x0⟩ := (HGO.out _ hRep.base).in_ hlt
          have hft := flatR_len (m := 720) (mrowT g) p (fun i hi => HMT.out i)
          have HFS := Lib.hid (flatR_succ (mrowT g) p)
          have HTJ : Hid (mrowT g p = nameL 0 x ++ cj.flatMap numT ++ [10]) := by
            show _ = _; unfold mrowT; rw [List.getD_eq_getElem?_getD, List.getD_eq_getElem?_getD, hcj, hx]; rfl
          generalize (List.range p).flatMap (mrowT g) = tj at *
          have hi1 := nameL_len 0 x
          have HN := Lib.hid (name_any 0 x wp (hE.step (below_keep' hb2 hRep.base)))
          generalize nameL 0 x = nm at *
          have D6 := D4'.up hRep.base
          have q0 := D6.cell 0 _ rfl
          have ql := D6.lt
          clear hu hcj hout hx hcx D6
          go_wp2_with fail
          refine HN.out.mono ?_; rintro e w5 ⟨rfl, hb5⟩
          have hRep5 := hRep.up hb5
          have hR5 := hR.up hb5
          clear r0 rl hb5 hRep hR HN x0 q0 ql
          go_wp2_with fail
          refine (hRep5.wstr _ (by simp only [List.length_append, List.length_cons, List.length_nil]; omega)).mono ?_; rintro e w6 ⟨rfl, hRep6, hok6⟩
          have hR6 := hR5.others (by decide) (by decide) (by decide) (by decide) hRep5.cells hok6
          clear hok6 hRep5 hR5
          obtain ⟨pre, hpre⟩ : ∃ pre, pre = pr0 ++ tj ++ nm := ⟨_, rfl⟩
          have hprl : pre.length ≤ 720 * 64 + 400 := by rw [hpre]; simp only [List.length_append, List.length_cons, List.length_nil]; omega
          rw [← hpre] at hRep6
          have HPR := Lib.hid hpre
          clear hpre
          go_wp2_with fail
          go_loopw [58] (fun i wq => ∃ q : Nat, q ≤ cj.length ∧ i = .int .i64 (q : Int) ∧ Rep w2 wq bb (pre ++ (cj.take q).flatMap numT) ∧ RoR wq base 36 3 1 encI (.slice (some ⟨go, 0, none⟩) n4 c4) vs (matrixG g)) (fun i _ => cj.length - (intOf i).toNat)
          case atStart => exact ⟨0, by omega, rfl, by simpa using hRep6, hR6⟩
          case round =>
            clear hRep6 hR6
            obtain ⟨q, hq, rfl, hRep, hR⟩ := hrel
            rename World => wq
            have hdl := flatL_len (m := 22) (f := numT) (l := cj.take q) (fun x hx => numT_len (HCX.out x (List.mem_of_mem_take hx)))
            rw [List.length_take] at hdl
            by_cases hlt2 : q < cj.length
            · obtain ⟨b, off, x, rfl, hbb, hx, x0⟩ := (Sl.of_own (k := 1) (enc := encI) (fun _ => rfl) (hR.row p _ cj HU.out HCJ.out) rfl).in_ hlt2
              have HFT := Lib.hid (flatT_snoc (f := numT) hx)
              obtain ⟨hx1, hx2⟩ := HCX.out x (List.mem_of_getElem? hx)
              have hnl := itoa21 x (by omega) (by omega)
              have HIT := Lib.hid (itoa_any x wq (by omega) (by omega) (hE.step (below_keep' hb2 hRep.base)))
              have HDT : Hid (numT x = 32 :: Lib.itoa x) := rfl
              have ha1 := add_lists (P := Tryz.prog) [32] (Lib.itoa x) (by simp; omega)
              simp only [List.cons_append, List.nil_append] at ha1
              generalize Lib.itoa x = nx at *
              generalize (cj.take q).flatMap numT = dt2 at *
              clear hx
              go_wp2_with fail
              refine HIT.out.mono ?_; rintro e w7 ⟨rfl, hb7⟩
              have hRep7 := hRep.up hb7
              have hR7 := hR.up hb7
              clear x0 hb7 hRep hR HIT
              go_wp2_with fail
              refine (hRep7.wstr _ (by simp only [List.length_append, List.length_cons, List.length_nil]; omega)).mono ?_; rintro e w8 ⟨rfl, hRep8, hok8⟩
              have hR8 := hR7.others (by decide) (by decide) (by decide) (by decide) hRep7.cells hok8
              clear hok8 hRep7 hR7
              go_wp2_with fail
              exact ⟨⟨q + 1, by omega, by go_num, by rw [HFT.out, HDT.out, ← List.append_assoc]; exact hRep8, hR8⟩, by simp [intOf]; omega⟩
            · obtain rfl : q = cj.length := by omega
              rw [List.take_length] at hRep hdl
              have HTE : Hid (pr0 ++ (tj ++ mrowT g p) = pre ++ cj.flatMap numT ++ [10]) := by show _ = _; rw [HTJ.out, HPR.out]; simp
              generalize cj.flatMap numT = dt2 at *
              go_wp2_with fail
              refine (hRep.wnl (by simp only [List.length_append]; omega)).mono ?_; rintro e w7 ⟨rfl, hRep7, hok7⟩
              have hR7 := hR.others (by decide) (by decide) (by decide) (by decide) hRep.cells hok7
              clear hok7 hRep hR
              go_wp2_with fail
              exact ⟨⟨p + 1, by omega, by go_num, by rw [HFS.out, HTE.out]; exact hRep7, hR7⟩, by simp [intOf]; omega⟩
        · obtain rfl : p = n4 := by omega
          have HH := HHD
          generalize (List.range p).flatMap (mrowT g) = txt at *
          clear hR hout
          go_wp2_with fail
          refine hRep.fin.mono ?_; rintro e w5 ⟨rfl, hb5⟩
          go_wp2_with fail
          go_ret2
          exact ⟨by rw [HT.out, HH.out, HE.out]; rfl, below_keep' hb2 hb5⟩
end Go.Proofs.YtdokpmfejibdlaaGreatDoor
