/- Import: the reference's. -/
import Derived.Test.YtnaoagkelbjflaaGreatDoorUe
set_option linter.unusedSimpArgs false
set_option linter.unusedVariables false
namespace Go.Proofs.YtnaoagkelbjflaaGreatDoor
open Go.RowKit

theorem refL_words {s : List UInt8} {o : List (List UInt8)} {z : List UInt8} (h : wordsL 10 s = o ++ [z]) : refL s = o.map parse0 := by
  unfold refL; rw [h, List.dropLast_concat]
theorem ref_not {s : List UInt8} (h : chk (refL s) ≠ 0 ∨ expL (refL s) ≠ s) : ∀ l, ¬ ImpOk s l := fun l hl => by
  have e := ref_of_imp hl
  rw [e] at h
  rcases h with h | h
  · exact h hl.chk
  · exact h (exp_of_imp hl)

set_option maxRecDepth 100000 in
set_option maxHeartbeats 4000000 in
theorem rimport_any (s : List UInt8) (w : World) (hlen : s.length ≤ 1000000) :
    Calls Tryz.prog 33 #[.string ⟨s.toArray⟩] w (ImpOut w s) := by
  by_cases hlong : 4096 < s.length
  · have HO : Hid (∀ l, ¬ ImpOk s l) := imp_long hlong
    have HC : Hid (impCode s = 6) := by show _ = _; unfold impCode; rw [if_pos hlong]
    go_enter Tryz.func33, Tryz.ntmps33
    go_wp2_with fail
    go_ret2
    exact ⟨.inr ⟨HO.out, by rw [HC.out]; rfl⟩, Below.refl _ _⟩
  · have HC : Hid (impCode s = 3) := by show _ = _; unfold impCode; rw [if_neg hlong]
    have hl : s.length ≤ 4096 := by omega
    obtain ⟨i0, hi0, hz0, hz1, hz2⟩ := info_parts Tryz.infoS
    go_enter Tryz.func33, Tryz.ntmps33
    go_wp2_with fail
    go_loopw [4, 5, 6] (fun v fv iv wr => ∃ (k : Nat) (o : List (List UInt8)) (z pre : List UInt8), k ≤ s.length ∧ iv = .int .i64 (k : Int) ∧ fv = .int .i64 (pre.length : Int) ∧ wordsL 10 (s.take k) = o ++ [z] ∧ s.take k = pre ++ z ∧ o.length ≤ k ∧ wr.ownsRow w.heap.size 23 7 v (o.map parse0).length ((o.map parse0).flatMap encS) ∧ Below w.heap.size w wr) (fun _ _ iv _ => s.length - (intOf iv).toNat)
    case atStart => exact ⟨0, [], [], [], by omega, rfl, rfl, by simp [wordsL], by simp, by simp, World.ownsRow_nil _ _ _ _, Below.refl _ _⟩
    case round =>
      obtain ⟨k, o, z, pre, hk, rfl, rfl, hwd, hpz, hok, hown, hb⟩ := hrel
      have hzr : w.heap.size ≤ wr.heap.size := hb.size
      by_cases hlt : k < s.length
      · obtain ⟨c, hc⟩ : ∃ c, s[k]? = some c := ⟨s[k], List.getElem?_eq_getElem hlt⟩
        have h0 : ∀ h, (ByteArray.mk s.toArray)[k]'h = c := fun h => by
          have := (List.getElem?_eq_some_iff.1 hc).2
          exact this
        have hplen : pre.length + z.length = k := by
          have := congrArg List.length hpz
          rw [List.length_take, List.length_append] at this
          omega
        have hx1 : (ByteArray.mk s.toArray).extract pre.length k = ⟨z.toArray⟩ := by
          rw [ByteArray.extract_mk]
          have : (s.drop pre.length).take (k - pre.length) = z := by
            rw [← List.drop_take, hpz, List.drop_left]
          rw [← this]
        have hsn : wordsL 10 (s.take (k + 1)) = wordStep 10 (o ++ [z]) c := by rw [take_snoc' hc, wordsL_snoc, hwd]
        rw [wordStep_snoc] at hsn
        have HSN := Lib.hid hsn; clear hsn
        have hpz1 : s.take (k + 1) = pre ++ (z ++ [c]) := by rw [take_snoc' hc, hpz, List.append_assoc]
        have HPZ := Lib.hid hpz1; clear hpz1 hpz hwd
        have hzl : z.length ≤ 4096 := by omega
        have HC2 := Lib.hid hc; clear hc
        have hkp : (pre.length : Int) ≤ (k : Int) := by omega
        have hks : (k : Int) ≤ (s.length : Int) := by omega
        have hltz : (k : Int) < (s.length : Int) := by omega
        by_cases h10 : c = 10
        · subst h10
          have HS2 : Hid (wordsL 10 (s.take (k + 1)) = o ++ [z] ++ [[]]) := by show _ = _; rw [HSN.out, if_pos rfl]
          clear HSN
          go_wp2_with fail
          refine (rsparse_any z wr (by omega)).mono ?_; rintro e w2 ⟨rfl, hb2⟩
          have hown2 := own_below' hown hb2
          have hbw := hb.trans (hb2.mono hb.size)
          have hz2' : w.heap.size ≤ w2.heap.size := hbw.size
          clear hown hb hb2
          obtain ⟨x, code, hpv, hpx⟩ : ∃ (x : Spm) (code : Int), parseSpV z = .tuple #[.agg #[.int .i64 x.id, .int .i64 x.obv, .int .i64 x.rev, .int .i64 x.os, .int .i64 x.rs, .int .i64 x.ax, .int .i64 x.wt], .int .i64 code] ∧ parse0 z = x := ⟨parseSpX z, parseSpE z, rfl, rfl⟩
          rw [hpv]
          have HPX := Lib.hid hpx; clear hpx hpv
          have hol : (o.map parse0).length ≤ 4096 := by rw [List.length_map]; omega
          have HMA : Hid ((o ++ [z]).map parse0 = o.map parse0 ++ [x]) := by show _ = _; rw [List.map_append, ← HPX.out]; rfl
          generalize o.map parse0 = js at *
          obtain ⟨A0, c0, rfl, _⟩ := own_form hown2
          go_wp2_with (at_builtin; refine wpList_append_own _ rfl _ _ 31 rfl w.heap.size 23 i0 (.agg #[.int .i64 0, .int .i64 0, .int .i64 0, .int .i64 0, .int .i64 0, .int .i64 0, .int .i64 0]) 7 56 Tryz.underlying31 hi0 hz0 hz1 hz2 rfl (by decide) _ _ _ rfl ((hown2.alloc _).alloc _) ⟨w2.heap.size + 1, 0, none⟩ 1 1 (encS x) rfl rfl ?c1 (encS_one x) ?c3 ?c4 ?c5 ?_)
          case c1 => exact cell_list_at (by simp) _ _
          case c3 => unfold maxLen; omega
          case c4 => omega
          case c5 => simp; omega
          · intro v' w4 hown' hgrow _
            have hb4 : Below w.heap.size w w4 := Below.grown (Below.alloc (hbw.alloc hz2' _) (by simp; omega) _) hgrow (by simp; omega) (fun g hg => (hown2.lt g hg).1)
            clear hgrow hown2 hbw
            go_wp2_with fail
            go_roundw
            case rel =>
              refine ⟨k + 1, o ++ [z], [], s.take (k + 1), by omega, by go_num, ?_, HS2.out, by simp, by simp; omega, ?_, hb4⟩
              · have : (s.take (k + 1)).length = k + 1 := by rw [List.length_take]; omega
                rw [this]; go_num
              · rw [HMA.out, List.flatMap_append, List.length_append]
                simpa using hown'
            case measure => simp [intOf]; omega
        · have hne : ((c.toNat : Int) == 10) = false := by
            have : c.toNat ≠ 10 := fun e => h10 (UInt8.toNat_inj.1 e)
            simp; omega
          have HS2 : Hid (wordsL 10 (s.take (k + 1)) = o ++ [z ++ [c]]) := by show _ = _; rw [HSN.out, if_neg h10]
          clear HSN
          go_wp2_with fail
          go_roundw
          case rel => exact ⟨k + 1, o, z ++ [c], pre, by omega, by go_num, rfl, HS2.out, HPZ.out, by omega, hown, hb⟩
          case measure => simp [intOf]; omega
      · obtain rfl : k = s.length := by omega
        have hltz : ¬ (s.length : Int) < (s.length : Int) := by omega
        rw [List.take_length] at hwd
        have hrl := refL_words hwd
        have hol : (refL s).length ≤ 4096 := by rw [hrl, List.length_map]; omega
        rw [← hrl] at hown
        clear hwd hpz hrl
        obtain ⟨A0, c0, rfl, _⟩ := own_form hown
        have hSo := Sl.of_own (enc := encS) encS_len hown rfl
        clear hown
        have HRN : Hid ((chk (refL s) ≠ 0 ∨ expL (refL s) ≠ s) → ∀ l, ¬ ImpOk s l) := ref_not
        have HRY : Hid (chk (refL s) = 0 → expL (refL s) = s → ImpOk s (refL s)) := ref_imp hl
        generalize refL s = rl at *
        have HSo := Lib.hid hSo
        go_wp2_with fail
        refine (rexport_any A0 _ c0 rl _ (by omega) hSo.any).mono ?_; rintro e w2 ⟨rfl, hb2⟩
        have hS2 := HSo.out.up hb2 (Nat.le_refl _) (Nat.le_refl _)
        clear hSo
        (replace hb := hb.trans (hb2.mono hb.size)); clear hb2
        by_cases hcc : chk rl = 0
        · by_cases hee : expL rl = s
          · have HI := Lib.hid (HRY.out hcc hee)
            rw [hcc, hee]
            clear hcc hee HRY HRN
            go_wp2_with fail
            go_ret2
            exact ⟨.inl ⟨rl, HI.out, A0, _, c0, rfl, hS2⟩, hb⟩
          · have HN := Lib.hid (HRN.out (.inr hee))
            rw [hcc]
            clear hcc HRY HRN
            generalize expL rl = t at *
            have hee2 : (t == s) = false := by simpa using hee
            go_wp2_with fail
            go_ret2
            exact ⟨.inr ⟨HN.out, by rw [HC.out]; rfl⟩, hb⟩
        · have HN := Lib.hid (HRN.out (.inl hcc))
          have hd : (chk rl != 0) = true := by simpa using hcc
          generalize chk rl = c at *
          generalize expL rl = t at *
          clear hcc HRY HRN
          go_wp2_with fail
          go_ret2
          exact ⟨.inr ⟨HN.out, by rw [HC.out]; rfl⟩, hb⟩
end Go.Proofs.YtnaoagkelbjflaaGreatDoor
