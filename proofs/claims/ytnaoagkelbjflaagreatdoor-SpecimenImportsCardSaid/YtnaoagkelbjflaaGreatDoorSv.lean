/- Sort and Union: the program's. -/
import Derived.Test.YtnaoagkelbjflaaGreatDoorSr
import Derived.Test.YtnaoagkelbjflaaGreatDoorSt
import Derived.Test.YtnaoagkelbjflaaGreatDoorSu
import Derived.Test.YtnaoagkelbjflaaGreatDoorAp
import Derived.WalkSpells
set_option linter.unusedSimpArgs false
set_option linter.unusedVariables false
namespace Go.Proofs.YtnaoagkelbjflaaGreatDoor
open Go.RowKit

def srtL (l : List Spm) : List Spm := if chk l = 0 then sortS l else []
/-- A list handed back with a code. -/
def ListOut (w : World) (out : List Spm) (code : Int) (e : Ending) (w' : World) : Prop :=
  (∃ A n c, e = .returned (.tuple #[.slice A n c, .int .i64 code]) ∧ Sl w' w.heap.size w'.heap.size 7 encS A n out) ∧ Below w.heap.size w w'
theorem chk_len {l : List Spm} (h : chk l = 0) : l.length ≤ 64 := ((chk_zero l).1 h).1
set_option maxHeartbeats 1000000 in
theorem ssort_any (A : Option Addr) (len cap : Nat) (xs : List Spm) (w : World) (hlen : len ≤ 1000000) (hS : Sl w 0 w.heap.size 7 encS A len xs) :
    Calls Tryz.prog 34 #[.slice A len cap] w (ListOut w (srtL xs) (chk xs)) := by
  have HS := Lib.hid hS; clear hS
  go_enter Tryz.func34, Tryz.ntmps34
  go_wp2_with fail
  refine (scheck_any A len cap xs _ hlen HS.out).mono ?_; rintro e w1 ⟨rfl, hb⟩
  by_cases h0 : chk xs = 0
  · have hd : (chk xs != 0) = false := by simpa using h0
    have hn := ((chk_zero xs).1 h0).2.2
    have HN := Lib.hid hn; clear hn
    have HL : Hid (srtL xs = sortS xs) := by show _ = _; unfold srtL; rw [if_pos h0]
    have H0 := Lib.hid h0
    rw [h0]
    clear h0 hd
    go_wp2_with fail
    refine (sorted_any A len cap xs _ hlen HN.out (HS.out.up hb (Nat.le_refl _) (Nat.le_refl _))).mono ?_
    rintro e w2 ⟨A2, c2, rfl, hS2, hb2, _⟩
    go_wp2_with fail
    go_ret2
    exact ⟨⟨A2, len, c2, by rw [H0.out]; rfl, by rw [HL.out]; exact hS2.less hb.size⟩, hb.trans (hb2.mono hb.size)⟩
  · have hd : (chk xs != 0) = true := by simpa using h0
    have HL : Hid (srtL xs = []) := by show _ = _; unfold srtL; rw [if_neg h0]
    generalize chk xs = c at *
    clear h0
    go_wp2_with fail
    go_ret2
    refine ⟨⟨none, 0, 0, ?_, by rw [HL.out]; exact Sl.nil⟩, hb⟩
    rfl

theorem oneS (x : Spm) : ∀ v ∈ encS x, v.oneCell' = true := encS_one x
set_option maxRecDepth 100000 in
set_option maxHeartbeats 1000000 in
theorem clone_any (A : Option Addr) (len cap : Nat) (xs : List Spm) (w : World) (hlen : len ≤ 1000000) (hS : Sl w 0 w.heap.size 7 encS A len xs) :
    Calls Tryz.prog 56 #[.slice A len cap] w fun e w' => ∃ v, e = .returned v ∧ w'.ownsRow w.heap.size 23 7 v xs.length (xs.flatMap encS) ∧ Below w.heap.size w w' := by
  obtain ⟨i0, hi, hz0, hz1, hz2⟩ := info_parts Tryz.infoS
  have hl := hS.len
  have heq := fun W => Lib.run_eql_slice_nil (P := Tryz.prog) W 31 23 A len cap 0 0 Tryz.underlying31
  rcases A with _ | ad
  · obtain rfl : len = 0 := by
      rcases Nat.eq_zero_or_pos len with h | h
      · exact h
      · obtain ⟨_, _, h', _⟩ := hS.2 h; cases h'
    have hx : xs = [] := List.eq_nil_of_length_eq_zero (by omega)
    subst hx
    clear hS hl
    go_enter Tryz.func56, Tryz.ntmps56
    go_wp2_with fail
    go_ret
    exact ⟨_, rfl, World.ownsRow_nil _ _ _ _, Below.refl _ _⟩
  · have HS := Lib.hid hS; clear hS
    have HL := Lib.hid hl; clear hl
    have hown0 : (w.alloc (.cells #[] 23)).ownsRow w.heap.size 23 7 (.slice (some ⟨w.heap.size, 0, none⟩) 0 0) 0 [] := World.ownsRow_lit w #[] 0 (Nat.le_refl _) (by unfold maxLen; omega) rfl
    have HO := Lib.hid hown0; clear hown0
    have hS1 : Sl (w.alloc (.cells #[] 23)) 0 w.heap.size 7 encS (some ad) len xs := HS.out.below (one_alloc _ _) (Nat.le_refl _)
    have HS1 := Lib.hid hS1; clear hS1
    go_enter Tryz.func56, Tryz.ntmps56
    go_wp2_with (at_builtin; refine wpList_append_sl _ rfl _ _ 31 rfl w.heap.size 23 i0 (.agg #[.int .i64 0, .int .i64 0, .int .i64 0, .int .i64 0, .int .i64 0, .int .i64 0, .int .i64 0]) 7 56 encS_len oneS Tryz.underlying31 hi hz0 hz1 hz2 rfl (by decide) _ _ _ rfl HO.out cap rfl HS1.out ?c3 ?c4 ?c5 ?_)
    case c3 => unfold maxLen; omega
    case c4 => omega
    case c5 => simp
    · intro v' w1 hown' hgrow
      have hb1 : Below w.heap.size w w1 := Below.grown (one_alloc _ _) hgrow (by simp) (fun g hg => by simp [Value.ownBlock] at hg; omega)
      clear hgrow
      go_wp2_with fail
      go_ret
      refine ⟨v', rfl, ?_, hb1⟩
      have := HL.out
      simpa [this] using hown'

theorem joined_take {a b : List Spm} {k : Nat} {x : Spm} (h : b[k]? = some x) : a ++ (b.take (k + 1)).filter (fresh a) = (a ++ (b.take k).filter (fresh a)) ++ (if fresh a x then [x] else []) := by
  rw [take_snocS h, List.filter_append, List.append_assoc]
  congr 2
  cases hf : fresh a x <;> simp [hf]
theorem bad_take {a b : List Spm} {k : Nat} {x : Spm} (h : b[k]? = some x) (hb : bad a x = true) : b.any (bad a) = true := List.any_eq_true.2 ⟨x, List.mem_of_getElem? h, hb⟩
theorem unionE_a {a b : List Spm} (h : chk a ≠ 0) : unionE a b = chk a := by unfold unionE; rw [if_neg h]
theorem unionE_b {a b : List Spm} (ha : chk a = 0) (h : chk b ≠ 0) : unionE a b = chk b := by unfold unionE; rw [if_pos ha, if_neg h]
theorem unionE_bad {a b : List Spm} (ha : chk a = 0) (hb : chk b = 0) (h : b.any (bad a) = true) : unionE a b = 10 := by unfold unionE; rw [if_pos ha, if_pos hb, if_pos h]
theorem unionE_full {a b : List Spm} (ha : chk a = 0) (hb : chk b = 0) (h : b.any (bad a) = false) (hl : 64 < (joined a b).length) : unionE a b = 6 := by
  unfold unionE; rw [if_pos ha, if_pos hb, if_neg (by rw [h]; decide), if_pos hl]
theorem unionE_ok {a b : List Spm} (ha : chk a = 0) (hb : chk b = 0) (h : b.any (bad a) = false) (hl : (joined a b).length ≤ 64) : unionE a b = 0 := by
  unfold unionE; rw [if_pos ha, if_pos hb, if_neg (by rw [h]; decide), if_neg (by omega)]
theorem joined_len (a b : List Spm) : (a ++ b.filter (fresh a)).length ≤ a.length + b.length := by
  rw [List.length_append]; have := List.length_filter_le (fresh a) b; omega
theorem any_bad_take {a b : List Spm} {k : Nat} {x : Spm} (h : b[k]? = some x) (hp : (b.take k).any (bad a) = false) (hx : bad a x = false) : (b.take (k + 1)).any (bad a) = false := by
  rw [take_snocS h, List.any_append, hp]; simp [hx]

theorem cell_list_at {W : World} {n : Nat} (hn : W.heap.size = n) (vs : List Value) (t : TypeId) : ∀ j u, vs[j]? = some u → (W.alloc (.cells vs.toArray t)).cell? ((⟨n, 0, none⟩ : Addr).add j) = some u := by
  subst hn; exact cell_list_new _ _ _
theorem own_below' {w w' : World} {B e size n : Nat} {v : Value} {xs : List Value} (h : w.ownsRow B e size v n xs) (hb : Below w.heap.size w w') : w'.ownsRow B e size v n xs := by
  refine ⟨h.1, ?_⟩
  rcases h.2 with hn | ⟨g, cap, cur, rfl, hg, hgg, rest⟩
  · exact .inl hn
  · exact .inr ⟨g, cap, cur, rfl, hg, by rw [hb.block g (Array.getElem?_eq_some_iff.1 hgg).1]; exact hgg, rest⟩
set_option maxRecDepth 100000 in
set_option maxHeartbeats 4000000 in
theorem sunion_any (A : Option Addr) (len cap : Nat) (xs : List Spm) (A' : Option Addr) (len' cap' : Nat) (ys : List Spm) (w : World) (hlen : len ≤ 1000000) (hlen' : len' ≤ 1000000) (hS : Sl w 0 w.heap.size 7 encS A len xs) (hS' : Sl w 0 w.heap.size 7 encS A' len' ys) :
    Calls Tryz.prog 26 #[.slice A len cap, .slice A' len' cap'] w (ListOut w (unionL xs ys) (unionE xs ys)) := by
  have HS := Lib.hid hS; clear hS
  have HS' := Lib.hid hS'; clear hS'
  go_enter Tryz.func26, Tryz.ntmps26
  go_wp2_with fail
  refine (scheck_any A len cap xs _ hlen HS.out).mono ?_; rintro e w1 ⟨rfl, hb⟩
  by_cases ha : ¬ chk xs = 0
  · have hd : (chk xs != 0) = true := by simpa using ha
    have HE : Hid (unionE xs ys = chk xs) := unionE_a ha
    have HL : Hid (unionL xs ys = []) := union_zero_or _ _ (by rw [HE.out]; exact ha)
    generalize chk xs = c at *
    clear ha
    go_wp2_with fail
    go_ret2
    exact ⟨⟨none, 0, 0, by rw [HE.out]; rfl, by rw [HL.out]; exact Sl.nil⟩, hb⟩
  replace ha := Classical.not_not.1 ha
  have hd : (chk xs != 0) = false := by simpa using ha
  have HA := Lib.hid ha
  rw [ha]
  clear ha hd
  go_wp2_with fail
  refine (scheck_any A' len' cap' ys _ hlen' (HS'.out.up hb (Nat.le_refl _) (Nat.le_refl _))).mono ?_; rintro e w2 ⟨rfl, hb2⟩
  (replace hb := hb.trans (hb2.mono hb.size)); clear hb2
  by_cases hbb : ¬ chk ys = 0
  · have hd : (chk ys != 0) = true := by simpa using hbb
    have HE : Hid (unionE xs ys = chk ys) := unionE_b HA.out hbb
    have HL : Hid (unionL xs ys = []) := union_zero_or _ _ (by rw [HE.out]; exact hbb)
    generalize chk ys = c at *
    clear hbb
    go_wp2_with fail
    go_ret2
    exact ⟨⟨none, 0, 0, by rw [HE.out]; rfl, by rw [HL.out]; exact Sl.nil⟩, hb⟩
  replace hbb := Classical.not_not.1 hbb
  have hd : (chk ys != 0) = false := by simpa using hbb
  have HB := Lib.hid hbb
  rw [hbb]
  clear hbb hd
  have hla : xs.length ≤ 64 := chk_len HA.out
  have hlb : ys.length ≤ 64 := chk_len HB.out
  have HLA : Hid (xs.length = len) := HS.out.len
  have HLB : Hid (ys.length = len') := HS'.out.len
  go_wp2_with fail
  refine (clone_any A len cap xs _ hlen (HS.out.up hb (Nat.le_refl _) (Nat.le_refl _))).mono ?_; rintro e w3 ⟨v0, rfl, hown0, hb3⟩
  have HSX : Hid (∀ V, Below w3.heap.size w3 V → Sl V 0 V.heap.size 7 encS A len xs ∧ Sl V 0 V.heap.size 7 encS A' len' ys) := fun V hV =>
    have h1 := hb.trans (hb3.mono hb.size)
    have h2 := h1.trans (hV.mono h1.size)
    ⟨HS.out.up h2 (Nat.le_refl _) (Nat.le_refl _), HS'.out.up h2 (Nat.le_refl _) (Nat.le_refl _)⟩
  obtain ⟨i0, hi0, hz0, hz1, hz2⟩ := info_parts Tryz.infoS
  have HW : Hid (Below w.heap.size w w2) := hb
  have h23 : w2.heap.size ≤ w3.heap.size := hb3.size
  clear hb
  have HB3 := Lib.hid hb3; clear hb3
  go_wp2_with fail
  go_loopw [8, 27] (fun v i wr => ∃ k : Nat, k ≤ len' ∧ i = .int .i64 (k : Int) ∧ (ys.take k).any (bad xs) = false ∧ wr.ownsRow w2.heap.size 23 7 v (xs ++ (ys.take k).filter (fresh xs)).length ((xs ++ (ys.take k).filter (fresh xs)).flatMap encS) ∧ Below w2.heap.size w2 wr) (fun _ i _ => len' - (intOf i).toNat)
  case atStart => exact ⟨0, by omega, rfl, rfl, by simpa using hown0, HB3.out⟩
  case round =>
    obtain ⟨k, hk, rfl, hnb, hown, hb⟩ := hrel
    have HNB := Lib.hid hnb; clear hnb
    have hzr : w2.heap.size ≤ wr.heap.size := hb.size
    have HBW : Hid (Below w.heap.size w wr) := HW.out.trans (hb.mono HW.out.size)
    have hjl : (xs ++ (ys.take k).filter (fresh xs)).length ≤ 128 := by
      have h1 := joined_len xs (ys.take k)
      rw [List.length_take] at h1
      omega
    by_cases hlt : k < len'
    · have hS2 : Sl wr 0 w.heap.size 7 encS A' len' ys := HS'.out.below HBW.out (Nat.le_refl _)
      obtain ⟨b, off, y, rfl, hbb, hy, c0, c1, c2, c3, c4, c5, c6⟩ := hS2.sp hlt
      clear hS2
      have hw2 : w.heap.size ≤ wr.heap.size := HBW.out.size
      have hbr : b < wr.heap.size := by omega
      have hJ := joined_take (a := xs) hy
      generalize xs ++ (ys.take k).filter (fresh xs) = js at *
      have HJ := Lib.hid hJ; clear hJ
      have HY := Lib.hid hy; clear hy
      have HF : Hid (∀ W, Below wr.heap.size wr W → Sl W 0 W.heap.size 7 encS A len xs) := fun W hW => HS.out.up (HBW.out.trans (hW.mono HBW.out.size)) (Nat.le_refl _) (Nat.le_refl _)
      have hne := fun z W => neSpmV z y W
      go_wp2_with fail
      refine (sfind_any A len cap xs y.id _ hlen (HF.out _ (one_alloc _ _))).mono ?_; rintro e w4 ⟨rfl, hb4⟩
      obtain ⟨hbr4, hb5, Y⟩ := step1 hb hb4
      have hown4 := own_below' hown hbr4
      have hz4 := hbr4.size
      clear hb4 hown hb
      cases hf : findS xs y.id with
      | none =>
        rw [findV_none hf]
        have HFR : Hid (fresh xs y = true) := by show _ = _; unfold fresh; rw [hf]; rfl
        have HBD : Hid (bad xs y = false) := by show _ = _; unfold bad; rw [hf]
        clear hf
        have Y0 := Y.cell 0 _ rfl; have Y1 := Y.cell 1 _ rfl; have Y2 := Y.cell 2 _ rfl; have Y3 := Y.cell 3 _ rfl; have Y4 := Y.cell 4 _ rfl; have Y5 := Y.cell 5 _ rfl; have Y6 := Y.cell 6 _ rfl; have Ylt := Y.lt
        obtain ⟨A0, c0', rfl, _⟩ := own_form hown4
        go_wp2_with (at_builtin; refine wpList_append_own _ rfl _ _ 31 rfl w2.heap.size 23 i0 (.agg #[.int .i64 0, .int .i64 0, .int .i64 0, .int .i64 0, .int .i64 0, .int .i64 0, .int .i64 0]) 7 56 Tryz.underlying31 hi0 hz0 hz1 hz2 rfl (by decide) _ _ _ rfl ((hown4.alloc _).alloc _) ⟨w4.heap.size + 1, 0, none⟩ 1 1 (encS y) rfl rfl ?c1 (encS_one y) ?c3 ?c4 ?c5 ?_)
        case c1 => exact cell_list_at (by simp) _ _
        case c3 => unfold maxLen; omega
        case c4 => omega
        case c5 => simp; omega
        · intro v' w5 hown' hgrow _
          have hb6 : Below w2.heap.size w2 w5 := Below.grown (Below.alloc (Below.alloc hb5 (by omega) _) (by simp; omega) _) hgrow (by simp; omega) (fun g hg => (hown4.lt g hg).1)
          clear hgrow hown4 hb5
          go_wp2_with fail
          go_roundw
          case rel =>
            refine ⟨k + 1, by omega, by go_num, any_bad_take HY.out HNB.out HBD.out, ?_, hb6⟩
            rw [HJ.out, if_pos HFR.out, List.flatMap_append, List.length_append]
            simpa using hown'
          case measure => simp [intOf]; omega
      | some z =>
        rw [findV_some hf]
        have HFR : Hid (fresh xs y = false) := by show _ = _; unfold fresh; rw [hf]; rfl
        have HBD : Hid (bad xs y = decide (z ≠ y)) := by show _ = _; unfold bad; rw [hf]
        clear hf
        by_cases he : z = y
        · have hd : decide (z = y) = true := decide_eq_true he
          have hnz := hne z; clear hne
          rw [hd] at hnz
          have HE := Lib.hid he; clear he hd
          have Y0 := Y.cell 0 _ rfl; have Y1 := Y.cell 1 _ rfl; have Y2 := Y.cell 2 _ rfl; have Y3 := Y.cell 3 _ rfl; have Y4 := Y.cell 4 _ rfl; have Y5 := Y.cell 5 _ rfl; have Y6 := Y.cell 6 _ rfl; have Ylt := Y.lt
          go_wp2_with fail
          go_roundw
          case rel =>
            refine ⟨k + 1, by omega, by go_num, any_bad_take HY.out HNB.out (by rw [HBD.out, HE.out]; simp), ?_, Below.alloc hb5 (by omega) _⟩
            rw [HJ.out, if_neg (by rw [HFR.out]; decide), List.append_nil]
            exact hown4.alloc _
          case measure => simp [intOf]; omega
        · have hd : decide (z = y) = false := decide_eq_false he
          have hnz := hne z; clear hne
          rw [hd] at hnz
          have HE := Lib.hid he; clear he hd
          have Y0 := Y.cell 0 _ rfl; have Y1 := Y.cell 1 _ rfl; have Y2 := Y.cell 2 _ rfl; have Y3 := Y.cell 3 _ rfl; have Y4 := Y.cell 4 _ rfl; have Y5 := Y.cell 5 _ rfl; have Y6 := Y.cell 6 _ rfl; have Ylt := Y.lt
          have HEU : Hid (unionE xs ys = 10) := unionE_bad HA.out HB.out (bad_take HY.out (by rw [HBD.out]; simpa using HE.out))
          have HL : Hid (unionL xs ys = []) := union_zero_or _ _ (by rw [HEU.out]; decide)
          go_wp2_with fail
          go_ret2
          exact ⟨⟨none, 0, 0, by rw [HEU.out]; rfl, by rw [HL.out]; exact Sl.nil⟩, HW.out.trans ((Below.alloc hb5 (by omega) _).mono HW.out.size)⟩
    · obtain rfl : k = len' := by omega
      have HT : Hid (ys.take k = ys) := List.take_of_length_le (by have := HLB.out; omega)
      have HNB2 : Hid (ys.any (bad xs) = false) := by show _ = _; have := HNB.out; rwa [HT.out] at this
      rw [HT.out] at hown hjl
      clear HNB
      change wr.ownsRow _ _ _ _ (joined xs ys).length ((joined xs ys).flatMap encS) at hown
      change (joined xs ys).length ≤ 128 at hjl
      have HN : Hid ((idsOf (joined xs ys)).Nodup) := joined_nodup ((chk_zero xs).1 HA.out).2.2 ((chk_zero ys).1 HB.out).2.2
      obtain ⟨A0, c0, rfl, _⟩ := own_form hown
      have hSo := Sl.of_own (enc := encS) encS_len hown rfl
      by_cases hl : 64 < (joined xs ys).length
      · have HE : Hid (unionE xs ys = 6) := unionE_full HA.out HB.out HNB2.out hl
        have HL : Hid (unionL xs ys = []) := union_zero_or _ _ (by rw [HE.out]; decide)
        clear hown
        generalize joined xs ys = js at *
        go_wp2_with fail
        go_ret2
        exact ⟨⟨none, 0, 0, by rw [HE.out]; rfl, by rw [HL.out]; exact Sl.nil⟩, HBW.out⟩
      · have HE : Hid (unionE xs ys = 0) := unionE_ok HA.out HB.out HNB2.out (by omega)
        have HL : Hid (unionL xs ys = sortS (joined xs ys)) := by show _ = _; unfold unionL; rw [if_pos HE.out]
        clear hown
        have HSo := Lib.hid hSo; clear hSo
        go_wp2_with fail
        refine (sorted_any A0 _ c0 (joined xs ys) _ (by omega) HN.out (HSo.out.any)).mono ?_
        rintro e w6 ⟨A6, c6, rfl, hS6, hb6, _⟩
        go_wp2_with fail
        go_ret2
        exact ⟨⟨A6, _, c6, by rw [HE.out]; rfl, by rw [HL.out]; exact hS6.less HBW.out.size⟩, HBW.out.trans (hb6.mono HBW.out.size)⟩
end Go.Proofs.YtnaoagkelbjflaaGreatDoor
