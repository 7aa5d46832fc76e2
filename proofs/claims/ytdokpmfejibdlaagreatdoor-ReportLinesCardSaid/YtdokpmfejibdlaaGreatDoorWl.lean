/- Chapter 54: linkage.Of. -/
import Derived.Test.YtdokpmfejibdlaaGreatDoorWk
set_option linter.unusedSimpArgs false
set_option linter.unusedVariables false
namespace Go.Proofs.YtdokpmfejibdlaaGreatDoor
open Go.RowKit

theorem Tryz.infoLk : (Tryz.prog.info? 96).map (fun i => (i.zero, i.size, i.bytes)) = some (some (.agg #[.int .i64 0, .int .i64 0, .int .i64 0]), 3, 24) := by kernel_rfl
theorem gr_links {xs : List Spm} : (⟨uniqI (((sortS xs).map lnkOf).map Lnk.obv), uniqI (((sortS xs).map lnkOf).map Lnk.rev), (sortS xs).map lnkOf⟩ : Gr) = grOf xs := by
  have h1 : uniqI (((sortS xs).map lnkOf).map Lnk.obv) = uniqI (xs.map Spm.obv) := ascW_unique (uniqI_asc _) (uniqI_asc _) fun n => by
    simp only [uniqI_mem, List.mem_map, List.map_map, Function.comp, sortS_mem]
    exact Iff.rfl
  have h2 : uniqI (((sortS xs).map lnkOf).map Lnk.rev) = uniqI (xs.map Spm.rev) := ascW_unique (uniqI_asc _) (uniqI_asc _) fun n => by
    simp only [uniqI_mem, List.mem_map, List.map_map, Function.comp, sortS_mem]
    exact Iff.rfl
  unfold grOf
  rw [h1, h2]
theorem grE_bad {xs : List Spm} (h : chk xs ≠ 0) : grE xs = chk xs := by unfold grE; rw [if_neg h]
theorem grE_full {xs : List Spm} (h : chk xs = 0) (h2 : ¬ ((grOf xs).obv.length ≤ 32 ∧ (grOf xs).rev.length ≤ 32)) : grE xs = 6 := by unfold grE; rw [if_pos h, if_neg h2]
theorem grE_ok {xs : List Spm} (h : chk xs = 0) (h2 : (grOf xs).obv.length ≤ 32 ∧ (grOf xs).rev.length ≤ 32) : grE xs = 0 := by unfold grE; rw [if_pos h, if_pos h2]
theorem grR_bad {xs : List Spm} (h : grE xs ≠ 0) : grR xs = grZero := by unfold grR; rw [if_neg h]
theorem grR_ok {xs : List Spm} (h : grE xs = 0) : grR xs = grOf xs := by unfold grR; rw [if_pos h]
/-- A graph in memory above a place. -/
structure GrL (w : World) (L : Nat) (A : Option Addr) (n : Nat) (B : Option Addr) (m : Nat) (C : Option Addr) (k : Nat) (g : Gr) : Prop where
  obv : Sl w L w.heap.size 1 encI A n g.obv
  rev : Sl w L w.heap.size 1 encI B m g.rev
  links : Sl w L w.heap.size 3 encL C k g.links
theorem GrL.up {w w' : World} {L : Nat} {A B C : Option Addr} {n m k : Nat} {g : Gr} (h : GrL w L A n B m C k g) (hb : Below w.heap.size w w') : GrL w' L A n B m C k g :=
  ⟨Sl.up h.obv hb (Nat.le_refl _) (Nat.le_refl _), Sl.up h.rev hb (Nat.le_refl _) (Nat.le_refl _), Sl.up h.links hb (Nat.le_refl _) (Nat.le_refl _)⟩
theorem GrL.far3 {w : World} {L b : Nat} {A B C : Option Addr} {n m k : Nat} {g : Gr} (h : GrL w L A n B m C k g) (hb : b < L) (x y z : Value) : GrM (((w.setCell ⟨b, 0, none⟩ x).setCell ⟨b, 1, none⟩ y).setCell ⟨b, 2, none⟩ z) A n B m C k g := by
  have hz : (((w.setCell ⟨b, 0, none⟩ x).setCell ⟨b, 1, none⟩ y).setCell ⟨b, 2, none⟩ z).heap.size = w.heap.size := by simp [World.setCell]
  refine ⟨?_, ?_, ?_⟩ <;> rw [hz]
  · exact (((h.obv.set_ hb _).set_ hb _).set_ hb _).any
  · exact (((h.rev.set_ hb _).set_ hb _).set_ hb _).any
  · exact (((h.links.set_ hb _).set_ hb _).set_ hb _).any
/-- A graph handed back with a code. -/
def GrOut (w : World) (g : Gr) (code : Int) (e : Ending) (w' : World) : Prop :=
  (∃ A n c B m d C k l, e = .returned (.tuple #[.agg #[.slice A n c, .slice B m d, .slice C k l], .int .i64 code]) ∧ n ≤ 64 ∧ m ≤ 64 ∧ k ≤ 64 ∧ GrM w' A n B m C k g) ∧ Below w.heap.size w w'
set_option maxRecDepth 100000 in
set_option maxHeartbeats 4000000 in
theorem lof_any (A : Option Addr) (len cap : Nat) (xs : List Spm) (w : World) (hlen : len ≤ 1000000) (hS : Sl w 0 w.heap.size 7 encS A len xs) :
    Calls Tryz.prog 31 #[.slice A len cap] w (GrOut w (grR xs) (grE xs)) := by
  have HS := Lib.hid hS; clear hS
  obtain ⟨i0, hi, hz0, hz1, hz2⟩ := info_parts Tryz.infoLk
  go_enter Tryz.func31, Tryz.ntmps31
  go_wp2_with fail
  refine (ssort_any A len cap xs _ hlen (HS.out.alloc _)).mono ?_
  rintro e w1 ⟨⟨S, ns, cs, rfl, hSs⟩, hb1⟩
  obtain ⟨hb, _, D⟩ := step1 (Below.refl _ w) hb1
  clear hb1
  replace hSs := hSs.any
  by_cases ha : ¬ chk xs = 0
  · have hd : (chk xs != 0) = true := by simpa using ha
    have HE : Hid (grE xs = chk xs) := grE_bad ha
    have HL : Hid (grR xs = grZero) := grR_bad (by rw [HE.out]; exact ha)
    generalize chk xs = c at *
    have d0 := D.cell 0 _ rfl
    have d1 := D.cell 1 _ rfl
    have d2 := D.cell 2 _ rfl
    have e0 := D.frz 0
    have e1 := D.frz 1
    have e2 := D.frz 2
    have dl := D.lt
    clear ha
    go_wp2_with fail
    have R4 := D.all3 (.slice none 0 0) (.slice none 0 0) (.slice none 0 0)
    refine bodyPost_ret (v := .tuple #[.agg #[.slice none 0 0, .slice none 0 0, .slice none 0 0], .int .i64 c]) (by simp [results, Tryz.results31, go_sem, R4.cell 0 _ rfl, R4.cell 1 _ rfl, R4.cell 2 _ rfl]) rfl ?_
    rw [HE.out, HL.out]
    exact ⟨⟨_, _, _, _, _, _, _, _, _, rfl, by omega, by omega, by omega, GrM.zero⟩, by (repeat (first | exact Below.refl _ _ | assumption | refine Below.alloc ?_ (by first | omega | (simp only [World.size_alloc]; omega) | (simp; done) | (simp; omega)) _ | refine Below.setCell ?_ (by first | omega | (simp only [World.size_alloc]; omega) | (simp; done) | (simp; omega)) _ | refine Below.drew ?_ | refine below_drewN ?_ _))⟩
  replace ha := Classical.not_not.1 ha
  have hd : (chk xs != 0) = false := by simpa using ha
  have HA := Lib.hid ha
  have hsl : srtL xs = sortS xs := by unfold srtL; rw [if_pos ha]
  rw [hsl] at hSs
  have hl64 : xs.length ≤ 64 := chk_len ha
  rw [ha]
  clear ha hd hsl
  have hns : ns ≤ 64 := by have := hSs.len; rw [sortS_len] at this; omega
  have HSB : Hid (∀ V, Below w1.heap.size w1 V → Sl V 0 V.heap.size 7 encS S ns (sortS xs)) := fun V hV => hSs.up hV (Nat.le_refl _) (Nat.le_refl _)
  have HGL : Hid (∀ l, l = (sortS xs).map lnkOf → (⟨uniqI (l.map Lnk.obv), uniqI (l.map Lnk.rev), l⟩ : Gr) = grOf xs) := fun l hl => by subst hl; exact gr_links
  have HLN := Lib.hid hSs.len
  clear hSs
  generalize sortS xs = zs at *
  go_wp2_with fail
  go_loopw [6, 21] (fun v i wr => ∃ k : Nat, k ≤ ns ∧ i = .int .i64 (k : Int) ∧ wr.ownsRow w1.heap.size 96 3 v k (((zs.take k).map lnkOf).flatMap encL) ∧ Below w1.heap.size w1 wr) (fun _ i _ => ns - (intOf i).toNat)
  case atStart => exact ⟨0, by omega, rfl, World.ownsRow_nil _ _ _ _, Below.refl _ _⟩
  case round =>
    obtain ⟨k, hk, rfl, hown, hbr⟩ := hrel
    by_cases hlt : k < ns
    · obtain ⟨b, off, x, rfl, hbb, hx, c0, c1, c2, c3, c4, c5, c6⟩ := (HSB.out _ hbr).sp hlt
      have HX : Hid ((zs.take (k + 1)).map lnkOf = (zs.take k).map lnkOf ++ [⟨x.id, x.obv, x.rev⟩]) := by show _ = _; rw [takeSnocW hx, List.map_append]; rfl
      clear hx
      generalize (zs.take k).map lnkOf = ls at *
      have hrz := hbr.size
      go_wp2_with (at_builtin; refine wpList_append_own _ rfl _ _ 50 rfl w1.heap.size 96 i0 (.agg #[.int .i64 0, .int .i64 0, .int .i64 0]) 3 24 Tryz.underlying50 hi hz0 hz1 hz2 rfl (by decide) _ _ _ rfl ((hown.alloc _).alloc _) ⟨wr.heap.size + 1, 0, none⟩ 1 1 [.int .i64 x.id, .int .i64 x.obv, .int .i64 x.rev] rfl rfl ?c1 ?c2 ?c3 ?c4 ?c5 ?_)
      case c1 => exact cell_list_at (by simp) _ _
      case c2 => exact encL_one ⟨x.id, x.obv, x.rev⟩
      case c3 => unfold maxLen; omega
      case c4 => omega
      case c5 => simp; omega
      · intro v' w5 hown' hgrow _
        have hb6 : Below w1.heap.size w1 w5 := Below.grown ((hbr.alloc hrz _).alloc (by simp; omega) _) hgrow (by simp; omega) (fun g hg => (hown.lt g hg).1)
        clear hgrow hown hbr
        go_wp2_with fail
        go_roundw
        case rel => exact ⟨k + 1, by omega, by go_num, by rw [HX.out, List.flatMap_append]; exact hown', hb6⟩
        case measure => simp [intOf]; omega
    · obtain rfl : k = ns := by omega
      have hbR := hb.trans (hbr.mono hb.size)
      rw [take_all HLN.out] at hown
      have HGO := Lib.hid (HGL.out _ rfl)
      have hll : (zs.map lnkOf).length = k := by rw [List.length_map]; exact HLN.out
      generalize zs.map lnkOf = ls at *
      obtain ⟨A0, c0, rfl, _⟩ := own_form hown
      have hSl := Sl.of_own encL_len hown hll
      have HSL := Lib.hid hSl
      have HWI := Lib.hid (with_any A0 k c0 ls wr hns hSl.any)
      have D' := D.up hbr
      clear hown hSl
      go_wp2_with fail
      refine HWI.out.mono ?_; rintro e w2 ⟨⟨A1, n1, c1, A2, n2, c2, rfl, hn1, hn2, hG1, hG2⟩, hb2⟩
      replace hbR := below_keep' hbR hb2
      replace D' := D'.up hb2
      have hzz := hbr.size
      have HG : Hid (GrL w2 w1.heap.size A1 n1 A2 n2 A0 k (grOf xs)) := by rw [← HGO.out]; exact ⟨hG1.less hzz, hG2.less hzz, HSL.out.up hb2 (Nat.le_refl _) (Nat.le_refl _)⟩
      have HN1 : Hid ((grOf xs).obv.length = n1) := HG.out.obv.len
      have HN2 : Hid ((grOf xs).rev.length = n2) := HG.out.rev.len
      clear hzz
      have d0 := D'.cell 0 _ rfl
      have d1 := D'.cell 1 _ rfl
      have d2 := D'.cell 2 _ rfl
      have e0 := D'.frz 0
      have e1 := D'.frz 1
      have e2 := D'.frz 2
      have dl := D'.lt
      clear hG1 hG2 hb2
      by_cases h1 : 32 < n1
      · have HE : Hid (grE xs = 6) := grE_full HA.out (by rw [HN1.out, HN2.out]; omega)
        have HL : Hid (grR xs = grZero) := grR_bad (by rw [HE.out]; decide)
        go_wp2_with fail
        have R4 := (D'.all3 (.slice none 0 0) (.slice none 0 0) (.slice none 0 0)).alloc (.cells #[.slice A1 n1 c1, .slice A2 n2 c2, .slice A0 k c0] 52)
        refine bodyPost_ret (v := .tuple #[.agg #[.slice none 0 0, .slice none 0 0, .slice none 0 0], .int .i64 6]) (by simp [results, Tryz.results31, go_sem, R4.cell 0 _ rfl, R4.cell 1 _ rfl, R4.cell 2 _ rfl]) rfl ?_
        rw [HE.out, HL.out]
        exact ⟨⟨_, _, _, _, _, _, _, _, _, rfl, by omega, by omega, by omega, GrM.zero⟩, by (repeat (first | exact Below.refl _ _ | assumption | refine Below.alloc ?_ (by first | omega | (simp only [World.size_alloc]; omega) | (simp; done) | (simp; omega)) _ | refine Below.setCell ?_ (by first | omega | (simp only [World.size_alloc]; omega) | (simp; done) | (simp; omega)) _ | refine Below.drew ?_ | refine below_drewN ?_ _))⟩
      by_cases h2 : 32 < n2
      · have HE : Hid (grE xs = 6) := grE_full HA.out (by rw [HN1.out, HN2.out]; omega)
        have HL : Hid (grR xs = grZero) := grR_bad (by rw [HE.out]; decide)
        go_wp2_with fail
        have R4 := (D'.all3 (.slice none 0 0) (.slice none 0 0) (.slice none 0 0)).alloc (.cells #[.slice A1 n1 c1, .slice A2 n2 c2, .slice A0 k c0] 52)
        refine bodyPost_ret (v := .tuple #[.agg #[.slice none 0 0, .slice none 0 0, .slice none 0 0], .int .i64 6]) (by simp [results, Tryz.results31, go_sem, R4.cell 0 _ rfl, R4.cell 1 _ rfl, R4.cell 2 _ rfl]) rfl ?_
        rw [HE.out, HL.out]
        exact ⟨⟨_, _, _, _, _, _, _, _, _, rfl, by omega, by omega, by omega, GrM.zero⟩, by (repeat (first | exact Below.refl _ _ | assumption | refine Below.alloc ?_ (by first | omega | (simp only [World.size_alloc]; omega) | (simp; done) | (simp; omega)) _ | refine Below.setCell ?_ (by first | omega | (simp only [World.size_alloc]; omega) | (simp; done) | (simp; omega)) _ | refine Below.drew ?_ | refine below_drewN ?_ _))⟩
      · have HE : Hid (grE xs = 0) := grE_ok HA.out (by rw [HN1.out, HN2.out]; omega)
        have HL : Hid (grR xs = grOf xs) := grR_ok HE.out
        go_wp2_with fail
        have R4 := (D'.all3 (.slice A1 n1 c1) (.slice A2 n2 c2) (.slice A0 k c0)).alloc (.cells #[.slice A1 n1 c1, .slice A2 n2 c2, .slice A0 k c0] 52)
        refine bodyPost_ret (v := .tuple #[.agg #[.slice A1 n1 c1, .slice A2 n2 c2, .slice A0 k c0], .int .i64 0]) (by simp [results, Tryz.results31, go_sem, R4.cell 0 _ rfl, R4.cell 1 _ rfl, R4.cell 2 _ rfl]) rfl ?_
        rw [HE.out, HL.out]
        exact ⟨⟨_, _, _, _, _, _, _, _, _, rfl, by omega, by omega, by omega, (HG.out.far3 D.lt _ _ _).up (one_alloc _ _)⟩, by (repeat (first | exact Below.refl _ _ | assumption | refine Below.alloc ?_ (by first | omega | (simp only [World.size_alloc]; omega) | (simp; done) | (simp; omega)) _ | refine Below.setCell ?_ (by first | omega | (simp only [World.size_alloc]; omega) | (simp; done) | (simp; omega)) _ | refine Below.drew ?_ | refine below_drewN ?_ _))⟩
end Go.Proofs.YtdokpmfejibdlaaGreatDoor
