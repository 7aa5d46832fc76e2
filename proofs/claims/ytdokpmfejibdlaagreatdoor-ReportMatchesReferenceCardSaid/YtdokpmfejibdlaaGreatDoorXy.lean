/- Chapter 54: the reference's chains and matrix. -/
import Derived.Test.YtdokpmfejibdlaaGreatDoorXx
set_option linter.unusedSimpArgs false
set_option linter.unusedVariables false
namespace Go.Proofs.YtdokpmfejibdlaaGreatDoor
open Go.RowKit

set_option maxRecDepth 100000 in
set_option maxHeartbeats 4000000 in
theorem rchains54_any (A : Option Addr) (len cap : Nat) (xs : List Spm) (w : World) (hlen : len ≤ 1000000) (hS : Sl w 0 w.heap.size 7 encS A len xs) :
  Calls Tryz.prog 15 #[.slice A len cap] w (RepW w (repL xs (chainsL (chainsG (grOf xs)))) (grE xs)) := by
 have HO := Lib.hid (rof_any A len cap xs w hlen hS)
 clear hS
 go_enter Tryz.func15, Tryz.ntmps15
 go_wp2_with fail
 refine HO.out.mono ?_; rintro e w1 ⟨⟨A1, n1, c1, B1, m1, d1, C1, k1, l1, rfl, hn1, hm1, hk1, hG1⟩, hb1⟩
 by_cases he : ¬ grE xs = 0
 ·have hd : (grE xs != 0) = true := by simpa using he
  have HT : Hid (repL xs (chainsL (chainsG (grOf xs))) = []) := if_neg he
  generalize grE xs = code at *
  clear he hG1
  go_wp2_with fail
  go_ret2
  exact ⟨by rw [HT.out]; rfl, hb1.alloc hb1.size _⟩
 replace he := Classical.not_not.1 he
 have HT : Hid (repL xs (chainsL (chainsG (grOf xs))) = chainsL (chainsG (grOf xs))) := if_pos he
 have HE := Lib.hid he
 have HK := Lib.hid (grOk_of he)
 rw [grR_ok he] at hG1
 rw [he]
 generalize grOf xs = g at *
 have hb2 := hb1.alloc hb1.size (.cells #[.slice A1 n1 c1, .slice B1 m1 d1, .slice C1 k1 l1] 52)
 have hG2 := hG1.up (one_alloc w1 (.cells #[.slice A1 n1 c1, .slice B1 m1 d1, .slice C1 k1 l1] 52))
 have D0 := Bx.new w1 [.slice A1 n1 c1, .slice B1 m1 d1, .slice C1 k1 l1] 52
 have D2' : Bx (w1.alloc (.cells #[.slice A1 n1 c1, .slice B1 m1 d1, .slice C1 k1 l1] 52)) w1.heap.size [.slice A1 n1 c1, .slice B1 m1 d1, .slice C1 k1 l1] := D0
 clear D0
 have HC := Lib.hid (rchains14_any A1 n1 c1 B1 m1 d1 C1 k1 l1 g _ hG2 HK.out)
 have HRW := Lib.hid (chainsG_row HK.out)
 generalize chainsG g = css at *
 clear he hG1 hG2 hb1
 go_wp2_with fail
 generalize w1.alloc (.cells #[.slice A1 n1 c1, .slice B1 m1 d1, .slice C1 k1 l1] 52) = w2 at *
 generalize w1.heap.size = bg at *
 clear D2'
 refine HC.out.mono ?_; rintro e w4 ⟨⟨A4, n4, c4, vs, rfl, hn4, hl4, hR⟩, hb4⟩
 have HL4 := Lib.hid hl4
 obtain ⟨base, hbase⟩ : ∃ b, b = w2.heap.size := ⟨_, rfl⟩
 rw [← hbase] at hR
 have HR : Hid (∀ W, Below w4.heap.size w4 W → RoR W base 70 72 2 encD (.slice A4 n4 c4) vs css) := fun W hW => hR.up hW
 have HUW : Hid (∀ W, Below w4.heap.size w4 W → Below w.heap.size w W) := fun W hW => below_keep' (below_keep' hb2 hb4) hW
 have hvl := hR.len
 rw [← hl4] at hvl
 clear hR hl4 hb4 hb2 HC hbase
 go_wp2_with fail
 go_loopw [8, 9] (fun s i wr => ∃ j : Nat, j ≤ n4 ∧ i = .int .i64 (j : Int) ∧ s = .string ⟨((List.range j).flatMap (chainT54 css)).toArray⟩ ∧ Below w4.heap.size w4 wr) (fun _ i _ => n4 - (intOf i).toNat)
 case atStart => exact ⟨0, by omega, rfl, rfl, Below.refl _ _⟩
 case round =>
  obtain ⟨j, hj, rfl, rfl, hbr⟩ := hrel
  rename World => wo
  have hft := flatR_len (m := 410) (chainT54 css) j (fun i hi => chainT54_len HRW.out.2 i (by omega))
  by_cases hlt : j < n4
  ·have hout := (HR.out _ (Below.refl _ _)).out
   rw [← HL4.out] at hout
   obtain ⟨go, co, hgo⟩ := own_some' hout (by omega)
   injection hgo with hgo1 _ hgo2
   subst hgo1 hgo2
   obtain ⟨cj, hcj⟩ : ∃ cj, css[j]? = some cj := ⟨_, List.getElem?_eq_getElem (by rw [← HL4.out]; exact hlt)⟩
   obtain ⟨u, hu⟩ : ∃ u, vs[j]? = some u := ⟨_, List.getElem?_eq_getElem (by rw [hvl]; exact hlt)⟩
   obtain ⟨Ak, ck, rfl, hck⟩ := own_form ((HR.out _ (Below.refl _ _)).row j u cj hu hcj)
   have HMC : Hid (∀ W, Below w4.heap.size w4 W → W.cell? ⟨go, j, none⟩ = some (.slice Ak cj.length ck)) := fun W hW => by
    have h1 := (HR.out _ hW).out
    rw [← HL4.out] at h1
    exact (h1.cellAt j (by omega)).trans hu
   have HSJ : Hid (∀ W, Below w4.heap.size w4 W → Sl W 0 W.heap.size 2 encD Ak cj.length cj) := fun W hW => (Sl.of_own encD_len ((HR.out _ hW).row j _ cj hu hcj) rfl).any
   have hgl := (hout.lt go rfl).2
   have hcl : cj.length ≤ 64 := HRW.out.2 cj (List.mem_of_getElem? hcj)
   have HFS := Lib.hid (flatR_succ (chainT54 css) j)
   have HTJ : Hid (chainT54 css j = Lib.itoa ((j : Int) + 1) ++ [58] ++ cj.flatMap dieT ++ [10]) := by
    show _ = _; unfold chainT54; rw [List.getD_eq_getElem?_getD, hcj]; rfl
   generalize (List.range j).flatMap (chainT54 css) = tj at *
   have hi1 := itoa21 ((j : Int) + 1) (by omega) (by omega)
   have hk1 : IntKind.i64.wrap ((j : Int) + 1) = (j : Int) + 1 := IntWalk.i64_in _ (by omega)
   have HRD : Hid (∀ W, Calls Tryz.prog 43 #[.int .i64 ((j : Int) + 1)] W fun e w' => e = .returned (.string ⟨(Lib.itoa ((j : Int) + 1)).toArray⟩) ∧ Below W.heap.size W w') := fun W => rdec_any _ W (by omega) (by omega)
   generalize Lib.itoa ((j : Int) + 1) = sj at *
   have ha1 := add_lists (P := Tryz.prog) tj sj (by omega)
   have ha2 := add_lists (P := Tryz.prog) (tj ++ sj) [58] (by simp; omega)
   simp only [List.append_assoc, List.cons_append, List.nil_append] at ha1 ha2
   clear hu hcj hout
   go_wp2_with fail
   refine (HRD.out _).mono ?_; rintro e w5 ⟨rfl, hb5⟩
   replace hb5 := below_keep' hbr hb5
   obtain ⟨pre, hpre⟩ : ∃ pre, pre = tj ++ (sj ++ [58]) := ⟨_, rfl⟩
   have hprl : pre.length ≤ 410 * 64 + 25 := by rw [hpre]; simp only [List.length_append, List.length_cons, List.length_nil]; omega
   have HPR := Lib.hid hpre
   go_wp2_with fail
   clear hpre ha1 ha2
   go_loopw [8, 10] (fun s i wq => ∃ q : Nat, q ≤ cj.length ∧ i = .int .i64 (q : Int) ∧ s = .string ⟨(pre ++ (cj.take q).flatMap dieT).toArray⟩ ∧ Below w4.heap.size w4 wq) (fun _ i _ => cj.length - (intOf i).toNat)
   case atStart => exact ⟨0, by omega, rfl, by rw [HPR.out]; simp, hb5⟩
   case round =>
    clear hb5
    obtain ⟨q, hq, rfl, rfl, hbq⟩ := hrel
    rename World => wq
    have m0 := HMC.out _ hbq
    have hgl2 := Nat.lt_of_lt_of_le hgl hbq.size
    have hdl := flatL_len (m := 6) (f := dieT) (l := cj.take q) (fun d _ => dieT_len d)
    rw [List.length_take] at hdl
    by_cases hlt2 : q < cj.length
    ·obtain ⟨b, off, x, rfl, hbb, hx, x0, x1⟩ := (HSJ.out _ hbq).di hlt2
     have HFT := Lib.hid (flatT_snoc (f := dieT) hx)
     have HDT : Hid (dieT x = 32 :: nameL x.side x.num) := rfl
     have hnl := nameL_len x.side x.num
     have HN := Lib.hid (rname_any x.side x.num)
     generalize nameL x.side x.num = nm at *
     generalize (cj.take q).flatMap dieT = dt at *
     have ha1 := add_lists (P := Tryz.prog) (pre ++ dt) [32] (by simp; omega)
     have ha2 := add_lists (P := Tryz.prog) (pre ++ dt ++ [32]) nm (by simp; omega)
     simp only [List.append_assoc, List.cons_append, List.nil_append] at ha1 ha2
     clear hx
     go_wp2_with fail
     refine (HN.out _).mono ?_; rintro e w7 ⟨rfl, hb7⟩
     go_wp2_with fail
     exact ⟨⟨q + 1, by omega, by go_num, by rw [HFT.out, HDT.out], below_keep' hbq hb7⟩, by simp [intOf]; omega⟩
    ·obtain rfl : q = cj.length := by omega
     rw [List.take_length] at hdl
     rw [List.take_length]
     have HTE : Hid (tj ++ chainT54 css j = pre ++ cj.flatMap dieT ++ [10]) := by show _ = _; rw [HTJ.out, HPR.out]; simp
     generalize cj.flatMap dieT = dt at *
     have ha1 := add_lists (P := Tryz.prog) (pre ++ dt) [10] (by simp; omega)
     simp only [List.append_assoc, List.cons_append, List.nil_append] at ha1
     go_wp2_with fail
     exact ⟨⟨j + 1, by omega, by go_num, by rw [HFS.out, HTE.out]; simp, hbq⟩, by simp [intOf]; omega⟩
  ·obtain rfl : j = n4 := by omega
   have HH : Hid (chainsL css = (List.range j).flatMap (chainT54 css)) := by show _ = _; unfold chainsL; rw [← HL4.out]
   generalize (List.range j).flatMap (chainT54 css) = txt at *
   go_wp2_with fail
   go_ret2
   exact ⟨by rw [HT.out, HH.out, HE.out]; rfl, HUW.out _ hbr⟩
set_option maxRecDepth 100000 in
set_option maxHeartbeats 4000000 in
theorem rmatrix54_any (A : Option Addr) (len cap : Nat) (xs : List Spm) (w : World) (hlen : len ≤ 1000000) (hS : Sl w 0 w.heap.size 7 encS A len xs) :
  Calls Tryz.prog 17 #[.slice A len cap] w (RepW w (repL xs (matrixL (grOf xs))) (grE xs)) := by
 have HO := Lib.hid (rof_any A len cap xs w hlen hS)
 clear hS
 go_enter Tryz.func17, Tryz.ntmps17
 go_wp2_with fail
 refine HO.out.mono ?_; rintro e w1 ⟨⟨A1, n1, c1, B1, m1, d1, C1, k1, l1, rfl, hn1, hm1, hk1, hG1⟩, hb1⟩
 by_cases he : ¬ grE xs = 0
 ·have hd : (grE xs != 0) = true := by simpa using he
  have HT : Hid (repL xs (matrixL (grOf xs)) = []) := if_neg he
  generalize grE xs = code at *
  clear he hG1
  go_wp2_with fail
  go_ret2
  exact ⟨by rw [HT.out]; rfl, hb1.alloc hb1.size _⟩
 replace he := Classical.not_not.1 he
 have HT : Hid (repL xs (matrixL (grOf xs)) = matrixL (grOf xs)) := if_pos he
 have HE := Lib.hid he
 have HK := Lib.hid (grOk_of he)
 rw [grR_ok he] at hG1
 rw [he]
 generalize grOf xs = g at *
 have hb2 := hb1.alloc hb1.size (.cells #[.slice A1 n1 c1, .slice B1 m1 d1, .slice C1 k1 l1] 52)
 have hG2 := hG1.up (one_alloc w1 (.cells #[.slice A1 n1 c1, .slice B1 m1 d1, .slice C1 k1 l1] 52))
 have D0 := Bx.new w1 [.slice A1 n1 c1, .slice B1 m1 d1, .slice C1 k1 l1] 52
 have D2' : Bx (w1.alloc (.cells #[.slice A1 n1 c1, .slice B1 m1 d1, .slice C1 k1 l1] 52)) w1.heap.size [.slice A1 n1 c1, .slice B1 m1 d1, .slice C1 k1 l1] := D0
 clear D0
 have HM := Lib.hid (rmatrix13_any A1 n1 c1 B1 m1 d1 C1 k1 l1 g _ hG2 HK.out)
 have HMR := Lib.hid (matrixG_row HK.out)
 have HLO := Lib.hid hG2.obv.len
 have HLR := Lib.hid hG2.rev.len
 have hn32 : n1 ≤ 32 := by have := HLO.out; have := HK.out.lo; omega
 have hm32 : m1 ≤ 32 := by have := HLR.out; have := HK.out.lr; omega
 have HML : Hid ((matrixG g).length = n1) := by show _ = _; rw [matrixG_len, HLO.out]
 have HMT := Lib.hid (fun i => mrowT_len HK.out i)
 have HML54 : Hid (matrixL g = [45] ++ g.rev.flatMap revT ++ [10] ++ (List.range n1).flatMap (mrowT g)) := by show _ = _; rw [← HLO.out]; rfl
 clear he hG1 hb1
 go_wp2_with fail
 generalize w1.alloc (.cells #[.slice A1 n1 c1, .slice B1 m1 d1, .slice C1 k1 l1] 52) = w2 at *
 generalize w1.heap.size = bg at *
 refine HM.out.mono ?_; rintro e w4 ⟨⟨A4, n4, c4, vs, rfl, hn4, hl4, hR⟩, hb4⟩
 have HGO : Hid (∀ W, Below w4.heap.size w4 W → Sl W 0 W.heap.size 1 encI A1 n1 g.obv) := fun W hW => hG2.obv.up (below_keep' hb4 hW) (Nat.le_refl _) (Nat.le_refl _)
 have HGR : Hid (∀ W, Below w4.heap.size w4 W → Sl W 0 W.heap.size 1 encI B1 m1 g.rev) := fun W hW => hG2.rev.up (below_keep' hb4 hW) (Nat.le_refl _) (Nat.le_refl _)
 have HBX : Hid (∀ W, Below w4.heap.size w4 W → W.cell? ⟨bg, 0, none⟩ = some (.slice A1 n1 c1) ∧ W.cell? ⟨bg, 1, none⟩ = some (.slice B1 m1 d1) ∧ W.cell? ⟨bg, 2, none⟩ = some (.slice C1 k1 l1)) := fun W hW => bx3 ((D2'.up hb4).up hW)
 have HUW : Hid (∀ W, Below w4.heap.size w4 W → Below w.heap.size w W) := fun W hW => below_keep' (below_keep' hb2 hb4) hW
 have HL4 := Lib.hid hl4
 obtain ⟨base, hbase⟩ : ∃ b, b = w2.heap.size := ⟨_, rfl⟩
 rw [← hbase] at hR
 have HR : Hid (∀ W, Below w4.heap.size w4 W → RoR W base 36 3 1 encI (.slice A4 n4 c4) vs (matrixG g)) := fun W hW => hR.up hW
 have hvl := hR.len
 rw [← hl4] at hvl
 obtain rfl : n4 = n1 := by rw [hl4, HML.out]
 have hbl : bg < w4.heap.size := (D2'.up hb4).lt
 clear hR hl4 hb4 hb2 HM hbase D2' hG2
 go_wp2_with fail
 go_loopw [8, 9] (fun s i wr => ∃ j : Nat, j ≤ m1 ∧ i = .int .i64 (j : Int) ∧ s = .string ⟨(45 :: (g.rev.take j).flatMap revT).toArray⟩ ∧ Below w4.heap.size w4 wr) (fun _ i _ => m1 - (intOf i).toNat)
 case atStart => exact ⟨0, by omega, rfl, rfl, Below.refl _ _⟩
 case round =>
  obtain ⟨j, hj, rfl, rfl, hbr⟩ := hrel
  rename World => wo
  obtain ⟨g0, g1, g2⟩ := HBX.out _ hbr
  have hrl := flatL_len (m := 6) (f := revT) (l := g.rev.take j) (fun r _ => revT_len r)
  rw [List.length_take] at hrl
  by_cases hlt : j < m1
  ·obtain ⟨b, off, x, rfl, hbb, hx, x0⟩ := (HGR.out _ hbr).in_ hlt
   have HFT := Lib.hid (flatT_snoc (f := revT) hx)
   have HDT : Hid (revT x = 32 :: nameL 1 x) := rfl
   have hnl := nameL_len 1 x
   have HN := Lib.hid (rname_any 1 x)
   generalize nameL 1 x = nm at *
   generalize (g.rev.take j).flatMap revT = dt at *
   have ha1 := add_lists (P := Tryz.prog) (45 :: dt) [32] (by simp; omega)
   have ha2 := add_lists (P := Tryz.prog) (45 :: dt ++ [32]) nm (by simp; omega)
   simp only [List.append_assoc, List.cons_append, List.nil_append] at ha1 ha2
   clear hx
   go_wp2_with fail
   refine (HN.out _).mono ?_; rintro e w7 ⟨rfl, hb7⟩
   go_wp2_with fail
   exact ⟨⟨j + 1, by omega, by go_num, by rw [HFT.out, HDT.out], below_keep' hbr hb7⟩, by simp [intOf]; omega⟩
  ·obtain rfl : j = m1 := by omega
   rw [take_all HLR.out] at hrl
   rw [take_all HLR.out]
   have HHD := Lib.hid HML54.out
   generalize g.rev.flatMap revT = dt at *
   have ha1 := add_lists (P := Tryz.prog) (45 :: dt) [10] (by simp; omega)
   simp only [List.append_assoc, List.cons_append, List.nil_append] at ha1
   obtain ⟨pr0, hpr0⟩ : ∃ p, p = 45 :: (dt ++ [10]) := ⟨_, rfl⟩
   have hpl0 : pr0.length ≤ 6 * 64 + 10 := by rw [hpr0]; simp only [List.length_append, List.length_cons, List.length_nil]; omega
   have HPR0 := Lib.hid hpr0
   have HHD2 : Hid (matrixL g = pr0 ++ (List.range n4).flatMap (mrowT g)) := by show _ = _; rw [HHD.out, hpr0]; simp
   clear hpr0
   go_wp2_with fail
   clear g0 g1 g2 ha1
   go_loopw [8, 10] (fun s i wr => ∃ p : Nat, p ≤ n4 ∧ i = .int .i64 (p : Int) ∧ s = .string ⟨(pr0 ++ (List.range p).flatMap (mrowT g)).toArray⟩ ∧ Below w4.heap.size w4 wr) (fun _ i _ => n4 - (intOf i).toNat)
   case atStart => exact ⟨0, by omega, rfl, by rw [HPR0.out]; simp, hbr⟩
   case round =>
    clear hbr
    obtain ⟨p, hp, rfl, rfl, hbr⟩ := hrel
    rename World => wp
    obtain ⟨g0, g1, g2⟩ := HBX.out _ hbr
    have hft := flatR_len (m := 720) (mrowT g) p (fun i hi => HMT.out i)
    by_cases hlt : p < n4
    ·have hout := (HR.out _ (Below.refl _ _)).out
     rw [HML.out] at hout
     obtain ⟨go, co, hgo⟩ := own_some' hout (by omega)
     injection hgo with hgo1 _ hgo2
     subst hgo1 hgo2
     obtain ⟨cj, hcj⟩ : ∃ cj, (matrixG g)[p]? = some cj := ⟨_, List.getElem?_eq_getElem (by rw [HML.out]; exact hlt)⟩
     obtain ⟨u, hu⟩ : ∃ u, vs[p]? = some u := ⟨_, List.getElem?_eq_getElem (by rw [hvl]; exact hlt)⟩
     obtain ⟨Ak, ck, rfl, hck⟩ := own_form ((HR.out _ (Below.refl _ _)).row p u cj hu hcj)
     have HMC : Hid (∀ W, Below w4.heap.size w4 W → W.cell? ⟨go, p, none⟩ = some (.slice Ak cj.length ck)) := fun W hW => by
      have h1 := (HR.out _ hW).out
      rw [HML.out] at h1
      exact (h1.cellAt p (by omega)).trans hu
     have HSJ : Hid (∀ W, Below w4.heap.size w4 W → Sl W 0 W.heap.size 1 encI Ak cj.length cj) := fun W hW => (Sl.of_own (k := 1) (enc := encI) (fun _ => rfl) ((HR.out _ hW).row p _ cj hu hcj) rfl).any
     have hgl := (hout.lt go rfl).2
     obtain ⟨hcl, hcx⟩ := HMR.out cj (List.mem_of_getElem? hcj)
     have HCX := Lib.hid hcx
     obtain ⟨b, off, x, rfl, hbb, hx, x0⟩ := (HGO.out _ hbr).in_ hlt
     have HFS := Lib.hid (flatR_succ (mrowT g) p)
     have HTJ : Hid (mrowT g p = nameL 0 x ++ cj.flatMap numT ++ [10]) := by
      show _ = _; unfold mrowT; rw [List.getD_eq_getElem?_getD, List.getD_eq_getElem?_getD, hcj, hx]; rfl
     generalize (List.range p).flatMap (mrowT g) = tj at *
     have hi1 := nameL_len 0 x
     have HN := Lib.hid (rname_any 0 x)
     generalize nameL 0 x = nm at *
     have ha1 := add_lists (P := Tryz.prog) (pr0 ++ tj) nm (by simp; omega)
     simp only [List.append_assoc, List.cons_append, List.nil_append] at ha1
     obtain ⟨pre, hpre⟩ : ∃ pre, pre = pr0 ++ (tj ++ nm) := ⟨_, rfl⟩
     have hprl : pre.length ≤ 720 * 64 + 400 := by rw [hpre]; simp only [List.length_append, List.length_cons, List.length_nil]; omega
     have HPR := Lib.hid hpre
     clear hu hcj hout hx hcx hpre
     go_wp2_with fail
     refine (HN.out _).mono ?_; rintro e w5 ⟨rfl, hb5⟩
     replace hb5 := below_keep' hbr hb5
     go_wp2_with fail
     clear g0 g1 g2 x0 ha1
     go_loopw [8, 11] (fun s i wq => ∃ q : Nat, q ≤ cj.length ∧ i = .int .i64 (q : Int) ∧ s = .string ⟨(pre ++ (cj.take q).flatMap numT).toArray⟩ ∧ Below w4.heap.size w4 wq) (fun _ i _ => cj.length - (intOf i).toNat)
     case atStart => exact ⟨0, by omega, rfl, by rw [HPR.out]; simp, hb5⟩
     case round =>
      clear hb5
      obtain ⟨q, hq, rfl, rfl, hbq⟩ := hrel
      rename World => wq
      have m0 := HMC.out _ hbq
      have hgl2 := Nat.lt_of_lt_of_le hgl hbq.size
      have hdl := flatL_len (m := 22) (f := numT) (l := cj.take q) (fun x hx => numT_len (HCX.out x (List.mem_of_mem_take hx)))
      rw [List.length_take] at hdl
      by_cases hlt2 : q < cj.length
      ·obtain ⟨b, off, y, rfl, hbb, hy, y0⟩ := (HSJ.out _ hbq).in_ hlt2
       have HFT := Lib.hid (flatT_snoc (f := numT) hy)
       have hyb := HCX.out y (List.mem_of_getElem? hy)
       have HDT : Hid (numT y = 32 :: Lib.itoa y) := rfl
       have hil := itoa21 y (by omega) (by omega)
       have HRD : Hid (∀ W, Calls Tryz.prog 43 #[.int .i64 y] W fun e w' => e = .returned (.string ⟨(Lib.itoa y).toArray⟩) ∧ Below W.heap.size W w') := fun W => rdec_any y W (by omega) (by omega)
       generalize Lib.itoa y = sy at *
       generalize (cj.take q).flatMap numT = dt2 at *
       have ha1 := add_lists (P := Tryz.prog) (pre ++ dt2) [32] (by simp; omega)
       have ha2 := add_lists (P := Tryz.prog) (pre ++ dt2 ++ [32]) sy (by simp; omega)
       simp only [List.append_assoc, List.cons_append, List.nil_append] at ha1 ha2
       clear hy
       go_wp2_with fail
       refine (HRD.out _).mono ?_; rintro e w7 ⟨rfl, hb7⟩
       go_wp2_with fail
       exact ⟨⟨q + 1, by omega, by go_num, by rw [HFT.out, HDT.out], below_keep' hbq hb7⟩, by simp [intOf]; omega⟩
      ·obtain rfl : q = cj.length := by omega
       rw [List.take_length] at hdl
       rw [List.take_length]
       have HTE : Hid (pr0 ++ (tj ++ mrowT g p) = pre ++ (cj.flatMap numT ++ [10])) := by show _ = _; rw [HTJ.out, HPR.out]; simp
       generalize cj.flatMap numT = dt2 at *
       have ha1 := add_lists (P := Tryz.prog) (pre ++ dt2) [10] (by simp; omega)
       simp only [List.append_assoc, List.cons_append, List.nil_append] at ha1
       go_wp2_with fail
       exact ⟨⟨p + 1, by omega, by go_num, by rw [HFS.out, HTE.out], hbq⟩, by simp [intOf]; omega⟩
    ·obtain rfl : p = n4 := by omega
     generalize (List.range p).flatMap (mrowT g) = txt at *
     go_wp2_with fail
     go_ret2
     exact ⟨by rw [HT.out, HHD2.out, HE.out]; rfl, HUW.out _ hbr⟩
end Go.Proofs.YtdokpmfejibdlaaGreatDoor
