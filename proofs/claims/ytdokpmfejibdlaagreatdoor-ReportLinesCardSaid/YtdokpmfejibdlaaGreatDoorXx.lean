/- Chapter 54: the reference's matrix and pairs (13). -/
import Derived.Test.YtdokpmfejibdlaaGreatDoorXw
set_option linter.unusedSimpArgs false
set_option linter.unusedVariables false
namespace Go.Proofs.YtdokpmfejibdlaaGreatDoor
open Go.RowKit

/-- A row in the making: the first k numbers stand, the rest are 0. -/
def rowK (g : Gr) (o : Int) (k : Nat) : List Int := (g.rev.take k).map (fun r => (cntL g o r : Int)) ++ List.replicate (g.rev.length - k) 0
def matK (g : Gr) (i : Nat) : List (List Int) := (g.obv.take i).map (fun o => g.rev.map (fun r => (cntL g o r : Int)))
theorem matK_zero (g : Gr) : matK g 0 = [] := rfl
theorem matK_succ {g : Gr} {i : Nat} {o : Int} (h : g.obv[i]? = some o) : matK g (i + 1) = matK g i ++ [g.rev.map (fun r => (cntL g o r : Int))] := by
 unfold matK; rw [takeSnocW h, List.map_append]; rfl
theorem matK_all {g : Gr} {n : Nat} (h : g.obv.length = n) : matK g n = matrixG g := by
 unfold matK matrixG; rw [← h, List.take_length]
theorem matK_len {g : Gr} {i : Nat} (h : i ≤ g.obv.length) : (matK g i).length = i := by unfold matK; rw [List.length_map, List.length_take]; omega
theorem rowK_zero {g : Gr} {o : Int} {m : Nat} (h : g.rev.length = m) : rowK g o 0 = List.replicate m 0 := by unfold rowK; rw [h]; simp
theorem rowK_len {g : Gr} {o : Int} {k : Nat} (h : k ≤ g.rev.length) : (rowK g o k).length = g.rev.length := by unfold rowK; simp; omega
theorem rowK_all {g : Gr} {o : Int} {m : Nat} (h : g.rev.length = m) : rowK g o m = g.rev.map (fun r => (cntL g o r : Int)) := by
 unfold rowK; rw [← h, List.take_length, Nat.sub_self]; simp
theorem rowK_set {g : Gr} {o : Int} {k : Nat} (h : k < g.rev.length) (x : Int) : (rowK g o k).set k x = (g.rev.take k).map (fun r => (cntL g o r : Int)) ++ x :: List.replicate (g.rev.length - (k + 1)) 0 := by
 unfold rowK
 have hl : ((g.rev.take k).map (fun r => (cntL g o r : Int))).length = k := by rw [List.length_map, List.length_take]; omega
 rw [List.set_append_right _ _ (by omega), hl, Nat.sub_self, show g.rev.length - k = (g.rev.length - (k + 1)) + 1 by omega, List.replicate_succ, List.set_cons_zero]
theorem rowK_same {g : Gr} {o : Int} {k : Nat} (h : k < g.rev.length) : (rowK g o k).set k 0 = rowK g o k := by
 rw [rowK_set h]
 unfold rowK
 rw [show g.rev.length - k = (g.rev.length - (k + 1)) + 1 by omega, List.replicate_succ]
theorem rowK_succ {g : Gr} {o r : Int} {k : Nat} (h : g.rev[k]? = some r) : (rowK g o k).set k (cntL g o r : Int) = rowK g o (k + 1) := by
 have hk := (List.getElem?_eq_some_iff.1 h).1
 rw [rowK_set hk]
 unfold rowK
 rw [takeSnocW h, List.map_append]
 simp
theorem cntT_zero (g : Gr) (o r : Int) : cntT g 0 o r = 0 := by unfold cntT; simp
theorem cntT_all {g : Gr} {j : Nat} (h : g.links.length = j) (o r : Int) : cntT g j o r = (cntL g o r : Int) := by unfold cntT cntL; rw [← h, List.take_length]
theorem cntT_hit {g : Gr} {j : Nat} {x : Lnk} {o r : Int} (h : g.links[j]? = some x) (h1 : x.obv = o) (h2 : x.rev = r) : cntT g (j + 1) o r = cntT g j o r + 1 := by
 unfold cntT
 rw [takeSnocW h, List.countP_append, List.countP_singleton, if_pos (by simp [h1, h2])]
 omega
theorem cntT_miss {g : Gr} {j : Nat} {x : Lnk} {o r : Int} (h : g.links[j]? = some x) (h1 : ¬ (x.obv = o ∧ x.rev = r)) : cntT g (j + 1) o r = cntT g j o r := by
 unfold cntT
 rw [takeSnocW h, List.countP_append, List.countP_singleton, if_neg (by simpa using h1)]
 omega
/-- Pairs, one after the other. -/
def prK (g : Gr) (o : Int) (k : Nat) : List (Int × Int) := ((g.rev.take k).filter (fun r => decide (0 < cntL g o r))).map (fun r => (o, r))
def prsK (g : Gr) (i : Nat) : List (Int × Int) := (g.obv.take i).flatMap (fun o => prK g o g.rev.length)
theorem prK_zero (g : Gr) (o : Int) : prK g o 0 = [] := rfl
theorem prsK_zero (g : Gr) : prsK g 0 = [] := rfl
theorem prsK_succ {g : Gr} {i : Nat} {o : Int} (h : g.obv[i]? = some o) : prsK g (i + 1) = prsK g i ++ prK g o g.rev.length := by
 unfold prsK; rw [takeSnocW h, List.flatMap_append]; simp
theorem prK_succ {g : Gr} {o r : Int} {k : Nat} (h : g.rev[k]? = some r) : prK g o (k + 1) = prK g o k ++ (if 0 < cntL g o r then [(o, r)] else []) := by
 unfold prK
 rw [takeSnocW h, List.filter_append, List.map_append]
 congr 1
 by_cases c : 0 < cntL g o r
 ·rw [if_pos c, List.filter_cons_of_pos (by simpa using c)]; rfl
 ·rw [if_neg c, List.filter_cons_of_neg (by simpa using c)]; rfl
theorem prsK_all {g : Gr} {n : Nat} (h : g.obv.length = n) : prsK g n = pairsG g := by
 unfold prsK pairsG prK
 rw [← h, List.take_length, List.take_length]
theorem prK_len (g : Gr) (o : Int) (k : Nat) : (prK g o k).length ≤ k := by
 unfold prK
 rw [List.length_map]
 refine Nat.le_trans (List.length_filter_le _ _) ?_
 rw [List.length_take]; omega
theorem prsK_len {g : Gr} (hg : GrOk g) : ∀ i : Nat, i ≤ g.obv.length → (prsK g i).length ≤ 32 * i
 | 0, _ => by rw [prsK_zero]; simp
 | i + 1, h => by
  rw [prsK_succ (List.getElem?_eq_getElem (show i < g.obv.length by omega)), List.length_append]
  have := prsK_len hg i (by omega)
  have := prK_len g (g.obv[i]'(by omega)) g.rev.length
  have := hg.lr
  omega
theorem partI_ge0 (g : Gr) (i : Nat) : (0 : Int) ≤ (partI g i : Int) := Int.natCast_nonneg _
theorem apart_new {w : World} {B B' n n' s s' : Nat} {e e' : TypeId} {u v : Value} {xs ys : List Value} {S : Nat} (hu : w.ownsRow B e s u n xs) (hS : S ≤ B) {w0 : World} (hv : w0.ownsRow B' e' s' v n' ys) (h0 : w0.heap.size ≤ S) : u.ownBlock = none ∨ u.ownBlock ≠ v.ownBlock := by
 by_cases e0 : u.ownBlock = none
 ·exact .inl e0
 ·refine .inr fun e1 => ?_
  obtain ⟨b, hb⟩ := Option.ne_none_iff_exists'.1 e0
  have h1 := (hu.lt b hb).1
  have h2 := (hv.lt b (e1 ▸ hb)).2
  omega
set_option maxRecDepth 100000 in
set_option maxHeartbeats 8000000 in
theorem rchains14_any (A : Option Addr) (n c : Nat) (B : Option Addr) (m d : Nat) (C : Option Addr) (k l : Nat) (g : Gr) (w : World) (hG : GrM w A n B m C k g) (hg : GrOk g) :
  Calls Tryz.prog 41 #[.agg #[.slice A n c, .slice B m d, .slice C k l]] w (ChainsW w (chainsG g) 0) := by
 have HP : Hid (∀ W, Below w.heap.size w W → Calls Tryz.prog 81 #[.agg #[.slice A n c, .slice B m d, .slice C k l]] W (NumsW W (partsG g) 0)) := fun W hW => rparts14_any A n c B m d C k l g W (hG.up hW) hg
 have HD : Hid (∀ W, Below w.heap.size w W → Calls Tryz.prog 52 #[.agg #[.slice A n c, .slice B m d, .slice C k l]] W (DiesW W (diesG g) 0)) := fun W hW => rdies13_any A n c B m d C k l g W (hG.up hW) hg
 have HNU : Hid (∀ W, Below w.heap.size w W → Calls Tryz.prog 82 #[.agg #[.slice A n c, .slice B m d, .slice C k l]] W fun e w' => e = .returned (.int .i64 ((cntF g (diesG g).length : Nat) : Int)) ∧ Below W.heap.size W w') := fun W hW => rnumber14_any A n c B m d C k l g W (hG.up hW) hg
 have hN : (diesG g).length ≤ 64 := by rw [diesG_len]; have := hg.lo; have := hg.lr; omega
 have hcl := cntF_le g (diesG g).length
 have HCG : Hid (chainsG g = (List.range (cntF g (diesG g).length)).map (chainG g)) := rfl
 clear hG hg
 obtain ⟨i0, hib, hz0, hz1, hz2⟩ := info_parts Tryz.infoDi
 obtain ⟨i1, hj', hy0, hy1, hy2⟩ := info_parts Tryz.infoRD
 have D2' : Bx (w.alloc (.cells #[.slice A n c, .slice B m d, .slice C k l] 52)) w.heap.size [.slice A n c, .slice B m d, .slice C k l] := Bx.new w [.slice A n c, .slice B m d, .slice C k l] 52
 have hb : Below w.heap.size w (w.alloc (.cells #[.slice A n c, .slice B m d, .slice C k l] 52)) := one_alloc _ _
 go_enter Tryz.func41, Tryz.ntmps41
 go_wp2_with fail
 generalize w.alloc (.cells #[.slice A n c, .slice B m d, .slice C k l] 52) = w0 at *
 refine (HD.out _ hb).mono ?_; rintro e w1 ⟨⟨A2, n2, c2, rfl, hn2, hc2, hS2⟩, hb1⟩
 replace hb := below_keep' hb hb1
 replace D2' := D2'.up hb1
 clear hb1
 obtain ⟨g0, g1, g2⟩ := bx3 D2'
 go_wp2_with fail
 refine (HP.out _ hb).mono ?_; rintro e w2 ⟨⟨A1, n1, c1, rfl, hn1, hS1⟩, hb2⟩
 have HBX : Hid (∀ W, Below w2.heap.size w2 W → W.cell? ⟨w.heap.size, 0, none⟩ = some (.slice A n c) ∧ W.cell? ⟨w.heap.size, 1, none⟩ = some (.slice B m d) ∧ W.cell? ⟨w.heap.size, 2, none⟩ = some (.slice C k l)) := fun W hW => bx3 ((D2'.up hb2).up hW)
 have HUW : Hid (∀ W, Below w2.heap.size w2 W → Below w.heap.size w W) := fun W hW => below_keep' (below_keep' hb hb2) hW
 have HSP : Hid (∀ W, Below w2.heap.size w2 W → Sl W 0 W.heap.size 1 encI A1 n1 (partsG g)) := fun W hW => hS1.up hW (Nat.le_refl _) (Nat.le_refl _)
 have HSD : Hid (∀ W, Below w2.heap.size w2 W → Sl W 0 W.heap.size 2 encD A2 n2 (diesG g)) := fun W hW => Sl.up (Sl.up hS2 hb2 (Nat.le_refl _) (Nat.le_refl _)) hW (Nat.le_refl _) (Nat.le_refl _)
 obtain rfl : n1 = n2 := by rw [← hS1.len, ← hS2.len, partsG_len]
 have HLN : Hid ((diesG g).length = n1) := hS2.len
 have hn64 : n1 ≤ 64 := by have := HLN.out; omega
 clear hS1 hS2 D2' hb hb2 g0 g1 g2 hn1 hn2 HP HD
 obtain ⟨cn, hcn⟩ : ∃ cn, cn = cntF g (diesG g).length := ⟨_, rfl⟩
 rw [← hcn] at HCG HNU hcl
 clear hcn
 go_wp2_with fail
 go_loopw [8, 9] (fun v kk wr => ∃ (q : Nat) (vs : List Value), q ≤ cn ∧ kk = .int .i64 (q : Int) ∧ RoR wr w2.heap.size 70 72 2 encD v vs ((List.range q).map (chainG g)) ∧ Below w2.heap.size w2 wr) (fun _ kk _ => cn - (intOf kk).toNat)
 case atStart => exact ⟨0, [], by omega, rfl, RoR.nil _ _, Below.refl _ _⟩
 case round =>
  obtain ⟨q, vs, hq, rfl, hR, hbr⟩ := hrel
  obtain ⟨g0, g1, g2⟩ := HBX.out _ hbr
  go_wp2_with fail
  refine (HNU.out _ (HUW.out _ hbr)).mono ?_; rintro e w5 ⟨rfl, hb5⟩
  replace hR := hR.up hb5
  replace hbr := below_keep' hbr hb5
  clear g0 g1 g2 hb5
  have hcsl : ((List.range q).map (chainG g)).length = q := by simp
  obtain ⟨Ao, co, rfl, hco⟩ := own_form hR.out
  rw [hcsl]
  by_cases hlt : q < cn
  ·go_wp2_with fail
   go_loopw [10, 11] (fun v2 ii wp => ∃ i : Nat, i ≤ n1 ∧ ii = .int .i64 (i : Int) ∧ wp.ownsRow w5.heap.size 72 2 v2 (chainT g i q).length ((chainT g i q).flatMap encD) ∧ Below w5.heap.size w5 wp) (fun _ ii _ => n1 - (intOf ii).toNat)
   case atStart => exact ⟨0, by omega, rfl, World.ownsRow_nil _ _ _ _, Below.refl _ _⟩
   case round =>
    obtain ⟨i, hi, rfl, hown, hbp⟩ := hrel
    rename World => wp
    have hcl2 := chainT_len (g := g) (i := i) (k := q)
    by_cases hlp : i < n1
    ·obtain ⟨bp, op, x, rfl, hbb, hx, x0⟩ := (HSP.out _ (below_keep' hbr hbp)).in_ hlp
     obtain rfl := partsG_get hx
     obtain ⟨bd, od, dd, rfl, hbd, hdd, d0, d1⟩ := (HSD.out _ (below_keep' hbr hbp)).di hlp
     have HCS := Lib.hid (chainT_succ (k := q) hdd)
     clear hx hdd
     obtain ⟨Ak, ck, rfl, hck⟩ := own_form hown
     generalize chainT g i q = cs at *
     by_cases he : partI g i = q
     ·have heb : ((partI g i : Int) == (q : Int)) = true := by simp [he]
      have HC2 : Hid (chainT g (i + 1) q = cs ++ [dd]) := by show _ = _; rw [HCS.out, if_pos he]
      clear he HCS
      generalize partI g i = pj at *
      go_wp2_with (at_builtin; refine wpList_append_own _ rfl _ _ 70 rfl w5.heap.size 72 i0 (.agg #[.int .i64 0, .int .i64 0]) 2 16 Tryz.underlying70 hib hz0 hz1 hz2 rfl (by decide) _ _ _ rfl (hown.alloc _) ⟨wp.heap.size, 0, none⟩ 1 1 [.int .i64 dd.side, .int .i64 dd.num] rfl rfl ?c1 ?c2 ?c3 ?c4 ?c5 ?_)
      case c1 => exact cell_list_at (by simp) _ _
      case c2 => exact encD_one dd
      case c3 => unfold maxLen; omega
      case c4 => omega
      case c5 => have := hbp.size; simp; omega
      intro v' w6 hown' hgrow _
      have hb6 : Below w5.heap.size w5 w6 := Below.grown (hbp.alloc hbp.size _) hgrow (by have := hbp.size; simp; omega) (fun g hg => by have := (hown.lt g hg).1; omega)
      clear hgrow hown hbp
      go_wp2_with fail
      exact ⟨⟨i + 1, by omega, by go_num, by rw [HC2.out, List.length_append, List.flatMap_append]; exact hown', hb6⟩, by simp [intOf]; omega⟩
     ·have heb : ((partI g i : Int) == (q : Int)) = false := by simp; omega
      have HC2 : Hid (chainT g (i + 1) q = cs) := by show _ = _; rw [HCS.out, if_neg he, List.append_nil]
      clear he HCS
      generalize partI g i = pj at *
      go_wp2_with fail
      exact ⟨⟨i + 1, by omega, by go_num, by rw [HC2.out]; exact hown, hbp⟩, by simp [intOf]; omega⟩
    ·obtain rfl : i = n1 := by omega
     have HCA : Hid (chainT g i q = chainG g q) := by show _ = _; rw [← HLN.out]; rfl
     rw [HCA.out] at hown hcl2
     obtain ⟨Ak, ck, rfl, hck⟩ := own_form hown
     have HCL : Hid ((List.range (q + 1)).map (chainG g) = (List.range q).map (chainG g) ++ [chainG g q]) := by show _ = _; rw [List.range_succ, List.map_append]; rfl
     generalize (List.range q).map (chainG g) = css at *
     generalize chainG g q = cs at *
     have hR9 := hR.up hbp
     have hout := hR9.out
     rw [hcsl] at hout
     have hap := fun (kk : Nat) (u' : Value) (hu : vs[kk]? = some u') => apart_new (S := w5.heap.size) hown (Nat.le_refl _) (hR.row kk u' _ hu (List.getElem?_eq_getElem (by have := (List.getElem?_eq_some_iff.1 hu).1; rw [hR.len] at this; exact this))) (Nat.le_refl _)
     have huo := apart_new (S := w5.heap.size) hown (Nat.le_refl _) hR.out (Nat.le_refl _)
     rw [hcsl] at huo
     have hz25 := hbr.size
     go_wp2_with (at_builtin; refine wpList_append_own _ rfl _ _ 58 rfl w2.heap.size 70 i1 (.slice none 0 0) 1 24 Tryz.underlying58 hj' hy0 hy1 hy2 rfl (by decide) _ _ _ rfl (hout.alloc _) ⟨wp.heap.size, 0, none⟩ 1 1 [.slice Ak cs.length ck] rfl rfl ?c1 ?c2 ?c3 ?c4 ?c5 ?_)
     case c1 => exact cell_list_at (by simp) _ _
     case c2 => simp [Value.oneCell']
     case c3 => unfold maxLen; omega
     case c4 => omega
     case c5 => have := hbp.size; simp; omega
     intro v' w6 hown6 hgrow _
     have hR10 := (hR9.up (one_alloc wp (.cells #[.slice Ak cs.length ck] 70))).push (u := .slice Ak cs.length ck) (cs := cs) (by decide) (by rw [hcsl]; exact hown6) (by rw [hcsl]; exact hgrow) ((hown.mono hz25).alloc _) (by rw [hcsl]; exact huo) hap
     rw [← HCL.out] at hR10
     have hb6 := below_row ((below_keep' hbr hbp).alloc (by have := hbp.size; omega) (.cells #[.slice Ak cs.length ck] 70)) (hout.alloc _) hgrow (Nat.le_refl _) (Nat.le_refl _)
     clear hgrow hown6 hR9 hR hown hout hap huo
     go_wp2_with fail
     exact ⟨⟨q + 1, _, by omega, by go_num, hR10, hb6⟩, by simp [intOf]; omega⟩
  ·obtain rfl : q = cn := by omega
   rw [← HCG.out] at hR
   have HLC : Hid ((chainsG g).length = q) := by show _ = _; rw [HCG.out]; exact hcsl
   clear HCG hcsl
   go_wp2_with fail
   go_ret2
   exact ⟨⟨Ao, q, co, vs, by go_num, by omega, HLC.out.symm, by rw [← HLC.out]; exact hR.mono (HUW.out _ (Below.refl _ _)).size⟩, HUW.out _ hbr⟩
theorem rowPut {w : World} {base gr n cap k : Nat} {xs : List Int} (h : w.ownsRow base 3 1 (.slice (some ⟨gr, 0, none⟩) n cap) n (xs.flatMap encI)) (x : Int) : (w.setCell ⟨gr, k, none⟩ (.int .i64 x)).ownsRow base 3 1 (.slice (some ⟨gr, 0, none⟩) n cap) n ((xs.set k x).flatMap encI) := by
 obtain ⟨hst, _⟩ := h.stored k (.int .i64 x)
 rw [encI_flat, List.map_set, ← encI_flat]
 exact hst
set_option maxRecDepth 100000 in
set_option maxHeartbeats 8000000 in
theorem rmatrix13_any (A : Option Addr) (n c : Nat) (B : Option Addr) (m d : Nat) (C : Option Addr) (k l : Nat) (g : Gr) (w : World) (hG : GrM w A n B m C k g) (hg : GrOk g) :
  Calls Tryz.prog 47 #[.agg #[.slice A n c, .slice B m d, .slice C k l]] w (MatW w (matrixG g) 0) := by
 have hn : n ≤ 32 := by have := hG.obv.len; have := hg.lo; omega
 have hm : m ≤ 32 := by have := hG.rev.len; have := hg.lr; omega
 have hk : k ≤ 64 := by have := hG.links.len; have := hg.ll; omega
 have HV : Hid (∀ W, Below w.heap.size w W → Calls Tryz.prog 88 #[.agg #[.slice A n c, .slice B m d, .slice C k l]] W fun e w' => e = .returned (.bool true) ∧ Below W.heap.size W w') := fun W hW => rvalid13_yes A n c B m d C k l g W (hG.up hW) hg
 have HLO := Lib.hid hG.obv.len
 have HLR := Lib.hid hG.rev.len
 have HLN := Lib.hid hG.links.len
 have HSO : Hid (∀ W, Below w.heap.size w W → Sl W 0 W.heap.size 1 encI A n g.obv) := fun W hW => hG.obv.up hW (Nat.le_refl _) (Nat.le_refl _)
 have HSR : Hid (∀ W, Below w.heap.size w W → Sl W 0 W.heap.size 1 encI B m g.rev) := fun W hW => hG.rev.up hW (Nat.le_refl _) (Nat.le_refl _)
 have HSL : Hid (∀ W, Below w.heap.size w W → Sl W 0 W.heap.size 3 encL C k g.links) := fun W hW => hG.links.up hW (Nat.le_refl _) (Nat.le_refl _)
 clear hG hg
 obtain ⟨i0, hib, hz0, hz1, hz2⟩ := info_parts Tryz.infoI
 obtain ⟨i1, hj', hy0, hy1, hy2⟩ := info_parts Tryz.infoRI
 have D2' : Bx (w.alloc (.cells #[.slice A n c, .slice B m d, .slice C k l] 52)) w.heap.size [.slice A n c, .slice B m d, .slice C k l] := Bx.new w [.slice A n c, .slice B m d, .slice C k l] 52
 have hb : Below w.heap.size w (w.alloc (.cells #[.slice A n c, .slice B m d, .slice C k l] 52)) := one_alloc _ _
 go_enter Tryz.func47, Tryz.ntmps47
 go_wp2_with fail
 generalize w.alloc (.cells #[.slice A n c, .slice B m d, .slice C k l] 52) = w0 at *
 refine (HV.out _ hb).mono ?_; rintro e w1 ⟨rfl, hb1⟩
 have HBX : Hid (∀ W, Below w1.heap.size w1 W → W.cell? ⟨w.heap.size, 0, none⟩ = some (.slice A n c) ∧ W.cell? ⟨w.heap.size, 1, none⟩ = some (.slice B m d) ∧ W.cell? ⟨w.heap.size, 2, none⟩ = some (.slice C k l)) := fun W hW => bx3 ((D2'.up hb1).up hW)
 have HUW : Hid (∀ W, Below w1.heap.size w1 W → Below w.heap.size w W) := fun W hW => below_keep' (below_keep' hb hb1) hW
 clear D2' hb hb1 HV
 go_wp2_with fail
 go_loopw [4, 5] (fun v i wr => ∃ (j : Nat) (vs : List Value), j ≤ n ∧ i = .int .i64 (j : Int) ∧ RoR wr w1.heap.size 36 3 1 encI v vs (matK g j) ∧ Below w1.heap.size w1 wr) (fun _ i _ => n - (intOf i).toNat)
 case atStart => exact ⟨0, [], by omega, rfl, RoR.nil _ _, Below.refl _ _⟩
 case round =>
  obtain ⟨j, vs, hj, rfl, hR, hbr⟩ := hrel
  rename World => wo
  obtain ⟨g0, g1, g2⟩ := HBX.out _ hbr
  have hcsl : (matK g j).length = j := matK_len (by rw [HLO.out]; exact hj)
  obtain ⟨Ao, co, rfl, hco⟩ := own_form hR.out
  rw [hcsl]
  by_cases hlt : j < n
  ·obtain ⟨bo, oo, o, rfl, hbo, ho, o0⟩ := (HSO.out _ (HUW.out _ hbr)).in_ hlt
   have HMS := Lib.hid (matK_succ ho)
   have HOC : Hid (∀ W, Below wo.heap.size wo W → W.cell? ⟨bo, oo + j, none⟩ = some (.int .i64 o)) := fun W hW => (hW.cell (p := ⟨bo, oo + j, none⟩) hbo).trans o0
   clear ho o0
   go_wp2_with (refine wpList_make_full _ rfl _ _ 36 rfl wo.heap.size 3 i0 (.int .i64 0) 1 Tryz.underlying36 hib hz0 hz1 .i64 .i64 _ _ m rfl rfl rfl rfl (by rw [hz2]; omega) (by unfold maxLen; omega) (by omega) ?_; intro w3 hown3 hg3)
   have hb3 : Below wo.heap.size wo w3 := ⟨hg3.os, hg3.tape, hg3.output, hg3.size, fun k hk => hg3.block k hk (by simp)⟩
   have hrow3 : w3.ownsRow wo.heap.size 3 1 (.slice (some ⟨wo.heap.size, 0, none⟩) m m) m ((rowK g o 0).flatMap encI) := by
    rw [rowK_zero HLR.out, encI_flat, List.map_replicate]
    have h := hown3
    rw [show (Value.int .i64 0).cells = #[Value.int .i64 0] from rfl, Nat.mul_one, toList_madeCells_one] at h
    exact h
   clear hown3 hg3 g0 g1 g2
   obtain ⟨rb, hrb⟩ : ∃ rb, rb = wo.heap.size := ⟨_, rfl⟩
   rw [← hrb] at hrow3
   go_wp2_with fail
   simp only [← hrb]
   have HRB := Lib.hid hrb
   clear hrb
   go_loopw [7] (fun kk wp => ∃ p : Nat, p ≤ m ∧ kk = .int .i64 (p : Int) ∧ wp.ownsRow rb 3 1 (.slice (some ⟨rb, 0, none⟩) m m) m ((rowK g o p).flatMap encI) ∧ Below wo.heap.size wo wp) (fun kk _ => m - (intOf kk).toNat)
   case atStart => exact ⟨0, by omega, rfl, hrow3, hb3⟩
   case round =>
    clear hrow3 hb3
    obtain ⟨p, hp, rfl, hrow, hbp⟩ := hrel
    rename World => wp
    obtain ⟨g0, g1, g2⟩ := HBX.out _ (below_keep' hbr hbp)
    by_cases hlp : p < m
    ·obtain ⟨br, orr, r, rfl, hbb, hr, r0⟩ := (HSR.out _ (HUW.out _ hbr)).in_ hlp
     have HRS := Lib.hid (rowK_succ (o := o) hr)
     have HR0 := Lib.hid (rowK_same (o := o) (show p < g.rev.length by rw [HLR.out]; exact hlp))
     have hrl := rowK_len (g := g) (o := o) (show p ≤ g.rev.length by rw [HLR.out]; exact hp)
     rw [HLR.out] at hrl
     have HRC : Hid (∀ W, Below wo.heap.size wo W → W.cell? ⟨br, orr + p, none⟩ = some (.int .i64 r)) := fun W hW => (hW.cell (p := ⟨br, orr + p, none⟩) hbb).trans r0
     have HRC' : Hid (∀ q : Nat, ((rowK g o p).set p (cntT g q o r)).length = m) := fun q => by rw [List.length_set]; exact hrl
     clear hr r0
     generalize rowK g o p = rw0 at *
     go_wp2_with fail
     clear g0 g1 g2
     go_loopw [8] (fun jj wq => ∃ q : Nat, q ≤ k ∧ jj = .int .i64 (q : Int) ∧ wq.ownsRow rb 3 1 (.slice (some ⟨rb, 0, none⟩) m m) m ((rw0.set p (cntT g q o r)).flatMap encI) ∧ Below wo.heap.size wo wq) (fun jj _ => k - (intOf jj).toNat)
     case atStart => exact ⟨0, by omega, rfl, by rw [cntT_zero, HR0.out]; exact hrow, hbp⟩
     case round =>
      clear hrow hbp
      obtain ⟨q, hq, rfl, hrow, hbq⟩ := hrel
      rename World => wq
      obtain ⟨g0, g1, g2⟩ := HBX.out _ (below_keep' hbr hbq)
      have hcnt := cntT_le g q o r
      by_cases hlq : q < k
      ·obtain ⟨bl, ol, x, rfl, hbl, hx, x0, x1, x2⟩ := (HSL.out _ (HUW.out _ (below_keep' hbr hbq))).ln hlq
       have o0 := HOC.out _ hbq
       have r0 := HRC.out _ hbq
       have u0 : wq.cell? ⟨rb, p, none⟩ = some (.int .i64 (cntT g q o r)) := by
        rw [hrow.cellAt p (by omega), encI_flat, List.getElem?_map, List.getElem?_set_self (by rw [hrl]; exact hlp)]; rfl
       have f0 := hrow.frozenAt p
       have ul := (hrow.lt rb rfl).2
       by_cases he : x.obv = o ∧ x.rev = r
       ·have HC1 := Lib.hid (cntT_hit hx he.1 he.2)
        have e1 : (x.obv == o) = true := by simp [he.1]
        have e2 : (x.rev == r) = true := by simp [he.2]
        have hrow' := fun nn => rowPut (w := wq.drewN nn) (k := p) hrow (cntT g q o r + 1)
        simp only [List.set_set] at hrow'
        have hbq' := fun nn => (below_drewN hbq nn).setCell (p := ⟨rb, p, none⟩) (Nat.le_of_eq HRB.out.symm) (.int .i64 (cntT g q o r + 1))
        clear hx he hrow
        generalize cntT g q o r = cc at *
        go_wp2_with fail
        go_quiet (fail)
        go_wp2_with fail
        exact ⟨⟨q + 1, by omega, by go_num, by rw [HC1.out]; exact hrow' _, hbq' _⟩, by simp [intOf]; omega⟩
       ·have HC1 := Lib.hid (cntT_miss hx he)
        by_cases he1 : x.obv = o
        ·have e1 : (x.obv == o) = true := by simp [he1]
         have e2 : (x.rev == r) = false := by simp; exact fun h => he ⟨he1, h⟩
         clear hx he he1
         go_wp2_with fail
         go_quiet (fail)
         go_wp2_with fail
         exact ⟨⟨q + 1, by omega, by go_num, by rw [HC1.out]; exact hrow, below_drewN hbq _⟩, by simp [intOf]; omega⟩
        ·have e1 : (x.obv == o) = false := by simp; exact he1
         clear hx he he1
         go_wp2_with fail
         go_quiet (fail)
         go_wp2_with fail
         exact ⟨⟨q + 1, by omega, by go_num, by rw [HC1.out]; exact hrow, below_drewN hbq _⟩, by simp [intOf]; omega⟩
      ·obtain rfl : q = k := by omega
       have HCA := Lib.hid (cntT_all HLN.out o r)
       rw [HCA.out, HRS.out] at hrow
       go_wp2_with fail
       exact ⟨⟨p + 1, by omega, by go_num, hrow, hbq⟩, by simp [intOf]; omega⟩
    ·obtain rfl : p = m := by omega
     rw [rowK_all HLR.out] at hrow
     have hlr : (g.rev.map (fun r => (cntL g o r : Int))).length = p := by rw [List.length_map]; exact HLR.out
     generalize g.rev.map (fun r => (cntL g o r : Int)) = cs at *
     generalize matK g j = css at *
     have hR9 := hR.up hbp
     have hout := hR9.out
     rw [hcsl] at hout
     have hap := fun (kk : Nat) (u' : Value) (hu : vs[kk]? = some u') => apart_new (S := wo.heap.size) hrow (Nat.le_of_eq HRB.out.symm) (hR.row kk u' _ hu (List.getElem?_eq_getElem (by have := (List.getElem?_eq_some_iff.1 hu).1; rw [hR.len] at this; exact this))) (Nat.le_refl _)
     have huo := apart_new (S := wo.heap.size) hrow (Nat.le_of_eq HRB.out.symm) hR.out (Nat.le_refl _)
     rw [hcsl] at huo
     have hz25 := hbr.size
     go_wp2_with (at_builtin; refine wpList_append_own _ rfl _ _ 75 rfl w1.heap.size 36 i1 (.slice none 0 0) 1 24 Tryz.underlying75 hj' hy0 hy1 hy2 rfl (by decide) _ _ _ rfl (hout.alloc _) ⟨wp.heap.size, 0, none⟩ 1 1 [.slice (some ⟨rb, 0, none⟩) p p] rfl rfl ?c1 ?c2 ?c3 ?c4 ?c5 ?_)
     case c1 => exact cell_list_at (by simp) _ _
     case c2 => simp [Value.oneCell']
     case c3 => unfold maxLen; omega
     case c4 => omega
     case c5 => have := hbp.size; simp; omega
     intro v' w6 hown6 hgrow _
     have hR10 := (hR9.up (one_alloc wp (.cells #[.slice (some ⟨rb, 0, none⟩) p p] 36))).push (u := .slice (some ⟨rb, 0, none⟩) p p) (cs := cs) (by decide) (by rw [hcsl]; exact hown6) (by rw [hcsl]; exact hgrow) (by rw [hlr]; exact (hrow.mono (by rw [HRB.out]; exact hz25)).alloc _) (by rw [hcsl]; exact huo) hap
     rw [← HMS.out] at hR10
     have hb6 := below_row ((below_keep' hbr hbp).alloc (by have := hbp.size; omega) (.cells #[.slice (some ⟨rb, 0, none⟩) p p] 36)) (hout.alloc _) hgrow (Nat.le_refl _) (Nat.le_refl _)
     clear hgrow hown6 hR9 hR hrow hout hap huo
     go_wp2_with fail
     exact ⟨⟨j + 1, _, by omega, by go_num, hR10, hb6⟩, by simp [intOf]; omega⟩
  ·obtain rfl : j = n := by omega
   have HMA := Lib.hid (matK_all HLO.out)
   rw [HMA.out] at hR hcsl
   have HLC := Lib.hid hcsl
   clear hcsl
   go_wp2_with fail
   go_ret2
   exact ⟨⟨Ao, j, co, vs, by go_num, by omega, HLC.out.symm, by rw [← HLC.out]; exact hR.mono (HUW.out _ (Below.refl _ _)).size⟩, HUW.out _ hbr⟩
set_option maxRecDepth 100000 in
set_option maxHeartbeats 8000000 in
theorem rpairs13_any (A : Option Addr) (n c : Nat) (B : Option Addr) (m d : Nat) (C : Option Addr) (k l : Nat) (g : Gr) (w : World) (hG : GrM w A n B m C k g) (hg : GrOk g) :
  Calls Tryz.prog 40 #[.agg #[.slice A n c, .slice B m d, .slice C k l]] w (PairsW w (pairsG g) 0) := by
 have hn : n ≤ 32 := by have := hG.obv.len; have := hg.lo; omega
 have hm : m ≤ 32 := by have := hG.rev.len; have := hg.lr; omega
 have HM : Hid (∀ W, Below w.heap.size w W → Calls Tryz.prog 47 #[.agg #[.slice A n c, .slice B m d, .slice C k l]] W (MatW W (matrixG g) 0)) := fun W hW => rmatrix13_any A n c B m d C k l g W (hG.up hW) hg
 have HLO := Lib.hid hG.obv.len
 have HLR := Lib.hid hG.rev.len
 have HSO : Hid (∀ W, Below w.heap.size w W → Sl W 0 W.heap.size 1 encI A n g.obv) := fun W hW => hG.obv.up hW (Nat.le_refl _) (Nat.le_refl _)
 have HSR : Hid (∀ W, Below w.heap.size w W → Sl W 0 W.heap.size 1 encI B m g.rev) := fun W hW => hG.rev.up hW (Nat.le_refl _) (Nat.le_refl _)
 have HPK : Hid (∀ i : Nat, i ≤ n → (prsK g i).length ≤ 32 * i) := fun i hi => prsK_len hg i (by rw [hG.obv.len]; exact hi)
 clear hG hg
 obtain ⟨i0, hib, hz0, hz1, hz2⟩ := info_parts Tryz.infoPr
 have D2' : Bx (w.alloc (.cells #[.slice A n c, .slice B m d, .slice C k l] 52)) w.heap.size [.slice A n c, .slice B m d, .slice C k l] := Bx.new w [.slice A n c, .slice B m d, .slice C k l] 52
 have hb : Below w.heap.size w (w.alloc (.cells #[.slice A n c, .slice B m d, .slice C k l] 52)) := one_alloc _ _
 go_enter Tryz.func40, Tryz.ntmps40
 go_wp2_with fail
 generalize w.alloc (.cells #[.slice A n c, .slice B m d, .slice C k l] 52) = w0 at *
 refine (HM.out _ hb).mono ?_; rintro e w1 ⟨⟨A1, n1, c1, vs, rfl, hn1, hl1, hR⟩, hb1⟩
 have HBX : Hid (∀ W, Below w1.heap.size w1 W → W.cell? ⟨w.heap.size, 0, none⟩ = some (.slice A n c) ∧ W.cell? ⟨w.heap.size, 1, none⟩ = some (.slice B m d) ∧ W.cell? ⟨w.heap.size, 2, none⟩ = some (.slice C k l)) := fun W hW => bx3 ((D2'.up hb1).up hW)
 have HUW : Hid (∀ W, Below w1.heap.size w1 W → Below w.heap.size w W) := fun W hW => below_keep' (below_keep' hb hb1) hW
 obtain ⟨bm, hbm⟩ : ∃ bm, bm = w0.heap.size := ⟨_, rfl⟩
 rw [← hbm] at hR
 have HR : Hid (∀ W, Below w1.heap.size w1 W → RoR W bm 36 3 1 encI (.slice A1 n1 c1) vs (matrixG g)) := fun W hW => hR.up hW
 have hvl := hR.len
 obtain rfl : n1 = n := by rw [hl1]; unfold matrixG; rw [List.length_map]; exact HLO.out
 have HL1 := Lib.hid hl1
 rw [← hl1] at hvl
 clear D2' hb hb1 HM hR hl1 hbm hn1
 go_wp2_with fail
 go_loopw [6, 7] (fun v i wr => ∃ j : Nat, j ≤ n1 ∧ i = .int .i64 (j : Int) ∧ wr.ownsRow w1.heap.size 100 2 v (prsK g j).length ((prsK g j).flatMap encE) ∧ Below w1.heap.size w1 wr) (fun _ i _ => n1 - (intOf i).toNat)
 case atStart => exact ⟨0, by omega, rfl, World.ownsRow_nil _ _ _ _, Below.refl _ _⟩
 case round =>
  obtain ⟨j, hj, rfl, hown, hbr⟩ := hrel
  rename World => wo
  obtain ⟨Ak, ck, rfl, hck⟩ := own_form hown
  by_cases hlt : j < n1
  ·obtain ⟨bo, oo, o, rfl, hbo, ho, o0⟩ := (HSO.out _ (HUW.out _ (Below.refl _ _))).in_ hlt
   have HPS := Lib.hid (prsK_succ ho)
   have HRO : Hid ((matrixG g)[j]? = some (g.rev.map (fun r => (cntL g o r : Int)))) := by show _ = _; unfold matrixG; rw [List.getElem?_map, ho]; rfl
   have HOC : Hid (∀ W, Below w1.heap.size w1 W → W.cell? ⟨bo, oo + j, none⟩ = some (.int .i64 o)) := fun W hW => (hW.cell (p := ⟨bo, oo + j, none⟩) hbo).trans o0
   clear ho o0
   obtain ⟨u, hu⟩ : ∃ u, vs[j]? = some u := ⟨_, List.getElem?_eq_getElem (by rw [hvl]; exact hlt)⟩
   have hout1 := (HR.out _ (Below.refl _ _)).out
   rw [← HL1.out] at hout1
   obtain ⟨go, co, hgo⟩ := own_some' hout1 (by omega)
   injection hgo with hgo1 _ hgo2
   subst hgo1 hgo2
   have hrow1 := (HR.out _ (Below.refl _ _)).row j u _ hu HRO.out
   rw [List.length_map, HLR.out] at hrow1
   obtain ⟨Au, cu, rfl, hcu⟩ := own_form hrow1
   have HMC : Hid (∀ W, Below w1.heap.size w1 W → W.cell? ⟨go, j, none⟩ = some (.slice Au m cu)) := fun W hW => by
    have h1 := (HR.out _ hW).out
    rw [← HL1.out] at h1
    exact (h1.cellAt j (by omega)).trans hu
   have m0 := HMC.out _ hbr
   have hgl := (hout1.lt go rfl).2
   have hgl2 := Nat.lt_of_lt_of_le hgl hbr.size
   have HRW : Hid (∀ W, Below w1.heap.size w1 W → W.ownsRow bm 3 1 (.slice Au m cu) m ((g.rev.map (fun r => (cntL g o r : Int))).flatMap encI)) := fun W hW => by
    have h1 := (HR.out _ hW).row j _ _ hu HRO.out
    rwa [List.length_map, HLR.out] at h1
   have hpsl := HPK.out j hj
   have HPZ : Hid (prsK g j = prsK g j ++ prK g o 0) := by show _ = _; rw [prK_zero, List.append_nil]
   have HPE : Hid (prsK g (j + 1) = prsK g j ++ prK g o m) := by show _ = _; rw [HPS.out, HLR.out]
   have HPX : Hid (∀ (p : Nat) (r : Int), g.rev[p]? = some r → prsK g j ++ prK g o (p + 1) = (prsK g j ++ prK g o p) ++ (if 0 < cntL g o r then [(o, r)] else [])) := fun p r h => by rw [prK_succ h, List.append_assoc]
   have HPL : Hid (∀ p : Nat, (prsK g j ++ prK g o p).length ≤ 32 * j + p) := fun p => by rw [List.length_append]; have := prK_len g o p; omega
   clear hu hout1 hrow1
   go_wp2_with fail
   go_loopw [6, 8] (fun v kk wp => ∃ p : Nat, p ≤ m ∧ kk = .int .i64 (p : Int) ∧ wp.ownsRow w1.heap.size 100 2 v (prsK g j ++ prK g o p).length ((prsK g j ++ prK g o p).flatMap encE) ∧ Below w1.heap.size w1 wp) (fun _ kk _ => m - (intOf kk).toNat)
   case atStart => exact ⟨0, by omega, rfl, by first | exact hown | (rw [← HPZ.out]; exact hown), hbr⟩
   case round =>
    clear hown hbr m0 hgl2
    obtain ⟨p, hp, rfl, hown, hbp⟩ := hrel
    rename World => wp
    obtain ⟨Ak, ck, rfl, hck⟩ := own_form hown
    have m0 := HMC.out _ hbp
    have hgl2 := Nat.lt_of_lt_of_le hgl hbp.size
    obtain ⟨g0, g1, g2⟩ := HBX.out _ hbp
    by_cases hlp : p < m
    ·obtain ⟨br, orr, r, rfl, hbb, hr, r0⟩ := (HSR.out _ (HUW.out _ (Below.refl _ _))).in_ hlp
     have hrow := HRW.out _ hbp
     obtain ⟨gr, cr, hgr⟩ := own_some' hrow (by omega)
     injection hgr with hgr1 _ hgr2
     subst hgr1 hgr2
     have x0 : wp.cell? ⟨gr, p, none⟩ = some (.int .i64 (cntL g o r : Int)) := by
      rw [hrow.cellAt p (by omega), encI_flat, List.getElem?_map, List.getElem?_map, hr]; rfl
     have hgrl := (hrow.lt gr rfl).2
     have HP1 := Lib.hid (HPX.out p r hr)
     have HRC : Hid (∀ W, Below w1.heap.size w1 W → W.cell? ⟨br, orr + p, none⟩ = some (.int .i64 r)) := fun W hW => (hW.cell (p := ⟨br, orr + p, none⟩) hbb).trans r0
     have hpl := HPL.out p
     clear hr r0 hrow
     generalize prsK g j ++ prK g o p = ps at *
     by_cases hc : 0 < cntL g o r
     ·have hcb : decide ((0 : Int) < (cntL g o r : Int)) = true := by simp; exact hc
      have HP2 : Hid (prsK g j ++ prK g o (p + 1) = ps ++ [(o, r)]) := by show _ = _; rw [HP1.out, if_pos hc]
      have HB : Hid (∀ W, Below w1.heap.size w1 W → (W.cell? ⟨w.heap.size, 0, none⟩ = some (.slice (some ⟨bo, oo, none⟩) n1 c) ∧ W.cell? ⟨w.heap.size, 1, none⟩ = some (.slice (some ⟨br, orr, none⟩) m d) ∧ W.cell? ⟨w.heap.size, 2, none⟩ = some (.slice C k l)) ∧ (W.cell? ⟨bo, oo + j, none⟩ = some (.int .i64 o) ∧ W.cell? ⟨br, orr + p, none⟩ = some (.int .i64 r))) := fun W hW => ⟨HBX.out _ hW, HOC.out _ hW, HRC.out _ hW⟩
      have hC := hbp.drew
      replace hown : wp.drew.ownsRow w1.heap.size 100 2 (.slice Ak ps.length ck) ps.length (ps.flatMap encE) := hown
      clear HP1 hbp g0 g1 g2
      generalize cntL g o r = cc at *
      go_wp2_with fail
      refine wp_region_noPanic ?_
      refine wp_region_held_drew (S := fun U => (U.cell? ⟨w.heap.size, 0, none⟩ = some (.slice (some ⟨bo, oo, none⟩) n1 c) ∧ U.cell? ⟨w.heap.size, 1, none⟩ = some (.slice (some ⟨br, orr, none⟩) m d) ∧ U.cell? ⟨w.heap.size, 2, none⟩ = some (.slice C k l)) ∧ (U.cell? ⟨bo, oo + j, none⟩ = some (.int .i64 o) ∧ U.cell? ⟨br, orr + p, none⟩ = some (.int .i64 r))) (by kernel_rfl) (HB.out _ hC) (fun hHeld => ?_)
      generalize wp.drew = W6 at *
      refine' takeW 0 ?_ ?_ ?_ (by kernel_rfl) (by kernel_rfl) (by kernel_rfl) (fun _ _ _ h => h) hHeld ?_
      rotate_left 2
      ·(simp only [List.getElem?_toArray, List.getElem?_cons_succ, List.getElem?_cons_zero]; try rfl)
      ·rfl
      ·(intro w hSw; (try dsimp only at hSw); go_simp; first | done | with_reducible rfl)
      (try simp only [Act.put, List.setIfInBounds_toArray, List.set_cons_zero, List.set_cons_succ])
      refine' takeW 1 ?_ ?_ ?_ (by kernel_rfl) (by kernel_rfl) (by kernel_rfl) (fun _ _ _ h => h) hHeld ?_
      rotate_left 2
      ·(simp only [List.getElem?_toArray, List.getElem?_cons_succ, List.getElem?_cons_zero]; try rfl)
      ·rfl
      ·(intro w hSw; (try dsimp only at hSw); go_simp; first | done | with_reducible rfl)
      (try simp only [Act.put, List.setIfInBounds_toArray, List.set_cons_zero, List.set_cons_succ])
      refine' takeW 2 ?_ ?_ ?_ (by kernel_rfl) (by kernel_rfl) (by kernel_rfl) (fun _ _ _ h => h) hHeld ?_
      rotate_left 2
      ·(simp only [List.getElem?_toArray, List.getElem?_cons_succ, List.getElem?_cons_zero]; try rfl)
      ·rfl
      ·(intro w hSw; (try dsimp only at hSw); go_simp; first | done | with_reducible rfl)
      (try simp only [Act.put, List.setIfInBounds_toArray, List.set_cons_zero, List.set_cons_succ])
      refine' takeW 3 ?_ ?_ ?_ (by kernel_rfl) (by kernel_rfl) (by kernel_rfl) (fun _ _ _ h => h) hHeld ?_
      rotate_left 2
      ·(simp only [List.getElem?_toArray, List.getElem?_cons_succ, List.getElem?_cons_zero]; try rfl)
      ·rfl
      ·(intro w hSw; (try dsimp only at hSw); go_simp; first | done | with_reducible rfl)
      (try simp only [Act.put, List.setIfInBounds_toArray, List.set_cons_zero, List.set_cons_succ])
      refine' takeW 4 ?_ ?_ ?_ (by kernel_rfl) (by kernel_rfl) (by kernel_rfl) (fun _ _ _ h => h) hHeld ?_
      rotate_left 2
      ·(simp only [List.getElem?_toArray, List.getElem?_cons_succ, List.getElem?_cons_zero]; try rfl)
      ·rfl
      ·(intro w hSw; (try dsimp only at hSw); go_simp; first | done | with_reducible rfl)
      (try simp only [Act.put, List.setIfInBounds_toArray, List.set_cons_zero, List.set_cons_succ])
      refine' takeW 5 ?_ ?_ ?_ (by kernel_rfl) (by kernel_rfl) (by kernel_rfl) (fun _ _ _ h => h) hHeld ?_
      rotate_left 2
      ·(simp only [List.getElem?_toArray, List.getElem?_cons_succ, List.getElem?_cons_zero]; try rfl)
      ·rfl
      ·(intro w hSw; (try dsimp only at hSw); go_simp; first | done | with_reducible rfl)
      (try simp only [Act.put, List.setIfInBounds_toArray, List.set_cons_zero, List.set_cons_succ])
      refine' takeW 6 ?_ ?_ ?_ (by kernel_rfl) (by kernel_rfl) (by kernel_rfl) (fun _ _ _ h => h) hHeld ?_
      rotate_left 2
      ·(simp only [List.getElem?_toArray, List.getElem?_cons_succ, List.getElem?_cons_zero]; try rfl)
      ·rfl
      ·(intro w hSw; (try dsimp only at hSw); go_simp; first | done | with_reducible rfl)
      (try simp only [Act.put, List.setIfInBounds_toArray, List.set_cons_zero, List.set_cons_succ])
      refine' takeW 7 ?_ ?_ ?_ (by kernel_rfl) (by kernel_rfl) (by kernel_rfl) (fun _ _ _ h => h) hHeld ?_
      rotate_left 2
      ·(simp only [List.getElem?_toArray, List.getElem?_cons_succ, List.getElem?_cons_zero]; try rfl)
      ·rfl
      ·(intro w hSw; (try dsimp only at hSw); go_simp; first | done | with_reducible rfl)
      (try simp only [Act.put, List.setIfInBounds_toArray, List.set_cons_zero, List.set_cons_succ])
      refine' takeW 8 ?_ ?_ ?_ (by kernel_rfl) (by kernel_rfl) (by kernel_rfl) (fun _ _ _ h => h) hHeld ?_
      rotate_left 2
      ·(simp only [List.getElem?_toArray, List.getElem?_cons_succ, List.getElem?_cons_zero]; try rfl)
      ·rfl
      ·(intro w hSw; (try dsimp only at hSw); go_simp; first | done | with_reducible rfl)
      (try simp only [Act.put, List.setIfInBounds_toArray, List.set_cons_zero, List.set_cons_succ])
      refine' takeW 9 ?_ ?_ ?_ (by kernel_rfl) (by kernel_rfl) (by kernel_rfl) (fun _ _ _ h => h) hHeld ?_
      rotate_left 2
      ·(simp only [List.getElem?_toArray, List.getElem?_cons_succ, List.getElem?_cons_zero]; try rfl)
      ·rfl
      ·(intro w hSw; (try dsimp only at hSw); go_simp; first | done | with_reducible rfl)
      (try simp only [Act.put, List.setIfInBounds_toArray, List.set_cons_zero, List.set_cons_succ])
      refine' takeW 10 ?_ ?_ ?_ (by kernel_rfl) (by kernel_rfl) (by kernel_rfl) (fun _ _ _ h => h) hHeld ?_
      rotate_left 2
      ·(simp only [List.getElem?_toArray, List.getElem?_cons_succ, List.getElem?_cons_zero]; try rfl)
      ·rfl
      ·(intro w hSw; (try dsimp only at hSw); go_simp; first | done | with_reducible rfl)
      (try simp only [Act.put, List.setIfInBounds_toArray, List.set_cons_zero, List.set_cons_succ])
      refine' takeW 11 ?_ ?_ ?_ (by kernel_rfl) (by kernel_rfl) (by kernel_rfl) (fun _ _ _ h => h) hHeld ?_
      rotate_left 2
      ·(simp only [List.getElem?_toArray, List.getElem?_cons_succ, List.getElem?_cons_zero]; try rfl)
      ·rfl
      ·(intro w hSw; (try dsimp only at hSw); go_simp; first | done | with_reducible rfl)
      (try simp only [Act.put, List.setIfInBounds_toArray, List.set_cons_zero, List.set_cons_succ])
      refine wpAnyH_ready (rs := [12]) (by kernel_rfl) (by simp) ?_
      refine' AllReadyH.cons ?_ (fun K hK => ?_) AllReadyH.nil
      rotate_left 1
      ·(simp only [List.getElem?_toArray, List.getElem?_cons_succ, List.getElem?_cons_zero]; try rfl)
      (try go_simp)
      have hN := one1 hC [Value.int .i64 o, Value.int .i64 r] 100
      replace hown := hown.alloc (.cells #[Value.int .i64 o, Value.int .i64 r] 100)
      replace hC := hC.alloc hC.size (.cells #[Value.int .i64 o, Value.int .i64 r] 100)
      refine hK.out _ _ (HB.out _ hC) (fun hHeld => ?_)
      clear hK K
      (try simp only [Act.put, List.setIfInBounds_toArray, List.set_cons_zero, List.set_cons_succ])
      refine wpAnyH_ready (rs := [13]) (by kernel_rfl) (by simp) ?_
      refine' AllReadyH.cons ?_ (fun K hK => ?_) AllReadyH.nil
      rotate_left 1
      ·(simp only [List.getElem?_toArray, List.getElem?_cons_succ, List.getElem?_cons_zero]; try rfl)
      refine step_append_sl rfl _ _ 55 rfl w1.heap.size 100 i0 (.agg #[.int .i64 0, .int .i64 0]) 2 16 encE_len encE_one Tryz.underlying55 hib hz0 hz1 hz2 rfl (by decide) (.slice Ak ps.length ck) _ _ rfl hown _ rfl (WOne.sl (enc := encE) (x := (o, r)) hN) (by unfold maxLen; omega) (by omega) hC.size ?_
      intro v7 w7 hO7 hg7
      replace hC := below_row hC hown hg7 (Nat.le_refl _) (Nat.le_refl _)
      clear hown hg7 hN
      refine hK.out _ _ (HB.out _ hC) (fun hHeld => ?_)
      clear hK K
      (try simp only [Act.put, List.setIfInBounds_toArray, List.set_cons_zero, List.set_cons_succ])
      refine' takeW 14 ?_ ?_ ?_ (by kernel_rfl) (by kernel_rfl) (by kernel_rfl) (fun _ _ _ h => h) hHeld ?_
      rotate_left 2
      ·(simp only [List.getElem?_toArray, List.getElem?_cons_succ, List.getElem?_cons_zero]; try rfl)
      ·rfl
      ·(intro w hSw; (try dsimp only at hSw); go_simp; first | done | with_reducible rfl)
      (try simp only [Act.put, List.setIfInBounds_toArray, List.set_cons_zero, List.set_cons_succ])
      refine wpAnyH_done (by kernel_rfl) ?_ _
      refine NoPanic.normal ?_
      clear hHeld
      go_wp2_with fail
      exact ⟨⟨p + 1, by omega, by go_num, by rw [HP2.out, List.length_append, List.flatMap_append]; exact hO7, hC⟩, by simp [intOf]; omega⟩
     ·have hcb : decide ((0 : Int) < (cntL g o r : Int)) = false := by simp; omega
      have HP2 : Hid (prsK g j ++ prK g o (p + 1) = ps) := by show _ = _; rw [HP1.out, if_neg hc, List.append_nil]
      clear HP1
      generalize cntL g o r = cc at *
      go_wp2_with fail
      exact ⟨⟨p + 1, by omega, by go_num, by rw [HP2.out]; exact hown, hbp⟩, by simp [intOf]; omega⟩
    ·obtain rfl : p = m := by omega
     rw [← HPE.out] at hown
     rw [← HPE.out]
     go_wp2_with fail
     exact ⟨⟨j + 1, by omega, by go_num, hown, hbp⟩, by simp [intOf]; omega⟩
  ·obtain rfl : j = n1 := by omega
   have HPA := Lib.hid (prsK_all HLO.out)
   rw [HPA.out] at hown
   have hpl : (pairsG g).length ≤ 1024 := by rw [← HPA.out]; have := HPK.out j (Nat.le_refl _); omega
   have HSL := Lib.hid (Sl.of_own encE_len hown rfl).any
   rw [HPA.out]
   clear hown
   go_wp2_with fail
   go_ret2
   exact ⟨⟨Ak, _, ck, by go_num, by omega, HSL.out⟩, HUW.out _ hbr⟩
end Go.Proofs.YtdokpmfejibdlaaGreatDoor
