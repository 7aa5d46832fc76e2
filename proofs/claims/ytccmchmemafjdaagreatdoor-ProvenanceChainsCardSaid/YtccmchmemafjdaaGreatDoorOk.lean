/- Chapter 46: reading a listing, the program's. -/
import Derived.Test.YtccmchmemafjdaaGreatDoorOj
set_option linter.unusedSimpArgs false
set_option linter.unusedVariables false
namespace Go.Proofs.YtccmchmemafjdaaGreatDoor
open Go.RowKit

section
variable {w w' : World} {b B D : Nat} {vs : List Value}
theorem Bx.all2 {a0 a1 : Value} (h : Bx w b [a0, a1]) (u0 u1 : Value) : Bx ((w.setCell ⟨b, 0, none⟩ u0).setCell ⟨b, 1, none⟩ u1) b [u0, u1] :=
  (h.set (i := 0) (by simp) u0).set (i := 1) (by simp) u1
theorem below_set2 (h : Below B w w') (hb : B ≤ b) (u0 u1 : Value) : Below B w ((w'.setCell ⟨b, 0, none⟩ u0).setCell ⟨b, 1, none⟩ u1) := (h.setCell hb _).setCell hb _
theorem size_set (w : World) (p : Addr) (u : Value) : (w.setCell p u).heap.size = w.heap.size := by simp [World.setCell]
theorem Sl.set_hi {α : Type} {k n L : Nat} {enc : α → List Value} {A : Option Addr} {xs : List α} (h : Sl w L B k enc A n xs) {p : Addr} (hp : B ≤ p.block) (u : Value) : Sl (w.setCell p u) L B k enc A n xs :=
  h.keep fun b o _ hb => World.cell?_setCell_other w p ⟨b, o, none⟩ u (fun e => by subst e; simp at hp; omega)
end
theorem Tryz.infoSa : (Tryz.prog.info? 57).map (fun i => (i.zero, i.size, i.bytes)) = some (some (.agg #[.int .i64 0, .int .i64 0, .int .i64 0]), 3, 24) := by kernel_rfl
theorem cut_len1 (l p : List UInt8) : (Lib.cut l p).1.length ≤ l.length := by
  unfold Lib.cut
  split
  · simp only [List.length_take]; omega
  · exact Nat.le_refl _
theorem cut_len2 (l p : List UInt8) : (Lib.cut l p).2.1.length ≤ l.length := by
  unfold Lib.cut
  split
  · simp only [List.length_drop]; omega
  · simp
theorem words_count (c : UInt8) : ∀ l : List UInt8, (wordsL c l).length ≤ l.length + 1
  | [] => by simp [wordsL]
  | x :: l => by
    have ih := words_count c l
    have hn := wordsL_ne c l
    unfold wordsL
    split
    · simp; omega
    · split
      · rename_i he; exact absurd he hn
      · rename_i z zs he
        rw [he] at ih
        simp at ih ⊢
        omega
theorem salesW_append : ∀ (a b : List (List UInt8)), salesW (a ++ b) = match salesW a, salesW b with | some x, some y => some (x ++ y) | _, _ => none
  | [], b => by
    rw [List.nil_append]
    cases salesW b <;> rfl
  | p :: a, b => by
    rw [List.cons_append]
    show (match saleW p, salesW (a ++ b) with | some s, some t => some (s :: t) | _, _ => none) = match (match saleW p, salesW a with | some s, some t => some (s :: t) | _, _ => none), salesW b with | some x, some y => some (x ++ y) | _, _ => none
    rw [salesW_append a b]
    cases saleW p <;> cases salesW a <;> cases salesW b <;> rfl
theorem salesW_take {ps : List (List UInt8)} {k : Nat} {p : List UInt8} {ys : List Sal} {x : Sal} (hp : ps[k]? = some p) (h : salesW (ps.take k) = some ys) (hx : saleW p = some x) : salesW (ps.take (k + 1)) = some (ys ++ [x]) := by
  have h1 : salesW [p] = some [x] := by
    show (match saleW p, salesW [] with | some s, some t => some (s :: t) | _, _ => none) = _
    rw [hx]
    rfl
  rw [take_snocS hp, salesW_append, h, h1]
theorem salesW_bad {ps : List (List UInt8)} {k : Nat} {p : List UInt8} (hp : ps[k]? = some p) (hx : saleW p = none) : salesW ps = none := by
  obtain ⟨hk, h2⟩ := List.getElem?_eq_some_iff.1 hp
  have h : ps = ps.take k ++ p :: ps.drop (k + 1) := by
    conv => lhs; rw [← List.take_append_drop k ps]
    rw [List.drop_eq_getElem_cons hk, h2]
  have h1 : salesW (p :: ps.drop (k + 1)) = none := by
    show (match saleW p, salesW (ps.drop (k + 1)) with | some s, some t => some (s :: t) | _, _ => none) = none
    rw [hx]
  rw [h, salesW_append, h1]
  cases salesW (ps.take k) <;> rfl
theorem salesW_len : ∀ {ps : List (List UInt8)} {ys : List Sal}, salesW ps = some ys → ys.length = ps.length
  | [], ys, h => by
    have : [] = ys := by simpa [salesW] using h
    rw [← this]; rfl
  | p :: ps, ys, h => by
    unfold salesW at h
    cases h1 : saleW p with
    | none => rw [h1] at h; cases h
    | some x =>
      cases h2 : salesW ps with
      | none => rw [h1, h2] at h; cases h
      | some t =>
        rw [h1, h2] at h
        have h3 : x :: t = ys := by simpa using h
        rw [← h3, List.length_cons, List.length_cons, salesW_len h2]
theorem resL_no {s : List UInt8} (h : parseP s = none) : resL 3 s = (lstZero, 3) := by unfold resL; rw [h]
theorem resL_eq {s : List UInt8} {x : Lst} (h : parseP s = some x) (ht : (textL x == s) = true) : resL 3 s = (x, 0) := by
  unfold resL
  rw [h]
  simp only
  rw [if_pos (by simpa using ht)]
theorem resL_ne {s : List UInt8} {x : Lst} (h : parseP s = some x) (ht : (textL x == s) = false) : resL 3 s = (lstZero, 3) := by
  unfold resL
  rw [h]
  simp only
  rw [if_neg (by simpa using ht)]
theorem parseP_head {s : List UInt8} (h : ∀ v, Lib.atoiAll (Lib.cut s [58]).1 ≠ .ok v) : parseP s = none := by
  unfold parseP
  cases hc : Lib.atoiAll (Lib.cut s [58]).1 with
  | ok v => exact absurd hc (h v)
  | _ => rfl
theorem parseP_none {s : List UInt8} {v : Int} (h : Lib.atoiAll (Lib.cut s [58]).1 = .ok v) (ht : (Lib.cut s [58]).2.1 = []) : parseP s = some ⟨v, []⟩ := by
  unfold parseP
  rw [h]
  simp only
  rw [if_pos ht]
  rfl
theorem parseP_some {s : List UInt8} {v : Int} (h : Lib.atoiAll (Lib.cut s [58]).1 = .ok v) (ht : (Lib.cut s [58]).2.1 ≠ []) : parseP s = (salesW (wordsL 59 (Lib.cut s [58]).2.1)).map (fun l => ⟨v, l⟩) := by
  unfold parseP
  rw [h]
  simp only
  rw [if_neg ht]
/-- What Parse hands over. -/
def PaOut (x : Lst) (code : Int) (r : Ending) (w' : World) : Prop :=
  ∃ A n c, r = .returned (.tuple #[.agg #[.int .i64 x.id, .slice A n c], .int .i64 code]) ∧ n ≤ 1000001 ∧ SaS w' A n x.sales

set_option maxRecDepth 100000 in
set_option maxHeartbeats 4000000 in
theorem pparse_any (s : List UInt8) (w : World) (hs : s.length ≤ 1000000) (hE : Env w) :
    Calls Tryz.prog 12 #[.string ⟨s.toArray⟩] w fun r w' => PaOut (resL 3 s).1 (resL 3 s).2 r w' ∧ Below w.heap.size w w' := by
  have HEN : Hid (∀ W, Below w.heap.size w W → Env W) := fun W hW => hE.step hW
  clear hE
  obtain ⟨i0, hi, hz0, hz1, hz2⟩ := info_parts Tryz.infoSa
  have h1 := Nat.le_trans (cut_len1 s [58]) hs
  have h2 := Nat.le_trans (cut_len2 s [58]) hs
  go_enter Tryz.func12, Tryz.ntmps12
  go_wp2_with fail
  have R := Bx.new w [.int .i64 0, .slice none 0 0] 24
  refine (cutL s [58] _ hs (HEN.out _ (one_alloc _ _))).mono ?_; rintro r w1 ⟨rfl, hb1⟩
  replace R := R.up hb1
  have hb : Below w.heap.size w w1 := (one_alloc w (.cells #[.int .i64 0, .slice none 0 0] 24)).trans (hb1.mono (by simp))
  clear hb1
  have HPH := Lib.hid (@parseP_head s)
  have HPN : Hid (∀ {v : Int}, Lib.atoiAll (Lib.cut s [58]).1 = .ok v → (Lib.cut s [58]).2.1 = [] → parseP s = some ⟨v, []⟩) := @parseP_none s
  have HPS : Hid (∀ {v : Int}, Lib.atoiAll (Lib.cut s [58]).1 = .ok v → (Lib.cut s [58]).2.1 ≠ [] → parseP s = (salesW (wordsL 59 (Lib.cut s [58]).2.1)).map (fun l => ⟨v, l⟩)) := @parseP_some s
  generalize (Lib.cut s [58]).1 = hd at *
  generalize (Lib.cut s [58]).2.1 = tl at *
  rcases atoi_cases hd with ⟨v, hv⟩ | hv
  rotate_left 1
  · have HR := Lib.hid (resL_no (HPH.out hv))
    have HV2 := Lib.hid hv; clear hv
    go_wp2_with fail
    refine (atoi_err ⟨hd.toArray⟩ _ (by rw [size_mk']; omega) HV2.out (HEN.out _ hb)).mono ?_
    rintro r w2 ⟨⟨q, te, pv, rfl⟩, hb2⟩
    replace R := R.up hb2
    have hbb := below_keep' hb hb2
    clear hb hb2
    have R0 := R.cell 0 _ rfl; have Rf0 := R.frz 0; have R1 := R.cell 1 _ rfl; have Rf1 := R.frz 1; have Rlt := R.lt
    go_wp2_with fail
    refine bodyPost_ret (v := .tuple #[.agg #[.int .i64 0, .slice none 0 0], .int .i64 3]) (by simp [results, Tryz.results12, go_sem, (R.all2 _ _).cell 0 _ rfl, (R.all2 _ _).cell 1 _ rfl]) rfl ?_
    rw [HR.out]
    exact ⟨⟨_, _, _, rfl, by omega, SaS.nil⟩, below_set2 hbb (Nat.le_refl _) _ _⟩
  have HVV := Lib.hid hv
  have HPN1 := Lib.hid (HPN.out hv)
  have HPS1 := Lib.hid (HPS.out hv)
  have HV2 := Lib.hid hv; clear hv HPN HPS HPH
  go_wp2_with fail
  refine (atoi_ok ⟨hd.toArray⟩ v _ (by rw [size_mk']; omega) HV2.out).mono ?_; rintro r w2 ⟨rfl, hb2⟩
  replace R := R.up hb2
  replace hb := below_keep' hb hb2
  clear hb2
  by_cases htl : tl = []
  · have HP := Lib.hid (HPN1.out htl)
    subst htl
    clear HPS1 h2
    go_wp2_with fail
    have O := Bx.new w2 [.int .i64 v, .slice none 0 0] 24
    have hR := R.lt
    have hO := O.lt
    replace R := R.alloc (.cells #[.int .i64 v, .slice none 0 0] 24)
    replace hb := hb.alloc hb.size (.cells #[.int .i64 v, .slice none 0 0] 24)
    generalize w2.alloc (.cells #[.int .i64 v, .slice none 0 0] 24) = W1 at *
    generalize w2.heap.size = bx at *
    have hSx0 : SaS W1 none 0 [] := SaS.nil
    refine (ptext_any v none 0 0 [] _ (HEN.out _ hb) (by unfold maxLen; omega) hSx0).mono ?_; rintro r w5 ⟨rfl, hb5⟩
    replace R := R.up hb5
    replace O := O.up hb5
    replace hb := below_keep' hb hb5
    clear hb5 hSx0
    cases ht : (textL ⟨v, []⟩ == s)
    · have HR := Lib.hid (resL_ne HP.out ht)
      have R0 := R.cell 0 _ rfl; have Rf0 := R.frz 0; have R1 := R.cell 1 _ rfl; have Rf1 := R.frz 1; have Rlt := R.lt
      go_wp2_with fail
      refine bodyPost_ret (v := .tuple #[.agg #[.int .i64 0, .slice none 0 0], .int .i64 3]) (by simp [results, Tryz.results12, go_sem, (R.all2 _ _).cell 0 _ rfl, (R.all2 _ _).cell 1 _ rfl]) rfl ?_
      rw [HR.out]
      exact ⟨⟨_, _, _, rfl, by omega, SaS.nil⟩, below_set2 hb (Nat.le_refl _) _ _⟩
    · have HR := Lib.hid (resL_eq HP.out ht)
      have R0 := R.cell 0 _ rfl; have Rf0 := R.frz 0; have R1 := R.cell 1 _ rfl; have Rf1 := R.frz 1; have Rlt := R.lt
      have O0 := O.cell 0 _ rfl; have O1 := O.cell 1 _ rfl; have Olt := O.lt
      go_wp2_with fail
      refine bodyPost_ret (v := .tuple #[.agg #[.int .i64 v, .slice none 0 0], .int .i64 0]) (by simp [results, Tryz.results12, go_sem, (R.all2 _ _).cell 0 _ rfl, (R.all2 _ _).cell 1 _ rfl]) rfl ?_
      rw [HR.out]
      exact ⟨⟨_, _, _, rfl, by omega, SaS.nil⟩, below_set2 hb (Nat.le_refl _) _ _⟩
  · have HPX := Lib.hid (HPS1.out htl)
    have htl2 : (!tl.isEmpty) = true := by
      cases tl with
      | nil => exact absurd rfl htl
      | cons a r => rfl
    clear HPS1 HPN1 htl
    go_wp2_with fail
    have O := Bx.new w2 [.int .i64 v, .slice none 0 0] 24
    have hRlt := R.lt
    have hw2 := hb.size
    replace R := R.alloc (.cells #[.int .i64 v, .slice none 0 0] 24)
    replace hb := hb.alloc hb.size (.cells #[.int .i64 v, .slice none 0 0] 24)
    have hL0 : w2.heap.size < (w2.alloc (.cells #[.int .i64 v, .slice none 0 0] 24)).heap.size := by simp
    generalize w2.alloc (.cells #[.int .i64 v, .slice none 0 0] 24) = W1 at *
    generalize w2.heap.size = bx at *
    refine (split_any 59 tl _ h2 (HEN.out _ hb)).mono ?_; rintro r w3 ⟨A, cap, rfl, hSw, hb3⟩
    have HML := Lib.hid (words_count 59 tl)
    have HWL : Hid (∀ x ∈ wordsL 59 tl, x.length ≤ 1000000) := fun x hx => Nat.le_trans (wordsL_len 59 tl x hx) h2
    have hmm : (wordsL 59 tl).length ≤ 1000001 := by have := words_count 59 tl; omega
    have HML2 : Hid (∀ q : Nat, (wordsL 59 tl).length = q → q ≤ 1000001) := fun q hq => by omega
    generalize wordsL 59 tl = ps at *
    obtain ⟨m, hm⟩ : ∃ m, m = ps.length := ⟨_, rfl⟩
    rw [← hm] at hSw hmm ⊢
    have HM := Lib.hid hm; clear hm
    replace R := R.up hb3
    replace O := O.up hb3
    replace hb := below_keep' hb hb3
    have hz3 := hb3.size
    clear hb3
    obtain ⟨B0, hB0⟩ : ∃ B0, B0 = w3.heap.size := ⟨_, rfl⟩
    have hzB : B0 ≤ w3.heap.size := by omega
    have hLB : W1.heap.size ≤ B0 := by omega
    have hSw3 : Sl w3 W1.heap.size B0 1 encStr A m ps := by rw [hB0]; exact hSw
    clear hB0 hSw hz3
    generalize W1.heap.size = L0 at *
    go_wp2_with fail
    go_loopw [35] (fun t wr => ∃ (k : Nat) (ys : List Sal) (vv : Value), k ≤ m ∧ t = .int .i64 (k : Int) ∧ ys.length = k ∧ salesW (ps.take k) = some ys ∧ wr.ownsRow B0 57 3 vv k (ys.flatMap encS) ∧ vv.ownBlock ≠ some bx ∧ Bx wr bx [.int .i64 v, vv] ∧ Bx wr w.heap.size [.int .i64 0, .slice none 0 0] ∧ Sl wr L0 B0 1 encStr A m ps ∧ Below w.heap.size w wr ∧ B0 ≤ wr.heap.size) (fun t _ => m - (intOf t).toNat)
    case atStart => exact ⟨0, [], .slice none 0 0, by omega, rfl, rfl, rfl, World.ownsRow_nil _ _ _ _, by simp [Value.ownBlock], O, R, hSw3, hb, hzB⟩
    case round =>
      clear hb R O hSw3 hzB
      obtain ⟨k, ys, vv, hk, rfl, hyl, hsa, hown, hne, O, R, hSw, hb, hzB⟩ := hrel
      have HSA := Lib.hid hsa; clear hsa
      obtain ⟨Av, cv, rfl, _⟩ := own_form hown
      by_cases hlt : k < m
      · have hR := R.lt
        have hOwr := O.lt
        obtain ⟨b, off, p, rfl, _, hbb, hp, c0⟩ := Sl.one_ (enc := fun x : List UInt8 => Value.string ⟨x.toArray⟩) hSw hlt
        have hpl : p.length ≤ 1000000 := HWL.out p (List.mem_of_getElem? hp)
        have htl3 : (Lib.trimPrefix p [32]).length ≤ 1000000 := Nat.le_trans (trimPre_len p [32]) hpl
        have HPK := Lib.hid hp; clear hp hpl
        have hkm : k ≤ 1000000 := by omega
        go_wp2_with fail
        refine (trimPre_any p [32] _).mono ?_; rintro r w4 ⟨rfl, rfl⟩
        have HLT : Hid (Sl (wr.alloc (.cells #[.string ⟨#[]⟩, .string ⟨#[72]⟩, .string ⟨#[76]⟩] 9)) 0 (wr.alloc (.cells #[.string ⟨#[]⟩, .string ⟨#[72]⟩, .string ⟨#[76]⟩] 9)).heap.size 1 encStr (some ⟨wr.heap.size, 0, none⟩) 3 lettersL) := by
          refine ⟨rfl, fun _ => ⟨_, 0, rfl, Nat.zero_le _, by simp, fun i z hz j u hu => ?_⟩⟩
          rcases i with _ | _ | _ | i <;> simp [lettersL] at hz <;> subst hz <;> (rcases j with _ | j <;> simp [encStr] at hu <;> subst hu <;> simp)
        go_wp2_with fail
        refine (numbers_any (Lib.trimPrefix p [32]) _ 3 _ htl3 (HEN.out _ (hb.alloc hb.size _)) HLT.out).mono ?_; rintro r W4 ⟨hnu, hb4⟩
        unfold NumsOut at hnu
        have hsz4 := hb4.size
        rw [World.size_alloc] at hsz4
        have hbU := (one_alloc wr (.cells #[.string ⟨#[]⟩, .string ⟨#[72]⟩, .string ⟨#[76]⟩] 9)).trans (hb4.mono (by simp))
        have hgw : ∀ g, (Value.slice Av k cv).ownBlock = some g → g < wr.heap.size := fun g hg => (hown.lt g hg).2
        replace R := R.up hbU
        replace O := O.up hbU
        replace hown := own_below' hown hbU
        have hSw4 : Sl W4 L0 B0 1 encStr (some ⟨b, off, none⟩) m ps := hSw.below hbU hzB
        have hbw4 := below_keep' hb hbU
        have hzB4 : B0 ≤ W4.drew.heap.size := Nat.le_trans hzB hbU.size
        rw [← saleW_nums] at hnu
        cases hsw : saleW p with
        | none =>
          have HR := Lib.hid (resL_no (show parseP s = none from by rw [HPX.out, salesW_bad HPK.out hsw]; rfl))
          rw [hsw] at hnu
          simp only at hnu
          subst hnu
          clear hsw
          have R0 := R.cell 0 _ rfl; have Rf0 := R.frz 0; have R1 := R.cell 1 _ rfl; have Rf1 := R.frz 1; have Rlt := R.lt
          go_wp2_with fail
          refine bodyPost_ret (v := .tuple #[.agg #[.int .i64 0, .slice none 0 0], .int .i64 3]) (by simp [results, Tryz.results12, go_sem, (R.all2 _ _).cell 0 _ rfl, (R.all2 _ _).cell 1 _ rfl]) rfl ?_
          rw [HR.out]
          exact ⟨⟨_, _, _, rfl, by omega, SaS.nil⟩, below_set2 hbw4 (Nat.le_refl _) _ _⟩
        | some x =>
          rw [hsw] at hnu
          simp only at hnu
          obtain ⟨A3, c3, rfl, hS3⟩ := hnu
          obtain ⟨bn, on, hA3, hbl, hbn, hcell⟩ := hS3.2 (by omega)
          subst hA3
          have n0 : W4.drew.cell? ⟨bn, on, none⟩ = some (.int .i64 x.y) := by have := hcell 0 x.y rfl 0 _ rfl; simpa using this
          have n1 : W4.drew.cell? ⟨bn, on + 1, none⟩ = some (.int .i64 x.h) := by have := hcell 1 x.h rfl 0 _ rfl; simpa using this
          have n2 : W4.drew.cell? ⟨bn, on + 2, none⟩ = some (.int .i64 x.l) := by have := hcell 2 x.l rfl 0 _ rfl; simpa using this
          rw [World.size_alloc] at hbl
          have hOlt := O.lt
          have hnb : (Value.slice Av k cv).ownBlock ≠ some bn := fun h => by have := hgw _ h; omega
          have hOw : bx < wr.heap.size := hOwr
          have hnx : bn ≠ bx := by omega
          have HSX := Lib.hid hsw; clear hsw hcell hS3
          replace O : Bx W4.drew bx [.int .i64 v, .slice Av k cv] := O.up (Below.drew (Below.refl _ _))
          replace hown := own_below' hown (Below.drew (Below.refl W4.heap.size W4))
          have hb4 : Below w.heap.size w W4.drew := Below.drew hbw4
          replace R : Bx W4.drew w.heap.size [.int .i64 0, .slice none 0 0] := R.up (Below.drew (Below.refl _ _))
          replace hSw4 : Sl W4.drew L0 B0 1 encStr (some ⟨b, off, none⟩) m ps := hSw4
          replace hbn : bn < W4.drew.heap.size := hbn
          have hBw : w.heap.size < B0 := by omega
          have hLx : bx < L0 := by omega
          clear hSw hbU hb hbl hgw hbw4 hOlt
          have O0 := O.cell 0 _ rfl
          have O1 := O.cell 1 _ rfl
          have Olt := O.lt
          go_wp2_with fail
          refine wp_region_noPanic ?_
          refine wp_region_held_drew (S := fun U => U.cell? ⟨bn, on, none⟩ = some (.int .i64 x.y) ∧ U.cell? ⟨bn, on + 1, none⟩ = some (.int .i64 x.h) ∧ U.cell? ⟨bn, on + 2, none⟩ = some (.int .i64 x.l)) (by kernel_rfl) ⟨n0, n1, n2⟩ (fun hHeld => ?_)
          refine' takeW 0 ?_ ?_ ?_ (by kernel_rfl) (by kernel_rfl) (by kernel_rfl) (fun _ _ _ h => h) hHeld ?_
          rotate_left 2
          · (simp only [List.getElem?_toArray, List.getElem?_cons_succ, List.getElem?_cons_zero]; rfl)
          · rfl
          · (intro w hSw; (try dsimp only at hSw); go_simp; first | done | with_reducible rfl)
          (try simp only [Act.put, List.setIfInBounds_toArray, List.set_cons_zero, List.set_cons_succ])
          refine' takeW 2 ?_ ?_ ?_ (by kernel_rfl) (by kernel_rfl) (by kernel_rfl) (fun _ _ _ h => h) hHeld ?_
          rotate_left 2
          · (simp only [List.getElem?_toArray, List.getElem?_cons_succ, List.getElem?_cons_zero]; rfl)
          · rfl
          · (intro w hSw; (try dsimp only at hSw); go_simp; first | done | with_reducible rfl)
          (try simp only [Act.put, List.setIfInBounds_toArray, List.set_cons_zero, List.set_cons_succ])
          refine' takeW 3 ?_ ?_ ?_ (by kernel_rfl) (by kernel_rfl) (by kernel_rfl) (fun _ _ _ h => h) hHeld ?_
          rotate_left 2
          · (simp only [List.getElem?_toArray, List.getElem?_cons_succ, List.getElem?_cons_zero]; rfl)
          · rfl
          · (intro w hSw; (try dsimp only at hSw); go_simp; first | done | with_reducible rfl)
          (try simp only [Act.put, List.setIfInBounds_toArray, List.set_cons_zero, List.set_cons_succ])
          refine' takeW 4 ?_ ?_ ?_ (by kernel_rfl) (by kernel_rfl) (by kernel_rfl) (fun _ _ _ h => h) hHeld ?_
          rotate_left 2
          · (simp only [List.getElem?_toArray, List.getElem?_cons_succ, List.getElem?_cons_zero]; rfl)
          · rfl
          · (intro w hSw; (try dsimp only at hSw); go_simp; first | done | with_reducible rfl)
          (try simp only [Act.put, List.setIfInBounds_toArray, List.set_cons_zero, List.set_cons_succ])
          refine' takeW 5 ?_ ?_ ?_ (by kernel_rfl) (by kernel_rfl) (by kernel_rfl) (fun _ _ _ h => h) hHeld ?_
          rotate_left 2
          · (simp only [List.getElem?_toArray, List.getElem?_cons_succ, List.getElem?_cons_zero]; rfl)
          · rfl
          · (intro w hSw; (try dsimp only at hSw); go_simp; first | done | with_reducible rfl)
          (try simp only [Act.put, List.setIfInBounds_toArray, List.set_cons_zero, List.set_cons_succ])
          refine' takeW 6 ?_ ?_ ?_ (by kernel_rfl) (by kernel_rfl) (by kernel_rfl) (fun _ _ _ h => h) hHeld ?_
          rotate_left 2
          · (simp only [List.getElem?_toArray, List.getElem?_cons_succ, List.getElem?_cons_zero]; rfl)
          · rfl
          · (intro w hSw; (try dsimp only at hSw); go_simp; first | done | with_reducible rfl)
          (try simp only [Act.put, List.setIfInBounds_toArray, List.set_cons_zero, List.set_cons_succ])
          refine' takeW 7 ?_ ?_ ?_ (by kernel_rfl) (by kernel_rfl) (by kernel_rfl) (fun _ _ _ h => h) hHeld ?_
          rotate_left 2
          · (simp only [List.getElem?_toArray, List.getElem?_cons_succ, List.getElem?_cons_zero]; rfl)
          · rfl
          · (intro w hSw; (try dsimp only at hSw); go_simp; first | done | with_reducible rfl)
          (try simp only [Act.put, List.setIfInBounds_toArray, List.set_cons_zero, List.set_cons_succ])
          refine' takeW 8 ?_ ?_ ?_ (by kernel_rfl) (by kernel_rfl) (by kernel_rfl) (fun _ _ _ h => h) hHeld ?_
          rotate_left 2
          · (simp only [List.getElem?_toArray, List.getElem?_cons_succ, List.getElem?_cons_zero]; rfl)
          · rfl
          · (intro w hSw; (try dsimp only at hSw); go_simp; first | done | with_reducible rfl)
          (try simp only [Act.put, List.setIfInBounds_toArray, List.set_cons_zero, List.set_cons_succ])
          refine' takeW 9 ?_ ?_ ?_ (by kernel_rfl) (by kernel_rfl) (by kernel_rfl) (fun _ _ _ h => h) hHeld ?_
          rotate_left 2
          · (simp only [List.getElem?_toArray, List.getElem?_cons_succ, List.getElem?_cons_zero]; rfl)
          · rfl
          · (intro w hSw; (try dsimp only at hSw); go_simp; first | done | with_reducible rfl)
          (try simp only [Act.put, List.setIfInBounds_toArray, List.set_cons_zero, List.set_cons_succ])
          refine' takeW 10 ?_ ?_ ?_ (by kernel_rfl) (by kernel_rfl) (by kernel_rfl) (fun _ _ _ h => h) hHeld ?_
          rotate_left 2
          · (simp only [List.getElem?_toArray, List.getElem?_cons_succ, List.getElem?_cons_zero]; rfl)
          · rfl
          · (intro w hSw; (try dsimp only at hSw); go_simp; first | done | with_reducible rfl)
          (try simp only [Act.put, List.setIfInBounds_toArray, List.set_cons_zero, List.set_cons_succ])
          refine' takeW 11 ?_ ?_ ?_ (by kernel_rfl) (by kernel_rfl) (by kernel_rfl) (fun _ _ _ h => h) hHeld ?_
          rotate_left 2
          · (simp only [List.getElem?_toArray, List.getElem?_cons_succ, List.getElem?_cons_zero]; rfl)
          · rfl
          · (intro w hSw; (try dsimp only at hSw); go_simp; first | done | with_reducible rfl)
          (try simp only [Act.put, List.setIfInBounds_toArray, List.set_cons_zero, List.set_cons_succ])
          refine wpAnyH_ready (rs := [1, 12]) (by kernel_rfl) (by simp) ?_
          refine AllReadyH.cons (o := ?o11_1) ?h11_1 (fun K hK => ?s11_1) (AllReadyH.cons (o := ?o11_12) ?h11_12 (fun K hK => ?s11_12) AllReadyH.nil)
          case h11_1 => (simp only [List.getElem?_toArray, List.getElem?_cons_succ, List.getElem?_cons_zero]; rfl)
          case h11_12 => (simp only [List.getElem?_toArray, List.getElem?_cons_succ, List.getElem?_cons_zero]; rfl)
          case s11_1 =>
            (try have O1b : (W4.alloc (.cells #[.int .i64 x.y, .int .i64 x.h, .int .i64 x.l] 57)).drew.cell? ⟨bx, 1, none⟩ = some (.slice Av k cv) := O.cell 1 _ rfl)
            (try go_simp)
            refine hK.out _ _ hHeld (fun hHeld => ?_)
            clear hK K
            (try simp only [Act.put, List.setIfInBounds_toArray, List.set_cons_zero, List.set_cons_succ])
            refine wpAnyH_ready (rs := [12]) (by kernel_rfl) (by simp) ?_
            refine' AllReadyH.cons ?_ (fun K hK => ?_) AllReadyH.nil
            rotate_left 1
            · (simp only [List.getElem?_toArray, List.getElem?_cons_succ, List.getElem?_cons_zero]; rfl)
            (try go_simp)
            replace hown := hown.alloc (.cells #[.int .i64 x.y, .int .i64 x.h, .int .i64 x.l] 57)
            replace O := O.alloc (.cells #[.int .i64 x.y, .int .i64 x.h, .int .i64 x.l] 57)
            have hb5 := one_alloc W4.drew (.cells #[.int .i64 x.y, .int .i64 x.h, .int .i64 x.l] 57)
            refine hK.out _ _ ⟨(hb5.cell (p := ⟨bn, on, none⟩) hbn).trans n0, (hb5.cell (p := ⟨bn, on + 1, none⟩) hbn).trans n1, (hb5.cell (p := ⟨bn, on + 2, none⟩) hbn).trans n2⟩ (fun hHeld => ?_)
            clear hK K
            (try simp only [Act.put, List.setIfInBounds_toArray, List.set_cons_zero, List.set_cons_succ])
            refine wpAnyH_ready (rs := [13]) (by kernel_rfl) (by simp) ?_
            refine' AllReadyH.cons ?_ (fun K hK => ?_) AllReadyH.nil
            rotate_left 1
            · (simp only [List.getElem?_toArray, List.getElem?_cons_succ, List.getElem?_cons_zero]; rfl)
            refine step_append_lies _ rfl (.tmp 50) (.tmp 61) 22 rfl B0 57 i0 (.agg #[.int .i64 0, .int .i64 0, .int .i64 0]) 3 24 Tryz.underlying22 hi hz0 hz1 hz2 rfl (by decide) _ _ _ rfl hown _ 1 1 [.int .i64 x.y, .int .i64 x.h, .int .i64 x.l] rfl rfl (cell_list_at rfl _ _) (by simp [Value.oneCell']) (by decide) (by unfold maxLen; omega) (by omega) (by simp; omega) _ rfl ?_
            intro g cap w6 hown' hgrow hat hlt6
            have O6 := O.grown hgrow hne
            have hb6 := Below.grown ((Below.refl B0 W4.drew).alloc hzB4 _) hgrow (by simp; omega) (fun g hg => (hown.lt g hg).1)
            have hcn : ∀ o, w6.cell? ⟨bn, o, none⟩ = W4.drew.cell? ⟨bn, o, none⟩ := fun o => (World.cell?_of_block (a := ⟨bn, o, none⟩) (hgrow.block bn (Nat.lt_of_lt_of_le hbn hb5.size) (fun h => hnb h.symm))).trans (hb5.cell (p := ⟨bn, o, none⟩) hbn)
            have hgo : g ≠ bx := by rcases hat with h | h; exact fun h' => hne (h.trans (by rw [h'])); (rw [h]; simp; omega)
            have O60 := O6.cell 0 _ rfl
            have O61 := O6.cell 1 _ rfl
            have O6f0 := O6.frz 0
            have O6f1 := O6.frz 1
            have O6lt := O6.lt
            refine hK.out _ _ ⟨(hcn _).trans n0, (hcn _).trans n1, (hcn _).trans n2⟩ (fun hHeld => ?_)
            clear hK K
            (try simp only [Act.put, List.setIfInBounds_toArray, List.set_cons_zero, List.set_cons_succ])
            refine' takeW 14 ?_ ?_ ?_ (by kernel_rfl) (by kernel_rfl) (by kernel_rfl) (fun _ _ _ h => h) hHeld ?_
            rotate_left 2
            · (simp only [List.getElem?_toArray, List.getElem?_cons_succ, List.getElem?_cons_zero]; rfl)
            · rfl
            · (intro w hSw; (try dsimp only at hSw); go_simp; first | done | with_reducible rfl)
            (try simp only [Act.put, List.setIfInBounds_toArray, List.set_cons_zero, List.set_cons_succ])
            refine wpAnyH_ready (rs := [15]) (by kernel_rfl) (by simp) ?_
            refine' AllReadyH.cons ?_ (fun K hK => ?_) AllReadyH.nil
            rotate_left 1
            · (simp only [List.getElem?_toArray, List.getElem?_cons_succ, List.getElem?_cons_zero]; rfl)
            (try go_simp)
            have hcx : ∀ o, (w6.setCell ⟨bx, 1, none⟩ (.slice (some ⟨g, 0, none⟩) (k + 1) cap)).cell? ⟨bn, o, none⟩ = w6.cell? ⟨bn, o, none⟩ := fun o => World.cell?_setCell_other _ _ _ _ (fun e => hnx (by cases e; rfl))
            refine hK.out _ _ ⟨(hcx _).trans hHeld.1, (hcx _).trans hHeld.2.1, (hcx _).trans hHeld.2.2⟩ (fun hHeld => ?_)
            clear hK K
            (try simp only [Act.put, List.setIfInBounds_toArray, List.set_cons_zero, List.set_cons_succ])
            refine wpAnyH_done (by kernel_rfl) ?_ _
            refine NoPanic.normal ?_
            have hz6 := hb6.size
            go_wp2_with fail
            go_roundw
            case rel => exact ⟨k + 1, ys ++ [x], _, by omega, by go_num, by simp [hyl], salesW_take HPK.out HSA.out HSX.out, by rw [List.flatMap_append]; exact ownsRow_setCell_other hown' (by simpa [Value.ownBlock] using hgo) _, by simpa [Value.ownBlock] using hgo, O6.set (i := 1) (by simp) _, (R.keepD hb6 (by omega)).far (by simp; omega) _, (hSw4.below hb6 (Nat.le_refl _)).set_ (by simp; omega) _, (hb4.trans (hb6.mono (by omega))).setCell (by simp; omega) _, by rw [size_set]; omega⟩
            case measure => simp [intOf]; omega
          case s11_12 =>
            (try go_simp)
            replace hown := hown.alloc (.cells #[.int .i64 x.y, .int .i64 x.h, .int .i64 x.l] 57)
            replace O := O.alloc (.cells #[.int .i64 x.y, .int .i64 x.h, .int .i64 x.l] 57)
            have hb5 := one_alloc W4.drew (.cells #[.int .i64 x.y, .int .i64 x.h, .int .i64 x.l] 57)
            refine hK.out _ _ ⟨(hb5.cell (p := ⟨bn, on, none⟩) hbn).trans n0, (hb5.cell (p := ⟨bn, on + 1, none⟩) hbn).trans n1, (hb5.cell (p := ⟨bn, on + 2, none⟩) hbn).trans n2⟩ (fun hHeld => ?_)
            clear hK K
            (try simp only [Act.put, List.setIfInBounds_toArray, List.set_cons_zero, List.set_cons_succ])
            refine wpAnyH_ready (rs := [1]) (by kernel_rfl) (by simp) ?_
            refine' AllReadyH.cons ?_ (fun K hK => ?_) AllReadyH.nil
            rotate_left 1
            · (simp only [List.getElem?_toArray, List.getElem?_cons_succ, List.getElem?_cons_zero]; rfl)
            (try have O1b : (W4.alloc (.cells #[.int .i64 x.y, .int .i64 x.h, .int .i64 x.l] 57)).drew.cell? ⟨bx, 1, none⟩ = some (.slice Av k cv) := O.cell 1 _ rfl)
            (try go_simp)
            refine hK.out _ _ hHeld (fun hHeld => ?_)
            clear hK K
            (try simp only [Act.put, List.setIfInBounds_toArray, List.set_cons_zero, List.set_cons_succ])
            refine wpAnyH_ready (rs := [13]) (by kernel_rfl) (by simp) ?_
            refine' AllReadyH.cons ?_ (fun K hK => ?_) AllReadyH.nil
            rotate_left 1
            · (simp only [List.getElem?_toArray, List.getElem?_cons_succ, List.getElem?_cons_zero]; rfl)
            refine step_append_lies _ rfl (.tmp 50) (.tmp 61) 22 rfl B0 57 i0 (.agg #[.int .i64 0, .int .i64 0, .int .i64 0]) 3 24 Tryz.underlying22 hi hz0 hz1 hz2 rfl (by decide) _ _ _ rfl hown _ 1 1 [.int .i64 x.y, .int .i64 x.h, .int .i64 x.l] rfl rfl (cell_list_at rfl _ _) (by simp [Value.oneCell']) (by decide) (by unfold maxLen; omega) (by omega) (by simp; omega) _ rfl ?_
            intro g cap w6 hown' hgrow hat hlt6
            have O6 := O.grown hgrow hne
            have hb6 := Below.grown ((Below.refl B0 W4.drew).alloc hzB4 _) hgrow (by simp; omega) (fun g hg => (hown.lt g hg).1)
            have hcn : ∀ o, w6.cell? ⟨bn, o, none⟩ = W4.drew.cell? ⟨bn, o, none⟩ := fun o => (World.cell?_of_block (a := ⟨bn, o, none⟩) (hgrow.block bn (Nat.lt_of_lt_of_le hbn hb5.size) (fun h => hnb h.symm))).trans (hb5.cell (p := ⟨bn, o, none⟩) hbn)
            have hgo : g ≠ bx := by rcases hat with h | h; exact fun h' => hne (h.trans (by rw [h'])); (rw [h]; simp; omega)
            have O60 := O6.cell 0 _ rfl
            have O61 := O6.cell 1 _ rfl
            have O6f0 := O6.frz 0
            have O6f1 := O6.frz 1
            have O6lt := O6.lt
            refine hK.out _ _ ⟨(hcn _).trans n0, (hcn _).trans n1, (hcn _).trans n2⟩ (fun hHeld => ?_)
            clear hK K
            (try simp only [Act.put, List.setIfInBounds_toArray, List.set_cons_zero, List.set_cons_succ])
            refine' takeW 14 ?_ ?_ ?_ (by kernel_rfl) (by kernel_rfl) (by kernel_rfl) (fun _ _ _ h => h) hHeld ?_
            rotate_left 2
            · (simp only [List.getElem?_toArray, List.getElem?_cons_succ, List.getElem?_cons_zero]; rfl)
            · rfl
            · (intro w hSw; (try dsimp only at hSw); go_simp; first | done | with_reducible rfl)
            (try simp only [Act.put, List.setIfInBounds_toArray, List.set_cons_zero, List.set_cons_succ])
            refine wpAnyH_ready (rs := [15]) (by kernel_rfl) (by simp) ?_
            refine' AllReadyH.cons ?_ (fun K hK => ?_) AllReadyH.nil
            rotate_left 1
            · (simp only [List.getElem?_toArray, List.getElem?_cons_succ, List.getElem?_cons_zero]; rfl)
            (try go_simp)
            have hcx : ∀ o, (w6.setCell ⟨bx, 1, none⟩ (.slice (some ⟨g, 0, none⟩) (k + 1) cap)).cell? ⟨bn, o, none⟩ = w6.cell? ⟨bn, o, none⟩ := fun o => World.cell?_setCell_other _ _ _ _ (fun e => hnx (by cases e; rfl))
            refine hK.out _ _ ⟨(hcx _).trans hHeld.1, (hcx _).trans hHeld.2.1, (hcx _).trans hHeld.2.2⟩ (fun hHeld => ?_)
            clear hK K
            (try simp only [Act.put, List.setIfInBounds_toArray, List.set_cons_zero, List.set_cons_succ])
            refine wpAnyH_done (by kernel_rfl) ?_ _
            refine NoPanic.normal ?_
            have hz6 := hb6.size
            go_wp2_with fail
            go_roundw
            case rel => exact ⟨k + 1, ys ++ [x], _, by omega, by go_num, by simp [hyl], salesW_take HPK.out HSA.out HSX.out, by rw [List.flatMap_append]; exact ownsRow_setCell_other hown' (by simpa [Value.ownBlock] using hgo) _, by simpa [Value.ownBlock] using hgo, O6.set (i := 1) (by simp) _, (R.keepD hb6 (by omega)).far (by simp; omega) _, (hSw4.below hb6 (Nat.le_refl _)).set_ (by simp; omega) _, (hb4.trans (hb6.mono (by omega))).setCell (by simp; omega) _, by rw [size_set]; omega⟩
            case measure => simp [intOf]; omega
      · obtain rfl : k = m := by omega
        have HP : Hid (parseP s = some ⟨v, ys⟩) := by
          show _ = _
          have h := HSA.out
          rw [take_all HM.out.symm] at h
          rw [HPX.out, h]
          rfl
        have hSx := Sl.of_own (enc := encS) encS_len hown hyl
        have hO := O.lt
        clear hown hSw HSA
        have O0 := O.cell 0 _ rfl; have O1 := O.cell 1 _ rfl; have Olt := O.lt
        go_wp2_with fail
        refine (ptext_any v Av k cv ys _ (HEN.out _ hb) (by unfold maxLen; omega) hSx.any).mono ?_; rintro r w5 ⟨rfl, hb5⟩
        replace R := R.up hb5
        replace O := O.up hb5
        have hSx5 := hSx.up hb5 (Nat.le_refl _) (Nat.le_refl _)
        replace hb := below_keep' hb hb5
        clear hb5 hSx O0 O1 Olt
        cases ht : (textL ⟨v, ys⟩ == s)
        · have HR := Lib.hid (resL_ne HP.out ht)
          have R0 := R.cell 0 _ rfl; have Rf0 := R.frz 0; have R1 := R.cell 1 _ rfl; have Rf1 := R.frz 1; have Rlt := R.lt
          go_wp2_with fail
          refine bodyPost_ret (v := .tuple #[.agg #[.int .i64 0, .slice none 0 0], .int .i64 3]) (by simp [results, Tryz.results12, go_sem, (R.all2 _ _).cell 0 _ rfl, (R.all2 _ _).cell 1 _ rfl]) rfl ?_
          rw [HR.out]
          exact ⟨⟨_, _, _, rfl, by omega, SaS.nil⟩, below_set2 hb (Nat.le_refl _) _ _⟩
        · have HR := Lib.hid (resL_eq HP.out ht)
          have R0 := R.cell 0 _ rfl; have Rf0 := R.frz 0; have R1 := R.cell 1 _ rfl; have Rf1 := R.frz 1; have Rlt := R.lt
          have O0 := O.cell 0 _ rfl; have O1 := O.cell 1 _ rfl; have Olt := O.lt
          go_wp2_with fail
          refine bodyPost_ret (v := .tuple #[.agg #[.int .i64 v, .slice Av k cv], .int .i64 0]) (by simp [results, Tryz.results12, go_sem, (R.all2 _ _).cell 0 _ rfl, (R.all2 _ _).cell 1 _ rfl]) rfl ?_
          rw [HR.out]
          exact ⟨⟨_, _, _, rfl, by omega, ((hSx5.set_ (by simp; omega) _).set_ (by simp; omega) _).any.more (by simp [size_set])⟩, below_set2 hb (Nat.le_refl _) _ _⟩
end Go.Proofs.YtccmchmemafjdaaGreatDoor
