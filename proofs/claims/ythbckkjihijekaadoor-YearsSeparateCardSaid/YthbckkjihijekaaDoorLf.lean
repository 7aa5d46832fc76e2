/- The laws: covers, and that they are separate. -/
import Derived.Test.YthbckkjihijekaaDoorLd
set_option linter.unusedSimpArgs false
set_option linter.unusedVariables false
namespace Go.Proofs.YthbckkjihijekaaDoor
open Go.RowKit

/-- What Cover returns, by the reference. -/
def covV (zs : List (Int × Int)) : List (Int × Int) := if 64 < zs.length then [] else if zs.any invY then [] else rcov zs 19999
def covE (zs : List (Int × Int)) : Int := if 64 < zs.length then 6 else if zs.any invY then 1 else 0
theorem covV_a {zs : List (Int × Int)} (h : 64 < zs.length) : covV zs = [] ∧ covE zs = 6 := by
  unfold covV covE; rw [if_pos h, if_pos h]; exact ⟨rfl, rfl⟩
theorem covV_b {zs : List (Int × Int)} (h : zs.length ≤ 64) (h2 : zs.any invY = true) : covV zs = [] ∧ covE zs = 1 := by
  have h' : ¬ 64 < zs.length := by omega
  unfold covV covE; rw [if_neg h', if_neg h', if_pos h2, if_pos h2]; exact ⟨rfl, rfl⟩
theorem covV_c {zs : List (Int × Int)} (h : zs.length ≤ 64) (h2 : zs.any invY = false) : covV zs = rcov zs 19999 ∧ covE zs = 0 := by
  have h' : ¬ 64 < zs.length := by omega
  have h2' : ¬ zs.any invY = true := by rw [h2]; exact Bool.false_ne_true
  unfold covV covE; rw [if_neg h', if_neg h', if_neg h2', if_neg h2']; exact ⟨rfl, rfl⟩
theorem covV_perm {zs zs' : List (Int × Int)} (h : zs.Perm zs') : covV zs = covV zs' := by
  unfold covV; rw [h.length_eq, any_perm h, rcov_perm h]
theorem covE_perm {zs zs' : List (Int × Int)} (h : zs.Perm zs') : covE zs = covE zs' := by
  unfold covE; rw [h.length_eq, any_perm h]
/-- A pair of a list of years and an error. -/
structure CovRet (w : World) (out : List (Int × Int)) (code : Int) (e : Ending) (w' : World) : Prop where
  out : ∃ A c, e = .returned (.tuple #[.slice A out.length c, .int .i64 code]) ∧ Sl w' w.heap.size w'.heap.size 2 encY A out.length out
  below : Below w.heap.size w w'
theorem cover_v (HC : Hid CoverSaid) (A : Option Addr) (len cap : Nat) (zs : List (Int × Int)) (w : World) (hS : Sl w 0 w.heap.size 2 encY A len zs) (hm : len ≤ maxLen) :
    Calls Tryd.prog 29 #[.slice A len cap] w (CovRet w (covV zs) (covE zs)) :=
  (HC.out A len cap zs w hS hm).mono fun e w' ⟨⟨A', c, out, code, he, hs, hcase⟩, hb⟩ => by
    have h : out = covV zs ∧ code = covE zs := by
      rcases hcase with ⟨h, rfl, rfl⟩ | ⟨h, h2, rfl, rfl⟩ | ⟨h, h2, rfl, ys, hp, hso, rfl⟩
      · exact ⟨(covV_a h).1.symm, (covV_a h).2.symm⟩
      · exact ⟨(covV_b h h2).1.symm, (covV_b h h2).2.symm⟩
      · exact ⟨(cov_rcov h2 hp hso).trans (covV_c h h2).1.symm, (covV_c h h2).2.symm⟩
    obtain ⟨rfl, rfl⟩ := h
    exact ⟨⟨A', c, he, hs⟩, hb⟩
theorem rcover_v (A : Option Addr) (len cap : Nat) (zs : List (Int × Int)) (w : World) (hS : Sl w 0 w.heap.size 2 encY A len zs) (hm : len ≤ maxLen) :
    Calls Tryd.prog 30 #[.slice A len cap] w (CovRet w (covV zs) (covE zs)) :=
  (rcover_any A len cap zs w hS hm).mono fun e w' ⟨⟨A', c, out, code, he, hs, hcase⟩, hb⟩ => by
    have h : out = covV zs ∧ code = covE zs := by
      rcases hcase with ⟨h, rfl, rfl⟩ | ⟨h, h2, rfl, rfl⟩ | ⟨h, h2, rfl, rfl⟩
      · exact ⟨(covV_a h).1.symm, (covV_a h).2.symm⟩
      · exact ⟨(covV_b h h2).1.symm, (covV_b h h2).2.symm⟩
      · exact ⟨(covV_c h h2).1.symm, (covV_c h h2).2.symm⟩
    obtain ⟨rfl, rfl⟩ := h
    exact ⟨⟨A', c, he, hs⟩, hb⟩
theorem inv_bound {zs : List (Int × Int)} (h : zs.any invY = false) (n : Int) (hn : memI zs n) : -9999 ≤ n ∧ n ≤ 9999 := by
  obtain ⟨z, hz, h1, h2⟩ := hn
  have := (validB_iff z.1 z.2).1 (noInv h z hz)
  omega
theorem covV_len {zs : List (Int × Int)} : (covV zs).length ≤ zs.length ∧ (covV zs).length ≤ 64 := by
  unfold covV
  split
  · simp
  · split
    · simp
    · rename_i h1 h2
      have h2' : zs.any invY = false := by simpa using h2
      obtain ⟨ys, hp, hs⟩ : ∃ ys : List (Int × Int), ys.Perm zs ∧ ys.Pairwise fun x y => x.1 ≤ y.1 := by
        refine ⟨zs.mergeSort fun x y => decide (x.1 ≤ y.1), List.mergeSort_perm _ _, ?_⟩
        have h := List.pairwise_mergeSort (le := fun (x y : Int × Int) => decide (x.1 ≤ y.1)) (fun a b c h1 h2 => by simp at h1 h2 ⊢; omega) (fun a b => by simp; omega) zs
        exact h.imp fun h => by simpa using h
      have hl := cov_len ys
      rw [cov_rcov h2' hp hs, hp.length_eq] at hl
      omega
theorem covV_canon {zs : List (Int × Int)} : Canon (covV zs) ∧ ∀ n, memI (covV zs) n → -9999 ≤ n ∧ n ≤ 9999 := by
  unfold covV
  split
  · exact ⟨canon_nil, fun n h => absurd h (memI_nil n)⟩
  · split
    · exact ⟨canon_nil, fun n h => absurd h (memI_nil n)⟩
    · obtain ⟨h1, h2⟩ := rcov_good zs 19999
      exact ⟨h1, fun n h => by have := (h2 n).1 h; omega⟩
theorem covV_own (zs : List (Int × Int)) : covV (covV zs) = covV zs ∧ covE (covV zs) = 0 := by
  obtain ⟨h1, h2⟩ := covV_canon (zs := zs)
  obtain ⟨h3, h4⟩ := cov_own h1 h2
  have hl := (covV_len (zs := zs)).2
  generalize covV zs = c at *
  obtain ⟨h5, h6⟩ := covV_c hl h3
  exact ⟨h5.trans h4, h6⟩
theorem canon_gap {c : List (Int × Int)} (h : Canon c) {k : Nat} {x y : Int × Int} (hx : c[k]? = some x) (hy : c[k + 1]? = some y) : x.2 + 1 < y.1 := by
  obtain ⟨h1, e1⟩ := List.getElem?_eq_some_iff.1 hx
  obtain ⟨h2, e2⟩ := List.getElem?_eq_some_iff.1 hy
  have := List.pairwise_iff_getElem.1 h.gap k (k + 1) h1 h2 (by omega)
  rw [e1, e2] at this
  exact this

set_option maxRecDepth 100000 in
set_option maxHeartbeats 2000000 in
theorem separate_of (HC : Hid CoverSaid) (A : Option Addr) (len cap : Nat) (zs : List (Int × Int)) (w : World) (hE : Env w) (hS : Sl w 0 w.heap.size 2 encY A len zs) (hm : len ≤ maxLen) :
    Calls Tryd.prog 11 #[.slice A len cap] w fun e w' => e = .returned (.bool true) ∧ Below w.heap.size w w' := by
  have hl := hS.len
  unfold maxLen at hm
  by_cases h64 : 64 < len
  · have hz1 : (64 : Int) < (len : Int) := by omega
    clear hS hl h64
    go_enter Tryd.func11, Tryd.ntmps11
    go_wp2_with fail
    go_fit (awake_of HC _ hE)
    rintro e w1 ⟨rfl, hb1⟩
    go_wp2_with fail
    go_fit (awake_of HC _ (hE.step hb1))
    rintro e w2 ⟨rfl, hb2⟩
    go_wp2_with fail
    go_ret
    exact ⟨rfl, hb1.trans (hb2.mono hb1.size)⟩
  · have hz1 : ¬ (64 : Int) < (len : Int) := by omega
    have HS := Lib.hid hS; clear hS
    go_enter Tryd.func11, Tryd.ntmps11
    go_wp2_with fail
    go_fit (awake_of HC _ hE)
    rintro e w1 ⟨rfl, hb⟩
    go_wp2_with fail
    go_fit (cover_v HC A len cap zs w1 (HS.out.up hb (Nat.le_refl _) (Nat.le_refl _)) (by unfold maxLen; omega))
    rintro e w2 ⟨⟨A2, c2, rfl, hS2⟩, hb2⟩
    have hb' := hb.trans (hb2.mono hb.size)
    replace hS2 := hS2.any
    clear hb hb2 HS
    obtain ⟨hl1, hl2⟩ := covV_len (zs := zs)
    obtain ⟨hc1, hc2⟩ := covV_canon (zs := zs)
    obtain ⟨ho1, ho2⟩ := covV_own zs
    have hzero : covE zs ≠ 0 → covV zs = [] := by
      unfold covE covV
      split
      · simp
      · split <;> simp
    generalize covV zs = out at *
    generalize covE zs = code at *
    clear hz1 h64
    by_cases hcode : code = 0
    · subst hcode
      have HZ := Lib.hid hzero; clear hzero
      have HCA := Lib.hid hc1; clear hc1
      have HO1 := Lib.hid ho1
      have HO2 := Lib.hid ho2
      clear ho1 ho2
      go_wp2_with fail
      go_loopw [5] (fun i wr => ∃ k : Nat, 1 ≤ k ∧ (k ≤ out.length ∨ k = 1) ∧ i = .int .i64 k ∧ Below w2.heap.size w2 wr) (fun i _ => out.length - (intOf i).toNat)
      case atStart => exact ⟨1, by omega, by omega, rfl, Below.refl _ _⟩
      case round =>
        obtain ⟨k, hk1, hk2, rfl, hb3⟩ := hrel
        by_cases hlt : k < out.length
        · have hSr := hS2.up hb3 (Nat.le_refl _) (Nat.le_refl _)
          obtain ⟨b, off, x, rfl, _, hbb, hx, hcx⟩ := hSr.at_ (i := k - 1) (by omega)
          obtain ⟨b', off', y, hA, _, hbb', hy, hcy⟩ := hSr.at_ hlt
          simp only [Option.some.injEq, Addr.mk.injEq, and_true] at hA
          obtain ⟨rfl, rfl⟩ := hA
          have hc1 : wr.cell? ⟨b, off + (k - 1) * 2 + 1, none⟩ = some (.int .i64 x.2) := hcx 1 _ rfl
          have hd0 : wr.cell? ⟨b, off + k * 2, none⟩ = some (.int .i64 y.1) := hcy 0 _ rfl
          have hgap := canon_gap HCA.out hx (by rw [show k - 1 + 1 = k from by omega]; exact hy)
          obtain ⟨j, rfl⟩ : ∃ j, k = j + 1 := ⟨k - 1, by omega⟩
          simp only [Nat.add_sub_cancel] at hc1
          have hxm := hc2 x.2 ⟨x, List.mem_of_getElem? hx, HCA.out.ok x (List.mem_of_getElem? hx), Int.le_refl _⟩
          obtain ⟨hx1, hx2⟩ := hxm
          have j0 : (0 : Int) ≤ (j : Int) := by omega
          have j1 : (j : Int) < (out.length : Int) := by omega
          have j2 : (j : Int) + 1 < (out.length : Int) := by omega
          have j3 : (0 : Int) ≤ (j : Int) + 1 := by omega
          clear hcx hcy hx hy hSr hS2 hc2
          go_wp2_with fail
          go_quiet (fail)
          go_wp2_with fail
          go_roundw
          case rel => exact ⟨j + 1 + 1, by omega, by omega, by go_num, by (repeat (first | exact Below.refl _ _ | assumption | refine Below.alloc ?_ (by first | omega | (simp only [World.size_alloc]; omega) | (simp; done) | (simp; omega)) _ | refine Below.setCell ?_ (by first | omega | (simp only [World.size_alloc]; omega) | (simp; done) | (simp; omega)) _ | refine Below.drew ?_ | refine below_drewN ?_ _))⟩
          case measure => simp [intOf]; omega
        · have hkl : ¬ (k : Int) < (out.length : Int) := by omega
          have hSr := hS2.up hb3 (Nat.le_refl _) (Nat.le_refl _)
          have hb := hb'.trans (hb3.mono hb'.size)
          have hcv := cover_v HC A2 out.length c2 out wr hSr (by unfold maxLen; omega)
          rw [HO1.out, HO2.out] at hcv
          have HCV := Lib.hid hcv
          have HSR := Lib.hid hSr
          have hll : (out.length : Int) ≤ (len : Int) := by omega
          clear hcv hSr hS2 hb3 hb' hc2
          go_wp2_with fail
          go_fit HCV.out
          rintro e w3 ⟨⟨A3, c3, rfl, hS3⟩, hb3⟩
          have hb' := hb.trans (hb3.mono hb.size)
          have hS1 := HSR.out.up hb3 (Nat.le_refl _) (Nat.le_refl _)
          have HY := Lib.hid (ylist_any A2 out.length c2 out A3 out.length c3 out w3 (by omega) (by omega) hS1 hS3.any)
          clear hb3 hb HCV HSR hS1 hS3
          go_wp2_with fail
          go_fit HY.out
          rintro e w4 ⟨rfl, hb4⟩
          have hb := hb'.trans (hb4.mono hb'.size)
          clear HY hb' hb4
          simp only [decide_true]
          go_wp2_with fail
          go_ret
          exact ⟨rfl, hb⟩
    · obtain rfl := hzero hcode
      clear hS2 hc1 hc2 ho1 ho2 hzero
      go_wp2_with fail
      go_ret
      exact ⟨rfl, hb'⟩

theorem take_last {α : Type} {zs : List α} {k : Nat} {x : α} (h : zs[k]? = some x) : (zs.drop (k + 1)).reverse ++ [x] = (zs.drop k).reverse := by
  rw [List.drop_eq_getElem_cons (List.getElem?_eq_some_iff.1 h).1, (List.getElem?_eq_some_iff.1 h).2, List.reverse_cons]

set_option maxRecDepth 100000 in
set_option maxHeartbeats 2000000 in
theorem covers_of (HC : Hid CoverSaid) (A : Option Addr) (len cap : Nat) (zs : List (Int × Int)) (w : World) (hE : Env w) (hS : Sl w 0 w.heap.size 2 encY A len zs) (hm : len ≤ maxLen) :
    Calls Tryd.prog 10 #[.slice A len cap] w fun e w' => e = .returned (.bool true) ∧ Below w.heap.size w w' := by
  have hl := hS.len
  unfold maxLen at hm
  by_cases h80 : 80 < len
  · have hz1 : (80 : Int) < (len : Int) := by omega
    clear hS hl h80
    go_enter Tryd.func10, Tryd.ntmps10
    go_wp2_with fail
    go_fit (awake_of HC _ hE)
    rintro e w1 ⟨rfl, hb1⟩
    go_wp2_with fail
    go_fit (awake_of HC _ (hE.step hb1))
    rintro e w2 ⟨rfl, hb2⟩
    go_wp2_with fail
    go_ret
    exact ⟨rfl, hb1.trans (hb2.mono hb1.size)⟩
  · have hz1 : ¬ (80 : Int) < (len : Int) := by omega
    have HS := Lib.hid hS; clear hS
    have hrev : zs.reverse.Perm zs := List.reverse_perm zs
    have hv := covV_perm hrev
    have hc := covE_perm hrev
    have hol := (covV_len (zs := zs)).2
    go_enter Tryd.func10, Tryd.ntmps10
    go_wp2_with fail
    go_fit (awake_of HC _ hE)
    rintro e w1 ⟨rfl, hb⟩
    go_wp2_with fail
    go_fit (cover_v HC A len cap zs w1 (HS.out.up hb (Nat.le_refl _) (Nat.le_refl _)) (by unfold maxLen; omega))
    rintro e w2 ⟨⟨A2, c2, rfl, hS2⟩, hb2⟩
    have hb' := hb.trans (hb2.mono hb.size)
    replace hS2 := hS2.any
    clear hb hb2
    have hrc := rcover_v A len cap zs w2 (HS.out.up hb' (Nat.le_refl _) (Nat.le_refl _)) (by unfold maxLen; omega)
    generalize hout : covV zs = out at *
    generalize hco : covE zs = code at *
    have HV := Lib.hid hv
    have HCE := Lib.hid hc
    have HRC := Lib.hid hrc
    have HS2 := Lib.hid hS2
    clear hv hc hout hco hrev hrc hS2
    go_wp2_with fail
    go_fit HRC.out
    rintro e w3 ⟨⟨A3, c3, rfl, hS3⟩, hb3⟩
    have hb := hb'.trans (hb3.mono hb'.size)
    have hS2 := HS2.out.up hb3 (Nat.le_refl _) (Nat.le_refl _)
    have HY := Lib.hid (ylist_any A2 out.length c2 out A3 out.length c3 out w3 (by omega) (by omega) hS2 hS3.any)
    clear HS2 hb3 hb' HRC hS3
    have HS2 := Lib.hid hS2; clear hS2
    go_wp2_with fail
    go_fit HY.out
    rintro e w4 ⟨rfl, hb4⟩
    have hb' := hb.trans (hb4.mono hb.size)
    have hS2 := HS2.out.up hb4 (Nat.le_refl _) (Nat.le_refl _)
    clear HS2 hb4 hb HY
    have HS2 := Lib.hid hS2; clear hS2
    simp only [decide_true]
    have hS4 := HS.out.up hb' (Nat.le_refl _) (Nat.le_refl _)
    clear HS
    obtain ⟨wo, hwo⟩ : ∃ wo : World, wo = w4 := ⟨_, rfl⟩
    obtain ⟨i0, hi0, hz0, hz1', hz22⟩ := info_parts Tryd.infoY
    clear hz1 h80
    have HS4 := Lib.hid hS4; clear hS4
    go_wp2_with fail
    rw [← hwo] at HS4 HS2 hb'
    go_loopw [7, 8] (fun v i wr => ∃ k : Nat, k ≤ len ∧ i = .int .i64 ((k : Int) - 1) ∧ wr.ownsRow wo.heap.size 23 2 v (len - k) ((zs.drop k).reverse.flatMap encY) ∧ Below wo.heap.size wo wr) (fun _ i _ => (intOf i + 1).toNat)
    case atStart => exact ⟨len, by omega, by go_num, by rw [List.drop_of_length_le (by omega), Nat.sub_self]; exact World.ownsRow_nil _ _ _ _, by rw [hwo]; exact Below.refl _ _⟩
    case round =>
      obtain ⟨m, hmm, rfl, hown, hbm⟩ := hrel
      clear hwo
      obtain ⟨A0, c0, rfl, _⟩ := own_form hown
      rcases Nat.eq_zero_or_pos m with rfl | hmp
      · rw [show (((0 : Nat) : Int) - 1) = -1 from by omega]
        have hSb := (Sl.of_own (enc := encY) encY_len hown (by simp; omega)).any
        rw [List.drop_zero] at hSb
        have hb := hb'.trans (hbm.mono hb'.size)
        have hS2 := HS2.out.up hbm (Nat.le_refl _) (Nat.le_refl _)
        have hcv := cover_v HC A0 (len - 0) c0 zs.reverse wr hSb (by unfold maxLen; omega)
        rw [HV.out, HCE.out] at hcv
        have HCV := Lib.hid hcv
        clear HS2 HS4 hcv hSb hown hbm hb'
        have HS2 := Lib.hid hS2; clear hS2
        go_wp2_with fail
        go_fit HCV.out
        rintro e w5 ⟨⟨A5, c5, rfl, hS5⟩, hb5⟩
        have hb' := hb.trans (hb5.mono hb.size)
        have HY := Lib.hid (ylist_any A5 out.length c5 out A2 out.length c2 out w5 (by omega) (by omega) hS5.any (HS2.out.up hb5 (Nat.le_refl _) (Nat.le_refl _)))
        clear HS2 hb5 hb hS5 HCV
        go_wp2_with fail
        go_fit HY.out
        rintro e w6 ⟨rfl, hb6⟩
        have hb := hb'.trans (hb6.mono hb'.size)
        clear HY hb' hb6
        simp only [decide_true]
        go_wp2_with fail
        go_ret
        exact ⟨rfl, hb⟩
      · obtain ⟨j, rfl⟩ : ∃ j, m = j + 1 := ⟨m - 1, by omega⟩
        rw [show (((j + 1 : Nat) : Int) - 1) = (j : Int) from by omega]
        have hSr := HS4.out.up hbm (Nat.le_refl _) (Nat.le_refl _)
        obtain ⟨b, off, x, rfl, _, hbb, hx, hcx⟩ := hSr.at_ (i := j) (by omega)
        have hc0 : wr.cell? ⟨b, off + j * 2, none⟩ = some (.int .i64 x.1) := hcx 0 _ rfl
        have hc1 : wr.cell? ⟨b, off + j * 2 + 1, none⟩ = some (.int .i64 x.2) := hcx 1 _ rfl
        have HTL := Lib.hid (take_last hx)
        have hzr : wo.heap.size ≤ wr.heap.size := hbm.size
        have j0 : (0 : Int) ≤ (j : Int) := by omega
        have j1 : (j : Int) < (len : Int) := by omega
        have hn1 : len - j = len - (j + 1) + 1 := by omega
        have HN1 := Lib.hid hn1
        clear hx hcx hSr hn1
        generalize hq : len - (j + 1) = q at *
        have hq80 : q ≤ 1000 := by omega
        have HQ := Lib.hid hq
        clear hq
        go_wp2_with (at_builtin; refine wpList_append_own _ rfl _ _ 42 rfl wo.heap.size 23 i0 (.agg #[.int .i64 0, .int .i64 0]) 2 16 Tryd.underlying42 hi0 hz0 hz1' hz22 rfl (by decide) _ _ _ rfl (hown.alloc _) ⟨wr.heap.size, 0, none⟩ 1 1 [.int .i64 x.1, .int .i64 x.2] rfl rfl ?c1 ?c2 ?c3 ?c4 ?c5 ?_)
        case c1 => exact cell_two_at rfl _ _ _
        case c2 => simp [Value.oneCell']
        case c3 => unfold maxLen; omega
        case c4 => omega
        case c5 => first | (simp; done) | (simp; omega)
        · intro v' w5 hown' hgrow _
          have hb5 : Below wo.heap.size wo w5 := Below.grown (hbm.alloc hzr _) hgrow (by simp; omega) (fun g hg => (hown.lt g hg).1)
          clear hgrow hown hbm hc0 hc1
          go_wp2_with fail
          go_roundw
          case rel =>
            refine ⟨j, by omega, by go_num, ?_, hb5⟩
            rw [HN1.out, ← HTL.out]
            simpa [List.flatMap_append, encY] using hown'
          case measure => first | (simp [intOf]; done) | (simp [intOf]; omega)
end Go.Proofs.YthbckkjihijekaaDoor
