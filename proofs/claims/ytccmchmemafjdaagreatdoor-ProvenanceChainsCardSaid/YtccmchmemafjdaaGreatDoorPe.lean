/- Chapter 46: sales of a group, the program's. -/
import Derived.Test.YtccmchmemafjdaaGreatDoorPd
import Derived.Test.YtccmchmemafjdaaGreatDoorOk
set_option linter.unusedSimpArgs false
set_option linter.unusedVariables false
namespace Go.Proofs.YtccmchmemafjdaaGreatDoor
open Go.RowKit

theorem placeI_at {ls : List Lst} {id : Int} (h : id ∈ idsL ls) : ∃ (p : Nat) (x : Lst), placeI ls id = (p : Int) ∧ ls[p]? = some x ∧ x.id = id ∧ p < ls.length := by
  unfold idsL at h
  obtain ⟨y, hy, hyid⟩ := List.mem_map.1 h
  unfold placeI
  cases hf : ls.findIdx? (fun x => x.id == id) with
  | none =>
    rw [List.findIdx?_eq_none_iff] at hf
    have := hf y hy
    simp [hyid] at this
  | some p =>
    rw [List.findIdx?_eq_some_iff_getElem] at hf
    obtain ⟨h1, h2, _⟩ := hf
    exact ⟨p, ls[p], rfl, List.getElem?_eq_getElem h1, by simpa using h2, h1⟩
theorem flatS_inv {xs : List Sal} {j : Nat} {u : Value} (h : (xs.flatMap encS)[j]? = some u) : ∃ i x t, xs[i]? = some x ∧ (encS x)[t]? = some u ∧ j = i * 3 + t ∧ i < xs.length := by
  have hj : j < xs.length * 3 := by
    have := (List.getElem?_eq_some_iff.1 h).1
    rwa [flat_len encS_len] at this
  have hi : j / 3 < xs.length := by omega
  have ht : j % 3 < (encS xs[j / 3]).length := by rw [encS_len]; omega
  have h1 := flat_at encS_len xs (j / 3) xs[j / 3] (j % 3) _ (List.getElem?_eq_getElem hi) (List.getElem?_eq_getElem ht)
  rw [show j / 3 * 3 + j % 3 = j by omega, h] at h1
  refine ⟨j / 3, xs[j / 3], j % 3, List.getElem?_eq_getElem hi, ?_, by omega, hi⟩
  rw [List.getElem?_eq_getElem ht]
  exact h1.symm
theorem SaS.news {w : World} {bs offs n : Nat} {xs : List Sal} (h : SaS w (some ⟨bs, offs, none⟩) n xs) : ∀ j u, (xs.flatMap encS)[j]? = some u → w.cell? ((⟨bs, offs, none⟩ : Addr).add j) = some u := fun j u hu => by
  obtain ⟨i, x, t, hx, ht, rfl, hi⟩ := flatS_inv hu
  obtain ⟨b, off, x', hA, _, _, hx', hc⟩ := h.at_ (i := i) (by rw [← Sl.len h]; exact hi)
  cases hA
  have : x' = x := Option.some.inj (hx'.symm.trans hx)
  subst this
  have := hc t u ht
  rw [Addr.add]
  split
  · rename_i h0
    have h00 : i * 3 + t = 0 := by simpa using h0
    obtain rfl : i = 0 := by omega
    obtain rfl : t = 0 := by omega
    simpa using this
  · show w.cell? ⟨bs, offs + (i * 3 + t), none⟩ = some u
    rw [← Nat.add_assoc]
    exact this
theorem SaS.one {xs : List Sal} : ∀ u ∈ xs.flatMap encS, u.oneCell' = true := fun u hu => by
  obtain ⟨x, _, h⟩ := List.mem_flatMap.1 hu
  exact encS_one x u h
def catS (ls : List Lst) (grp : List Int) (k : Nat) : List Sal := (grp.take k).flatMap (salesAt ls)
theorem catS_snoc {ls : List Lst} {grp : List Int} {k : Nat} {a : Int} (h : grp[k]? = some a) : catS ls grp (k + 1) = catS ls grp k ++ salesAt ls a := by
  unfold catS; rw [take_snocS h]; simp
theorem Sl.low_ {α : Type} {w : World} {L B k n g o : Nat} {enc : α → List Value} {xs : List α} (h : Sl w 0 B k enc (some ⟨g, o, none⟩) n xs) (hg : L ≤ g) : Sl w L B k enc (some ⟨g, o, none⟩) n xs :=
  ⟨h.1, fun hn => by
    obtain ⟨g', o', h1, _, h3⟩ := h.2 hn
    cases h1
    exact ⟨g, o, rfl, hg, h3⟩⟩
theorem compactS_none (c : Nat) (w : World) :
    Calls Tryz.prog 86 #[.slice none 0 c] w fun e w' => e = .returned (.slice none 0 c) ∧ w' = w := by
  go_enter Tryz.func86, Tryz.ntmps86
  go_wp2_with fail
  go_ret
  exact ⟨rfl, rfl⟩
theorem salesOf_of {ls : List Lst} {grp : List Int} {k : Nat} (hk : grp.length = k) {ys : List Sal} (hp : ys.Perm (catS ls grp k)) (hs : ys.Pairwise (fun a b => ¬ ltSal b a)) : compS ys = salesOf ls grp := by
  rw [sales_prog hp hs]
  unfold salesOf catS
  rw [take_all hk]
set_option maxRecDepth 100000 in
set_option maxHeartbeats 2000000 in
theorem psales_any (A : Option Addr) (n c : Nat) (ls : List Lst) (A' : Option Addr) (m c' : Nat) (grp : List Int) (w : World) (hn : n ≤ 64) (hm : m ≤ 64) (hS : LsS w A n ls) (hG : Sl w 0 w.heap.size 1 encI A' m grp)
    (hv : ∀ x ∈ ls, validL x) (hnd : (idsL ls).Nodup) (hin : ∀ a ∈ grp, a ∈ idsL ls) :
    Calls Tryz.prog 56 #[.slice A n c, .slice A' m c'] w fun e w' => ∃ A2 n2 c2, e = .returned (.slice A2 n2 c2) ∧ n2 ≤ 1000000 ∧ Sl w' w.heap.size w'.heap.size 3 encS A2 n2 (salesOf ls grp) ∧ Below w.heap.size w w' := by
  obtain ⟨i0, hi, hz0, hz1, hz2⟩ := info_parts Tryz.infoSa
  have HS := Lib.hid hS
  have HL := Lib.hid hS.len
  have HG := Lib.hid hG
  have HGL := Lib.hid (Sl.len hG)
  have HV := Lib.hid hv
  have HND := Lib.hid hnd
  have HIN := Lib.hid hin
  clear hS hG hv hnd hin
  go_enter Tryz.func56, Tryz.ntmps56
  go_wp2_with fail
  go_loopw [10, 5] (fun i v wr => ∃ k : Nat, k ≤ m ∧ i = .int .i64 (k : Int) ∧ (catS ls grp k).length ≤ 8 * k ∧ wr.ownsRow w.heap.size 57 3 v (catS ls grp k).length ((catS ls grp k).flatMap encS) ∧ Below w.heap.size w wr) (fun i _ _ => m - (intOf i).toNat)
  case atStart => exact ⟨0, by omega, rfl, by simp [catS], World.ownsRow_nil _ _ _ _, Below.refl _ _⟩
  case round =>
    obtain ⟨k, hk, rfl, hcl, hown, hb⟩ := hrel
    obtain ⟨Av, cv, rfl, _⟩ := own_form hown
    by_cases hlt : k < m
    · obtain ⟨bg, offg, a, rfl, hbg, ha, g0⟩ := Sl.in_ (Sl.up HG.out hb (Nat.le_refl _) (Nat.le_refl _)) hlt
      obtain ⟨p, x, hp, hx, hxa, hpl⟩ := placeI_at (HIN.out a (List.mem_of_getElem? ha))
      have HF := Lib.hid (pfind_any A n c ls a wr (by omega) (HS.out.up hb))
      rw [hp] at HF
      have HA := Lib.hid ha; clear ha
      have hpn : p < n := by rw [← HL.out]; exact hpl
      obtain ⟨b, off, x', b', m', cx, hAe, hbb, hx', c0, c1, hm', hSx⟩ := HS.out.at_ hpn
      have : x' = x := Option.some.inj (hx'.symm.trans hx)
      subst this
      have HSA : Hid (salesAt ls a = x'.sales) := by show _ = _; rw [← hxa]; exact salesAt_mem HND.out (List.mem_of_getElem? hx)
      have h8 : m' ≤ 8 := by have := (HV.out x' (List.mem_of_getElem? hx)).2.1; rw [Sl.len hSx] at this; exact this
      have HSL := Lib.hid (Sl.len hSx)
      have HSX := Lib.hid hSx
      have HCS := Lib.hid (catS_snoc (ls := ls) HA.out)
      clear hx hx' hxa hp hSx
      subst hAe
      go_wp2_with fail
      go_fit HF.out
      rintro e w1 ⟨rfl, hb1⟩
      have hb2 := below_keep' hb hb1
      have hown1 := own_below' hown hb1
      have c0' := (hb2.cell (p := ⟨b, off + p * 2, none⟩) hbb).trans c0
      have c1' := (hb2.cell (p := ⟨b, off + p * 2 + 1, none⟩) hbb).trans c1
      have hbb' : b < w1.heap.size := Nat.lt_of_lt_of_le hbb hb2.size
      have hpi : (p : Int) < (n : Int) := by omega
      clear hown hb hb1 HF g0 hbg c0 c1
      rcases Nat.eq_zero_or_pos m' with rfl | hm0
      · have HX0 : Hid (catS ls grp (k + 1) = catS ls grp k) := by
          show _ = _
          rw [HCS.out, HSA.out, List.length_eq_zero_iff.1 HSL.out, List.append_nil]
        clear hm' h8
        rcases Av with _ | av
        · have hz : (catS ls grp k).length = 0 ∧ cv = 0 := by
            rcases hown1.2 with ⟨hv0, h0⟩ | ⟨g, cap, cur, hv0, _⟩
            · simp only [Value.slice.injEq, true_and] at hv0
              exact ⟨hv0.1, hv0.2⟩
            · cases hv0
          obtain ⟨hz1', rfl⟩ := hz
          have HOW := Lib.hid hown1
          have HZ1 := Lib.hid hz1'
          rcases b' with _ | bv
          all_goals
            go_wp2_with fail
            refine ⟨⟨k + 1, by omega, by go_num, by rw [HX0.out]; omega, ?_, hb2⟩, by simp [intOf]; omega⟩
            rw [HX0.out]
            have h := HOW.out
            rw [HZ1.out] at h ⊢
            exact h
        · rcases b' with _ | bv
          all_goals
            go_wp2_with fail
            refine ⟨⟨k + 1, by omega, by go_num, by rw [HX0.out]; omega, ?_, hb2⟩, by simp [intOf]; omega⟩
            rw [HX0.out]
            exact hown1
      · obtain ⟨bs, offs, s, rfl, hbs, _⟩ := Sl.sa (HSX.out.up hb2) hm0
        go_wp2_with (at_builtin; refine wpList_append_own _ rfl _ _ 22 rfl w.heap.size 57 i0 (.agg #[.int .i64 0, .int .i64 0, .int .i64 0]) 3 24 Tryz.underlying22 hi hz0 hz1 hz2 rfl (by decide) _ _ _ rfl hown1 ⟨bs, offs, none⟩ m' cx (x'.sales.flatMap encS) rfl ?c1 ?c2 ?c3 ?c4 ?c5 ?c6 ?_)
        case c1 => rw [flat_len encS_len, HSL.out]
        case c2 => exact (HSX.out.up hb2).news
        case c3 => exact SaS.one
        case c4 => unfold maxLen; omega
        case c5 => omega
        case c6 => exact hb2.size
        intro v' w6 hown6 hgrow _
        have hb6 : Below w.heap.size w w6 := Below.grown hb2 hgrow hb2.size (fun g hg => (hown1.lt g hg).1)
        go_wp2_with fail
        refine ⟨⟨k + 1, by omega, by go_num, ?_, ?_, hb6⟩, by simp [intOf]; omega⟩
        · rw [HCS.out, HSA.out, List.length_append, HSL.out]; omega
        · rw [HCS.out, HSA.out, List.length_append, HSL.out, List.flatMap_append]; exact hown6
    · obtain rfl : k = m := by omega
      have hlen5 : (catS ls grp k).length ≤ 512 := by omega
      rcases hown.2 with ⟨hv0, h0⟩ | ⟨g, cap, cur, hv0, hg, hh, hn2, hcap, _⟩
      · simp only [Value.slice.injEq] at hv0
        obtain ⟨rfl, _, rfl⟩ := hv0
        have HSV : Hid (salesOf ls grp = []) := by
          show _ = _
          rw [← salesOf_of HGL.out (ys := []) (by rw [List.length_eq_zero_iff.1 h0]) List.Pairwise.nil]
          rfl
        clear hown
        generalize (catS ls grp k).length = len at *
        subst h0
        go_wp2_with fail
        refine (sortSale_none none 0 _ wr).mono ?_
        rintro e w1 ⟨rfl, rfl⟩
        go_wp2_with fail
        refine (compactS_none 0 wr).mono ?_
        rintro e w1 ⟨rfl, rfl⟩
        go_wp2_with fail
        go_ret
        exact ⟨none, 0, 0, rfl, by omega, by rw [HSV.out]; exact Sl.nil, hb⟩
      · simp only [Value.slice.injEq, true_and] at hv0
        obtain ⟨rfl, rfl⟩ := hv0
        have hgl : g < wr.heap.size := (Array.getElem?_eq_some_iff.1 hh).1
        have HSO := Lib.hid (sortSale_any w.heap.size g (catS ls grp k).length cv (catS ls grp k) wr hown rfl hg hgl (by omega))
        have HK := Lib.hid HGL.out
        obtain ⟨len, hlen⟩ : ∃ len, len = (catS ls grp k).length := ⟨_, rfl⟩
        have HLEN := Lib.hid hlen
        rw [← hlen] at hlen5 hn2 HSO ⊢
        clear hown hh hcl hlen
        go_wp2_with fail
        refine HSO.out.mono ?_
        rintro e w1 ⟨rfl, ys, hp, hs, hRy, hg1⟩
        have HCO := Lib.hid (compactS_any g len cv ys w1 (by omega) hn2 (by rw [hp.length_eq, HLEN.out]) hRy)
        have HSV := Lib.hid (salesOf_of HK.out hp hs)
        have hb1 : Below w.heap.size w w1 := below_of_map hb hg1 hg (Nat.le_refl _)
        clear hp hs hRy hg1 HSO
        go_wp2_with fail
        refine HCO.out.mono ?_
        rintro e w2 ⟨m2, rfl, hm2, hSA, hg2⟩
        rw [HSV.out] at hSA
        have hb2 : Below w.heap.size w w2 := below_of_map hb1 hg2 hg (Nat.le_refl _)
        go_wp2_with fail
        go_ret
        exact ⟨_, m2, cv, rfl, by omega, Sl.low_ hSA hg, hb2⟩
end Go.Proofs.YtccmchmemafjdaaGreatDoor
