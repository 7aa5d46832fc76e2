/- ProvenanceReduces: the law's walk (chapter 46). -/
import Derived.Test.YtccmchmemafjdaaGreatDoorQg
import Derived.Test.YtccmchmemafjdaaGreatDoorPt
set_option linter.unusedSimpArgs false
set_option linter.unusedVariables false
namespace Go.Proofs.YtccmchmemafjdaaGreatDoor
open Go.RowKit

set_option maxRecDepth 100000 in
set_option maxHeartbeats 2000000 in
theorem listings_same (A : Option Addr) (n c : Nat) (A' : Option Addr) (n' c' : Nat) (xs : List Lst) (w : World) (hn : n ≤ 1000000) (hS : LsS w A n xs) (hS' : LsS w A' n' xs) (h8 : ∀ x ∈ xs, x.sales.length ≤ 1000000) :
    Calls Tryz.prog 35 #[.slice A n c, .slice A' n' c'] w fun e w' => e = .returned (.bool true) ∧ Below w.heap.size w w' := by
  have hl := hS.len
  have hl' := hS'.len
  obtain rfl : n = n' := by omega
  have HS := Lib.hid hS; clear hS
  have HS' := Lib.hid hS'; clear hS'
  have H8 := Lib.hid h8; clear h8
  go_enter Tryz.func35, Tryz.ntmps35
  go_wp2_with fail
  go_loopw [5] (fun i wr => ∃ k : Nat, k ≤ n ∧ i = .int .i64 k ∧ Below w.heap.size w wr) (fun i _ => n - (intOf i).toNat)
  case atStart => exact ⟨0, by omega, rfl, Below.refl _ _⟩
  case round =>
    obtain ⟨k, hk, rfl, hb⟩ := hrel
    by_cases hlt : k < n
    · obtain ⟨b, off, x, a, m, cx, rfl, hbb, hx, e0, e1, hm, hSx⟩ := (HS.out.up hb).at8 H8.out hlt
      obtain ⟨b', off', y, a', m', cy, rfl, hbb', hy, f0, f1, hm', hSy⟩ := (HS'.out.up hb).at8 H8.out hlt
      have hxy : y = x := Option.some.inj (hy.symm.trans hx)
      subst hxy
      have HC : Hid (∀ V, Below wr.heap.size wr V → Calls Tryz.prog 29 #[.slice a m cx, .slice a' m' cy] V fun e w' => e = .returned (.bool true) ∧ Below V.heap.size V w') := fun V hV => by
        have h := sales_any a m cx y.sales a' m' cy y.sales V hm hm' (hSx.up hV) (hSy.up hV)
        rwa [decide_eq_true (rfl : y.sales = y.sales)] at h
      clear hx hy hSx hSy hm hm'
      go_wp2_with fail
      go_region_held3 (fun U => U.cell? ⟨b, off + k * 2, none⟩ = some (.int .i64 y.id) ∧ U.cell? ⟨b, off + k * 2 + 1, none⟩ = some (.slice a m cx) ∧ U.cell? ⟨b', off' + k * 2, none⟩ = some (.int .i64 y.id) ∧ U.cell? ⟨b', off' + k * 2 + 1, none⟩ = some (.slice a' m' cy) ∧ Below wr.heap.size wr U)
        (first | exact keep4P e0 e1 f0 f1 hbb hbb hbb' hbb' (Below.drew (Below.refl _ _)) | exact keep4P e0 e1 f0 f1 hbb hbb hbb' hbb' (below_keep' (last5P (by assumption)) (by assumption)) | go_keep)
        ((go_at_call 29; ((with_reducible refine (HC.out _ (last5P (by assumption))).mono ?_); rintro r wz ⟨rfl, hbz2⟩)))
      all_goals
        rename_i hH
        have hb7 := last5P hH
        clear hH
        go_wp2_with fail
        exact ⟨⟨k + 1, by omega, by go_num, below_keep' hb hb7⟩, by simp [intOf]; omega⟩
    · obtain rfl : k = n := by omega
      go_wp2_with fail
      go_ret
      exact ⟨rfl, hb⟩

/-! ### What is reduced. -/
theorem red_form {ls : List Lst} (h0 : chkL ls = 0) {z : List Int} (hz : z ∈ grpsL ls) : ∃ r, z = grpOf (idsL ls) (nmU ls []) r ∧ r ∈ idsL ls ∧ nmU ls [] r = r ∧ z.headD 0 = r ∧ r ∈ z := by
  obtain ⟨_, hv, hnd⟩ := chkL_zero h0
  have hN := nmU_nm (inIds_of hv (P := []) (by simp))
  unfold grpsL groupsOf at hz
  obtain ⟨r, hr, rfl⟩ := List.mem_map.1 hz
  rw [List.mem_filter, sortI_mem, decide_eq_true_iff] at hr
  have h1 := grp_head hnd hN.le hr.1 hr.2
  refine ⟨r, rfl, hr.1, hr.2, ?_, mem_grp.2 hr⟩
  cases hg : grpOf (idsL ls) (nmU ls []) r with
  | nil => rw [hg] at h1; cases h1
  | cons a t => rw [hg] at h1; injection h1
theorem redE_chk {ls : List Lst} (h : redE ls = 0) : chkL ls = 0 ∧ ∀ z ∈ grpsL ls, (salesOf ls z).length ≤ 8 := by
  unfold redE at h
  by_cases h0 : chkL ls = 0
  · rw [if_pos h0] at h
    refine ⟨h0, fun z hz => ?_⟩
    rcases Nat.lt_or_ge 8 (salesOf ls z).length with h8 | h8
    · rw [if_pos (List.any_eq_true.2 ⟨z, hz, decide_eq_true h8⟩)] at h
      cases h
    · exact h8
  · rw [if_neg h0] at h
    exact absurd h h0
theorem redS_len8 (ls : List Lst) : ∀ x ∈ redS ls, x.sales.length ≤ 1000000 := fun x hx => by
  unfold redS at hx
  by_cases h : redE ls = 0
  · rw [if_pos h] at hx
    obtain ⟨z, hz, rfl⟩ := List.mem_map.1 hx
    have := (redE_chk h).2 z hz
    unfold redL
    simp only
    omega
  · rw [if_neg h] at hx
    cases hx
theorem sale_in {ls : List Lst} (h0 : chkL ls = 0) {z : List Int} (hz : z ∈ grpsL ls) {s : Sal} (hs : s ∈ salesOf ls z) : ∃ x ∈ ls, x.id ∈ z ∧ s ∈ x.sales := by
  obtain ⟨_, _, hnd⟩ := chkL_zero h0
  unfold salesOf at hs
  rw [mergeS_mem, List.mem_flatMap] at hs
  obtain ⟨a, ha, hs⟩ := hs
  have hi := grpsL_in hz a ha
  unfold idsL at hi
  obtain ⟨x, hx, rfl⟩ := List.mem_map.1 hi
  rw [salesAt_mem hnd hx] at hs
  exact ⟨x, hx, ha, hs⟩
theorem red_ids {ls : List Lst} (h : redE ls = 0) : idsL (redS ls) = (sortI (idsL ls)).filter (fun r => decide (nmU ls [] r = r)) := by
  have h0 := (redE_chk h).1
  unfold redS
  rw [if_pos h]
  unfold idsL
  rw [List.map_map]
  have e : ∀ z ∈ grpsL ls, ((fun x : Lst => x.id) ∘ redL ls) z = z.headD 0 := fun z _ => rfl
  rw [List.map_congr_left e]
  unfold grpsL groupsOf
  rw [List.map_map]
  refine (List.map_congr_left (g := id) fun r hr => ?_).trans (List.map_id _)
  obtain ⟨_, hv, hnd⟩ := chkL_zero h0
  have hN := nmU_nm (inIds_of hv (P := []) (by simp))
  rw [List.mem_filter, sortI_mem, decide_eq_true_iff] at hr
  have h1 := grp_head hnd hN.le hr.1 hr.2
  show (grpOf (idsL ls) (nmU ls []) r).headD 0 = r
  cases hg : grpOf (idsL ls) (nmU ls []) r with
  | nil => rw [hg] at h1; cases h1
  | cons a t => rw [hg] at h1; injection h1
theorem red_chk {ls : List Lst} (h : redE ls = 0) : chkL (redS ls) = 0 := by
  obtain ⟨h0, h8⟩ := redE_chk h
  obtain ⟨h64, hv, hnd⟩ := chkL_zero h0
  refine chkL_ok ?_ (fun x hx => ?_) ?_
  · unfold redS
    rw [if_pos h, List.length_map]
    exact Nat.le_trans (grpsL_count ls) h64
  · unfold redS at hx
    rw [if_pos h] at hx
    obtain ⟨z, hz, rfl⟩ := List.mem_map.1 hx
    obtain ⟨r, _, hr, _, hd, _⟩ := red_form h0 hz
    have hid : (redL ls z).id = r := hd
    have hs : (redL ls z).sales = salesOf ls z := rfl
    refine ⟨?_, by rw [hs]; exact h8 z hz, fun s hs' => ?_, ?_⟩
    · rw [hid]
      unfold idsL at hr
      obtain ⟨y, hy, rfl⟩ := List.mem_map.1 hr
      exact (hv y hy).1
    · rw [hs] at hs'
      obtain ⟨y, hy, _, h3⟩ := sale_in h0 hz hs'
      exact (hv y hy).2.2.1 s h3
    · rw [hs]
      exact mergeS_asc _
  · rw [red_ids h]
    exact (((sortI_perm (idsL ls)).nodup_iff.2 hnd).sublist List.filter_sublist)
theorem red_count {ls : List Lst} (h : redE ls = 0) : (grpsL (redS ls)).length = (redS ls).length := by
  obtain ⟨h0, _⟩ := redE_chk h
  obtain ⟨_, hv, hnd⟩ := chkL_zero h0
  obtain ⟨_, hv', hnd'⟩ := chkL_zero (red_chk h)
  have hN := nmU_nm (inIds_of hv (P := []) (by simp))
  have hN' := nmU_nm (inIds_of hv' (P := []) (by simp))
  have hform : ∀ {s : Sal} {a : Int}, (s, a) ∈ holdsL (redS ls) → ∃ x ∈ ls, s ∈ x.sales ∧ nmU ls [] x.id = a := fun {s a} hm => by
    obtain ⟨y, hy, rfl, hs⟩ := mem_holds.1 hm
    unfold redS at hy
    rw [if_pos h] at hy
    obtain ⟨z, hz, rfl⟩ := List.mem_map.1 hy
    obtain ⟨x, hx, hxz, hs'⟩ := sale_in h0 hz hs
    obtain ⟨r, hzr, _, _, hd, _⟩ := red_form h0 hz
    refine ⟨x, hx, hs', ?_⟩
    show _ = z.headD 0
    rw [hd]
    rw [hzr] at hxz
    exact (mem_grp.1 hxz).2
  have hid : Nm (idsL (redS ls)) (holdsL (redS ls)) [] (fun a => a) := by
    refine ⟨fun a ha => ha, fun a _ => Int.le_refl _, fun a _ => Conn.refl a, fun a b he => ?_⟩
    rcases he with ⟨s, h1, h2⟩ | h1
    · obtain ⟨x, hx, hs1, rfl⟩ := hform h1
      obtain ⟨y, hy, hs2, rfl⟩ := hform h2
      exact hN.same _ _ (.inl ⟨s, mem_holds.2 ⟨x, hx, rfl, hs1⟩, mem_holds.2 ⟨y, hy, rfl, hs2⟩⟩)
    · cases h1
  have hg : ∀ a ∈ idsL (redS ls), nmU (redS ls) [] a = a := hN'.unique hid
  unfold grpsL groupsOf
  rw [List.length_map, List.filter_eq_self.2 (fun a ha => decide_eq_true (hg a ((sortI_mem _ a).1 ha))), sortI_len]
  unfold idsL
  rw [List.length_map]
theorem red_ped {ls : List Lst} (h : redE ls = 0) {x : Lst} (hx : x ∈ redS ls) : pedE ls x.id = 0 ∧ pedS ls x.id = x.sales := by
  obtain ⟨h0, _⟩ := redE_chk h
  unfold redS at hx
  rw [if_pos h] at hx
  obtain ⟨z, hz, rfl⟩ := List.mem_map.1 hx
  obtain ⟨r, _, _, _, hd, hm⟩ := red_form h0 hz
  have hid : (redL ls z).id = r := hd
  rw [hid]
  exact ped_in h0 hz hm
set_option maxRecDepth 100000 in
set_option maxHeartbeats 8000000 in
theorem reduces_law (A : Option Addr) (n c : Nat) (ls : List Lst) (w : World) (hE : Env w) (hS : LsS w A n ls) :
    Calls Tryz.prog 9 #[.slice A n c] w fun r w' => r = .returned (.bool true) ∧ Below w.heap.size w w' := by
  have HEN : Hid (∀ W, Below w.heap.size w W → Env W) := fun W hW => hE.step hW
  have HU : Hid (∀ W, Below w.heap.size w W → LsS W A n ls) := fun W hW => hS.up hW
  clear hE hS
  go_enter Tryz.func9, Tryz.ntmps9
  go_wp2_with fail
  refine (awake_any _ (HEN.out _ (Below.refl _ _))).mono ?_; rintro r w1 ⟨rfl, hb⟩
  go_wp2_with fail
  refine (few_any A n c _).mono ?_; rintro r w2 ⟨rfl, hw2⟩
  subst w2
  by_cases hf : n ≤ 12 ∨ n = 65
  rotate_left 1
  · rw [decide_eq_false hf]
    clear hf
    go_wp2_with fail
    refine (awake_any _ (HEN.out _ hb)).mono ?_; rintro r w3 ⟨rfl, hb3⟩
    (replace hb := hb.trans (hb3.mono hb.size)); clear hb3
    go_wp2_with fail
    go_ret
    exact ⟨rfl, hb⟩
  rw [decide_eq_true hf]
  have hn : n ≤ 1000000 := by omega
  clear hf
  have HJ1 : Hid (∀ W, Below w.heap.size w W → Calls Tryz.prog 33 #[.slice A n c] W fun e w' => ListsOut (redS ls) (redE ls) e w' ∧ Below W.heap.size W w') := fun W hW => preduced_any A n c ls W hn (HU.out W hW)
  have HJ2 : Hid (∀ W, Below w.heap.size w W → Calls Tryz.prog 34 #[.slice A n c] W fun e w' => ListsOut (redS ls) (redE ls) e w' ∧ Below W.heap.size W w') := fun W hW => rreduced_any A n c ls W hn (HU.out W hW)
  have H8 := Lib.hid (redS_len8 ls)
  unfold ListsOut at HJ1 HJ2
  by_cases h0 : ¬ redE ls = 0
  · have hne : (redE ls != 0) = true := by simpa using h0
    clear h0 HU
    generalize redE ls = pe at *
    generalize redS ls = gs at *
    go_wp2_with fail
    refine (HJ1.out _ hb).mono ?_; rintro r w3 ⟨⟨A2, n2, c2, rfl, hn2, hL, _⟩, hb3⟩
    (replace hb := hb.trans (hb3.mono hb.size)); clear hb3
    go_wp2_with fail
    refine (HJ2.out _ hb).mono ?_; rintro r w4 ⟨⟨A3, n3, c3, rfl, hn3, hL3, _⟩, hb4⟩
    (replace hb := hb.trans (hb4.mono hb.size)); replace hL := hL.up hb4; clear hb4
    go_wp2_with fail
    refine (listings_same A2 n2 c2 A3 n3 c3 gs _ hn2 hL hL3 H8.out).mono ?_; rintro r w5 ⟨rfl, hb5⟩
    (replace hb := hb.trans (hb5.mono hb.size)); replace hL := hL.up hb5; replace hL3 := hL3.up hb5; clear hb5
    go_wp2_with fail
    refine (listings_same A2 n2 c2 A3 n3 c3 gs _ hn2 hL hL3 H8.out).mono ?_; rintro r w6 ⟨rfl, hb6⟩
    (replace hb := hb.trans (hb6.mono hb.size)); clear hb6
    go_wp2_with fail
    go_ret
    exact ⟨by simp, hb⟩
  replace h0 := Classical.not_not.1 h0
  have HG : Hid (∀ (B : Option Addr) (k d : Nat) (W : World), k ≤ 1000000 → LsS W B k (redS ls) → Calls Tryz.prog 19 #[.slice B k d] W fun e w' => (∃ A2 c2, e = .returned (.tuple #[.slice A2 k c2, .int .i64 0])) ∧ Below W.heap.size W w') := fun B k d W hk hL => by
    have h := pgroups_any B k d (redS ls) W hk hL
    rw [red_chk h0] at h
    refine h.mono ?_
    rintro e w' ⟨⟨A2, n2, c2, h1, h2, h3, _⟩, h4⟩
    rw [if_pos rfl] at h3
    have e1 : (grpsL (redS ls)).length = n2 := h3.len
    rw [red_count h0, hL.len] at e1
    subst e1
    exact ⟨⟨A2, c2, h1⟩, h4⟩
  have HPA : Hid (∀ x ∈ redS ls, ∀ W, Below w.heap.size w W → Calls Tryz.prog 27 #[.slice A n c, .int .i64 x.id] W fun e w' => (∃ A2 n2 c2, e = .returned (.tuple #[.slice A2 n2 c2, .int .i64 0]) ∧ n2 ≤ 1000000 ∧ SaS w' A2 n2 x.sales) ∧ Below W.heap.size W w') := fun x hx W hW => by
    have h := ppedigree_any A n c ls x.id W hn (HU.out W hW)
    obtain ⟨e1, e2⟩ := red_ped h0 hx
    rw [e1, e2] at h
    refine h.mono ?_
    rintro e w' ⟨⟨A2, n2, c2, h1, h2, h3, _⟩, h4⟩
    exact ⟨⟨A2, n2, c2, h1, h2, h3⟩, h4⟩
  rw [h0] at HJ1 HJ2
  clear h0 HU
  generalize redS ls = gs at *
  go_wp2_with fail
  refine (HJ1.out _ hb).mono ?_; rintro r w3 ⟨⟨A2, n2, c2, rfl, hn2, hL, _⟩, hb3⟩
  (replace hb := hb.trans (hb3.mono hb.size)); clear hb3
  go_wp2_with fail
  refine (HJ2.out _ hb).mono ?_; rintro r w4 ⟨⟨A3, n3, c3, rfl, hn3, hL3, _⟩, hb4⟩
  (replace hb := hb.trans (hb4.mono hb.size)); replace hL := hL.up hb4; clear hb4
  go_wp2_with fail
  refine (listings_same A2 n2 c2 A3 n3 c3 gs _ hn2 hL hL3 H8.out).mono ?_; rintro r w5 ⟨rfl, hb5⟩
  (replace hb := hb.trans (hb5.mono hb.size)); replace hL := hL.up hb5; clear hb5
  clear hL3
  go_wp2_with fail
  refine (HG.out A2 n2 c2 _ hn2 hL).mono ?_; rintro r w6 ⟨⟨A4, c4, rfl⟩, hb6⟩
  (replace hb := hb.trans (hb6.mono hb.size)); replace hL := hL.up hb6; clear hb6
  have HL := Lib.hid hL
  have HB := Lib.hid hb
  clear hL hb HJ1 HJ2 HG
  go_wp2_with fail
  go_loopw [9] (fun t wr => ∃ i : Nat, i ≤ n2 ∧ t = .int .i64 (i : Int) ∧ Below w6.heap.size w6 wr) (fun t _ => n2 - (intOf t).toNat)
  case atStart => exact ⟨0, by omega, rfl, Below.refl _ _⟩
  case round =>
    obtain ⟨i, hi, rfl, hbi⟩ := hrel
    by_cases hlt : i < n2
    · obtain ⟨b, off, x, a, m, cx, rfl, hbb, hx, e0, e1, hm, hSx⟩ := HL.out.at8 H8.out hlt
      have d0 := (hbi.cell (p := ⟨b, off + i * 2, none⟩) hbb).trans e0
      have HPX := Lib.hid (HPA.out x (List.mem_of_getElem? hx) _ (below_keep' HB.out hbi))
      have HSX := Lib.hid hSx
      have hin : (i : Int) < (n2 : Int) := by omega
      clear hx hSx
      go_wp2_with fail
      go_fit HPX.out
      rintro e w8 ⟨⟨A5, n5, c5, rfl, hn5, hS5⟩, hb8⟩
      have hbi8 := below_keep' hbi hb8
      have d1 := (hbi8.cell (p := ⟨b, off + i * 2 + 1, none⟩) hbb).trans e1
      have HSS := Lib.hid (sales_any A5 n5 c5 x.sales a m cx x.sales w8 hn5 hm hS5 (HSX.out.up hbi8))
      rw [decide_eq_true (rfl : x.sales = x.sales)] at HSS
      clear hS5 d0
      go_wp2_with fail
      go_fit HSS.out
      rintro e w9 ⟨rfl, hb9⟩
      go_wp2_with fail
      exact ⟨⟨i + 1, by omega, by go_num, below_keep' hbi8 hb9⟩, by simp [intOf]; omega⟩
    · obtain rfl : i = n2 := by omega
      go_wp2_with fail
      go_ret
      exact ⟨rfl, below_keep' HB.out hbi⟩
end Go.Proofs.YtccmchmemafjdaaGreatDoor
