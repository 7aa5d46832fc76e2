/- Chapter 54: pairs sorted by the library; linkage.Pairs. -/
import Derived.Test.YtdokpmfejibdlaaGreatDoorWn
import Derived.Test.YtdokpmfejibdlaaGreatDoorWh
import Derived.Test.YtdokpmfejibdlaaGreatDoorSortPr
set_option linter.unusedSimpArgs false
set_option linter.unusedVariables false
namespace Go.Proofs.YtdokpmfejibdlaaGreatDoor
open Go.RowKit Go.Sort

/-- The first that is not zero. -/
def orI (l : List Int) : Int := match l.find? (fun x => x != 0) with | some x => x | none => 0
theorem orI_hit {xs : List Int} {k : Nat} {x : Int} (hx : xs[k]? = some x) (hn : ∀ y ∈ xs.take k, (y != 0) = false) (he : (x != 0) = true) : orI xs = x := by
  obtain ⟨h1, h2⟩ := List.getElem?_eq_some_iff.1 hx
  have h : xs = xs.take k ++ x :: xs.drop (k + 1) := by
    conv => lhs; rw [← List.take_append_drop k xs]
    rw [List.drop_eq_getElem_cons h1, h2]
  have h3 : (xs.take k).find? (fun x => x != 0) = none := by
    rw [List.find?_eq_none]
    intro y hy; simpa using hn y hy
  unfold orI
  rw [h, List.find?_append, h3]
  simp [List.find?_cons, he]
theorem orI_miss {xs : List Int} (hn : ∀ y ∈ xs, (y != 0) = false) : orI xs = 0 := by
  have h3 : xs.find? (fun x => x != 0) = none := by
    rw [List.find?_eq_none]
    intro y hy; simpa using hn y hy
  unfold orI
  rw [h3]
set_option maxHeartbeats 1000000 in
theorem cor_any (A : Option Addr) (len cap : Nat) (xs : List Int) (w : World) (hlen : len ≤ 1000000) (hS : Sl w 0 w.heap.size 1 encI A len xs) :
    Calls Tryz.prog 73 #[.slice A len cap] w fun e w' => e = .returned (.int .i64 (orI xs)) ∧ w' = w := by
  have HL := Lib.hid hS.len
  have HS := Lib.hid hS; clear hS
  go_enter Tryz.func73, Tryz.ntmps73
  go_wp2_with fail
  go_loop [8] (fun s => ∃ k : Nat, k ≤ len ∧ s = .int .i64 (k : Int) ∧ (∀ y ∈ xs.take k, (y != 0) = false)) (fun s => len - (intOf s).toNat)
  case atStart => exact ⟨0, by omega, rfl, by simp⟩
  case round =>
    obtain ⟨k, hk, rfl, hnn⟩ := hrel
    have HN := Lib.hid hnn; clear hnn
    by_cases hlt : k < len
    · obtain ⟨b, off, x, rfl, hbb, hx, c0⟩ := HS.out.in_ hlt
      have HX := Lib.hid hx; clear hx
      cases he : (x != 0)
      · have HE := Lib.hid he
        go_wp2_with fail
        go_round
        case rel => exact ⟨k + 1, by omega, by go_num, all_take (p := fun y => (y != 0) = false) HX.out HN.out HE.out⟩
        case measure => simp [intOf]; omega
      · have HV : Hid (orI xs = x) := orI_hit HX.out HN.out he
        go_wp2_with fail
        go_ret
        exact ⟨by rw [HV.out]; rfl, rfl⟩
    · obtain rfl : k = len := by omega
      have HV : Hid (orI xs = 0) := orI_miss (by have h := HN.out; rwa [take_all HL.out] at h)
      go_wp2_with fail
      go_ret
      exact ⟨by rw [HV.out]; rfl, rfl⟩
theorem grownBy_sortK {α : Type} [Inhabited α] {enc : α → List Value} {k : Nat} {w : World} {g q : Nat} {d' : Array α} {os : Array Obj} : w.grownBy (sortWorldK enc k w g 0 q d' os) (some g) := by
  unfold sortWorldK
  refine ⟨rfl, rfl, rfl, by simp [putRowK], fun j hk hne => ?_⟩
  rw [heap_grow_old _ _ (by simpa [putRowK] using hk)]
  have : g ≠ j := fun e => hne (by rw [e])
  simp [putRowK, putRow, mapBlock, Sort.ahead, Array.getElem?_modify, this]
theorem frz_sortK {α : Type} [Inhabited α] {enc : α → List Value} {k : Nat} {w : World} {g q : Nat} {d' : Array α} {os : Array Obj} {cur : Array Value} {e : TypeId} (hb : w.heap[g]? = some (.cells cur e (0, 0))) (j : Nat) :
    (sortWorldK enc k w g 0 q d' os).frozen? ⟨g, j, none⟩ = false := by
  have hg : g < w.heap.size := (Array.getElem?_eq_some_iff.1 hb).1
  unfold sortWorldK World.frozen?
  rw [heap_grow_old _ _ (by simpa [putRowK, Sort.ahead] using hg)]
  simp [putRowK, putRow, mapBlock, Sort.ahead, Array.getElem?_modify, hb, onCells]
def ltPr (a b : Int × Int) : Prop := a.1 < b.1 ∨ (a.1 = b.1 ∧ a.2 < b.2)
instance (a b : Int × Int) : Decidable (ltPr a b) := by unfold ltPr; infer_instance
def ordP (a b : Int × Int) : Int := orI [cmpI a.1 b.1, cmpI a.2 b.2]
theorem ordP_lt (x y : Int × Int) : ltOf ordP x y = decide (ltPr x y) := by
  obtain ⟨a1, a2⟩ := x
  obtain ⟨b1, b2⟩ := y
  unfold ltOf ordP orI ltPr
  rcases cmpI_cases a1 b1 with ⟨h1, e1⟩ | ⟨h1, e1⟩ | ⟨h1, e1⟩
  · simp [e1, h1]
  · rcases cmpI_cases a2 b2 with ⟨h2, e2⟩ | ⟨h2, e2⟩ | ⟨h2, e2⟩
    · simp only [e1, e2]; simp [h1, h2]
    · simp only [e1, e2]; simp [h1, h2]
    · have : ¬ a2 < b2 := by omega
      simp only [e1, e2]; simp [h1, this]
  · have h3 : ¬ a1 < b1 := by omega
    have h4 : ¬ a1 = b1 := by omega
    simp [e1, h3, h4]
theorem swoP : SWO (ltOf ordP) where
  irrefl x := by rw [ordP_lt]; simp [ltPr]
  trans x y z h1 h2 := by
    rw [ordP_lt, decide_eq_true_iff] at *
    unfold ltPr at *
    omega
  ntrans x y z h1 h2 := by
    rw [ordP_lt, decide_eq_false_iff_not] at *
    unfold ltPr at *
    omega
set_option maxHeartbeats 1000000 in
theorem ordP_any (x y : Int × Int) (w : World) :
    Calls Tryz.prog 72 #[.agg #[.int .i64 x.1, .int .i64 x.2], .agg #[.int .i64 y.1, .int .i64 y.2]] w fun e w' => e = .returned (.int .i64 (ordP x y)) ∧ ∃ q os', w' = Sort.grow (w.drewN q) os' := by
  go_enter Tryz.func72, Tryz.ntmps72
  go_wp2_with fail
  have hG : ∃ os, ((w.alloc (.cells #[.int .i64 x.1, .int .i64 x.2] 100)).alloc (.cells #[.int .i64 y.1, .int .i64 y.2] 100)) = Sort.grow w os := ⟨_, by rw [Sort.alloc_eq_grow, Sort.alloc_eq_grow, Sort.grow_grow]⟩
  have Z := (Bx.new w [.int .i64 x.1, .int .i64 x.2] 100).alloc (.cells #[.int .i64 y.1, .int .i64 y.2] 100)
  have Y := Bx.new (w.alloc (.cells #[.int .i64 x.1, .int .i64 x.2] 100)) [.int .i64 y.1, .int .i64 y.2] 100
  rw [World.size_alloc] at Y
  generalize (w.alloc (.cells #[.int .i64 x.1, .int .i64 x.2] 100)).alloc (.cells #[.int .i64 y.1, .int .i64 y.2] 100) = W1 at *
  have Z0 := Z.cell 0 _ rfl; have Z1 := Z.cell 1 _ rfl; have Zlt := Z.lt
  have Y0 := Y.cell 0 _ rfl; have Y1 := Y.cell 1 _ rfl; have Ylt := Y.lt
  have HG := Lib.hid hG; clear hG Z Y
  go_region_held3 (fun U => U.cell? ⟨w.heap.size, 0, none⟩ = some (.int .i64 x.1) ∧ U.cell? ⟨w.heap.size, 1, none⟩ = some (.int .i64 x.2) ∧ U.cell? ⟨w.heap.size + 1, 0, none⟩ = some (.int .i64 y.1) ∧ U.cell? ⟨w.heap.size + 1, 1, none⟩ = some (.int .i64 y.2) ∧ Below W1.heap.size W1 U)
    (first | exact keep4P Z0 Z1 Y0 Y1 Zlt Zlt Ylt Ylt (by (repeat (first | exact Below.refl _ _ | assumption | refine Below.alloc ?_ (by first | omega | (simp only [World.size_alloc]; omega) | (simp; done) | (simp; omega)) _ | refine Below.setCell ?_ (by first | omega | (simp only [World.size_alloc]; omega) | (simp; done) | (simp; omega)) _ | refine Below.drew ?_ | refine below_drewN ?_ _))) | go_keep)
    (first
      | (go_at_call 74; refine (compare_any _ _ _).mono ?_; rintro e w2 ⟨rfl, rfl⟩)
      | (go_at_call 73; refine (cor_any _ 2 2 [cmpI x.1 y.1, cmpI x.2 y.2] _ (by omega) ⟨rfl, fun _ => ⟨_, 0, rfl, Nat.zero_le _, by simp, fun i z hz j u hu => by rcases i with _ | _ | i <;> simp at hz <;> subst hz <;> (rcases j with _ | j <;> simp [encI] at hu <;> subst hu <;> simp)⟩⟩).mono ?_; rintro e w2 ⟨rfl, rfl⟩))
  all_goals
    go_wp2_with fail
    go_ret
    obtain ⟨os, hos⟩ := HG.out
    refine ⟨rfl, ?_⟩
    rw [hos]
    exact ⟨1, _, by rw [Sort.alloc_eq_grow, Sort.grow_grow]; rfl⟩
set_option maxHeartbeats 1000000 in
theorem sortPair_any (base g n cap : Nat) (xs : List (Int × Int)) (w : World) (h : w.ownsRow base 100 2 (.slice (some ⟨g, 0, none⟩) n cap) n (xs.flatMap encE)) (hl : xs.length = n) (hbg : base ≤ g) (hg : g < w.heap.size) (hn : n ≤ 1000000) :
    Calls Tryz.prog 71 #[.slice (some ⟨g, 0, none⟩) n cap, .func (.func 72) #[] #[]] w fun e w' => e = .returned (.tuple #[]) ∧ ∃ ys : List (Int × Int), ys.Perm xs ∧ ys.Pairwise (fun x y => ¬ ltPr y x) ∧ RowP w' g ys ∧ w.grownBy w' (some g) := by
  have eg : ∀ args w, (callFunc 72 args).run Tryz.prog w = .ok (.enter 72 args) w := enters_of Tryz.func72 (by kernel_rfl) rfl
  have hH := holdsK_of_own (k := 2) encE_len h hl
  have hcon := AnyQ.slices_SortFunc Tryz.sortPair 2 Tryz.isAgg100 Tryz.sizeOf100 encE encE_len encE_one ordP swoP 72 #[] g 0 cap xs.toArray w eg (fun m os dk hs x y => ordP_any x y _) hH hg (by simp; omega)
  change Calls Tryz.prog 71 _ _ _ at hcon
  rw [List.size_toArray, hl] at hcon
  refine hcon.mono ?_
  rintro e w' ⟨he, d', q, os, hp, hs, rfl⟩
  have hsz : d'.size = n := by rw [hp.1]; simp [hl]
  have hgr : w.grownBy (sortWorldK encE 2 w g 0 q d' os) (some g) := grownBy_sortK
  have hfz : ∀ j, (sortWorldK encE 2 w g 0 q d' os).frozen? ⟨g, j, none⟩ = false := by
    rcases h.2 with ⟨h', _⟩ | ⟨g', cap', cur, h', _, hg', _⟩
    · cases h'
    · simp only [Value.slice.injEq, Option.some.injEq, Addr.mk.injEq, and_true, true_and] at h'
      obtain ⟨rfl, rfl⟩ := h'
      exact frz_sortK hg'
  have hsl := sl_sorted encE_len h hl hsz hbg hg (cap := cap) (q := q) (os := os)
  have hrow : RowP (sortWorldK encE 2 w g 0 q d' os) g d'.toList := by
    refine ⟨Nat.lt_of_lt_of_le hg hgr.size, fun i x hx j u hu => ?_, hfz⟩
    have hi : i < n := by have := (List.getElem?_eq_some_iff.1 hx).1; simp at this; omega
    obtain ⟨b, off, e1, _, _, e2⟩ := hsl.2 (by omega)
    cases e1
    have := e2 i x hx j u hu
    rwa [Nat.zero_add] at this
  refine ⟨he, d'.toList, ?_, ?_, hrow, hgr⟩
  · have := hp.2.2
    rw [show d'.extract 0 n = d' from by rw [← hsz]; simp, show xs.toArray.extract 0 n = xs.toArray from by rw [← hl]; simp] at this
    simpa using this
  · rw [← hsz] at hs
    refine sortedIn_pairwise hs ?_
    intro x y hxy
    rw [ordP_lt] at hxy
    simpa using hxy
theorem sortPair_none (p : Option Addr) (cap : Nat) (fv : Value) (w : World) :
    Calls Tryz.prog 71 #[.slice p 0 cap, fv] w fun e w' => e = .returned (.tuple #[]) ∧ w = w' :=
  (AnyF.slices_SortFunc_none Tryz.sortPair p cap fv w).mono fun e w' ⟨h1, h2⟩ => ⟨h1, h2.symm⟩
theorem pcompP_any (B : Nat) (A : Option Addr) (c : Nat) (zs : List (Int × Int)) (w : World) (hz : zs.length ≤ 1000000) (hown : w.ownsRow B 100 2 (.slice A zs.length c) zs.length (zs.flatMap encE)) :
    Calls Tryz.prog 71 #[.slice A zs.length c, .func (.func 72) #[] #[]] w fun e w' => e = .returned (.tuple #[]) ∧ w.grownBy w' (Value.slice A zs.length c).ownBlock ∧
      Calls Tryz.prog 75 #[.slice A zs.length c] w' fun e w'' => (∃ (m : Nat) (ys : List (Int × Int)), e = .returned (.slice A m c) ∧ m ≤ zs.length ∧ ys.Perm zs ∧ ys.Pairwise (fun x y => ¬ ltPr y x) ∧ Sl w'' B w''.heap.size 2 encE A m (compP ys)) ∧ w'.grownBy w'' (Value.slice A zs.length c).ownBlock := by
  rcases hown.2 with ⟨h, h0⟩ | ⟨g, cap, cur, h, hg, hh, hn, hcap, hsz, ht⟩
  · have hzs : zs = [] := List.eq_nil_of_length_eq_zero (by first | exact h0 | omega)
    subst hzs
    cases h
    clear hown
    refine (sortPair_none none 0 _ w).mono ?_
    rintro e w' ⟨rfl, rfl⟩
    refine ⟨rfl, World.grownBy.refl _ _, ?_⟩
    go_enter Tryz.func75, Tryz.ntmps75
    go_wp2_with fail
    go_ret
    exact ⟨⟨0, [], rfl, Nat.le_refl _, List.Perm.refl _, List.Pairwise.nil, Sl.nil⟩, World.grownBy.refl _ _⟩
  · injection h with h1 h2 h3
    subst h1 h3
    have hgl : g < w.heap.size := (Array.getElem?_eq_some_iff.1 hh).1
    refine (sortPair_any B g zs.length c zs w hown rfl hg hgl hz).mono ?_
    rintro e w' ⟨rfl, ys, hp, hs, hrow, hgr⟩
    refine ⟨rfl, hgr, ?_⟩
    refine (compactP_any g zs.length c ys w' hz hn hp.length_eq hrow).mono ?_
    rintro e w'' ⟨m, rfl, hm, hS, hgr2⟩
    refine ⟨⟨m, ys, rfl, hm, hp, hs, ⟨hS.1, fun h0 => ?_⟩⟩, hgr2⟩
    obtain ⟨b, off, e1, _, e2, e3⟩ := hS.2 h0
    cases e1
    exact ⟨g, 0, rfl, hg, e2, e3⟩
theorem Tryz.infoPr : (Tryz.prog.info? 100).map (fun i => (i.zero, i.size, i.bytes)) = some (some (.agg #[.int .i64 0, .int .i64 0]), 2, 16) := by kernel_rfl
/-- Pairs handed back with a code. -/
def PairsW (w : World) (out : List (Int × Int)) (code : Int) (e : Ending) (w' : World) : Prop :=
  (∃ A n c, e = .returned (.tuple #[.slice A n c, .int .i64 code]) ∧ n ≤ 1000000 ∧ Sl w' 0 w'.heap.size 2 encE A n out) ∧ Below w.heap.size w w'
set_option maxRecDepth 100000 in
set_option maxHeartbeats 2000000 in
theorem lpairs_any (A : Option Addr) (n c : Nat) (B : Option Addr) (m d : Nat) (C : Option Addr) (k l : Nat) (g : Gr) (w : World) (hG : GrM w A n B m C k g) (hg : GrOk g) :
    Calls Tryz.prog 32 #[.agg #[.slice A n c, .slice B m d, .slice C k l]] w (PairsW w (pairsG g) 0) := by
  have hk : k ≤ 64 := by have := hG.links.len; have := hg.ll; omega
  have HV : Hid (∀ W, Below w.heap.size w W → Calls Tryz.prog 70 #[.agg #[.slice A n c, .slice B m d, .slice C k l]] W fun e w' => e = .returned (.bool true) ∧ Below W.heap.size W w') := fun W hW => lvalid_yes A n c B m d C k l g W (hG.up hW) hg
  have HUL : Hid (∀ W, Below w.heap.size w W → Sl W 0 W.heap.size 3 encL C k g.links) := fun W hW => hG.links.up hW (Nat.le_refl _) (Nat.le_refl _)
  have HLN := Lib.hid hG.links.len
  have HPP : Hid (∀ ys : List (Int × Int), ys.Perm (g.links.map (fun x => (x.obv, x.rev))) → ys.Pairwise (fun x y => ¬ ltPr y x) → compP ys = pairsG g) := fun ys h1 h2 => pairs_prog hg h1 h2
  clear hG hg
  obtain ⟨i0, hi, hz0, hz1, hz2⟩ := info_parts Tryz.infoPr
  go_enter Tryz.func32, Tryz.ntmps32
  go_wp2_with fail
  refine (HV.out _ (by (repeat (first | exact Below.refl _ _ | assumption | refine Below.alloc ?_ (by first | omega | (simp only [World.size_alloc]; omega) | (simp; done) | (simp; omega)) _ | refine Below.setCell ?_ (by first | omega | (simp only [World.size_alloc]; omega) | (simp; done) | (simp; omega)) _ | refine Below.drew ?_ | refine below_drewN ?_ _)))).mono ?_; rintro e w1 ⟨rfl, hb1⟩
  obtain ⟨_, hb, D2⟩ := step1 (vs := [.slice A n c, .slice B m d, .slice C k l]) (Below.refl _ w) hb1
  clear hb1
  have q0 := D2.cell 2 _ rfl
  have hd2 := D2.lt
  go_wp2_with fail
  clear q0 D2
  go_loopw [4, 13] (fun v i wr => ∃ j : Nat, j ≤ k ∧ i = .int .i64 (j : Int) ∧ wr.ownsRow (w.heap.size + 1) 100 2 v j (((g.links.take j).map (fun x => (x.obv, x.rev))).flatMap encE) ∧ Below w.heap.size w wr ∧ w.heap.size < wr.heap.size) (fun _ i _ => k - (intOf i).toNat)
  case atStart => exact ⟨0, by omega, rfl, World.ownsRow_nil _ _ _ _, hb, hd2⟩
  case round =>
    clear hb hd2
    obtain ⟨j, hj, rfl, hown, hbr, hd2⟩ := hrel
    by_cases hlt : j < k
    · obtain ⟨b, off, x, rfl, hbb, hx, x0, x1, x2⟩ := (HUL.out _ hbr).ln hlt
      have HCP : Hid ((g.links.take (j + 1)).map (fun x => (x.obv, x.rev)) = (g.links.take j).map (fun x => (x.obv, x.rev)) ++ [(x.obv, x.rev)]) := by show _ = _; rw [takeSnocW hx, List.map_append]; rfl
      clear hx
      generalize (g.links.take j).map (fun x => (x.obv, x.rev)) = ps at *
      go_wp2_with (at_builtin; refine wpList_append_own _ rfl _ _ 55 rfl (w.heap.size + 1) 100 i0 (.agg #[.int .i64 0, .int .i64 0]) 2 16 Tryz.underlying55 hi hz0 hz1 hz2 rfl (by decide) _ _ _ rfl ((hown.alloc _).alloc _) ⟨wr.heap.size + 1, 0, none⟩ 1 1 [.int .i64 x.obv, .int .i64 x.rev] rfl rfl ?c1 ?c2 ?c3 ?c4 ?c5 ?_)
      case c1 => exact cell_list_at (by simp) _ _
      case c2 => exact encE_one (x.obv, x.rev)
      case c3 => unfold maxLen; omega
      case c4 => omega
      case c5 => simp; omega
      · intro v' w5 hown' hgrow _
        have hb6 : Below w.heap.size w w5 := Below.grown ((hbr.alloc hbr.size _).alloc (by simp; omega) _) hgrow (by simp; omega) (fun g hg => by have := (hown.lt g hg).1; omega)
        have hz6 := hgrow.size
        rw [World.size_alloc, World.size_alloc] at hz6
        clear hgrow hown hbr
        go_wp2_with fail
        exact ⟨⟨j + 1, by omega, by go_num, by rw [HCP.out, List.flatMap_append]; exact hown', hb6, by omega⟩, by simp [intOf]; omega⟩
    · obtain rfl : j = k := by omega
      rw [take_all HLN.out] at hown
      have HPQ := Lib.hid (HPP.out)
      have hll : (g.links.map (fun x => (x.obv, x.rev))).length = j := by rw [List.length_map]; exact HLN.out
      generalize g.links.map (fun x => (x.obv, x.rev)) = ps at *
      obtain ⟨A0, c0, rfl, hc0⟩ := own_form hown
      have HLT : Hid (∀ g, (Value.slice A0 j c0).ownBlock = some g → w.heap.size + 1 ≤ g) := fun g hg => (hown.lt g hg).1
      have HSC := Lib.hid (pcompP_any (w.heap.size + 1) A0 c0 ps wr (by omega) (by rw [hll]; exact hown))
      rw [hll] at HSC
      clear hown hll
      go_wp2_with fail
      refine HSC.out.mono ?_; rintro e w3 ⟨rfl, hgr3, hcal⟩
      have hb3 : Below w.heap.size w w3 := Below.grown hbr hgr3 hbr.size (fun g hg => by have := HLT.out g hg; omega)
      have HCL := Lib.hid hcal
      clear hcal hgr3
      go_wp2_with fail
      refine HCL.out.mono ?_; rintro e w4 ⟨⟨m4, ys, rfl, hm4, hp, hs, hS4⟩, hgr4⟩
      have hb4 : Below w.heap.size w w4 := Below.grown hb3 hgr4 hb3.size (fun g hg => by have := HLT.out g hg; omega)
      have HR : Hid (compP ys = pairsG g) := HPQ.out ys hp hs
      clear hgr4 hp hs
      go_wp2_with fail
      go_ret2
      exact ⟨⟨A0, m4, c0, rfl, by omega, by rw [← HR.out]; exact hS4.any⟩, hb4⟩
end Go.Proofs.YtdokpmfejibdlaaGreatDoor
