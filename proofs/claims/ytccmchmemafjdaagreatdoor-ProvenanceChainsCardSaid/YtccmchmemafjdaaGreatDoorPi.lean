/- Chapter 46: pairs sorted by the library. -/
import Derived.Test.YtccmchmemafjdaaGreatDoorPh
import Derived.Test.YtccmchmemafjdaaGreatDoorSortPr
set_option linter.unusedSimpArgs false
set_option linter.unusedVariables false
namespace Go.Proofs.YtccmchmemafjdaaGreatDoor
open Go.RowKit Go.Sort

def ltPr (a b : Int × Int) : Prop := a.1 < b.1 ∨ (a.1 = b.1 ∧ a.2 < b.2)
instance (a b : Int × Int) : Decidable (ltPr a b) := by unfold ltPr; infer_instance
def ordP (a b : Int × Int) : Int := orI [cmpI a.1 b.1, cmpI a.2 b.2]
theorem ordP_lt (x y : Int × Int) : ltOf ordP x y = decide (ltPr x y) := by
  obtain ⟨a1, a2⟩ := x
  obtain ⟨b1, b2⟩ := y
  unfold ltOf ordP orI ltPr
  rcases cmpI_cases a1 b1 with ⟨h1, e1⟩ | ⟨h1, e1⟩ | ⟨h1, e1⟩
  · simp [e1, h1]
  · rcases cmpI_cases a2 b2 with ⟨h2, e2⟩ | ⟨h2, e2⟩ | ⟨h2, e2⟩
    · simp only [e1, e2]; simp [h1, h2]
    · simp only [e1, e2]; simp [h1, h2]
    · have : ¬ a2 < b2 := by omega
      simp only [e1, e2]; simp [h1, this]
  · have h3 : ¬ a1 < b1 := by omega
    have h4 : ¬ a1 = b1 := by omega
    simp [e1, h3, h4]
theorem swoP : SWO (ltOf ordP) where
  irrefl x := by rw [ordP_lt]; simp [ltPr]
  trans x y z h1 h2 := by
    rw [ordP_lt, decide_eq_true_iff] at *
    unfold ltPr at *
    omega
  ntrans x y z h1 h2 := by
    rw [ordP_lt, decide_eq_false_iff_not] at *
    unfold ltPr at *
    omega
theorem keep4P {w0 w1 : World} {p1 p2 p3 p4 : Addr} {v1 v2 v3 v4 : Value} (h1 : w0.cell? p1 = some v1) (h2 : w0.cell? p2 = some v2) (h3 : w0.cell? p3 = some v3) (h4 : w0.cell? p4 = some v4)
    (l1 : p1.block < w0.heap.size) (l2 : p2.block < w0.heap.size) (l3 : p3.block < w0.heap.size) (l4 : p4.block < w0.heap.size) (hb : Below w0.heap.size w0 w1) :
    w1.cell? p1 = some v1 ∧ w1.cell? p2 = some v2 ∧ w1.cell? p3 = some v3 ∧ w1.cell? p4 = some v4 ∧ Below w0.heap.size w0 w1 :=
  ⟨(hb.cell l1).trans h1, (hb.cell l2).trans h2, (hb.cell l3).trans h3, (hb.cell l4).trans h4, hb⟩
set_option maxHeartbeats 1000000 in
theorem ordP_any (x y : Int × Int) (w : World) :
    Calls Tryz.prog 60 #[.agg #[.int .i64 x.1, .int .i64 x.2], .agg #[.int .i64 y.1, .int .i64 y.2]] w fun e w' => e = .returned (.int .i64 (ordP x y)) ∧ ∃ q os', w' = Sort.grow (w.drewN q) os' := by
  go_enter Tryz.func60, Tryz.ntmps60
  go_wp2_with fail
  have hG : ∃ os, ((w.alloc (.cells #[.int .i64 x.1, .int .i64 x.2] 59)).alloc (.cells #[.int .i64 y.1, .int .i64 y.2] 59)) = Sort.grow w os := ⟨_, by rw [Sort.alloc_eq_grow, Sort.alloc_eq_grow, Sort.grow_grow]⟩
  have Z := (Bx.new w [.int .i64 x.1, .int .i64 x.2] 59).alloc (.cells #[.int .i64 y.1, .int .i64 y.2] 59)
  have Y := Bx.new (w.alloc (.cells #[.int .i64 x.1, .int .i64 x.2] 59)) [.int .i64 y.1, .int .i64 y.2] 59
  rw [World.size_alloc] at Y
  generalize (w.alloc (.cells #[.int .i64 x.1, .int .i64 x.2] 59)).alloc (.cells #[.int .i64 y.1, .int .i64 y.2] 59) = W1 at *
  have Z0 := Z.cell 0 _ rfl; have Z1 := Z.cell 1 _ rfl; have Zlt := Z.lt
  have Y0 := Y.cell 0 _ rfl; have Y1 := Y.cell 1 _ rfl; have Ylt := Y.lt
  have HG := Lib.hid hG; clear hG Z Y
  go_region_held3 (fun U => U.cell? ⟨w.heap.size, 0, none⟩ = some (.int .i64 x.1) ∧ U.cell? ⟨w.heap.size, 1, none⟩ = some (.int .i64 x.2) ∧ U.cell? ⟨w.heap.size + 1, 0, none⟩ = some (.int .i64 y.1) ∧ U.cell? ⟨w.heap.size + 1, 1, none⟩ = some (.int .i64 y.2) ∧ Below W1.heap.size W1 U)
    (first | exact keep4P Z0 Z1 Y0 Y1 Zlt Zlt Ylt Ylt (by (repeat (first | exact Below.refl _ _ | assumption | refine Below.alloc ?_ (by first | omega | (simp only [World.size_alloc]; omega) | (simp; done) | (simp; omega)) _ | refine Below.setCell ?_ (by first | omega | (simp only [World.size_alloc]; omega) | (simp; done) | (simp; omega)) _ | refine Below.drew ?_ | refine below_drewN ?_ _))) | go_keep)
    (first
      | (go_at_call 62; refine (compare_any _ _ _).mono ?_; rintro e w2 ⟨rfl, rfl⟩)
      | (go_at_call 61; refine (cor_any _ 2 2 [cmpI x.1 y.1, cmpI x.2 y.2] _ (by omega) ⟨rfl, fun _ => ⟨_, 0, rfl, Nat.zero_le _, by simp, fun i z hz j u hu => by rcases i with _ | _ | i <;> simp at hz <;> subst hz <;> (rcases j with _ | j <;> simp [encI] at hu <;> subst hu <;> simp)⟩⟩).mono ?_; rintro e w2 ⟨rfl, rfl⟩))
  all_goals
    go_wp2_with fail
    go_ret
    obtain ⟨os, hos⟩ := HG.out
    refine ⟨rfl, ?_⟩
    rw [hos]
    exact ⟨1, _, by rw [Sort.alloc_eq_grow, Sort.grow_grow]; rfl⟩
set_option maxHeartbeats 1000000 in
theorem sortPair_any (base g n cap : Nat) (xs : List (Int × Int)) (w : World) (h : w.ownsRow base 59 2 (.slice (some ⟨g, 0, none⟩) n cap) n (xs.flatMap encE)) (hl : xs.length = n) (hbg : base ≤ g) (hg : g < w.heap.size) (hn : n ≤ 1000000) :
    Calls Tryz.prog 59 #[.slice (some ⟨g, 0, none⟩) n cap, .func (.func 60) #[] #[]] w fun e w' => e = .returned (.tuple #[]) ∧ ∃ ys : List (Int × Int), ys.Perm xs ∧ ys.Pairwise (fun x y => ¬ ltPr y x) ∧ Sl w' base w'.heap.size 2 encE (some ⟨g, 0, none⟩) n ys ∧ w.grownBy w' (some g) := by
  have eg : ∀ args w, (callFunc 60 args).run Tryz.prog w = .ok (.enter 60 args) w := enters_of Tryz.func60 (by kernel_rfl) rfl
  have hH := holdsK_of_own (k := 2) encE_len h hl
  have hcon := AnyQ.slices_SortFunc Tryz.sortPair 2 Tryz.isAgg59 Tryz.sizeOf59 encE encE_len encE_one ordP swoP 60 #[] g 0 cap xs.toArray w eg (fun m os dk hs x y => ordP_any x y _) hH hg (by simp; omega)
  change Calls Tryz.prog 59 _ _ _ at hcon
  rw [List.size_toArray, hl] at hcon
  refine hcon.mono ?_
  rintro e w' ⟨he, d', q, os, hp, hs, rfl⟩
  have hsz : d'.size = n := by rw [hp.1]; simp [hl]
  have hgr : w.grownBy (sortWorldK encE 2 w g 0 q d' os) (some g) := grownBy_sortK
  refine ⟨he, d'.toList, ?_, ?_, sl_sorted encE_len h hl hsz hbg hg, hgr⟩
  · have := hp.2.2
    rw [show d'.extract 0 n = d' from by rw [← hsz]; simp, show xs.toArray.extract 0 n = xs.toArray from by rw [← hl]; simp] at this
    simpa using this
  · rw [← hsz] at hs
    refine sortedIn_pairwise hs ?_
    intro x y hxy
    rw [ordP_lt] at hxy
    simpa using hxy
theorem sortPair_none (p : Option Addr) (cap : Nat) (fv : Value) (w : World) :
    Calls Tryz.prog 59 #[.slice p 0 cap, fv] w fun e w' => e = .returned (.tuple #[]) ∧ w = w' :=
  (AnyF.slices_SortFunc_none Tryz.sortPair p cap fv w).mono fun e w' ⟨h1, h2⟩ => ⟨h1, h2.symm⟩
end Go.Proofs.YtccmchmemafjdaaGreatDoor
