/- Cover: the library's part. -/
import Derived.Test.YthbckkjihijekaaDoorSortL
import Derived.Test.YthbckkjihijekaaDoorSort
import Derived.Test.YthbckkjihijekaaDoorCp
import Derived.Deep.DeepFit
set_option linter.unusedSimpArgs false
set_option linter.unusedVariables false
namespace Go.Proofs.YthbckkjihijekaaDoor
open Go.RowKit Go.Sort

set_option maxHeartbeats 1000000 in
theorem coverCmp (x y : Int × Int) (W : World) : Calls Tryd.prog 47 #[.agg #[.int .i64 x.1, .int .i64 x.2], .agg #[.int .i64 y.1, .int .i64 y.2]] W fun e w' => e = .returned (.int .i64 (cmpI x.1 y.1)) ∧ ∃ q os', w' = grow (W.drewN q) os' := by
  go_enter Tryd.func47, Tryd.ntmps47
  go_wp2_with (go_at_call 41; refine (compare_any _ _ _).mono ?_; rintro e w' ⟨rfl, rfl⟩)
  go_ret
  exact ⟨rfl, 0, _, by rw [alloc_eq_grow, alloc_eq_grow, grow_grow]; rfl⟩
def cfY (x y : Int × Int) : Int := cmpI x.1 y.1
theorem ltY (x y : Int × Int) : ltOf cfY x y = decide (x.1 < y.1) := by
  unfold ltOf cfY
  rcases cmpI_cases x.1 y.1 with ⟨h, e⟩ | ⟨h, e⟩ | ⟨h, e⟩ <;> rw [e] <;> simp <;> omega
theorem swoY : SWO (ltOf cfY) where
  irrefl x := by rw [ltY]; simp
  trans x y z h1 h2 := by rw [ltY] at *; simp at *; omega
  ntrans x y z h1 h2 := by rw [ltY] at *; simp at *; omega

theorem sortedIn_pairwise {α : Type} [Inhabited α] {lt : α → α → Bool} {R : α → α → Prop} {d : Array α} (h : SortedIn lt 0 d.size d) (hR : ∀ x y, lt y x = false → R x y) : d.toList.Pairwise R := by
  rw [List.pairwise_iff_getElem]
  intro i j hi hj hij
  have := h i j (Nat.zero_le _) hij (by simpa using hj)
  rw [getElem!_pos _ _ (by simpa using hj), getElem!_pos _ _ (by simpa using hi)] at this
  exact hR _ _ (by simpa using this)

set_option maxHeartbeats 1000000 in
theorem sortFunc_any (base g n cap : Nat) (xs : List (Int × Int)) (w : World) (h : w.ownsRow base 23 2 (.slice (some ⟨g, 0, none⟩) n cap) n (xs.flatMap encY)) (hl : xs.length = n) (hbg : base ≤ g) (hg : g < w.heap.size) (hn : n ≤ 1000000) :
    Calls Tryd.prog 59 #[.slice (some ⟨g, 0, none⟩) n cap, .func (.func 47) #[] #[]] w fun e w' => e = .returned (.tuple #[]) ∧ ∃ ys : List (Int × Int), ys.Perm xs ∧ ys.Pairwise (fun x y => x.1 ≤ y.1) ∧ Sl w' base w'.heap.size 2 encY (some ⟨g, 0, none⟩) n ys ∧ Below base w w' := by
  have eg : ∀ args w, (callFunc 47 args).run Tryd.prog w = .ok (.enter 47 args) w := enters_of Tryd.func47 (by kernel_rfl) rfl
  have hH := holdsK_of_own (k := 2) encY_len h hl
  have hcon := AnyQ.slices_SortFunc Tryd.sortYears 2 Tryd.isAgg23 Tryd.sizeOf23 encY encY_len (fun x v hv => by simp [encY] at hv; rcases hv with rfl | rfl <;> rfl) cfY swoY 47 #[] g 0 cap xs.toArray w eg (fun m os dk hs x y => coverCmp x y _) hH hg (by simp; omega)
  change Calls Tryd.prog 59 _ _ _ at hcon
  rw [List.size_toArray, hl] at hcon
  refine hcon.mono ?_
  rintro e w' ⟨he, d', q, os, hp, hs, rfl⟩
  have hsz : d'.size = n := by rw [hp.1]; simp [hl]
  refine ⟨he, d'.toList, ?_, ?_, sl_sorted encY_len h hl hsz hbg hg, below_sorted hbg hg⟩
  · have := hp.2.2
    rw [show d'.extract 0 n = d' from by rw [← hsz]; simp, show xs.toArray.extract 0 n = xs.toArray from by rw [← hl]; simp] at this
    simpa using this
  · rw [← hsz] at hs
    refine sortedIn_pairwise hs ?_
    intro x y hxy
    rw [ltY] at hxy
    simpa using hxy
theorem sortFunc_none (p : Option Addr) (cap : Nat) (fv : Value) (w : World) :
    Calls Tryd.prog 59 #[.slice p 0 cap, fv] w fun e w' => e = .returned (.tuple #[]) ∧ w = w' :=
  (AnyF.slices_SortFunc_none Tryd.sortYears p cap fv w).mono fun e w' ⟨h1, h2⟩ => ⟨h1, h2.symm⟩

set_option maxHeartbeats 1000000 in
theorem sortedFunc_any (Bs : Nat) (A : Option Addr) (len cap : Nat) (zs : List (Int × Int)) (w : World) (hlen : len ≤ 1000000) (hBs : Bs < w.heap.size)
    (hc : w.cell? ⟨Bs, 0, none⟩ = some (.slice A len cap)) (hS : Sl w 0 w.heap.size 2 encY A len zs) :
    Calls Tryd.prog 45 #[.func (.func 60) #[] #[.pointer (some ⟨Bs, 0, none⟩)], .func (.func 47) #[] #[]] w fun e w' => ∃ A' c', ∃ ys : List (Int × Int), e = .returned (.slice A' len c') ∧ ys.Perm zs ∧ ys.Pairwise (fun x y => x.1 ≤ y.1) ∧ Sl w' w.heap.size w'.heap.size 2 encY A' len ys ∧ Below w.heap.size w w' := by
  have hl := hS.len
  have happ : Calls Tryd.prog 67 #[.slice none 0 0, .func (.func 60) #[] #[.pointer (some ⟨Bs, 0, none⟩)]] w fun e W' => ∃ v, e = .returned v ∧ W'.ownsRow w.heap.size 23 2 v zs.length (zs.flatMap encY) ∧ Below w.heap.size w W' :=
    callsIn_wide.1 (appendSeq_in Fence.wide 6 trivial rfl (by omega) 60 _ trivial (enters_of Tryd.func60 (by kernel_rfl) rfl) len zs w hlen
      (fun W hW => values_stops Fence.wide 5 trivial rfl (by omega) Bs w.heap.size A len cap zs hlen W (by have := hW.size; omega) hW.size ((hW.cell (p := ⟨Bs, 0, none⟩) hBs).trans hc) (hS.below hW (Nat.le_refl _))) (by omega))
  have hcol : Calls Tryd.prog 58 #[.func (.func 60) #[] #[.pointer (some ⟨Bs, 0, none⟩)]] w fun e W' => ∃ v, e = .returned v ∧ W'.ownsRow w.heap.size 23 2 v zs.length (zs.flatMap encY) ∧ Below w.heap.size w W' := by
    have HA := Lib.hid happ; clear happ
    clear hc hS
    go_enter Tryd.func58, Tryd.ntmps58
    go_wp2_with fail
    go_fit HA.out
    rintro e w1 ⟨v, rfl, hown, hb⟩
    go_wp2_with fail
    go_ret
    exact ⟨v, rfl, hown, hb⟩
  have HC := Lib.hid hcol; clear hcol happ
  clear hc hS
  go_enter Tryd.func45, Tryd.ntmps45
  go_wp2_with fail
  go_fit HC.out
  rintro e w1 ⟨v, rfl, hown, hb⟩
  have hz1 := hb.size
  rcases Nat.eq_zero_or_pos len with h0 | h0
  · obtain ⟨A1, c1, hv, _⟩ := own_form hown
    rw [hl, h0] at hv
    rw [hv]
    have hzs : zs = [] := List.eq_nil_of_length_eq_zero (by omega)
    clear hown hv
    subst h0
    go_wp2_with fail
    go_fit (sortFunc_none _ _ _ _)
    rintro e w2 ⟨rfl, rfl⟩
    go_wp2_with fail
    go_ret
    exact ⟨A1, c1, [], rfl, by rw [hzs], List.Pairwise.nil, Sl.nil, hb⟩
  · rw [hl] at hown
    obtain ⟨m, rfl⟩ : ∃ m, len = m + 1 := ⟨len - 1, by omega⟩
    obtain ⟨g, c1, hv⟩ := ownsRow_succ hown
    rw [hv] at hown ⊢
    clear hv
    have hgl := hown.lt g rfl
    have HS := Lib.hid (sortFunc_any w.heap.size g (m + 1) c1 zs w1 hown hl hgl.1 hgl.2 hlen)
    clear hown
    go_wp2_with fail
    go_fit HS.out
    rintro e w2 ⟨rfl, ys, hp, hpw, hS2, hb2⟩
    go_wp2_with fail
    go_ret
    exact ⟨_, _, ys, rfl, hp, hpw, hS2, hb.trans hb2⟩

set_option maxHeartbeats 1000000 in
theorem cover1_any (x : Int × Int) (w : World) : Calls Tryd.prog 44 #[.agg #[.int .i64 x.1, .int .i64 x.2]] w fun e w' => e = .returned (.bool (invY x)) ∧ Below w.heap.size w w' := by
  go_enter Tryd.func44, Tryd.ntmps44
  go_wp2_with (go_at_call 17; refine (valid_any _ _ _).mono ?_; rintro e w' ⟨rfl, rfl⟩)
  go_ret
  exact ⟨rfl, by (repeat (first | exact Below.refl _ _ | assumption | refine Below.alloc ?_ (by first | omega | (simp only [World.size_alloc]; omega) | (simp; done) | (simp; omega)) _ | refine Below.setCell ?_ (by first | omega | (simp only [World.size_alloc]; omega) | (simp; done) | (simp; omega)) _ | refine Below.drew ?_ | refine below_drewN ?_ _))⟩
set_option maxRecDepth 100000 in
set_option maxHeartbeats 1000000 in
theorem indexFunc_any (A : Option Addr) (len cap : Nat) (zs : List (Int × Int)) (w : World) (hlen : len ≤ 1000000) (hS : Sl w 0 w.heap.size 2 encY A len zs) :
    Calls Tryd.prog 57 #[.slice A len cap, .func (.func 44) #[] #[]] w fun e w' => ∃ r : Int, e = .returned (.int .i64 r) ∧ decide (0 ≤ r) = zs.any invY ∧ Below w.heap.size w w' := by
  have hl := hS.len
  go_enter Tryd.func57, Tryd.ntmps57
  go_wp2_with fail
  go_loopw [8] (fun i wr => ∃ k : Nat, k ≤ len ∧ i = .int .i64 k ∧ (zs.take k).any invY = false ∧ Below w.heap.size w wr) (fun i _ => len - (intOf i).toNat)
  case atStart => exact ⟨0, by omega, rfl, rfl, Below.refl _ _⟩
  case round =>
    obtain ⟨k, hk, rfl, hn, hb⟩ := hrel
    have HN := Lib.hid hn; clear hn
    by_cases hlt : k < len
    · obtain ⟨b, off, x, rfl, _, hbb, hx, hcx⟩ := (hS.below hb (Nat.le_refl _)).at_ hlt
      have hc0 : wr.cell? ⟨b, off + k * 2, none⟩ = some (.int .i64 x.1) := hcx 0 _ rfl
      have hc1 : wr.cell? ⟨b, off + k * 2 + 1, none⟩ = some (.int .i64 x.2) := hcx 1 _ rfl
      have HX := Lib.hid hx; clear hx hcx
      go_wp2_with fail
      go_fit (cover1_any x _)
      rintro e w1 ⟨rfl, hb1⟩
      have hb1' : Below w.heap.size w w1 := hb.trans (hb1.mono hb.size)
      clear hb1 hc0 hc1 hbb
      cases hp : invY x
      · have HP := Lib.hid hp; clear hp
        go_wp2_with fail
        go_roundw
        case rel => exact ⟨k + 1, by omega, by go_num, by rw [any_take_succ HX.out, HN.out, HP.out]; rfl, hb1'⟩
        case measure => simp [intOf]; omega
      · have HP := Lib.hid hp; clear hp
        go_wp2_with fail
        go_ret
        exact ⟨_, rfl, by rw [any_of_at HX.out HP.out]; simp, hb1'⟩
    · obtain rfl : k = len := by omega
      go_wp2_with fail
      go_ret
      have hn := HN.out
      rw [List.take_of_length_le (by omega)] at hn
      exact ⟨-1, rfl, by rw [hn]; rfl, hb⟩
set_option maxHeartbeats 1000000 in
theorem containsFunc_any (A : Option Addr) (len cap : Nat) (zs : List (Int × Int)) (w : World) (hlen : len ≤ 1000000) (hS : Sl w 0 w.heap.size 2 encY A len zs) :
    Calls Tryd.prog 43 #[.slice A len cap, .func (.func 44) #[] #[]] w fun e w' => e = .returned (.bool (zs.any invY)) ∧ Below w.heap.size w w' := by
  have H := Lib.hid (indexFunc_any A len cap zs w hlen hS)
  clear hS
  go_enter Tryd.func43, Tryd.ntmps43
  go_wp2_with fail
  go_fit H.out
  rintro e w1 ⟨r, rfl, hr, hb⟩
  have HR := Lib.hid hr; clear hr
  go_wp2_with fail
  go_ret
  exact ⟨by rw [← HR.out]; rfl, hb⟩
end Go.Proofs.YthbckkjihijekaaDoor
