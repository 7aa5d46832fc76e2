/- Chapter 54: numbers sorted in their row; two rows that grow beside one another. -/
import Derived.Test.YtdokpmfejibdlaaGreatDoorWg
import Derived.Sort.OwnSortedInts
import Derived.Deep.AppendLies
import Derived.OneCell
import Derived.Deep.RegionLaw
set_option linter.unusedSimpArgs false
set_option linter.unusedVariables false
namespace Go.Proofs.YtdokpmfejibdlaaGreatDoor
open Go.RowKit

theorem asc_lt {l : List Int} (h : l.Pairwise (· < ·)) {i j : Nat} {x y : Int} (hx : l[i]? = some x) (hy : l[j]? = some y) (hij : i < j) : x < y := by
  obtain ⟨hi, rfl⟩ := List.getElem?_eq_some_iff.1 hx
  obtain ⟨hj, rfl⟩ := List.getElem?_eq_some_iff.1 hy
  exact (List.pairwise_iff_getElem.1 h) i j hi hj hij
set_option maxRecDepth 100000 in
set_option maxHeartbeats 1000000 in
theorem numbers_yes (A : Option Addr) (n c : Nat) (l : List Int) (w : World) (hn : n ≤ 32) (hS : Sl w 0 w.heap.size 1 encI A n l) (ha : l.Pairwise (· < ·)) (hr : ∀ x ∈ l, 1 ≤ x ∧ x ≤ 999) :
    Calls Tryz.prog 116 #[.slice A n c] w fun e w' => e = .returned (.bool true) ∧ w' = w := by
  have HS := Lib.hid hS; clear hS
  have HA := Lib.hid ha; clear ha
  have HR := Lib.hid hr; clear hr
  go_enter Tryz.func116, Tryz.ntmps116
  go_wp2_with fail
  go_loop [7] (fun i => ∃ k : Nat, k ≤ n ∧ i = .int .i64 (k : Int)) (fun i => n - (intOf i).toNat)
  case atStart => exact ⟨0, by omega, rfl⟩
  case round =>
    obtain ⟨k, hk, rfl⟩ := hrel
    by_cases hlt : k < n
    · obtain ⟨b, off, x, rfl, hbb, hx, c0⟩ := HS.out.in_ hlt
      obtain ⟨h1, h2⟩ := HR.out x (List.mem_of_getElem? hx)
      have h3 : ¬ x < 1 := by omega
      have h4 : ¬ 999 < x := by omega
      rcases Nat.eq_zero_or_pos k with rfl | hk0
      · clear hx
        rw [Nat.add_zero] at c0
        go_wp2_with fail
        go_round
        case rel => exact ⟨1, by omega, by go_num⟩
        case measure => simp [intOf]; omega
      · obtain ⟨kp, rfl⟩ : ∃ kp, k = kp + 1 := ⟨k - 1, by omega⟩
        obtain ⟨b', off', y, hA, _, hy, d0⟩ := HS.out.in_ (show kp < n by omega)
        cases hA
        have h5 : ¬ x ≤ y := by have := asc_lt HA.out hy hx (by omega); omega
        have k6 : IntKind.i64.wrap (kp : Int) = (kp : Int) := by rw [IntKind.wrap_i64]; omega
        have k5 : (0 : Int) < (kp : Int) + 1 := by omega
        have k4 : (kp : Int) < (n : Int) := by omega
        clear hx hy
        go_wp2_with fail
        go_round
        case rel => exact ⟨kp + 1 + 1, by omega, by go_num⟩
        case measure => simp [intOf]; omega
    · obtain rfl : k = n := by omega
      go_wp2_with fail
      go_ret
      exact ⟨by simp; omega, rfl⟩
set_option maxHeartbeats 1000000 in
theorem isnan_any (x : Int) (w : World) : Calls Tryz.prog 120 #[.int .i64 x] w fun e w' => e = .returned (.bool false) ∧ w' = w := by
  go_enter Tryz.func120, Tryz.ntmps120
  go_wp2
  go_ret
  exact ⟨by simp, rfl⟩
set_option maxHeartbeats 1000000 in
theorem less_any (x y : Int) (w : World) : Calls Tryz.prog 130 #[.int .i64 x, .int .i64 y] w fun e w' => e = .returned (.bool (decide (x < y))) ∧ w' = w := by
  go_enter Tryz.func130, Tryz.ntmps130
  go_wp2_with (go_at_call 120; refine (isnan_any _ _).mono ?_; rintro e w' ⟨rfl, rfl⟩)
  go_ret
  exact ⟨rfl, rfl⟩
set_option maxHeartbeats 1000000 in
theorem isnan2_any (x : Int) (w : World) : Calls Tryz.prog 131 #[.int .i64 x] w fun e w' => e = .returned (.bool false) ∧ w' = w := by
  go_enter Tryz.func131, Tryz.ntmps131
  go_wp2
  go_ret
  exact ⟨by simp, rfl⟩
theorem half_lt {i j : Nat} (h : i < j) : i ≤ (i + j) / 2 ∧ (i + j) / 2 < j := by omega
set_option maxRecDepth 100000 in
set_option maxHeartbeats 2000000 in
theorem bsearch_any (A : Option Addr) (n c : Nat) (l : List Int) (t : Int) (w : World) (hn : n ≤ 1000000) (hS : Sl w 0 w.heap.size 1 encI A n l) (ha : l.Pairwise (· < ·)) :
    Calls Tryz.prog 87 #[.slice A n c, .int .i64 t] w fun e w' => (∃ i : Nat, e = .returned (.tuple #[.int .i64 (i : Int), .bool (decide (t ∈ l))]) ∧ i ≤ n ∧ (∀ x ∈ l.take i, x < t) ∧ ∀ x ∈ l.drop i, t ≤ x) ∧ w' = w := by
  have HL := Lib.hid (Sl.len hS)
  have HS := Lib.hid hS; clear hS
  have HA := Lib.hid ha; clear ha
  go_enter Tryz.func87, Tryz.ntmps87
  go_wp2_with fail
  go_loop [7, 8] (fun a b => ∃ i j : Nat, i ≤ j ∧ j ≤ n ∧ a = .int .i64 (i : Int) ∧ b = .int .i64 (j : Int) ∧ (∀ x ∈ l.take i, x < t) ∧ (∀ x ∈ l.drop j, t ≤ x)) (fun a b => (intOf b - intOf a).toNat)
  case atStart => exact ⟨0, n, by omega, by omega, rfl, rfl, by simp, by rw [List.drop_of_length_le (by rw [HL.out]; omega)]; simp⟩
  case round =>
    obtain ⟨i, j, hij, hj, rfl, rfl, hlo, hhi⟩ := hrel
    have HLO := Lib.hid hlo; clear hlo
    have HHI := Lib.hid hhi; clear hhi
    by_cases hlt : i < j
    · obtain ⟨m1, m2⟩ := half_lt hlt
      obtain ⟨b, off, x, rfl, hbb, hx, c0⟩ := HS.out.in_ (show (i + j) / 2 < n by omega)
      have HX := Lib.hid hx; clear hx
      have hmi : ((i : Int) + (j : Int)) / 2 = (((i + j) / 2 : Nat) : Int) := by omega
      have HMI := Lib.hid hmi; clear hmi
      have hxn : ((i : Int) + (j : Int)) / 2 < (n : Int) := by omega
      have hx0 : (0 : Int) ≤ ((i : Int) + (j : Int)) / 2 := by omega
      by_cases hxt : x < t
      · have hd : decide (x < t) = true := decide_eq_true hxt
        have HLE := Lib.hid (less_any x t w)
        rw [hd] at HLE
        go_wp2_with fail
        go_fit HLE.out
        rintro e w2 ⟨rfl, rfl⟩
        go_wp2_with fail
        go_round
        case rel =>
          refine ⟨(i + j) / 2 + 1, j, by omega, hj, by rw [HMI.out]; go_num, rfl, fun y hy => ?_, HHI.out⟩
          obtain ⟨q, hq, rfl⟩ := List.mem_take_iff_getElem.1 hy
          have hql : q < l.length := by omega
          rcases Nat.lt_or_ge q ((i + j) / 2) with h1 | h1
          · have := asc_lt HA.out (List.getElem?_eq_getElem hql) HX.out h1
            omega
          · obtain rfl : q = (i + j) / 2 := by omega
            have := HX.out
            rw [List.getElem?_eq_getElem hql] at this
            injection this with this
            rw [this]
            exact hxt
        case measure => simp [intOf]; omega
      · have hd : decide (x < t) = false := decide_eq_false hxt
        have HLE := Lib.hid (less_any x t w)
        rw [hd] at HLE
        go_wp2_with fail
        go_fit HLE.out
        rintro e w2 ⟨rfl, rfl⟩
        go_wp2_with fail
        go_round
        case rel =>
          refine ⟨i, (i + j) / 2, by omega, by omega, rfl, by rw [HMI.out], HLO.out, fun y hy => ?_⟩
          obtain ⟨q, hq⟩ := List.getElem?_of_mem hy
          rw [List.getElem?_drop] at hq
          rcases Nat.eq_zero_or_pos q with rfl | h1
          · rw [Nat.add_zero, HX.out] at hq
            injection hq with hq
            omega
          · have := asc_lt HA.out HX.out hq (by omega)
            omega
        case measure => simp [intOf]; omega
    · obtain rfl : i = j := by omega
      by_cases hin : i < n
      · obtain ⟨b, off, x, rfl, hbb, hx, c0⟩ := HS.out.in_ hin
        have HX := Lib.hid hx; clear hx
        have hin' : (i : Int) < (n : Int) := by omega
        by_cases hxt : x = t
        · have he : (x == t) = true := by simpa using hxt
          have HM : Hid (decide (t ∈ l) = true) := decide_eq_true (hxt ▸ List.mem_of_getElem? HX.out)
          clear hxt
          go_wp2_with fail
          refine bodyPost_ret (v := .tuple #[.int .i64 (i : Int), .bool true]) (by simp [results, Tryz.results87, go_sem]) rfl ?_
          exact ⟨⟨i, by rw [HM.out], hj, HLO.out, HHI.out⟩, rfl⟩
        · have he : (x == t) = false := by simpa using hxt
          have HM : Hid (decide (t ∈ l) = false) := decide_eq_false fun hm => by
            obtain ⟨q, hq⟩ := List.getElem?_of_mem hm
            have hql := (List.getElem?_eq_some_iff.1 hq).1
            rcases Nat.lt_or_ge q i with h1 | h1
            · have := HLO.out t (List.mem_take_iff_getElem.2 ⟨q, by omega, (List.getElem?_eq_some_iff.1 hq).2⟩)
              omega
            · rcases Nat.eq_or_lt_of_le h1 with h2 | h2
              · subst h2
                rw [HX.out] at hq
                injection hq with hq
                exact hxt hq
              · have h3 := asc_lt HA.out HX.out hq h2
                have h4 := HHI.out x (List.mem_of_getElem? (i := 0) (by rw [List.getElem?_drop, Nat.add_zero]; exact HX.out))
                omega
          have HNI := Lib.hid (isnan_any x w)
          clear hxt
          go_wp2_with fail
          go_fit (isnan2_any x w)
          rintro e w2 ⟨rfl, rfl⟩
          go_wp2_with fail
          refine bodyPost_ret (v := .tuple #[.int .i64 (i : Int), .bool false]) (by simp [results, Tryz.results87, go_sem]) rfl ?_
          exact ⟨⟨i, by rw [HM.out], hj, HLO.out, HHI.out⟩, rfl⟩
      · have hin' : ¬ (i : Int) < (n : Int) := by omega
        have HM : Hid (decide (t ∈ l) = false) := decide_eq_false fun hm => by
          have := HLO.out t (by rw [List.take_of_length_le (by rw [HL.out]; omega)]; exact hm)
          omega
        go_wp2_with fail
        refine bodyPost_ret (v := .tuple #[.int .i64 (i : Int), .bool false]) (by simp [results, Tryz.results87, go_sem]) rfl ?_
        exact ⟨⟨i, by rw [HM.out], hj, HLO.out, HHI.out⟩, rfl⟩
/-- A number that is there is found at its place. -/
theorem at_low {l : List Int} (ha : l.Pairwise (· < ·)) {t : Int} {i : Nat} (hm : t ∈ l) (h1 : ∀ x ∈ l.take i, x < t) (h2 : ∀ x ∈ l.drop i, t ≤ x) : l[i]? = some t := by
  obtain ⟨q, hq⟩ := List.getElem?_of_mem hm
  have hql := (List.getElem?_eq_some_iff.1 hq).1
  rcases Nat.lt_trichotomy q i with h3 | h3 | h3
  · have := h1 t (List.mem_take_iff_getElem.2 ⟨q, by omega, (List.getElem?_eq_some_iff.1 hq).2⟩)
    omega
  · subst h3; exact hq
  · have hil : i < l.length := by omega
    have h4 := asc_lt ha (List.getElem?_eq_getElem hil) hq h3
    have h5 := h2 l[i] (List.mem_of_getElem? (i := 0) (by rw [List.getElem?_drop, Nat.add_zero]; exact List.getElem?_eq_getElem hil))
    omega
set_option maxHeartbeats 1000000 in
theorem lhas_any (A : Option Addr) (n c : Nat) (l : List Int) (t : Int) (w : World) (hn : n ≤ 1000000) (hS : Sl w 0 w.heap.size 1 encI A n l) (ha : l.Pairwise (· < ·)) :
    Calls Tryz.prog 117 #[.slice A n c, .int .i64 t] w fun e w' => e = .returned (.bool (decide (t ∈ l))) ∧ w' = w := by
  have HB := Lib.hid (bsearch_any A n c l t w hn hS ha)
  clear hS
  go_enter Tryz.func117, Tryz.ntmps117
  go_wp2_with fail
  go_fit HB.out
  rintro e w2 ⟨⟨i, rfl, _⟩, rfl⟩
  go_wp2_with fail
  go_ret
  exact ⟨rfl, rfl⟩
set_option maxHeartbeats 1000000 in
theorem end_any (x : Lnk) (side : Int) (w : World) :
    Calls Tryz.prog 89 #[.agg #[.int .i64 x.id, .int .i64 x.obv, .int .i64 x.rev], .int .i64 side] w fun e w' => e = .returned (.int .i64 (endL x side)) ∧ Below w.heap.size w w' := by
  by_cases h : side = 0
  · subst h
    go_enter Tryz.func89, Tryz.ntmps89
    go_wp2_with fail
    go_ret
    exact ⟨rfl, by (repeat (first | exact Below.refl _ _ | assumption | refine Below.alloc ?_ (by first | omega | (simp only [World.size_alloc]; omega) | (simp; done) | (simp; omega)) _ | refine Below.setCell ?_ (by first | omega | (simp only [World.size_alloc]; omega) | (simp; done) | (simp; omega)) _ | refine Below.drew ?_ | refine below_drewN ?_ _))⟩
  · have h1 : (side == 0) = false := by simpa using h
    have h2 : Hid (endL x side = x.rev) := by show _ = _; unfold endL; rw [if_neg h]
    clear h
    go_enter Tryz.func89, Tryz.ntmps89
    go_wp2_with fail
    go_ret
    exact ⟨by rw [h2.out]; rfl, by (repeat (first | exact Below.refl _ _ | assumption | refine Below.alloc ?_ (by first | omega | (simp only [World.size_alloc]; omega) | (simp; done) | (simp; omega)) _ | refine Below.setCell ?_ (by first | omega | (simp only [World.size_alloc]; omega) | (simp; done) | (simp; omega)) _ | refine Below.drew ?_ | refine below_drewN ?_ _))⟩
end Go.Proofs.YtdokpmfejibdlaaGreatDoor
set_option linter.unusedSimpArgs false
set_option linter.unusedVariables false
namespace Go.Proofs.YtdokpmfejibdlaaGreatDoor
open Go.RowKit Go.Sort

def sortI (l : List Int) : List Int := l.mergeSort (fun a b => decide (a ≤ b))
theorem sortI_perm (l : List Int) : (sortI l).Perm l := List.mergeSort_perm l _
theorem sortI_len (l : List Int) : (sortI l).length = l.length := (sortI_perm l).length_eq
theorem sortI_le (l : List Int) : (sortI l).Pairwise (· ≤ ·) := by
  have h := List.pairwise_mergeSort (le := fun a b : Int => decide (a ≤ b)) (fun a b c h1 h2 => by simp only [decide_eq_true_eq] at *; omega) (fun a b => by simp only [Bool.or_eq_true, decide_eq_true_eq]; omega) l
  exact h.imp (fun h => by simpa using h)
theorem uniq_sort (l : List Int) : compI (sortI l) = uniqI l := uniq_prog (sortI_perm l) (sortI_le l)
theorem psort_any (B : Nat) (v : Value) (zs : List Int) (w : World) (hz : zs.length ≤ 1000000) (hown : w.ownsRow B 3 1 v zs.length (zs.flatMap encI)) :
    Calls Tryz.prog 92 #[v] w fun e w' => e = .returned (.tuple #[]) ∧ w.grownBy w' v.ownBlock ∧ w'.ownsRow B 3 1 v zs.length ((sortI zs).flatMap encI) := by
  have e1 : ∀ xs : List Int, xs.flatMap encI = xs.map (Value.int .i64) := fun xs => flat_one (Value.int .i64) xs
  rw [e1] at hown
  rcases hown.2 with ⟨rfl, h⟩ | ⟨g, cap, cur, rfl, hg, hh, hn, hcap, hsz, ht⟩
  · refine (Tryz.slices_Sort_int_none none 0 w).mono ?_
    rintro e w' ⟨rfl, rfl⟩
    have hzs : zs = [] := List.eq_nil_of_length_eq_zero h
    subst hzs
    have hs : sortI [] = [] := List.mergeSort_nil
    rw [hs]
    exact ⟨rfl, World.grownBy.refl _ _, World.ownsRow_nil _ _ _ _⟩
  · rw [Nat.mul_one] at ht
    have hblk : g < w.heap.size := (Array.getElem?_eq_some_iff.1 hh).1
    refine (Tryz.slices_Sort_int g 0 cap zs w (holds_of_blockI hh ht) hblk (by omega)).mono ?_
    rintro e w' ⟨rfl, n, os, rfl⟩
    refine ⟨rfl, grownBy_sortedI _, ?_⟩
    have := ownsRow_sortedI (base := B) (w := w) (g := g) (cap := cap) (n := n) (e := 3) (os := os) (cur := cur) (ss := zs) (ts := sortI zs) (by unfold sortI; simp) hg hh hn hcap hsz
    rw [e1]
    exact this
theorem Bx.grown {w w' : World} {b : Nat} {vs : List Value} {row : Option Nat} (h : Bx w b vs) (hg : w.grownBy w' row) (hr : row ≠ some b) : Bx w' b vs :=
  have hbk := hg.block b h.lt (fun e => hr e.symm)
  ⟨Nat.lt_of_lt_of_le h.lt hg.size, fun j u hu => (World.cell?_of_block (w := w) (a := ⟨b, j, none⟩) hbk).trans (h.cell j u hu), fun j => (World.frozen?_of_block (w := w) (a := ⟨b, j, none⟩) hbk).trans (h.frz j)⟩
/-- Two rows of numbers that grow beside one another, and boxes that they leave alone. -/
structure WT (w0 W : World) (B : Nat) (v1 v2 : Value) (os rs : List Int) (L : List (Nat × List Value)) : Prop where
  box : ∀ p ∈ L, Bx W p.1 p.2 ∧ v1.ownBlock ≠ some p.1 ∧ v2.ownBlock ≠ some p.1
  o1 : W.ownsRow B 3 1 v1 os.length (os.flatMap encI)
  o2 : W.ownsRow B 3 1 v2 rs.length (rs.flatMap encI)
  dj : ∀ g, v1.ownBlock = some g → v2.ownBlock ≠ some g
  hb : Below w0.heap.size w0 W
  hz : B ≤ W.heap.size
  hB : w0.heap.size ≤ B
section
variable {w0 W W' : World} {B : Nat} {v1 v2 : Value} {os rs : List Int} {L : List (Nat × List Value)}
theorem WT.up (h : WT w0 W B v1 v2 os rs L) (hb : Below W.heap.size W W') : WT w0 W' B v1 v2 os rs L :=
  ⟨fun p hp => ⟨(h.box p hp).1.up hb, (h.box p hp).2⟩, own_below' h.o1 hb, own_below' h.o2 hb, h.dj, below_keep' h.hb hb, Nat.le_trans h.hz hb.size, h.hB⟩
theorem WT.lay (h : WT w0 W B v1 v2 os rs L) (vs : List Value) (t : TypeId) : WT w0 (W.alloc (.cells vs.toArray t)) B v1 v2 os rs ((W.heap.size, vs) :: L) := by
  have h2 := h.up (one_alloc W (.cells vs.toArray t))
  refine ⟨fun p hp => ?_, h2.o1, h2.o2, h2.dj, h2.hb, h2.hz, h2.hB⟩
  rcases List.mem_cons.1 hp with rfl | hp
  · refine ⟨Bx.new W vs t, fun e => ?_, fun e => ?_⟩
    · have := (h.o1.lt _ e).2
      omega
    · have := (h.o2.lt _ e).2
      omega
  · exact h2.box p hp
theorem WT.news (h : WT w0 W B v1 v2 os rs L) {b : Nat} {z : Int} (hm : (b, [Value.int .i64 z]) ∈ L) : ∀ j u, [Value.int .i64 z][j]? = some u → W.cell? ((⟨b, 0, none⟩ : Addr).add j) = some u := fun j u hu => by
  have hj : j = 0 := by have := (List.getElem?_eq_some_iff.1 hu).1; simp at this; exact this
  subst hj
  have := (h.box _ hm).1.cell 0 u hu
  simpa [Addr.add] using this
theorem WT.app1 (h : WT w0 W B v1 v2 os rs L) {g cap : Nat} {x : Int} (hown : W'.ownsRow B 3 1 (.slice (some ⟨g, 0, none⟩) (os.length + 1) cap) (os.length + 1) (os.flatMap encI ++ [.int .i64 x])) (hg : W.grownBy W' v1.ownBlock) (hat : v1.ownBlock = some g ∨ g = W.heap.size) :
    WT w0 W' B (.slice (some ⟨g, 0, none⟩) (os.length + 1) cap) v2 (os ++ [x]) rs L := by
  have hlt2 : ∀ k, v2.ownBlock = some k → k < W.heap.size := fun k hk => (h.o2.lt k hk).2
  refine ⟨fun p hp => ?_, ?_, ?_, fun k hk e => ?_, ?_, Nat.le_trans h.hz hg.size, h.hB⟩
  · obtain ⟨h1, h2, h3⟩ := h.box p hp
    refine ⟨h1.grown hg h2, fun e => ?_, h3⟩
    have e' : g = p.1 := by injection e
    rcases hat with h4 | h4
    · exact h2 (h4.trans (by rw [e']))
    · have := h1.lt
      omega
  · rw [List.length_append, List.flatMap_append]
    exact hown
  · refine h.o2.kept hg ?_
    cases e : v2.ownBlock with
    | none => exact .inl rfl
    | some k =>
      right
      intro e2
      exact h.dj k e2.symm e
  · have e' : g = k := by injection hk
    subst e'
    rcases hat with h4 | h4
    · exact h.dj g h4 e
    · have := hlt2 g e
      omega
  · exact Below.grown h.hb hg h.hb.size (fun k hk => Nat.le_trans h.hB (h.o1.lt k hk).1)
theorem WT.app2 (h : WT w0 W B v1 v2 os rs L) {g cap : Nat} {x : Int} (hown : W'.ownsRow B 3 1 (.slice (some ⟨g, 0, none⟩) (rs.length + 1) cap) (rs.length + 1) (rs.flatMap encI ++ [.int .i64 x])) (hg : W.grownBy W' v2.ownBlock) (hat : v2.ownBlock = some g ∨ g = W.heap.size) :
    WT w0 W' B v1 (.slice (some ⟨g, 0, none⟩) (rs.length + 1) cap) os (rs ++ [x]) L := by
  have hlt1 : ∀ k, v1.ownBlock = some k → k < W.heap.size := fun k hk => (h.o1.lt k hk).2
  refine ⟨fun p hp => ?_, ?_, ?_, fun k hk e => ?_, ?_, Nat.le_trans h.hz hg.size, h.hB⟩
  · obtain ⟨h1, h2, h3⟩ := h.box p hp
    refine ⟨h1.grown hg h3, h2, fun e => ?_⟩
    have e' : g = p.1 := by injection e
    rcases hat with h4 | h4
    · exact h3 (h4.trans (by rw [e']))
    · have := h1.lt
      omega
  · refine h.o1.kept hg ?_
    cases e : v1.ownBlock with
    | none => exact .inl rfl
    | some k =>
      right
      exact fun e2 => h.dj k e e2.symm
  · rw [List.length_append, List.flatMap_append]
    exact hown
  · have e' : g = k := by injection e
    subst e'
    rcases hat with h4 | h4
    · exact h.dj g hk h4
    · have := hlt1 g hk
      omega
  · exact Below.grown h.hb hg h.hb.size (fun k hk => Nat.le_trans h.hB (h.o2.lt k hk).1)
/-- A box is written. -/
theorem WT.put (h : WT w0 W B v1 v2 os rs L) {b : Nat} {vs : List Value} (hm : (b, vs) ∈ L) (hb0 : w0.heap.size ≤ b) (i : Nat) (u : Value) (hi : i < vs.length) {L' : List (Nat × List Value)} (hL : ∀ p ∈ L', (p ∈ L ∧ p.1 ≠ b) ∨ p = (b, vs.set i u)) :
    WT w0 (W.setCell ⟨b, i, none⟩ u) B v1 v2 os rs L' := by
  obtain ⟨hbx, hn1, hn2⟩ := h.box _ hm
  refine ⟨fun p hp => ?_, ownsRow_setCell_other h.o1 hn1 _, ownsRow_setCell_other h.o2 hn2 _, h.dj, h.hb.setCell hb0 _, by simpa [World.setCell] using h.hz, h.hB⟩
  rcases hL p hp with ⟨h1, h2⟩ | rfl
  · exact ⟨(h.box p h1).1.far (fun e => h2 e.symm) u, (h.box p h1).2⟩
  · exact ⟨hbx.set hi u, hn1, hn2⟩
end
end Go.Proofs.YtdokpmfejibdlaaGreatDoor
