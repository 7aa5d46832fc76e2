/- Entries sorted by the library: by number into a new slice, by key in place (chapter 47). -/
import Derived.Test.YtfanjghfilkhmaaGreatDoorSortL
import Derived.Test.YtfanjghfilkhmaaGreatDoorSort
import Derived.Test.YtfanjghfilkhmaaGreatDoorGu
import Derived.Test.YtfanjghfilkhmaaGreatDoorStd
import Derived.Deep.DeepFit
set_option linter.unusedSimpArgs false
set_option linter.unusedVariables false
namespace Go.Proofs.YtfanjghfilkhmaaGreatDoor
open Go.RowKit Go.Sort

def cmpI (a b : Int) : Int := if a < b then -1 else if a = b then 0 else 1
theorem cmpI_cases (a b : Int) : (a < b ∧ cmpI a b = -1) ∨ (a = b ∧ cmpI a b = 0) ∨ (b < a ∧ cmpI a b = 1) := by
  unfold cmpI
  split
  · exact .inl ⟨by assumption, rfl⟩
  · split
    · exact .inr (.inl ⟨by assumption, rfl⟩)
    · exact .inr (.inr ⟨by omega, rfl⟩)
theorem compare_any (a b : Int) (w : World) :
    Calls Tryz.prog 53 #[.int .i64 a, .int .i64 b] w fun e w' => e = .returned (.int .i64 (cmpI a b)) ∧ w' = w := by
  have H : Lib.compareInt a b = cmpI a b := by
    unfold Lib.compareInt cmpI
    split
    · rfl
    · split <;> split <;> first | rfl | omega
  rw [← H]
  exact Tryz.cmp_Compare_int a b w
set_option maxHeartbeats 1000000 in
theorem sortCmpV (x y : (Int × Int)) (W : World) : Calls Tryz.prog 52 #[.agg #[.int .i64 x.1, .int .i64 x.2], .agg #[.int .i64 y.1, .int .i64 y.2]] W fun e w' => e = .returned (.int .i64 (cmpI x.2 y.2)) ∧ ∃ q os', w' = grow (W.drewN q) os' := by
  go_enter Tryz.func52, Tryz.ntmps52
  go_wp2_with (go_at_call 53; refine (compare_any _ _ _).mono ?_; rintro e w' ⟨rfl, rfl⟩)
  go_ret
  exact ⟨rfl, 0, _, by rw [alloc_eq_grow, alloc_eq_grow, grow_grow]; rfl⟩
def cfV (x y : (Int × Int)) : Int := cmpI x.2 y.2
theorem ltCfV (x y : (Int × Int)) : ltOf cfV x y = decide (x.2 < y.2) := by
  unfold ltOf cfV
  rcases cmpI_cases x.2 y.2 with ⟨h, e⟩ | ⟨h, e⟩ | ⟨h, e⟩ <;> rw [e] <;> simp <;> omega
theorem swoV : SWO (ltOf cfV) where
  irrefl x := by rw [ltCfV]; simp
  trans x y z h1 h2 := by rw [ltCfV] at *; simp at *; omega
  ntrans x y z h1 h2 := by rw [ltCfV] at *; simp at *; omega
theorem sortedIn_pairwise {α : Type} [Inhabited α] {lt : α → α → Bool} {R : α → α → Prop} {d : Array α} (h : SortedIn lt 0 d.size d) (hR : ∀ x y, lt y x = false → R x y) : d.toList.Pairwise R := by
  rw [List.pairwise_iff_getElem]
  intro i j hi hj hij
  have := h i j (Nat.zero_le _) hij (by simpa using hj)
  rw [getElem!_pos _ _ (by simpa using hj), getElem!_pos _ _ (by simpa using hi)] at this
  exact hR _ _ (by simpa using this)
theorem encE_one' (x : Int × Int) : ∀ v ∈ encE x, v.oneCell' = true := by
  intro v hv
  simp only [encE, List.mem_cons, List.not_mem_nil, or_false] at hv
  rcases hv with rfl | rfl <;> rfl
theorem typed_sorted {α : Type} [Inhabited α] {enc : α → List Value} {k : Nat} {w : World} {g q : Nat} {d' : Array α} {os : Array Obj} {cur : Array Value} {e : TypeId} {fr : Nat × Nat} (hb : w.heap[g]? = some (.cells cur e fr)) :
    ∃ cs f, (sortWorldK enc k w g 0 q d' os).heap[g]? = some (.cells cs e f) := by
  have hg : g < w.heap.size := (Array.getElem?_eq_some_iff.1 hb).1
  unfold sortWorldK
  rw [heap_grow_old _ _ (by simpa [putRowK, Sort.ahead] using hg)]
  simp [putRowK, putRow, mapBlock, Sort.ahead, Array.getElem?_modify, hb, onCells]
theorem typed_own {w : World} {base : Nat} {e : TypeId} {k g n cap : Nat} {xs : List Value} (h : w.ownsRow base e k (.slice (some ⟨g, 0, none⟩) n cap) n xs) : ∃ cs f, w.heap[g]? = some (.cells cs e f) := by
  rcases h.2 with ⟨h', _⟩ | ⟨g', cap', cur, h', _, hg, _⟩
  · cases h'
  · simp only [Value.slice.injEq, Option.some.injEq, Addr.mk.injEq, and_true, true_and] at h'
    obtain ⟨rfl, rfl⟩ := h'
    exact ⟨_, _, hg⟩
/-- The row's block is one of entries. -/
def TypedE (w : World) (A : Option Addr) (n : Nat) : Prop := ∀ b off, 0 < n → A = some ⟨b, off, none⟩ → ∃ cs f, w.heap[b]? = some (.cells cs 36 f)
set_option maxHeartbeats 1000000 in
theorem sortFuncV (base g n cap : Nat) (xs : List (Int × Int)) (w : World) (h : w.ownsRow base 36 2 (.slice (some ⟨g, 0, none⟩) n cap) n (xs.flatMap encE)) (hl : xs.length = n) (hbg : base ≤ g) (hg : g < w.heap.size) (hn : n ≤ 1000000) :
    Calls Tryz.prog 63 #[.slice (some ⟨g, 0, none⟩) n cap, .func (.func 52) #[] #[]] w fun e w' => e = .returned (.tuple #[]) ∧ ∃ ys : List (Int × Int), ys.Perm xs ∧ ys.Pairwise (fun x y => x.2 ≤ y.2) ∧ Sl w' base w'.heap.size 2 encE (some ⟨g, 0, none⟩) n ys ∧ Below base w w' ∧ TypedE w' (some ⟨g, 0, none⟩) n := by
  have eg : ∀ args w, (callFunc 52 args).run Tryz.prog w = .ok (.enter 52 args) w := enters_of Tryz.func52 (by kernel_rfl) rfl
  have hH := holdsK_of_own (k := 2) encE_len h hl
  have hcon := AnyQ.slices_SortFunc Tryz.sortEnt 2 Tryz.isAgg36 Tryz.sizeOf36 encE encE_len encE_one' cfV swoV 52 #[] g 0 cap xs.toArray w eg (fun m os dk hs x y => sortCmpV x y _) hH hg (by simp; omega)
  change Calls Tryz.prog 63 _ _ _ at hcon
  rw [List.size_toArray, hl] at hcon
  refine hcon.mono ?_
  rintro e w' ⟨he, d', q, os, hp, hs, rfl⟩
  have hsz : d'.size = n := by rw [hp.1]; simp [hl]
  refine ⟨he, d'.toList, ?_, ?_, sl_sorted encE_len h hl hsz hbg hg, below_sorted hbg hg, ?_⟩
  · have := hp.2.2
    rw [show d'.extract 0 n = d' from by rw [← hsz]; simp, show xs.toArray.extract 0 n = xs.toArray from by rw [← hl]; simp] at this
    simpa using this
  · rw [← hsz] at hs
    refine sortedIn_pairwise hs ?_
    intro x y hxy
    rw [ltCfV] at hxy
    simpa using hxy
  · intro b off _ he'
    obtain ⟨cs, f, hq⟩ := typed_own h
    cases he'
    exact typed_sorted hq
theorem sortFuncV_none (p : Option Addr) (cap : Nat) (fv : Value) (w : World) :
    Calls Tryz.prog 63 #[.slice p 0 cap, fv] w fun e w' => e = .returned (.tuple #[]) ∧ w = w' :=
  (AnyF.slices_SortFunc_none Tryz.sortEnt p cap fv w).mono fun e w' ⟨h1, h2⟩ => ⟨h1, h2.symm⟩

set_option maxHeartbeats 1000000 in
theorem sortedFuncV (Bs : Nat) (A : Option Addr) (len cap : Nat) (zs : List (Int × Int)) (w : World) (hlen : len ≤ 1000000) (hBs : Bs < w.heap.size)
    (hc : w.cell? ⟨Bs, 0, none⟩ = some (.slice A len cap)) (hS : Sl w 0 w.heap.size 2 encE A len zs) :
    Calls Tryz.prog 50 #[.func (.func 71) #[] #[.pointer (some ⟨Bs, 0, none⟩)], .func (.func 52) #[] #[]] w fun e w' => ∃ A' c', ∃ ys : List (Int × Int), e = .returned (.slice A' len c') ∧ ys.Perm zs ∧ ys.Pairwise (fun x y => x.2 ≤ y.2) ∧ Sl w' w.heap.size w'.heap.size 2 encE A' len ys ∧ Below w.heap.size w w' ∧ TypedE w' A' len := by
  have hl := hS.len
  have happ : Calls Tryz.prog 96 #[.slice none 0 0, .func (.func 71) #[] #[.pointer (some ⟨Bs, 0, none⟩)]] w fun e W' => ∃ v, e = .returned v ∧ W'.ownsRow w.heap.size 36 2 v zs.length (zs.flatMap encE) ∧ Below w.heap.size w W' :=
    callsIn_wide.1 (appendSeq_in Fence.wide 6 trivial rfl (by omega) 71 _ trivial (enters_of Tryz.func71 (by kernel_rfl) rfl) len zs w hlen
      (fun W hW => values_stops Fence.wide 5 trivial rfl (by omega) Bs w.heap.size A len cap zs hlen W (by have := hW.size; omega) hW.size ((hW.cell (p := ⟨Bs, 0, none⟩) hBs).trans hc) (hS.below hW (Nat.le_refl _))) (by omega))
  have hcol : Calls Tryz.prog 70 #[.func (.func 71) #[] #[.pointer (some ⟨Bs, 0, none⟩)]] w fun e W' => ∃ v, e = .returned v ∧ W'.ownsRow w.heap.size 36 2 v zs.length (zs.flatMap encE) ∧ Below w.heap.size w W' := by
    have HA := Lib.hid happ; clear happ
    clear hc hS
    go_enter Tryz.func70, Tryz.ntmps70
    go_wp2_with fail
    go_fit HA.out
    rintro e w1 ⟨v, rfl, hown, hb⟩
    go_wp2_with fail
    go_ret
    exact ⟨v, rfl, hown, hb⟩
  have HC := Lib.hid hcol; clear hcol happ
  clear hc hS
  go_enter Tryz.func50, Tryz.ntmps50
  go_wp2_with fail
  go_fit HC.out
  rintro e w1 ⟨v, rfl, hown, hb⟩
  have hz1 := hb.size
  rcases Nat.eq_zero_or_pos len with h0 | h0
  · obtain ⟨A1, c1, hv, _⟩ := own_form hown
    rw [hl, h0] at hv
    rw [hv]
    have hzs : zs = [] := List.eq_nil_of_length_eq_zero (by omega)
    clear hown hv
    subst h0
    go_wp2_with fail
    go_fit (sortFuncV_none _ _ _ _)
    rintro e w2 ⟨rfl, rfl⟩
    go_wp2_with fail
    go_ret
    exact ⟨A1, c1, [], rfl, by rw [hzs], List.Pairwise.nil, Sl.nil, hb, fun _ _ h => absurd h (by omega)⟩
  · rw [hl] at hown
    obtain ⟨m, rfl⟩ : ∃ m, len = m + 1 := ⟨len - 1, by omega⟩
    obtain ⟨g, c1, hv⟩ := ownsRow_succ hown
    rw [hv] at hown ⊢
    clear hv
    have hgl := hown.lt g rfl
    have HS := Lib.hid (sortFuncV w.heap.size g (m + 1) c1 zs w1 hown hl hgl.1 hgl.2 hlen)
    clear hown
    go_wp2_with fail
    go_fit HS.out
    rintro e w2 ⟨rfl, ys, hp, hpw, hS2, hb2, hty⟩
    go_wp2_with fail
    go_ret
    exact ⟨_, _, ys, rfl, hp, hpw, hS2, hb.trans hb2, hty⟩

/-- A row that a slice owns lies at its own block. -/
theorem own_base {w : World} {base : Nat} {e : TypeId} {k g n cap : Nat} {xs : List Value} (h : w.ownsRow base e k (.slice (some ⟨g, 0, none⟩) n cap) n xs) : w.ownsRow g e k (.slice (some ⟨g, 0, none⟩) n cap) n xs := by
  refine ⟨h.1, ?_⟩
  rcases h.2 with ⟨h', _⟩ | ⟨g', cap', cur, h', hb, rest⟩
  · cases h'
  · simp only [Value.slice.injEq, Option.some.injEq, Addr.mk.injEq, and_true, true_and] at h'
    obtain ⟨rfl, rfl⟩ := h'
    exact .inr ⟨g, cap, cur, rfl, Nat.le_refl _, rest⟩

/-! ### By key, in place. -/
theorem sortedK_block {α : Type} [Inhabited α] {enc : α → List Value} {k : Nat} {w : World} {g q b : Nat} {d' : Array α} {os : Array Obj} (hb : b < w.heap.size) (hne : b ≠ g) : (sortWorldK enc k w g 0 q d' os).heap[b]? = w.heap[b]? := by
  unfold sortWorldK
  rw [heap_grow_old _ _ (by simpa [putRowK, Sort.ahead] using hb)]
  simp [putRowK, putRow, mapBlock, Sort.ahead, Array.getElem?_modify, Ne.symm hne]
set_option maxHeartbeats 1000000 in
theorem sortCmpK (x y : Int × Int) (W : World) : Calls Tryz.prog 64 #[.agg #[.int .i64 x.1, .int .i64 x.2], .agg #[.int .i64 y.1, .int .i64 y.2]] W fun e w' => e = .returned (.int .i64 (cmpI x.1 y.1)) ∧ ∃ q os', w' = grow (W.drewN q) os' := by
  go_enter Tryz.func64, Tryz.ntmps64
  go_wp2_with (go_at_call 53; refine (compare_any _ _ _).mono ?_; rintro e w' ⟨rfl, rfl⟩)
  go_ret
  exact ⟨rfl, 0, _, by rw [alloc_eq_grow, alloc_eq_grow, grow_grow]; rfl⟩
def cfK (x y : Int × Int) : Int := cmpI x.1 y.1
theorem ltCfK (x y : Int × Int) : ltOf cfK x y = decide (x.1 < y.1) := by
  unfold ltOf cfK
  rcases cmpI_cases x.1 y.1 with ⟨h, e⟩ | ⟨h, e⟩ | ⟨h, e⟩ <;> rw [e] <;> simp <;> omega
theorem swoK : SWO (ltOf cfK) where
  irrefl x := by rw [ltCfK]; simp
  trans x y z h1 h2 := by rw [ltCfK] at *; simp at *; omega
  ntrans x y z h1 h2 := by rw [ltCfK] at *; simp at *; omega
set_option maxHeartbeats 1000000 in
theorem sortFuncK (base g n cap : Nat) (xs : List (Int × Int)) (w : World) (h : w.ownsRow base 36 2 (.slice (some ⟨g, 0, none⟩) n cap) n (xs.flatMap encE)) (hl : xs.length = n) (hbg : base ≤ g) (hg : g < w.heap.size) (hn : n ≤ 1000000) :
    Calls Tryz.prog 63 #[.slice (some ⟨g, 0, none⟩) n cap, .func (.func 64) #[] #[]] w fun e w' => e = .returned (.tuple #[]) ∧ ∃ ys : List (Int × Int), ys.Perm xs ∧ ys.Pairwise (fun x y => x.1 ≤ y.1) ∧ Sl w' g (g + 1) 2 encE (some ⟨g, 0, none⟩) n ys ∧ Below base w w' ∧ ∀ b, b < w.heap.size → b ≠ g → w'.heap[b]? = w.heap[b]? := by
  have eg : ∀ args w, (callFunc 64 args).run Tryz.prog w = .ok (.enter 64 args) w := enters_of Tryz.func64 (by kernel_rfl) rfl
  have hH := holdsK_of_own (k := 2) encE_len h hl
  have hcon := AnyQ.slices_SortFunc Tryz.sortEnt 2 Tryz.isAgg36 Tryz.sizeOf36 encE encE_len encE_one' cfK swoK 64 #[] g 0 cap xs.toArray w eg (fun m os dk hs x y => sortCmpK x y _) hH hg (by simp; omega)
  change Calls Tryz.prog 63 _ _ _ at hcon
  rw [List.size_toArray, hl] at hcon
  refine hcon.mono ?_
  rintro e w' ⟨he, d', q, os, hp, hs, rfl⟩
  have hsz : d'.size = n := by rw [hp.1]; simp [hl]
  refine ⟨he, d'.toList, ?_, ?_, ?_, below_sorted hbg hg, fun b hb hne => sortedK_block hb hne⟩
  · have := hp.2.2
    rw [show d'.extract 0 n = d' from by rw [← hsz]; simp, show xs.toArray.extract 0 n = xs.toArray from by rw [← hl]; simp] at this
    simpa using this
  · rw [← hsz] at hs
    refine sortedIn_pairwise hs ?_
    intro x y hxy
    rw [ltCfK] at hxy
    simpa using hxy
  · have hS := sl_sorted (base := g) (q := q) (os := os) encE_len (own_base h) hl hsz (Nat.le_refl _) hg
    refine ⟨hS.1, fun hn => ?_⟩
    obtain ⟨b, off, e1, h1, h2, h3⟩ := hS.2 hn
    cases e1
    exact ⟨_, _, rfl, Nat.le_refl _, Nat.lt_succ_self _, h3⟩
theorem sortFuncK_none (p : Option Addr) (cap : Nat) (fv : Value) (w : World) :
    Calls Tryz.prog 63 #[.slice p 0 cap, fv] w fun e w' => e = .returned (.tuple #[]) ∧ w = w' :=
  (AnyF.slices_SortFunc_none Tryz.sortEnt p cap fv w).mono fun e w' ⟨h1, h2⟩ => ⟨h1, h2.symm⟩
end Go.Proofs.YtfanjghfilkhmaaGreatDoor
