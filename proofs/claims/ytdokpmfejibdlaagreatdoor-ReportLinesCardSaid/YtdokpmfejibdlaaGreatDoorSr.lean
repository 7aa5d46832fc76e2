/- The program's sorted. -/
import Derived.Test.YtdokpmfejibdlaaGreatDoorSortL
import Derived.Test.YtdokpmfejibdlaaGreatDoorSort
import Derived.Test.YtdokpmfejibdlaaGreatDoorSs
import Derived.Test.YtdokpmfejibdlaaGreatDoorSc
import Derived.Test.YtdokpmfejibdlaaGreatDoorStd
import Derived.Deep.DeepFit
set_option linter.unusedSimpArgs false
set_option linter.unusedVariables false
namespace Go.Proofs.YtdokpmfejibdlaaGreatDoor
open Go.RowKit Go.Sort

def cmpI (a b : Int) : Int := if a < b then -1 else if a = b then 0 else 1
theorem cmpI_cases (a b : Int) : (a < b ∧ cmpI a b = -1) ∨ (a = b ∧ cmpI a b = 0) ∨ (b < a ∧ cmpI a b = 1) := by
  unfold cmpI
  split
  · exact .inl ⟨by assumption, rfl⟩
  · split
    · exact .inr (.inl ⟨by assumption, rfl⟩)
    · exact .inr (.inr ⟨by omega, rfl⟩)
theorem compare_any (a b : Int) (w : World) :
    Calls Tryz.prog 74 #[.int .i64 a, .int .i64 b] w fun e w' => e = .returned (.int .i64 (cmpI a b)) ∧ w' = w := by
  have H : Lib.compareInt a b = cmpI a b := by
    unfold Lib.compareInt cmpI
    split
    · rfl
    · split <;> split <;> first | rfl | omega
  rw [← H]
  exact Tryz.cmp_Compare_int a b w
set_option maxHeartbeats 1000000 in
theorem sortCmp (x y : Spm) (W : World) : Calls Tryz.prog 155 #[.agg #[.int .i64 x.id, .int .i64 x.obv, .int .i64 x.rev, .int .i64 x.os, .int .i64 x.rs, .int .i64 x.ax, .int .i64 x.wt], .agg #[.int .i64 y.id, .int .i64 y.obv, .int .i64 y.rev, .int .i64 y.os, .int .i64 y.rs, .int .i64 y.ax, .int .i64 y.wt]] W fun e w' => e = .returned (.int .i64 (cmpI x.id y.id)) ∧ ∃ q os', w' = grow (W.drewN q) os' := by
  go_enter Tryz.func155, Tryz.ntmps155
  go_wp2_with (go_at_call 74; refine (compare_any _ _ _).mono ?_; rintro e w' ⟨rfl, rfl⟩)
  go_ret
  exact ⟨rfl, 0, _, by rw [alloc_eq_grow, alloc_eq_grow, grow_grow]; rfl⟩
def cfS (x y : Spm) : Int := cmpI x.id y.id
theorem ltCfS (x y : Spm) : ltOf cfS x y = decide (x.id < y.id) := by
  unfold ltOf cfS
  rcases cmpI_cases x.id y.id with ⟨h, e⟩ | ⟨h, e⟩ | ⟨h, e⟩ <;> rw [e] <;> simp <;> omega
theorem swoS : SWO (ltOf cfS) where
  irrefl x := by rw [ltCfS]; simp
  trans x y z h1 h2 := by rw [ltCfS] at *; simp at *; omega
  ntrans x y z h1 h2 := by rw [ltCfS] at *; simp at *; omega
theorem sortedIn_pairwise {α : Type} [Inhabited α] {lt : α → α → Bool} {R : α → α → Prop} {d : Array α} (h : SortedIn lt 0 d.size d) (hR : ∀ x y, lt y x = false → R x y) : d.toList.Pairwise R := by
  rw [List.pairwise_iff_getElem]
  intro i j hi hj hij
  have := h i j (Nat.zero_le _) hij (by simpa using hj)
  rw [getElem!_pos _ _ (by simpa using hj), getElem!_pos _ _ (by simpa using hi)] at this
  exact hR _ _ (by simpa using this)
theorem encS_one (x : Spm) : ∀ v ∈ encS x, v.oneCell' = true := by
  intro v hv
  simp only [encS, List.mem_cons, List.not_mem_nil, or_false] at hv
  rcases hv with rfl | rfl | rfl | rfl | rfl | rfl | rfl <;> rfl

theorem typed_sorted {α : Type} [Inhabited α] {enc : α → List Value} {k : Nat} {w : World} {g q : Nat} {d' : Array α} {os : Array Obj} {cur : Array Value} {e : TypeId} {fr : Nat × Nat} (hb : w.heap[g]? = some (.cells cur e fr)) :
    ∃ cs f, (sortWorldK enc k w g 0 q d' os).heap[g]? = some (.cells cs e f) := by
  have hg : g < w.heap.size := (Array.getElem?_eq_some_iff.1 hb).1
  unfold sortWorldK
  rw [heap_grow_old _ _ (by simpa [putRowK, Sort.ahead] using hg)]
  simp [putRowK, putRow, mapBlock, Sort.ahead, Array.getElem?_modify, hb, onCells]
theorem typed_own {w : World} {base : Nat} {e : TypeId} {k g n cap : Nat} {xs : List Value} (h : w.ownsRow base e k (.slice (some ⟨g, 0, none⟩) n cap) n xs) : ∃ cs f, w.heap[g]? = some (.cells cs e f) := by
  rcases h.2 with ⟨h', _⟩ | ⟨g', cap', cur, h', _, hg, _⟩
  · cases h'
  · simp only [Value.slice.injEq, Option.some.injEq, Addr.mk.injEq, and_true, true_and] at h'
    obtain ⟨rfl, rfl⟩ := h'
    exact ⟨_, _, hg⟩
/-- The row's block is one of specimens. -/
def TypedS (w : World) (A : Option Addr) (n : Nat) : Prop := ∀ b off, 0 < n → A = some ⟨b, off, none⟩ → ∃ cs f, w.heap[b]? = some (.cells cs 34 f)
set_option maxHeartbeats 1000000 in
theorem sortFuncS (base g n cap : Nat) (xs : List Spm) (w : World) (h : w.ownsRow base 34 7 (.slice (some ⟨g, 0, none⟩) n cap) n (xs.flatMap encS)) (hl : xs.length = n) (hbg : base ≤ g) (hg : g < w.heap.size) (hn : n ≤ 1000000) :
    Calls Tryz.prog 196 #[.slice (some ⟨g, 0, none⟩) n cap, .func (.func 155) #[] #[]] w fun e w' => e = .returned (.tuple #[]) ∧ ∃ ys : List Spm, ys.Perm xs ∧ ys.Pairwise (fun x y => x.id ≤ y.id) ∧ Sl w' base w'.heap.size 7 encS (some ⟨g, 0, none⟩) n ys ∧ Below base w w' ∧ TypedS w' (some ⟨g, 0, none⟩) n := by
  have eg : ∀ args w, (callFunc 155 args).run Tryz.prog w = .ok (.enter 155 args) w := enters_of Tryz.func155 (by kernel_rfl) rfl
  have hH := holdsK_of_own (k := 7) encS_len h hl
  have hcon := AnyQ.slices_SortFunc Tryz.sortSpec 7 Tryz.isAgg34 Tryz.sizeOf34 encS encS_len encS_one cfS swoS 155 #[] g 0 cap xs.toArray w eg (fun m os dk hs x y => sortCmp x y _) hH hg (by simp; omega)
  change Calls Tryz.prog 196 _ _ _ at hcon
  rw [List.size_toArray, hl] at hcon
  refine hcon.mono ?_
  rintro e w' ⟨he, d', q, os, hp, hs, rfl⟩
  have hsz : d'.size = n := by rw [hp.1]; simp [hl]
  refine ⟨he, d'.toList, ?_, ?_, sl_sorted encS_len h hl hsz hbg hg, below_sorted hbg hg, ?_⟩
  · have := hp.2.2
    rw [show d'.extract 0 n = d' from by rw [← hsz]; simp, show xs.toArray.extract 0 n = xs.toArray from by rw [← hl]; simp] at this
    simpa using this
  · rw [← hsz] at hs
    refine sortedIn_pairwise hs ?_
    intro x y hxy
    rw [ltCfS] at hxy
    simpa using hxy
  · intro b off _ he'
    obtain ⟨cs, f, hq⟩ := typed_own h
    cases he'
    exact typed_sorted hq
theorem sortFuncS_none (p : Option Addr) (cap : Nat) (fv : Value) (w : World) :
    Calls Tryz.prog 196 #[.slice p 0 cap, fv] w fun e w' => e = .returned (.tuple #[]) ∧ w = w' :=
  (AnyF.slices_SortFunc_none Tryz.sortSpec p cap fv w).mono fun e w' ⟨h1, h2⟩ => ⟨h1, h2.symm⟩

set_option maxHeartbeats 1000000 in
theorem sortedFuncS (Bs : Nat) (A : Option Addr) (len cap : Nat) (zs : List Spm) (w : World) (hlen : len ≤ 1000000) (hBs : Bs < w.heap.size)
    (hc : w.cell? ⟨Bs, 0, none⟩ = some (.slice A len cap)) (hS : Sl w 0 w.heap.size 7 encS A len zs) :
    Calls Tryz.prog 153 #[.func (.func 197) #[] #[.pointer (some ⟨Bs, 0, none⟩)], .func (.func 155) #[] #[]] w fun e w' => ∃ A' c', ∃ ys : List Spm, e = .returned (.slice A' len c') ∧ ys.Perm zs ∧ ys.Pairwise (fun x y => x.id ≤ y.id) ∧ Sl w' w.heap.size w'.heap.size 7 encS A' len ys ∧ Below w.heap.size w w' ∧ TypedS w' A' len := by
  have hl := hS.len
  have happ : Calls Tryz.prog 211 #[.slice none 0 0, .func (.func 197) #[] #[.pointer (some ⟨Bs, 0, none⟩)]] w fun e W' => ∃ v, e = .returned v ∧ W'.ownsRow w.heap.size 34 7 v zs.length (zs.flatMap encS) ∧ Below w.heap.size w W' :=
    callsIn_wide.1 (appendSeq_in Fence.wide 6 trivial rfl (by omega) 197 _ trivial (enters_of Tryz.func197 (by kernel_rfl) rfl) len zs w hlen
      (fun W hW => values_stops Fence.wide 5 trivial rfl (by omega) Bs w.heap.size A len cap zs hlen W (by have := hW.size; omega) hW.size ((hW.cell (p := ⟨Bs, 0, none⟩) hBs).trans hc) (hS.below hW (Nat.le_refl _))) (by omega))
  have hcol : Calls Tryz.prog 195 #[.func (.func 197) #[] #[.pointer (some ⟨Bs, 0, none⟩)]] w fun e W' => ∃ v, e = .returned v ∧ W'.ownsRow w.heap.size 34 7 v zs.length (zs.flatMap encS) ∧ Below w.heap.size w W' := by
    have HA := Lib.hid happ; clear happ
    clear hc hS
    go_enter Tryz.func195, Tryz.ntmps195
    go_wp2_with fail
    go_fit HA.out
    rintro e w1 ⟨v, rfl, hown, hb⟩
    go_wp2_with fail
    go_ret
    exact ⟨v, rfl, hown, hb⟩
  have HC := Lib.hid hcol; clear hcol happ
  clear hc hS
  go_enter Tryz.func153, Tryz.ntmps153
  go_wp2_with fail
  go_fit HC.out
  rintro e w1 ⟨v, rfl, hown, hb⟩
  have hz1 := hb.size
  rcases Nat.eq_zero_or_pos len with h0 | h0
  · obtain ⟨A1, c1, hv, _⟩ := own_form hown
    rw [hl, h0] at hv
    rw [hv]
    have hzs : zs = [] := List.eq_nil_of_length_eq_zero (by omega)
    clear hown hv
    subst h0
    go_wp2_with fail
    go_fit (sortFuncS_none _ _ _ _)
    rintro e w2 ⟨rfl, rfl⟩
    go_wp2_with fail
    go_ret
    exact ⟨A1, c1, [], rfl, by rw [hzs], List.Pairwise.nil, Sl.nil, hb, fun _ _ h => absurd h (by omega)⟩
  · rw [hl] at hown
    obtain ⟨m, rfl⟩ : ∃ m, len = m + 1 := ⟨len - 1, by omega⟩
    obtain ⟨g, c1, hv⟩ := ownsRow_succ hown
    rw [hv] at hown ⊢
    clear hv
    have hgl := hown.lt g rfl
    have HS := Lib.hid (sortFuncS w.heap.size g (m + 1) c1 zs w1 hown hl hgl.1 hgl.2 hlen)
    clear hown
    go_wp2_with fail
    go_fit HS.out
    rintro e w2 ⟨rfl, ys, hp, hpw, hS2, hb2, hty⟩
    go_wp2_with fail
    go_ret
    exact ⟨_, _, ys, rfl, hp, hpw, hS2, hb.trans hb2, hty⟩

theorem one_alloc' (w : World) (o : Obj) : Below w.heap.size w (w.alloc o) := (Below.refl _ _).alloc (Nat.le_refl _) _
set_option maxHeartbeats 1000000 in
theorem sorted_any (A : Option Addr) (len cap : Nat) (zs : List Spm) (w : World) (hlen : len ≤ 1000000) (hn : (idsOf zs).Nodup) (hS : Sl w 0 w.heap.size 7 encS A len zs) :
    Calls Tryz.prog 115 #[.slice A len cap] w fun e w' => ∃ A' c', e = .returned (.slice A' len c') ∧ Sl w' w.heap.size w'.heap.size 7 encS A' len (sortS zs) ∧ Below w.heap.size w w' ∧ TypedS w' A' len := by
  have HS := Lib.hid hS; clear hS
  have HN := Lib.hid hn; clear hn
  go_enter Tryz.func115, Tryz.ntmps115
  go_wp2_with fail
  go_fit (callsIn_wide.1 (values_in Fence.wide 0 trivial rfl A len cap w))
  rintro e w2 ⟨rfl, hw2⟩
  have hb2 : Below w.heap.size w w2 := by rw [hw2]; exact one_alloc' w _
  have hc2 : w2.cell? ⟨w.heap.size, 0, none⟩ = some (.slice A len cap) := by rw [hw2]; simp
  have hz2 : w.heap.size < w2.heap.size := by rw [hw2]; simp
  clear hw2
  have HQ := Lib.hid (sortedFuncS w.heap.size A len cap zs w2 hlen hz2 hc2 (HS.out.up hb2 (Nat.le_refl _) (Nat.le_refl _)))
  clear hc2
  go_wp2_with fail
  go_fit HQ.out
  rintro e w3 ⟨A3, c3, ys, rfl, hp, hpw, hS3, hb3, hty⟩
  have he : ys = sortS zs := sort_of hp hpw HN.out
  subst he
  go_wp2_with fail
  go_ret
  exact ⟨A3, c3, rfl, hS3.less hb2.size, hb2.trans (hb3.mono hb2.size), hty⟩
end Go.Proofs.YtdokpmfejibdlaaGreatDoor
