/- Chapter 46: adjacent equals struck: plain, and the row's cells. -/
import Derived.Test.YtccmchmemafjdaaGreatDoorBase
import Derived.Shelf.SlSortCmp.NoneTotal
import Derived.Lib.OwnBridge
import Derived.Test.YtccmchmemafjdaaGreatDoorPa
import Derived.Test.YtccmchmemafjdaaGreatDoorSortSa
import Derived.Deep.MidRow
set_option linter.unusedSimpArgs false
set_option linter.unusedVariables false
namespace Go.Proofs.YtccmchmemafjdaaGreatDoor
open Go.RowKit Go.Sort

section
variable {α : Type} [Inhabited α] {k : Nat} {enc : α → List Value}
theorem flatK_get (hk : ∀ x, (enc x).length = k) (d : Array α) (t : Nat) (ht : t < d.size * k) : (flatK enc k d)[t]! = (enc d[t / k]!)[t % k]! := by
  unfold flatK
  rw [getElem!_pos _ _ (by simpa using ht)]
  simp
theorem size_flatK' (d : Array α) : (flatK enc k d).size = d.size * k := by simp [flatK]
theorem holdsK_of_own (hk : ∀ x, (enc x).length = k) {w : World} {base : Nat} {e : TypeId} {g n cap : Nat} {xs : List α} (h : w.ownsRow base e k (.slice (some ⟨g, 0, none⟩) n cap) n (xs.flatMap enc)) (hl : xs.length = n) :
    HoldsK enc k w g 0 xs.toArray := by
  intro t ht
  rw [size_flatK'] at ht
  simp only [List.size_toArray] at ht
  have hk0 : 0 < k := by
    rcases Nat.eq_zero_or_pos k with h0 | h0
    · subst h0; simp at ht
    · exact h0
  have hi : t / k < xs.length := (Nat.div_lt_iff_lt_mul hk0).2 ht
  have hj : t % k < (enc xs[t / k]).length := by rw [hk]; exact Nat.mod_lt _ hk0
  refine ⟨?_, h.frozenAt _⟩
  rw [flatK_get hk _ _ (by simpa using ht), Nat.zero_add, h.cellAt t (by rw [← hl]; exact ht)]
  have h2 := flat_at hk xs (t / k) xs[t / k] (t % k) ((enc xs[t / k])[t % k]) (List.getElem?_eq_getElem hi) (List.getElem?_eq_getElem hj)
  rw [show t / k * k + t % k = t from by rw [Nat.mul_comm]; exact Nat.div_add_mod t k] at h2
  rw [h2]
  simp [getElem!_pos, hi, hj]
theorem sl_of_holdsK (hk : ∀ x, (enc x).length = k) {w : World} {g base : Nat} {d : Array α} (h : HoldsK enc k w g 0 d) (hb : base ≤ g) (hg : g < w.heap.size) : Sl w base w.heap.size k enc (some ⟨g, 0, none⟩) d.size d.toList := by
  refine ⟨by simp, fun _ => ⟨g, 0, rfl, hb, hg, fun i x hx j u hu => ?_⟩⟩
  obtain ⟨hi, rfl⟩ := List.getElem?_eq_some_iff.1 hx
  have hi' : i < d.size := by simpa using hi
  have hj : j < k := by
    rcases Nat.lt_or_ge j k with h1 | h1
    · exact h1
    · rw [List.getElem?_eq_none (by rw [hk]; exact h1)] at hu; cases hu
  have ht : i * k + j < d.size * k := by
    have : (i + 1) * k ≤ d.size * k := Nat.mul_le_mul_right _ hi'
    rw [Nat.succ_mul] at this; omega
  have := (h (i * k + j) (by rw [size_flatK']; exact ht)).1
  rw [flatK_get hk _ _ ht] at this
  have e1 : (i * k + j) / k = i := by
    rw [Nat.mul_comm, Nat.mul_add_div (by omega), Nat.div_eq_of_lt hj, Nat.add_zero]
  have e2 : (i * k + j) % k = j := by rw [Nat.mul_comm, Nat.mul_add_mod, Nat.mod_eq_of_lt hj]
  rw [e1, e2] at this
  rw [show (0 : Nat) + i * k + j = 0 + (i * k + j) from by omega, this]
  obtain ⟨hj', rfl⟩ := List.getElem?_eq_some_iff.1 hu
  have hj2 : j < (enc d[i]).length := by simpa using hj'
  simp [getElem!_pos, hi', hj2]
theorem sl_sorted (hk : ∀ x, (enc x).length = k) {w : World} {base : Nat} {e : TypeId} {g n cap q : Nat} {xs : List α} {d' : Array α} {os : Array Obj} (h : w.ownsRow base e k (.slice (some ⟨g, 0, none⟩) n cap) n (xs.flatMap enc)) (hl : xs.length = n) (hs : d'.size = n) (hbg : base ≤ g) (hg : g < w.heap.size) :
    Sl (sortWorldK enc k w g 0 q d' os) base (sortWorldK enc k w g 0 q d' os).heap.size k enc (some ⟨g, 0, none⟩) n d'.toList := by
  have h0 := holdsK_of_own hk h hl
  have h1 : HoldsK enc k (putRowK enc k (Sort.ahead w q) g 0 d') g 0 d' := holdsK_putRowK enc k (Sort.ahead w q) g 0 xs.toArray d' h0 (by simp [hs, hl])
  have hz : (putRowK enc k (Sort.ahead w q) g 0 d').heap.size = w.heap.size := by unfold putRowK; simp [Sort.ahead]
  have h2 : HoldsK enc k (sortWorldK enc k w g 0 q d' os) g 0 d' := holdsK_grow enc k _ os g 0 d' (by rw [hz]; exact hg) h1
  have h3 := sl_of_holdsK hk (base := base) h2 hbg (by
    unfold sortWorldK
    show g < ((putRowK enc k (Sort.ahead w q) g 0 d').heap ++ os).size
    rw [Array.size_append, hz]; omega)
  rw [← hs]; exact h3
theorem below_sorted {w : World} {B g q : Nat} {d' : Array α} {os : Array Obj} (hB : B ≤ g) (hg : g < w.heap.size) : Below B w (sortWorldK enc k w g 0 q d' os) := by
  have h1 : Below B w (putRowK enc k (Sort.ahead w q) g 0 d') := Lib.below_putRow (enc := id) (d := flatK enc k d') (Below.refl B w) hB
  have hz : (putRowK enc k (Sort.ahead w q) g 0 d').heap.size = w.heap.size := by unfold putRowK; simp [Sort.ahead]
  refine h1.trans ⟨rfl, rfl, rfl, ?_, fun j hj => ?_⟩
  · show _ ≤ ((putRowK enc k (Sort.ahead w q) g 0 d').heap ++ os).size
    simp
  · show ((putRowK enc k (Sort.ahead w q) g 0 d').heap ++ os)[j]? = _
    rw [Array.getElem?_append_left (by rw [hz]; omega)]
end
end Go.Proofs.YtccmchmemafjdaaGreatDoor
set_option linter.unusedSimpArgs false
set_option linter.unusedVariables false
namespace Go.Proofs.YtccmchmemafjdaaGreatDoor
open Go.RowKit Go.Sort

/-- Block g holds the sales xs, none of it frozen. -/
structure RowS (w : World) (g : Nat) (xs : List Sal) : Prop where
  lt : g < w.heap.size
  cell : ∀ (i : Nat) (x : Sal), xs[i]? = some x → ∀ (j : Nat) (u : Value), (encS x)[j]? = some u → w.cell? ⟨g, i * 3 + j, none⟩ = some u
  frz : ∀ j, w.frozen? ⟨g, j, none⟩ = false
theorem RowS.three {w : World} {g : Nat} {xs : List Sal} (h : RowS w g xs) {i : Nat} {x : Sal} (hx : xs[i]? = some x) :
    w.cell? ⟨g, i * 3, none⟩ = some (.int .i64 x.y) ∧ w.cell? ⟨g, i * 3 + 1, none⟩ = some (.int .i64 x.h) ∧ w.cell? ⟨g, i * 3 + 2, none⟩ = some (.int .i64 x.l) :=
  ⟨h.cell i x hx 0 _ rfl, h.cell i x hx 1 _ rfl, h.cell i x hx 2 _ rfl⟩
theorem RowS.up {w w' : World} {g : Nat} {xs : List Sal} (h : RowS w g xs) (hb : Below w.heap.size w w') : RowS w' g xs :=
  ⟨Nat.lt_of_lt_of_le h.lt hb.size, fun i x hx j u hu => (hb.cell (p := ⟨g, i * 3 + j, none⟩) h.lt).trans (h.cell i x hx j u hu), fun j => (hb.frozen (p := ⟨g, j, none⟩) h.lt).trans (h.frz j)⟩
theorem RowS.sl {w : World} {g : Nat} {xs : List Sal} (h : RowS w g xs) {k : Nat} (hk : k ≤ xs.length) : SaS w (some ⟨g, 0, none⟩) k (xs.take k) := by
  refine ⟨by simp; omega, fun _ => ⟨g, 0, rfl, Nat.zero_le _, h.lt, fun i x hx j u hu => ?_⟩⟩
  rw [Nat.zero_add]
  refine h.cell i x ?_ j u hu
  rw [List.getElem?_take] at hx
  split at hx
  · exact hx
  · cases hx
def ltOrd (x y : Sal) : Bool := ltOf ordS x y
theorem ltOrd_iff (x y : Sal) : ltOf ordS x y = decide (ltSal x y) := by
  unfold ltOf
  rcases ordS_cases x y with ⟨h, e⟩ | ⟨h, e⟩ | ⟨h, e⟩
  · rw [e]; simp [h]
  · rw [e, h]; simp [ltSal_irr]
  · rw [e]
    have : ¬ ltSal x y := fun h2 => ltSal_irr _ (ltSal_trans h h2)
    simp [this]
theorem swoO : SWO (ltOf ordS) where
  irrefl x := by rw [ltOrd_iff]; simp [ltSal_irr]
  trans x y z h1 h2 := by
    rw [ltOrd_iff, decide_eq_true_iff] at *
    exact ltSal_trans h1 h2
  ntrans x y z h1 h2 := by
    rw [ltOrd_iff, decide_eq_false_iff_not] at *
    intro h3
    rcases ltSal_tri x y with h | h | h
    · exact h1 h
    · subst h; exact h2 h3
    · exact h2 (ltSal_trans h h3)
theorem grownBy_sortK {α : Type} [Inhabited α] {enc : α → List Value} {k : Nat} {w : World} {g q : Nat} {d' : Array α} {os : Array Obj} : w.grownBy (sortWorldK enc k w g 0 q d' os) (some g) := by
  unfold sortWorldK
  refine ⟨rfl, rfl, rfl, by simp [putRowK], fun j hk hne => ?_⟩
  rw [heap_grow_old _ _ (by simpa [putRowK] using hk)]
  have : g ≠ j := fun e => hne (by rw [e])
  simp [putRowK, putRow, mapBlock, Sort.ahead, Array.getElem?_modify, this]
theorem frz_sortK {α : Type} [Inhabited α] {enc : α → List Value} {k : Nat} {w : World} {g q : Nat} {d' : Array α} {os : Array Obj} {cur : Array Value} {e : TypeId} (hb : w.heap[g]? = some (.cells cur e (0, 0))) (j : Nat) :
    (sortWorldK enc k w g 0 q d' os).frozen? ⟨g, j, none⟩ = false := by
  have hg : g < w.heap.size := (Array.getElem?_eq_some_iff.1 hb).1
  unfold sortWorldK World.frozen?
  rw [heap_grow_old _ _ (by simpa [putRowK, Sort.ahead] using hg)]
  simp [putRowK, putRow, mapBlock, Sort.ahead, Array.getElem?_modify, hb, onCells]
theorem sl_row {w : World} {B g n : Nat} {ys : List Sal} (h : Sl w B w.heap.size 3 encS (some ⟨g, 0, none⟩) n ys) (hg : g < w.heap.size) (hf : ∀ j, w.frozen? ⟨g, j, none⟩ = false) : RowS w g ys := by
  refine ⟨hg, fun i x hx j u hu => ?_, hf⟩
  have hl := h.len
  have hi : i < n := by rw [← hl]; exact (List.getElem?_eq_some_iff.1 hx).1
  obtain ⟨b, off, z, hA, _, _, hz, hc⟩ := h.at_ hi
  cases hA
  have : z = x := Option.some.inj (hz.symm.trans hx)
  subst this
  have := hc j u hu
  rwa [Nat.zero_add] at this
set_option maxHeartbeats 1000000 in
theorem sortSale_any (base g n cap : Nat) (xs : List Sal) (w : World) (h : w.ownsRow base 57 3 (.slice (some ⟨g, 0, none⟩) n cap) n (xs.flatMap encS)) (hl : xs.length = n) (hbg : base ≤ g) (hg : g < w.heap.size) (hn : n ≤ 1000000) :
    Calls Tryz.prog 85 #[.slice (some ⟨g, 0, none⟩) n cap, .func (.func 45) #[] #[]] w fun e w' => e = .returned (.tuple #[]) ∧ ∃ ys : List Sal, ys.Perm xs ∧ ys.Pairwise (fun x y => ¬ ltSal y x) ∧ RowS w' g ys ∧ w.grownBy w' (some g) := by
  have eg : ∀ args w, (callFunc 45 args).run Tryz.prog w = .ok (.enter 45 args) w := enters_of Tryz.func45 (by kernel_rfl) rfl
  have hH := holdsK_of_own (k := 3) encS_len h hl
  have hcon := AnyQ.slices_SortFunc Tryz.sortSale 3 Tryz.isAgg57 Tryz.sizeOf57 encS encS_len encS_one ordS swoO 45 #[] g 0 cap xs.toArray w eg (fun m os dk hs x y => order_any x y _) hH hg (by simp; omega)
  change Calls Tryz.prog 85 _ _ _ at hcon
  rw [List.size_toArray, hl] at hcon
  have hh : ∃ cur, w.heap[g]? = some (.cells cur 57 (0, 0)) := by
    rcases h.2 with ⟨h', _⟩ | ⟨g', cap', cur, h', _, hg', _⟩
    · cases h'
    · simp only [Value.slice.injEq, Option.some.injEq, Addr.mk.injEq, and_true, true_and] at h'
      obtain ⟨rfl, rfl⟩ := h'
      exact ⟨_, hg'⟩
  obtain ⟨cur, hh⟩ := hh
  refine hcon.mono ?_
  rintro e w' ⟨he, d', q, os, hp, hs, rfl⟩
  have hsz : d'.size = n := by rw [hp.1]; simp [hl]
  have hgr : w.grownBy (sortWorldK encS 3 w g 0 q d' os) (some g) := grownBy_sortK
  refine ⟨he, d'.toList, ?_, ?_, ?_, hgr⟩
  · have := hp.2.2
    rw [show d'.extract 0 n = d' from by rw [← hsz]; simp, show xs.toArray.extract 0 n = xs.toArray from by rw [← hl]; simp] at this
    simpa using this
  · rw [← hsz] at hs
    refine sortedIn_pairwise hs ?_
    intro x y hxy
    rw [ltOrd_iff] at hxy
    simpa using hxy
  · exact sl_row (sl_sorted encS_len h hl hsz hbg hg) (Nat.lt_of_lt_of_le hg hgr.size) (frz_sortK hh)
theorem sortSale_none (p : Option Addr) (cap : Nat) (fv : Value) (w : World) :
    Calls Tryz.prog 85 #[.slice p 0 cap, fv] w fun e w' => e = .returned (.tuple #[]) ∧ w = w' :=
  (AnyF.slices_SortFunc_none Tryz.sortSale p cap fv w).mono fun e w' ⟨h1, h2⟩ => ⟨h1, h2.symm⟩
end Go.Proofs.YtccmchmemafjdaaGreatDoor
set_option linter.unusedSimpArgs false
set_option linter.unusedVariables false
namespace Go.Proofs.YtccmchmemafjdaaGreatDoor
open Go.RowKit Go.Sort

theorem compS_snoc : ∀ (l : List Sal) (x : Sal), compS (l ++ [x]) = if l.getLast? = some x then compS l else compS l ++ [x]
  | [], x => by simp [compS]
  | [y], x => by
    show (if y = x then compS [x] else y :: compS [x]) = _
    by_cases e : y = x
    · subst e; simp [compS]
    · simp [compS, e]
  | y :: z :: r, x => by
    have ih := compS_snoc (z :: r) x
    show (if y = z then compS (z :: (r ++ [x])) else y :: compS (z :: (r ++ [x]))) = _
    have e1 : (y :: z :: r).getLast? = (z :: r).getLast? := by simp
    rw [e1, ← List.cons_append, ih]
    by_cases e : y = z
    · subst e
      simp only [if_true]
      have e2 : compS (y :: y :: r) = compS (y :: r) := by simp [compS]
      rw [e2]
    · rw [if_neg e]
      have e2 : compS (y :: z :: r) = y :: compS (z :: r) := by simp [compS, e]
      rw [e2]
      split <;> simp
theorem last_take {xs : List Sal} {k : Nat} {y : Sal} (h : xs[k]? = some y) : (xs.take (k + 1)).getLast? = some y := by rw [take_snocS h]; simp
theorem compS_step {xs : List Sal} {k : Nat} {y x : Sal} (hy : xs[k]? = some y) (hx : xs[k + 1]? = some x) : compS (xs.take (k + 1 + 1)) = if y = x then compS (xs.take (k + 1)) else compS (xs.take (k + 1)) ++ [x] := by
  rw [take_snocS hx, compS_snoc, last_take hy]
  simp
theorem compS_one {xs : List Sal} : compS (xs.take 1) = xs.take 1 := by
  cases xs with
  | nil => rfl
  | cons x r => simp [compS]
/-- Three cells are stored. -/
def put3 (w : World) (g o : Nat) (x : Sal) : World := w.setCells g o (encS x)
theorem RowS.put {w : World} {g : Nat} {xs : List Sal} (h : RowS w g xs) {i : Nat} (hi : i < xs.length) (x : Sal) : RowS (put3 w g (i * 3) x) g (xs.set i x) := by
  have hin : ∀ j, j < (encS x).length → (w.cell? ⟨g, i * 3 + j, none⟩).isSome = true := fun j hj => by
    have hj3 : j < (encS xs[i]).length := hj
    rw [h.cell i xs[i] (List.getElem?_eq_getElem hi) j _ (List.getElem?_eq_getElem hj3)]
    rfl
  refine ⟨?_, fun i' x' hx' j u hu => ?_, fun j => ?_⟩
  · unfold put3
    have : ∀ (vs : List Value) (o : Nat) (w : World), (w.setCells g o vs).heap.size = w.heap.size := fun vs => by
      induction vs with
      | nil => intro o w; rfl
      | cons v vs ih => intro o w; show ((w.setCell ⟨g, o, none⟩ v).setCells g (o + 1) vs).heap.size = _; rw [ih]; simp [World.setCell]
    rw [this]
    exact h.lt
  · have hj3 : j < 3 := (List.getElem?_eq_some_iff.1 hu).1
    by_cases e : i' = i
    · subst e
      rw [List.getElem?_set_self hi] at hx'
      injection hx' with hx'
      subst hx'
      have := World.cell?_setCells_in g (encS x) (i' * 3) w hin j (by rw [encS_len]; exact hj3)
      unfold put3
      rw [this, ← hu, List.getElem?_eq_getElem (by rw [encS_len]; exact hj3)]
    · rw [List.getElem?_set_ne (fun h => e h.symm)] at hx'
      unfold put3
      rw [World.cell?_setCells_out g (encS x) (i * 3) w ⟨g, i' * 3 + j, none⟩ (fun _ _ => by
        show i' * 3 + j < i * 3 ∨ i * 3 + (encS x).length ≤ i' * 3 + j
        rw [encS_len]
        omega)]
      exact h.cell i' x' hx' j u hu
  · unfold put3
    rw [World.frozen?_setCells]
    exact h.frz j
theorem setCells_grown {w : World} {g o : Nat} {vs : List Value} : w.grownBy (w.setCells g o vs) (some g) := by
  induction vs generalizing w o with
  | nil => exact ⟨rfl, rfl, rfl, Nat.le_refl _, fun k _ _ => rfl⟩
  | cons v vs ih =>
    have h1 : w.grownBy (w.setCell ⟨g, o, none⟩ v) (some g) := ⟨rfl, rfl, rfl, by simp [World.setCell], fun k hk hne => by
      have : g ≠ k := fun e => hne (by rw [e])
      simp [World.setCell, Array.getElem?_modify, this]⟩
    exact h1.trans (ih (w := w.setCell ⟨g, o, none⟩ v) (o := o + 1))
end Go.Proofs.YtccmchmemafjdaaGreatDoor
