/- Chapter 54: linkage.with. (Printed by mkwk.py.) -/
import Derived.Test.YtdokpmfejibdlaaGreatDoorWj
import Derived.Deep.RegionHeld3
set_option linter.unusedSimpArgs false
set_option linter.unusedVariables false
namespace Go.Proofs.YtdokpmfejibdlaaGreatDoor
open Go.RowKit

section
variable {P : Program} {md : Region.Mode} {ops : Array Oper} {Q : Exit → Act → World → Prop} {g : Nat} {S T U : World → Prop}
/-- Whatever order comes; S holds behind each operation, and T as long as operation g has not come up. -/
def wpAnyG (P : Program) (md : Region.Mode) (ops : Array Oper) (Q : Exit → Act → World → Prop) (g : Nat) (S T : World → Prop) : Nat → Array Bool → Act → World → Prop
  | 0, listed, a, w => Region.ready md ops listed = [] ∧ Q .normal a w
  | fuel + 1, listed, a, w =>
    (Region.ready md ops listed = [] → Q .normal a w) ∧
    ∀ i ∈ Region.ready md ops listed, wpOp P ops Q i (fun a' w' => (S w' ∧ ((listed.setIfInBounds i true).getD g true = false → T w')) ∧ wpAnyG P md ops Q g S T fuel (listed.setIfInBounds i true) a' w') a w
theorem wpAny_of_gate : ∀ (fuel : Nat) (listed : Array Bool) (a : Act) (w : World), wpAnyG P md ops Q g S T fuel listed a w → wpAny P md ops Q fuel listed a w
  | 0, _, _, _, h => h
  | fuel + 1, _, _, _, h => ⟨h.1, fun i hi => wpOp_mono (fun a' w' h' => wpAny_of_gate fuel _ a' w' h'.2) (h.2 i hi)⟩
theorem wpAnyG_first {i : Nat} {oi : Oper} {v : Value} (hi : ops[i]? = some oi) (hig : i ≠ g) (hsel : ∀ (j : Nat) (o : Oper) cs b, ops[j]? = some o → o.op ≠ .select cs b)
    (hQ : ∀ c a w, Q (.panic c) (a.put oi.dst v) w → Q (.panic c) a w) :
    ∀ (fuel : Nat) (listed : Array Bool) (a : Act) (w : World),
      ((∀ w, S w → U w) ∨ ((∀ w, S w → T w → U w) ∧ listed.getD g true = false ∧ ∃ og, ops[g]? = some og ∧ ∃ e ∈ og.after, Region.binds md e = true ∧ e.on = i)) →
      (∀ j oj, ops[j]? = some oj → j ≠ i → listed.getD j true = false → (∀ e ∈ oj.after, Region.binds md e = true → e.on ≠ i) → oi.apart ops oj = true) →
      i ∈ Region.ready md ops listed → YieldsIf P ops U oi v a → S w → (listed.getD g true = false → T w) →
      wpAnyG P md ops Q g S T fuel (listed.setIfInBounds i true) (a.put oi.dst v) w → wpAnyG P md ops Q g S T (fuel + 1) listed a w := by
  have hU : ∀ {listed : Array Bool} {w : World}, ((∀ w, S w → U w) ∨ ((∀ w, S w → T w → U w) ∧ listed.getD g true = false ∧ ∃ og, ops[g]? = some og ∧ ∃ e ∈ og.after, Region.binds md e = true ∧ e.on = i)) → S w → (listed.getD g true = false → T w) → U w := fun h hS hT => by
    rcases h with h | ⟨h, h1, _⟩
    · exact h _ hS
    · exact h _ hS (hT h1)
  intro fuel
  induction fuel with
  | zero =>
    intro listed a w hgate _ hr hy hS hT H
    refine ⟨fun h => (by rw [h] at hr; cases hr), fun j hj => ?_⟩
    by_cases hji : j = i
    · subst hji
      refine hy.wpOp hi (hU hgate hS hT) ⟨⟨hS, fun h => hT ?_⟩, H⟩
      rw [getD_set_ne true hig] at h
      exact h
    · have := ready_mono hj hji
      rw [H.1] at this
      cases this
  | succ fuel ih =>
    intro listed a w hgate hfree hr hy hS hT H
    refine ⟨fun h => (by rw [h] at hr; cases hr), fun j hj => ?_⟩
    by_cases hji : j = i
    · subst hji
      refine hy.wpOp hi (hU hgate hS hT) ⟨⟨hS, fun h => hT ?_⟩, H⟩
      rw [getD_set_ne true hig] at h
      exact h
    · have h1 := H.2 j (ready_mono hj hji)
      obtain ⟨hjun, oj, hoj, hall⟩ := mem_ready.1 hj
      have hnot : ∀ e ∈ oj.after, Region.binds md e = true → e.on ≠ i := fun e he hb heq => by
        have h1 := hall e he hb
        have h0 := (mem_ready.1 hr).1
        rw [heq] at h1
        rcases Nat.lt_or_ge i listed.size with h' | h'
        · simp [h'] at h0 h1; rw [h0] at h1; cases h1
        · simp [Array.getElem?_eq_none h'] at h1
      have h2 := wpOp_putIf hoj (hfree j oj hoj hji hjun hnot) (fun cs b => hsel i oi cs b hi) (fun cs b => hsel j oj cs b hoj) hQ hy h1
      have hfree' : ∀ k ok, ops[k]? = some ok → k ≠ i → (listed.setIfInBounds j true).getD k true = false →
          (∀ e ∈ ok.after, Region.binds md e = true → e.on ≠ i) → oi.apart ops ok = true := fun k ok hk hki hun hno => by
        refine hfree k ok hk hki ?_ hno
        by_cases hjk : j = k
        · subst hjk; exact hjun
        · rw [getD_set_ne true hjk] at hun; exact hun
      have hgate' : (∀ w, S w → U w) ∨ ((∀ w, S w → T w → U w) ∧ (listed.setIfInBounds j true).getD g true = false ∧ ∃ og, ops[g]? = some og ∧ ∃ e ∈ og.after, Region.binds md e = true ∧ e.on = i) := by
        rcases hgate with h | ⟨h3, h4, og, h5, e, he, hb, heq⟩
        · exact .inl h
        · refine .inr ⟨h3, ?_, og, h5, e, he, hb, heq⟩
          have hjg : j ≠ g := fun e' => by
            subst e'
            rw [hoj] at h5
            injection h5 with h5
            subst h5
            exact hnot e he hb heq
          rw [getD_set_ne true hjg]
          exact h4
      have hT' : ∀ w', (((listed.setIfInBounds i true).setIfInBounds j true).getD g true = false → T w') → (listed.setIfInBounds j true).getD g true = false → T w' := fun w' h3 h4 => h3 (by
        rw [Array.setIfInBounds_comm _ _ (Ne.symm hji), getD_set_ne true hig]
        exact h4)
      refine wpOp_mono (fun a' w' h3 => ⟨⟨h3.2.1.1, hT' w' h3.2.1.2⟩, ih (listed.setIfInBounds j true) a' w' hgate' hfree' (ready_mono hr (Ne.symm hji)) h3.1 h3.2.1.1 (hT' w' h3.2.1.2) ?_⟩) h2
      rw [Array.setIfInBounds_comm _ _ hji]
      exact h3.2.2
def waitsB (md : Region.Mode) (ops : Array Oper) (g i : Nat) : Bool := ((ops[g]?).map (fun o => o.after.any fun e => Region.binds md e && e.on == i)).getD false
theorem waitsB_spec {i : Nat} (h : waitsB md ops g i = true) : ∃ og, ops[g]? = some og ∧ ∃ e ∈ og.after, Region.binds md e = true ∧ e.on = i := by
  unfold waitsB at h
  cases ho : ops[g]? with
  | none => rw [ho] at h; cases h
  | some og =>
    rw [ho] at h
    obtain ⟨e, he, hb⟩ := Array.any_eq_true'.1 h
    simp only [Bool.and_eq_true, beq_iff_eq] at hb
    exact ⟨og, rfl, e, he, hb⟩
/-- Take a load ahead of the gate: it yields in every world that meets S and T, and the gate waits for it. -/
theorem gateT {fuel : Nat} {listed : Array Bool} {a : Act} {w : World} (i : Nat) {oi : Oper} {v : Value} (hi : ops[i]? = some oi)
    (hw : Region.wanted oi (yielded ops a.tmps) = true) (hy : ∀ w, S w ∧ T w → (execOp a.eval oi).run P w = .ok (.value v) w)
    (hg : listed.getD g true = false) (hwt : waitsB md ops g i = true) (hig : (i == g) = false)
    (hs : Region.noSelect ops = true) (hf : Region.free md ops listed i = true) (hr : (Region.ready md ops listed).contains i = true)
    (hQ : ∀ c a w, Q (.panic c) (a.put oi.dst v) w → Q (.panic c) a w) (hS : S w ∧ T w)
    (h : wpAnyG P md ops Q g S T fuel (listed.setIfInBounds i true) (a.put oi.dst v) w) : wpAnyG P md ops Q g S T (fuel + 1) listed a w :=
  wpAnyG_first (U := fun w => S w ∧ T w) hi (by simpa using hig) (Region.noSelect_spec hs) hQ fuel listed a w (.inr ⟨fun _ h1 h2 => ⟨h1, h2⟩, hg, waitsB_spec hwt⟩) (Region.free_spec hi hf) (by simpa using hr) (.inl ⟨hw, hy⟩) hS.1 (fun _ => hS.2) h
/-- Take one that yields in every world that meets S. -/
theorem gateS {fuel : Nat} {listed : Array Bool} {a : Act} {w : World} (i : Nat) {oi : Oper} {v : Value} (hi : ops[i]? = some oi)
    (hw : Region.wanted oi (yielded ops a.tmps) = true) (hy : ∀ w, S w → (execOp a.eval oi).run P w = .ok (.value v) w) (hig : (i == g) = false)
    (hs : Region.noSelect ops = true) (hf : Region.free md ops listed i = true) (hr : (Region.ready md ops listed).contains i = true)
    (hQ : ∀ c a w, Q (.panic c) (a.put oi.dst v) w → Q (.panic c) a w) (hS : S w) (hT : listed.getD g true = true ∨ T w)
    (h : wpAnyG P md ops Q g S T fuel (listed.setIfInBounds i true) (a.put oi.dst v) w) : wpAnyG P md ops Q g S T (fuel + 1) listed a w :=
  wpAnyG_first (U := S) hi (by simpa using hig) (Region.noSelect_spec hs) hQ fuel listed a w (.inl fun _ h => h) (Region.free_spec hi hf) (by simpa using hr) (.inl ⟨hw, hy⟩) hS (fun hl => by
    rcases hT with hT | hT
    · rw [hl] at hT; cases hT
    · exact hT) h
def AllReadyG (P : Program) (md : Region.Mode) (ops : Array Oper) (Q : Exit → Act → World → Prop) (g : Nat) (S T : World → Prop) (fuel : Nat) (listed : Array Bool) (a : Act) (w : World) (rl : List Nat) : Prop :=
  ∀ i ∈ rl, wpOp P ops Q i (fun a' w' => (S w' ∧ ((listed.setIfInBounds i true).getD g true = false → T w')) ∧ wpAnyG P md ops Q g S T fuel (listed.setIfInBounds i true) a' w') a w
theorem AllReadyG.nil {fuel : Nat} {listed : Array Bool} {a : Act} {w : World} : AllReadyG P md ops Q g S T fuel listed a w [] := fun _ h => by cases h
/-- The gate is shut still: S and T are shown anew. -/
theorem AllReadyG.consT {fuel : Nat} {listed : Array Bool} {a : Act} {w : World} {i : Nat} {o : Oper} {rl : List Nat} (ho : ops[i]? = some o)
    (h : ∀ K' : Act → World → Prop, Shut (∀ a w, S w ∧ T w → (S w ∧ T w → wpAnyG P md ops Q g S T fuel (listed.setIfInBounds i true) a w) → K' a w) → if Region.wanted o (yielded ops a.tmps) = true then Oper.wp P o a w K' Q else K' (a.put o.dst undef) w)
    (hs : AllReadyG P md ops Q g S T fuel listed a w rl) : AllReadyG P md ops Q g S T fuel listed a w (i :: rl) := fun j hj => by
  rcases List.mem_cons.1 hj with rfl | hj
  · exact wpOp_step ho (fun K' hK => h K' (fun a w hS hW => hK a w ⟨⟨hS.1, fun _ => hS.2⟩, hW hS⟩))
  · exact hs j hj
/-- The gate is open: S alone is shown anew. -/
theorem AllReadyG.consS {fuel : Nat} {listed : Array Bool} {a : Act} {w : World} {i : Nat} {o : Oper} {rl : List Nat} (ho : ops[i]? = some o) (hg : (listed.setIfInBounds i true).getD g true = true)
    (h : ∀ K' : Act → World → Prop, Shut (∀ a w, S w → (S w → wpAnyG P md ops Q g S T fuel (listed.setIfInBounds i true) a w) → K' a w) → if Region.wanted o (yielded ops a.tmps) = true then Oper.wp P o a w K' Q else K' (a.put o.dst undef) w)
    (hs : AllReadyG P md ops Q g S T fuel listed a w rl) : AllReadyG P md ops Q g S T fuel listed a w (i :: rl) := fun j hj => by
  rcases List.mem_cons.1 hj with rfl | hj
  · exact wpOp_step ho (fun K' hK => h K' (fun a w hS hW => hK a w ⟨⟨hS, fun h => absurd h (by rw [hg]; decide)⟩, hW hS⟩))
  · exact hs j hj
theorem wpAnyG_ready {rl : List Nat} {fuel : Nat} {listed : Array Bool} {a : Act} {w : World} (hr : Region.ready md ops listed = rl) (hne : rl ≠ [])
    (h : AllReadyG P md ops Q g S T fuel listed a w rl) : wpAnyG P md ops Q g S T (fuel + 1) listed a w := ⟨fun h0 => absurd (hr ▸ h0) hne, hr ▸ h⟩
theorem wpAnyG_done {listed : Array Bool} {a : Act} {w : World} (hr : Region.ready md ops listed = []) (h : Q .normal a w) :
    ∀ fuel, wpAnyG P md ops Q g S T fuel listed a w
  | 0 => ⟨hr, h⟩
  | _ + 1 => ⟨fun _ => h, by rw [hr]; simp⟩
theorem wp_region_gate {id : Nat} {a : Act} {w : World} (g : Nat) (S T : World → Prop) (hm : P.follows .mixedOrders = true) (hS : S w.drew ∧ T w.drew)
    (h : S w.drew ∧ T w.drew → wpAnyG P .any ops Q g S T ops.size (Array.replicate ops.size false) a w.drew) : (Code.region id ops true).wp P Q a w :=
  wp_region_any hm (wpAny_of_gate _ _ _ _ (h hS))
end
end Go.Proofs.YtdokpmfejibdlaaGreatDoor
set_option linter.unusedSimpArgs false
set_option linter.unusedVariables false
namespace Go.Proofs.YtdokpmfejibdlaaGreatDoor
open Go.RowKit Go.Sort

theorem pcomp_any (B : Nat) (A : Option Addr) (c : Nat) (zs : List Int) (w : World) (hz : zs.length ≤ 1000000) (hown : w.ownsRow B 3 1 (.slice A zs.length c) zs.length (zs.flatMap encI)) :
    Calls Tryz.prog 93 #[.slice A zs.length c] w fun e w' => ∃ m, e = .returned (.slice A m c) ∧ m ≤ zs.length ∧ Sl w' B w'.heap.size 1 encI A m (compI zs) ∧ w.grownBy w' (Value.slice A zs.length c).ownBlock := by
  rcases hown.2 with ⟨h, h0⟩ | ⟨g, cap, cur, h, hg, hh, hn, hcap, hsz, ht⟩
  · have hzs : zs = [] := List.eq_nil_of_length_eq_zero (by first | exact h0 | omega)
    subst hzs
    cases h
    clear hown
    go_enter Tryz.func93, Tryz.ntmps93
    go_wp2_with fail
    go_ret
    exact ⟨0, rfl, Nat.le_refl _, Sl.nil, World.grownBy.refl _ _⟩
  · injection h with h1 h2 h3
    subst h1 h3
    refine (compactI_any g zs.length c zs w hz hn rfl (RowI.of_own hown rfl)).mono ?_
    rintro e w' ⟨m, rfl, hm, hS, hgr⟩
    refine ⟨m, rfl, hm, ⟨hS.1, fun h0 => ?_⟩, hgr⟩
    obtain ⟨b, off, e1, _, e2, e3⟩ := hS.2 h0
    cases e1
    exact ⟨g, 0, rfl, hg, e2, e3⟩
section
variable {w0 W W' : World} {B : Nat} {v1 v2 : Value} {os rs : List Int} {L : List (Nat × List Value)}
theorem SOK (h : WT w0 W B v1 v2 os rs L) {bx : Nat} {x0 x1 x2 : Value} (hm : (bx, [x0, x1, x2]) ∈ L) : W.cell? ⟨bx, 1, none⟩ = some x1 ∧ W.cell? ⟨bx, 2, none⟩ = some x2 :=
  ⟨(h.box _ hm).1.cell 1 _ rfl, (h.box _ hm).1.cell 2 _ rfl⟩
theorem WT.init {A : Option Addr} {n c : Nat} (h3 : Bx W (w0.heap.size + 1) [.slice none 0 0, .slice none 0 0, .slice A n c]) (h2 : Bx W w0.heap.size [.slice none 0 0, .slice none 0 0, .slice none 0 0]) (hb : Below w0.heap.size w0 W) :
    WT w0 W (w0.heap.size + 2) (.slice none 0 0) (.slice none 0 0) [] [] [(w0.heap.size + 1, [.slice none 0 0, .slice none 0 0, .slice A n c]), (w0.heap.size, [.slice none 0 0, .slice none 0 0, .slice none 0 0])] := by
  refine ⟨fun p hp => ?_, World.ownsRow_nil _ _ _ _, World.ownsRow_nil _ _ _ _, fun g hg => (by cases hg), hb, by have := h3.lt; omega, by omega⟩
  simp only [List.mem_cons, List.not_mem_nil, or_false] at hp
  rcases hp with rfl | rfl
  · exact ⟨h3, (by simp [Value.ownBlock]), (by simp [Value.ownBlock])⟩
  · exact ⟨h2, (by simp [Value.ownBlock]), (by simp [Value.ownBlock])⟩
theorem TOK (h : WT w0 W B v1 v2 os rs L) {bx : Nat} {x0 x1 x2 : Value} (hm : (bx, [x0, x1, x2]) ∈ L) : W.cell? ⟨bx, 0, none⟩ = some x0 ∧ W.cell? ⟨bx, 1, none⟩ = some x1 :=
  ⟨(h.box _ hm).1.cell 0 _ rfl, (h.box _ hm).1.cell 1 _ rfl⟩
def strikeL (b : Nat) (L : List (Nat × List Value)) : List (Nat × List Value) := L.filter (fun p => p.1 != b)
theorem mem_strike {b b' : Nat} {vs : List Value} {L : List (Nat × List Value)} (h : (b', vs) ∈ L) (hne : b' ≠ b) : (b', vs) ∈ strikeL b L := List.mem_filter.2 ⟨h, by simpa using hne⟩
theorem WT.put1 (h : WT w0 W B v1 v2 os rs L) {u1 u2 u3 : Value} {Z : List Value} (hm3 : (w0.heap.size + 1, [u1, u2, u3]) ∈ L) (hm2 : (w0.heap.size, Z) ∈ L) :
    WT w0 (W.setCell ⟨w0.heap.size + 1, 0, none⟩ v1) B v1 v2 os rs ((w0.heap.size + 1, [v1, u2, u3]) :: (w0.heap.size, Z) :: strikeL (w0.heap.size + 1) L) :=
  h.put hm3 (by omega) 0 v1 (by simp) (fun p hp => by
    rcases List.mem_cons.1 hp with rfl | hp
    · exact .inr rfl
    rcases List.mem_cons.1 hp with rfl | hp
    · exact .inl ⟨hm2, by simp⟩
    · obtain ⟨h1, h2⟩ := List.mem_filter.1 hp
      exact .inl ⟨h1, by simpa using h2⟩)
theorem WT.put2 (h : WT w0 W B v1 v2 os rs L) {u1 u2 u3 : Value} {Z : List Value} (hm3 : (w0.heap.size + 1, [u1, u2, u3]) ∈ L) (hm2 : (w0.heap.size, Z) ∈ L) :
    WT w0 (W.setCell ⟨w0.heap.size + 1, 1, none⟩ v2) B v1 v2 os rs ((w0.heap.size + 1, [u1, v2, u3]) :: (w0.heap.size, Z) :: strikeL (w0.heap.size + 1) L) :=
  h.put hm3 (by omega) 1 v2 (by simp) (fun p hp => by
    rcases List.mem_cons.1 hp with rfl | hp
    · exact .inr rfl
    rcases List.mem_cons.1 hp with rfl | hp
    · exact .inl ⟨hm2, by simp⟩
    · obtain ⟨h1, h2⟩ := List.mem_filter.1 hp
      exact .inl ⟨h1, by simpa using h2⟩)
theorem WT.pick (h : WT w0 W B v1 v2 os rs L) {p q : Nat × List Value} (hp : p ∈ L) (hq : q ∈ L) : WT w0 W B v1 v2 os rs [p, q] :=
  ⟨fun r hr => by
    simp only [List.mem_cons, List.not_mem_nil, or_false] at hr
    rcases hr with rfl | rfl
    · exact h.box _ hp
    · exact h.box _ hq, h.o1, h.o2, h.dj, h.hb, h.hz, h.hB⟩
theorem WT.srt1 (h : WT w0 W B v1 v2 os rs L) (hg : W.grownBy W' v1.ownBlock) {os' : List Int} (hl : os'.length = os.length) (hown : W'.ownsRow B 3 1 v1 os.length (os'.flatMap encI)) : WT w0 W' B v1 v2 os' rs L := by
  refine ⟨fun p hp => ?_, by rw [hl]; exact hown, h.o2.kept hg ?_, h.dj, Below.grown h.hb hg h.hb.size (fun k hk => Nat.le_trans h.hB (h.o1.lt k hk).1), Nat.le_trans h.hz hg.size, h.hB⟩
  · obtain ⟨h1, h2, h3⟩ := h.box p hp
    exact ⟨h1.grown hg h2, h2, h3⟩
  · cases e : v2.ownBlock with
    | none => exact .inl rfl
    | some k => exact .inr fun e2 => h.dj k e2.symm e
theorem WT.srt2 (h : WT w0 W B v1 v2 os rs L) (hg : W.grownBy W' v2.ownBlock) {rs' : List Int} (hl : rs'.length = rs.length) (hown : W'.ownsRow B 3 1 v2 rs.length (rs'.flatMap encI)) : WT w0 W' B v1 v2 os rs' L := by
  refine ⟨fun p hp => ?_, h.o1.kept hg ?_, by rw [hl]; exact hown, h.dj, Below.grown h.hb hg h.hb.size (fun k hk => Nat.le_trans h.hB (h.o2.lt k hk).1), Nat.le_trans h.hz hg.size, h.hB⟩
  · obtain ⟨h1, h2, h3⟩ := h.box p hp
    exact ⟨h1.grown hg h3, h2, h3⟩
  · cases e : v1.ownBlock with
    | none => exact .inl rfl
    | some k => exact .inr fun e2 => h.dj k e e2.symm
end
theorem Sl.grownW {α : Type} {w w' : World} {L k n : Nat} {enc : α → List Value} {A : Option Addr} {xs : List α} {row : Option Nat} (h : Sl w L w.heap.size k enc A n xs) (hg : w.grownBy w' row) (hne : ∀ b off, A = some ⟨b, off, none⟩ → row ≠ some b) : Sl w' L w'.heap.size k enc A n xs := by
  refine ⟨h.1, fun h0 => ?_⟩
  obtain ⟨b, off, e, h1, h2, h3⟩ := h.2 h0
  refine ⟨b, off, e, h1, Nat.lt_of_lt_of_le h2 hg.size, fun i x hx j u hu => ?_⟩
  exact (World.cell?_of_block (hg.block b h2 (fun e' => hne b off e e'.symm))).trans (h3 i x hx j u hu)
/-- The first row is struck. -/
structure WU (w0 W : World) (B : Nat) (A1 : Option Addr) (m1 : Nat) (os : List Int) (v2 : Value) (rs : List Int) (L : List (Nat × List Value)) : Prop where
  box : ∀ p ∈ L, Bx W p.1 p.2 ∧ v2.ownBlock ≠ some p.1
  o1 : Sl W B W.heap.size 1 encI A1 m1 os
  o2 : W.ownsRow B 3 1 v2 rs.length (rs.flatMap encI)
  dj : ∀ g off, A1 = some ⟨g, off, none⟩ → v2.ownBlock ≠ some g
  hb : Below w0.heap.size w0 W
  hB : w0.heap.size ≤ B
theorem WT.cmp {w0 W W' : World} {B m1 n1 c1 : Nat} {A1 : Option Addr} {v2 : Value} {os os' rs : List Int} {L : List (Nat × List Value)} (h : WT w0 W B (.slice A1 n1 c1) v2 os rs L) (hS : Sl W' B W'.heap.size 1 encI A1 m1 os') (hg : W.grownBy W' (Value.slice A1 n1 c1).ownBlock)
    (hA : A1 = none ∨ ∃ g, A1 = some ⟨g, 0, none⟩) : WU w0 W' B A1 m1 os' v2 rs L := by
  refine ⟨fun p hp => ?_, hS, h.o2.kept hg ?_, fun g off e => ?_, Below.grown h.hb hg h.hb.size (fun k hk => Nat.le_trans h.hB (h.o1.lt k hk).1), h.hB⟩
  · obtain ⟨h1, h2, h3⟩ := h.box p hp
    exact ⟨h1.grown hg h2, h3⟩
  · cases e : v2.ownBlock with
    | none => exact .inl rfl
    | some k => exact .inr fun e2 => h.dj k e2.symm e
  · rcases hA with rfl | ⟨g', rfl⟩
    · cases e
    · cases e
      exact h.dj g rfl
/-- Both rows are struck. -/
structure WV (w0 W : World) (B : Nat) (A1 : Option Addr) (m1 : Nat) (os : List Int) (A2 : Option Addr) (m2 : Nat) (rs : List Int) (L : List (Nat × List Value)) : Prop where
  box : ∀ p ∈ L, Bx W p.1 p.2
  o1 : Sl W B W.heap.size 1 encI A1 m1 os
  o2 : Sl W B W.heap.size 1 encI A2 m2 rs
  hb : Below w0.heap.size w0 W
  hB : w0.heap.size ≤ B
theorem WU.cmp {w0 W W' : World} {B m1 m2 n2 c2 : Nat} {A1 A2 : Option Addr} {os rs rs' : List Int} {L : List (Nat × List Value)} (h : WU w0 W B A1 m1 os (.slice A2 n2 c2) rs L) (hS : Sl W' B W'.heap.size 1 encI A2 m2 rs') (hg : W.grownBy W' (Value.slice A2 n2 c2).ownBlock) : WV w0 W' B A1 m1 os A2 m2 rs' L :=
  ⟨fun p hp => (h.box p hp).1.grown hg (h.box p hp).2, h.o1.grownW hg (fun b off e => h.dj b off e), hS, Below.grown h.hb hg h.hb.size (fun k hk => Nat.le_trans h.hB (h.o2.lt k hk).1), h.hB⟩
theorem own_addr {w : World} {base : Nat} {e : TypeId} {k : Nat} {A : Option Addr} {n c m : Nat} {xs : List Value} (h : w.ownsRow base e k (.slice A n c) m xs) : A = none ∨ ∃ g, A = some ⟨g, 0, none⟩ := by
  rcases h.2 with ⟨hv, _⟩ | ⟨g, cap, cur, hv, _⟩
  · cases hv; exact .inl rfl
  · cases hv; exact .inr ⟨g, rfl⟩
theorem Bx.all3 {w : World} {b : Nat} {a0 a1 a2 : Value} (h : Bx w b [a0, a1, a2]) (u0 u1 u2 : Value) : Bx (((w.setCell ⟨b, 0, none⟩ u0).setCell ⟨b, 1, none⟩ u1).setCell ⟨b, 2, none⟩ u2) b [u0, u1, u2] :=
  ((h.set (i := 0) (by simp) u0).set (i := 1) (by simp) u1).set (i := 2) (by simp) u2
/-- A graph handed over. -/
theorem WV.gr {w0 W : World} {m1 m2 : Nat} {os rs : List Int} {A1 A2 : Option Addr} {c1 c2 : Nat} {L : List (Nat × List Value)} {x y z : Value} (h : WV w0 W (w0.heap.size + 2) A1 m1 os A2 m2 rs L) :
    Sl (((((W.setCell ⟨w0.heap.size + 1, 0, none⟩ (.slice A1 m1 c1)).setCell ⟨w0.heap.size + 1, 1, none⟩ (.slice A2 m2 c2)).setCell ⟨w0.heap.size, 0, none⟩ x).setCell ⟨w0.heap.size, 1, none⟩ y).setCell ⟨w0.heap.size, 2, none⟩ z) w0.heap.size (((((W.setCell ⟨w0.heap.size + 1, 0, none⟩ (.slice A1 m1 c1)).setCell ⟨w0.heap.size + 1, 1, none⟩ (.slice A2 m2 c2)).setCell ⟨w0.heap.size, 0, none⟩ x).setCell ⟨w0.heap.size, 1, none⟩ y).setCell ⟨w0.heap.size, 2, none⟩ z).heap.size 1 encI A1 m1 os ∧ Sl (((((W.setCell ⟨w0.heap.size + 1, 0, none⟩ (.slice A1 m1 c1)).setCell ⟨w0.heap.size + 1, 1, none⟩ (.slice A2 m2 c2)).setCell ⟨w0.heap.size, 0, none⟩ x).setCell ⟨w0.heap.size, 1, none⟩ y).setCell ⟨w0.heap.size, 2, none⟩ z) w0.heap.size (((((W.setCell ⟨w0.heap.size + 1, 0, none⟩ (.slice A1 m1 c1)).setCell ⟨w0.heap.size + 1, 1, none⟩ (.slice A2 m2 c2)).setCell ⟨w0.heap.size, 0, none⟩ x).setCell ⟨w0.heap.size, 1, none⟩ y).setCell ⟨w0.heap.size, 2, none⟩ z).heap.size 1 encI A2 m2 rs := by
  have hz : (((((W.setCell ⟨w0.heap.size + 1, 0, none⟩ (.slice A1 m1 c1)).setCell ⟨w0.heap.size + 1, 1, none⟩ (.slice A2 m2 c2)).setCell ⟨w0.heap.size, 0, none⟩ x).setCell ⟨w0.heap.size, 1, none⟩ y).setCell ⟨w0.heap.size, 2, none⟩ z).heap.size = W.heap.size := by simp [World.setCell]
  rw [hz]
  exact ⟨(((((h.o1.set_ (by simp) _).set_ (by simp) _).set_ (by simp) _).set_ (by simp) _).set_ (by simp) _).less (by omega), (((((h.o2.set_ (by simp) _).set_ (by simp) _).set_ (by simp) _).set_ (by simp) _).set_ (by simp) _).less (by omega)⟩
set_option maxRecDepth 100000 in
set_option maxHeartbeats 8000000 in
theorem with_any (A : Option Addr) (n c : Nat) (xs : List Lnk) (w : World) (hn : n ≤ 64) (hS : Sl w 0 w.heap.size 3 encL A n xs) :
    Calls Tryz.prog 69 #[.slice A n c] w fun e w' => (∃ A1 n1 c1 A2 n2 c2, e = .returned (.agg #[.slice A1 n1 c1, .slice A2 n2 c2, .slice A n c]) ∧ n1 ≤ 64 ∧ n2 ≤ 64 ∧ Sl w' w.heap.size w'.heap.size 1 encI A1 n1 (uniqI (xs.map Lnk.obv)) ∧ Sl w' w.heap.size w'.heap.size 1 encI A2 n2 (uniqI (xs.map Lnk.rev))) ∧ Below w.heap.size w w' := by
  obtain ⟨i0, hi, hz0, hz1, hz2⟩ := info_parts Tryz.infoI
  have HS := Lib.hid hS
  have HL := Lib.hid hS.len
  have HU : Hid (∀ W, Below w.heap.size w W → Sl W 0 W.heap.size 3 encL A n xs) := fun W hW => hS.up hW (Nat.le_refl _) (Nat.le_refl _)
  clear hS
  go_enter Tryz.func69, Tryz.ntmps69
  go_wp2_with fail
  have hb0 : Below w.heap.size w ((w.alloc (.cells #[.slice none 0 0, .slice none 0 0, .slice none 0 0] 52)).alloc (.cells #[.slice none 0 0, .slice none 0 0, .slice A n c] 52)) := by (repeat (first | exact Below.refl _ _ | assumption | refine Below.alloc ?_ (by first | omega | (simp only [World.size_alloc]; omega) | (simp; done) | (simp; omega)) _ | refine Below.setCell ?_ (by first | omega | (simp only [World.size_alloc]; omega) | (simp; done) | (simp; omega)) _ | refine Below.drew ?_ | refine below_drewN ?_ _))
  have B3 := Bx.new (w.alloc (.cells #[.slice none 0 0, .slice none 0 0, .slice none 0 0] 52)) [.slice none 0 0, .slice none 0 0, .slice A n c] 52
  have B2 := (Bx.new w [.slice none 0 0, .slice none 0 0, .slice none 0 0] 52).alloc (.cells #[.slice none 0 0, .slice none 0 0, .slice A n c] 52)
  rw [World.size_alloc] at B3
  have hT := WT.init B3 B2 hb0
  clear B3 B2 hb0
  have hTT : WT w ((w.alloc (.cells #[.slice none 0 0, .slice none 0 0, .slice none 0 0] 52)).alloc (.cells #[.slice none 0 0, .slice none 0 0, .slice A n c] 52)) (w.heap.size + 2) (.slice none 0 0) (.slice none 0 0) [] [] [(w.heap.size + 1, [.slice none 0 0, .slice none 0 0, .slice A n c]), (w.heap.size, [.slice none 0 0, .slice none 0 0, .slice none 0 0])] := hT
  clear hT
  generalize (w.alloc (.cells #[.slice none 0 0, .slice none 0 0, .slice none 0 0] 52)).alloc (.cells #[.slice none 0 0, .slice none 0 0, .slice A n c] 52) = W0 at *
  go_loopw [10] (fun i wr => ∃ (k : Nat) (os rs : List Int) (A1 : Option Addr) (c1 : Nat) (A2 : Option Addr) (c2 : Nat), k ≤ n ∧ i = .int .i64 (k : Int) ∧ os.length = k ∧ rs.length = k ∧ os = (xs.take k).map Lnk.obv ∧ rs = (xs.take k).map Lnk.rev ∧ WT w wr (w.heap.size + 2) (.slice A1 os.length c1) (.slice A2 rs.length c2) os rs [(w.heap.size + 1, [.slice A1 os.length c1, .slice A2 rs.length c2, .slice A n c]), (w.heap.size, [.slice none 0 0, .slice none 0 0, .slice none 0 0])]) (fun i _ => n - (intOf i).toNat)
  case atStart => exact ⟨0, [], [], none, 0, none, 0, Nat.zero_le _, rfl, rfl, rfl, rfl, rfl, hTT⟩
  case round =>
    clear hTT
    obtain ⟨k, os, rs, A1, c1, A2, c2, hk, rfl, hol, hrl, hos, hrs, hT⟩ := hrel
    have HOL := Lib.hid hol
    have HRL := Lib.hid hrl
    have HOS := Lib.hid hos; clear hos
    have HRS := Lib.hid hrs; clear hrs
    have hoM : os.length ≤ 64 := by omega
    have hrM : rs.length ≤ 64 := by omega
    clear hol hrl
    by_cases hlt : k < n
    · obtain ⟨b, off, x, hA, hbb, hx, x0, x1, x2⟩ := (HU.out _ hT.hb).ln hlt
      subst hA
      have HX := Lib.hid hx; clear hx
      have hrz := hT.hz
      have hbx3 : ¬ w.heap.size + 1 = wr.heap.size := by omega
      replace hT := hT.lay [.int .i64 x.id, .int .i64 x.obv, .int .i64 x.rev] 96
      go_wp2_with fail
      generalize wr.alloc (.cells #[.int .i64 x.id, .int .i64 x.obv, .int .i64 x.rev] 96) = W1 at *
      generalize wr.heap.size = bx at *
      clear x0 x1 x2 HS HU
      refine wp_region_noPanic ?_
      refine wp_region_gate 13 (fun U => U.cell? ⟨bx, 1, none⟩ = some (.int .i64 x.obv) ∧ U.cell? ⟨bx, 2, none⟩ = some (.int .i64 x.rev)) (fun U => U.cell? ⟨w.heap.size + 1, 0, none⟩ = some (.slice A1 os.length c1) ∧ U.cell? ⟨w.heap.size + 1, 1, none⟩ = some (.slice A2 rs.length c2)) (by kernel_rfl) ⟨SOK (x0 := .int .i64 x.id) (hT.up (Below.drew (Below.refl _ _))) (by (try simp only [World.size_alloc]); repeat first | with_reducible exact List.mem_cons_self | refine List.mem_cons_of_mem _ ?_ | refine mem_strike ?_ (by omega)), TOK (x2 := .slice (some ⟨b, off, none⟩) n c) (hT.up (Below.drew (Below.refl _ _))) (by (try simp only [World.size_alloc]); repeat first | with_reducible exact List.mem_cons_self | refine List.mem_cons_of_mem _ ?_ | refine mem_strike ?_ (by omega))⟩ (fun hHeld => ?_)
      replace hT := hT.up (Below.drew (Below.refl _ _))
      generalize W1.drew = W2 at *
      clear hrz hbb
      refine' gateT 0 ?_ ?_ ?_ (by kernel_rfl) (by kernel_rfl) (by kernel_rfl) (by kernel_rfl) (by kernel_rfl) (by kernel_rfl) (fun _ _ _ h => h) hHeld ?_
      rotate_left 2
      · (simp only [List.getElem?_toArray, List.getElem?_cons_succ, List.getElem?_cons_zero]; try rfl)
      · rfl
      · (intro w hSw; (try dsimp only at hSw); go_simp; first | done | with_reducible rfl)
      (try simp only [Act.put, List.setIfInBounds_toArray, List.set_cons_zero, List.set_cons_succ])
      refine' gateT 1 ?_ ?_ ?_ (by kernel_rfl) (by kernel_rfl) (by kernel_rfl) (by kernel_rfl) (by kernel_rfl) (by kernel_rfl) (fun _ _ _ h => h) hHeld ?_
      rotate_left 2
      · (simp only [List.getElem?_toArray, List.getElem?_cons_succ, List.getElem?_cons_zero]; try rfl)
      · rfl
      · (intro w hSw; (try dsimp only at hSw); go_simp; first | done | with_reducible rfl)
      (try simp only [Act.put, List.setIfInBounds_toArray, List.set_cons_zero, List.set_cons_succ])
      refine' gateT 2 ?_ ?_ ?_ (by kernel_rfl) (by kernel_rfl) (by kernel_rfl) (by kernel_rfl) (by kernel_rfl) (by kernel_rfl) (fun _ _ _ h => h) hHeld ?_
      rotate_left 2
      · (simp only [List.getElem?_toArray, List.getElem?_cons_succ, List.getElem?_cons_zero]; try rfl)
      · rfl
      · (intro w hSw; (try dsimp only at hSw); go_simp; first | done | with_reducible rfl)
      (try simp only [Act.put, List.setIfInBounds_toArray, List.set_cons_zero, List.set_cons_succ])
      refine' gateT 3 ?_ ?_ ?_ (by kernel_rfl) (by kernel_rfl) (by kernel_rfl) (by kernel_rfl) (by kernel_rfl) (by kernel_rfl) (fun _ _ _ h => h) hHeld ?_
      rotate_left 2
      · (simp only [List.getElem?_toArray, List.getElem?_cons_succ, List.getElem?_cons_zero]; try rfl)
      · rfl
      · (intro w hSw; (try dsimp only at hSw); go_simp; first | done | with_reducible rfl)
      (try simp only [Act.put, List.setIfInBounds_toArray, List.set_cons_zero, List.set_cons_succ])
      refine' gateT 6 ?_ ?_ ?_ (by kernel_rfl) (by kernel_rfl) (by kernel_rfl) (by kernel_rfl) (by kernel_rfl) (by kernel_rfl) (fun _ _ _ h => h) hHeld ?_
      rotate_left 2
      · (simp only [List.getElem?_toArray, List.getElem?_cons_succ, List.getElem?_cons_zero]; try rfl)
      · rfl
      · (intro w hSw; (try dsimp only at hSw); go_simp; first | done | with_reducible rfl)
      (try simp only [Act.put, List.setIfInBounds_toArray, List.set_cons_zero, List.set_cons_succ])
      refine' gateT 7 ?_ ?_ ?_ (by kernel_rfl) (by kernel_rfl) (by kernel_rfl) (by kernel_rfl) (by kernel_rfl) (by kernel_rfl) (fun _ _ _ h => h) hHeld ?_
      rotate_left 2
      · (simp only [List.getElem?_toArray, List.getElem?_cons_succ, List.getElem?_cons_zero]; try rfl)
      · rfl
      · (intro w hSw; (try dsimp only at hSw); go_simp; first | done | with_reducible rfl)
      (try simp only [Act.put, List.setIfInBounds_toArray, List.set_cons_zero, List.set_cons_succ])
      refine' gateS 8 ?_ ?_ ?_ (by kernel_rfl) (by kernel_rfl) (by kernel_rfl) (by kernel_rfl) (fun _ _ _ h => h) hHeld.1 (Or.inr hHeld.2) ?_
      rotate_left 2
      · (simp only [List.getElem?_toArray, List.getElem?_cons_succ, List.getElem?_cons_zero]; try rfl)
      · rfl
      · (intro w hSw; (try dsimp only at hSw); go_simp; first | done | with_reducible rfl)
      (try simp only [Act.put, List.setIfInBounds_toArray, List.set_cons_zero, List.set_cons_succ])
      refine' gateS 9 ?_ ?_ ?_ (by kernel_rfl) (by kernel_rfl) (by kernel_rfl) (by kernel_rfl) (fun _ _ _ h => h) hHeld.1 (Or.inr hHeld.2) ?_
      rotate_left 2
      · (simp only [List.getElem?_toArray, List.getElem?_cons_succ, List.getElem?_cons_zero]; try rfl)
      · rfl
      · (intro w hSw; (try dsimp only at hSw); go_simp; first | done | with_reducible rfl)
      (try simp only [Act.put, List.setIfInBounds_toArray, List.set_cons_zero, List.set_cons_succ])
      refine wpAnyG_ready (rl := [4, 10]) (by kernel_rfl) (by simp) ?_
      refine AllReadyG.consT (o := ?o1_8_4) ?h1_8_4 (fun K hK => ?s1_8_4) (AllReadyG.consT (o := ?o1_8_10) ?h1_8_10 (fun K hK => ?s1_8_10) AllReadyG.nil)
      case h1_8_4 => (simp only [List.getElem?_toArray, List.getElem?_cons_succ, List.getElem?_cons_zero]; try rfl)
      case h1_8_10 => (simp only [List.getElem?_toArray, List.getElem?_cons_succ, List.getElem?_cons_zero]; try rfl)
      case s1_8_4 =>
        (try go_simp)
        have hq4 := hT.hz
        replace hT := hT.lay [.int .i64 x.obv] 3
        refine hK.out _ _ ⟨SOK (x0 := .int .i64 x.id) hT (by (try simp only [World.size_alloc]); repeat first | with_reducible exact List.mem_cons_self | refine List.mem_cons_of_mem _ ?_ | refine mem_strike ?_ (by omega)), TOK (x2 := .slice (some ⟨b, off, none⟩) n c) hT (by (try simp only [World.size_alloc]); repeat first | with_reducible exact List.mem_cons_self | refine List.mem_cons_of_mem _ ?_ | refine mem_strike ?_ (by omega))⟩ (fun hHeld => ?_)
        clear hK K
        (try simp only [Act.put, List.setIfInBounds_toArray, List.set_cons_zero, List.set_cons_succ])
        refine wpAnyG_ready (rl := [5, 10]) (by kernel_rfl) (by simp) ?_
        refine AllReadyG.consT (o := ?o1_9_5) ?h1_9_5 (fun K hK => ?s1_9_5) (AllReadyG.consT (o := ?o1_9_10) ?h1_9_10 (fun K hK => ?s1_9_10) AllReadyG.nil)
        case h1_9_5 => (simp only [List.getElem?_toArray, List.getElem?_cons_succ, List.getElem?_cons_zero]; try rfl)
        case h1_9_10 => (simp only [List.getElem?_toArray, List.getElem?_cons_succ, List.getElem?_cons_zero]; try rfl)
        case s1_9_5 =>
          refine step_append_lies _ rfl (.tmp 15) (.tmp 18) 36 rfl (w.heap.size + 2) 3 i0 (.int .i64 0) 1 8 Tryz.underlying36 hi hz0 hz1 hz2 rfl (by decide) _ _ _ rfl hT.o1 _ 1 1 [.int .i64 x.obv] rfl rfl (hT.news (by (try simp only [World.size_alloc]); repeat first | with_reducible exact List.mem_cons_self | refine List.mem_cons_of_mem _ ?_ | refine mem_strike ?_ (by omega))) (by simp [Value.oneCell']) (by decide) (by unfold maxLen; omega) (by omega) hT.hz _ rfl ?_
          intro g1 cap1 w6 hown1 hgrow1 hat1 _
          replace hT := hT.app1 hown1 hgrow1 hat1
          clear hown1 hgrow1 hat1
          refine hK.out _ _ ⟨SOK (x0 := .int .i64 x.id) hT (by (try simp only [World.size_alloc]); repeat first | with_reducible exact List.mem_cons_self | refine List.mem_cons_of_mem _ ?_ | refine mem_strike ?_ (by omega)), TOK (x2 := .slice (some ⟨b, off, none⟩) n c) hT (by (try simp only [World.size_alloc]); repeat first | with_reducible exact List.mem_cons_self | refine List.mem_cons_of_mem _ ?_ | refine mem_strike ?_ (by omega))⟩ (fun hHeld => ?_)
          clear hK K
          (try simp only [Act.put, List.setIfInBounds_toArray, List.set_cons_zero, List.set_cons_succ])
          refine' gateT 12 ?_ ?_ ?_ (by kernel_rfl) (by kernel_rfl) (by kernel_rfl) (by kernel_rfl) (by kernel_rfl) (by kernel_rfl) (fun _ _ _ h => h) hHeld ?_
          rotate_left 2
          · (simp only [List.getElem?_toArray, List.getElem?_cons_succ, List.getElem?_cons_zero]; try rfl)
          · rfl
          · (intro w hSw; (try dsimp only at hSw); go_simp; first | done | with_reducible rfl)
          (try simp only [Act.put, List.setIfInBounds_toArray, List.set_cons_zero, List.set_cons_succ])
          refine wpAnyG_ready (rl := [10]) (by kernel_rfl) (by simp) ?_
          refine AllReadyG.consT (o := ?o1_11_10) ?h1_11_10 (fun K hK => ?s1_11_10) AllReadyG.nil
          case h1_11_10 => (simp only [List.getElem?_toArray, List.getElem?_cons_succ, List.getElem?_cons_zero]; try rfl)
          case s1_11_10 =>
            (try go_simp)
            have hq10 := hT.hz
            replace hT := hT.lay [.int .i64 x.rev] 3
            refine hK.out _ _ ⟨SOK (x0 := .int .i64 x.id) hT (by (try simp only [World.size_alloc]); repeat first | with_reducible exact List.mem_cons_self | refine List.mem_cons_of_mem _ ?_ | refine mem_strike ?_ (by omega)), TOK (x2 := .slice (some ⟨b, off, none⟩) n c) hT (by (try simp only [World.size_alloc]); repeat first | with_reducible exact List.mem_cons_self | refine List.mem_cons_of_mem _ ?_ | refine mem_strike ?_ (by omega))⟩ (fun hHeld => ?_)
            clear hK K
            (try simp only [Act.put, List.setIfInBounds_toArray, List.set_cons_zero, List.set_cons_succ])
            refine wpAnyG_ready (rl := [11]) (by kernel_rfl) (by simp) ?_
            refine AllReadyG.consT (o := ?o1_12_11) ?h1_12_11 (fun K hK => ?s1_12_11) AllReadyG.nil
            case h1_12_11 => (simp only [List.getElem?_toArray, List.getElem?_cons_succ, List.getElem?_cons_zero]; try rfl)
            case s1_12_11 =>
              refine step_append_lies _ rfl (.tmp 21) (.tmp 24) 36 rfl (w.heap.size + 2) 3 i0 (.int .i64 0) 1 8 Tryz.underlying36 hi hz0 hz1 hz2 rfl (by decide) _ _ _ rfl hT.o2 _ 1 1 [.int .i64 x.rev] rfl rfl (hT.news (by (try simp only [World.size_alloc]); repeat first | with_reducible exact List.mem_cons_self | refine List.mem_cons_of_mem _ ?_ | refine mem_strike ?_ (by omega))) (by simp [Value.oneCell']) (by decide) (by unfold maxLen; omega) (by omega) hT.hz _ rfl ?_
              intro g2 cap2 w7 hown2 hgrow2 hat2 _
              replace hT := hT.app2 hown2 hgrow2 hat2
              clear hown2 hgrow2 hat2
              refine hK.out _ _ ⟨SOK (x0 := .int .i64 x.id) hT (by (try simp only [World.size_alloc]); repeat first | with_reducible exact List.mem_cons_self | refine List.mem_cons_of_mem _ ?_ | refine mem_strike ?_ (by omega)), TOK (x2 := .slice (some ⟨b, off, none⟩) n c) hT (by (try simp only [World.size_alloc]); repeat first | with_reducible exact List.mem_cons_self | refine List.mem_cons_of_mem _ ?_ | refine mem_strike ?_ (by omega))⟩ (fun hHeld => ?_)
              clear hK K
              (try simp only [Act.put, List.setIfInBounds_toArray, List.set_cons_zero, List.set_cons_succ])
              refine wpAnyG_ready (rl := [13]) (by kernel_rfl) (by simp) ?_
              refine AllReadyG.consS (o := ?o1_13_13) ?h1_13_13 (by kernel_rfl) (fun K hK => ?s1_13_13) AllReadyG.nil
              case h1_13_13 => (simp only [List.getElem?_toArray, List.getElem?_cons_succ, List.getElem?_cons_zero]; try rfl)
              case s1_13_13 =>
                have hR := (hT.box (w.heap.size + 1, [.slice A1 os.length c1, .slice A2 rs.length c2, .slice (some ⟨b, off, none⟩) n c]) (by (try simp only [World.size_alloc]); repeat first | with_reducible exact List.mem_cons_self | refine List.mem_cons_of_mem _ ?_ | refine mem_strike ?_ (by omega))).1
                have r0 := hR.cell 0 _ rfl
                have f0 := hR.frz 0
                have rl := hR.lt
                (try go_simp)
                replace hT := hT.put1 (u1 := .slice A1 os.length c1) (u2 := .slice A2 rs.length c2) (u3 := .slice (some ⟨b, off, none⟩) n c) (Z := [.slice none 0 0, .slice none 0 0, .slice none 0 0]) (by (try simp only [World.size_alloc]); repeat first | with_reducible exact List.mem_cons_self | refine List.mem_cons_of_mem _ ?_ | refine mem_strike ?_ (by omega)) (by (try simp only [World.size_alloc]); repeat first | with_reducible exact List.mem_cons_self | refine List.mem_cons_of_mem _ ?_ | refine mem_strike ?_ (by omega))
                refine hK.out _ _ (SOK (x0 := .int .i64 x.id) hT (by (try simp only [World.size_alloc]); repeat first | with_reducible exact List.mem_cons_self | refine List.mem_cons_of_mem _ ?_ | refine mem_strike ?_ (by omega))) (fun hHeld => ?_)
                clear hK K hR r0 f0 rl
                (try simp only [Act.put, List.setIfInBounds_toArray, List.set_cons_zero, List.set_cons_succ])
                refine' gateS 14 ?_ ?_ ?_ (by kernel_rfl) (by kernel_rfl) (by kernel_rfl) (by kernel_rfl) (fun _ _ _ h => h) hHeld (Or.inl (by kernel_rfl)) ?_
                rotate_left 2
                · (simp only [List.getElem?_toArray, List.getElem?_cons_succ, List.getElem?_cons_zero]; try rfl)
                · rfl
                · (intro w hSw; (try dsimp only at hSw); go_simp; first | done | with_reducible rfl)
                (try simp only [Act.put, List.setIfInBounds_toArray, List.set_cons_zero, List.set_cons_succ])
                refine wpAnyG_ready (rl := [15]) (by kernel_rfl) (by simp) ?_
                refine AllReadyG.consS (o := ?o1_15_15) ?h1_15_15 (by kernel_rfl) (fun K hK => ?s1_15_15) AllReadyG.nil
                case h1_15_15 => (simp only [List.getElem?_toArray, List.getElem?_cons_succ, List.getElem?_cons_zero]; try rfl)
                case s1_15_15 =>
                  have hR := (hT.box (w.heap.size + 1, [.slice (some ⟨g1, 0, none⟩) (os.length + 1) cap1, .slice A2 rs.length c2, .slice (some ⟨b, off, none⟩) n c]) (by (try simp only [World.size_alloc]); repeat first | with_reducible exact List.mem_cons_self | refine List.mem_cons_of_mem _ ?_ | refine mem_strike ?_ (by omega))).1
                  have r0 := hR.cell 1 _ rfl
                  have f0 := hR.frz 1
                  have rl := hR.lt
                  (try go_simp)
                  replace hT := hT.put2 (u1 := .slice (some ⟨g1, 0, none⟩) (os.length + 1) cap1) (u2 := .slice A2 rs.length c2) (u3 := .slice (some ⟨b, off, none⟩) n c) (Z := [.slice none 0 0, .slice none 0 0, .slice none 0 0]) (by (try simp only [World.size_alloc]); repeat first | with_reducible exact List.mem_cons_self | refine List.mem_cons_of_mem _ ?_ | refine mem_strike ?_ (by omega)) (by (try simp only [World.size_alloc]); repeat first | with_reducible exact List.mem_cons_self | refine List.mem_cons_of_mem _ ?_ | refine mem_strike ?_ (by omega))
                  refine hK.out _ _ (SOK (x0 := .int .i64 x.id) hT (by (try simp only [World.size_alloc]); repeat first | with_reducible exact List.mem_cons_self | refine List.mem_cons_of_mem _ ?_ | refine mem_strike ?_ (by omega))) (fun hHeld => ?_)
                  clear hK K hR r0 f0 rl
                  (try simp only [Act.put, List.setIfInBounds_toArray, List.set_cons_zero, List.set_cons_succ])
                  refine wpAnyG_done (by kernel_rfl) ?_ _
                  refine NoPanic.normal ?_
                  clear hHeld
                  go_wp2_with fail
                  exact ⟨⟨k + 1, os ++ [x.obv], rs ++ [x.rev], _, cap1, _, cap2, by omega, by go_num, by rw [List.length_append, HOL.out]; rfl, by rw [List.length_append, HRL.out]; rfl, by rw [takeSnocW HX.out, List.map_append, HOS.out]; rfl, by rw [takeSnocW HX.out, List.map_append, HRS.out]; rfl, by rw [show (os ++ [x.obv]).length = os.length + 1 from by simp, show (rs ++ [x.rev]).length = rs.length + 1 from by simp]; exact hT.pick (p := (w.heap.size + 1, [.slice (some ⟨g1, 0, none⟩) (os.length + 1) cap1, .slice (some ⟨g2, 0, none⟩) (rs.length + 1) cap2, .slice (some ⟨b, off, none⟩) n c])) (q := (w.heap.size, [.slice none 0 0, .slice none 0 0, .slice none 0 0])) (by (try simp only [World.size_alloc]); repeat first | with_reducible exact List.mem_cons_self | refine List.mem_cons_of_mem _ ?_ | refine mem_strike ?_ (by omega)) (by (try simp only [World.size_alloc]); repeat first | with_reducible exact List.mem_cons_self | refine List.mem_cons_of_mem _ ?_ | refine mem_strike ?_ (by omega))⟩, by simp [intOf]; omega⟩
        case s1_9_10 =>
          (try go_simp)
          have hq10 := hT.hz
          replace hT := hT.lay [.int .i64 x.rev] 3
          refine hK.out _ _ ⟨SOK (x0 := .int .i64 x.id) hT (by (try simp only [World.size_alloc]); repeat first | with_reducible exact List.mem_cons_self | refine List.mem_cons_of_mem _ ?_ | refine mem_strike ?_ (by omega)), TOK (x2 := .slice (some ⟨b, off, none⟩) n c) hT (by (try simp only [World.size_alloc]); repeat first | with_reducible exact List.mem_cons_self | refine List.mem_cons_of_mem _ ?_ | refine mem_strike ?_ (by omega))⟩ (fun hHeld => ?_)
          clear hK K
          (try simp only [Act.put, List.setIfInBounds_toArray, List.set_cons_zero, List.set_cons_succ])
          refine wpAnyG_ready (rl := [5]) (by kernel_rfl) (by simp) ?_
          refine AllReadyG.consT (o := ?o1_10_5) ?h1_10_5 (fun K hK => ?s1_10_5) AllReadyG.nil
          case h1_10_5 => (simp only [List.getElem?_toArray, List.getElem?_cons_succ, List.getElem?_cons_zero]; try rfl)
          case s1_10_5 =>
            refine step_append_lies _ rfl (.tmp 15) (.tmp 18) 36 rfl (w.heap.size + 2) 3 i0 (.int .i64 0) 1 8 Tryz.underlying36 hi hz0 hz1 hz2 rfl (by decide) _ _ _ rfl hT.o1 _ 1 1 [.int .i64 x.obv] rfl rfl (hT.news (by (try simp only [World.size_alloc]); repeat first | with_reducible exact List.mem_cons_self | refine List.mem_cons_of_mem _ ?_ | refine mem_strike ?_ (by omega))) (by simp [Value.oneCell']) (by decide) (by unfold maxLen; omega) (by omega) hT.hz _ rfl ?_
            intro g1 cap1 w6 hown1 hgrow1 hat1 _
            replace hT := hT.app1 hown1 hgrow1 hat1
            clear hown1 hgrow1 hat1
            refine hK.out _ _ ⟨SOK (x0 := .int .i64 x.id) hT (by (try simp only [World.size_alloc]); repeat first | with_reducible exact List.mem_cons_self | refine List.mem_cons_of_mem _ ?_ | refine mem_strike ?_ (by omega)), TOK (x2 := .slice (some ⟨b, off, none⟩) n c) hT (by (try simp only [World.size_alloc]); repeat first | with_reducible exact List.mem_cons_self | refine List.mem_cons_of_mem _ ?_ | refine mem_strike ?_ (by omega))⟩ (fun hHeld => ?_)
            clear hK K
            (try simp only [Act.put, List.setIfInBounds_toArray, List.set_cons_zero, List.set_cons_succ])
            refine' gateT 12 ?_ ?_ ?_ (by kernel_rfl) (by kernel_rfl) (by kernel_rfl) (by kernel_rfl) (by kernel_rfl) (by kernel_rfl) (fun _ _ _ h => h) hHeld ?_
            rotate_left 2
            · (simp only [List.getElem?_toArray, List.getElem?_cons_succ, List.getElem?_cons_zero]; try rfl)
            · rfl
            · (intro w hSw; (try dsimp only at hSw); go_simp; first | done | with_reducible rfl)
            (try simp only [Act.put, List.setIfInBounds_toArray, List.set_cons_zero, List.set_cons_succ])
            refine wpAnyG_ready (rl := [11]) (by kernel_rfl) (by simp) ?_
            refine AllReadyG.consT (o := ?o1_12_11) ?h1_12_11 (fun K hK => ?s1_12_11) AllReadyG.nil
            case h1_12_11 => (simp only [List.getElem?_toArray, List.getElem?_cons_succ, List.getElem?_cons_zero]; try rfl)
            case s1_12_11 =>
              refine step_append_lies _ rfl (.tmp 21) (.tmp 24) 36 rfl (w.heap.size + 2) 3 i0 (.int .i64 0) 1 8 Tryz.underlying36 hi hz0 hz1 hz2 rfl (by decide) _ _ _ rfl hT.o2 _ 1 1 [.int .i64 x.rev] rfl rfl (hT.news (by (try simp only [World.size_alloc]); repeat first | with_reducible exact List.mem_cons_self | refine List.mem_cons_of_mem _ ?_ | refine mem_strike ?_ (by omega))) (by simp [Value.oneCell']) (by decide) (by unfold maxLen; omega) (by omega) hT.hz _ rfl ?_
              intro g2 cap2 w7 hown2 hgrow2 hat2 _
              replace hT := hT.app2 hown2 hgrow2 hat2
              clear hown2 hgrow2 hat2
              refine hK.out _ _ ⟨SOK (x0 := .int .i64 x.id) hT (by (try simp only [World.size_alloc]); repeat first | with_reducible exact List.mem_cons_self | refine List.mem_cons_of_mem _ ?_ | refine mem_strike ?_ (by omega)), TOK (x2 := .slice (some ⟨b, off, none⟩) n c) hT (by (try simp only [World.size_alloc]); repeat first | with_reducible exact List.mem_cons_self | refine List.mem_cons_of_mem _ ?_ | refine mem_strike ?_ (by omega))⟩ (fun hHeld => ?_)
              clear hK K
              (try simp only [Act.put, List.setIfInBounds_toArray, List.set_cons_zero, List.set_cons_succ])
              refine wpAnyG_ready (rl := [13]) (by kernel_rfl) (by simp) ?_
              refine AllReadyG.consS (o := ?o1_13_13) ?h1_13_13 (by kernel_rfl) (fun K hK => ?s1_13_13) AllReadyG.nil
              case h1_13_13 => (simp only [List.getElem?_toArray, List.getElem?_cons_succ, List.getElem?_cons_zero]; try rfl)
              case s1_13_13 =>
                have hR := (hT.box (w.heap.size + 1, [.slice A1 os.length c1, .slice A2 rs.length c2, .slice (some ⟨b, off, none⟩) n c]) (by (try simp only [World.size_alloc]); repeat first | with_reducible exact List.mem_cons_self | refine List.mem_cons_of_mem _ ?_ | refine mem_strike ?_ (by omega))).1
                have r0 := hR.cell 0 _ rfl
                have f0 := hR.frz 0
                have rl := hR.lt
                (try go_simp)
                replace hT := hT.put1 (u1 := .slice A1 os.length c1) (u2 := .slice A2 rs.length c2) (u3 := .slice (some ⟨b, off, none⟩) n c) (Z := [.slice none 0 0, .slice none 0 0, .slice none 0 0]) (by (try simp only [World.size_alloc]); repeat first | with_reducible exact List.mem_cons_self | refine List.mem_cons_of_mem _ ?_ | refine mem_strike ?_ (by omega)) (by (try simp only [World.size_alloc]); repeat first | with_reducible exact List.mem_cons_self | refine List.mem_cons_of_mem _ ?_ | refine mem_strike ?_ (by omega))
                refine hK.out _ _ (SOK (x0 := .int .i64 x.id) hT (by (try simp only [World.size_alloc]); repeat first | with_reducible exact List.mem_cons_self | refine List.mem_cons_of_mem _ ?_ | refine mem_strike ?_ (by omega))) (fun hHeld => ?_)
                clear hK K hR r0 f0 rl
                (try simp only [Act.put, List.setIfInBounds_toArray, List.set_cons_zero, List.set_cons_succ])
                refine' gateS 14 ?_ ?_ ?_ (by kernel_rfl) (by kernel_rfl) (by kernel_rfl) (by kernel_rfl) (fun _ _ _ h => h) hHeld (Or.inl (by kernel_rfl)) ?_
                rotate_left 2
                · (simp only [List.getElem?_toArray, List.getElem?_cons_succ, List.getElem?_cons_zero]; try rfl)
                · rfl
                · (intro w hSw; (try dsimp only at hSw); go_simp; first | done | with_reducible rfl)
                (try simp only [Act.put, List.setIfInBounds_toArray, List.set_cons_zero, List.set_cons_succ])
                refine wpAnyG_ready (rl := [15]) (by kernel_rfl) (by simp) ?_
                refine AllReadyG.consS (o := ?o1_15_15) ?h1_15_15 (by kernel_rfl) (fun K hK => ?s1_15_15) AllReadyG.nil
                case h1_15_15 => (simp only [List.getElem?_toArray, List.getElem?_cons_succ, List.getElem?_cons_zero]; try rfl)
                case s1_15_15 =>
                  have hR := (hT.box (w.heap.size + 1, [.slice (some ⟨g1, 0, none⟩) (os.length + 1) cap1, .slice A2 rs.length c2, .slice (some ⟨b, off, none⟩) n c]) (by (try simp only [World.size_alloc]); repeat first | with_reducible exact List.mem_cons_self | refine List.mem_cons_of_mem _ ?_ | refine mem_strike ?_ (by omega))).1
                  have r0 := hR.cell 1 _ rfl
                  have f0 := hR.frz 1
                  have rl := hR.lt
                  (try go_simp)
                  replace hT := hT.put2 (u1 := .slice (some ⟨g1, 0, none⟩) (os.length + 1) cap1) (u2 := .slice A2 rs.length c2) (u3 := .slice (some ⟨b, off, none⟩) n c) (Z := [.slice none 0 0, .slice none 0 0, .slice none 0 0]) (by (try simp only [World.size_alloc]); repeat first | with_reducible exact List.mem_cons_self | refine List.mem_cons_of_mem _ ?_ | refine mem_strike ?_ (by omega)) (by (try simp only [World.size_alloc]); repeat first | with_reducible exact List.mem_cons_self | refine List.mem_cons_of_mem _ ?_ | refine mem_strike ?_ (by omega))
                  refine hK.out _ _ (SOK (x0 := .int .i64 x.id) hT (by (try simp only [World.size_alloc]); repeat first | with_reducible exact List.mem_cons_self | refine List.mem_cons_of_mem _ ?_ | refine mem_strike ?_ (by omega))) (fun hHeld => ?_)
                  clear hK K hR r0 f0 rl
                  (try simp only [Act.put, List.setIfInBounds_toArray, List.set_cons_zero, List.set_cons_succ])
                  refine wpAnyG_done (by kernel_rfl) ?_ _
                  refine NoPanic.normal ?_
                  clear hHeld
                  go_wp2_with fail
                  exact ⟨⟨k + 1, os ++ [x.obv], rs ++ [x.rev], _, cap1, _, cap2, by omega, by go_num, by rw [List.length_append, HOL.out]; rfl, by rw [List.length_append, HRL.out]; rfl, by rw [takeSnocW HX.out, List.map_append, HOS.out]; rfl, by rw [takeSnocW HX.out, List.map_append, HRS.out]; rfl, by rw [show (os ++ [x.obv]).length = os.length + 1 from by simp, show (rs ++ [x.rev]).length = rs.length + 1 from by simp]; exact hT.pick (p := (w.heap.size + 1, [.slice (some ⟨g1, 0, none⟩) (os.length + 1) cap1, .slice (some ⟨g2, 0, none⟩) (rs.length + 1) cap2, .slice (some ⟨b, off, none⟩) n c])) (q := (w.heap.size, [.slice none 0 0, .slice none 0 0, .slice none 0 0])) (by (try simp only [World.size_alloc]); repeat first | with_reducible exact List.mem_cons_self | refine List.mem_cons_of_mem _ ?_ | refine mem_strike ?_ (by omega)) (by (try simp only [World.size_alloc]); repeat first | with_reducible exact List.mem_cons_self | refine List.mem_cons_of_mem _ ?_ | refine mem_strike ?_ (by omega))⟩, by simp [intOf]; omega⟩
      case s1_8_10 =>
        (try go_simp)
        have hq10 := hT.hz
        replace hT := hT.lay [.int .i64 x.rev] 3
        refine hK.out _ _ ⟨SOK (x0 := .int .i64 x.id) hT (by (try simp only [World.size_alloc]); repeat first | with_reducible exact List.mem_cons_self | refine List.mem_cons_of_mem _ ?_ | refine mem_strike ?_ (by omega)), TOK (x2 := .slice (some ⟨b, off, none⟩) n c) hT (by (try simp only [World.size_alloc]); repeat first | with_reducible exact List.mem_cons_self | refine List.mem_cons_of_mem _ ?_ | refine mem_strike ?_ (by omega))⟩ (fun hHeld => ?_)
        clear hK K
        (try simp only [Act.put, List.setIfInBounds_toArray, List.set_cons_zero, List.set_cons_succ])
        refine wpAnyG_ready (rl := [4]) (by kernel_rfl) (by simp) ?_
        refine AllReadyG.consT (o := ?o1_9_4) ?h1_9_4 (fun K hK => ?s1_9_4) AllReadyG.nil
        case h1_9_4 => (simp only [List.getElem?_toArray, List.getElem?_cons_succ, List.getElem?_cons_zero]; try rfl)
        case s1_9_4 =>
          (try go_simp)
          have hq4 := hT.hz
          replace hT := hT.lay [.int .i64 x.obv] 3
          refine hK.out _ _ ⟨SOK (x0 := .int .i64 x.id) hT (by (try simp only [World.size_alloc]); repeat first | with_reducible exact List.mem_cons_self | refine List.mem_cons_of_mem _ ?_ | refine mem_strike ?_ (by omega)), TOK (x2 := .slice (some ⟨b, off, none⟩) n c) hT (by (try simp only [World.size_alloc]); repeat first | with_reducible exact List.mem_cons_self | refine List.mem_cons_of_mem _ ?_ | refine mem_strike ?_ (by omega))⟩ (fun hHeld => ?_)
          clear hK K
          (try simp only [Act.put, List.setIfInBounds_toArray, List.set_cons_zero, List.set_cons_succ])
          refine wpAnyG_ready (rl := [5]) (by kernel_rfl) (by simp) ?_
          refine AllReadyG.consT (o := ?o1_10_5) ?h1_10_5 (fun K hK => ?s1_10_5) AllReadyG.nil
          case h1_10_5 => (simp only [List.getElem?_toArray, List.getElem?_cons_succ, List.getElem?_cons_zero]; try rfl)
          case s1_10_5 =>
            refine step_append_lies _ rfl (.tmp 15) (.tmp 18) 36 rfl (w.heap.size + 2) 3 i0 (.int .i64 0) 1 8 Tryz.underlying36 hi hz0 hz1 hz2 rfl (by decide) _ _ _ rfl hT.o1 _ 1 1 [.int .i64 x.obv] rfl rfl (hT.news (by (try simp only [World.size_alloc]); repeat first | with_reducible exact List.mem_cons_self | refine List.mem_cons_of_mem _ ?_ | refine mem_strike ?_ (by omega))) (by simp [Value.oneCell']) (by decide) (by unfold maxLen; omega) (by omega) hT.hz _ rfl ?_
            intro g1 cap1 w6 hown1 hgrow1 hat1 _
            replace hT := hT.app1 hown1 hgrow1 hat1
            clear hown1 hgrow1 hat1
            refine hK.out _ _ ⟨SOK (x0 := .int .i64 x.id) hT (by (try simp only [World.size_alloc]); repeat first | with_reducible exact List.mem_cons_self | refine List.mem_cons_of_mem _ ?_ | refine mem_strike ?_ (by omega)), TOK (x2 := .slice (some ⟨b, off, none⟩) n c) hT (by (try simp only [World.size_alloc]); repeat first | with_reducible exact List.mem_cons_self | refine List.mem_cons_of_mem _ ?_ | refine mem_strike ?_ (by omega))⟩ (fun hHeld => ?_)
            clear hK K
            (try simp only [Act.put, List.setIfInBounds_toArray, List.set_cons_zero, List.set_cons_succ])
            refine' gateT 12 ?_ ?_ ?_ (by kernel_rfl) (by kernel_rfl) (by kernel_rfl) (by kernel_rfl) (by kernel_rfl) (by kernel_rfl) (fun _ _ _ h => h) hHeld ?_
            rotate_left 2
            · (simp only [List.getElem?_toArray, List.getElem?_cons_succ, List.getElem?_cons_zero]; try rfl)
            · rfl
            · (intro w hSw; (try dsimp only at hSw); go_simp; first | done | with_reducible rfl)
            (try simp only [Act.put, List.setIfInBounds_toArray, List.set_cons_zero, List.set_cons_succ])
            refine wpAnyG_ready (rl := [11]) (by kernel_rfl) (by simp) ?_
            refine AllReadyG.consT (o := ?o1_12_11) ?h1_12_11 (fun K hK => ?s1_12_11) AllReadyG.nil
            case h1_12_11 => (simp only [List.getElem?_toArray, List.getElem?_cons_succ, List.getElem?_cons_zero]; try rfl)
            case s1_12_11 =>
              refine step_append_lies _ rfl (.tmp 21) (.tmp 24) 36 rfl (w.heap.size + 2) 3 i0 (.int .i64 0) 1 8 Tryz.underlying36 hi hz0 hz1 hz2 rfl (by decide) _ _ _ rfl hT.o2 _ 1 1 [.int .i64 x.rev] rfl rfl (hT.news (by (try simp only [World.size_alloc]); repeat first | with_reducible exact List.mem_cons_self | refine List.mem_cons_of_mem _ ?_ | refine mem_strike ?_ (by omega))) (by simp [Value.oneCell']) (by decide) (by unfold maxLen; omega) (by omega) hT.hz _ rfl ?_
              intro g2 cap2 w7 hown2 hgrow2 hat2 _
              replace hT := hT.app2 hown2 hgrow2 hat2
              clear hown2 hgrow2 hat2
              refine hK.out _ _ ⟨SOK (x0 := .int .i64 x.id) hT (by (try simp only [World.size_alloc]); repeat first | with_reducible exact List.mem_cons_self | refine List.mem_cons_of_mem _ ?_ | refine mem_strike ?_ (by omega)), TOK (x2 := .slice (some ⟨b, off, none⟩) n c) hT (by (try simp only [World.size_alloc]); repeat first | with_reducible exact List.mem_cons_self | refine List.mem_cons_of_mem _ ?_ | refine mem_strike ?_ (by omega))⟩ (fun hHeld => ?_)
              clear hK K
              (try simp only [Act.put, List.setIfInBounds_toArray, List.set_cons_zero, List.set_cons_succ])
              refine wpAnyG_ready (rl := [13]) (by kernel_rfl) (by simp) ?_
              refine AllReadyG.consS (o := ?o1_13_13) ?h1_13_13 (by kernel_rfl) (fun K hK => ?s1_13_13) AllReadyG.nil
              case h1_13_13 => (simp only [List.getElem?_toArray, List.getElem?_cons_succ, List.getElem?_cons_zero]; try rfl)
              case s1_13_13 =>
                have hR := (hT.box (w.heap.size + 1, [.slice A1 os.length c1, .slice A2 rs.length c2, .slice (some ⟨b, off, none⟩) n c]) (by (try simp only [World.size_alloc]); repeat first | with_reducible exact List.mem_cons_self | refine List.mem_cons_of_mem _ ?_ | refine mem_strike ?_ (by omega))).1
                have r0 := hR.cell 0 _ rfl
                have f0 := hR.frz 0
                have rl := hR.lt
                (try go_simp)
                replace hT := hT.put1 (u1 := .slice A1 os.length c1) (u2 := .slice A2 rs.length c2) (u3 := .slice (some ⟨b, off, none⟩) n c) (Z := [.slice none 0 0, .slice none 0 0, .slice none 0 0]) (by (try simp only [World.size_alloc]); repeat first | with_reducible exact List.mem_cons_self | refine List.mem_cons_of_mem _ ?_ | refine mem_strike ?_ (by omega)) (by (try simp only [World.size_alloc]); repeat first | with_reducible exact List.mem_cons_self | refine List.mem_cons_of_mem _ ?_ | refine mem_strike ?_ (by omega))
                refine hK.out _ _ (SOK (x0 := .int .i64 x.id) hT (by (try simp only [World.size_alloc]); repeat first | with_reducible exact List.mem_cons_self | refine List.mem_cons_of_mem _ ?_ | refine mem_strike ?_ (by omega))) (fun hHeld => ?_)
                clear hK K hR r0 f0 rl
                (try simp only [Act.put, List.setIfInBounds_toArray, List.set_cons_zero, List.set_cons_succ])
                refine' gateS 14 ?_ ?_ ?_ (by kernel_rfl) (by kernel_rfl) (by kernel_rfl) (by kernel_rfl) (fun _ _ _ h => h) hHeld (Or.inl (by kernel_rfl)) ?_
                rotate_left 2
                · (simp only [List.getElem?_toArray, List.getElem?_cons_succ, List.getElem?_cons_zero]; try rfl)
                · rfl
                · (intro w hSw; (try dsimp only at hSw); go_simp; first | done | with_reducible rfl)
                (try simp only [Act.put, List.setIfInBounds_toArray, List.set_cons_zero, List.set_cons_succ])
                refine wpAnyG_ready (rl := [15]) (by kernel_rfl) (by simp) ?_
                refine AllReadyG.consS (o := ?o1_15_15) ?h1_15_15 (by kernel_rfl) (fun K hK => ?s1_15_15) AllReadyG.nil
                case h1_15_15 => (simp only [List.getElem?_toArray, List.getElem?_cons_succ, List.getElem?_cons_zero]; try rfl)
                case s1_15_15 =>
                  have hR := (hT.box (w.heap.size + 1, [.slice (some ⟨g1, 0, none⟩) (os.length + 1) cap1, .slice A2 rs.length c2, .slice (some ⟨b, off, none⟩) n c]) (by (try simp only [World.size_alloc]); repeat first | with_reducible exact List.mem_cons_self | refine List.mem_cons_of_mem _ ?_ | refine mem_strike ?_ (by omega))).1
                  have r0 := hR.cell 1 _ rfl
                  have f0 := hR.frz 1
                  have rl := hR.lt
                  (try go_simp)
                  replace hT := hT.put2 (u1 := .slice (some ⟨g1, 0, none⟩) (os.length + 1) cap1) (u2 := .slice A2 rs.length c2) (u3 := .slice (some ⟨b, off, none⟩) n c) (Z := [.slice none 0 0, .slice none 0 0, .slice none 0 0]) (by (try simp only [World.size_alloc]); repeat first | with_reducible exact List.mem_cons_self | refine List.mem_cons_of_mem _ ?_ | refine mem_strike ?_ (by omega)) (by (try simp only [World.size_alloc]); repeat first | with_reducible exact List.mem_cons_self | refine List.mem_cons_of_mem _ ?_ | refine mem_strike ?_ (by omega))
                  refine hK.out _ _ (SOK (x0 := .int .i64 x.id) hT (by (try simp only [World.size_alloc]); repeat first | with_reducible exact List.mem_cons_self | refine List.mem_cons_of_mem _ ?_ | refine mem_strike ?_ (by omega))) (fun hHeld => ?_)
                  clear hK K hR r0 f0 rl
                  (try simp only [Act.put, List.setIfInBounds_toArray, List.set_cons_zero, List.set_cons_succ])
                  refine wpAnyG_done (by kernel_rfl) ?_ _
                  refine NoPanic.normal ?_
                  clear hHeld
                  go_wp2_with fail
                  exact ⟨⟨k + 1, os ++ [x.obv], rs ++ [x.rev], _, cap1, _, cap2, by omega, by go_num, by rw [List.length_append, HOL.out]; rfl, by rw [List.length_append, HRL.out]; rfl, by rw [takeSnocW HX.out, List.map_append, HOS.out]; rfl, by rw [takeSnocW HX.out, List.map_append, HRS.out]; rfl, by rw [show (os ++ [x.obv]).length = os.length + 1 from by simp, show (rs ++ [x.rev]).length = rs.length + 1 from by simp]; exact hT.pick (p := (w.heap.size + 1, [.slice (some ⟨g1, 0, none⟩) (os.length + 1) cap1, .slice (some ⟨g2, 0, none⟩) (rs.length + 1) cap2, .slice (some ⟨b, off, none⟩) n c])) (q := (w.heap.size, [.slice none 0 0, .slice none 0 0, .slice none 0 0])) (by (try simp only [World.size_alloc]); repeat first | with_reducible exact List.mem_cons_self | refine List.mem_cons_of_mem _ ?_ | refine mem_strike ?_ (by omega)) (by (try simp only [World.size_alloc]); repeat first | with_reducible exact List.mem_cons_self | refine List.mem_cons_of_mem _ ?_ | refine mem_strike ?_ (by omega))⟩, by simp [intOf]; omega⟩
    · obtain rfl : k = n := by omega
      clear HS
      have hLk : xs.take k = xs := take_all HL.out
      rw [hLk] at HOS HRS
      clear hLk
      have hX3 := (hT.box (w.heap.size + 1, [.slice A1 os.length c1, .slice A2 rs.length c2, .slice A k c]) (by simp)).1
      have r0 := hX3.cell 0 _ rfl
      go_wp2_with fail
      refine (psort_any (w.heap.size + 2) _ os wr (by omega) hT.o1).mono ?_; rintro e w1 ⟨rfl, hgr, hown⟩
      replace hT := hT.srt1 hgr (sortI_len os) hown
      clear hgr hown hX3 r0
      have r1 := (hT.box (w.heap.size + 1, [.slice A1 os.length c1, .slice A2 rs.length c2, .slice A k c]) (by simp)).1.cell 1 _ rfl
      go_wp2_with fail
      refine (psort_any (w.heap.size + 2) _ rs w1 (by omega) hT.o2).mono ?_; rintro e w2 ⟨rfl, hgr, hown⟩
      replace hT := hT.srt2 hgr (sortI_len rs) hown
      clear hgr hown r1
      have HZ1 := Lib.hid (sortI_len os)
      have HZ2 := Lib.hid (sortI_len rs)
      have HU1 : Hid (compI (sortI os) = uniqI (xs.map Lnk.obv)) := by show _ = _; rw [uniq_sort, HOS.out]
      have HU2 : Hid (compI (sortI rs) = uniqI (xs.map Lnk.rev)) := by show _ = _; rw [uniq_sort, HRS.out]
      generalize sortI os = so at *
      generalize sortI rs = sr at *
      rw [← HZ1.out, ← HZ2.out] at hT
      have hsoM : so.length ≤ 64 := by have := HZ1.out; omega
      have hsrM : sr.length ≤ 64 := by have := HZ2.out; omega
      clear HOS HRS
      go_wp2_with fail
      refine wp_region_noPanic ?_
      refine wp_region_gate 7 (fun _ => True) (fun U => U.cell? ⟨w.heap.size + 1, 0, none⟩ = some (.slice A1 so.length c1) ∧ U.cell? ⟨w.heap.size + 1, 1, none⟩ = some (.slice A2 sr.length c2)) (by kernel_rfl) ⟨trivial, TOK (x2 := .slice A k c) (hT.up (Below.drew (Below.refl _ _))) (by simp)⟩ (fun hHeld => ?_)
      replace hT := hT.up (Below.drew (Below.refl _ _))
      generalize w2.drew = W2 at *
      refine' gateT 0 ?_ ?_ ?_ (by kernel_rfl) (by kernel_rfl) (by kernel_rfl) (by kernel_rfl) (by kernel_rfl) (by kernel_rfl) (fun _ _ _ h => h) hHeld ?_
      rotate_left 2
      · (simp only [List.getElem?_toArray, List.getElem?_cons_succ, List.getElem?_cons_zero]; try rfl)
      · rfl
      · (intro w hSw; (try dsimp only at hSw); go_simp; first | done | with_reducible rfl)
      (try simp only [Act.put, List.setIfInBounds_toArray, List.set_cons_zero, List.set_cons_succ])
      refine' gateT 1 ?_ ?_ ?_ (by kernel_rfl) (by kernel_rfl) (by kernel_rfl) (by kernel_rfl) (by kernel_rfl) (by kernel_rfl) (fun _ _ _ h => h) hHeld ?_
      rotate_left 2
      · (simp only [List.getElem?_toArray, List.getElem?_cons_succ, List.getElem?_cons_zero]; try rfl)
      · rfl
      · (intro w hSw; (try dsimp only at hSw); go_simp; first | done | with_reducible rfl)
      (try simp only [Act.put, List.setIfInBounds_toArray, List.set_cons_zero, List.set_cons_succ])
      refine' gateT 3 ?_ ?_ ?_ (by kernel_rfl) (by kernel_rfl) (by kernel_rfl) (by kernel_rfl) (by kernel_rfl) (by kernel_rfl) (fun _ _ _ h => h) hHeld ?_
      rotate_left 2
      · (simp only [List.getElem?_toArray, List.getElem?_cons_succ, List.getElem?_cons_zero]; try rfl)
      · rfl
      · (intro w hSw; (try dsimp only at hSw); go_simp; first | done | with_reducible rfl)
      (try simp only [Act.put, List.setIfInBounds_toArray, List.set_cons_zero, List.set_cons_succ])
      refine' gateT 4 ?_ ?_ ?_ (by kernel_rfl) (by kernel_rfl) (by kernel_rfl) (by kernel_rfl) (by kernel_rfl) (by kernel_rfl) (fun _ _ _ h => h) hHeld ?_
      rotate_left 2
      · (simp only [List.getElem?_toArray, List.getElem?_cons_succ, List.getElem?_cons_zero]; try rfl)
      · rfl
      · (intro w hSw; (try dsimp only at hSw); go_simp; first | done | with_reducible rfl)
      (try simp only [Act.put, List.setIfInBounds_toArray, List.set_cons_zero, List.set_cons_succ])
      refine wpAnyG_ready (rl := [2]) (by kernel_rfl) (by simp) ?_
      refine AllReadyG.consT (o := ?o2_4_2) ?h2_4_2 (fun K hK => ?s2_4_2) AllReadyG.nil
      case h2_4_2 => (simp only [List.getElem?_toArray, List.getElem?_cons_succ, List.getElem?_cons_zero]; try rfl)
      case s2_4_2 =>
        (try go_simp)
        go_at_call 93
        refine (pcomp_any (w.heap.size + 2) A1 c1 so _ (by omega) hT.o1).mono ?_
        rintro e w3 ⟨m1, rfl, hm1, hS1, hgr1⟩
        have hA1 := own_addr hT.o1
        replace hT := hT.cmp hS1 hgr1 hA1
        clear hS1 hgr1 hA1
        (try go_simp)
        refine hK.out _ _ ⟨trivial, (hT.box (w.heap.size + 1, [.slice A1 so.length c1, .slice A2 sr.length c2, .slice A k c]) (by simp)).1.cell 0 _ rfl, (hT.box (w.heap.size + 1, [.slice A1 so.length c1, .slice A2 sr.length c2, .slice A k c]) (by simp)).1.cell 1 _ rfl⟩ (fun hHeld => ?_)
        clear hK K
        (try simp only [Act.put, List.setIfInBounds_toArray, List.set_cons_zero, List.set_cons_succ])
        refine' gateT 6 ?_ ?_ ?_ (by kernel_rfl) (by kernel_rfl) (by kernel_rfl) (by kernel_rfl) (by kernel_rfl) (by kernel_rfl) (fun _ _ _ h => h) hHeld ?_
        rotate_left 2
        · (simp only [List.getElem?_toArray, List.getElem?_cons_succ, List.getElem?_cons_zero]; try rfl)
        · rfl
        · (intro w hSw; (try dsimp only at hSw); go_simp; first | done | with_reducible rfl)
        (try simp only [Act.put, List.setIfInBounds_toArray, List.set_cons_zero, List.set_cons_succ])
        refine wpAnyG_ready (rl := [5]) (by kernel_rfl) (by simp) ?_
        refine AllReadyG.consT (o := ?o2_6_5) ?h2_6_5 (fun K hK => ?s2_6_5) AllReadyG.nil
        case h2_6_5 => (simp only [List.getElem?_toArray, List.getElem?_cons_succ, List.getElem?_cons_zero]; try rfl)
        case s2_6_5 =>
          (try go_simp)
          go_at_call 93
          refine (pcomp_any (w.heap.size + 2) A2 c2 sr _ (by omega) hT.o2).mono ?_
          rintro e w4 ⟨m2, rfl, hm2, hS2, hgr2⟩
          replace hT := hT.cmp hS2 hgr2
          clear hS2 hgr2
          (try go_simp)
          refine hK.out _ _ ⟨trivial, (hT.box (w.heap.size + 1, [.slice A1 so.length c1, .slice A2 sr.length c2, .slice A k c]) (by simp)).cell 0 _ rfl, (hT.box (w.heap.size + 1, [.slice A1 so.length c1, .slice A2 sr.length c2, .slice A k c]) (by simp)).cell 1 _ rfl⟩ (fun hHeld => ?_)
          clear hK K
          (try simp only [Act.put, List.setIfInBounds_toArray, List.set_cons_zero, List.set_cons_succ])
          refine wpAnyG_ready (rl := [7]) (by kernel_rfl) (by simp) ?_
          refine AllReadyG.consS (o := ?o2_7_7) ?h2_7_7 (by kernel_rfl) (fun K hK => ?s2_7_7) AllReadyG.nil
          case h2_7_7 => (simp only [List.getElem?_toArray, List.getElem?_cons_succ, List.getElem?_cons_zero]; try rfl)
          case s2_7_7 =>
            have R3 := hT.box (w.heap.size + 1, [.slice A1 so.length c1, .slice A2 sr.length c2, .slice A k c]) (by simp)
            have R2 := hT.box (w.heap.size, [.slice none 0 0, .slice none 0 0, .slice none 0 0]) (by simp)
            have r0 := R3.cell 0 _ rfl
            have f0 := R3.frz 0
            have rl := R3.lt
            (try go_simp)
            replace R3 := R3.set (i := 0) (by simp) (.slice A1 m1 c1)
            replace R2 := R2.far (p := ⟨w.heap.size + 1, 0, none⟩) (by simp) (.slice A1 m1 c1)
            refine hK.out _ _ trivial (fun hHeld => ?_)
            clear hK K r0 f0 rl
            (try simp only [Act.put, List.setIfInBounds_toArray, List.set_cons_zero, List.set_cons_succ])
            refine' gateS 8 ?_ ?_ ?_ (by kernel_rfl) (by kernel_rfl) (by kernel_rfl) (by kernel_rfl) (fun _ _ _ h => h) hHeld (Or.inl (by kernel_rfl)) ?_
            rotate_left 2
            · (simp only [List.getElem?_toArray, List.getElem?_cons_succ, List.getElem?_cons_zero]; try rfl)
            · rfl
            · (intro w hSw; (try dsimp only at hSw); go_simp; first | done | with_reducible rfl)
            (try simp only [Act.put, List.setIfInBounds_toArray, List.set_cons_zero, List.set_cons_succ])
            refine wpAnyG_ready (rl := [9]) (by kernel_rfl) (by simp) ?_
            refine AllReadyG.consS (o := ?o2_9_9) ?h2_9_9 (by kernel_rfl) (fun K hK => ?s2_9_9) AllReadyG.nil
            case h2_9_9 => (simp only [List.getElem?_toArray, List.getElem?_cons_succ, List.getElem?_cons_zero]; try rfl)
            case s2_9_9 =>
              have r0 := R3.cell 1 _ rfl
              have f0 := R3.frz 1
              have rl := R3.lt
              (try go_simp)
              replace R3 := R3.set (i := 1) (by simp) (.slice A2 m2 c2)
              replace R2 := R2.far (p := ⟨w.heap.size + 1, 1, none⟩) (by simp) (.slice A2 m2 c2)
              refine hK.out _ _ trivial (fun hHeld => ?_)
              clear hK K r0 f0 rl
              (try simp only [Act.put, List.setIfInBounds_toArray, List.set_cons_zero, List.set_cons_succ])
              refine wpAnyG_done (by kernel_rfl) ?_ _
              refine NoPanic.normal ?_
              clear hHeld
              have a0 := R3.cell 0 _ rfl
              have a1 := R3.cell 1 _ rfl
              have a2 := R3.cell 2 _ rfl
              have z0 := R2.cell 0 _ rfl
              have z1 := R2.cell 1 _ rfl
              have z2 := R2.cell 2 _ rfl
              have y0 := R2.frz 0
              have y1 := R2.frz 1
              have y2 := R2.frz 2
              have rl := R2.lt
              go_wp2_with fail
              have R4 := R2.all3 (.slice A1 m1 c1) (.slice A2 m2 c2) (.slice A k c)
              refine bodyPost_ret (v := .agg #[.slice A1 m1 c1, .slice A2 m2 c2, .slice A k c]) (by simp [results, Tryz.results69, go_sem, R4.cell 0 _ rfl, R4.cell 1 _ rfl, R4.cell 2 _ rfl]) rfl ?_
              rw [← HU1.out, ← HU2.out]
              have hbb := hT.hb
              exact ⟨⟨_, _, _, _, _, ⟨_, rfl⟩, by omega, by omega, hT.gr⟩, by (repeat (first | exact Below.refl _ _ | assumption | refine Below.alloc ?_ (by first | omega | (simp only [World.size_alloc]; omega) | (simp; done) | (simp; omega)) _ | refine Below.setCell ?_ (by first | omega | (simp only [World.size_alloc]; omega) | (simp; done) | (simp; omega)) _ | refine Below.drew ?_ | refine below_drewN ?_ _))⟩
end Go.Proofs.YtdokpmfejibdlaaGreatDoor
