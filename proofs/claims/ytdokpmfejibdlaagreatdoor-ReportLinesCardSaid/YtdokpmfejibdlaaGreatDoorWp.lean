/- Chapter 54: maps with dies as keys; a link's ends, across. (Printed by hwt.py from Wp.txt.) -/
import Derived.Test.YtdokpmfejibdlaaGreatDoorWo
import Derived.Maps.OwnSet
import Derived.Maps.OwnOps
import Derived.DeepKeys4
import Derived.Maps.Range
set_option linter.unusedSimpArgs false
set_option linter.unusedVariables false
namespace Go.Proofs.YtdokpmfejibdlaaGreatDoor
open Go.RowKit Go.Maps

/-- How keys are read. -/
structure Kys (k : TypeId) (κ : Type) where
  kv : κ → Value
  kl : κ → Lit
  ok : κ → Prop
  keyed : Keyed Tryz.prog k
  key : ∀ i, ok i → keyOf Tryz.prog k (kv i) = some (kl i)
  inj : ∀ i j, ok i → ok j → kl i = kl j → i = j
  lit : ∀ i, ok i → WideAt.IsKeyLit (kl i)
/-- How values are read. -/
structure Vls (H : Type) (e : TypeId) (ν : Type) where
  R : Value → Option (DataW H × List MemPlace)
  d : ν → DataW H
  vv : ν → Value
  ok : ν → Prop
  zero : ν
  put : ∀ x, ok x → R (vv x) = some (d x, [])
  inv : ∀ v x ps, R v = some (d x, ps) → v = vv x
  okz : ok zero
  zrun : ∀ w, (zeroValue e).run Tryz.prog w = .ok (vv zero) w

section
variable {H : Type} {k e : TypeId} {κ ν : Type} (K : Kys k κ) (V : Vls H e ν)
def readAt (V : Vls H e ν) (D : DataW H) (l : Lit) : Option ν → Prop
  | none => has D l = false
  | some x => V.ok x ∧ has D l = true ∧ ∀ z, D.atKey l z = V.d x
/-- Block b is a map of n entries; at key i it holds f i. -/
def MapF (w : World) (b n : Nat) (f : κ → Option ν) : Prop :=
  ∃ D, w.ownsMap Tryz.prog k V.R b n D ∧ size D = n ∧ ∀ i, K.ok i → readAt V D (K.kl i) (f i)
theorem MapF.made (w : World) : MapF K V (w.alloc (.map #[] 0)) w.heap.size 0 (fun _ => none) := ⟨.map [], World.ownsMap_made _ _ _ _, rfl, fun i _ => rfl⟩
variable {K V}
theorem MapF.kept {w w' : World} {b n : Nat} {f : κ → Option ν} {row : Option Nat} (h : MapF K V w b n f) (hg : w.grownBy w' row) (hne : some b ≠ row) : MapF K V w' b n f := by
  obtain ⟨D, h1, h2⟩ := h
  exact ⟨D, h1.kept hg hne, h2⟩
theorem MapF.lt {w : World} {b n : Nat} {f : κ → Option ν} (h : MapF K V w b n f) : b < w.heap.size := by obtain ⟨D, h1, _⟩ := h; exact h1.lt
theorem MapF.up {w w' : World} {b n : Nat} {f : κ → Option ν} (h : MapF K V w b n f) (hb : Below w.heap.size w w') : MapF K V w' b n f := h.kept (grown_of_below hb) (by simp)
theorem readAt.get {D : DataW H} {l : Lit} {o : Option ν} (h : readAt V D l o) : has D l = o.isSome ∧ D.atKey l (V.d V.zero) = V.d (o.getD V.zero) := by
  cases o with
  | none => exact ⟨h, atKey_of_not_has h _⟩
  | some x => exact ⟨h.2.1, h.2.2 _⟩
theorem MapF.look {t : TypeId} (ht : Tryz.prog.underlying t = some (.map k e)) {w : World} {b n : Nat} {f : κ → Option ν} (h : MapF K V w b n f) {i : κ} (hi : K.ok i) : (Instr.lookup t (.map (some b)) (K.kv i) false).run Tryz.prog w = .ok (V.vv ((f i).getD V.zero)) w := by
  obtain ⟨D, h1, h2, h3⟩ := h
  obtain ⟨v, ps, hrun, hv⟩ := h1.lookup K.keyed ht (V.zrun w) (V.put _ V.okz) (K.key i hi)
  rw [(h3 i hi).get.2] at hv
  rw [hrun, V.inv _ _ _ hv]
theorem MapF.lookOk {t : TypeId} (ht : Tryz.prog.underlying t = some (.map k e)) {w : World} {b n : Nat} {f : κ → Option ν} (h : MapF K V w b n f) {i : κ} (hi : K.ok i) : (Instr.lookup t (.map (some b)) (K.kv i) true).run Tryz.prog w = .ok (.tuple #[V.vv ((f i).getD V.zero), .bool (f i).isSome]) w := by
  obtain ⟨D, h1, h2, h3⟩ := h
  obtain ⟨v, ps, hrun, hv⟩ := h1.look_ok K.keyed ht (V.zrun w) (V.put _ V.okz) (K.key i hi)
  rw [(h3 i hi).get.2] at hv
  rw [hrun, V.inv _ _ _ hv, (h3 i hi).get.1]
theorem MapF.lenRun {t : TypeId} (ht : Tryz.prog.underlying t = some (.map k e)) {w : World} {b n : Nat} {f : κ → Option ν} (h : MapF K V w b n f) (ty : TypeId) : (Builtin.len_ #[t] ty #[.map (some b)]).run Tryz.prog w = .ok (.int .i64 n) w := by
  obtain ⟨D, h1, h2, h3⟩ := h
  rw [h1.len ht ty, h2]
theorem own_le {w : World} {b n : Nat} {D : DataW H} (h : w.ownsMap Tryz.prog k V.R b n D) : w.ownsMap Tryz.prog k V.R b (size D) D := by
  obtain ⟨es, clock, hb, F, hs, rfl⟩ := h
  refine ⟨es, clock, hb, F, ?_, rfl⟩
  simp [size, length_sorted]
theorem wpList_mapF [DecidableEq κ] {t : TypeId} (ht : Tryz.prog.underlying t = some (.map k e)) {w : World} {ops : Array Oper} {rest : List Oper} {o : Oper} {a : Act} {Q : Exit → Act → World → Prop}
    (hg : o.guard = none) (m x v : Operand) (hop : o.op = Op.mapUpdate t m x v ∨ o.op = Op.insert t m x v) (b n : Nat) (f : κ → Option ν) (hm : a.eval m = .map (some b)) (h : MapF K V w b n f) (hn : n < maxLen) (i : κ) (hi : K.ok i) (y : ν) (hy : V.ok y)
    (hx : a.eval x = K.kv i) (hv : a.eval v = V.vv y)
    (hK : ∀ w', MapF K V w' b (if (f i).isSome then n else n + 1) (fun j => if j = i then some y else f j) → w.grownBy w' (some b) → wpList Tryz.prog ops Q rest (a.put o.dst undef) w') :
    wpList Tryz.prog ops Q (o :: rest) a w := by
  obtain ⟨D, h1, h2, h3⟩ := h
  refine wpList_plain hg fun K' hK' => ?_
  obtain ⟨w', hrun, h4, hgr⟩ := h1.update K.keyed ht hn (K.key i hi) (V.put y hy)
  have hKK : wpList Tryz.prog ops Q rest (a.put o.dst undef) w' → Oper.wp Tryz.prog o a w K' Q := fun h => by
    unfold Oper.wp
    rcases hop with hop | hop <;> simp [execOp, hop, hm, hx, hv, hrun, Result.andThen] <;> exact hK' _ _ h
  refine hKK ?_
  have hs : size (D.put (K.kl i) (V.d y)) = if (f i).isSome then n else n + 1 := by rw [size_put (h1.tidy K.keyed), h2, (h3 i hi).get.1]
  refine hK w' ⟨_, ?_, hs, fun j hj => ?_⟩ hgr
  · have := own_le h4
    rwa [hs] at this
  · show readAt V _ (K.kl j) (if j = i then some y else f j)
    by_cases ej : j = i
    · subst ej
      rw [if_pos rfl]
      exact ⟨hy, has_put_same h1.isMap (K.lit j hj) _, fun z => atKey_put_same h1.isMap (K.lit j hj) _ z⟩
    · rw [if_neg ej]
      have hne : K.kl j ≠ K.kl i := fun e' => ej (K.inj j i hj hi e')
      have := h3 j hj
      cases hf : f j with
      | none => rw [hf] at this; exact (has_put_other hne _).trans this
      | some x => rw [hf] at this; exact ⟨this.1, (has_put_other hne _).trans this.2.1, fun z => (atKey_put_other hne _ z).trans (this.2.2 z)⟩
end
/-- Number keys. -/
noncomputable def KI : Kys 3 Int where
  kv i := .int .i64 i
  kl i := .int .i64 i
  ok := in64
  keyed := int_keyed Tryz.underlying3
  key i hi := keyOf_int_mk Tryz.underlying3 (wf64 hi)
  inj i j _ _ e := by injection e
  lit i _ := by trivial
theorem zeroI (w : World) : (zeroValue 3).run Tryz.prog w = .ok (.int .i64 0) w := by kernel_rfl
theorem plainI_gen {P : Program} {t : TypeId} (he : P.underlying t = some (.int .i64)) {v : Value} {b : Int} {ps : List MemPlace} (h : plainElem (H := Unit) P t v = some (.lit (.int .i64 b), ps)) : v = .int .i64 b := by
  obtain ⟨a, rfl, hz, _⟩ := plainElem_int_inv he h
  injection hz with h1 h2
  injection h1 with h1
  injection h1 with _ h1
  rw [h1]
/-- Numbers. -/
noncomputable def VI : Vls Unit 3 Int where
  R := plainElem Tryz.prog 3
  d x := .lit (.int .i64 x)
  vv x := .int .i64 x
  ok := in64
  zero := 0
  put x hx := plainElem_int Tryz.underlying3 (wf64 hx)
  inv v x ps h := plainI_gen Tryz.underlying3 h
  okz := by unfold in64; omega
  zrun w := zeroI w
theorem eqDieW (x y : DieP) (w : World) : (binOp .eql 72 (.agg #[.int .i64 x.side, .int .i64 x.num]) (.agg #[.int .i64 y.side, .int .i64 y.num])).run Tryz.prog w = .ok (.bool (decide (x = y))) w := by
  have u3 := Tryz.underlying3
  have hS : Tryz.prog.underlying 72 = some (.struct (Tryz.prog.fieldsOf 72)) := by kernel_rfl
  have hp : Tryz.prog.stoodInHeld 72 = false := by kernel_rfl
  have e : decide (x = y) = (x.side == y.side && x.num == y.num) := by
    obtain ⟨a, b⟩ := x
    obtain ⟨c, d⟩ := y
    by_cases h1 : a = c <;> by_cases h2 : b = d <;> simp [h1, h2]
  rw [e, run_eql_struct, show (10000 : Nat) = 9999 + 1 from rfl, run_equalIn_agg w 9999 72 _ _ hS hp]
  simp only [Program.fieldsOf, Tryz.underlying72]
  go_simp
  by_cases h1 : x.side = y.side <;> by_cases h2 : x.num = y.num <;> simp [h1, h2]
theorem eqDiT {x y : DieP} (h : x = y) (w : World) : (binOp .eql 72 (.agg #[.int .i64 x.side, .int .i64 x.num]) (.agg #[.int .i64 y.side, .int .i64 y.num])).run Tryz.prog w = .ok (.bool true) w := by rw [eqDieW]; simp [h]
theorem eqDiF {x y : DieP} (h : x ≠ y) (w : World) : (binOp .eql 72 (.agg #[.int .i64 x.side, .int .i64 x.num]) (.agg #[.int .i64 y.side, .int .i64 y.num])).run Tryz.prog w = .ok (.bool false) w := by rw [eqDieW]; simp [h]
theorem laidOut54 : laidOutB Tryz.prog = true := by kernel_rfl
theorem rowDie : (72 : TypeId) < Tryz.prog.types.size := of_decide_eq_true (by kernel_rfl)
theorem deepDie : Tryz.prog.keyType 72 = true := by kernel_rfl
theorem cellsDie : Tryz.prog.cellsOf 72 = 2 := by kernel_rfl
theorem cellsInt : Tryz.prog.cellsOf 3 = 1 := by kernel_rfl
theorem pos_succ {n k : Nat} (h : k < n) : ∃ m, n = m + 1 := ⟨n - 1, by omega⟩
theorem deepDie2 : Tryz.prog.keyTypeAt 2 72 = true := by kernel_rfl
theorem keyedDie : Keyed Tryz.prog 72 := Keyed.of_law (deep_law_laid laidOut54 (m := 2) (by omega) rowDie deepDie2 (by rw [Tryz.underlying72]))
def in64D (s : DieP) : Prop := in64 s.side ∧ in64 s.num
theorem types_pos : ∃ m, Tryz.prog.types.size = m + 1 := pos_succ rowDie
theorem keyDie {s : DieP} (h : in64D s) : keyOf Tryz.prog 72 (.agg #[.int .i64 s.side, .int .i64 s.num]) = some (.string (keyBytes [.int .i64 s.side, .int .i64 s.num])) := by
  obtain ⟨h1, h2⟩ := h
  obtain ⟨m, hm⟩ := types_pos
  have u3 := Tryz.underlying3
  have u1 := Tryz.underlying72
  have e1 : (Value.agg #[.int .i64 s.side, .int .i64 s.num]).formed Tryz.prog 72 = true := by
    simp [Value.formed, u1, cellsDie]
  unfold keyOf
  simp only [u1]
  rw [e1, deepDie, hm]
  simp [Program.keyLits, u1, u3, cellsDie, cellsInt, Value.cells, wf64 h1, wf64 h2]
/-- Die keys. -/
noncomputable def KD : Kys 72 DieP where
  kv s := .agg #[.int .i64 s.side, .int .i64 s.num]
  kl s := .string (keyBytes [.int .i64 s.side, .int .i64 s.num])
  ok := in64D
  keyed := keyedDie
  key i hi := keyDie hi
  inj i j hi hj e := by
    have h1 := keyDie hi
    have h2 := keyDie hj
    rw [e] at h1
    have h3 := keyedDie.inj h1 h2
    obtain ⟨a, b⟩ := i
    obtain ⟨d, e⟩ := j
    simp only [Value.agg.injEq, Array.mk.injEq, List.cons.injEq, Value.int.injEq, true_and, and_true] at h3
    obtain ⟨rfl, rfl⟩ := h3
    rfl
  lit i _ := by trivial
/-- A box of two cells written. -/
theorem Bx.both {w : World} {b : Nat} {a0 a1 : Value} (h : Bx w b [a0, a1]) (u0 u1 : Value) : Bx ((w.setCell ⟨b, 0, none⟩ u0).setCell ⟨b, 1, none⟩ u1) b [u0, u1] := (h.set (i := 0) (by simp) u0).set (i := 1) (by simp) u1
theorem Bx.far2 {w : World} {b b' : Nat} {vs : List Value} (h : Bx w b vs) (hne : b' ≠ b) (u0 u1 : Value) : Bx ((w.setCell ⟨b', 0, none⟩ u0).setCell ⟨b', 1, none⟩ u1) b vs := (h.far (p := ⟨b', 0, none⟩) hne u0).far (p := ⟨b', 1, none⟩) hne u1
set_option maxHeartbeats 2000000 in
theorem ends_any (x : Lnk) (w : World) : Calls Tryz.prog 203 #[.agg #[.int .i64 x.id, .int .i64 x.obv, .int .i64 x.rev]] w fun e w' => e = .returned (.tuple #[.agg #[.int .i64 0, .int .i64 x.obv], .agg #[.int .i64 1, .int .i64 x.rev]]) ∧ Below w.heap.size w w' := by
  go_enter Tryz.func203, Tryz.ntmps203
  go_wp2_with fail
  have hb : Below w.heap.size w (((w.alloc (.cells #[.int .i64 x.id, .int .i64 x.obv, .int .i64 x.rev] 96)).alloc (.cells #[.int .i64 0, .int .i64 0] 72)).alloc (.cells #[.int .i64 0, .int .i64 0] 72)) := by (repeat (first | exact Below.refl _ _ | assumption | refine Below.alloc ?_ (by first | omega | (simp only [World.size_alloc]; omega) | (simp; done) | (simp; omega)) _ | refine Below.setCell ?_ (by first | omega | (simp only [World.size_alloc]; omega) | (simp; done) | (simp; omega)) _ | refine Below.drew ?_ | refine below_drewN ?_ _))
  obtain ⟨_, _, B1, B2, B3⟩ := step3 (vs := [.int .i64 x.id, .int .i64 x.obv, .int .i64 x.rev]) (us := [.int .i64 0, .int .i64 0]) (xs := [.int .i64 0, .int .i64 0]) (t := 96) (t' := 72) (t'' := 72) (Below.refl _ w) (Below.refl _ _)
  generalize ((w.alloc (.cells #[.int .i64 x.id, .int .i64 x.obv, .int .i64 x.rev] 96)).alloc (.cells #[.int .i64 0, .int .i64 0] 72)).alloc (.cells #[.int .i64 0, .int .i64 0] 72) = W1 at *
  replace B1 := B1.up (Below.drew (Below.refl _ _))
  replace B2 := B2.up (Below.drew (Below.refl _ _))
  replace B3 := B3.up (Below.drew (Below.refl _ _))
  replace hb := below_keep' hb (Below.drew (Below.refl _ _))
  refine wp_region_noPanic ?_
  refine wp_region_held_drew (S := fun U => U.cell? ⟨w.heap.size, 0, none⟩ = some (.int .i64 x.id) ∧ U.cell? ⟨w.heap.size, 1, none⟩ = some (.int .i64 x.obv) ∧ U.cell? ⟨w.heap.size, 2, none⟩ = some (.int .i64 x.rev)) (by kernel_rfl) (bx3 B1) (fun hHeld => ?_)
  generalize W1.drew = W2 at *
  refine' takeW 0 ?_ ?_ ?_ (by kernel_rfl) (by kernel_rfl) (by kernel_rfl) (fun _ _ _ h => h) hHeld ?_
  rotate_left 2
  · (simp only [List.getElem?_toArray, List.getElem?_cons_succ, List.getElem?_cons_zero]; try rfl)
  · rfl
  · (intro w hSw; (try dsimp only at hSw); go_simp; first | done | with_reducible rfl)
  (try simp only [Act.put, List.setIfInBounds_toArray, List.set_cons_zero, List.set_cons_succ])
  refine' takeW 1 ?_ ?_ ?_ (by kernel_rfl) (by kernel_rfl) (by kernel_rfl) (fun _ _ _ h => h) hHeld ?_
  rotate_left 2
  · (simp only [List.getElem?_toArray, List.getElem?_cons_succ, List.getElem?_cons_zero]; try rfl)
  · rfl
  · (intro w hSw; (try dsimp only at hSw); go_simp; first | done | with_reducible rfl)
  (try simp only [Act.put, List.setIfInBounds_toArray, List.set_cons_zero, List.set_cons_succ])
  refine' takeW 2 ?_ ?_ ?_ (by kernel_rfl) (by kernel_rfl) (by kernel_rfl) (fun _ _ _ h => h) hHeld ?_
  rotate_left 2
  · (simp only [List.getElem?_toArray, List.getElem?_cons_succ, List.getElem?_cons_zero]; try rfl)
  · rfl
  · (intro w hSw; (try dsimp only at hSw); go_simp; first | done | with_reducible rfl)
  (try simp only [Act.put, List.setIfInBounds_toArray, List.set_cons_zero, List.set_cons_succ])
  refine' takeW 3 ?_ ?_ ?_ (by kernel_rfl) (by kernel_rfl) (by kernel_rfl) (fun _ _ _ h => h) hHeld ?_
  rotate_left 2
  · (simp only [List.getElem?_toArray, List.getElem?_cons_succ, List.getElem?_cons_zero]; try rfl)
  · rfl
  · (intro w hSw; (try dsimp only at hSw); go_simp; first | done | with_reducible rfl)
  (try simp only [Act.put, List.setIfInBounds_toArray, List.set_cons_zero, List.set_cons_succ])
  refine' takeW 4 ?_ ?_ ?_ (by kernel_rfl) (by kernel_rfl) (by kernel_rfl) (fun _ _ _ h => h) hHeld ?_
  rotate_left 2
  · (simp only [List.getElem?_toArray, List.getElem?_cons_succ, List.getElem?_cons_zero]; try rfl)
  · rfl
  · (intro w hSw; (try dsimp only at hSw); go_simp; first | done | with_reducible rfl)
  (try simp only [Act.put, List.setIfInBounds_toArray, List.set_cons_zero, List.set_cons_succ])
  refine' takeW 5 ?_ ?_ ?_ (by kernel_rfl) (by kernel_rfl) (by kernel_rfl) (fun _ _ _ h => h) hHeld ?_
  rotate_left 2
  · (simp only [List.getElem?_toArray, List.getElem?_cons_succ, List.getElem?_cons_zero]; try rfl)
  · rfl
  · (intro w hSw; (try dsimp only at hSw); go_simp; first | done | with_reducible rfl)
  (try simp only [Act.put, List.setIfInBounds_toArray, List.set_cons_zero, List.set_cons_succ])
  refine wpAnyH_ready (rs := [6]) (by kernel_rfl) (by simp) ?_
  refine' AllReadyH.cons ?_ (fun K hK => ?_) AllReadyH.nil
  rotate_left 1
  · (simp only [List.getElem?_toArray, List.getElem?_cons_succ, List.getElem?_cons_zero]; try rfl)
  have r0 := B2.cell 0 _ rfl
  have r1 := B2.cell 1 _ rfl
  have f0 := B2.frz 0
  have f1 := B2.frz 1
  have rl := B2.lt
  (try go_simp)
  replace B1 := B1.far2 (b' := w.heap.size + 1) (by omega) (.int .i64 0) (.int .i64 x.obv)
  replace B3 := B3.far2 (b' := w.heap.size + 1) (by omega) (.int .i64 0) (.int .i64 x.obv)
  replace B2 := B2.both (.int .i64 0) (.int .i64 x.obv)
  replace hb := (hb.setCell (p := ⟨w.heap.size + 1, 0, none⟩) (by simp) (.int .i64 0)).setCell (p := ⟨w.heap.size + 1, 1, none⟩) (by simp) (.int .i64 x.obv)
  refine hK.out _ _ (bx3 B1) (fun hHeld => ?_)
  clear hK K r0 r1 f0 f1 rl
  (try simp only [Act.put, List.setIfInBounds_toArray, List.set_cons_zero, List.set_cons_succ])
  refine wpAnyH_ready (rs := [7]) (by kernel_rfl) (by simp) ?_
  refine' AllReadyH.cons ?_ (fun K hK => ?_) AllReadyH.nil
  rotate_left 1
  · (simp only [List.getElem?_toArray, List.getElem?_cons_succ, List.getElem?_cons_zero]; try rfl)
  have r0 := B3.cell 0 _ rfl
  have r1 := B3.cell 1 _ rfl
  have f0 := B3.frz 0
  have f1 := B3.frz 1
  have rl := B3.lt
  (try go_simp)
  replace B1 := B1.far2 (b' := w.heap.size + 1 + 1) (by omega) (.int .i64 1) (.int .i64 x.rev)
  replace B2 := B2.far2 (b' := w.heap.size + 1 + 1) (by omega) (.int .i64 1) (.int .i64 x.rev)
  replace B3 := B3.both (.int .i64 1) (.int .i64 x.rev)
  replace hb := (hb.setCell (p := ⟨w.heap.size + 1 + 1, 0, none⟩) (by show _ ≤ w.heap.size + 1 + 1; omega) (.int .i64 1)).setCell (p := ⟨w.heap.size + 1 + 1, 1, none⟩) (by show _ ≤ w.heap.size + 1 + 1; omega) (.int .i64 x.rev)
  refine hK.out _ _ (bx3 B1) (fun hHeld => ?_)
  clear hK K r0 r1 f0 f1 rl
  (try simp only [Act.put, List.setIfInBounds_toArray, List.set_cons_zero, List.set_cons_succ])
  refine wpAnyH_done (by kernel_rfl) ?_ _
  refine NoPanic.normal ?_
  clear hHeld
  go_wp2_with fail
  refine bodyPost_ret (v := .tuple #[.agg #[.int .i64 0, .int .i64 x.obv], .agg #[.int .i64 1, .int .i64 x.rev]]) (by simp [results, Tryz.results203, go_sem, B2.cell 0 _ rfl, B2.cell 1 _ rfl, B3.cell 0 _ rfl, B3.cell 1 _ rfl]) rfl ?_
  exact ⟨rfl, hb⟩
set_option maxHeartbeats 2000000 in
theorem rends_any (x : Lnk) (w : World) : Calls Tryz.prog 172 #[.agg #[.int .i64 x.id, .int .i64 x.obv, .int .i64 x.rev]] w fun e w' => e = .returned (.tuple #[.agg #[.int .i64 0, .int .i64 x.obv], .agg #[.int .i64 1, .int .i64 x.rev]]) ∧ Below w.heap.size w w' := by
  go_enter Tryz.func172, Tryz.ntmps172
  go_wp2_with fail
  have hb : Below w.heap.size w (((w.alloc (.cells #[.int .i64 x.id, .int .i64 x.obv, .int .i64 x.rev] 96)).alloc (.cells #[.int .i64 0, .int .i64 0] 72)).alloc (.cells #[.int .i64 0, .int .i64 0] 72)) := by (repeat (first | exact Below.refl _ _ | assumption | refine Below.alloc ?_ (by first | omega | (simp only [World.size_alloc]; omega) | (simp; done) | (simp; omega)) _ | refine Below.setCell ?_ (by first | omega | (simp only [World.size_alloc]; omega) | (simp; done) | (simp; omega)) _ | refine Below.drew ?_ | refine below_drewN ?_ _))
  obtain ⟨_, _, B1, B2, B3⟩ := step3 (vs := [.int .i64 x.id, .int .i64 x.obv, .int .i64 x.rev]) (us := [.int .i64 0, .int .i64 0]) (xs := [.int .i64 0, .int .i64 0]) (t := 96) (t' := 72) (t'' := 72) (Below.refl _ w) (Below.refl _ _)
  generalize ((w.alloc (.cells #[.int .i64 x.id, .int .i64 x.obv, .int .i64 x.rev] 96)).alloc (.cells #[.int .i64 0, .int .i64 0] 72)).alloc (.cells #[.int .i64 0, .int .i64 0] 72) = W1 at *
  replace B1 := B1.up (Below.drew (Below.refl _ _))
  replace B2 := B2.up (Below.drew (Below.refl _ _))
  replace B3 := B3.up (Below.drew (Below.refl _ _))
  replace hb := below_keep' hb (Below.drew (Below.refl _ _))
  refine wp_region_noPanic ?_
  refine wp_region_held_drew (S := fun U => U.cell? ⟨w.heap.size, 0, none⟩ = some (.int .i64 x.id) ∧ U.cell? ⟨w.heap.size, 1, none⟩ = some (.int .i64 x.obv) ∧ U.cell? ⟨w.heap.size, 2, none⟩ = some (.int .i64 x.rev)) (by kernel_rfl) (bx3 B1) (fun hHeld => ?_)
  generalize W1.drew = W2 at *
  refine' takeW 0 ?_ ?_ ?_ (by kernel_rfl) (by kernel_rfl) (by kernel_rfl) (fun _ _ _ h => h) hHeld ?_
  rotate_left 2
  · (simp only [List.getElem?_toArray, List.getElem?_cons_succ, List.getElem?_cons_zero]; try rfl)
  · rfl
  · (intro w hSw; (try dsimp only at hSw); go_simp; first | done | with_reducible rfl)
  (try simp only [Act.put, List.setIfInBounds_toArray, List.set_cons_zero, List.set_cons_succ])
  refine' takeW 1 ?_ ?_ ?_ (by kernel_rfl) (by kernel_rfl) (by kernel_rfl) (fun _ _ _ h => h) hHeld ?_
  rotate_left 2
  · (simp only [List.getElem?_toArray, List.getElem?_cons_succ, List.getElem?_cons_zero]; try rfl)
  · rfl
  · (intro w hSw; (try dsimp only at hSw); go_simp; first | done | with_reducible rfl)
  (try simp only [Act.put, List.setIfInBounds_toArray, List.set_cons_zero, List.set_cons_succ])
  refine' takeW 2 ?_ ?_ ?_ (by kernel_rfl) (by kernel_rfl) (by kernel_rfl) (fun _ _ _ h => h) hHeld ?_
  rotate_left 2
  · (simp only [List.getElem?_toArray, List.getElem?_cons_succ, List.getElem?_cons_zero]; try rfl)
  · rfl
  · (intro w hSw; (try dsimp only at hSw); go_simp; first | done | with_reducible rfl)
  (try simp only [Act.put, List.setIfInBounds_toArray, List.set_cons_zero, List.set_cons_succ])
  refine' takeW 3 ?_ ?_ ?_ (by kernel_rfl) (by kernel_rfl) (by kernel_rfl) (fun _ _ _ h => h) hHeld ?_
  rotate_left 2
  · (simp only [List.getElem?_toArray, List.getElem?_cons_succ, List.getElem?_cons_zero]; try rfl)
  · rfl
  · (intro w hSw; (try dsimp only at hSw); go_simp; first | done | with_reducible rfl)
  (try simp only [Act.put, List.setIfInBounds_toArray, List.set_cons_zero, List.set_cons_succ])
  refine' takeW 4 ?_ ?_ ?_ (by kernel_rfl) (by kernel_rfl) (by kernel_rfl) (fun _ _ _ h => h) hHeld ?_
  rotate_left 2
  · (simp only [List.getElem?_toArray, List.getElem?_cons_succ, List.getElem?_cons_zero]; try rfl)
  · rfl
  · (intro w hSw; (try dsimp only at hSw); go_simp; first | done | with_reducible rfl)
  (try simp only [Act.put, List.setIfInBounds_toArray, List.set_cons_zero, List.set_cons_succ])
  refine' takeW 5 ?_ ?_ ?_ (by kernel_rfl) (by kernel_rfl) (by kernel_rfl) (fun _ _ _ h => h) hHeld ?_
  rotate_left 2
  · (simp only [List.getElem?_toArray, List.getElem?_cons_succ, List.getElem?_cons_zero]; try rfl)
  · rfl
  · (intro w hSw; (try dsimp only at hSw); go_simp; first | done | with_reducible rfl)
  (try simp only [Act.put, List.setIfInBounds_toArray, List.set_cons_zero, List.set_cons_succ])
  refine wpAnyH_ready (rs := [6]) (by kernel_rfl) (by simp) ?_
  refine' AllReadyH.cons ?_ (fun K hK => ?_) AllReadyH.nil
  rotate_left 1
  · (simp only [List.getElem?_toArray, List.getElem?_cons_succ, List.getElem?_cons_zero]; try rfl)
  have r0 := B2.cell 0 _ rfl
  have r1 := B2.cell 1 _ rfl
  have f0 := B2.frz 0
  have f1 := B2.frz 1
  have rl := B2.lt
  (try go_simp)
  replace B1 := B1.far2 (b' := w.heap.size + 1) (by omega) (.int .i64 0) (.int .i64 x.obv)
  replace B3 := B3.far2 (b' := w.heap.size + 1) (by omega) (.int .i64 0) (.int .i64 x.obv)
  replace B2 := B2.both (.int .i64 0) (.int .i64 x.obv)
  replace hb := (hb.setCell (p := ⟨w.heap.size + 1, 0, none⟩) (by simp) (.int .i64 0)).setCell (p := ⟨w.heap.size + 1, 1, none⟩) (by simp) (.int .i64 x.obv)
  refine hK.out _ _ (bx3 B1) (fun hHeld => ?_)
  clear hK K r0 r1 f0 f1 rl
  (try simp only [Act.put, List.setIfInBounds_toArray, List.set_cons_zero, List.set_cons_succ])
  refine wpAnyH_ready (rs := [7]) (by kernel_rfl) (by simp) ?_
  refine' AllReadyH.cons ?_ (fun K hK => ?_) AllReadyH.nil
  rotate_left 1
  · (simp only [List.getElem?_toArray, List.getElem?_cons_succ, List.getElem?_cons_zero]; try rfl)
  have r0 := B3.cell 0 _ rfl
  have r1 := B3.cell 1 _ rfl
  have f0 := B3.frz 0
  have f1 := B3.frz 1
  have rl := B3.lt
  (try go_simp)
  replace B1 := B1.far2 (b' := w.heap.size + 1 + 1) (by omega) (.int .i64 1) (.int .i64 x.rev)
  replace B2 := B2.far2 (b' := w.heap.size + 1 + 1) (by omega) (.int .i64 1) (.int .i64 x.rev)
  replace B3 := B3.both (.int .i64 1) (.int .i64 x.rev)
  replace hb := (hb.setCell (p := ⟨w.heap.size + 1 + 1, 0, none⟩) (by show _ ≤ w.heap.size + 1 + 1; omega) (.int .i64 1)).setCell (p := ⟨w.heap.size + 1 + 1, 1, none⟩) (by show _ ≤ w.heap.size + 1 + 1; omega) (.int .i64 x.rev)
  refine hK.out _ _ (bx3 B1) (fun hHeld => ?_)
  clear hK K r0 r1 f0 f1 rl
  (try simp only [Act.put, List.setIfInBounds_toArray, List.set_cons_zero, List.set_cons_succ])
  refine wpAnyH_done (by kernel_rfl) ?_ _
  refine NoPanic.normal ?_
  clear hHeld
  go_wp2_with fail
  refine bodyPost_ret (v := .tuple #[.agg #[.int .i64 0, .int .i64 x.obv], .agg #[.int .i64 1, .int .i64 x.rev]]) (by simp [results, Tryz.results172, go_sem, B2.cell 0 _ rfl, B2.cell 1 _ rfl, B3.cell 0 _ rfl, B3.cell 1 _ rfl]) rfl ?_
  exact ⟨rfl, hb⟩
def acrossP (x : Lnk) (d : DieP) : DieP := (acrossD x d).getD ⟨0, 0⟩
set_option maxHeartbeats 2000000 in
theorem across_any (x : Lnk) (d : DieP) (w : World) : Calls Tryz.prog 166 #[.agg #[.int .i64 x.id, .int .i64 x.obv, .int .i64 x.rev], .agg #[.int .i64 d.side, .int .i64 d.num]] w fun e w' => e = .returned (.tuple #[.agg #[.int .i64 (acrossP x d).side, .int .i64 (acrossP x d).num], .bool (acrossD x d).isSome]) ∧ Below w.heap.size w w' := by
  have HE : Hid (∀ W, Calls Tryz.prog 203 #[.agg #[.int .i64 x.id, .int .i64 x.obv, .int .i64 x.rev]] W fun e w' => e = .returned (.tuple #[.agg #[.int .i64 0, .int .i64 x.obv], .agg #[.int .i64 1, .int .i64 x.rev]]) ∧ Below W.heap.size W w') := fun W => ends_any x W
  go_enter Tryz.func166, Tryz.ntmps166
  go_wp2_with fail
  refine (HE.out _).mono ?_; rintro e w1 ⟨rfl, hb1⟩
  obtain ⟨_, hb, B1, B2, B3⟩ := step3 (vs := [.int .i64 x.id, .int .i64 x.obv, .int .i64 x.rev]) (us := [.int .i64 d.side, .int .i64 d.num]) (xs := [.int .i64 0, .int .i64 0]) (Below.refl _ w) hb1
  clear hb1 B1
  have p0 := B2.cell 0 _ rfl
  have p1 := B2.cell 1 _ rfl
  have pl := B2.lt
  have r0 := B3.cell 0 _ rfl
  have r1 := B3.cell 1 _ rfl
  have f0 := B3.frz 0
  have f1 := B3.frz 1
  have rl := B3.lt
  have p9 : w.heap.size < w1.heap.size := by omega
  by_cases h1 : d = obvD x
  · have HA : Hid (acrossD x d = some (revD x)) := across_iff.2 (.inl ⟨h1, rfl⟩)
    have heq := fun W => eqDiT h1 W
    clear h1
    have heq' : ∀ W, (binOp .eql 72 (.agg #[.int .i64 d.side, .int .i64 d.num]) (.agg #[.int .i64 0, .int .i64 x.obv])).run Tryz.prog W = .ok (.bool true) W := heq
    clear heq
    go_wp2_with fail
    have R4 := ((B3.both (.int .i64 1) (.int .i64 x.rev)).alloc (.cells #[.int .i64 0, .int .i64 x.obv] 72)).alloc (.cells #[.int .i64 1, .int .i64 x.rev] 72)
    refine bodyPost_ret (v := .tuple #[.agg #[.int .i64 1, .int .i64 x.rev], .bool true]) (by simp [results, Tryz.results166, go_sem, R4.cell 0 _ rfl, R4.cell 1 _ rfl]) rfl ?_
    unfold acrossP
    rw [HA.out]
    exact ⟨rfl, by (repeat (first | exact Below.refl _ _ | assumption | refine Below.alloc ?_ (by first | omega | (simp only [World.size_alloc]; omega) | (simp; done) | (simp; omega)) _ | refine Below.setCell ?_ (by first | omega | (simp only [World.size_alloc]; omega) | (simp; done) | (simp; omega)) _ | refine Below.drew ?_ | refine below_drewN ?_ _))⟩
  · by_cases h2 : d = revD x
    · have HA : Hid (acrossD x d = some (obvD x)) := across_iff.2 (.inr ⟨h2, rfl⟩)
      have heq : ∀ W, (binOp .eql 72 (.agg #[.int .i64 d.side, .int .i64 d.num]) (.agg #[.int .i64 0, .int .i64 x.obv])).run Tryz.prog W = .ok (.bool false) W := fun W => eqDiF h1 W
      have heq' : ∀ W, (binOp .eql 72 (.agg #[.int .i64 d.side, .int .i64 d.num]) (.agg #[.int .i64 1, .int .i64 x.rev])).run Tryz.prog W = .ok (.bool true) W := fun W => eqDiT h2 W
      clear h1 h2
      go_wp2_with fail
      have R4 := ((B3.both (.int .i64 0) (.int .i64 x.obv)).alloc (.cells #[.int .i64 0, .int .i64 x.obv] 72)).alloc (.cells #[.int .i64 1, .int .i64 x.rev] 72)
      refine bodyPost_ret (v := .tuple #[.agg #[.int .i64 0, .int .i64 x.obv], .bool true]) (by simp [results, Tryz.results166, go_sem, R4.cell 0 _ rfl, R4.cell 1 _ rfl]) rfl ?_
      unfold acrossP
      rw [HA.out]
      exact ⟨rfl, by (repeat (first | exact Below.refl _ _ | assumption | refine Below.alloc ?_ (by first | omega | (simp only [World.size_alloc]; omega) | (simp; done) | (simp; omega)) _ | refine Below.setCell ?_ (by first | omega | (simp only [World.size_alloc]; omega) | (simp; done) | (simp; omega)) _ | refine Below.drew ?_ | refine below_drewN ?_ _))⟩
    · have HA : Hid (acrossD x d = none) := by show _ = _; unfold acrossD; rw [if_neg h1, if_neg h2]
      have heq : ∀ W, (binOp .eql 72 (.agg #[.int .i64 d.side, .int .i64 d.num]) (.agg #[.int .i64 0, .int .i64 x.obv])).run Tryz.prog W = .ok (.bool false) W := fun W => eqDiF h1 W
      have heq' : ∀ W, (binOp .eql 72 (.agg #[.int .i64 d.side, .int .i64 d.num]) (.agg #[.int .i64 1, .int .i64 x.rev])).run Tryz.prog W = .ok (.bool false) W := fun W => eqDiF h2 W
      clear h1 h2
      go_wp2_with fail
      have R4 := ((B3.both (.int .i64 0) (.int .i64 0)).alloc (.cells #[.int .i64 0, .int .i64 x.obv] 72)).alloc (.cells #[.int .i64 1, .int .i64 x.rev] 72)
      refine bodyPost_ret (v := .tuple #[.agg #[.int .i64 0, .int .i64 0], .bool false]) (by simp [results, Tryz.results166, go_sem, R4.cell 0 _ rfl, R4.cell 1 _ rfl]) rfl ?_
      unfold acrossP
      rw [HA.out]
      exact ⟨rfl, by (repeat (first | exact Below.refl _ _ | assumption | refine Below.alloc ?_ (by first | omega | (simp only [World.size_alloc]; omega) | (simp; done) | (simp; omega)) _ | refine Below.setCell ?_ (by first | omega | (simp only [World.size_alloc]; omega) | (simp; done) | (simp; omega)) _ | refine Below.drew ?_ | refine below_drewN ?_ _))⟩
end Go.Proofs.YtdokpmfejibdlaaGreatDoor
