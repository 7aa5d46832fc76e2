/- Chapter 54: slices.Compact at ints, walked. (Printed by mkwg.py.) -/
import Derived.Test.YtdokpmfejibdlaaGreatDoorWf
set_option linter.unusedSimpArgs false
set_option linter.unusedVariables false
namespace Go.Proofs.YtdokpmfejibdlaaGreatDoor
open Go.RowKit

def SlI0 (w : World) (A : Option Addr) (n : Nat) (xs : List Int) : Prop := Sl w 0 w.heap.size 1 encI A n xs
/-- Block g holds the numbers xs, none of it frozen. -/
structure RowI (w : World) (g : Nat) (xs : List Int) : Prop where
  b : Bx w g (xs.map (Value.int .i64))
theorem RowI.lt {w : World} {g : Nat} {xs : List Int} (h : RowI w g xs) : g < w.heap.size := h.b.lt
theorem RowI.frz {w : World} {g : Nat} {xs : List Int} (h : RowI w g xs) (j : Nat) : w.frozen? ⟨g, j, none⟩ = false := h.b.frz j
theorem RowI.atI {w : World} {g : Nat} {xs : List Int} (h : RowI w g xs) {i : Nat} {x : Int} (hx : xs[i]? = some x) : w.cell? ⟨g, i, none⟩ = some (.int .i64 x) := h.b.cell i _ (by rw [List.getElem?_map, hx]; rfl)
theorem RowI.up {w w' : World} {g : Nat} {xs : List Int} (h : RowI w g xs) (hb : Below w.heap.size w w') : RowI w' g xs := ⟨h.b.up hb⟩
theorem RowI.put {w : World} {g : Nat} {xs : List Int} (h : RowI w g xs) {i : Nat} (hi : i < xs.length) (x : Int) : RowI (w.setCell ⟨g, i, none⟩ (.int .i64 x)) g (xs.set i x) := by
  refine ⟨?_⟩
  rw [List.map_set]
  exact h.b.set (by rw [List.length_map]; exact hi) _
theorem RowI.of_own {w : World} {base g n cap : Nat} {e : TypeId} {xs : List Int} (h : w.ownsRow base e 1 (.slice (some ⟨g, 0, none⟩) n cap) n (xs.flatMap encI)) (hn : xs.length = n) : RowI w g xs := by
  have e1 : xs.flatMap encI = xs.map (Value.int .i64) := flat_one (Value.int .i64) xs
  rw [e1] at h
  refine ⟨(h.lt g rfl).2, fun j u hu => ?_, fun j => h.frozenAt j⟩
  have hj := (List.getElem?_eq_some_iff.1 hu).1
  rw [List.length_map] at hj
  rw [h.cellAt j (by omega)]
  exact hu
theorem RowI.sl {w : World} {g : Nat} {xs : List Int} (h : RowI w g xs) {k : Nat} (hk : k ≤ xs.length) : SlI0 w (some ⟨g, 0, none⟩) k (xs.take k) := by
  refine ⟨by simp; omega, fun _ => ⟨g, 0, rfl, Nat.zero_le _, h.lt, fun i x hx j u hu => ?_⟩⟩
  have hj : j = 0 := by have := (List.getElem?_eq_some_iff.1 hu).1; simp [encI] at this; exact this
  subst hj
  have hu' : u = .int .i64 x := by simpa [encI] using hu.symm
  subst hu'
  rw [Nat.zero_add, Nat.mul_one, Nat.add_zero]
  refine h.atI ?_
  rw [List.getElem?_take] at hx
  split at hx
  · exact hx
  · cases hx
theorem setCell_grown {w : World} {g o : Nat} {v : Value} : w.grownBy (w.setCell ⟨g, o, none⟩ v) (some g) :=
  ⟨rfl, rfl, rfl, by simp [World.setCell], fun k _ hne => heap_setCell_other w ⟨g, o, none⟩ k v (fun e => hne (by simp [e]))⟩
theorem setCells_grownW : ∀ {vs : List Value} {w : World} {g o : Nat}, w.grownBy (w.setCells g o vs) (some g)
  | [], w, g, o => World.grownBy.refl w _
  | v :: vs, w, g, o => setCell_grown.trans (setCells_grownW (vs := vs) (w := w.setCell ⟨g, o, none⟩ v) (g := g) (o := o + 1))
theorem zeroInt (w : World) : (zeroValue 3).run Tryz.prog w = .ok (.int .i64 0) w := by kernel_rfl
theorem run_clear1 (w : World) (b o n c : Nat) (hn : 0 < n) (hc : ∀ j, j < n → (w.cell? ⟨b, o + j, none⟩).isSome = true) (hf : ∀ j, w.frozen? ⟨b, j, none⟩ = false) :
    ∃ zl : List Value, ∀ ty, (Builtin.clear_ #[36] ty #[.slice (some ⟨b, o, none⟩) n c]).run Tryz.prog w = .ok (.tuple #[]) (w.setCells b o zl) := by
  refine ⟨(Builtin.zeroCells #[.int .i64 0] n).toList, fun ty => ?_⟩
  have hz : ∀ v ∈ (Builtin.zeroCells #[Value.int .i64 0] n).toList, v = Value.int .i64 0 := by
    intro v hv
    simp only [Builtin.zeroCells, Array.toList_map, List.mem_map] at hv
    obtain ⟨i, _, rfl⟩ := hv
    have h3 : i % 1 = 0 := Nat.mod_one _
    show #[Value.int .i64 0][i % 1]! = _
    rw [h3]; rfl
  have hlen : (Builtin.zeroCells #[Value.int .i64 0] n).toList.length = n := by simp [Builtin.zeroCells]
  have hst := run_storeCells_cells (P := Tryz.prog) b o (Builtin.zeroCells #[Value.int .i64 0] n).toList 0 w (by rw [hlen]; simpa using hc) (by intro j _; exact hf _) (by intro v hv; rw [hz v hv]; rfl)
  simp only [Nat.add_zero] at hst
  obtain ⟨m, rfl⟩ : ∃ m, n = m + 1 := ⟨n - 1, by omega⟩
  simp [Builtin.clear_, run_underlying Tryz.underlying36, zeroInt, hst, Value.cells]
theorem RowI.cut {w : World} {g q : Nat} {ys : List Int} (h : RowI w g ys) (hq : q ≤ ys.length) (zl : List Value) : SlI0 (w.setCells g q zl) (some ⟨g, 0, none⟩) q (ys.take q) := by
  have hgr := setCells_grownW (w := w) (g := g) (o := q) (vs := zl)
  refine ⟨by simp; omega, fun _ => ⟨g, 0, rfl, Nat.zero_le _, Nat.lt_of_lt_of_le h.lt hgr.size, fun i x hx j u hu => ?_⟩⟩
  have hj : j = 0 := by have := (List.getElem?_eq_some_iff.1 hu).1; simp [encI] at this; exact this
  subst hj
  have hu' : u = .int .i64 x := by simpa [encI] using hu.symm
  subst hu'
  rw [Nat.zero_add, Nat.mul_one, Nat.add_zero]
  rw [List.getElem?_take] at hx
  split at hx
  · rename_i hi
    rw [World.cell?_setCells_out g zl q w ⟨g, i, none⟩ (fun _ _ => .inl (by show i < q; omega))]
    exact h.atI hx
  · cases hx
theorem compI_snoc : ∀ (l : List Int) (x : Int), compI (l ++ [x]) = if l.getLast? = some x then compI l else compI l ++ [x]
  | [], x => by simp [compI]
  | [y], x => by
    show (if y = x then compI [x] else y :: compI [x]) = _
    by_cases e : y = x
    · subst e; simp [compI]
    · simp [compI, e]
  | y :: z :: r, x => by
    have ih := compI_snoc (z :: r) x
    show (if y = z then compI (z :: (r ++ [x])) else y :: compI (z :: (r ++ [x]))) = _
    have e1 : (y :: z :: r).getLast? = (z :: r).getLast? := by simp
    rw [e1, ← List.cons_append, ih]
    by_cases e : y = z
    · subst e
      simp only [if_true]
      have e2 : compI (y :: y :: r) = compI (y :: r) := by simp [compI]
      rw [e2]
    · rw [if_neg e]
      have e2 : compI (y :: z :: r) = y :: compI (z :: r) := by simp [compI, e]
      rw [e2]
      split <;> simp
theorem compI_step {xs : List Int} {k : Nat} {y x : Int} (hy : xs[k]? = some y) (hx : xs[k + 1]? = some x) : compI (xs.take (k + 1 + 1)) = if y = x then compI (xs.take (k + 1)) else compI (xs.take (k + 1)) ++ [x] := by
  rw [takeSnocW hx, compI_snoc, takeSnocW hy]
  simp
theorem compI_one {xs : List Int} : compI (xs.take 1) = xs.take 1 := by
  cases xs with
  | nil => rfl
  | cons x r => simp [compI]
set_option maxRecDepth 100000 in
set_option maxHeartbeats 2000000 in
theorem compactI_any (g n c : Nat) (xs : List Int) (w : World) (hn : n ≤ 1000000) (hnc : n ≤ c) (hl : xs.length = n) (hR : RowI w g xs) :
    Calls Tryz.prog 93 #[.slice (some ⟨g, 0, none⟩) n c] w fun e w' => ∃ m, e = .returned (.slice (some ⟨g, 0, none⟩) m c) ∧ m ≤ n ∧ SlI0 w' (some ⟨g, 0, none⟩) m (compI xs) ∧ w.grownBy w' (some g) := by
  have HL := Lib.hid hl
  have HR := Lib.hid hR
  have hnc' : (n : Int) ≤ (c : Int) := by omega
  by_cases h2 : n < 2
  · have h2i : (n : Int) < 2 := by omega
    have HV : Hid (compI xs = xs) := by
      show _ = _
      rcases xs with _ | ⟨x, _ | ⟨y, r⟩⟩
      · rfl
      · rfl
      · simp at hl; omega
    clear hl hR
    go_enter Tryz.func93, Tryz.ntmps93
    go_wp2_with fail
    go_ret
    refine ⟨n, rfl, Nat.le_refl _, ?_, ⟨rfl, rfl, rfl, Nat.le_refl _, fun k _ _ => rfl⟩⟩
    rw [HV.out]
    have := HR.out.sl (k := n) (by rw [HL.out]; exact Nat.le_refl _)
    rwa [take_all HL.out] at this
  · have h2i : ¬ ((n : Int) < 2) := by omega
    clear hl hR
    go_enter Tryz.func93, Tryz.ntmps93
    go_wp2_with fail
    go_loopw [3] (fun i wr => ∃ k : Nat, k + 1 ≤ n ∧ i = .int .i64 ((k : Int) + 1) ∧ compI (xs.take (k + 1)) = xs.take (k + 1) ∧ Below w.heap.size w wr) (fun i _ => n - (intOf i).toNat)
    case atStart => exact ⟨0, by omega, rfl, compI_one, Below.refl _ _⟩
    case round =>
      obtain ⟨k, hk, rfl, hcs, hb⟩ := hrel
      have HCS := Lib.hid hcs; clear hcs
      by_cases hlt : k + 1 < n
      · obtain ⟨y, hy⟩ : ∃ y, xs[k]? = some y := ⟨_, List.getElem?_eq_getElem (by rw [HL.out]; omega)⟩
        obtain ⟨x, hx⟩ : ∃ x, xs[k + 1]? = some x := ⟨_, List.getElem?_eq_getElem (by rw [HL.out]; omega)⟩
        have a0 := (HR.out.up hb).atI hy
        have b0 := (HR.out.up hb).atI hx
        have hgl : g < wr.heap.size := (HR.out.up hb).lt
        have HY := Lib.hid hy; clear hy
        have HX := Lib.hid hx; clear hx
        have hki : (k : Int) + 1 < (n : Int) := by omega
        have hkn : (k : Int) < (n : Int) := by omega
        have hkw : IntKind.i64.wrap (k : Int) = (k : Int) := IntWalk.i64_in _ (by omega)
        by_cases he : x = y
        · have heq : (x == y) = true := by simpa using he
          have HE := Lib.hid he; clear he
          go_wp2_with fail
          go_quiet (fail)
          go_wp2_with fail
          go_loopw [5, 3] (fun s5 s3 wr => ∃ (j q : Nat) (ys : List Int), k + 1 + j + 1 ≤ n ∧ s5 = .int .i64 ((j : Int) + 1) ∧ s3 = .int .i64 (q : Int) ∧ q ≤ k + 1 + j ∧ ys.length = n ∧ RowI wr g ys ∧ ys.take q = compI (xs.take (k + 1 + j + 1)) ∧ (∀ i, k + 1 + j ≤ i → ys[i]? = xs[i]?) ∧ w.grownBy wr (some g)) (fun s5 _ _ => n - (intOf s5).toNat)
          case atStart =>
            refine ⟨0, k + 1, xs, by omega, rfl, by go_num, by omega, HL.out, (HR.out.up hb).up (below_drewN (Below.refl _ _) _), ?_, fun i _ => rfl, ?_⟩
            · have := compI_step HY.out HX.out
              rw [if_pos HE.out.symm, HCS.out] at this
              exact this.symm
            · exact ⟨hb.os, hb.tape, hb.output, hb.size, fun i hi _ => hb.block i hi⟩
          case round =>
            clear a0 b0 heq hb
            obtain ⟨j, q, ys, hj, rfl, rfl, hq, hyl, hRy, hcy, hsame, hgr⟩ := hrel
            by_cases hlt2 : k + 1 + j + 1 < n
            · obtain ⟨y', hy'⟩ : ∃ y, xs[k + 1 + j]? = some y := ⟨_, List.getElem?_eq_getElem (by rw [HL.out]; omega)⟩
              obtain ⟨x', hx'⟩ : ∃ x, xs[k + 1 + j + 1]? = some x := ⟨_, List.getElem?_eq_getElem (by rw [HL.out]; omega)⟩
              have hyy : ys[k + 1 + j]? = some y' := (hsame _ (Nat.le_refl _)).trans hy'
              have hyx : ys[k + 1 + j + 1]? = some x' := (hsame _ (by omega)).trans hx'
              have a0 := hRy.atI hyy
              have b0 := hRy.atI hyx
              rw [show k + 1 + j + 1 = k + 1 + (j + 1) by omega] at b0
              have hgl2 : g < wr.heap.size := hRy.lt
              obtain ⟨z, hz⟩ : ∃ z, ys[q]? = some z := ⟨_, List.getElem?_eq_getElem (by rw [hyl]; omega)⟩
              have t0 := hRy.atI hz
              have f0 := hRy.frz q
              have hqn : (q : Int) < (n : Int) := by omega
              clear hz
              have hji : (j : Int) + 1 < (n : Int) - ((k : Int) + 1) := by omega
              have hjn : (j : Int) < (n : Int) - ((k : Int) + 1) := by omega
              have hjw : IntKind.i64.wrap (j : Int) = (j : Int) := IntWalk.i64_in _ (by omega)
              have hnl : j + 1 < n - (k + 1) := by omega
              have hnl' : j < n - (k + 1) := by omega
              have HY' := Lib.hid hy'; clear hy'
              have HX' := Lib.hid hx'; clear hx'
              have HRY := Lib.hid hRy; clear hRy
              have HSM := Lib.hid hsame; clear hsame
              have HCY := Lib.hid hcy; clear hcy
              have HYL := Lib.hid hyl; clear hyl
              clear hyy hyx
              by_cases he' : x' = y'
              · have heq : (x' != y') = false := by simpa using he'
                have HE' := Lib.hid he'; clear he'
                go_wp2_with fail
                go_quiet (fail)
                go_wp2_with fail
                refine ⟨⟨j + 1, q, ys, by omega, by go_num, rfl, by omega, HYL.out, HRY.out.up (below_drewN (Below.refl _ _) _), ?_, fun i hi => HSM.out i (by omega), ?_⟩, by simp [intOf]; omega⟩
                · have := compI_step HY'.out HX'.out
                  rw [if_pos HE'.out.symm] at this
                  rw [HCY.out]
                  exact this.symm
                · exact ⟨hgr.os, hgr.tape, hgr.output, hgr.size, fun i hi hne => hgr.block i hi hne⟩
              · have heq : (x' != y') = true := by simpa using he'
                have HE' := Lib.hid he'; clear he'
                go_wp2_with fail
                go_quiet (fail)
                go_wp2_with fail
                have hql : q < ys.length := by rw [HYL.out]; omega
                have hRd := HRY.out.up (below_drewN (Below.refl _ _) nq)
                have hR3 : RowI ((wr.drewN nq).setCell ⟨g, q, none⟩ (.int .i64 x')) g (ys.set q x') := hRd.put hql x'
                have hg3 : wr.grownBy ((wr.drewN nq).setCell ⟨g, q, none⟩ (.int .i64 x')) (some g) := by
                  have h3 := setCell_grown (w := wr.drewN nq) (g := g) (o := q) (v := .int .i64 x')
                  exact ⟨h3.os, h3.tape, h3.output, h3.size, fun i hi hne => h3.block i hi hne⟩
                refine ⟨⟨j + 1, q + 1, ys.set q x', by omega, by go_num, by go_num, by omega, by rw [List.length_set]; exact HYL.out, hR3, ?_, fun i hi => ?_, hgr.trans hg3⟩, by simp [intOf]; omega⟩
                · have := compI_step HY'.out HX'.out
                  rw [if_neg (fun e => HE'.out e.symm)] at this
                  have e2 : (ys.set q x').take (q + 1) = ys.take q ++ [x'] := by
                    rw [takeSnocW (k := q) (x := x') (List.getElem?_set_self hql), List.take_set_of_le (Nat.le_refl _)]
                  rw [e2, HCY.out]
                  exact this.symm
                · rw [List.getElem?_set_ne (by omega)]
                  exact HSM.out i (by omega)
            · obtain rfl : n = k + 1 + j + 1 := by omega
              have hqn : q < k + 1 + j + 1 := by omega
              obtain ⟨zl, hclear⟩ := run_clear1 wr g q (k + 1 + j + 1 - q) (c - q) (by omega) (fun t ht => by
                have hd : q + t < ys.length := by rw [hyl]; omega
                rw [hRy.atI (List.getElem?_eq_getElem hd)]
                rfl) hRy.frz
              have hqi : (q : Int) ≤ ((k + 1 + j + 1 : Nat) : Int) := by omega
              have hqc : (q : Int) ≤ (c : Int) := by omega
              have HSA := Lib.hid (hRy.cut (q := q) (by rw [hyl]; omega) zl)
              have HG := Lib.hid (hgr.trans (setCells_grownW (w := wr) (g := g) (o := q) (vs := zl)))
              have HC : Hid (ys.take q = compI xs) := by
                show _ = _
                rw [hcy, take_all HL.out]
              clear hRy hgr hcy hsame hyl
              go_wp2_with fail
              go_ret
              exact ⟨q, rfl, by omega, by rw [← HC.out]; exact HSA.out, HG.out⟩
        · have heq : (x == y) = false := by simpa using he
          have HE := Lib.hid he; clear he
          go_wp2_with fail
          go_quiet (fail)
          go_wp2_with fail
          refine ⟨⟨k + 1, by omega, by go_num, ?_, below_drewN hb _⟩, by simp [intOf]; omega⟩
          have := compI_step HY.out HX.out
          rw [if_neg (fun e => HE.out e.symm), HCS.out, ← takeSnocW HX.out] at this
          exact this
      · obtain rfl : k + 1 = n := by omega
        have HV : Hid (compI xs = xs) := by
          have h := HCS.out
          rw [take_all HL.out] at h
          exact h
        go_wp2_with fail
        go_ret
        refine ⟨k + 1, rfl, Nat.le_refl _, ?_, ⟨hb.os, hb.tape, hb.output, hb.size, fun i hi _ => hb.block i hi⟩⟩
        rw [HV.out]
        have := (HR.out.up hb).sl (k := k + 1) (by rw [HL.out]; exact Nat.le_refl _)
        rwa [take_all HL.out] at this
end Go.Proofs.YtdokpmfejibdlaaGreatDoor
