/- Chapter 54: slices.Compact at pairs, walked. (Printed by mkwh.py.) -/
import Derived.Test.YtdokpmfejibdlaaGreatDoorWg
import Derived.Deep.MidRow
set_option linter.unusedSimpArgs false
set_option linter.unusedVariables false
namespace Go.Proofs.YtdokpmfejibdlaaGreatDoor
open Go.RowKit

def SlP0 (w : World) (A : Option Addr) (n : Nat) (xs : List (Int × Int)) : Prop := Sl w 0 w.heap.size 2 encE A n xs
theorem Sl.en {w : World} {L B n : Nat} {A : Option Addr} {xs : List (Int × Int)} {i : Nat} (h : Sl w L B 2 encE A n xs) (hi : i < n) : ∃ b off x, A = some ⟨b, off, none⟩ ∧ b < B ∧ xs[i]? = some x ∧
    w.cell? ⟨b, off + i * 2, none⟩ = some (.int .i64 x.1) ∧ w.cell? ⟨b, off + i * 2 + 1, none⟩ = some (.int .i64 x.2) := by
  obtain ⟨b, off, x, h1, h0, h2, h3, h4⟩ := h.at_ hi
  exact ⟨b, off, x, h1, h2, h3, h4 0 _ rfl, h4 1 _ rfl⟩
/-- Block g holds the pairs xs, none of it frozen. -/
structure RowP (w : World) (g : Nat) (xs : List (Int × Int)) : Prop where
  lt : g < w.heap.size
  cell : ∀ (i : Nat) (x : Int × Int), xs[i]? = some x → ∀ (j : Nat) (u : Value), (encE x)[j]? = some u → w.cell? ⟨g, i * 2 + j, none⟩ = some u
  frz : ∀ j, w.frozen? ⟨g, j, none⟩ = false
theorem RowP.two {w : World} {g : Nat} {xs : List (Int × Int)} (h : RowP w g xs) {i : Nat} {x : Int × Int} (hx : xs[i]? = some x) :
    w.cell? ⟨g, i * 2, none⟩ = some (.int .i64 x.1) ∧ w.cell? ⟨g, i * 2 + 1, none⟩ = some (.int .i64 x.2) := ⟨h.cell i x hx 0 _ rfl, h.cell i x hx 1 _ rfl⟩
theorem RowP.up {w w' : World} {g : Nat} {xs : List (Int × Int)} (h : RowP w g xs) (hb : Below w.heap.size w w') : RowP w' g xs :=
  ⟨Nat.lt_of_lt_of_le h.lt hb.size, fun i x hx j u hu => (hb.cell (p := ⟨g, i * 2 + j, none⟩) h.lt).trans (h.cell i x hx j u hu), fun j => (hb.frozen (p := ⟨g, j, none⟩) h.lt).trans (h.frz j)⟩
theorem RowP.sl {w : World} {g : Nat} {xs : List (Int × Int)} (h : RowP w g xs) {k : Nat} (hk : k ≤ xs.length) : SlP0 w (some ⟨g, 0, none⟩) k (xs.take k) := by
  refine ⟨by simp; omega, fun _ => ⟨g, 0, rfl, Nat.zero_le _, h.lt, fun i x hx j u hu => ?_⟩⟩
  rw [Nat.zero_add]
  refine h.cell i x ?_ j u hu
  rw [List.getElem?_take] at hx
  split at hx
  · exact hx
  · cases hx
def put2 (w : World) (g o : Nat) (x : Int × Int) : World := w.setCells g o (encE x)
theorem RowP.put {w : World} {g : Nat} {xs : List (Int × Int)} (h : RowP w g xs) {i : Nat} (hi : i < xs.length) (x : Int × Int) : RowP (put2 w g (i * 2) x) g (xs.set i x) := by
  have hin : ∀ j, j < (encE x).length → (w.cell? ⟨g, i * 2 + j, none⟩).isSome = true := fun j hj => by
    have hj3 : j < (encE xs[i]).length := hj
    rw [h.cell i xs[i] (List.getElem?_eq_getElem hi) j _ (List.getElem?_eq_getElem hj3)]
    rfl
  refine ⟨?_, fun i' x' hx' j u hu => ?_, fun j => ?_⟩
  · unfold put2
    exact Nat.lt_of_lt_of_le h.lt (setCells_grownW (vs := encE x) (w := w) (g := g) (o := i * 2)).size
  · have hj3 : j < 2 := (List.getElem?_eq_some_iff.1 hu).1
    by_cases e : i' = i
    · subst e
      rw [List.getElem?_set_self hi] at hx'
      injection hx' with hx'
      subst hx'
      have := World.cell?_setCells_in g (encE x) (i' * 2) w hin j (by rw [encE_len]; exact hj3)
      unfold put2
      rw [this, ← hu, List.getElem?_eq_getElem (by rw [encE_len]; exact hj3)]
    · rw [List.getElem?_set_ne (fun h => e h.symm)] at hx'
      unfold put2
      rw [World.cell?_setCells_out g (encE x) (i * 2) w ⟨g, i' * 2 + j, none⟩ (fun _ _ => by
        show i' * 2 + j < i * 2 ∨ i * 2 + (encE x).length ≤ i' * 2 + j
        rw [encE_len]
        omega)]
      exact h.cell i' x' hx' j u hu
  · unfold put2
    rw [World.frozen?_setCells]
    exact h.frz j
theorem nePairW (x y : Int × Int) (w : World) : (binOp .neq 100 (.agg #[.int .i64 x.1, .int .i64 x.2]) (.agg #[.int .i64 y.1, .int .i64 y.2])).run Tryz.prog w = .ok (.bool (!decide (x = y))) w := by
  have u3 := Tryz.underlying3
  have hS : Tryz.prog.underlying 100 = some (.struct (Tryz.prog.fieldsOf 100)) := by kernel_rfl
  have hp : Tryz.prog.stoodInHeld 100 = false := by kernel_rfl
  have e : decide (x = y) = (x.1 == y.1 && x.2 == y.2) := by
    obtain ⟨a, b⟩ := x
    obtain ⟨c, d⟩ := y
    by_cases h1 : a = c <;> by_cases h2 : b = d <;> simp [h1, h2]
  rw [e, run_neq_struct, show (10000 : Nat) = 9999 + 1 from rfl, run_equalIn_agg w 9999 100 _ _ hS hp]
  simp only [Program.fieldsOf, Tryz.underlying100]
  go_simp
  by_cases h1 : x.1 = y.1 <;> by_cases h2 : x.2 = y.2 <;> simp [h1, h2]
theorem eqPairW (x y : Int × Int) (w : World) : (binOp .eql 100 (.agg #[.int .i64 x.1, .int .i64 x.2]) (.agg #[.int .i64 y.1, .int .i64 y.2])).run Tryz.prog w = .ok (.bool (decide (x = y))) w := by
  have u3 := Tryz.underlying3
  have hS : Tryz.prog.underlying 100 = some (.struct (Tryz.prog.fieldsOf 100)) := by kernel_rfl
  have hp : Tryz.prog.stoodInHeld 100 = false := by kernel_rfl
  have e : decide (x = y) = (x.1 == y.1 && x.2 == y.2) := by
    obtain ⟨a, b⟩ := x
    obtain ⟨c, d⟩ := y
    by_cases h1 : a = c <;> by_cases h2 : b = d <;> simp [h1, h2]
  rw [e, run_eql_struct, show (10000 : Nat) = 9999 + 1 from rfl, run_equalIn_agg w 9999 100 _ _ hS hp]
  simp only [Program.fieldsOf, Tryz.underlying100]
  go_simp
  by_cases h1 : x.1 = y.1 <;> by_cases h2 : x.2 = y.2 <;> simp [h1, h2]
theorem nePrT {x y : Int × Int} (h : x ≠ y) (w : World) : (binOp .neq 100 (.agg #[.int .i64 x.1, .int .i64 x.2]) (.agg #[.int .i64 y.1, .int .i64 y.2])).run Tryz.prog w = .ok (.bool true) w := by rw [nePairW]; simp [h]
theorem nePrF {x y : Int × Int} (h : x = y) (w : World) : (binOp .neq 100 (.agg #[.int .i64 x.1, .int .i64 x.2]) (.agg #[.int .i64 y.1, .int .i64 y.2])).run Tryz.prog w = .ok (.bool false) w := by rw [nePairW]; simp [h]
theorem eqPrT {x y : Int × Int} (h : x = y) (w : World) : (binOp .eql 100 (.agg #[.int .i64 x.1, .int .i64 x.2]) (.agg #[.int .i64 y.1, .int .i64 y.2])).run Tryz.prog w = .ok (.bool true) w := by rw [eqPairW]; simp [h]
theorem eqPrF {x y : Int × Int} (h : x ≠ y) (w : World) : (binOp .eql 100 (.agg #[.int .i64 x.1, .int .i64 x.2]) (.agg #[.int .i64 y.1, .int .i64 y.2])).run Tryz.prog w = .ok (.bool false) w := by rw [eqPairW]; simp [h]
theorem zeroPair (w : World) : (zeroValue 100).run Tryz.prog w = .ok (.agg #[.int .i64 0, .int .i64 0]) w := by kernel_rfl
theorem run_clear2 (w : World) (b o n c : Nat) (hn : 0 < n) (hc : ∀ j, j < n * 2 → (w.cell? ⟨b, o + j, none⟩).isSome = true) (hf : ∀ j, w.frozen? ⟨b, j, none⟩ = false) :
    ∃ zl : List Value, ∀ ty, (Builtin.clear_ #[55] ty #[.slice (some ⟨b, o, none⟩) n c]).run Tryz.prog w = .ok (.tuple #[]) (w.setCells b o zl) := by
  refine ⟨(Builtin.zeroCells #[.int .i64 0, .int .i64 0] n).toList, fun ty => ?_⟩
  have hz : ∀ v ∈ (Builtin.zeroCells #[Value.int .i64 0, .int .i64 0] n).toList, v = Value.int .i64 0 := by
    intro v hv
    simp only [Builtin.zeroCells, Array.toList_map, List.mem_map] at hv
    obtain ⟨i, _, rfl⟩ := hv
    show #[Value.int .i64 0, .int .i64 0][i % 2]! = _
    rcases (show i % 2 = 0 ∨ i % 2 = 1 by omega) with h | h <;> rw [h] <;> rfl
  have hlen : (Builtin.zeroCells #[Value.int .i64 0, .int .i64 0] n).toList.length = n * 2 := by simp [Builtin.zeroCells]
  have hst := run_storeCells_cells (P := Tryz.prog) b o (Builtin.zeroCells #[Value.int .i64 0, .int .i64 0] n).toList 0 w (by rw [hlen]; simpa using hc) (by intro j _; exact hf _) (by intro v hv; rw [hz v hv]; rfl)
  simp only [Nat.add_zero] at hst
  obtain ⟨m, rfl⟩ : ∃ m, n = m + 1 := ⟨n - 1, by omega⟩
  simp [Builtin.clear_, run_underlying Tryz.underlying55, zeroPair, hst, Value.cells]
theorem RowP.cut {w : World} {g q : Nat} {ys : List (Int × Int)} (h : RowP w g ys) (hq : q ≤ ys.length) (zl : List Value) : SlP0 (w.setCells g (q * 2) zl) (some ⟨g, 0, none⟩) q (ys.take q) := by
  have hgr := setCells_grownW (w := w) (g := g) (o := q * 2) (vs := zl)
  refine ⟨by simp; omega, fun _ => ⟨g, 0, rfl, Nat.zero_le _, Nat.lt_of_lt_of_le h.lt hgr.size, fun i x hx j u hu => ?_⟩⟩
  rw [Nat.zero_add]
  have hj3 : j < 2 := (List.getElem?_eq_some_iff.1 hu).1
  rw [List.getElem?_take] at hx
  split at hx
  · rename_i hi
    rw [World.cell?_setCells_out g zl (q * 2) w ⟨g, i * 2 + j, none⟩ (fun _ _ => .inl (by show i * 2 + j < q * 2; omega))]
    exact h.cell i x hx j u hu
  · cases hx
theorem compP_snoc : ∀ (l : List (Int × Int)) (x : Int × Int), compP (l ++ [x]) = if l.getLast? = some x then compP l else compP l ++ [x]
  | [], x => by simp [compP]
  | [y], x => by
    show (if y = x then compP [x] else y :: compP [x]) = _
    by_cases e : y = x
    · subst e; simp [compP]
    · simp [compP, e]
  | y :: z :: r, x => by
    have ih := compP_snoc (z :: r) x
    show (if y = z then compP (z :: (r ++ [x])) else y :: compP (z :: (r ++ [x]))) = _
    have e1 : (y :: z :: r).getLast? = (z :: r).getLast? := by simp
    rw [e1, ← List.cons_append, ih]
    by_cases e : y = z
    · subst e
      simp only [if_true]
      have e2 : compP (y :: y :: r) = compP (y :: r) := by simp [compP]
      rw [e2]
    · rw [if_neg e]
      have e2 : compP (y :: z :: r) = y :: compP (z :: r) := by simp [compP, e]
      rw [e2]
      split <;> simp
theorem compP_step {xs : List (Int × Int)} {k : Nat} {y x : Int × Int} (hy : xs[k]? = some y) (hx : xs[k + 1]? = some x) : compP (xs.take (k + 1 + 1)) = if y = x then compP (xs.take (k + 1)) else compP (xs.take (k + 1)) ++ [x] := by
  rw [takeSnocW hx, compP_snoc, takeSnocW hy]
  simp
theorem compP_one {xs : List (Int × Int)} : compP (xs.take 1) = xs.take 1 := by
  cases xs with
  | nil => rfl
  | cons x r => simp [compP]
set_option maxRecDepth 100000 in
set_option maxHeartbeats 2000000 in
theorem compactP_any (g n c : Nat) (xs : List (Int × Int)) (w : World) (hn : n ≤ 1000000) (hnc : n ≤ c) (hl : xs.length = n) (hR : RowP w g xs) :
    Calls Tryz.prog 75 #[.slice (some ⟨g, 0, none⟩) n c] w fun e w' => ∃ m, e = .returned (.slice (some ⟨g, 0, none⟩) m c) ∧ m ≤ n ∧ SlP0 w' (some ⟨g, 0, none⟩) m (compP xs) ∧ w.grownBy w' (some g) := by
  have HL := Lib.hid hl
  have HR := Lib.hid hR
  have hnc' : (n : Int) ≤ (c : Int) := by omega
  by_cases h2 : n < 2
  · have h2i : (n : Int) < 2 := by omega
    have HV : Hid (compP xs = xs) := by
      show _ = _
      rcases xs with _ | ⟨x, _ | ⟨y, r⟩⟩
      · rfl
      · rfl
      · simp at hl; omega
    clear hl hR
    go_enter Tryz.func75, Tryz.ntmps75
    go_wp2_with fail
    go_ret
    refine ⟨n, rfl, Nat.le_refl _, ?_, ⟨rfl, rfl, rfl, Nat.le_refl _, fun k _ _ => rfl⟩⟩
    rw [HV.out]
    have := HR.out.sl (k := n) (by rw [HL.out]; exact Nat.le_refl _)
    rwa [take_all HL.out] at this
  · have h2i : ¬ ((n : Int) < 2) := by omega
    clear hl hR
    go_enter Tryz.func75, Tryz.ntmps75
    go_wp2_with fail
    go_loopw [3] (fun i wr => ∃ k : Nat, k + 1 ≤ n ∧ i = .int .i64 ((k : Int) + 1) ∧ compP (xs.take (k + 1)) = xs.take (k + 1) ∧ Below w.heap.size w wr) (fun i _ => n - (intOf i).toNat)
    case atStart => exact ⟨0, by omega, rfl, compP_one, Below.refl _ _⟩
    case round =>
      obtain ⟨k, hk, rfl, hcs, hb⟩ := hrel
      have HCS := Lib.hid hcs; clear hcs
      by_cases hlt : k + 1 < n
      · obtain ⟨y, hy⟩ : ∃ y, xs[k]? = some y := ⟨_, List.getElem?_eq_getElem (by rw [HL.out]; omega)⟩
        obtain ⟨x, hx⟩ : ∃ x, xs[k + 1]? = some x := ⟨_, List.getElem?_eq_getElem (by rw [HL.out]; omega)⟩
        obtain ⟨a0, a1⟩ := (HR.out.up hb).two hy
        obtain ⟨b0, b1⟩ := (HR.out.up hb).two hx
        have hgl : g < wr.heap.size := (HR.out.up hb).lt
        have HY := Lib.hid hy; clear hy
        have HX := Lib.hid hx; clear hx
        have hki : (k : Int) + 1 < (n : Int) := by omega
        have hkn : (k : Int) < (n : Int) := by omega
        have hkw : IntKind.i64.wrap (k : Int) = (k : Int) := IntWalk.i64_in _ (by omega)
        by_cases he : x = y
        · have heq := fun W => eqPrT he W
          have HE := Lib.hid he; clear he
          go_wp2_with fail
          go_quiet (fail)
          go_wp2_with fail
          go_loopw [5, 3] (fun s5 s3 wr => ∃ (j q : Nat) (ys : List (Int × Int)), k + 1 + j + 1 ≤ n ∧ s5 = .int .i64 ((j : Int) + 1) ∧ s3 = .int .i64 (q : Int) ∧ q ≤ k + 1 + j ∧ ys.length = n ∧ RowP wr g ys ∧ ys.take q = compP (xs.take (k + 1 + j + 1)) ∧ (∀ i, k + 1 + j ≤ i → ys[i]? = xs[i]?) ∧ w.grownBy wr (some g)) (fun s5 _ _ => n - (intOf s5).toNat)
          case atStart =>
            refine ⟨0, k + 1, xs, by omega, rfl, by go_num, by omega, HL.out, (HR.out.up hb).up (below_drewN (Below.refl _ _) _), ?_, fun i _ => rfl, ?_⟩
            · have := compP_step HY.out HX.out
              rw [if_pos HE.out.symm, HCS.out] at this
              exact this.symm
            · exact ⟨hb.os, hb.tape, hb.output, hb.size, fun i hi _ => hb.block i hi⟩
          case round =>
            clear a0 a1 b0 b1 heq hb
            obtain ⟨j, q, ys, hj, rfl, rfl, hq, hyl, hRy, hcy, hsame, hgr⟩ := hrel
            by_cases hlt2 : k + 1 + j + 1 < n
            · obtain ⟨y', hy'⟩ : ∃ y, xs[k + 1 + j]? = some y := ⟨_, List.getElem?_eq_getElem (by rw [HL.out]; omega)⟩
              obtain ⟨x', hx'⟩ : ∃ x, xs[k + 1 + j + 1]? = some x := ⟨_, List.getElem?_eq_getElem (by rw [HL.out]; omega)⟩
              have hyy : ys[k + 1 + j]? = some y' := (hsame _ (Nat.le_refl _)).trans hy'
              have hyx : ys[k + 1 + j + 1]? = some x' := (hsame _ (by omega)).trans hx'
              obtain ⟨a0, a1⟩ := hRy.two hyy
              obtain ⟨b0, b1⟩ := hRy.two hyx
              rw [show (k + 1 + j) * 2 = (k + 1) * 2 + j * 2 by omega] at a0 a1
              rw [show (k + 1 + j + 1) * 2 = (k + 1) * 2 + (j + 1) * 2 by omega] at b0 b1
              have hgl2 : g < wr.heap.size := hRy.lt
              obtain ⟨z, hz⟩ : ∃ z, ys[q]? = some z := ⟨_, List.getElem?_eq_getElem (by rw [hyl]; omega)⟩
              obtain ⟨t0, t1⟩ := hRy.two hz
              have f0 := hRy.frz (q * 2)
              have f1 := hRy.frz (q * 2 + 1)
              have hqn : (q : Int) < (n : Int) := by omega
              clear hz
              have hji : (j : Int) + 1 < (n : Int) - ((k : Int) + 1) := by omega
              have hjn : (j : Int) < (n : Int) - ((k : Int) + 1) := by omega
              have hjw : IntKind.i64.wrap (j : Int) = (j : Int) := IntWalk.i64_in _ (by omega)
              have hnl : j + 1 < n - (k + 1) := by omega
              have hnl' : j < n - (k + 1) := by omega
              have HY' := Lib.hid hy'; clear hy'
              have HX' := Lib.hid hx'; clear hx'
              have HRY := Lib.hid hRy; clear hRy
              have HSM := Lib.hid hsame; clear hsame
              have HCY := Lib.hid hcy; clear hcy
              have HYL := Lib.hid hyl; clear hyl
              clear hyy hyx
              by_cases he' : x' = y'
              · have heq := fun W => nePrF he' W
                have HE' := Lib.hid he'; clear he'
                go_wp2_with fail
                go_quiet (fail)
                go_wp2_with fail
                refine ⟨⟨j + 1, q, ys, by omega, by go_num, rfl, by omega, HYL.out, HRY.out.up (below_drewN (Below.refl _ _) _), ?_, fun i hi => HSM.out i (by omega), ?_⟩, by simp [intOf]; omega⟩
                · have := compP_step HY'.out HX'.out
                  rw [if_pos HE'.out.symm] at this
                  rw [HCY.out]
                  exact this.symm
                · exact ⟨hgr.os, hgr.tape, hgr.output, hgr.size, fun i hi hne => hgr.block i hi hne⟩
              · have heq := fun W => nePrT he' W
                have HE' := Lib.hid he'; clear he'
                go_wp2_with fail
                go_quiet (fail)
                go_wp2_with fail
                have hql : q < ys.length := by rw [HYL.out]; omega
                have hRd := HRY.out.up (below_drewN (Below.refl _ _) nq)
                have hR3 : RowP (put2 (wr.drewN nq) g (q * 2) x') g (ys.set q x') := hRd.put hql x'
                have hg3 : wr.grownBy (put2 (wr.drewN nq) g (q * 2) x') (some g) := by
                  have h3 := setCells_grownW (w := wr.drewN nq) (g := g) (o := q * 2) (vs := encE x')
                  exact ⟨h3.os, h3.tape, h3.output, h3.size, fun i hi hne => h3.block i hi hne⟩
                refine ⟨⟨j + 1, q + 1, ys.set q x', by omega, by go_num, by go_num, by omega, by rw [List.length_set]; exact HYL.out, hR3, ?_, fun i hi => ?_, hgr.trans hg3⟩, by simp [intOf]; omega⟩
                · have := compP_step HY'.out HX'.out
                  rw [if_neg (fun e => HE'.out e.symm)] at this
                  have e2 : (ys.set q x').take (q + 1) = ys.take q ++ [x'] := by
                    rw [takeSnocW (k := q) (x := x') (List.getElem?_set_self hql), List.take_set_of_le (Nat.le_refl _)]
                  rw [e2, HCY.out]
                  exact this.symm
                · rw [List.getElem?_set_ne (by omega)]
                  exact HSM.out i (by omega)
            · obtain rfl : n = k + 1 + j + 1 := by omega
              have hqn : q < k + 1 + j + 1 := by omega
              obtain ⟨zl, hclear⟩ := run_clear2 wr g (q * 2) (k + 1 + j + 1 - q) (c - q) (by omega) (fun t ht => by
                have hd : q + t / 2 < ys.length := by rw [hyl]; omega
                have := hRy.cell (q + t / 2) ys[q + t / 2] (List.getElem?_eq_getElem hd) (t % 2) ((encE ys[q + t / 2])[t % 2]'(by rw [encE_len]; omega)) (List.getElem?_eq_getElem _)
                rw [show (q + t / 2) * 2 + t % 2 = q * 2 + t by omega] at this
                rw [this]
                rfl) hRy.frz
              have hqi : (q : Int) ≤ ((k + 1 + j + 1 : Nat) : Int) := by omega
              have hqc : (q : Int) ≤ (c : Int) := by omega
              have HSA := Lib.hid (hRy.cut (q := q) (by rw [hyl]; omega) zl)
              have HG := Lib.hid (hgr.trans (setCells_grownW (w := wr) (g := g) (o := q * 2) (vs := zl)))
              have HC : Hid (ys.take q = compP xs) := by
                show _ = _
                rw [hcy, take_all HL.out]
              clear hRy hgr hcy hsame hyl
              go_wp2_with fail
              go_ret
              exact ⟨q, rfl, by omega, by rw [← HC.out]; exact HSA.out, HG.out⟩
        · have heq := fun W => eqPrF he W
          have HE := Lib.hid he; clear he
          go_wp2_with fail
          go_quiet (fail)
          go_wp2_with fail
          refine ⟨⟨k + 1, by omega, by go_num, ?_, below_drewN hb _⟩, by simp [intOf]; omega⟩
          have := compP_step HY.out HX.out
          rw [if_neg (fun e => HE.out e.symm), HCS.out, ← takeSnocW HX.out] at this
          exact this
      · obtain rfl : k + 1 = n := by omega
        have HV : Hid (compP xs = xs) := by
          have h := HCS.out
          rw [take_all HL.out] at h
          exact h
        go_wp2_with fail
        go_ret
        refine ⟨k + 1, rfl, Nat.le_refl _, ?_, ⟨hb.os, hb.tape, hb.output, hb.size, fun i hi _ => hb.block i hi⟩⟩
        rw [HV.out]
        have := (HR.out.up hb).sl (k := k + 1) (by rw [HL.out]; exact Nat.le_refl _)
        rwa [take_all HL.out] at this
end Go.Proofs.YtdokpmfejibdlaaGreatDoor
