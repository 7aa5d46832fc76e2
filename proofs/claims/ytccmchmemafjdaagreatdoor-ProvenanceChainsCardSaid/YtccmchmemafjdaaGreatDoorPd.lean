/- Chapter 46: slices.Compact at sales, walked. -/
import Derived.Test.YtccmchmemafjdaaGreatDoorPc
import Derived.IntWalk
set_option linter.unusedSimpArgs false
set_option linter.unusedVariables false
namespace Go.Proofs.YtccmchmemafjdaaGreatDoor
open Go.RowKit

theorem neSaleT {x y : Sal} (h : x ≠ y) (w : World) : (binOp .neq 57 (.agg #[.int .i64 x.y, .int .i64 x.h, .int .i64 x.l]) (.agg #[.int .i64 y.y, .int .i64 y.h, .int .i64 y.l])).run Tryz.prog w = .ok (.bool true) w := by rw [neSale]; simp [h]
theorem neSaleF {x y : Sal} (h : x = y) (w : World) : (binOp .neq 57 (.agg #[.int .i64 x.y, .int .i64 x.h, .int .i64 x.l]) (.agg #[.int .i64 y.y, .int .i64 y.h, .int .i64 y.l])).run Tryz.prog w = .ok (.bool false) w := by rw [neSale]; simp [h]
theorem zeroSale (w : World) : (zeroValue 57).run Tryz.prog w = .ok (.agg #[.int .i64 0, .int .i64 0, .int .i64 0]) w := by kernel_rfl
theorem run_clear3 (w : World) (b o n c : Nat) (hn : 0 < n) (hc : ∀ j, j < n * 3 → (w.cell? ⟨b, o + j, none⟩).isSome = true) (hf : ∀ j, w.frozen? ⟨b, j, none⟩ = false) :
    ∃ zl : List Value, ∀ ty, (Builtin.clear_ #[22] ty #[.slice (some ⟨b, o, none⟩) n c]).run Tryz.prog w = .ok (.tuple #[]) (w.setCells b o zl) := by
  refine ⟨(Builtin.zeroCells #[.int .i64 0, .int .i64 0, .int .i64 0] n).toList, fun ty => ?_⟩
  have hz : ∀ v ∈ (Builtin.zeroCells #[Value.int .i64 0, .int .i64 0, .int .i64 0] n).toList, v = Value.int .i64 0 := by
    intro v hv
    simp only [Builtin.zeroCells, Array.toList_map, List.mem_map] at hv
    obtain ⟨i, _, rfl⟩ := hv
    have h3 : i % 3 < 3 := Nat.mod_lt _ (by omega)
    show #[Value.int .i64 0, .int .i64 0, .int .i64 0][i % 3]! = _
    rcases (show i % 3 = 0 ∨ i % 3 = 1 ∨ i % 3 = 2 by omega) with h | h | h <;> rw [h] <;> rfl
  have hlen : (Builtin.zeroCells #[Value.int .i64 0, .int .i64 0, .int .i64 0] n).toList.length = n * 3 := by simp [Builtin.zeroCells]
  have hst := run_storeCells_cells (P := Tryz.prog) b o (Builtin.zeroCells #[Value.int .i64 0, .int .i64 0, .int .i64 0] n).toList 0 w (by rw [hlen]; simpa using hc) (by intro j _; exact hf _) (by intro v hv; rw [hz v hv]; rfl)
  simp only [Nat.add_zero] at hst
  obtain ⟨m, rfl⟩ : ∃ m, n = m + 1 := ⟨n - 1, by omega⟩
  simp [Builtin.clear_, run_underlying Tryz.underlying22, zeroSale, hst, Value.cells]
theorem RowS.cut {w : World} {g q : Nat} {ys : List Sal} (h : RowS w g ys) (hq : q ≤ ys.length) (zl : List Value) : SaS (w.setCells g (q * 3) zl) (some ⟨g, 0, none⟩) q (ys.take q) := by
  have hgr := setCells_grown (w := w) (g := g) (o := q * 3) (vs := zl)
  refine ⟨by simp; omega, fun _ => ⟨g, 0, rfl, Nat.zero_le _, Nat.lt_of_lt_of_le h.lt hgr.size, fun i x hx j u hu => ?_⟩⟩
  rw [Nat.zero_add]
  have hj3 : j < 3 := (List.getElem?_eq_some_iff.1 hu).1
  rw [List.getElem?_take] at hx
  split at hx
  · rename_i hi
    rw [World.cell?_setCells_out g zl (q * 3) w ⟨g, i * 3 + j, none⟩ (fun _ _ => .inl (by show i * 3 + j < q * 3; omega))]
    exact h.cell i x hx j u hu
  · cases hx
theorem eqSaleT {x y : Sal} (h : x = y) (w : World) : (binOp .eql 57 (.agg #[.int .i64 x.y, .int .i64 x.h, .int .i64 x.l]) (.agg #[.int .i64 y.y, .int .i64 y.h, .int .i64 y.l])).run Tryz.prog w = .ok (.bool true) w := by rw [eqSale]; simp [h]
theorem eqSaleF {x y : Sal} (h : x ≠ y) (w : World) : (binOp .eql 57 (.agg #[.int .i64 x.y, .int .i64 x.h, .int .i64 x.l]) (.agg #[.int .i64 y.y, .int .i64 y.h, .int .i64 y.l])).run Tryz.prog w = .ok (.bool false) w := by rw [eqSale]; simp [h]
set_option maxRecDepth 100000 in
set_option maxHeartbeats 2000000 in
theorem compactS_any (g n c : Nat) (xs : List Sal) (w : World) (hn : n ≤ 1000000) (hnc : n ≤ c) (hl : xs.length = n) (hR : RowS w g xs) :
    Calls Tryz.prog 86 #[.slice (some ⟨g, 0, none⟩) n c] w fun e w' => ∃ m, e = .returned (.slice (some ⟨g, 0, none⟩) m c) ∧ m ≤ n ∧ SaS w' (some ⟨g, 0, none⟩) m (compS xs) ∧ w.grownBy w' (some g) := by
  have HL := Lib.hid hl
  have HR := Lib.hid hR
  have hnc' : (n : Int) ≤ (c : Int) := by omega
  by_cases h2 : n < 2
  · have h2i : (n : Int) < 2 := by omega
    have HV : Hid (compS xs = xs) := by
      show _ = _
      rcases xs with _ | ⟨x, _ | ⟨y, r⟩⟩
      · rfl
      · rfl
      · simp at hl; omega
    clear hl hR
    go_enter Tryz.func86, Tryz.ntmps86
    go_wp2_with fail
    go_ret
    refine ⟨n, rfl, Nat.le_refl _, ?_, ⟨rfl, rfl, rfl, Nat.le_refl _, fun k _ _ => rfl⟩⟩
    rw [HV.out]
    have := HR.out.sl (k := n) (by rw [HL.out]; exact Nat.le_refl _)
    rwa [take_all HL.out] at this
  · have h2i : ¬ ((n : Int) < 2) := by omega
    clear hl hR
    go_enter Tryz.func86, Tryz.ntmps86
    go_wp2_with fail
    go_loopw [3] (fun i wr => ∃ k : Nat, k + 1 ≤ n ∧ i = .int .i64 ((k : Int) + 1) ∧ compS (xs.take (k + 1)) = xs.take (k + 1) ∧ Below w.heap.size w wr) (fun i _ => n - (intOf i).toNat)
    case atStart => exact ⟨0, by omega, rfl, compS_one, Below.refl _ _⟩
    case round =>
      obtain ⟨k, hk, rfl, hcs, hb⟩ := hrel
      have HCS := Lib.hid hcs; clear hcs
      by_cases hlt : k + 1 < n
      · obtain ⟨y, hy⟩ : ∃ y, xs[k]? = some y := ⟨_, List.getElem?_eq_getElem (by rw [HL.out]; omega)⟩
        obtain ⟨x, hx⟩ : ∃ x, xs[k + 1]? = some x := ⟨_, List.getElem?_eq_getElem (by rw [HL.out]; omega)⟩
        obtain ⟨a0, a1, a2⟩ := (HR.out.up hb).three hy
        obtain ⟨b0, b1, b2⟩ := (HR.out.up hb).three hx
        have hgl : g < wr.heap.size := (HR.out.up hb).lt
        have HY := Lib.hid hy; clear hy
        have HX := Lib.hid hx; clear hx
        have hki : (k : Int) + 1 < (n : Int) := by omega
        have hkn : (k : Int) < (n : Int) := by omega
        have hkw : IntKind.i64.wrap (k : Int) = (k : Int) := IntWalk.i64_in _ (by omega)
        by_cases he : x = y
        · have heq := fun W => eqSaleT he W
          have HE := Lib.hid he; clear he
          go_wp2_with fail
          go_quiet (fail)
          go_wp2_with fail
          go_loopw [5, 3] (fun s5 s3 wr => ∃ (j q : Nat) (ys : List Sal), k + 1 + j + 1 ≤ n ∧ s5 = .int .i64 ((j : Int) + 1) ∧ s3 = .int .i64 (q : Int) ∧ q ≤ k + 1 + j ∧ ys.length = n ∧ RowS wr g ys ∧ ys.take q = compS (xs.take (k + 1 + j + 1)) ∧ (∀ i, k + 1 + j ≤ i → ys[i]? = xs[i]?) ∧ w.grownBy wr (some g)) (fun s5 _ _ => n - (intOf s5).toNat)
          case atStart =>
            refine ⟨0, k + 1, xs, by omega, rfl, by go_num, by omega, HL.out, (HR.out.up hb).up (below_drewN (Below.refl _ _) _), ?_, fun i _ => rfl, ?_⟩
            · have := compS_step HY.out HX.out
              rw [if_pos HE.out.symm, HCS.out] at this
              exact this.symm
            · exact ⟨hb.os, hb.tape, hb.output, hb.size, fun i hi _ => hb.block i hi⟩
          case round =>
            clear a0 a1 a2 b0 b1 b2 heq hb
            obtain ⟨j, q, ys, hj, rfl, rfl, hq, hyl, hRy, hcy, hsame, hgr⟩ := hrel
            by_cases hlt2 : k + 1 + j + 1 < n
            · obtain ⟨y', hy'⟩ : ∃ y, xs[k + 1 + j]? = some y := ⟨_, List.getElem?_eq_getElem (by rw [HL.out]; omega)⟩
              obtain ⟨x', hx'⟩ : ∃ x, xs[k + 1 + j + 1]? = some x := ⟨_, List.getElem?_eq_getElem (by rw [HL.out]; omega)⟩
              have hyy : ys[k + 1 + j]? = some y' := (hsame _ (Nat.le_refl _)).trans hy'
              have hyx : ys[k + 1 + j + 1]? = some x' := (hsame _ (by omega)).trans hx'
              obtain ⟨a0, a1, a2⟩ := hRy.three hyy
              obtain ⟨b0, b1, b2⟩ := hRy.three hyx
              rw [show (k + 1 + j) * 3 = (k + 1) * 3 + j * 3 by omega] at a0 a1 a2
              rw [show (k + 1 + j + 1) * 3 = (k + 1) * 3 + (j + 1) * 3 by omega] at b0 b1 b2
              have hgl2 : g < wr.heap.size := hRy.lt
              obtain ⟨z, hz⟩ : ∃ z, ys[q]? = some z := ⟨_, List.getElem?_eq_getElem (by rw [hyl]; omega)⟩
              obtain ⟨t0, t1, t2⟩ := hRy.three hz
              have f0 := hRy.frz (q * 3)
              have f1 := hRy.frz (q * 3 + 1)
              have f2 := hRy.frz (q * 3 + 2)
              have hqn : (q : Int) < (n : Int) := by omega
              clear hz
              have hji : (j : Int) + 1 < (n : Int) - ((k : Int) + 1) := by omega
              have hjn : (j : Int) < (n : Int) - ((k : Int) + 1) := by omega
              have hjw : IntKind.i64.wrap (j : Int) = (j : Int) := IntWalk.i64_in _ (by omega)
              have hnl : j + 1 < n - (k + 1) := by omega
              have hnl' : j < n - (k + 1) := by omega
              have HY' := Lib.hid hy'; clear hy'
              have HX' := Lib.hid hx'; clear hx'
              have HRY := Lib.hid hRy; clear hRy
              have HSM := Lib.hid hsame; clear hsame
              have HCY := Lib.hid hcy; clear hcy
              have HYL := Lib.hid hyl; clear hyl
              clear hyy hyx
              by_cases he' : x' = y'
              · have heq := fun W => neSaleF he' W
                have HE' := Lib.hid he'; clear he'
                go_wp2_with fail
                go_quiet (fail)
                go_wp2_with fail
                refine ⟨⟨j + 1, q, ys, by omega, by go_num, rfl, by omega, HYL.out, HRY.out.up (below_drewN (Below.refl _ _) _), ?_, fun i hi => HSM.out i (by omega), ?_⟩, by simp [intOf]; omega⟩
                · have := compS_step HY'.out HX'.out
                  rw [if_pos HE'.out.symm] at this
                  rw [HCY.out]
                  exact this.symm
                · exact ⟨hgr.os, hgr.tape, hgr.output, hgr.size, fun i hi hne => hgr.block i hi hne⟩
              · have heq := fun W => neSaleT he' W
                have HE' := Lib.hid he'; clear he'
                go_wp2_with fail
                go_quiet (fail)
                go_wp2_with fail
                have hql : q < ys.length := by rw [HYL.out]; omega
                have hRd := HRY.out.up (below_drewN (Below.refl _ _) nq)
                have hR3 : RowS (put3 (wr.drewN nq) g (q * 3) x') g (ys.set q x') := hRd.put hql x'
                have hg3 : wr.grownBy (put3 (wr.drewN nq) g (q * 3) x') (some g) := by
                  have h3 := setCells_grown (w := wr.drewN nq) (g := g) (o := q * 3) (vs := encS x')
                  exact ⟨h3.os, h3.tape, h3.output, h3.size, fun i hi hne => h3.block i hi hne⟩
                refine ⟨⟨j + 1, q + 1, ys.set q x', by omega, by go_num, by go_num, by omega, by rw [List.length_set]; exact HYL.out, hR3, ?_, fun i hi => ?_, hgr.trans hg3⟩, by simp [intOf]; omega⟩
                · have := compS_step HY'.out HX'.out
                  rw [if_neg (fun e => HE'.out e.symm)] at this
                  have e2 : (ys.set q x').take (q + 1) = ys.take q ++ [x'] := by
                    rw [take_snocS (k := q) (x := x') (List.getElem?_set_self hql), List.take_set_of_le (Nat.le_refl _)]
                  rw [e2, HCY.out]
                  exact this.symm
                · rw [List.getElem?_set_ne (by omega)]
                  exact HSM.out i (by omega)
            · obtain rfl : n = k + 1 + j + 1 := by omega
              have hqn : q < k + 1 + j + 1 := by omega
              obtain ⟨zl, hclear⟩ := run_clear3 wr g (q * 3) (k + 1 + j + 1 - q) (c - q) (by omega) (fun t ht => by
                have hd : q + t / 3 < ys.length := by rw [hyl]; omega
                have := hRy.cell (q + t / 3) ys[q + t / 3] (List.getElem?_eq_getElem hd) (t % 3) ((encS ys[q + t / 3])[t % 3]'(by rw [encS_len]; omega)) (List.getElem?_eq_getElem _)
                rw [show (q + t / 3) * 3 + t % 3 = q * 3 + t by omega] at this
                rw [this]
                rfl) hRy.frz
              have hqi : (q : Int) ≤ ((k + 1 + j + 1 : Nat) : Int) := by omega
              have hqc : (q : Int) ≤ (c : Int) := by omega
              have HSA := Lib.hid (hRy.cut (q := q) (by rw [hyl]; omega) zl)
              have HG := Lib.hid (hgr.trans (setCells_grown (w := wr) (g := g) (o := q * 3) (vs := zl)))
              have HC : Hid (ys.take q = compS xs) := by
                show _ = _
                rw [hcy, take_all HL.out]
              clear hRy hgr hcy hsame hyl
              go_wp2_with fail
              go_ret
              exact ⟨q, rfl, by omega, by rw [← HC.out]; exact HSA.out, HG.out⟩
        · have heq := fun W => eqSaleF he W
          have HE := Lib.hid he; clear he
          go_wp2_with fail
          go_quiet (fail)
          go_wp2_with fail
          refine ⟨⟨k + 1, by omega, by go_num, ?_, below_drewN hb _⟩, by simp [intOf]; omega⟩
          have := compS_step HY.out HX.out
          rw [if_neg (fun e => HE.out e.symm), HCS.out, ← take_snocS HX.out] at this
          exact this
      · obtain rfl : k + 1 = n := by omega
        have HV : Hid (compS xs = xs) := by
          have h := HCS.out
          rw [take_all HL.out] at h
          exact h
        go_wp2_with fail
        go_ret
        refine ⟨k + 1, rfl, Nat.le_refl _, ?_, ⟨hb.os, hb.tape, hb.output, hb.size, fun i hi _ => hb.block i hi⟩⟩
        rw [HV.out]
        have := (HR.out.up hb).sl (k := k + 1) (by rw [HL.out]; exact Nat.le_refl _)
        rwa [take_all HL.out] at this
end Go.Proofs.YtccmchmemafjdaaGreatDoor
