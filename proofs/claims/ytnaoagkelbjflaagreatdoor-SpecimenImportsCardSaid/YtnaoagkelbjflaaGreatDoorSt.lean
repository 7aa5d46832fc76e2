/- The first specimen with a number: the program's and the reference's Find; lists of numbers and of specimens compared. -/
import Derived.Test.YtnaoagkelbjflaaGreatDoorSq
import Derived.Test.YtnaoagkelbjflaaGreatDoorSn0
set_option linter.unusedSimpArgs false
set_option linter.unusedVariables false
namespace Go.Proofs.YtnaoagkelbjflaaGreatDoor
open Go.RowKit

def findX (l : List Spm) (i : Int) : Spm := (findS l i).getD spZero
def findV (l : List Spm) (i : Int) : Value := .tuple #[.agg #[.int .i64 ((findX l i)).id, .int .i64 ((findX l i)).obv, .int .i64 ((findX l i)).rev, .int .i64 ((findX l i)).os, .int .i64 ((findX l i)).rs, .int .i64 ((findX l i)).ax, .int .i64 ((findX l i)).wt], .bool (findS l i).isSome]
theorem findV_some {l : List Spm} {i : Int} {x : Spm} (h : findS l i = some x) : findV l i = .tuple #[.agg #[.int .i64 x.id, .int .i64 x.obv, .int .i64 x.rev, .int .i64 x.os, .int .i64 x.rs, .int .i64 x.ax, .int .i64 x.wt], .bool true] := by unfold findV findX; rw [h]; rfl
theorem findV_none {l : List Spm} {i : Int} (h : findS l i = none) : findV l i = .tuple #[.agg #[.int .i64 0, .int .i64 0, .int .i64 0, .int .i64 0, .int .i64 0, .int .i64 0, .int .i64 0], .bool false] := by unfold findV findX; rw [h]; rfl
theorem find_hit {xs : List Spm} {k : Nat} {x : Spm} {i : Int} (hx : xs[k]? = some x) (hn : ∀ y ∈ xs.take k, y.id ≠ i) (he : x.id = i) : findS xs i = some x := by
  obtain ⟨h1, h2⟩ := List.getElem?_eq_some_iff.1 hx
  unfold findS
  have : xs = xs.take k ++ x :: xs.drop (k + 1) := by
    conv => lhs; rw [← List.take_append_drop k xs]
    rw [List.drop_eq_getElem_cons h1, h2]
  rw [this, List.find?_append]
  have h3 : (xs.take k).find? (fun y => y.id == i) = none := by
    rw [List.find?_eq_none]
    intro y hy; simpa using hn y hy
  rw [h3]
  simp [he]
set_option maxRecDepth 100000 in
set_option maxHeartbeats 1000000 in
theorem sfind_any (A : Option Addr) (len cap : Nat) (xs : List Spm) (i : Int) (w : World) (hlen : len ≤ 1000000) (hS : Sl w 0 w.heap.size 7 encS A len xs) :
    Calls Tryz.prog 19 #[.slice A len cap, .int .i64 i] w fun e w' => e = .returned (findV xs i) ∧ Below w.heap.size w w' := by
  have HL := Lib.hid hS.len
  have HS := Lib.hid hS; clear hS
  go_enter Tryz.func19, Tryz.ntmps19
  go_wp2_with fail
  go_loopw [10] (fun s wr => ∃ k : Nat, k ≤ len ∧ s = .int .i64 (k : Int) ∧ (∀ y ∈ xs.take k, y.id ≠ i) ∧ Bx wr w.heap.size [.int .i64 0, .int .i64 0, .int .i64 0, .int .i64 0, .int .i64 0, .int .i64 0, .int .i64 0] ∧ Below w.heap.size w wr) (fun s _ => len - (intOf s).toNat)
  case atStart => exact ⟨0, by omega, rfl, by simp, Bx.new _ _ _, by (repeat (first | exact Below.refl _ _ | assumption | refine Below.alloc ?_ (by first | omega | (simp only [World.size_alloc]; omega) | (simp; done) | (simp; omega)) _ | refine Below.setCell ?_ (by first | omega | (simp only [World.size_alloc]; omega) | (simp; done) | (simp; omega)) _ | refine Below.drew ?_ | refine below_drewN ?_ _))⟩
  case round =>
    obtain ⟨k, hk, rfl, hn, Z, hb⟩ := hrel
    have HN := Lib.hid hn; clear hn
    by_cases hlt : k < len
    · obtain ⟨b, off, x, rfl, hbb, hx, c0, c1, c2, c3, c4, c5, c6⟩ := (HS.out.below hb (Nat.le_refl _)).sp hlt
      have HX := Lib.hid hx; clear hx
      have hwr : w.heap.size < wr.heap.size := Z.lt
      by_cases he : x.id = i
      · have heq : (x.id == i) = true := by simpa using he
        have HV := Lib.hid (findV_some (find_hit HX.out HN.out he))
        clear he
        have Z0 := Z.cell 0 _ rfl; have Zf0 := Z.frz 0; have Z1 := Z.cell 1 _ rfl; have Zf1 := Z.frz 1; have Z2 := Z.cell 2 _ rfl; have Zf2 := Z.frz 2; have Z3 := Z.cell 3 _ rfl; have Zf3 := Z.frz 3; have Z4 := Z.cell 4 _ rfl; have Zf4 := Z.frz 4; have Z5 := Z.cell 5 _ rfl; have Zf5 := Z.frz 5; have Z6 := Z.cell 6 _ rfl; have Zf6 := Z.frz 6; have Zlt := Z.lt
        go_wp2_with fail
        refine bodyPost_ret (v := findV xs i) (by rw [HV.out]; simp [results, Tryz.results19, go_sem, ((Z.all7 _ _ _ _ _ _ _).alloc _).cell 0 _ rfl, ((Z.all7 _ _ _ _ _ _ _).alloc _).cell 1 _ rfl, ((Z.all7 _ _ _ _ _ _ _).alloc _).cell 2 _ rfl, ((Z.all7 _ _ _ _ _ _ _).alloc _).cell 3 _ rfl, ((Z.all7 _ _ _ _ _ _ _).alloc _).cell 4 _ rfl, ((Z.all7 _ _ _ _ _ _ _).alloc _).cell 5 _ rfl, ((Z.all7 _ _ _ _ _ _ _).alloc _).cell 6 _ rfl]) rfl ⟨rfl, ?_⟩
        exact Below.alloc (below_set7 hb (Nat.le_refl _) _ _ _ _ _ _ _) (by simp only [size_set]; exact hb.size) _
      · have heq : (x.id == i) = false := by simpa using he
        have HNE := Lib.hid he; clear he
        go_wp2_with fail
        go_roundw
        case rel =>
          refine ⟨k + 1, by omega, by go_num, fun y hy => ?_, Z.alloc _, hb.alloc hb.size _⟩
          rcases (mem_take_snoc HX.out).1 hy with h | rfl
          · exact HN.out y h
          · exact HNE.out
        case measure => simp [intOf]; omega
    · obtain rfl : k = len := by omega
      have HV : Hid (findV xs i = .tuple #[.agg #[.int .i64 0, .int .i64 0, .int .i64 0, .int .i64 0, .int .i64 0, .int .i64 0, .int .i64 0], .bool false]) := by
        show _ = _
        have hn := HN.out
        rw [List.take_of_length_le (by have := HL.out; omega)] at hn
        exact findV_none (findS_none.2 hn)
      have Z0 := Z.cell 0 _ rfl; have Zf0 := Z.frz 0; have Z1 := Z.cell 1 _ rfl; have Zf1 := Z.frz 1; have Z2 := Z.cell 2 _ rfl; have Zf2 := Z.frz 2; have Z3 := Z.cell 3 _ rfl; have Zf3 := Z.frz 3; have Z4 := Z.cell 4 _ rfl; have Zf4 := Z.frz 4; have Z5 := Z.cell 5 _ rfl; have Zf5 := Z.frz 5; have Z6 := Z.cell 6 _ rfl; have Zf6 := Z.frz 6; have Zlt := Z.lt
      go_wp2_with fail
      refine bodyPost_ret (v := findV xs i) (by rw [HV.out]; simp [results, Tryz.results19, go_sem, (Z.all7 _ _ _ _ _ _ _).cell 0 _ rfl, (Z.all7 _ _ _ _ _ _ _).cell 1 _ rfl, (Z.all7 _ _ _ _ _ _ _).cell 2 _ rfl, (Z.all7 _ _ _ _ _ _ _).cell 3 _ rfl, (Z.all7 _ _ _ _ _ _ _).cell 4 _ rfl, (Z.all7 _ _ _ _ _ _ _).cell 5 _ rfl, (Z.all7 _ _ _ _ _ _ _).cell 6 _ rfl]) rfl ⟨rfl, below_set7 hb (Nat.le_refl _) _ _ _ _ _ _ _⟩
set_option maxRecDepth 100000 in
set_option maxHeartbeats 1000000 in
theorem rfind_any (A : Option Addr) (len cap : Nat) (xs : List Spm) (i : Int) (w : World) (hlen : len ≤ 1000000) (hS : Sl w 0 w.heap.size 7 encS A len xs) :
    Calls Tryz.prog 20 #[.slice A len cap, .int .i64 i] w fun e w' => e = .returned (findV xs i) ∧ Below w.heap.size w w' := by
  have HL := Lib.hid hS.len
  have HS := Lib.hid hS; clear hS
  go_enter Tryz.func20, Tryz.ntmps20
  go_wp2_with fail
  go_loopw [6] (fun s wr => ∃ k : Nat, k ≤ len ∧ s = .int .i64 (k : Int) ∧ (∀ y ∈ xs.take k, y.id ≠ i) ∧ Bx wr w.heap.size [.int .i64 0, .int .i64 0, .int .i64 0, .int .i64 0, .int .i64 0, .int .i64 0, .int .i64 0] ∧ Below w.heap.size w wr) (fun s _ => len - (intOf s).toNat)
  case atStart => exact ⟨0, by omega, rfl, by simp, Bx.new _ _ _, by (repeat (first | exact Below.refl _ _ | assumption | refine Below.alloc ?_ (by first | omega | (simp only [World.size_alloc]; omega) | (simp; done) | (simp; omega)) _ | refine Below.setCell ?_ (by first | omega | (simp only [World.size_alloc]; omega) | (simp; done) | (simp; omega)) _ | refine Below.drew ?_ | refine below_drewN ?_ _))⟩
  case round =>
    obtain ⟨k, hk, rfl, hn, Z, hb⟩ := hrel
    have HN := Lib.hid hn; clear hn
    by_cases hlt : k < len
    · obtain ⟨b, off, x, rfl, hbb, hx, c0, c1, c2, c3, c4, c5, c6⟩ := (HS.out.below hb (Nat.le_refl _)).sp hlt
      have HX := Lib.hid hx; clear hx
      have hwr : w.heap.size < wr.heap.size := Z.lt
      by_cases he : x.id = i
      · have heq : (x.id == i) = true := by simpa using he
        have HV := Lib.hid (findV_some (find_hit HX.out HN.out he))
        clear he
        have Z0 := Z.cell 0 _ rfl; have Zf0 := Z.frz 0; have Z1 := Z.cell 1 _ rfl; have Zf1 := Z.frz 1; have Z2 := Z.cell 2 _ rfl; have Zf2 := Z.frz 2; have Z3 := Z.cell 3 _ rfl; have Zf3 := Z.frz 3; have Z4 := Z.cell 4 _ rfl; have Zf4 := Z.frz 4; have Z5 := Z.cell 5 _ rfl; have Zf5 := Z.frz 5; have Z6 := Z.cell 6 _ rfl; have Zf6 := Z.frz 6; have Zlt := Z.lt
        go_wp2_with fail
        refine bodyPost_ret (v := findV xs i) (by rw [HV.out]; simp [results, Tryz.results20, go_sem, (Z.all7 _ _ _ _ _ _ _).cell 0 _ rfl, (Z.all7 _ _ _ _ _ _ _).cell 1 _ rfl, (Z.all7 _ _ _ _ _ _ _).cell 2 _ rfl, (Z.all7 _ _ _ _ _ _ _).cell 3 _ rfl, (Z.all7 _ _ _ _ _ _ _).cell 4 _ rfl, (Z.all7 _ _ _ _ _ _ _).cell 5 _ rfl, (Z.all7 _ _ _ _ _ _ _).cell 6 _ rfl]) rfl ⟨rfl, below_set7 hb (Nat.le_refl _) _ _ _ _ _ _ _⟩
      · have heq : (x.id == i) = false := by simpa using he
        have HNE := Lib.hid he; clear he
        go_wp2_with fail
        go_roundw
        case rel =>
          refine ⟨k + 1, by omega, by go_num, fun y hy => ?_, Z, hb⟩
          rcases (mem_take_snoc HX.out).1 hy with h | rfl
          · exact HN.out y h
          · exact HNE.out
        case measure => simp [intOf]; omega
    · obtain rfl : k = len := by omega
      have HV : Hid (findV xs i = .tuple #[.agg #[.int .i64 0, .int .i64 0, .int .i64 0, .int .i64 0, .int .i64 0, .int .i64 0, .int .i64 0], .bool false]) := by
        show _ = _
        have hn := HN.out
        rw [List.take_of_length_le (by have := HL.out; omega)] at hn
        exact findV_none (findS_none.2 hn)
      have Z0 := Z.cell 0 _ rfl; have Zf0 := Z.frz 0; have Z1 := Z.cell 1 _ rfl; have Zf1 := Z.frz 1; have Z2 := Z.cell 2 _ rfl; have Zf2 := Z.frz 2; have Z3 := Z.cell 3 _ rfl; have Zf3 := Z.frz 3; have Z4 := Z.cell 4 _ rfl; have Zf4 := Z.frz 4; have Z5 := Z.cell 5 _ rfl; have Zf5 := Z.frz 5; have Z6 := Z.cell 6 _ rfl; have Zf6 := Z.frz 6; have Zlt := Z.lt
      go_wp2_with fail
      refine bodyPost_ret (v := findV xs i) (by rw [HV.out]; simp [results, Tryz.results20, go_sem, (Z.all7 _ _ _ _ _ _ _).cell 0 _ rfl, (Z.all7 _ _ _ _ _ _ _).cell 1 _ rfl, (Z.all7 _ _ _ _ _ _ _).cell 2 _ rfl, (Z.all7 _ _ _ _ _ _ _).cell 3 _ rfl, (Z.all7 _ _ _ _ _ _ _).cell 4 _ rfl, (Z.all7 _ _ _ _ _ _ _).cell 5 _ rfl, (Z.all7 _ _ _ _ _ _ _).cell 6 _ rfl]) rfl ⟨rfl, below_set7 hb (Nat.le_refl _) _ _ _ _ _ _ _⟩
end Go.Proofs.YtnaoagkelbjflaaGreatDoor
