/- The law of what is read from a text. -/
import Derived.Test.YtnaoagkelbjflaaGreatDoorUa
set_option linter.unusedSimpArgs false
set_option linter.unusedVariables false
namespace Go.Proofs.YtnaoagkelbjflaaGreatDoor
open Go.RowKit

set_option maxRecDepth 100000 in
set_option maxHeartbeats 4000000 in
theorem parses_law (l : List UInt8) (w : World) (hE : Env w) (hlm : l.length ≤ maxLen) :
    Calls Tryz.prog 4 #[.string ⟨l.toArray⟩] w fun e w' => e = .returned (.bool true) ∧ Below w.heap.size w w' := by
  have hE' := Lib.hid hE; clear hE
  go_enter Tryz.func4, Tryz.ntmps4
  by_cases hl : 200 < l.length
  · go_wp2_with fail
    refine (awake_any _ hE'.out).mono ?_; rintro e w1 ⟨rfl, hb⟩
    go_wp2_with fail
    refine (awake_any _ (hE'.out.step hb)).mono ?_; rintro e w2 ⟨rfl, hb2⟩
    (replace hb := hb.trans (hb2.mono hb.size)); clear hb2
    go_wp2_with fail
    go_ret
    exact ⟨rfl, hb⟩
  · go_wp2_with fail
    refine (awake_any _ hE'.out).mono ?_; rintro e w1 ⟨rfl, hb⟩
    go_wp2_with fail
    refine (sparse_any l _ (by omega) (hE'.out.step hb)).mono ?_; rintro e w2 ⟨rfl, hb2⟩
    (replace hb := hb.trans (hb2.mono hb.size)); clear hb2
    cases hp : parseSp l with
    | none =>
      rw [parseSpV_none hp]
      have HP := Lib.hid hp; clear hp
      go_wp2_with fail
      refine (rsparse_any l _ (by omega)).mono ?_; rintro e w3 ⟨rfl, hb3⟩
      rw [parseSpV_none HP.out]
      obtain ⟨_, hb', X⟩ := step1 hb hb3
      clear hb hb3
      have hX0 := X.cell 0 _ rfl; have hX1 := X.cell 1 _ rfl; have hX2 := X.cell 2 _ rfl; have hX3 := X.cell 3 _ rfl; have hX4 := X.cell 4 _ rfl; have hX5 := X.cell 5 _ rfl; have hX6 := X.cell 6 _ rfl
      have hXlt := X.lt
      have heq := eqSp_self spZero
      dsimp only [spZero] at heq
      go_wp2_with fail
      go_ret
      exact ⟨rfl, Below.alloc hb' hb'.size _⟩
    | some x =>
      rw [parseSpV_some hp]
      have HP := Lib.hid hp; clear hp
      have HT : Hid (textSp x = l) := (parseSp_some HP.out).2
      go_wp2_with fail
      refine (rsparse_any l _ (by omega)).mono ?_; rintro e w3 ⟨rfl, hb3⟩
      rw [parseSpV_some HP.out]
      obtain ⟨_, hb', X⟩ := step1 (vs := [.int .i64 x.id, .int .i64 x.obv, .int .i64 x.rev, .int .i64 x.os, .int .i64 x.rs, .int .i64 x.ax, .int .i64 x.wt]) hb hb3
      clear hb hb3
      have hX0 := X.cell 0 _ rfl; have hX1 := X.cell 1 _ rfl; have hX2 := X.cell 2 _ rfl; have hX3 := X.cell 3 _ rfl; have hX4 := X.cell 4 _ rfl; have hX5 := X.cell 5 _ rfl; have hX6 := X.cell 6 _ rfl
      have hXlt := X.lt
      have heq := eqSp_self x
      go_wp2_with fail
      refine (stext_any x _ (hE'.out.step (Below.alloc hb' hb'.size _))).mono ?_; rintro e w4 ⟨rfl, hb4⟩
      rw [HT.out]
      obtain ⟨_, hb, _⟩ := step1 hb' hb4
      clear hb' hb4
      go_wp2_with fail
      go_ret
      exact ⟨rfl, hb⟩
end Go.Proofs.YtnaoagkelbjflaaGreatDoor
