/- What the cards of this seat share: what the row's list gives the walks, an input that fits, the arguments read again. -/
import Derived.Test.YtnaoagkelbjflaaGreatDoorCards
import Derived.Test.YtnaoagkelbjflaaGreatDoorTie
import Derived.Test.YtnaoagkelbjflaaGreatDoorStd
import Derived.WalkKit
import Derived.ProofKit
import Derived.OpenShut
import Derived.Deep.DeepHandedRow
import Derived.Deep.DeepWitnessRowRef
import Derived.Deep.SlicePairs
import Derived.Lib.LaidTab
import Derived.Stop.LaidErr
import Derived.Carry
set_option linter.unusedSimpArgs false
set_option linter.unusedVariables false
namespace Go.Proofs.YtnaoagkelbjflaaGreatDoor
open Go.ChangeShapes Go.WideShapes Go.ChangeAt Go.RowKit

theorem own : ownKnob Tryz.prog.godebug = none := by kernel_rfl
theorem laidOut : laidOutB Tryz.prog = true := by kernel_rfl
def laidL : List (String × DataW Unit) := Rows.specimenTextsRow.laid
theorem gTabType : (Tryz.prog.globals[3]?).map (·.type) = some 136 := by kernel_rfl
theorem gSyn : Tryz.prog.globalNamed "strconv.ErrSyntax" = some 4 := by kernel_rfl
theorem gRan : Tryz.prog.globalNamed "strconv.ErrRange" = some 5 := by kernel_rfl
theorem gSynType : (Tryz.prog.globals[4]?).map (·.type) = some 73 := by kernel_rfl
theorem gRanType : (Tryz.prog.globals[5]?).map (·.type) = some 73 := by kernel_rfl
theorem cells_u64 : Tryz.prog.cellsOf 88 = 1 := by kernel_rfl
theorem cells_tab : Tryz.prog.cellsOf 136 = 20 := by kernel_rfl
theorem cells_str : Tryz.prog.cellsOf 9 = 1 := by kernel_rfl
theorem cells_es : Tryz.prog.cellsOf 158 = 1 := by kernel_rfl
theorem star_es : "*" ++ "errors.errorString" = "*errors.errorString" := by decide
theorem row_es (u : TypeId) (h : Tryz.prog.typeName? 3 u = some "*errors.errorString") : u = 156 :=
  typeName_ptr_named (nm := "errors.errorString") (by rw [star_es]; kernel_rfl) (by kernel_rfl) (by decide) u (by rw [star_es]; exact h)

theorem var_lt {P : Program} {W : World} {n : String} {cs : Array Value} {g : Nat} (hg : P.globalNamed n = some g) (h : W.var? P n = some cs) : g < W.heap.size := by
  unfold World.var? at h
  simp only [hg, Option.bind_some] at h
  rcases Nat.lt_or_ge g W.heap.size with h' | h'
  · exact h'
  · simp [Array.getElem?_eq_none h'] at h
theorem g64 : Tryz.prog.globalNamed "math/bits.deBruijn64tab" = some 7 := by kernel_rfl
theorem laid_head {P : Program} {W : World} {n : String} {d : DataW Unit} {r : List (String × DataW Unit)} (h : laidMet P ((n, d) :: r) W) : ∃ cs, W.var? P n = some cs := by
  obtain ⟨_, ⟨g, t, cs, f, p, q, _, _, hv, _⟩, _⟩ := h
  exact ⟨cs, hv⟩

/-- What the row's list and the world's shape give. -/
theorem env_of {W : World} (h : laidMetH Tryz.prog laidL W) (hsh : W.ShapedOpen Tryz.prog) : Env W := by
  have h0 : laidMet Tryz.prog laidL W := h
  have hsz : 8 ≤ W.heap.size := by
    obtain ⟨cs, hv⟩ := laid_head h0.tail
    exact var_lt g64 hv
  refine ⟨hsz, Tryz.laysM145.s1_3 W hsh, ?_, ?_, ?_⟩
  · exact Lib.tabIs_of_head gTab gTabType Tryz.underlying136 Tryz.underlying88 cells_u64 cells_tab h0.tail.tail
  · obtain ⟨a, s, hv, _⟩ := laid_sentinel h0.tail.tail.tail.tail.tail gSyn gSynType Tryz.underlying73 row_es Tryz.underlying156 Tryz.underlying158 rfl rfl Tryz.underlying9 cells_es cells_str
    exact ⟨_, _, by simpa using World.var?_cell gSyn hv 0⟩
  · obtain ⟨a, s, hv, _⟩ := laid_sentinel h0.tail.tail.tail.tail gRan gRanType Tryz.underlying73 row_es Tryz.underlying156 Tryz.underlying158 rfl rfl Tryz.underlying9 cells_es cells_str
    exact ⟨_, _, by simpa using World.var?_cell gRan hv 0⟩
end Go.Proofs.YtnaoagkelbjflaaGreatDoor
