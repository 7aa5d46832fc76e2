/- What the cards of this seat share: what the row's list gives the walks, an input that fits, the arguments read again. -/
import Derived.Test.YthbckkjihijekaaDoorCards
import Derived.Test.YthbckkjihijekaaDoorTie
import Derived.Test.YthbckkjihijekaaDoorStd
import Derived.WalkKit
import Derived.ProofKit
import Derived.OpenShut
import Derived.Deep.DeepHandedRow
import Derived.Deep.DeepWitnessRowRef
import Derived.Deep.SlicePairs
import Derived.Lib.LaidTab
import Derived.Stop.LaidErr
import Derived.Carry
set_option linter.unusedSimpArgs false
set_option linter.unusedVariables false
namespace Go.Proofs.YthbckkjihijekaaDoor
open Go.ChangeShapes Go.WideShapes Go.ChangeAt Go.RowKit

theorem own : ownKnob Tryd.prog.godebug = none := by kernel_rfl
theorem laidOut : laidOutB Tryd.prog = true := by kernel_rfl
def laidL : List (String × DataW Unit) := Rows.yearsMatchReferenceRow.laid
theorem gTabType : (Tryd.prog.globals[3]?).map (·.type) = some 129 := by kernel_rfl
theorem gSyn : Tryd.prog.globalNamed "strconv.ErrSyntax" = some 1 := by kernel_rfl
theorem gRan : Tryd.prog.globalNamed "strconv.ErrRange" = some 2 := by kernel_rfl
theorem gSynType : (Tryd.prog.globals[1]?).map (·.type) = some 69 := by kernel_rfl
theorem gRanType : (Tryd.prog.globals[2]?).map (·.type) = some 69 := by kernel_rfl
theorem cells_u64 : Tryd.prog.cellsOf 77 = 1 := by kernel_rfl
theorem cells_tab : Tryd.prog.cellsOf 129 = 20 := by kernel_rfl
theorem cells_str : Tryd.prog.cellsOf 9 = 1 := by kernel_rfl
theorem cells_es : Tryd.prog.cellsOf 135 = 1 := by kernel_rfl
theorem star_es : "*" ++ "errors.errorString" = "*errors.errorString" := by decide
theorem row_es (u : TypeId) (h : Tryd.prog.typeName? 3 u = some "*errors.errorString") : u = 133 :=
  typeName_ptr_named (nm := "errors.errorString") (by rw [star_es]; kernel_rfl) (by kernel_rfl) (by decide) u (by rw [star_es]; exact h)

theorem var_lt {P : Program} {W : World} {n : String} {cs : Array Value} {g : Nat} (hg : P.globalNamed n = some g) (h : W.var? P n = some cs) : g < W.heap.size := by
  unfold World.var? at h
  simp only [hg, Option.bind_some] at h
  rcases Nat.lt_or_ge g W.heap.size with h' | h'
  · exact h'
  · simp [Array.getElem?_eq_none h'] at h
theorem g64 : Tryd.prog.globalNamed "math/bits.deBruijn64tab" = some 5 := by kernel_rfl
theorem laid_head {P : Program} {W : World} {n : String} {d : DataW Unit} {r : List (String × DataW Unit)} (h : laidMet P ((n, d) :: r) W) : ∃ cs, W.var? P n = some cs := by
  obtain ⟨_, ⟨g, t, cs, f, p, q, _, _, hv, _⟩, _⟩ := h
  exact ⟨cs, hv⟩

/-- What the row's list and the world's shape give. -/
theorem env_of {W : World} (h : laidMetH Tryd.prog laidL W) (hsh : W.ShapedOpen Tryd.prog) : Env W := by
  have h0 : laidMet Tryd.prog laidL W := h
  have hsz : 6 ≤ W.heap.size := by
    obtain ⟨cs, hv⟩ := laid_head h0.tail
    exact var_lt g64 hv
  refine ⟨hsz, Tryd.laysM219.s1_3 W hsh, ?_, ?_, ?_⟩
  · exact Lib.tabIs_of_head gTab gTabType Tryd.underlying129 Tryd.underlying77 cells_u64 cells_tab h0.tail.tail
  · obtain ⟨a, s, hv, _⟩ := laid_sentinel h0.tail.tail.tail.tail gSyn gSynType Tryd.underlying69 row_es Tryd.underlying133 Tryd.underlying135 rfl rfl Tryd.underlying9 cells_es cells_str
    exact ⟨_, _, by simpa using World.var?_cell gSyn hv 0⟩
  · obtain ⟨a, s, hv, _⟩ := laid_sentinel h0.tail.tail.tail gRan gRanType Tryd.underlying69 row_es Tryd.underlying133 Tryd.underlying135 rfl rfl Tryd.underlying9 cells_es cells_str
    exact ⟨_, _, by simpa using World.var?_cell gRan hv 0⟩
end Go.Proofs.YthbckkjihijekaaDoor
