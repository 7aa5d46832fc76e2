/- The fixed results of chapter 47, in plain words. -/
import Derived.Test.YtfanjghfilkhmaaGreatDoorEi
import Derived.Test.YtfanjghfilkhmaaGreatDoorEj
set_option linter.unusedSimpArgs false
set_option linter.unusedVariables false
namespace Go.Proofs.YtfanjghfilkhmaaGreatDoor

def exE : Ed := ⟨[(12, 3), (20, 1)], [2]⟩
def exN : Ed := ⟨[(5, 4), (20, 1)], [2, 3]⟩
def exT47 : List UInt8 := [49, 32, 61, 32, 50, 48, 10, 51, 32, 61, 32, 49, 50, 10, 114, 101, 116, 105, 114, 101, 100, 32, 50, 10]
theorem exE_valid : validE exE := (valid_iff exE).2 (by
  refine ⟨by decide, by decide, by decide, ⟨by decide, by decide⟩, by decide⟩)
theorem exN_valid : validE exN := (valid_iff exN).2 (by
  refine ⟨by decide, by decide, by decide, ⟨by decide, by decide⟩, by decide⟩)
theorem exE_top : topE exE = 3 := by decide
theorem exE_find : findE exE 12 = some 3 := by decide
theorem exE_own : ownE exE 2 = none := by decide
theorem exE_new : newEnts exE [5, 20] (topE exE) = ([(5, 4), (20, 1)], 4) := by decide
theorem exE_ret : retE exE [5, 20] = [2, 3] := by
  refine asc_unique (by
    refine sortI_lt (by decide)) (by decide) fun x => ?_
  unfold retE
  rw [sortI_mem]
  simp [exE]
theorem exE_ok : NextOk exE [5, 20] := ⟨exE_valid, by decide, by rw [exE_ret]; decide, by rw [exE_new]; decide⟩
theorem exE_next : nextOf exE [5, 20] = exN := by unfold nextOf; rw [exE_new, exE_ret]; rfl
theorem exE_follows : followsE exE exN := by rw [← exE_next]; exact next_follows exE_ok
theorem exN_not : ¬ followsE exN exE := by
  rintro ⟨_, _, _, h⟩
  have := h 3 (by decide)
  revert this; decide
theorem exE_byNum : byNum exE = [(20, 1), (12, 3)] := by
  rw [byNum_eq exE_valid]
  decide +kernel
theorem exE_text : textE exE = exT47 := by
  unfold textE
  rw [if_pos exE_valid, exE_byNum]
  decide +kernel
theorem exE_isText : IsText exT47 exE := ⟨exE_valid, exE_text⟩
end Go.Proofs.YtfanjghfilkhmaaGreatDoor
