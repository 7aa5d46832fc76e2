/- A map of the call's own, from numbers to booleans, read as a function. -/
import Derived.Test.YtdokpmfejibdlaaGreatDoorBase
import Derived.Test.YtdokpmfejibdlaaGreatDoorProg
import Derived.Maps.OwnSet
import Derived.Maps.OwnOps
set_option linter.unusedSimpArgs false
set_option linter.unusedVariables false
namespace Go.Proofs.YtdokpmfejibdlaaGreatDoor
open Go.RowKit Go.Maps

def in64 (i : Int) : Prop := -9223372036854775808 ≤ i ∧ i ≤ 9223372036854775807
theorem wf64 {i : Int} (h : in64 i) : (Lit.int .i64 i).wf = true := by
  unfold in64 at h
  simp only [Lit.wf, Bool.and_eq_true, decide_eq_true_eq]
  simpa [IntKind.min, IntKind.max, IntKind.bits, IntKind.signed] using h
theorem keyedI : Keyed Tryz.prog 3 := int_keyed Tryz.underlying3
theorem keyI {i : Int} (h : in64 i) : keyOf Tryz.prog 3 (.int .i64 i) = some (.int .i64 i) := keyOf_int_mk Tryz.underlying3 (wf64 h)
theorem zeroB (w : World) : (zeroValue 4).run Tryz.prog w = .ok (.bool false) w := by kernel_rfl
theorem plainB_gen {P : Program} {t : TypeId} (he : P.underlying t = some .bool) {v : Value} {b : Bool} {ps : List MemPlace} (h : plainElem (H := Unit) P t v = some (.lit (.bool b), ps)) : v = .bool b := by
  unfold plainElem at h
  rw [he] at h
  cases v <;> simp at h
  rw [h.1]
theorem plainB_inv {v : Value} {b : Bool} {ps : List MemPlace} (h : plainElem (H := Unit) Tryz.prog 4 v = some (.lit (.bool b), ps)) : v = .bool b := plainB_gen Tryz.underlying4 h
/-- Block b is a map of at most n entries; at number i it holds f i (false where there is none). -/
def MapB (w : World) (b n : Nat) (f : Int → Bool) : Prop :=
  ∃ D : DataW Unit, w.ownsMap Tryz.prog 3 (plainElem Tryz.prog 4) b n D ∧ ∀ i, in64 i → D.atKey (.int .i64 i) (.lit (.bool false)) = .lit (.bool (f i))
theorem MapB.made (w : World) : MapB (w.alloc (.map #[] 0)) w.heap.size 0 (fun _ => false) := ⟨.map [], World.ownsMap_made _ _ _ _, fun i _ => rfl⟩
theorem MapB.kept {w w' : World} {b n : Nat} {f : Int → Bool} {row : Option Nat} (h : MapB w b n f) (hg : w.grownBy w' row) (hne : some b ≠ row) : MapB w' b n f := by
  obtain ⟨D, h1, h2⟩ := h
  exact ⟨D, h1.kept hg hne, h2⟩
theorem MapB.lt {w : World} {b n : Nat} {f : Int → Bool} (h : MapB w b n f) : b < w.heap.size := by obtain ⟨D, h1, _⟩ := h; exact h1.lt
theorem grown_of_below {a w : World} (h : Below a.heap.size a w) : a.grownBy w none := ⟨h.os, h.tape, h.output, h.size, fun i hi _ => h.block i hi⟩
theorem MapB.up {w w' : World} {b n : Nat} {f : Int → Bool} (h : MapB w b n f) (hb : Below w.heap.size w w') : MapB w' b n f := h.kept (grown_of_below hb) (by simp)
theorem MapB.look {w : World} {b n : Nat} {f : Int → Bool} (h : MapB w b n f) {i : Int} (hi : in64 i) : (Instr.lookup 156 (.map (some b)) (.int .i64 i) false).run Tryz.prog w = .ok (.bool (f i)) w := by
  obtain ⟨D, h1, h2⟩ := h
  obtain ⟨v, ps, hrun, hv⟩ := h1.lookup keyedI Tryz.underlying156 (zeroB w) (plainElem_bool Tryz.underlying4 false) (keyI hi)
  rw [h2 i hi] at hv
  rw [hrun, plainB_inv hv]
theorem below_of_map {B : Nat} {a w w' : World} {b : Nat} (h : Below B a w) (hg : w.grownBy w' (some b)) (hb : B ≤ b) (hB : B ≤ a.heap.size) : Below B a w' := by
  refine ⟨hg.os.trans h.os, hg.tape.trans h.tape, hg.output.trans h.output, Nat.le_trans h.size hg.size, fun k hk => ?_⟩
  have hz := h.size
  rw [hg.block k (by omega) (fun e => by injection e with e; omega)]
  exact h.block k hk
theorem wpList_mapB {w : World} {ops : Array Oper} {rest : List Oper} {o : Oper} {a : Act} {Q : Exit → Act → World → Prop}
    (hg : o.guard = none) (m x v : Operand) (hop : o.op = Op.mapUpdate 156 m x v) (b n : Nat) (f : Int → Bool) (hm : a.eval m = .map (some b)) (h : MapB w b n f) (hn : n < maxLen) (i : Int) (hi : in64 i) (y : Bool)
    (hx : a.eval x = .int .i64 i) (hv : a.eval v = .bool y)
    (hK : ∀ w', MapB w' b (n + 1) (fun j => if j = i then y else f j) → w.grownBy w' (some b) → wpList Tryz.prog ops Q rest (a.put o.dst undef) w') :
    wpList Tryz.prog ops Q (o :: rest) a w := by
  obtain ⟨D, h1, h2⟩ := h
  refine wpList_mapUpdate_own w hg m x v 156 hop 3 4 keyedI Tryz.underlying156 _ b n D hm h1 hn _ _ (.int .i64 i) hx hv (keyI hi) (.lit (.bool y)) [] (plainElem_bool Tryz.underlying4 y) ?_
  intro w' h3 hgr
  refine hK w' ⟨_, h3, fun j hj => ?_⟩ hgr
  show _ = DataW.lit (.bool (if j = i then y else f j))
  by_cases e : j = i
  · subst e
    rw [if_pos rfl, atKey_put_same h1.isMap (by trivial)]
  · rw [if_neg e, atKey_put_other (fun e' => e (by injection e')), h2 j hj]
end Go.Proofs.YtdokpmfejibdlaaGreatDoor
