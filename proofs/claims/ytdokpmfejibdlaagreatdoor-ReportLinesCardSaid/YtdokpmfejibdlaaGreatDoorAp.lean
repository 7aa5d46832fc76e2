/- append of a whole row, wherever it lies. -/
import Derived.Test.YtdokpmfejibdlaaGreatDoorBase
import Derived.Maps.AppendAt
import Derived.RangeFuncBox
import Derived.Laws.OwnMore
set_option linter.unusedSimpArgs false
set_option linter.unusedVariables false
namespace Go.Proofs.YtdokpmfejibdlaaGreatDoor
open Go.RowKit

section
variable {P : Program}
theorem run_append_nothing (w : World) (base : Nat) (t ty e : TypeId) (i : TypeInfo) (size : Nat) (ht : P.underlying t = some (.slice e)) (hi : P.info? e = some i) (v : Value) (n : Nat) (xs : List Value) (hown : w.ownsRow base e size v n xs) (c : Nat) :
    (Builtin.append_ #[t, t] ty #[v, .slice none 0 c]).run P w = .ok v w := by
  rcases hown.2 with ⟨rfl, rfl⟩ | ⟨g, cap, cur, rfl, _, _, hnc, _⟩
  · simp [Builtin.append_, run_underlying ht, sizeOf, typeInfo, hi, Builtin.lenOf, Builtin.firstCells]
  · simp [Builtin.append_, run_underlying ht, sizeOf, typeInfo, hi, Builtin.lenOf, Builtin.firstCells, hnc, storeCells]
theorem run_append_sl {α : Type} {enc : α → List Value} (w : World) (base : Nat) (t ty e : TypeId) (i : TypeInfo) (z : Value) (k bytes : Nat) (hk : ∀ x, (enc x).length = k) (h1 : ∀ x, ∀ u ∈ enc x, u.oneCell' = true)
    (ht : P.underlying t = some (.slice e)) (hi : P.info? e = some i) (hz : i.zero = some z) (hsize : i.size = k) (hby : i.bytes = bytes) (hzs : z.cells.size = k) (hsz : 0 < k)
    (v : Value) (n : Nat) (xs : List Value) (hown : w.ownsRow base e k v n xs) {L B : Nat} {A : Option Addr} {m : Nat} {ys : List α} (c : Nat) (hS : Sl w L B k enc A m ys)
    (h63 : n + m ≤ maxLen) (hbytes : (n + m) * bytes ≤ 140737488355328) (hbase : base ≤ w.heap.size) :
    ∃ v' w', (Builtin.append_ #[t, t] ty #[v, .slice A m c]).run P w = .ok v' w' ∧ w'.ownsRow base e k v' (n + m) (xs ++ ys.flatMap enc) ∧ w.grownBy w' v.ownBlock := by
  have hl := hS.len
  have hfl : (ys.flatMap enc).length = m * k := by rw [flat_len hk, hl]
  rcases A with _ | ad
  · have hm : m = 0 := by
      rcases Nat.eq_zero_or_pos m with h0 | h0
      · exact h0
      · obtain ⟨b, off, h, _⟩ := hS.2 h0; cases h
    subst hm
    have hy : ys = [] := List.eq_nil_of_length_eq_zero hl
    subst hy
    exact ⟨v, w, run_append_nothing w base t ty e i k ht hi v n xs hown c, by simpa using hown, World.grownBy.refl w _⟩
  · have hcells : ∀ j u, (ys.flatMap enc)[j]? = some u → w.cell? (ad.add j) = some u := by
      intro j u hu
      rcases Nat.eq_zero_or_pos m with h0 | h0
      · subst h0
        have hy : ys = [] := List.eq_nil_of_length_eq_zero hl
        subst hy
        simp at hu
      · obtain ⟨b, off, hA, _, _, hc⟩ := hS.2 h0
        injection hA with hA
        subst hA
        have hj : j < m * k := by
          rcases Nat.lt_or_ge j (m * k) with h | h
          · exact h
          · rw [List.getElem?_eq_none (by rw [hfl]; exact h)] at hu; cases hu
        have hq : j / k < ys.length := by rw [hl]; exact (Nat.div_lt_iff_lt_mul hsz).2 hj
        have hr : j % k < (enc ys[j / k]).length := by rw [hk]; exact Nat.mod_lt _ hsz
        have e0 : j / k * k + j % k = j := by rw [Nat.mul_comm]; exact Nat.div_add_mod j k
        have h2 := flat_at hk ys (j / k) ys[j / k] (j % k) ((enc ys[j / k])[j % k]) (List.getElem?_eq_getElem hq) (List.getElem?_eq_getElem hr)
        rw [e0, hu] at h2
        have h3 := hc (j / k) ys[j / k] (List.getElem?_eq_getElem hq) (j % k) u (by rw [List.getElem?_eq_getElem hr, ← Option.some.inj h2])
        rw [Nat.add_assoc, e0] at h3
        rw [Addr.add]
        split
        · rename_i h0; simpa [h0] using h3
        · exact h3
    obtain ⟨v', w', hrun, h2, h3, _⟩ := run_append_own_at (P := P) w base t ty e i z k bytes ht hi hz hsize hby hzs hsz v n xs hown ad m c (ys.flatMap enc) hfl hcells (fun u hu => by
      obtain ⟨x, _, hx⟩ := List.mem_flatMap.1 hu; exact h1 x u hx) h63 hbytes hbase
    exact ⟨v', w', hrun, h2, h3⟩
theorem wpList_append_sl {α : Type} {enc : α → List Value} (w : World) {ops : Array Oper} {rest : List Oper} {o : Oper} {a : Act} {Q : Exit → Act → World → Prop} (hgd : o.guard = none) (s x : Operand) (t : TypeId)
    (ho : o.op = .call { callee := .builtin .append, args := #[s, x], argTypes := #[t, t] })
    (base : Nat) (e : TypeId) (i : TypeInfo) (z : Value) (k bytes : Nat) (hk : ∀ x, (enc x).length = k) (h1 : ∀ x, ∀ u ∈ enc x, u.oneCell' = true)
    (ht : P.underlying t = some (.slice e)) (hi : P.info? e = some i) (hz : i.zero = some z) (hsize : i.size = k) (hby : i.bytes = bytes) (hzs : z.cells.size = k) (hsz : 0 < k)
    (v : Value) (n : Nat) (xs : List Value) (hs : a.eval s = v) (hown : w.ownsRow base e k v n xs) {L B : Nat} {A : Option Addr} {m : Nat} {ys : List α} (c : Nat) (hx : a.eval x = .slice A m c) (hS : Sl w L B k enc A m ys)
    (h63 : n + m ≤ maxLen) (hbytes : (n + m) * bytes ≤ 140737488355328) (hbase : base ≤ w.heap.size)
    (h : ∀ v' w', w'.ownsRow base e k v' (n + m) (xs ++ ys.flatMap enc) → w.grownBy w' v.ownBlock → wpList P ops Q rest (a.put o.dst v') w') :
    wpList P ops Q (o :: rest) a w := by
  refine wpList_plain hgd fun K hK => ?_
  obtain ⟨v', w', hr, h2, h3⟩ := run_append_sl (P := P) w base t o.type e i z k bytes hk h1 ht hi hz hsize hby hzs hsz v n xs hown c hS h63 hbytes hbase
  unfold Oper.wp execOp
  simp only [ho, resolve, invoke, builtin, Sem.run_bind, Sem.run_pure, Result.andThen_ok, List.map_toArray, List.map_cons, List.map_nil, hs, hx, hr]
  exact hK _ _ (h v' w' h2 h3)
end
end Go.Proofs.YtdokpmfejibdlaaGreatDoor
