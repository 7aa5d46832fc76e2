/- Chapter 54: component.steps. (Printed by hwt.py from Wr.txt.) -/
import Derived.Test.YtdokpmfejibdlaaGreatDoorWp
import Derived.Deep.Onto
import Derived.Deep.LoopGhost
set_option linter.unusedSimpArgs false
set_option linter.unusedVariables false
namespace Go.Proofs.YtdokpmfejibdlaaGreatDoor
open Go.RowKit Go.Maps

section
variable {w w' : World} {size : Nat} {A : Option Addr} {b off n cap : Nat} {olds : List Value}
theorem came_up (h : Came w size A b off n cap olds) (hb : Below w.heap.size w w') : Came w' size A b off n cap olds := by
  have h0 : ∀ j, j < (cap - n) * size → 0 < cap := fun j hj => by
    rcases Nat.eq_zero_or_pos cap with e | e
    · subst e; simp at hj
    · exact e
  have h1 : ∀ j u, olds[j]? = some u → 0 < cap := fun j u hu => by
    have hj := (List.getElem?_eq_some_iff.1 hu).1
    rw [h.oldsLen] at hj
    rcases Nat.eq_zero_or_pos cap with e | e
    · have := h.le; subst e; obtain rfl : n = 0 := by omega
      simp at hj
    · exact e
  exact ⟨h.le, h.addr, fun hc => Nat.lt_of_lt_of_le (h.lt hc) hb.size, h.oldsLen, fun j u hu => (hb.cell (p := ⟨b, off + j, none⟩) (h.lt (h1 j u hu))).trans (h.olds j u hu),
    fun j hj => ⟨by rw [hb.cell (p := ⟨b, off + n * size + j, none⟩) (h.lt (h0 j hj))]; exact (h.spare j hj).1, by rw [hb.frozen (p := ⟨b, off + n * size + j, none⟩) (h.lt (h0 j hj))]; exact (h.spare j hj).2⟩⟩
/-- Another block is written. -/
theorem came_grown {row : Option Nat} (h : Came w size A b off n cap olds) (hg : w.grownBy w' row) (hr : 0 < cap → row ≠ some b) : Came w' size A b off n cap olds := by
  have h0 : ∀ j, j < (cap - n) * size → 0 < cap := fun j hj => by
    rcases Nat.eq_zero_or_pos cap with e | e
    · subst e; simp at hj
    · exact e
  have h1 : ∀ j u, olds[j]? = some u → 0 < cap := fun j u hu => by
    have hj := (List.getElem?_eq_some_iff.1 hu).1
    rw [h.oldsLen] at hj
    rcases Nat.eq_zero_or_pos cap with e | e
    · have := h.le; subst e; obtain rfl : n = 0 := by omega
      simp at hj
    · exact e
  have hk : 0 < cap → w'.heap[b]? = w.heap[b]? := fun hc => hg.block b (h.lt hc) (fun e => hr hc e.symm)
  exact ⟨h.le, h.addr, fun hc => Nat.lt_of_lt_of_le (h.lt hc) hg.size, h.oldsLen, fun j u hu => (World.cell?_of_block (a := ⟨b, off + j, none⟩) (hk (h1 j u hu))).trans (h.olds j u hu),
    fun j hj => ⟨by rw [World.cell?_of_block (a := ⟨b, off + n * size + j, none⟩) (hk (h0 j hj))]; exact (h.spare j hj).1, by rw [World.frozen?_of_block (a := ⟨b, off + n * size + j, none⟩) (hk (h0 j hj))]; exact (h.spare j hj).2⟩⟩
/-- The head is cut off. -/
theorem came_cut {x : List Value} {A' : Option Addr} (h : Came w size A b off (n + 1) cap (x ++ olds)) (hx : x.length = size) (hA : 1 < cap → A' = some ⟨b, off + size, none⟩) : Came w size A' b (off + size) n (cap - 1) olds := by
  have hle := h.le
  have hol := h.oldsLen
  rw [List.length_append, hx, Nat.add_mul, Nat.one_mul] at hol
  refine ⟨by omega, fun hc => hA (by omega), fun hc => h.lt (by omega), by omega, fun j u hu => ?_, fun j hj => ?_⟩
  · have := h.olds (size + j) u (by rw [List.getElem?_append_right (by omega), hx]; rw [show size + j - size = j from by omega]; exact hu)
    rwa [← Nat.add_assoc] at this
  · have := h.spare j (by rwa [show cap - (n + 1) = cap - 1 - n from by omega])
    rwa [show off + (n + 1) * size + j = off + size + n * size + j from by rw [Nat.add_mul]; omega] at this
theorem came_fresh {e : TypeId} (w : World) (vs : List Value) (hv : vs.length = size) : Came (w.alloc (.cells vs.toArray e)) size (some ⟨w.heap.size, 0, none⟩) w.heap.size 0 1 1 vs :=
  ⟨by omega, fun _ => rfl, fun _ => by simp, by simpa using hv, fun j u hu => by rw [Nat.zero_add, World.cell?_alloc_new]; simpa using hu, fun j hj => by simp at hj⟩
end
section
variable {P : Program}
theorem run_append_q {w : World} {size : Nat} {A : Option Addr} {b off n cap : Nat} {olds : List Value} (hc : Came w size A b off n cap olds) (hA : A ≠ none)
    (t ty e : TypeId) (i : TypeInfo) (z : Value) (bytes : Nat) (ht : P.underlying t = some (.slice e)) (hi : P.info? e = some i) (hz : i.zero = some z) (hsize : i.size = size) (hby : i.bytes = bytes) (hzs : z.cells.size = size) (hsz : 0 < size)
    (ad : Addr) (c : Nat) (news : List Value) (hl : news.length = 1 * size) (hnews : ∀ j u, news[j]? = some u → w.cell? (ad.add j) = some u) (h1 : ∀ u ∈ news, u.oneCell' = true)
    (h63 : n + 1 ≤ maxLen) (hbytes : (n + 1) * bytes ≤ 140737488355328) :
    ∃ A' b' off' cap' w', (Builtin.append_ #[t, t] ty #[.slice A n cap, .slice (some ad) 1 c]).run P w = .ok (.slice A' (n + 1) cap') w' ∧ Came w' size A' b' off' (n + 1) cap' (olds ++ news) ∧ A' ≠ none ∧ w.grownBy w' (if 0 < cap then some b else none) ∧ ((0 < cap ∧ b' = b) ∨ w.heap.size ≤ b') := by
  by_cases hr : n + 1 ≤ cap
  · have hcap : 0 < cap := by omega
    have hao := hc.addr hcap
    subst hao
    subst hsize
    have hsp : ∀ j, j < news.length → j < (cap - n) * i.size := fun j hj => by
      have : 1 * i.size ≤ (cap - n) * i.size := Nat.mul_le_mul_right _ (by omega)
      omega
    have hsome : ∀ j, j < news.length → (w.cell? ⟨b, off + n * i.size + j, none⟩).isSome = true := fun j hj => (hc.spare j (hsp j hj)).1
    have hrun := run_append_room_cells (P := P) w t ty e i ht hi b off n cap ad 1 c news hl hnews h1 hr hsome (fun j hj => (hc.spare j (hsp j hj)).2)
    have hgr : w.grownBy (w.setCells b (off + n * i.size) news) (some b) := setCells_grownW
    have hol := hc.oldsLen
    refine ⟨_, b, off, cap, _, hrun, ⟨by omega, fun _ => rfl, fun _ => Nat.lt_of_lt_of_le (hc.lt hcap) hgr.size, by rw [List.length_append, hol, hl, Nat.add_mul], fun j u hu => ?_, fun j hj => ?_⟩, by simp, by rw [if_pos hcap]; exact hgr, .inl ⟨hcap, rfl⟩⟩
    · by_cases hj : j < olds.length
      · rw [List.getElem?_append_left hj] at hu
        rw [World.cell?_setCells_out b _ _ _ _ (fun _ _ => Or.inl (by show off + j < _; omega))]
        exact hc.olds j u hu
      · rw [List.getElem?_append_right (by omega)] at hu
        obtain ⟨hlt, rfl⟩ := List.getElem?_eq_some_iff.1 hu
        have := World.cell?_setCells_in b news (off + n * i.size) w hsome (j - olds.length) hlt
        rwa [show off + n * i.size + (j - olds.length) = off + j from by omega] at this
    · have hj2 : news.length + j < (cap - n) * i.size := by
        rw [show cap - n = (cap - (n + 1)) + 1 from by omega, Nat.add_mul, Nat.one_mul]
        omega
      have e1 : off + (n + 1) * i.size + j = off + n * i.size + (news.length + j) := by rw [Nat.add_mul, hl]; omega
      rw [e1, World.cell?_setCells_out b _ _ _ _ (fun _ _ => Or.inr (by show _ ≤ off + n * i.size + (news.length + j); omega)), World.frozen?_setCells]
      exact hc.spare _ hj2
  · obtain ⟨ad0, rfl⟩ := Option.ne_none_iff_exists'.1 hA
    have hle := hc.le
    have holds : ∀ j u, olds[j]? = some u → w.cell? (ad0.add j) = some u := fun j u hu => by
      have hj := (List.getElem?_eq_some_iff.1 hu).1
      rw [hc.oldsLen] at hj
      have hcap : 0 < cap := by
        rcases Nat.eq_zero_or_pos cap with e | e
        · obtain rfl : n = 0 := by omega
          simp at hj
        · exact e
      have := hc.addr hcap
      injection this with this
      subst this
      rw [Addr.add_lit]
      exact hc.olds j u hu
    obtain ⟨v', w', hrun, r1, r2⟩ := run_append_arg_grows (P := P) w t ty e i z size bytes ht hi hz hsize hby hzs hsz ad0 n cap olds hc.oldsLen holds ad 1 c news hl hnews (by omega) h63 hbytes
    rcases r1.2 with ⟨_, h0⟩ | ⟨g', cap', cur, rfl, hg1, hg2, hg3, hg4, hg5, hg6⟩
    · omega
    · have hgl : g' < w'.heap.size := (Array.getElem?_eq_some_iff.1 hg2).1
      refine ⟨_, g', 0, cap', w', hrun, ⟨hg3, fun _ => rfl, fun _ => hgl, r1.1, fun j u hu => ?_, fun j hj => ?_⟩, by simp, ⟨r2.os, r2.tape, r2.output, r2.size, fun k hk _ => r2.block k hk (by simp)⟩, ?_⟩
      · have := r1.cells (g := g') rfl j u hu
        rwa [Addr.add_lit] at this
      · have hjs : 0 + (n + 1) * size + j < cur.size := by
          rw [hg5]
          have : (n + 1) * size + (cap' - (n + 1)) * size = cap' * size := by rw [← Nat.add_mul]; congr 1; omega
          omega
        refine ⟨?_, ?_⟩
        · rw [cell_of_row w' g' _ cur _ _ hg2, Array.getElem?_eq_getElem hjs]
          rfl
        · unfold World.frozen?
          simp only [hg2]
          simp
      · exact .inr hg1
theorem wpList_append_q (w : World) {ops : Array Oper} {rest : List Oper} {o : Oper} {a : Act} {Q : Exit → Act → World → Prop} (hgd : o.guard = none) (s x : Operand) (t : TypeId)
    (ho : o.op = .call { callee := .builtin .append, args := #[s, x], argTypes := #[t, t] })
    {size : Nat} {A : Option Addr} {b off n cap : Nat} {olds : List Value} (hc : Came w size A b off n cap olds) (hA : A ≠ none)
    (e : TypeId) (i : TypeInfo) (z : Value) (bytes : Nat) (ht : P.underlying t = some (.slice e)) (hi : P.info? e = some i) (hz : i.zero = some z) (hsize : i.size = size) (hby : i.bytes = bytes) (hzs : z.cells.size = size) (hsz : 0 < size)
    (hs : a.eval s = .slice A n cap)
    (ad : Addr) (c : Nat) (news : List Value) (hx : a.eval x = .slice (some ad) 1 c) (hl : news.length = 1 * size) (hnews : ∀ j u, news[j]? = some u → w.cell? (ad.add j) = some u) (h1 : ∀ u ∈ news, u.oneCell' = true)
    (h63 : n + 1 ≤ maxLen) (hbytes : (n + 1) * bytes ≤ 140737488355328)
    (hK : ∀ A' b' off' cap' w', Came w' size A' b' off' (n + 1) cap' (olds ++ news) → A' ≠ none → w.grownBy w' (if 0 < cap then some b else none) → ((0 < cap ∧ b' = b) ∨ w.heap.size ≤ b') → wpList P ops Q rest (a.put o.dst (.slice A' (n + 1) cap')) w') : wpList P ops Q (o :: rest) a w := by
  refine wpList_plain hgd fun K hK' => ?_
  obtain ⟨A', b', off', cap', w', hrun, r1, r2, r3, r4⟩ := run_append_q (P := P) hc hA t o.type e i z bytes ht hi hz hsize hby hzs hsz ad c news hl hnews h1 h63 hbytes
  unfold Oper.wp
  simp [execOp, ho, resolve, invoke, builtin, hs, hx, hrun, Result.andThen]
  exact hK' _ _ (hK A' b' off' cap' w' r1 r2 r3 r4)
end
/-- A map written in a region that draws its order. -/
theorem step_mapF {H : Type} {k e : TypeId} {κ ν : Type} {K : Kys k κ} {V : Vls H e ν} [DecidableEq κ] {t : TypeId} (ht : Tryz.prog.underlying t = some (.map k e)) {w : World} {ops : Array Oper} {o : Oper} {a : Act} {J : Act → World → Prop} {Q : Exit → Act → World → Prop} {E : Prop}
    (hgd : o.guard = none) (m x v : Operand) (hop : o.op = Op.mapUpdate t m x v) (b n : Nat) (f : κ → Option ν) (hm : a.eval m = .map (some b)) (h : MapF K V w b n f) (hn : n < maxLen) (i : κ) (hi : K.ok i) (y : ν) (hy : V.ok y)
    (hx : a.eval x = K.kv i) (hv : a.eval v = V.vv y)
    (hK : ∀ w', MapF K V w' b (if (f i).isSome then n else n + 1) (fun j => if j = i then some y else f j) → w.grownBy w' (some b) → J (a.put o.dst undef) w') :
    if Region.wanted o (yielded ops a.tmps) = true then Oper.wp Tryz.prog o a w J Q else E := by
  have hw : Region.wanted o (yielded ops a.tmps) = true := by simp [Region.wanted, hgd]
  rw [if_pos hw]
  obtain ⟨D, h1, h2, h3⟩ := h
  obtain ⟨w', hrun, h4, hgr⟩ := h1.update K.keyed ht hn (K.key i hi) (V.put y hy)
  have hs : size (D.put (K.kl i) (V.d y)) = if (f i).isSome then n else n + 1 := by rw [size_put (h1.tidy K.keyed), h2, (h3 i hi).get.1]
  have hJ := hK w' ⟨_, by have := own_le h4; rwa [hs] at this, hs, fun j hj => by
    show readAt V _ (K.kl j) (if j = i then some y else f j)
    by_cases ej : j = i
    · subst ej
      rw [if_pos rfl]
      exact ⟨hy, has_put_same h1.isMap (K.lit j hj) _, fun z => atKey_put_same h1.isMap (K.lit j hj) _ z⟩
    · rw [if_neg ej]
      have hne : K.kl j ≠ K.kl i := fun e' => ej (K.inj j i hj hi e')
      have := h3 j hj
      cases hf : f j with
      | none => rw [hf] at this; exact (has_put_other hne _).trans this
      | some x => rw [hf] at this; exact ⟨this.1, (has_put_other hne _).trans this.2.1, fun z => (atKey_put_other hne _ z).trans (this.2.2 z)⟩⟩ hgr
  unfold Oper.wp
  simp [execOp, hop, hm, hx, hv, hrun, Result.andThen]
  exact hJ
end Go.Proofs.YtdokpmfejibdlaaGreatDoor
set_option linter.unusedSimpArgs false
set_option linter.unusedVariables false
namespace Go.Proofs.YtdokpmfejibdlaaGreatDoor
open Go.RowKit Go.Maps

theorem flatD_cons (d : DieP) (ds : List DieP) : (d :: ds).flatMap encD = encD d ++ ds.flatMap encD := rfl
theorem flatD_len (ds : List DieP) : (ds.flatMap encD).length = ds.length * 2 := by
  induction ds with
  | nil => rfl
  | cons d ds ih => rw [flatD_cons, List.length_append, ih, encD_len, List.length_cons]; omega
/-- What steps carries through its loops; the queue's row is not the block av. -/
structure StM (w0 w : World) (av : Nat) (known queue : List DieP) (v : Value) : Prop where
  q : ∃ A b off cap, v = .slice A queue.length cap ∧ Came w 2 A b off queue.length cap (queue.flatMap encD) ∧ A ≠ none ∧ (0 < cap → w0.heap.size + 3 ≤ b ∧ b ≠ av)
  m : ∃ f : DieP → Option Int, MapF KD VI w (w0.heap.size + 2) known.length f ∧ (∀ d, (f d).isSome = true ↔ d ∈ known) ∧ ∀ d x, f d = some x → 0 ≤ x ∧ x < (known.length : Int)
  bl : Below w0.heap.size w0 w
  hz : w0.heap.size + 3 ≤ w.heap.size
  av : av < w.heap.size
section
variable {w0 w w' : World} {av : Nat} {known queue : List DieP} {v : Value}
theorem StM.up (h : StM w0 w av known queue v) (hb : Below w.heap.size w w') : StM w0 w' av known queue v := by
  obtain ⟨A, b, off, cap, h1, h2, h3, h4⟩ := h.q
  obtain ⟨f, k1, k2, k3⟩ := h.m
  exact ⟨⟨A, b, off, cap, h1, came_up h2 hb, h3, h4⟩, ⟨f, k1.up hb, k2, k3⟩, below_keep' h.bl hb, Nat.le_trans h.hz hb.size, Nat.lt_of_lt_of_le h.av hb.size⟩
/-- Another block to be avoided: a new one. -/
theorem StM.avoid (h : StM w0 w av known queue v) (o : Obj) : StM w0 (w.alloc o) w.heap.size known queue v := by
  have h' := h.up (one_alloc w o)
  obtain ⟨A, b, off, cap, h1, h2, h3, h4⟩ := h.q
  obtain ⟨f, k1, k2, k3⟩ := h'.m
  exact ⟨⟨A, b, off, cap, h1, came_up h2 (one_alloc w o), h3, fun hc => ⟨(h4 hc).1, fun e => by have := h2.lt hc; omega⟩⟩, ⟨f, k1, k2, k3⟩, h'.bl, h'.hz, by simp⟩
theorem StM.avoid0 (h : StM w0 w av known queue v) : StM w0 w w0.heap.size known queue v := by
  obtain ⟨A, b, off, cap, h1, h2, h3, h4⟩ := h.q
  exact ⟨⟨A, b, off, cap, h1, h2, h3, fun hc => ⟨(h4 hc).1, fun e => by have := (h4 hc).1; omega⟩⟩, h.m, h.bl, h.hz, by have := h.hz; omega⟩
/-- A die that is new is entered. -/
theorem StM.enter {d : DieP} {x : Int} {f : DieP → Option Int} (h : StM w0 w av known queue v) (hd : d ∉ known) (k2 : ∀ d, (f d).isSome = true ↔ d ∈ known) (k3 : ∀ d x, f d = some x → 0 ≤ x ∧ x < (known.length : Int))
    (hM : MapF KD VI w' (w0.heap.size + 2) (if (f d).isSome then known.length else known.length + 1) (fun j => if j = d then some x else f j)) (hx : 0 ≤ x ∧ x ≤ (known.length : Int)) (hg : w.grownBy w' (some (w0.heap.size + 2))) : StM w0 w' av (known ++ [d]) queue v := by
  obtain ⟨A, b, off, cap, h1, h2, h3, h4⟩ := h.q
  have hn : (f d).isSome = false := by
    cases e : (f d).isSome
    · rfl
    · exact absurd ((k2 d).1 e) hd
  rw [hn] at hM
  refine ⟨⟨A, b, off, cap, h1, came_grown h2 hg (fun hc e => by have := (h4 hc).1; injection e with e; omega), h3, h4⟩, ⟨_, by rw [List.length_append]; exact hM, fun j => ?_, fun j y hy => ?_⟩, below_of_map h.bl hg (by omega) (Nat.le_refl _), Nat.le_trans h.hz hg.size, Nat.lt_of_lt_of_le h.av hg.size⟩
  · by_cases e : j = d
    · subst e; simp
    · rw [if_neg e, k2]; simp [e]
  · rw [List.length_append]
    simp only [List.length_singleton, Int.natCast_add]
    by_cases e : j = d
    · rw [if_pos e] at hy
      injection hy with hy
      subst hy
      omega
    · rw [if_neg e] at hy
      have := k3 j y hy
      omega
/-- .. and queued. -/
theorem StM.push {d : DieP} {A' : Option Addr} {b off cap b' off' cap' : Nat} (h : StM w0 w av known queue v)
    (h4 : 0 < cap → w0.heap.size + 3 ≤ b ∧ b ≠ av) (hc : Came w' 2 A' b' off' (queue.length + 1) cap' (queue.flatMap encD ++ encD d)) (hA : A' ≠ none) (hg : w.grownBy w' (if 0 < cap then some b else none)) (hb : (0 < cap ∧ b' = b) ∨ w.heap.size ≤ b') :
    StM w0 w' av known (queue ++ [d]) (.slice A' (queue.length + 1) cap') := by
  obtain ⟨f, k1, k2, k3⟩ := h.m
  have hz := h.hz
  have hav := h.av
  refine ⟨⟨A', b', off', cap', by rw [List.length_append]; rfl, by rw [List.length_append, List.flatMap_append]; simpa using hc, hA, fun _ => ?_⟩, ⟨f, k1.kept hg ?_, k2, k3⟩, Below.grown h.bl hg h.bl.size ?_, Nat.le_trans hz hg.size, Nat.lt_of_lt_of_le hav hg.size⟩
  · rcases hb with ⟨h1, h2⟩ | h1
    · have := h4 h1; omega
    · omega
  · split
    · rename_i hc0
      have := h4 hc0
      intro e
      injection e with e
      omega
    · simp
  · intro k hk
    split at hk
    · rename_i hc0
      have := h4 hc0
      injection hk with hk
      omega
    · cases hk
/-- A box kept through the growing of the queue. -/
theorem row_ne {b cap x : Nat} (h : 0 < cap → b ≠ x) : (if 0 < cap then some b else none) ≠ some x := by
  split
  · rename_i hc
    intro e
    injection e with e
    exact h hc e
  · simp
end
theorem in64D_of {g : Gr} (hg : GrOk g) {d : DieP} (h : d ∈ diesG g) : in64D d := by
  unfold in64D in64
  rcases diesG_mem.1 h with ⟨h1, h2⟩ | ⟨h1, h2⟩
  · have := hg.ro _ h2
    omega
  · have := hg.rr _ h2
    omega
theorem in64D_acr {g : Gr} (hg : GrOk g) {x : Lnk} (hx : x ∈ g.links) (d : DieP) : in64D (acrossP x d) := by
  have h1 := hg.ro _ ((hg.eo _).2 ⟨x, hx, rfl⟩)
  have h2 := hg.rr _ ((hg.er _).2 ⟨x, hx, rfl⟩)
  unfold acrossP acrossD in64D in64 obvD revD
  split
  · simp; omega
  · split
    · simp; omega
    · simp
set_option maxRecDepth 100000 in
set_option maxHeartbeats 4000000 in
theorem steps_any (A : Option Addr) (n c : Nat) (B : Option Addr) (m d : Nat) (C : Option Addr) (k l : Nat) (g : Gr) (a : DieP) (w : World) (hG : GrM w A n B m C k g) (hg : GrOk g) (ha : a ∈ diesG g) :
    Calls Tryz.prog 121 #[.agg #[.slice A n c, .slice B m d, .slice C k l], .agg #[.int .i64 a.side, .int .i64 a.num]] w fun e w' => (∃ bm nm f, e = .returned (.map (some bm)) ∧ nm ≤ 64 ∧ w.heap.size ≤ bm ∧ MapF KD VI w' bm nm f ∧ ∀ d, (f d).isSome = true ↔ Reach g a d) ∧ Below w.heap.size w w' := by
  have hk : k ≤ 64 := by have := hG.links.len; have := hg.ll; omega
  have hN : (diesG g).length ≤ 64 := by rw [diesG_len]; have := hg.lo; have := hg.lr; omega
  have HUL : Hid (∀ W, Below w.heap.size w W → Sl W 0 W.heap.size 3 encL C k g.links) := fun W hW => hG.links.up hW (Nat.le_refl _) (Nat.le_refl _)
  have HLN := Lib.hid hG.links.len
  have HG := Lib.hid hg; clear hg hG
  have HA := Lib.hid ha; clear ha
  have HA64 := Lib.hid (in64D_of HG.out HA.out)
  obtain ⟨i0, hi, hz0, hz1, hz2⟩ := info_parts Tryz.infoDi
  have hmm := @run_makeMap Tryz.prog
  go_enter Tryz.func121, Tryz.ntmps121
  have hM0 : MapF KD VI (((w.alloc (.cells #[.slice A n c, .slice B m d, .slice C k l] 52)).alloc (.cells #[.int .i64 a.side, .int .i64 a.num] 72)).alloc (.map #[] 0)) (w.heap.size + 1 + 1) 0 (fun _ => none) := by
    have := MapF.made KD VI ((w.alloc (.cells #[.slice A n c, .slice B m d, .slice C k l] 52)).alloc (.cells #[.int .i64 a.side, .int .i64 a.num] 72))
    rwa [World.size_alloc, World.size_alloc] at this
  have h64z : in64 0 := by unfold in64; omega
  have P2 := (((Bx.new w [.slice A n c, .slice B m d, .slice C k l] 52).alloc (.cells #[.int .i64 a.side, .int .i64 a.num] 72)).alloc (.map #[] 0))
  have P3 := (Bx.new (w.alloc (.cells #[.slice A n c, .slice B m d, .slice C k l] 52)) [.int .i64 a.side, .int .i64 a.num] 72).alloc (.map #[] 0)
  rw [World.size_alloc] at P3
  have hb0 : Below w.heap.size w (((w.alloc (.cells #[.slice A n c, .slice B m d, .slice C k l] 52)).alloc (.cells #[.int .i64 a.side, .int .i64 a.num] 72)).alloc (.map #[] 0)) := by (repeat (first | exact Below.refl _ _ | assumption | refine Below.alloc ?_ (by first | omega | (simp only [World.size_alloc]; omega) | (simp; done) | (simp; omega)) _ | refine Below.setCell ?_ (by first | omega | (simp only [World.size_alloc]; omega) | (simp; done) | (simp; omega)) _ | refine Below.drew ?_ | refine below_drewN ?_ _))
  go_wp2_with (refine wpList_mapF Tryz.underlying145 rfl _ _ _ (.inr rfl) (w.heap.size + 1 + 1) 0 (fun _ => none) rfl hM0 (by decide) a HA64.out 0 h64z rfl rfl ?_; intro w1 hM hgr; have D2 := P2.grown hgr (by simp; omega); have D3 := P3.grown hgr (by simp); have d0 := D3.cell 0 _ rfl; have d1 := D3.cell 1 _ rfl; have dl := D3.lt)
  have hb1 : Below w.heap.size w w1 := below_of_map hb0 hgr (by omega) (Nat.le_refl _)
  have hz1' := hgr.size
  rw [World.size_alloc, World.size_alloc, World.size_alloc] at hz1'
  have HST : StM w (w1.alloc (.cells #[.int .i64 a.side, .int .i64 a.num] 72)) w.heap.size [a] [a] (.slice (some ⟨w1.heap.size, 0, none⟩) 1 1) :=
    ⟨⟨_, _, _, _, rfl, came_fresh w1 (encD a) rfl, by simp, fun _ => by omega⟩, ⟨_, hM.up (one_alloc _ _), fun j => by by_cases e : j = a <;> simp [e], fun j y hy => by
      split at hy
      · injection hy with hy; subst hy; simp
      · cases hy⟩, hb1.alloc hb1.size _, by simp; omega, by simp; omega⟩
  clear hmm hM0 h64z P2 P3 hb0 hM hgr D3 d0 d1 dl
  replace D2 := D2.alloc (.cells #[.int .i64 a.side, .int .i64 a.num] 72)
  generalize w1.alloc (.cells #[.int .i64 a.side, .int .i64 a.num] 72) = W1 at *
  generalize w1.heap.size = bq at *
  go_loopg [6] 65 (fun kk v wr => ∃ known queue : List DieP, StM w wr w.heap.size known queue v ∧ BI g a known queue ∧ kk ≤ 65 ∧ kk + known.length = 65 + queue.length ∧ Bx wr w.heap.size [.slice A n c, .slice B m d, .slice C k l])
  case atStart => exact ⟨[a], [a], HST, BI.begin g a, by omega, rfl, D2⟩
  case round =>
    clear HST D2 hb1 hz1'
    obtain ⟨known, queue, hST, hBI, hk65, hkk, D2⟩ := hrel
    have hkn := hBI.len HG.out HA.out
    have HKK := Lib.hid hkk; clear hkk
    have HBI := Lib.hid hBI; clear hBI
    obtain ⟨Aq, b, off, cap, rfl, hC, hA0, h4⟩ := hST.q
    rcases queue with _ | ⟨e, queue⟩
    · obtain ⟨f, k1, k2, k3⟩ := hST.m
      have hbl := hST.bl
      have HRES : Hid (∀ d, (f d).isSome = true ↔ Reach g a d) := fun d => (k2 d).trans (HBI.out.all d)
      clear hC k2 k3 h4
      go_wp2_with fail
      go_ret
      exact ⟨⟨_, known.length, f, rfl, by omega, by omega, k1, HRES.out⟩, hbl⟩
    · have hcap : 0 < cap := by have := hC.le; simp at this; omega
      have hAe := hC.addr hcap
      subst hAe
      have c0 : wr.cell? ⟨b, off, none⟩ = some (.int .i64 e.side) := hC.olds 0 _ rfl
      have c1 : wr.cell? ⟨b, off + 1, none⟩ = some (.int .i64 e.num) := hC.olds 1 _ rfl
      have cl := hC.lt hcap
      have q2 := D2.cell 2 _ rfl
      have ql := D2.lt
      go_wp2_with fail
      have B7 := Bx.new wr [.int .i64 e.side, .int .i64 e.num] 72
      have B7' : Bx (wr.alloc (.cells #[.int .i64 e.side, .int .i64 e.num] 72)) wr.heap.size [.int .i64 e.side, .int .i64 e.num] := B7
      have hST1 := hST.avoid (.cells #[.int .i64 e.side, .int .i64 e.num] 72)
      have D2' := D2.alloc (.cells #[.int .i64 e.side, .int .i64 e.num] 72)
      have hrz := hST.hz
      clear hC c0 c1 cl q2 ql B7 hST D2 h4 hA0
      generalize wr.alloc (.cells #[.int .i64 e.side, .int .i64 e.num] 72) = W2 at *
      generalize wr.heap.size = b7 at *
      obtain ⟨N0, hN0⟩ : ∃ N0, N0 + known.length = 64 + (queue.length + 1) := ⟨gk - 1, by have h1 := HKK.out; rw [List.length_cons] at h1; omega⟩
      have hn0 : N0 < gk := by have h1 := HKK.out; rw [List.length_cons] at h1; omega
      have HN0 := Lib.hid hn0
      have hn65 : N0 ≤ 64 := by omega
      clear HKK hk65 hn0
      go_loopg [6, 30] k (fun kk v i wi => ∃ (j : Nat) (kn qu : List DieP), kk + j = k ∧ i = .int .i64 (j : Int) ∧ StM w wi b7 kn (e :: qu) v ∧ BW g a e j kn qu ∧ N0 + kn.length = 64 + (qu.length + 1) ∧ Bx wi b7 [.int .i64 e.side, .int .i64 e.num] ∧ Bx wi w.heap.size [.slice A n c, .slice B m d, .slice C k l])
      case atStart => exact ⟨0, known, queue, rfl, rfl, hST1, HBI.out.pop, hN0, B7', D2'⟩
      case round =>
        clear hST1 HBI hN0 B7' D2' hkn
        obtain ⟨j, kn, qu, hjk, rfl, hST, hBW, hN1, B7, D2⟩ := hrel
        rename World => wi
        obtain ⟨gi, rfl⟩ : ∃ gi, gi = gk := ⟨_, rfl⟩
        have hj : j ≤ k := by omega
        have HJK := Lib.hid hjk; clear hjk
        have hkn := hBW.len HG.out HA.out
        have HBW := Lib.hid hBW; clear hBW
        have HN1 := Lib.hid hN1; clear hN1
        obtain ⟨Aq, b, off, cap, rfl, hC, hA0, h4⟩ := hST.q
        by_cases hlt : j < k
        · obtain ⟨bl, ol, x, hAx, hbb, hx, x0, x1, x2⟩ := (HUL.out _ hST.bl).ln hlt
          subst hAx
          have HX := Lib.hid hx; clear hx
          have HXM := Lib.hid (List.mem_of_getElem? HX.out)
          have HI64 := Lib.hid (in64D_acr HG.out HXM.out e)
          have HAC := Lib.hid (fun W => across_any x e W)
          generalize hnx : acrossP x e = nx at *
          have HNX := Lib.hid hnx; clear hnx
          have b0 := B7.cell 0 _ rfl
          have b1 := B7.cell 1 _ rfl
          have blt := B7.lt
          clear hC
          go_wp2_with fail
          refine (HAC.out _).mono ?_; rintro r w4 ⟨rfl, hb4⟩
          have hbW : Below wi.heap.size wi w4 := (one_alloc wi _).trans (hb4.mono (by simp))
          have hST5 := (hST.up hbW).up (one_alloc w4 (.cells #[.int .i64 nx.side, .int .i64 nx.num] 72))
          have B7' := (B7.up hbW).alloc (.cells #[.int .i64 nx.side, .int .i64 nx.num] 72)
          have D2' := (D2.up hbW).alloc (.cells #[.int .i64 nx.side, .int .i64 nx.num] 72)
          have B10 := Bx.new w4 [.int .i64 nx.side, .int .i64 nx.num] 72
          have B10' : Bx (w4.alloc (.cells #[.int .i64 nx.side, .int .i64 nx.num] 72)) w4.heap.size [.int .i64 nx.side, .int .i64 nx.num] := B10
          have hw4 : b7 < w4.heap.size := (B7.up hbW).lt
          clear hbW hb4 hST B7 D2 B10 b0 b1 blt x0 x1 x2
          obtain ⟨f, hM, k2, k3⟩ := hST5.m
          have hlk : (Instr.lookup 145 (.map (some (w.heap.size + 1 + 1))) (.agg #[.int .i64 nx.side, .int .i64 nx.num]) true).run Tryz.prog (w4.alloc (.cells #[.int .i64 nx.side, .int .i64 nx.num] 72)) = .ok (.tuple #[.int .i64 ((f nx).getD 0), .bool (f nx).isSome]) (w4.alloc (.cells #[.int .i64 nx.side, .int .i64 nx.num] 72)) := hM.lookOk Tryz.underlying145 HI64.out
          have HK2 := Lib.hid k2; clear k2
          have HK3 := Lib.hid k3; clear k3
          have HM := Lib.hid hM; clear hM
          have HFN := Lib.hid (HK2.out nx)
          cases hac : acrossD x e with
          | none =>
            have HR := Lib.hid (HBW.out.none_ HX.out hac)
            clear hac
            go_wp2_with fail
            go_roundg (gi - 1)
            case measure => have := HJK.out; omega
            case rel => exact ⟨j + 1, kn, qu, by have := HJK.out; omega, by go_num, hST5, HR.out, HN1.out, B7', D2'⟩
          | some nb =>
            obtain rfl : nb = nx := by have := HNX.out; unfold acrossP at this; rw [hac] at this; exact this
            by_cases hkm : nb ∈ kn
            · have hfs : (f nb).isSome = true := HFN.out.2 hkm
              have HR := Lib.hid (HBW.out.old HX.out hac hkm)
              clear hac hkm
              go_wp2_with fail
              go_roundg (gi - 1)
              case measure => have := HJK.out; omega
              case rel => exact ⟨j + 1, kn, qu, by have := HJK.out; omega, by go_num, hST5, HR.out, HN1.out, B7', D2'⟩
            · have hfs : (f nb).isSome = false := by
                cases e' : (f nb).isSome
                · rfl
                · exact absurd (HFN.out.1 e') hkm
              have HR := Lib.hid (HBW.out.new HX.out hac hkm)
              have HKM := Lib.hid hkm
              have hed : e ∈ kn := HBW.out.dk
              obtain ⟨v0, hv0⟩ := Option.isSome_iff_exists.1 ((HK2.out e).2 hed)
              have hv1 := HK3.out e v0 hv0
              have hlk2 : ∀ W, MapF KD VI W (w.heap.size + 1 + 1) kn.length f → (Instr.lookup 145 (.map (some (w.heap.size + 1 + 1))) (.agg #[.int .i64 e.side, .int .i64 e.num]) false).run Tryz.prog W = .ok (.int .i64 v0) W := fun W hW => by
                have := hW.look Tryz.underlying145 (i := e) (in64D_of HG.out ((HBW.out.reach e hed).mem HG.out HA.out))
                rw [hv0] at this
                exact this
              have HL2 := Lib.hid hlk2
              have hwr : IntKind.i64.wrap (v0 + 1) = v0 + 1 := by rw [IntKind.wrap_i64]; omega
              clear hac hkm hv0 hed hlk2
              go_wp2_with fail
              clear hlk
              generalize w4.alloc (.cells #[.int .i64 nb.side, .int .i64 nb.num] 72) = W5 at *
              generalize hb10 : w4.heap.size = b10 at *
              replace hST5 := hST5.up (Below.drew (Below.refl _ _))
              replace B7' := B7'.up (Below.drew (Below.refl _ _))
              replace D2' := D2'.up (Below.drew (Below.refl _ _))
              replace B10' := B10'.up (Below.drew (Below.refl _ _))
              have HM' : Hid (MapF KD VI W5.drew (w.heap.size + 2) kn.length f) := HM.out.up (Below.drew (Below.refl _ _))
              refine wp_region_noPanic ?_
              refine wp_region_held_drew (S := fun U => (U.cell? ⟨b10, 0, none⟩ = some (.int .i64 nb.side) ∧ U.cell? ⟨b10, 1, none⟩ = some (.int .i64 nb.num)) ∧ (U.cell? ⟨b7, 0, none⟩ = some (.int .i64 e.side) ∧ U.cell? ⟨b7, 1, none⟩ = some (.int .i64 e.num))) (by kernel_rfl) ⟨bx2c B10', bx2c B7'⟩ (fun hHeld => ?_)
              generalize W5.drew = W6 at *
              refine' takeW 0 ?_ ?_ ?_ (by kernel_rfl) (by kernel_rfl) (by kernel_rfl) (fun _ _ _ h => h) hHeld ?_
              rotate_left 2
              · (simp only [List.getElem?_toArray, List.getElem?_cons_succ, List.getElem?_cons_zero]; try rfl)
              · rfl
              · (intro w hSw; (try dsimp only at hSw); go_simp; first | done | with_reducible rfl)
              (try simp only [Act.put, List.setIfInBounds_toArray, List.set_cons_zero, List.set_cons_succ])
              refine' takeW 1 ?_ ?_ ?_ (by kernel_rfl) (by kernel_rfl) (by kernel_rfl) (fun _ _ _ h => h) hHeld ?_
              rotate_left 2
              · (simp only [List.getElem?_toArray, List.getElem?_cons_succ, List.getElem?_cons_zero]; try rfl)
              · rfl
              · (intro w hSw; (try dsimp only at hSw); go_simp; first | done | with_reducible rfl)
              (try simp only [Act.put, List.setIfInBounds_toArray, List.set_cons_zero, List.set_cons_succ])
              refine' takeW 2 ?_ ?_ ?_ (by kernel_rfl) (by kernel_rfl) (by kernel_rfl) (fun _ _ _ h => h) hHeld ?_
              rotate_left 2
              · (simp only [List.getElem?_toArray, List.getElem?_cons_succ, List.getElem?_cons_zero]; try rfl)
              · rfl
              · (intro w hSw; (try dsimp only at hSw); go_simp; first | done | with_reducible rfl)
              (try simp only [Act.put, List.setIfInBounds_toArray, List.set_cons_zero, List.set_cons_succ])
              refine' takeW 3 ?_ ?_ ?_ (by kernel_rfl) (by kernel_rfl) (by kernel_rfl) (fun _ _ _ h => h) hHeld ?_
              rotate_left 2
              · (simp only [List.getElem?_toArray, List.getElem?_cons_succ, List.getElem?_cons_zero]; try rfl)
              · rfl
              · (intro w hSw; (try dsimp only at hSw); go_simp; first | done | with_reducible rfl)
              (try simp only [Act.put, List.setIfInBounds_toArray, List.set_cons_zero, List.set_cons_succ])
              refine wpAnyH_ready (rs := [4]) (by kernel_rfl) (by simp) ?_
              refine' AllReadyH.cons ?_ (fun K hK => ?_) AllReadyH.nil
              rotate_left 1
              · (simp only [List.getElem?_toArray, List.getElem?_cons_succ, List.getElem?_cons_zero]; try rfl)
              have hl0 := HL2.out _ HM'.out
              (try go_simp)
              refine hK.out _ _ hHeld (fun hHeld => ?_)
              clear hK K hl0
              (try simp only [Act.put, List.setIfInBounds_toArray, List.set_cons_zero, List.set_cons_succ])
              refine' takeW 5 ?_ ?_ ?_ (by kernel_rfl) (by kernel_rfl) (by kernel_rfl) (fun _ _ _ h => h) hHeld ?_
              rotate_left 2
              · (simp only [List.getElem?_toArray, List.getElem?_cons_succ, List.getElem?_cons_zero]; try rfl)
              · rfl
              · (intro w hSw; (try dsimp only at hSw); go_simp; first | done | with_reducible rfl)
              (try simp only [Act.put, List.setIfInBounds_toArray, List.set_cons_zero, List.set_cons_succ])
              refine wpAnyH_ready (rs := [6]) (by kernel_rfl) (by simp) ?_
              refine' AllReadyH.cons ?_ (fun K hK => ?_) AllReadyH.nil
              rotate_left 1
              · (simp only [List.getElem?_toArray, List.getElem?_cons_succ, List.getElem?_cons_zero]; try rfl)
              refine step_mapF Tryz.underlying145 rfl _ _ _ rfl (w.heap.size + 1 + 1) kn.length f rfl HM'.out (by unfold maxLen; omega) nb HI64.out (v0 + 1) (by show in64 _; unfold in64; omega) rfl (by first | rfl | (simp only [hwr]; rfl)) ?_
              intro w9 hM9 hgr9
              replace B10' := B10'.grown hgr9 (by intro e9; injection e9 with e9; omega)
              replace B7' := B7'.grown hgr9 (by intro e9; injection e9 with e9; omega)
              replace D2' := D2'.grown hgr9 (by intro e9; injection e9 with e9; omega)
              replace hST5 := hST5.enter HKM.out HK2.out HK3.out hM9 (by omega) hgr9
              refine hK.out _ _ ⟨bx2c B10', bx2c B7'⟩ (fun hHeld => ?_)
              clear hK K hM9 hgr9
              (try simp only [Act.put, List.setIfInBounds_toArray, List.set_cons_zero, List.set_cons_succ])
              refine wpAnyH_done (by kernel_rfl) ?_ _
              refine NoPanic.normal ?_
              clear hHeld
              obtain ⟨Aq, b, off, cap, hve, hC, hA0, h4⟩ := hST5.q
              cases hve
              have HCP : Hid (0 < cap) := by show _ < _; have := hC.le; simp at this; omega
              have z0 := B10'.cell 0 _ rfl
              have z1 := B10'.cell 1 _ rfl
              have zl := B10'.lt
              have hCA := came_up hC (one_alloc w9 (.cells #[.int .i64 nb.side, .int .i64 nb.num] 72))
              have hSTA := hST5.up (one_alloc w9 (.cells #[.int .i64 nb.side, .int .i64 nb.num] 72))
              have hqn : qu.length ≤ 64 := by have := HN1.out; omega
              clear hC
              go_wp2_with (at_builtin; refine wpList_append_q _ rfl _ _ 70 rfl hCA hA0 72 i0 (.agg #[.int .i64 0, .int .i64 0]) 16 Tryz.underlying70 hi hz0 hz1 hz2 rfl (by decide) rfl ⟨w9.heap.size, 0, none⟩ 1 [.int .i64 nb.side, .int .i64 nb.num] rfl rfl ?c1 ?c2 ?c3 ?c4 ?_)
              case c1 => exact cell_list_at rfl _ _
              case c2 => exact encD_one nb
              case c3 => simp; unfold maxLen; omega
              case c4 => simp; omega
              intro A9 b9 o9 cap9 w10 hC9 hA9 hgr9 hb9
              have hgr9 := show (w9.alloc (.cells #[.int .i64 nb.side, .int .i64 nb.num] 72)).grownBy w10 (if 0 < cap then some b else none) from by rw [if_pos HCP.out]; exact hgr9
              have hSTB := hSTA.push (off := off) h4 hC9 hA9 hgr9 (by rcases hb9 with h | h; exact .inl ⟨HCP.out, h⟩; exact .inr (by rw [World.size_alloc]; exact h))
              have B7'' := (B7'.alloc (.cells #[.int .i64 nb.side, .int .i64 nb.num] 72)).grown hgr9 (row_ne fun hc => (h4 hc).2)
              have D2'' := (D2'.alloc (.cells #[.int .i64 nb.side, .int .i64 nb.num] 72)).grown hgr9 (row_ne fun hc => by have := (h4 hc).1; omega)
              clear hgr9 hC9 hb9 hCA hSTA hST5 B7' D2' B10' z0 z1 zl
              go_wp2_with fail
              go_roundg (gi - 1)
              case measure => have := HJK.out; omega
              case rel => exact ⟨j + 1, kn ++ [nb], qu ++ [nb], by have := HJK.out; omega, by go_num, hSTB, HR.out, by have h9 := HN1.out; rw [List.length_append, List.length_append]; simp only [List.length_singleton]; omega, B7'', D2''⟩
        · obtain rfl : j = k := by omega
          have HR := Lib.hid (HBW.out.done HLN.out)
          have hcap2 : 0 < cap := by have := hC.le; simp at this; omega
          have hAe := hC.addr hcap2
          subst hAe
          have hqn := HN1.out
          have hcc := hC.le
          rw [List.length_cons] at hcc
          have hCC : Came wi 2 (some ⟨b, off, none⟩) b off (qu.length + 1) cap (encD e ++ qu.flatMap encD) := hC
          have hST' := hST.avoid0
          clear hC
          have hBC := fun A' hA' => came_cut (A' := A') hCC rfl hA'
          have hgq : ∀ A' : Option Addr, A' ≠ none → (1 < cap → A' = some ⟨b, off + 2, none⟩) → StM w wi w.heap.size kn qu (.slice A' qu.length (cap - 1)) := fun A' h1 h2 =>
            ⟨⟨A', b, off + 2, cap - 1, rfl, hBC A' h2, h1, fun hc => ⟨(h4 hcap2).1, by have := (h4 hcap2).1; omega⟩⟩, hST'.m, hST'.bl, hST'.hz, hST'.av⟩
          have HGQ := Lib.hid hgq
          clear hBC hgq hCC hST' hST h4
          go_wp2_with fail
          · go_roundg N0
            case measure => exact HN0.out
            case rel => exact ⟨kn, qu, (by have h9 := HGQ.out (some ⟨b, off, none⟩) (by simp) (by omega); rw [show cap - 1 = 0 from by omega] at h9; exact h9), HR.out, by omega, by have := HN1.out; omega, D2⟩
          · go_roundg N0
            case measure => exact HN0.out
            case rel => exact ⟨kn, qu, HGQ.out (some ⟨b, off + 2, none⟩) (by simp) (fun _ => rfl), HR.out, by omega, by have := HN1.out; omega, D2⟩
end Go.Proofs.YtdokpmfejibdlaaGreatDoor
