/- Chapter 54: component.Chains, component.Loops. (Printed by hwt.py from Wv.txt.) -/
import Derived.Test.YtdokpmfejibdlaaGreatDoorWt
import Derived.Maps.AppendAt
import Derived.Lib.OwnKind
set_option linter.unusedSimpArgs false
set_option linter.unusedVariables false
namespace Go.Proofs.YtdokpmfejibdlaaGreatDoor
open Go.RowKit Go.Maps

/-! ### Chains. -/
noncomputable def chainT (g : Gr) (i k : Nat) : List DieP := ((List.range i).filter (fun m => decide (partI g m = k))).filterMap (fun m => (diesG g)[m]?)
noncomputable def chainsT (g : Gr) (i : Nat) : List (List DieP) := (List.range (cntF g i)).map (chainT g i)
theorem chainsT_all (g : Gr) : chainsT g (diesG g).length = chainsG g := rfl
theorem chainsT_len (g : Gr) (i : Nat) : (chainsT g i).length = cntF g i := by unfold chainsT; simp
theorem chainsT_zero (g : Gr) : chainsT g 0 = [] := rfl
section
variable {g : Gr} {i k : Nat} {x : DieP}
theorem chainsT_get (h : k < cntF g i) : (chainsT g i)[k]? = some (chainT g i k) := by
  unfold chainsT
  rw [List.getElem?_map, List.getElem?_range h]; rfl
theorem chainT_succ (hx : (diesG g)[i]? = some x) : chainT g (i + 1) k = chainT g i k ++ (if partI g i = k then [x] else []) := by
  unfold chainT
  rw [List.range_succ, List.filter_append, List.filterMap_append, List.filter_cons]
  by_cases h : partI g i = k
  · simp [h, hx]
  · simp [h]
theorem chainT_empty (hi : i ≤ (diesG g).length) (hk : cntF g i ≤ k) : chainT g i k = [] := by
  unfold chainT
  have : (List.range i).filter (fun m => decide (partI g m = k)) = [] := by
    rw [List.filter_eq_nil_iff]
    intro m hm h
    have hm := List.mem_range.1 hm
    have h := of_decide_eq_true h
    have h1 := (firstI_spec (show m < (diesG g).length by omega)).1
    have h2 : partI g m < cntF g i := cntF_lt (firstI_first (show m < (diesG g).length by omega)) (by omega)
    omega
  rw [this]; rfl
theorem chainT_len : (chainT g i k).length ≤ i := by
  unfold chainT
  refine Nat.le_trans (List.length_filterMap_le _ _) (Nat.le_trans (List.length_filter_le _ _) ?_)
  rw [List.length_range]; exact Nat.le_refl _
theorem partI_cases (hi : i < (diesG g).length) : (partI g i = cntF g i ∧ cntF g (i + 1) = cntF g i + 1) ∨ (partI g i < cntF g i ∧ cntF g (i + 1) = cntF g i) := by
  by_cases h : FirstI g i
  · exact .inl ⟨partI_first hi h, by rw [cntF_succ, if_pos (isFirst_iff.2 h)]⟩
  · refine .inr ⟨?_, by rw [cntF_succ, if_neg (fun h' => h (isFirst_iff.1 h'))]; rfl⟩
    refine cntF_lt (firstI_first hi) ?_
    have h1 := (firstI_spec hi).1
    rcases Nat.lt_or_ge (firstI g i) i with h2 | h2
    · exact h2
    · exact absurd (by have h3 := firstI_first hi; rwa [show firstI g i = i by omega] at h3) h
/-- The row to which a die is put. -/
theorem chains_row (hi : i < (diesG g).length) (css : List (List DieP)) (hcss : css = if partI g i = cntF g i then chainsT g i ++ [[]] else chainsT g i) : css.length = cntF g (i + 1) ∧ css[partI g i]? = some (chainT g i (partI g i)) := by
  subst hcss
  rcases partI_cases hi with ⟨h1, h2⟩ | ⟨h1, h2⟩
  · rw [if_pos h1, List.length_append, chainsT_len, h2]
    refine ⟨rfl, ?_⟩
    rw [List.getElem?_append_right (by rw [chainsT_len]; omega), chainsT_len, h1, chainT_empty (by omega) (Nat.le_refl _)]
    simp
  · rw [if_neg (by omega), chainsT_len, h2]
    exact ⟨rfl, chainsT_get h1⟩
theorem chains_step (hi : i < (diesG g).length) (hx : (diesG g)[i]? = some x) (css : List (List DieP)) (hcss : css = if partI g i = cntF g i then chainsT g i ++ [[]] else chainsT g i) : chainsT g (i + 1) = css.set (partI g i) (chainT g i (partI g i) ++ [x]) := by
  obtain ⟨hl, hr⟩ := chains_row hi css hcss
  have hp : partI g i < css.length := (List.getElem?_eq_some_iff.1 hr).1
  refine List.ext_getElem? fun k => ?_
  by_cases hk : k < cntF g (i + 1)
  · rw [chainsT_get hk, chainT_succ hx]
    by_cases e : partI g i = k
    · subst e
      rw [List.getElem?_set_self hp, if_pos rfl]
    · rw [List.getElem?_set_ne e, if_neg e, List.append_nil]
      subst hcss
      rcases partI_cases hi with ⟨h1, h2⟩ | ⟨h1, h2⟩
      · rw [if_pos h1, List.getElem?_append_left (by rw [chainsT_len]; omega), chainsT_get (by omega)]
      · rw [if_neg (by omega), chainsT_get (by omega)]
  · rw [List.getElem?_eq_none (by rw [chainsT_len]; omega), List.getElem?_eq_none (by rw [List.length_set]; omega)]
end
/-! ### Rows of rows. -/
structure RoR {α : Type} (w : World) (base : Nat) (eo e : TypeId) (sz : Nat) (enc : α → List Value) (v : Value) (vs : List Value) (css : List (List α)) : Prop where
  len : vs.length = css.length
  out : w.ownsRow base eo 1 v css.length vs
  row : ∀ (k : Nat) (u : Value) (cs : List α), vs[k]? = some u → css[k]? = some cs → w.ownsRow base e sz u cs.length (cs.flatMap enc)
  apart : ∀ (j k : Nat) (u u' : Value), j ≠ k → vs[j]? = some u → vs[k]? = some u' → u.ownBlock = none ∨ u.ownBlock ≠ u'.ownBlock
section
variable {α : Type} {w w' : World} {base : Nat} {eo e : TypeId} {sz : Nat} {enc : α → List Value} {v : Value} {vs : List Value} {css : List (List α)}
theorem RoR.nil (w : World) (base : Nat) : RoR w base eo e sz enc (.slice none 0 0) [] [] := ⟨rfl, World.ownsRow_nil _ _ _ _, fun k u cs h => by simp at h, fun j k u u' _ h => by simp at h⟩
theorem RoR.kept {row : Option Nat} (h : RoR w base eo e sz enc v vs css) (hg : w.grownBy w' row) (hr : ∀ b, row = some b → b < base ∨ w.heap.size ≤ b ∨ (∀ c t f, w.heap[b]? ≠ some (.cells c t f)) ) : RoR w' base eo e sz enc v vs css := by
  have hne : ∀ {u : Value} {n s : Nat} {t : TypeId} {xs : List Value}, w.ownsRow base t s u n xs → u.ownBlock = none ∨ u.ownBlock ≠ row := fun {u n s t xs} hu => by
    by_cases e0 : u.ownBlock = none
    · exact .inl e0
    · refine .inr fun e1 => ?_
      obtain ⟨b, hb⟩ := Option.ne_none_iff_exists'.1 e0
      have h1 := hu.lt b hb
      rcases hr b (e1 ▸ hb) with h2 | h2 | h2
      · omega
      · omega
      · obtain ⟨c, f, h3⟩ := Lib.ownsRow_kind hu b hb
        exact h2 _ _ _ h3
  exact ⟨h.len, h.out.kept hg (hne h.out), fun k u cs h1 h2 => (h.row k u cs h1 h2).kept hg (hne (h.row k u cs h1 h2)), h.apart⟩
theorem RoR.up (h : RoR w base eo e sz enc v vs css) (hb : Below w.heap.size w w') : RoR w' base eo e sz enc v vs css := h.kept (grown_of_below hb) (fun b hb => by cases hb)
theorem RoR.row_out (h : RoR w base eo e sz enc v vs css) (hne : e ≠ eo) {k : Nat} {u : Value} (hu : vs[k]? = some u) : u.ownBlock = none ∨ u.ownBlock ≠ v.ownBlock := by
  obtain ⟨cs, hcs⟩ : ∃ cs, css[k]? = some cs := by
    have := (List.getElem?_eq_some_iff.1 hu).1
    rw [h.len] at this
    exact ⟨_, List.getElem?_eq_getElem this⟩
  have h1 := h.row k u cs hu hcs
  by_cases e0 : u.ownBlock = none
  · exact .inl e0
  · refine .inr fun e1 => ?_
    obtain ⟨b, hb⟩ := Option.ne_none_iff_exists'.1 e0
    obtain ⟨c, f, h2⟩ := Lib.ownsRow_kind h1 b hb
    obtain ⟨c', f', h3⟩ := Lib.ownsRow_kind h.out b (e1 ▸ hb)
    rw [h2] at h3
    injection h3 with h3
    injection h3 with _ h4
    exact hne h4
/-- One more row. -/
theorem RoR.push {u : Value} {cs : List α} {v' : Value} (h : RoR w base eo e sz enc v vs css) (hne : e ≠ eo) (hout : w'.ownsRow base eo 1 v' (css.length + 1) (vs ++ [u])) (hg : w.grownBy w' v.ownBlock) (hu : w.ownsRow base e sz u cs.length (cs.flatMap enc))
    (huo : u.ownBlock = none ∨ u.ownBlock ≠ v.ownBlock) (hap : ∀ (k : Nat) (u' : Value), vs[k]? = some u' → u.ownBlock = none ∨ u.ownBlock ≠ u'.ownBlock) : RoR w' base eo e sz enc v' (vs ++ [u]) (css ++ [cs]) := by
  have hsn : ∀ {β : Type} {l : List β} {y z : β} {k : Nat}, (l ++ [y])[k]? = some z → l[k]? = some z ∨ (k = l.length ∧ z = y) := fun {β l y z k} hk => by
    by_cases h1 : k < l.length
    · rw [List.getElem?_append_left h1] at hk; exact .inl hk
    · rw [List.getElem?_append_right (by omega)] at hk
      have h2 : k - l.length = 0 := by
        have := (List.getElem?_eq_some_iff.1 hk).1
        simp at this; omega
      rw [h2] at hk
      exact .inr ⟨by omega, by simpa using hk.symm⟩
  refine ⟨by simp [h.len], by rw [List.length_append]; exact hout, fun k u' cs' h1 h2 => ?_, fun j k u1 u2 hjk h1 h2 => ?_⟩
  · rcases hsn h1 with h1 | ⟨h1, rfl⟩
    · rcases hsn h2 with h2 | ⟨h2, rfl⟩
      · exact (h.row k u' cs' h1 h2).kept hg (h.row_out hne h1)
      · have := (List.getElem?_eq_some_iff.1 h1).1
        rw [h.len] at this; omega
    · rcases hsn h2 with h2 | ⟨h2, rfl⟩
      · have := (List.getElem?_eq_some_iff.1 h2).1
        rw [← h.len] at this; omega
      · exact hu.kept hg huo
  · rcases hsn h1 with h1' | ⟨h1', rfl⟩
    · rcases hsn h2 with h2 | ⟨h2, rfl⟩
      · exact h.apart j k u1 u2 hjk h1' h2
      · rcases hap j u1 h1' with h3 | h3
        · by_cases e0 : u1.ownBlock = none
          · exact .inl e0
          · exact .inr (fun e1 => e0 (by rw [e1]; exact h3))
        · exact .inr (fun e1 => h3 e1.symm)
    · rcases hsn h2 with h2 | ⟨h2, rfl⟩
      · exact hap k u2 h2
      · omega
/-- A row is turned, and put in its place. -/
theorem RoR.turn {go n cap k : Nat} {u u' : Value} {cs cs' : List α} (h : RoR w base eo e sz enc (.slice (some ⟨go, 0, none⟩) n cap) vs css) (hne : e ≠ eo) (hu : vs[k]? = some u) (hcs : css[k]? = some cs) (hg : w.grownBy w' u.ownBlock)
    (hu' : w'.ownsRow base e sz u' cs'.length (cs'.flatMap enc)) (hat : u'.ownBlock = u.ownBlock ∨ ∀ b, u'.ownBlock = some b → w.heap.size ≤ b) :
    RoR (w'.setCell ⟨go, k, none⟩ u') base eo e sz enc (.slice (some ⟨go, 0, none⟩) n cap) (vs.set k u') (css.set k cs') := by
  have hk : k < vs.length := (List.getElem?_eq_some_iff.1 hu).1
  have hn : n = css.length := by
    rcases h.out.2 with ⟨h', h0⟩ | ⟨g', cap', cur, h', _⟩
    · simp at h'
    · simp only [Value.slice.injEq] at h'
      exact h'.2.1
  have hgo : go < w.heap.size := (h.out.lt go rfl).2
  have hout := h.out.kept hg (by
    rcases h.row_out hne hu with h1 | h1
    · rw [h1]; exact .inr (by simp [Value.ownBlock])
    · exact .inr (fun e1 => h1 e1.symm))
  subst hn
  obtain ⟨hst, hgs⟩ := hout.stored k u'
  -- where the new row lies
  have hu'o : u'.ownBlock ≠ some go := fun e1 => by
    rcases hat with h1 | h1
    · rcases h.row_out hne hu with h2 | h2
      · rw [h1, h2] at e1; cases e1
      · exact h2 (by rw [← h1, e1]; rfl)
    · have := h1 go e1; omega
  have hrow : ∀ {x : Value} {n : Nat} {xs : List Value}, w'.ownsRow base e sz x n xs → x.ownBlock ≠ some go → (w'.setCell ⟨go, k, none⟩ u').ownsRow base e sz x n xs := fun {x n xs} hx hne' => hx.kept hgs (.inr hne')
  have hset : ∀ {β : Type} {l : List β} {y z : β} {j : Nat}, (l.set k y)[j]? = some z → (j = k ∧ z = y) ∨ (j ≠ k ∧ l[j]? = some z) := fun {β l y z j} hj => by
    by_cases e1 : j = k
    · subst e1
      have hl : j < (l.set j y).length := (List.getElem?_eq_some_iff.1 hj).1
      rw [List.length_set] at hl
      rw [List.getElem?_set_self hl] at hj
      exact .inl ⟨rfl, (Option.some.inj hj).symm⟩
    · rw [List.getElem?_set_ne (fun e2 => e1 e2.symm)] at hj
      exact .inr ⟨e1, hj⟩
  refine ⟨by simp [h.len], by rw [List.length_set]; exact hst, fun j x ds h1 h2 => ?_, fun i j x y hij h1 h2 => ?_⟩
  · rcases hset h1 with ⟨rfl, rfl⟩ | ⟨h3, h1⟩
    · rcases hset h2 with ⟨_, rfl⟩ | ⟨h4, _⟩
      · exact hrow hu' hu'o
      · exact absurd rfl h4
    · rcases hset h2 with ⟨h4, _⟩ | ⟨_, h2⟩
      · exact absurd h4 h3
      · refine hrow ((h.row j x ds h1 h2).kept hg ?_) ?_
        · exact h.apart j k x u h3 h1 hu
        · rcases h.row_out hne h1 with h5 | h5
          · rw [h5]; simp
          · exact h5
  · -- apart
    have hnew : ∀ {j : Nat} {y : Value}, j ≠ k → vs[j]? = some y → u'.ownBlock = none ∨ u'.ownBlock ≠ y.ownBlock := fun {j y} hj hy => by
      rcases hat with h1 | h1
      · rw [h1]; exact h.apart k j u y (fun e1 => hj e1.symm) hu hy
      · by_cases e0 : u'.ownBlock = none
        · exact .inl e0
        · refine .inr fun e1 => ?_
          obtain ⟨b, hb⟩ := Option.ne_none_iff_exists'.1 e0
          have h2 := h1 b hb
          obtain ⟨ds, hds⟩ : ∃ ds, css[j]? = some ds := by
            have := (List.getElem?_eq_some_iff.1 hy).1
            rw [h.len] at this
            exact ⟨_, List.getElem?_eq_getElem this⟩
          have := ((h.row j y ds hy hds).lt b (by rw [← e1]; exact hb)).2
          omega
    rcases hset h1 with ⟨rfl, rfl⟩ | ⟨h3, h1'⟩
    · rcases hset h2 with ⟨h4, _⟩ | ⟨h4, h2⟩
      · exact absurd h4.symm hij
      · exact hnew h4 h2
    · rcases hset h2 with ⟨rfl, rfl⟩ | ⟨h4, h2⟩
      · by_cases e0 : x.ownBlock = none
        · exact .inl e0
        · refine .inr fun e1 => ?_
          rcases hnew h3 h1' with h5 | h5
          · exact e0 (by rw [e1]; exact h5)
          · exact h5 e1.symm
      · exact h.apart i j x y hij h1' h2
end
/-- An append within a drawn region. -/
theorem step_append_at {w : World} {ops : Array Oper} {o : Oper} {a : Act} {J : Act → World → Prop} {Q : Exit → Act → World → Prop} {E : Prop} (hgd : o.guard = none) (s x : Operand) (t : TypeId)
    (ho : o.op = .call { callee := .builtin .append, args := #[s, x], argTypes := #[t, t] })
    (base : Nat) (e : TypeId) (i : TypeInfo) (z : Value) (size bytes : Nat) (ht : Tryz.prog.underlying t = some (.slice e)) (hi : Tryz.prog.info? e = some i) (hz : i.zero = some z)
    (hsize : i.size = size) (hby : i.bytes = bytes) (hzs : z.cells.size = size) (hsz : 0 < size)
    (v : Value) (n : Nat) (xs : List Value) (hs : a.eval s = v) (hown : w.ownsRow base e size v n xs)
    (ad : Addr) (m c : Nat) (news : List Value) (hx : a.eval x = .slice (some ad) m c) (hl : news.length = m * size) (hnews : ∀ j u, news[j]? = some u → w.cell? (ad.add j) = some u) (h1 : ∀ u ∈ news, u.oneCell' = true)
    (h63 : n + m ≤ maxLen) (hbytes : (n + m) * bytes ≤ 140737488355328) (hbase : base ≤ w.heap.size)
    (hK : ∀ v' w', w'.ownsRow base e size v' (n + m) (xs ++ news) → w.grownBy w' v.ownBlock → (v'.ownBlock = v.ownBlock ∨ v'.ownBlock = some w.heap.size) → J (a.put o.dst v') w') :
    if Region.wanted o (yielded ops a.tmps) = true then Oper.wp Tryz.prog o a w J Q else E := by
  have hw : Region.wanted o (yielded ops a.tmps) = true := by simp [Region.wanted, hgd]
  rw [if_pos hw]
  obtain ⟨v', w', hr, h2, h3, h4, h5⟩ := run_append_own_at (P := Tryz.prog) w base t o.type e i z size bytes ht hi hz hsize hby hzs hsz v n xs hown ad m c news hl hnews h1 h63 hbytes hbase
  unfold Oper.wp execOp
  simp only [ho, resolve, invoke, builtin, Sem.run_bind, Sem.run_pure, Result.andThen_ok, List.map_toArray, List.map_cons, List.map_nil, hs, hx, hr]
  exact hK _ _ h2 h3 h5
end Go.Proofs.YtdokpmfejibdlaaGreatDoor
set_option linter.unusedSimpArgs false
set_option linter.unusedVariables false
namespace Go.Proofs.YtdokpmfejibdlaaGreatDoor
open Go.RowKit Go.Maps

theorem Tryz.infoRD : (Tryz.prog.info? 70).map (fun i => (i.zero, i.size, i.bytes)) = some (some (.slice none 0 0), 1, 24) := by kernel_rfl
theorem partsG_get {g : Gr} {i : Nat} {x : Int} (h : (partsG g)[i]? = some x) : x = (partI g i : Nat) := by
  unfold partsG at h
  rw [List.getElem?_map] at h
  have hi : i < (List.range (diesG g).length).length := by
    by_cases e : i < (List.range (diesG g).length).length
    · exact e
    · rw [List.getElem?_eq_none (by omega)] at h; cases h
  rw [List.getElem?_eq_getElem hi, List.getElem_range] at h
  exact (Option.some.inj h).symm
theorem partsG_len (g : Gr) : (partsG g).length = (diesG g).length := by unfold partsG; simp
theorem RoR.mono {α : Type} {w : World} {base base' : Nat} {eo e : TypeId} {sz : Nat} {enc : α → List Value} {v : Value} {vs : List Value} {css : List (List α)} (h : RoR w base eo e sz enc v vs css) (hb : base' ≤ base) : RoR w base' eo e sz enc v vs css :=
  ⟨h.len, h.out.mono hb, fun k u cs h1 h2 => (h.row k u cs h1 h2).mono hb, h.apart⟩
def ChainsW (w : World) (css : List (List DieP)) (code : Int) (e : Ending) (w' : World) : Prop :=
  (∃ A n c vs, e = .returned (.tuple #[.slice A n c, .int .i64 code]) ∧ n ≤ 64 ∧ n = css.length ∧ RoR w' w.heap.size 70 72 2 encD (.slice A n c) vs css) ∧ Below w.heap.size w w'
/-- The list of rows is turned: below stands. -/
theorem below_row {w0 w w' : World} {base B : Nat} {eo : TypeId} {n sz : Nat} {v : Value} {xs : List Value} (h : Below B w0 w) (ho : w.ownsRow base eo sz v n xs) (hg : w.grownBy w' v.ownBlock) (hB : B ≤ base) (h0 : B ≤ w0.heap.size) : Below B w0 w' :=
  Below.grown h hg (Nat.le_trans h0 h.size) (fun q hq => Nat.le_trans hB (ho.lt q hq).1)
set_option maxRecDepth 100000 in
set_option maxHeartbeats 4000000 in
theorem lchains_any (A : Option Addr) (n c : Nat) (B : Option Addr) (m d : Nat) (C : Option Addr) (k l : Nat) (g : Gr) (w : World) (hG : GrM w A n B m C k g) (hg : GrOk g) :
    Calls Tryz.prog 33 #[.agg #[.slice A n c, .slice B m d, .slice C k l]] w (ChainsW w (chainsG g) 0) := by
  have HP : Hid (∀ W, Below w.heap.size w W → Calls Tryz.prog 76 #[.agg #[.slice A n c, .slice B m d, .slice C k l]] W (NumsW W (partsG g) 0)) := fun W hW => lparts_any A n c B m d C k l g W (hG.up hW) hg
  have HD : Hid (∀ W, Below w.heap.size w W → Calls Tryz.prog 77 #[.agg #[.slice A n c, .slice B m d, .slice C k l]] W (DiesW W (diesG g) 0)) := fun W hW => ldies_any A n c B m d C k l g W (hG.up hW) hg
  have hN : (diesG g).length ≤ 64 := by rw [diesG_len]; have := hg.lo; have := hg.lr; omega
  clear hG hg
  obtain ⟨i0, hi, hz0, hz1, hz2⟩ := info_parts Tryz.infoDi
  obtain ⟨i1, hj', hy0, hy1, hy2⟩ := info_parts Tryz.infoRD
  go_enter Tryz.func33, Tryz.ntmps33
  go_wp2_with fail
  refine (HP.out _ (by (repeat (first | exact Below.refl _ _ | assumption | refine Below.alloc ?_ (by first | omega | (simp only [World.size_alloc]; omega) | (simp; done) | (simp; omega)) _ | refine Below.setCell ?_ (by first | omega | (simp only [World.size_alloc]; omega) | (simp; done) | (simp; omega)) _ | refine Below.drew ?_ | refine below_drewN ?_ _)))).mono ?_; rintro e w1 ⟨⟨A1, n1, c1, rfl, hn1, hS1⟩, hb1⟩
  obtain ⟨_, hb, D2⟩ := step1 (vs := [.slice A n c, .slice B m d, .slice C k l]) (Below.refl _ w) hb1
  have q0 := D2.cell 0 _ rfl
  have q1 := D2.cell 1 _ rfl
  have q2 := D2.cell 2 _ rfl
  have ql := D2.lt
  clear hb1
  go_wp2_with fail
  refine (HD.out _ hb).mono ?_; rintro e w2 ⟨⟨A2, n2, c2, rfl, hn2, hc2, hS2⟩, hb2⟩
  replace hb := below_keep' hb hb2
  have HSP : Hid (∀ W, Below w2.heap.size w2 W → Sl W 0 W.heap.size 1 encI A1 n1 (partsG g)) := fun W hW => Sl.up (Sl.up hS1 hb2 (Nat.le_refl _) (Nat.le_refl _)) hW (Nat.le_refl _) (Nat.le_refl _)
  have HSD : Hid (∀ W, Below w2.heap.size w2 W → Sl W 0 W.heap.size 2 encD A2 n2 (diesG g)) := fun W hW => hS2.up hW (Nat.le_refl _) (Nat.le_refl _)
  obtain rfl : n1 = n2 := by rw [← hS1.len, ← hS2.len, partsG_len]
  have HLN : Hid ((diesG g).length = n1) := hS2.len
  have hn64 : n1 ≤ 64 := by have := HLN.out; omega
  have hzw : w.heap.size ≤ w2.heap.size := hb.size
  clear hS1 hS2 hN q0 q1 q2 ql D2 hb2 hn1 hn2
  go_wp2_with fail
  go_loopw [8, 26] (fun v i wr => ∃ (j : Nat) (vs : List Value), j ≤ n1 ∧ i = .int .i64 (j : Int) ∧ RoR wr w2.heap.size 70 72 2 encD v vs (chainsT g j) ∧ Below w2.heap.size w2 wr) (fun _ i _ => n1 - (intOf i).toNat)
  case atStart => exact ⟨0, [], by omega, rfl, by rw [chainsT_zero]; exact RoR.nil _ _, Below.refl _ _⟩
  case round =>
    obtain ⟨j, vs, hj, rfl, hR, hbr⟩ := hrel
    have hcf := cntF_le g j
    obtain ⟨cn, hcn⟩ : ∃ cn, cn = cntF g j := ⟨_, rfl⟩
    have hRl : (chainsT g j).length = cn := by rw [chainsT_len, hcn]
    have hout := hR.out
    rw [hRl] at hout
    rw [← hcn] at hcf
    obtain ⟨Ao, co, rfl, hco⟩ := own_form hout
    by_cases hlt : j < n1
    · obtain ⟨b, off, x, rfl, hbb, hx, x0⟩ := (HSP.out _ hbr).in_ hlt
      obtain ⟨b2, off2, y, rfl, hbb2, hy, y0, y1⟩ := (HSD.out _ hbr).di hlt
      have hpx := partsG_get hx
      subst hpx
      have HY := Lib.hid hy
      have HI : Hid (j < (diesG g).length) := by show _ < _; rw [HLN.out]; exact hlt
      clear hx hy
      have HPC := Lib.hid (partI_cases HI.out)
      obtain ⟨css, hcss⟩ : ∃ css, css = if partI g j = cntF g j then chainsT g j ++ [[]] else chainsT g j := ⟨_, rfl⟩
      have HRW := Lib.hid (chains_row HI.out css hcss)
      have HST := Lib.hid (chains_step HI.out HY.out css hcss)
      have HCL := Lib.hid (chainT_len (g := g) (i := j) (k := partI g j))
      rw [← hcn] at hcss HPC
      have HCN := Lib.hid hcn; clear hcn
      generalize partI g j = q at *
      generalize chainT g j q = cq at *
      have HB2 : Hid (∀ W, Below w2.heap.size w2 W → W.cell? ⟨b2, off2 + j * 2, none⟩ = some (.int .i64 y.side) ∧ W.cell? ⟨b2, off2 + j * 2 + 1, none⟩ = some (.int .i64 y.num)) := fun W hW => by
        obtain ⟨b3, off3, y', e1, _, hy', z0, z1⟩ := (HSD.out _ hW).di hlt
        injection e1 with e1
        injection e1 with e1 e2 _
        subst e1 e2
        obtain rfl : y' = y := Option.some.inj (hy'.symm.trans HY.out)
        exact ⟨z0, z1⟩
      have hLEN : q < cn ∨ q = cn := by rcases HPC.out with h | h <;> omega
      rcases hLEN with h1 | h1
      case' inl =>
        rw [if_neg (by omega)] at hcss
        have hne : (((q : Nat) : Int) == ((cn : Nat) : Int)) = false := by simp; omega
        have hN : css.length = cn := by rw [hcss]; exact hRl
        have hRc := hR
        rw [← hcss] at hRc
        clear hout hcss hR hRl y0 y1
        go_wp2_with fail
        have hbW := hbr
        clear hbr
        generalize Ao = Av at *
        generalize co = cv at *
        generalize hcn1 : cn = cn1 at *
        generalize wr = W at *
        generalize vs = vs1 at *
      case' inr =>
        rw [if_pos h1] at hcss
        subst h1
        have hN : css.length = q + 1 := by rw [hcss, List.length_append, hRl]; rfl
        have hRc := hR
        clear y0 y1
        go_wp2_with (at_builtin; refine wpList_append_own _ rfl _ _ 58 rfl w2.heap.size 70 i1 (.slice none 0 0) 1 24 Tryz.underlying58 hj' hy0 hy1 hy2 rfl (by decide) _ _ _ rfl (hout.alloc _) ⟨wr.heap.size, 0, none⟩ 1 1 [.slice none 0 0] rfl rfl ?c1 ?c2 ?c3 ?c4 ?c5 ?_)
        case c2 => simp [Value.oneCell']
        case c3 => unfold maxLen; omega
        case c4 => omega
        case c5 => have := hbr.size; simp; omega
        intro v6 w6 hown6 hgrow _
        have hRd := (hR.up (one_alloc wr (.cells #[.slice none 0 0] 70))).push (u := .slice none 0 0) (cs := []) (by decide) (by rw [hRl]; exact hown6) hgrow (World.ownsRow_nil _ _ _ _) (.inl rfl) (fun _ _ _ => .inl rfl)
        rw [← hcss] at hRd
        have hbW := below_row (hbr.alloc hbr.size (.cells #[.slice none 0 0] 70)) (hout.alloc _) hgrow (Nat.le_refl _) (Nat.le_refl _)
        obtain ⟨Av, cv, rfl, hcv⟩ := own_form hown6
        clear hR hRc hout hown6 hgrow hbr hcss hRl hco
        have hRc := hRd
        clear hRd
        go_wp2_with fail
        generalize hcn1 : q + 1 = cn1 at *
        generalize w6 = W at *
        generalize vs ++ [.slice none 0 0] = vs1 at *
      all_goals
        have hq1 : q < cn1 := by omega
        obtain ⟨u, hu⟩ : ∃ u, vs1[q]? = some u := ⟨_, List.getElem?_eq_getElem (by rw [hRc.len, hN]; exact hq1)⟩
        obtain ⟨Ak, ck, rfl, hck⟩ := own_form (hRc.row q u cq hu HRW.out.2)
        obtain ⟨go, hgo⟩ : ∃ go, Av = some ⟨go, 0, none⟩ := by
          rcases hRc.out.2 with ⟨h', h0⟩ | ⟨g', cap', cur, h', _⟩
          · omega
          · injection h' with h'
            exact ⟨g', h'⟩
        subst hgo
        have hgob : w2.heap.size ≤ go ∧ go < W.heap.size := hRc.out.lt go rfl
        replace hRc := hRc.up (Below.drew (Below.refl _ _))
        have hROW := hRc.row q _ cq hu HRW.out.2
        have hOUT := hRc.out
        rw [hN] at hOUT
        have hb6 := below_keep' hbW (Below.drew (Below.refl _ _))
        have r5 := (hOUT.cellAt q (by omega)).trans hu
        have r5a := ((hOUT.alloc (.cells #[.int .i64 y.side, .int .i64 y.num] 72)).cellAt q (by omega)).trans hu
        have hRc7 := hRc.up (one_alloc W.drew (.cells #[.int .i64 y.side, .int .i64 y.num] 72))
        have hb7 := hb6.alloc hb6.size (.cells #[.int .i64 y.side, .int .i64 y.num] 72)
        clear hbW
        refine wp_region_noPanic ?_
        refine wp_region_held_drew (S := fun U => U.cell? ⟨b2, off2 + j * 2, none⟩ = some (.int .i64 y.side) ∧ U.cell? ⟨b2, off2 + j * 2 + 1, none⟩ = some (.int .i64 y.num)) (by kernel_rfl) (HB2.out _ hb6) (fun hHeld => ?_)
        generalize W.drew = W6 at *
        refine' takeW 0 ?_ ?_ ?_ (by kernel_rfl) (by kernel_rfl) (by kernel_rfl) (fun _ _ _ h => h) hHeld ?_
        rotate_left 2
        · (simp only [List.getElem?_toArray, List.getElem?_cons_succ, List.getElem?_cons_zero]; try rfl)
        · rfl
        · (intro w hSw; (try dsimp only at hSw); go_simp; first | done | with_reducible rfl)
        (try simp only [Act.put, List.setIfInBounds_toArray, List.set_cons_zero, List.set_cons_succ])
        refine' takeW 1 ?_ ?_ ?_ (by kernel_rfl) (by kernel_rfl) (by kernel_rfl) (fun _ _ _ h => h) hHeld ?_
        rotate_left 2
        · (simp only [List.getElem?_toArray, List.getElem?_cons_succ, List.getElem?_cons_zero]; try rfl)
        · rfl
        · (intro w hSw; (try dsimp only at hSw); go_simp; first | done | with_reducible rfl)
        (try simp only [Act.put, List.setIfInBounds_toArray, List.set_cons_zero, List.set_cons_succ])
        refine' takeW 2 ?_ ?_ ?_ (by kernel_rfl) (by kernel_rfl) (by kernel_rfl) (fun _ _ _ h => h) hHeld ?_
        rotate_left 2
        · (simp only [List.getElem?_toArray, List.getElem?_cons_succ, List.getElem?_cons_zero]; try rfl)
        · rfl
        · (intro w hSw; (try dsimp only at hSw); go_simp; first | done | with_reducible rfl)
        (try simp only [Act.put, List.setIfInBounds_toArray, List.set_cons_zero, List.set_cons_succ])
        refine' takeW 3 ?_ ?_ ?_ (by kernel_rfl) (by kernel_rfl) (by kernel_rfl) (fun _ _ _ h => h) hHeld ?_
        rotate_left 2
        · (simp only [List.getElem?_toArray, List.getElem?_cons_succ, List.getElem?_cons_zero]; try rfl)
        · rfl
        · (intro w hSw; (try dsimp only at hSw); go_simp; first | done | with_reducible rfl)
        (try simp only [Act.put, List.setIfInBounds_toArray, List.set_cons_zero, List.set_cons_succ])
        refine' takeW 4 ?_ ?_ ?_ (by kernel_rfl) (by kernel_rfl) (by kernel_rfl) (fun _ _ _ h => h) hHeld ?_
        rotate_left 2
        · (simp only [List.getElem?_toArray, List.getElem?_cons_succ, List.getElem?_cons_zero]; try rfl)
        · rfl
        · (intro w hSw; (try dsimp only at hSw); go_simp; first | done | with_reducible rfl)
        (try simp only [Act.put, List.setIfInBounds_toArray, List.set_cons_zero, List.set_cons_succ])
        refine' takeW 6 ?_ ?_ ?_ (by kernel_rfl) (by kernel_rfl) (by kernel_rfl) (fun _ _ _ h => h) hHeld ?_
        rotate_left 2
        · (simp only [List.getElem?_toArray, List.getElem?_cons_succ, List.getElem?_cons_zero]; try rfl)
        · rfl
        · (intro w hSw; (try dsimp only at hSw); go_simp; first | done | with_reducible rfl)
        (try simp only [Act.put, List.setIfInBounds_toArray, List.set_cons_zero, List.set_cons_succ])
        refine' takeW 7 ?_ ?_ ?_ (by kernel_rfl) (by kernel_rfl) (by kernel_rfl) (fun _ _ _ h => h) hHeld ?_
        rotate_left 2
        · (simp only [List.getElem?_toArray, List.getElem?_cons_succ, List.getElem?_cons_zero]; try rfl)
        · rfl
        · (intro w hSw; (try dsimp only at hSw); go_simp; first | done | with_reducible rfl)
        (try simp only [Act.put, List.setIfInBounds_toArray, List.set_cons_zero, List.set_cons_succ])
        refine' takeW 8 ?_ ?_ ?_ (by kernel_rfl) (by kernel_rfl) (by kernel_rfl) (fun _ _ _ h => h) hHeld ?_
        rotate_left 2
        · (simp only [List.getElem?_toArray, List.getElem?_cons_succ, List.getElem?_cons_zero]; try rfl)
        · rfl
        · (intro w hSw; (try dsimp only at hSw); go_simp; first | done | with_reducible rfl)
        (try simp only [Act.put, List.setIfInBounds_toArray, List.set_cons_zero, List.set_cons_succ])
        refine' takeW 9 ?_ ?_ ?_ (by kernel_rfl) (by kernel_rfl) (by kernel_rfl) (fun _ _ _ h => h) hHeld ?_
        rotate_left 2
        · (simp only [List.getElem?_toArray, List.getElem?_cons_succ, List.getElem?_cons_zero]; try rfl)
        · rfl
        · (intro w hSw; (try dsimp only at hSw); go_simp; first | done | with_reducible rfl)
        (try simp only [Act.put, List.setIfInBounds_toArray, List.set_cons_zero, List.set_cons_succ])
        refine wpAnyH_ready (rs := [5, 10]) (by kernel_rfl) (by simp) ?_
        refine AllReadyH.cons (o := ?o1_9_5) ?h1_9_5 (fun K hK => ?s1_9_5) (AllReadyH.cons (o := ?o1_9_10) ?h1_9_10 (fun K hK => ?s1_9_10) AllReadyH.nil)
        case h1_9_5 => (simp only [List.getElem?_toArray, List.getElem?_cons_succ, List.getElem?_cons_zero]; try rfl)
        case h1_9_10 => (simp only [List.getElem?_toArray, List.getElem?_cons_succ, List.getElem?_cons_zero]; try rfl)
        case s1_9_5 =>
          (try go_simp)
          refine hK.out _ _ hHeld (fun hHeld => ?_)
          clear hK K
          (try simp only [Act.put, List.setIfInBounds_toArray, List.set_cons_zero, List.set_cons_succ])
          refine wpAnyH_ready (rs := [10]) (by kernel_rfl) (by simp) ?_
          refine' AllReadyH.cons ?_ (fun K hK => ?_) AllReadyH.nil
          rotate_left 1
          · (simp only [List.getElem?_toArray, List.getElem?_cons_succ, List.getElem?_cons_zero]; try rfl)
          (try go_simp)
          refine hK.out _ _ (HB2.out _ hb7) (fun hHeld => ?_)
          clear hK K
          (try simp only [Act.put, List.setIfInBounds_toArray, List.set_cons_zero, List.set_cons_succ])
          refine wpAnyH_ready (rs := [11]) (by kernel_rfl) (by simp) ?_
          refine' AllReadyH.cons ?_ (fun K hK => ?_) AllReadyH.nil
          rotate_left 1
          · (simp only [List.getElem?_toArray, List.getElem?_cons_succ, List.getElem?_cons_zero]; try rfl)
          refine step_append_at rfl _ _ 70 rfl w2.heap.size 72 i0 (.agg #[.int .i64 0, .int .i64 0]) 2 16 Tryz.underlying70 hi hz0 hz1 hz2 rfl (by decide) (.slice Ak cq.length ck) _ _ rfl (hROW.alloc _) ⟨W6.heap.size, 0, none⟩ 1 1 (encD y) rfl rfl (cell_list_at rfl _ _) (encD_one y) (by unfold maxLen; have := HCL.out; omega) (by have := HCL.out; omega) (by rw [World.size_alloc]; have := hb6.size; omega) ?_
          intro v9 w9 hown9 hgr9 hat9
          obtain ⟨A9, c9, rfl, hc9⟩ := own_form hown9
          have hTN := hRc7.turn (cs' := cq ++ [y]) (by decide) hu HRW.out.2 hgr9 (by rw [List.length_append, List.flatMap_append]; simpa using hown9) (by rcases hat9 with h | h; exact .inl h; exact .inr (fun b hb => by rw [h] at hb; injection hb with hb; omega))
          have hb9 := below_row hb7 (hROW.alloc _) hgr9 (Nat.le_refl _) (Nat.le_refl _)
          have hOUT9 := (hOUT.alloc (.cells #[.int .i64 y.side, .int .i64 y.num] 72)).kept hgr9 (by rcases hRc.row_out (by decide) hu with h | h; exact .inr (by rw [h]; simp [Value.ownBlock]); exact .inr (fun e => h e.symm))
          have r0 := (hOUT9.cellAt q (by omega)).trans hu
          have f0 := hOUT9.frozenAt q
          have rl := (hOUT9.lt go rfl).2
          have hb10 := hb9.setCell (p := ⟨go, q, none⟩) hgob.1 (.slice A9 (cq.length + 1) c9)
          refine hK.out _ _ (HB2.out _ hb9) (fun hHeld => ?_)
          clear hK K hown9 hgr9 hat9 hOUT9
          (try simp only [Act.put, List.setIfInBounds_toArray, List.set_cons_zero, List.set_cons_succ])
          refine' takeW 12 ?_ ?_ ?_ (by kernel_rfl) (by kernel_rfl) (by kernel_rfl) (fun _ _ _ h => h) hHeld ?_
          rotate_left 2
          · (simp only [List.getElem?_toArray, List.getElem?_cons_succ, List.getElem?_cons_zero]; try rfl)
          · rfl
          · (intro w hSw; (try dsimp only at hSw); go_simp; first | done | with_reducible rfl)
          (try simp only [Act.put, List.setIfInBounds_toArray, List.set_cons_zero, List.set_cons_succ])
          refine wpAnyH_ready (rs := [13]) (by kernel_rfl) (by simp) ?_
          refine' AllReadyH.cons ?_ (fun K hK => ?_) AllReadyH.nil
          rotate_left 1
          · (simp only [List.getElem?_toArray, List.getElem?_cons_succ, List.getElem?_cons_zero]; try rfl)
          (try go_simp)
          refine hK.out _ _ (HB2.out _ hb10) (fun hHeld => ?_)
          clear hK K
          (try simp only [Act.put, List.setIfInBounds_toArray, List.set_cons_zero, List.set_cons_succ])
          refine wpAnyH_done (by kernel_rfl) ?_ _
          refine NoPanic.normal ?_
          clear hHeld
          rw [← HST.out] at hTN
          go_wp2_with fail
          exact ⟨⟨j + 1, _, by omega, by go_num, hTN, hb10⟩, by simp [intOf]; omega⟩
        case s1_9_10 =>
          (try go_simp)
          refine hK.out _ _ (HB2.out _ hb7) (fun hHeld => ?_)
          clear hK K
          (try simp only [Act.put, List.setIfInBounds_toArray, List.set_cons_zero, List.set_cons_succ])
          refine wpAnyH_ready (rs := [5]) (by kernel_rfl) (by simp) ?_
          refine' AllReadyH.cons ?_ (fun K hK => ?_) AllReadyH.nil
          rotate_left 1
          · (simp only [List.getElem?_toArray, List.getElem?_cons_succ, List.getElem?_cons_zero]; try rfl)
          (try go_simp)
          refine hK.out _ _ hHeld (fun hHeld => ?_)
          clear hK K
          (try simp only [Act.put, List.setIfInBounds_toArray, List.set_cons_zero, List.set_cons_succ])
          refine wpAnyH_ready (rs := [11]) (by kernel_rfl) (by simp) ?_
          refine' AllReadyH.cons ?_ (fun K hK => ?_) AllReadyH.nil
          rotate_left 1
          · (simp only [List.getElem?_toArray, List.getElem?_cons_succ, List.getElem?_cons_zero]; try rfl)
          refine step_append_at rfl _ _ 70 rfl w2.heap.size 72 i0 (.agg #[.int .i64 0, .int .i64 0]) 2 16 Tryz.underlying70 hi hz0 hz1 hz2 rfl (by decide) (.slice Ak cq.length ck) _ _ rfl (hROW.alloc _) ⟨W6.heap.size, 0, none⟩ 1 1 (encD y) rfl rfl (cell_list_at rfl _ _) (encD_one y) (by unfold maxLen; have := HCL.out; omega) (by have := HCL.out; omega) (by rw [World.size_alloc]; have := hb6.size; omega) ?_
          intro v9 w9 hown9 hgr9 hat9
          obtain ⟨A9, c9, rfl, hc9⟩ := own_form hown9
          have hTN := hRc7.turn (cs' := cq ++ [y]) (by decide) hu HRW.out.2 hgr9 (by rw [List.length_append, List.flatMap_append]; simpa using hown9) (by rcases hat9 with h | h; exact .inl h; exact .inr (fun b hb => by rw [h] at hb; injection hb with hb; omega))
          have hb9 := below_row hb7 (hROW.alloc _) hgr9 (Nat.le_refl _) (Nat.le_refl _)
          have hOUT9 := (hOUT.alloc (.cells #[.int .i64 y.side, .int .i64 y.num] 72)).kept hgr9 (by rcases hRc.row_out (by decide) hu with h | h; exact .inr (by rw [h]; simp [Value.ownBlock]); exact .inr (fun e => h e.symm))
          have r0 := (hOUT9.cellAt q (by omega)).trans hu
          have f0 := hOUT9.frozenAt q
          have rl := (hOUT9.lt go rfl).2
          have hb10 := hb9.setCell (p := ⟨go, q, none⟩) hgob.1 (.slice A9 (cq.length + 1) c9)
          refine hK.out _ _ (HB2.out _ hb9) (fun hHeld => ?_)
          clear hK K hown9 hgr9 hat9 hOUT9
          (try simp only [Act.put, List.setIfInBounds_toArray, List.set_cons_zero, List.set_cons_succ])
          refine' takeW 12 ?_ ?_ ?_ (by kernel_rfl) (by kernel_rfl) (by kernel_rfl) (fun _ _ _ h => h) hHeld ?_
          rotate_left 2
          · (simp only [List.getElem?_toArray, List.getElem?_cons_succ, List.getElem?_cons_zero]; try rfl)
          · rfl
          · (intro w hSw; (try dsimp only at hSw); go_simp; first | done | with_reducible rfl)
          (try simp only [Act.put, List.setIfInBounds_toArray, List.set_cons_zero, List.set_cons_succ])
          refine wpAnyH_ready (rs := [13]) (by kernel_rfl) (by simp) ?_
          refine' AllReadyH.cons ?_ (fun K hK => ?_) AllReadyH.nil
          rotate_left 1
          · (simp only [List.getElem?_toArray, List.getElem?_cons_succ, List.getElem?_cons_zero]; try rfl)
          (try go_simp)
          refine hK.out _ _ (HB2.out _ hb10) (fun hHeld => ?_)
          clear hK K
          (try simp only [Act.put, List.setIfInBounds_toArray, List.set_cons_zero, List.set_cons_succ])
          refine wpAnyH_done (by kernel_rfl) ?_ _
          refine NoPanic.normal ?_
          clear hHeld
          rw [← HST.out] at hTN
          go_wp2_with fail
          exact ⟨⟨j + 1, _, by omega, by go_num, hTN, hb10⟩, by simp [intOf]; omega⟩
    · obtain rfl : j = n1 := by omega
      have HFIN : Hid (chainsT g j = chainsG g) := by show _ = _; rw [← HLN.out, chainsT_all]
      rw [HFIN.out] at hR hRl
      clear hout
      go_wp2_with fail
      go_ret2
      exact ⟨⟨Ao, cn, co, vs, by go_num, by omega, hRl.symm, hR.mono hzw⟩, below_keep' hb (hbr.mono (Nat.le_refl _))⟩
set_option maxHeartbeats 2000000 in
theorem lloops_any (A : Option Addr) (n c : Nat) (B : Option Addr) (m d : Nat) (C : Option Addr) (k l : Nat) (g : Gr) (w : World) (hG : GrM w A n B m C k g) (hg : GrOk g) :
    Calls Tryz.prog 34 #[.agg #[.slice A n c, .slice B m d, .slice C k l]] w fun e w' => e = .returned (.tuple #[.int .i64 (loopsG g), .int .i64 0]) ∧ Below w.heap.size w w' := by
  have hn : n ≤ 32 := by have := hG.obv.len; have := hg.lo; omega
  have hm : m ≤ 32 := by have := hG.rev.len; have := hg.lr; omega
  have hk : k ≤ 64 := by have := hG.links.len; have := hg.ll; omega
  have HL : Hid (loopsG g = (k : Int) - n - m + (chainsG g).length) := by show _ = _; unfold loopsG; rw [hG.links.len, hG.obv.len, hG.rev.len]
  have HC : Hid (∀ W, Below w.heap.size w W → Calls Tryz.prog 33 #[.agg #[.slice A n c, .slice B m d, .slice C k l]] W (ChainsW W (chainsG g) 0)) := fun W hW => lchains_any A n c B m d C k l g W (hG.up hW) hg
  clear hG hg
  go_enter Tryz.func34, Tryz.ntmps34
  go_wp2_with fail
  refine (HC.out _ (by (repeat (first | exact Below.refl _ _ | assumption | refine Below.alloc ?_ (by first | omega | (simp only [World.size_alloc]; omega) | (simp; done) | (simp; omega)) _ | refine Below.setCell ?_ (by first | omega | (simp only [World.size_alloc]; omega) | (simp; done) | (simp; omega)) _ | refine Below.drew ?_ | refine below_drewN ?_ _)))).mono ?_; rintro e w1 ⟨⟨A1, n1, c1, vs1, rfl, hn1, hl1, _⟩, hb1⟩
  obtain ⟨_, hb, D2⟩ := step1 (vs := [.slice A n c, .slice B m d, .slice C k l]) (Below.refl _ w) hb1
  have q0 := D2.cell 0 _ rfl
  have q1 := D2.cell 1 _ rfl
  have q2 := D2.cell 2 _ rfl
  have ql := D2.lt
  have HL1 := Lib.hid hl1
  clear hb1 hl1
  go_wp2_with fail
  go_ret2
  exact ⟨by rw [HL.out, ← HL1.out]; go_num, hb⟩
end Go.Proofs.YtdokpmfejibdlaaGreatDoor
