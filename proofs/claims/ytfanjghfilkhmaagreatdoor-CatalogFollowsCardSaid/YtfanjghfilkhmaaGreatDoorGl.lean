/- Reading an edition byte by byte as the reference does: plain words for its walk (chapter 47). -/
import Derived.Test.YtfanjghfilkhmaaGreatDoorEj
import Derived.Test.YtfanjghfilkhmaaGreatDoorGg
set_option linter.unusedSimpArgs false
set_option linter.unusedVariables false
namespace Go.Proofs.YtfanjghfilkhmaaGreatDoor

theorem foldR_snoc : ∀ (l : List (List UInt8)) (b : Bool) (e : Ed) (x : List UInt8), foldR b e (l ++ [x]) = stepR (b && l.isEmpty) (foldR b e l) x
  | [], b, e, x => by simp [foldR]
  | y :: l, b, e, x => by
    rw [List.cons_append]
    show foldR false (stepR b e y) (l ++ [x]) = _
    rw [foldR_snoc l false _ x]
    simp [foldR]
theorem contains_snoc_ne {cur : List UInt8} {c : UInt8} (h : c ≠ 114) : (cur ++ [c]).contains 114 = cur.contains 114 := by
  rw [Bool.eq_iff_iff, List.contains_iff_mem, List.contains_iff_mem, List.mem_append, List.mem_singleton]
  exact ⟨fun h' => h'.elim id (fun e => absurd e.symm h), .inl⟩
/-- What has been read of s up to its i-th byte. -/
structure RS (s : List UInt8) (i : Nat) (dn : List (List UInt8)) (cur : List UInt8) (e : Ed) (line : List Int) : Prop where
  eq : s.take i = dn.flatMap (fun l => l ++ [10]) ++ cur
  nod : ∀ l ∈ dn, (10 : UInt8) ∉ l
  noc : (10 : UInt8) ∉ cur
  ent : e.ents = (foldR true edZero dn).ents
  ret : e.ret = if cur.contains 114 then [] else (foldR true edZero dn).ret
  nums : line = numsF false [] cur
theorem RS.start (s : List UInt8) : RS s 0 [] [] edZero [] := ⟨rfl, by simp, by simp, rfl, rfl, rfl⟩
section
variable {s : List UInt8} {i : Nat} {dn : List (List UInt8)} {cur : List UInt8} {e : Ed} {line : List Int} {c : UInt8}
theorem take_snocB {s : List UInt8} {i : Nat} {c : UInt8} (h : s[i]? = some c) : s.take (i + 1) = s.take i ++ [c] := by
  obtain ⟨hl, rfl⟩ := List.getElem?_eq_some_iff.1 h
  exact List.take_succ_eq_append_getElem hl
def pdOf (cur : List UInt8) : Bool := (cur.getLast?.map isDigB).getD false
theorem nums_snoc (cur : List UInt8) (c : UInt8) : numsF false [] (cur ++ [c]) = numStep (pdOf cur) (numsF false [] cur) c := by
  rw [numsF_append]; rfl
theorem RS.next (h : RS s i dn cur e line) (hc : s[i]? = some c) (h10 : c ≠ 10) : s.take (i + 1) = dn.flatMap (fun l => l ++ [10]) ++ (cur ++ [c]) ∧ (10 : UInt8) ∉ cur ++ [c] := by
  refine ⟨by rw [take_snocB hc, h.eq, List.append_assoc], ?_⟩
  intro h'
  rcases List.mem_append.1 h' with h' | h'
  · exact h.noc h'
  · simp at h'; exact h10 h'.symm
theorem RS.digit_new (h : RS s i dn cur e line) (hc : s[i]? = some c) (hd : isDigB c = true) (hp : pdOf cur = false) : RS s (i + 1) dn (cur ++ [c]) e (line ++ [addDig 0 c]) := by
  have hd' := (isDigB_iff c).1 hd
  have h10 : c ≠ 10 := fun h' => by subst h'; exact not_dig10 hd'
  have h114 : c ≠ 114 := fun h' => by subst h'; revert hd; decide
  obtain ⟨h1, h2⟩ := h.next hc h10
  refine ⟨h1, h.nod, h2, h.ent, ?_, ?_⟩
  · rw [h.ret]
    have : (cur ++ [c]).contains 114 = cur.contains 114 := contains_snoc_ne h114
    rw [this]
  · rw [nums_snoc, ← h.nums, hp]; unfold numStep; rw [if_pos hd]; rfl
theorem RS.digit_more (h : RS s i dn cur e line) (hc : s[i]? = some c) (hd : isDigB c = true) (hp : pdOf cur = true) : RS s (i + 1) dn (cur ++ [c]) e (line.dropLast ++ [addDig (line.getLastD 0) c]) := by
  have hd' := (isDigB_iff c).1 hd
  have h10 : c ≠ 10 := fun h' => by subst h'; exact not_dig10 hd'
  have h114 : c ≠ 114 := fun h' => by subst h'; revert hd; decide
  obtain ⟨h1, h2⟩ := h.next hc h10
  refine ⟨h1, h.nod, h2, h.ent, ?_, ?_⟩
  · rw [h.ret]
    have : (cur ++ [c]).contains 114 = cur.contains 114 := contains_snoc_ne h114
    rw [this]
  · rw [nums_snoc, ← h.nums, hp]; unfold numStep; rw [if_pos hd]; rfl
theorem RS.r (h : RS s i dn cur e line) (hc : s[i]? = some 114) : RS s (i + 1) dn (cur ++ [114]) ⟨e.ents, []⟩ line := by
  obtain ⟨h1, h2⟩ := h.next hc (by decide)
  refine ⟨h1, h.nod, h2, h.ent, ?_, ?_⟩
  · have : (cur ++ [114]).contains 114 = true := by rw [List.contains_iff_mem]; simp
    rw [this]; rfl
  · rw [nums_snoc, ← h.nums]; rfl
theorem RS.other (h : RS s i dn cur e line) (hc : s[i]? = some c) (hd : isDigB c = false) (h114 : c ≠ 114) (h10 : c ≠ 10) : RS s (i + 1) dn (cur ++ [c]) e line := by
  obtain ⟨h1, h2⟩ := h.next hc h10
  refine ⟨h1, h.nod, h2, h.ent, ?_, ?_⟩
  · rw [h.ret]
    have : (cur ++ [c]).contains 114 = cur.contains 114 := contains_snoc_ne h114
    rw [this]
  · rw [nums_snoc, ← h.nums]; unfold numStep; rw [if_neg (by rw [hd]; decide)]
/-- The sign '=' on the line. -/
def eqOf (dn : List (List UInt8)) (cur : List UInt8) : Bool := (if dn.isEmpty then cur.drop 1 else cur).contains 61
theorem RS.nl_eq (h : RS s i dn cur e line) (hc : s[i]? = some 10) (he : eqOf dn cur = true) {a b : Int} (hl : line = [a, b]) : RS s (i + 1) (dn ++ [cur]) [] ⟨insK (b, a) e.ents, e.ret⟩ [] := by
  have hst : foldR true edZero (dn ++ [cur]) = ⟨insK (b, a) e.ents, e.ret⟩ := by
    rw [foldR_snoc, Bool.true_and]
    have hn := h.nums
    rw [hl] at hn
    have hcond : ((if dn.isEmpty then cur.drop 1 else cur).contains 61 && (numsF false [] cur).length == 2) = true := by
      rw [← hn]; unfold eqOf at he; rw [he]; rfl
    unfold stepR
    rw [if_pos hcond, ← hn, h.ent, h.ret]
    rfl
  refine ⟨by rw [take_snocB hc, h.eq, List.flatMap_append]; simp, ?_, by simp, by rw [hst], by rw [hst]; simp, rfl⟩
  intro l hl'
  rcases List.mem_append.1 hl' with h' | h'
  · exact h.nod l h'
  · simp at h'; rw [h']; exact h.noc
theorem RS.nl_ret (h : RS s i dn cur e line) (hc : s[i]? = some 10) (he : ¬ (eqOf dn cur = true ∧ line.length = 2)) : RS s (i + 1) (dn ++ [cur]) [] ⟨e.ents, line⟩ [] := by
  have hst : foldR true edZero (dn ++ [cur]) = ⟨e.ents, line⟩ := by
    rw [foldR_snoc, Bool.true_and]
    have hn := h.nums
    have hcond : ¬ ((if dn.isEmpty then cur.drop 1 else cur).contains 61 && (numsF false [] cur).length == 2) = true := by
      rw [← hn]
      intro h'
      rw [Bool.and_eq_true] at h'
      exact he ⟨h'.1, by simpa using h'.2⟩
    unfold stepR
    rw [if_neg hcond, ← hn, h.ent]
  refine ⟨by rw [take_snocB hc, h.eq, List.flatMap_append]; simp, ?_, by simp, by rw [hst], by rw [hst]; simp, rfl⟩
  intro l hl'
  rcases List.mem_append.1 hl' with h' | h'
  · exact h.nod l h'
  · simp at h'; rw [h']; exact h.noc
theorem words_cur {cur : List UInt8} (hc : (10 : UInt8) ∉ cur) : ∀ dn : List (List UInt8), (∀ l ∈ dn, (10 : UInt8) ∉ l) → wordsL 10 (dn.flatMap (fun l => l ++ [10]) ++ cur) = dn ++ [cur]
  | [], _ => by simpa using wordsL_none 10 cur hc
  | l :: dn, h => by
    rw [List.flatMap_cons, List.append_assoc, List.append_assoc, List.singleton_append, wordsL_cut 10 _ _ (h l (by simp)), words_cur hc dn (fun x hx => h x (by simp [hx]))]
    rfl
theorem RS.fin (h : RS s s.length dn cur e line) : collR s = e := by
  have h1 := h.eq
  rw [List.take_length] at h1
  have hw : wordsL 10 s = dn ++ [cur] := by rw [h1]; exact words_cur h.noc dn h.nod
  unfold collR
  rw [hw, List.dropLast_concat, List.getLastD_concat]
  obtain ⟨a, b⟩ := e
  have he := h.ent; have hr := h.ret
  simp only at he hr
  by_cases hc : cur.contains 114 = true
  · rw [if_pos hc]; rw [if_pos hc] at hr; rw [he, hr]
  · rw [if_neg hc]; rw [if_neg hc] at hr; rw [he, hr]
theorem RS.pd0 (h : RS s 0 dn cur e line) : pdOf cur = false := by
  have h1 := h.eq
  rw [List.take_zero] at h1
  have := (List.append_eq_nil_iff.1 h1.symm).2
  rw [this]; rfl
theorem RS.pd {j : Nat} (h : RS s (j + 1) dn cur e line) {d : UInt8} (hd : s[j]? = some d) : pdOf cur = isDigB d := by
  have h1 := h.eq
  rw [take_snocB hd] at h1
  rcases List.eq_nil_or_concat cur with rfl | ⟨o, z, rfl⟩
  · rw [List.append_nil] at h1
    rcases List.eq_nil_or_concat dn with rfl | ⟨o, z, rfl⟩
    · simp at h1
    · rw [List.concat_eq_append, List.flatMap_append] at h1
      have h2 : (s.take j ++ [d]).getLast? = some 10 := by rw [h1]; simp
      simp at h2
      subst h2; rfl
  · rw [List.concat_eq_append] at h1 ⊢
    have h2 : (s.take j ++ [d]).getLast? = some z := by rw [h1, ← List.append_assoc]; simp
    simp at h2
    subst h2
    unfold pdOf; simp
/-! ### The sign looked for backwards. -/
def eqB (s : List UInt8) (k i : Nat) : Bool := ((s.take (i + 1)).drop (k + 1)).contains 61
theorem eqB_start (s : List UInt8) (i : Nat) : eqB s i i = false := by
  unfold eqB
  rw [List.drop_eq_nil_of_le (by rw [List.length_take]; omega)]; rfl
theorem eqB_step {k : Nat} (hk : k + 1 ≤ i) {d : UInt8} (hd : s[k + 1]? = some d) : eqB s k i = (eqB s (k + 1) i || d == 61) := by
  unfold eqB
  have h : (s.take (i + 1)).drop (k + 1) = d :: (s.take (i + 1)).drop (k + 1 + 1) := by
    have h2 : (s.take (i + 1))[k + 1]? = some d := by rw [List.getElem?_take, if_pos (by omega)]; exact hd
    obtain ⟨hl, rfl⟩ := List.getElem?_eq_some_iff.1 h2
    rw [List.drop_eq_getElem_cons hl]
  rw [h, List.contains_cons, Bool.or_comm]
  congr 1
  rw [Bool.eq_iff_iff, beq_iff_eq, beq_iff_eq]
  exact ⟨fun h => h.symm, fun h => h.symm⟩
theorem contains_snoc10 (l : List UInt8) : (l ++ [10]).contains 61 = l.contains 61 := by
  rw [Bool.eq_iff_iff, List.contains_iff_mem, List.contains_iff_mem]; simp
theorem RS.eq_end (h : RS s i dn cur e line) (hc : s[i]? = some 10) {k : Nat} (hk : k ≤ i) (hno : ∀ j, k < j → j < i → s[j]? ≠ some 10) (hend : k = 0 ∨ (k ≠ i ∧ s[k]? = some 10)) : eqB s k i = eqOf dn cur := by
  have h1 := h.eq
  have hil : i < s.length := (List.getElem?_eq_some_iff.1 hc).1
  have hlen : (dn.flatMap (fun l => l ++ [10])).length + cur.length = i := by
    have := congrArg List.length h1
    rw [List.length_take, List.length_append] at this
    omega
  have hT : s.take (i + 1) = dn.flatMap (fun l => l ++ [10]) ++ (cur ++ [10]) := by rw [take_snocB hc, h1, List.append_assoc]
  have hat : ∀ j, j < i → s[j]? = (dn.flatMap (fun l => l ++ [10]) ++ cur)[j]? := fun j hj => by rw [← h1, List.getElem?_take, if_pos hj]
  unfold eqB eqOf
  rw [hT]
  rcases List.eq_nil_or_concat dn with rfl | ⟨o, z, rfl⟩
  · -- the first line
    simp only [List.flatMap_nil, List.nil_append, List.length_nil, Nat.zero_add] at hlen hat ⊢
    obtain rfl : k = 0 := by
      rcases hend with h0 | ⟨hne, hk10⟩
      · exact h0
      · rw [hat k (by omega)] at hk10
        exact absurd (List.mem_of_getElem? hk10) h.noc
    cases cur with
    | nil => rfl
    | cons x xs => simp
  · rw [List.concat_eq_append] at *
    have hne : (o ++ [z]).isEmpty = false := by simp
    rw [hne]
    generalize hD : (o ++ [z]).flatMap (fun l => l ++ [10]) = D at *
    have hDl : D.getLast? = some 10 := by rw [← hD, List.flatMap_append]; simp
    have hD0 : 0 < D.length := by
      rcases Nat.eq_zero_or_pos D.length with h0 | h0
      · rw [List.eq_nil_of_length_eq_zero h0] at hDl; cases hDl
      · exact h0
    have hD10 : s[D.length - 1]? = some 10 := by
      rw [hat _ (by omega), List.getElem?_append_left (by omega), ← List.getLast?_eq_getElem?]; exact hDl
    have hkD : k = D.length - 1 := by
      have h2 : ¬ k < D.length - 1 := fun hlt => hno _ hlt (by omega) hD10
      rcases Nat.lt_or_ge (D.length - 1) k with hgt | hle
      · exfalso
        rcases hend with h0 | ⟨hne', hk10⟩
        · omega
        · rw [hat k (by omega), List.getElem?_append_right (by omega)] at hk10
          exact h.noc (List.mem_of_getElem? hk10)
      · omega
    subst hkD
    rw [show D.length - 1 + 1 = D.length from by omega, List.drop_left, contains_snoc10]
    rfl
end
/-! ### The place of a new entry. -/
theorem ins_at {l : List (Int × Int)} {x : Int × Int} {k : Nat} (h : ∀ y ∈ l.take k, y.1 < x.1) (hend : k = l.length ∨ ∃ y, l[k]? = some y ∧ ¬ y.1 < x.1) : insK x l = l.take k ++ x :: l.drop k := by
  have h1 : l.takeWhile (fun y => decide (y.1 < x.1)) = l.take k ∧ l.dropWhile (fun y => decide (y.1 < x.1)) = l.drop k := by
    induction l generalizing k with
    | nil => simp
    | cons z l ih =>
      cases k with
      | zero =>
        rcases hend with h0 | ⟨y, hy, hny⟩
        · cases h0
        · simp at hy; subst hy
          rw [List.takeWhile_cons_of_neg (by simpa using hny), List.dropWhile_cons_of_neg (by simpa using hny)]
          simp
      | succ k =>
        have hz : z.1 < x.1 := h z (by simp)
        have := ih (k := k) (fun y hy => h y (by simp [hy])) (by
          rcases hend with h0 | ⟨y, hy, hny⟩
          · left; rw [List.length_cons] at h0; omega
          · right; exact ⟨y, hy, hny⟩)
        rw [List.takeWhile_cons_of_pos (by simpa using hz), List.dropWhile_cons_of_pos (by simpa using hz), this.1, this.2]
        simp
  unfold insK
  rw [h1.1, h1.2]
end Go.Proofs.YtfanjghfilkhmaaGreatDoor
