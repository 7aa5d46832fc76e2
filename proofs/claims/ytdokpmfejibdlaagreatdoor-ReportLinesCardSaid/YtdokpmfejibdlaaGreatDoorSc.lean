/- Lists of specimens in plain words: check, sort, find, union, dies, export, import. -/
import Derived.Test.YtdokpmfejibdlaaGreatDoorSb
set_option linter.unusedSimpArgs false
set_option linter.unusedVariables false
namespace Go.Proofs.YtdokpmfejibdlaaGreatDoor

def idsOf (l : List Spm) : List Int := l.map Spm.id
def chk (l : List Spm) : Int := if 64 < l.length then 6 else if l.all validS then (if (idsOf l).Nodup then 0 else 8) else 1
theorem chk_zero (l : List Spm) : chk l = 0 ↔ l.length ≤ 64 ∧ (∀ x ∈ l, validS x = true) ∧ (idsOf l).Nodup := by
  unfold chk
  by_cases h1 : 64 < l.length
  · rw [if_pos h1]; constructor
    · intro h; cases h
    · intro h; omega
  · rw [if_neg h1]
    by_cases h2 : l.all validS = true
    · rw [if_pos h2]
      by_cases h3 : (idsOf l).Nodup
      · rw [if_pos h3]; exact ⟨fun _ => ⟨by omega, List.all_eq_true.1 h2, h3⟩, fun _ => rfl⟩
      · rw [if_neg h3]; exact ⟨(fun h => by simp at h), (fun h => absurd h.2.2 h3)⟩
    · rw [if_neg h2]; exact ⟨(fun h => by simp at h), (fun h => absurd (List.all_eq_true.2 h.2.1) h2)⟩
def ltS (a b : Spm) : Prop := a.id < b.id
def sortS (l : List Spm) : List Spm := l.mergeSort (fun a b => decide (a.id ≤ b.id))
theorem sortS_perm (l : List Spm) : (sortS l).Perm l := List.mergeSort_perm l _
theorem sortS_len (l : List Spm) : (sortS l).length = l.length := (sortS_perm l).length_eq
theorem sortS_mem (l : List Spm) (x : Spm) : x ∈ sortS l ↔ x ∈ l := (sortS_perm l).mem_iff
theorem sortS_le (l : List Spm) : (sortS l).Pairwise (fun a b => a.id ≤ b.id) := by
  have h := List.pairwise_mergeSort (le := fun a b : Spm => decide (a.id ≤ b.id)) (fun a b c h1 h2 => by simp only [decide_eq_true_eq] at *; omega) (fun a b => by simp only [Bool.or_eq_true, decide_eq_true_eq]; omega) l
  exact h.imp (fun h => by simpa using h)
theorem id_inj {l : List Spm} (hn : (idsOf l).Nodup) {a b : Spm} (ha : a ∈ l) (hb : b ∈ l) (h : a.id = b.id) : a = b := by
  induction l with
  | nil => cases ha
  | cons x l ih =>
    unfold idsOf at hn
    rw [List.map_cons, List.nodup_cons] at hn
    rcases List.mem_cons.1 ha with ea | ha
    · rcases List.mem_cons.1 hb with eb | hb
      · rw [ea, eb]
      · have := List.mem_map_of_mem (f := Spm.id) hb
        rw [← h, ea] at this
        exact absurd this hn.1
    · rcases List.mem_cons.1 hb with eb | hb
      · have := List.mem_map_of_mem (f := Spm.id) ha
        rw [h, eb] at this
        exact absurd this hn.1
      · exact ih hn.2 ha hb
theorem sort_unique {ys zs : List Spm} (hp : ys.Perm zs) (h1 : ys.Pairwise (fun a b => a.id ≤ b.id)) (h2 : zs.Pairwise (fun a b => a.id ≤ b.id)) (hn : (idsOf ys).Nodup) : ys = zs :=
  List.Perm.eq_of_pairwise (le := fun a b : Spm => a.id ≤ b.id) (fun a b ha hb h3 h4 => id_inj hn ha (hp.mem_iff.2 hb) (by omega)) h1 h2 hp
theorem nodup_perm {ys zs : List Spm} (hp : ys.Perm zs) : (idsOf ys).Nodup ↔ (idsOf zs).Nodup := (hp.map Spm.id).nodup_iff
theorem sort_of {ys l : List Spm} (hp : ys.Perm l) (h1 : ys.Pairwise (fun a b => a.id ≤ b.id)) (hn : (idsOf l).Nodup) : ys = sortS l :=
  sort_unique (hp.trans (sortS_perm l).symm) h1 (sortS_le l) ((nodup_perm hp).2 hn)
theorem lt_nodup {l : List Spm} (h : l.Pairwise ltS) : (idsOf l).Nodup := by
  unfold idsOf
  rw [List.Nodup, List.pairwise_map]
  exact h.imp (fun h e => by unfold ltS at h; omega)
theorem sortS_lt {l : List Spm} (hn : (idsOf l).Nodup) : (sortS l).Pairwise ltS := by
  have h1 := sortS_le l
  have h2 : (idsOf (sortS l)).Nodup := (nodup_perm (sortS_perm l)).2 hn
  unfold idsOf at h2
  rw [List.Nodup, List.pairwise_map] at h2
  exact (h1.and h2).imp (fun h => by have := h.1; have := h.2; unfold ltS; omega)
theorem sortS_of_lt {l : List Spm} (h : l.Pairwise ltS) : sortS l = l :=
  (sort_of (List.Perm.refl l) (h.imp (fun h => by unfold ltS at h; omega)) (lt_nodup h)).symm
theorem nodup_of_ids {l : List Spm} (h : (idsOf l).Nodup) : l.Nodup := by
  unfold idsOf at h
  rw [List.Nodup, List.pairwise_map] at h
  exact h.imp (fun h e => h (by rw [e]))
theorem lt_unique {ys zs : List Spm} (h1 : ys.Pairwise ltS) (h2 : zs.Pairwise ltS) (hm : ∀ x, x ∈ ys ↔ x ∈ zs) : ys = zs :=
  sort_unique ((List.perm_ext_iff_of_nodup (nodup_of_ids (lt_nodup h1)) (nodup_of_ids (lt_nodup h2))).2 hm)
    (h1.imp (fun h => by unfold ltS at h; omega)) (h2.imp (fun h => by unfold ltS at h; omega)) (lt_nodup h1)
theorem chk_sort (l : List Spm) : chk (sortS l) = chk l := by
  unfold chk
  rw [sortS_len]
  have h1 : (sortS l).all validS = l.all validS := by
    rw [Bool.eq_iff_iff, List.all_eq_true, List.all_eq_true]
    exact ⟨fun h x hx => h x ((sortS_mem l x).2 hx), fun h x hx => h x ((sortS_mem l x).1 hx)⟩
  rw [h1]
  by_cases h : (idsOf l).Nodup
  · rw [if_pos h, if_pos ((nodup_perm (sortS_perm l)).2 h)]
  · rw [if_neg h, if_neg (fun h' => h ((nodup_perm (sortS_perm l)).1 h'))]

/-! ### Find, union. -/
def findS (l : List Spm) (i : Int) : Option Spm := l.find? (fun x => x.id == i)
theorem findS_some {l : List Spm} {i : Int} {x : Spm} (h : findS l i = some x) : x ∈ l ∧ x.id = i := by
  unfold findS at h
  exact ⟨List.mem_of_find?_eq_some h, by simpa using List.find?_some h⟩
theorem findS_none {l : List Spm} {i : Int} : findS l i = none ↔ ∀ x ∈ l, x.id ≠ i := by
  unfold findS; simp
theorem findS_mem {l : List Spm} (hn : (idsOf l).Nodup) {x : Spm} (hx : x ∈ l) : findS l x.id = some x := by
  cases h : findS l x.id with
  | none => exact absurd rfl (findS_none.1 h x hx)
  | some y =>
    obtain ⟨h1, h2⟩ := findS_some h
    rw [id_inj hn h1 hx h2]
def fresh (a : List Spm) (x : Spm) : Bool := (findS a x.id).isNone
def bad (a : List Spm) (x : Spm) : Bool := match findS a x.id with
  | some y => decide (y ≠ x)
  | none => false
def joined (a b : List Spm) : List Spm := a ++ b.filter (fresh a)
def unionE (a b : List Spm) : Int := if chk a = 0 then (if chk b = 0 then (if b.any (bad a) then 10 else if 64 < (joined a b).length then 6 else 0) else chk b) else chk a
def unionL (a b : List Spm) : List Spm := if unionE a b = 0 then sortS (joined a b) else []
theorem bad_false {a b : List Spm} : b.any (bad a) = false ↔ ∀ x ∈ b, ∀ y, findS a x.id = some y → y = x := by
  rw [List.any_eq_false]
  constructor
  · intro h x hx y hy
    have := h x hx
    unfold bad at this
    rw [hy] at this
    simpa using this
  · intro h x hx
    unfold bad
    cases hf : findS a x.id with
    | none => simp
    | some y => simp [h x hx y hf]
/-- Two lists agree: what has one number is one specimen. -/
def agree (a b : List Spm) : Prop := ∀ x ∈ a, ∀ y ∈ b, x.id = y.id → x = y
theorem agree_iff {a b : List Spm} (ha : (idsOf a).Nodup) : b.any (bad a) = false ↔ agree a b := by
  rw [bad_false]
  constructor
  · intro h x hx y hy e
    exact h y hy x (by rw [← e]; exact findS_mem ha hx)
  · intro h y hy x hx
    obtain ⟨h1, h2⟩ := findS_some hx
    exact h x h1 y hy h2
theorem agree_symm {a b : List Spm} (h : agree a b) : agree b a := fun x hx y hy e => (h y hy x hx e.symm).symm
theorem joined_nodup {a b : List Spm} (ha : (idsOf a).Nodup) (hb : (idsOf b).Nodup) : (idsOf (joined a b)).Nodup := by
  unfold joined idsOf
  rw [List.map_append, List.nodup_append]
  refine ⟨ha, List.Sublist.nodup (List.filter_sublist.map _) hb, ?_⟩
  intro x hx y hy e
  obtain ⟨u, hu, rfl⟩ := List.mem_map.1 hx
  obtain ⟨v, hv, rfl⟩ := List.mem_map.1 hy
  obtain ⟨hv1, hv2⟩ := List.mem_filter.1 hv
  unfold fresh at hv2
  rw [Option.isNone_iff_eq_none] at hv2
  exact findS_none.1 hv2 u hu e
theorem joined_mem {a b : List Spm} (hab : agree a b) (x : Spm) : x ∈ joined a b ↔ x ∈ a ∨ x ∈ b := by
  unfold joined
  rw [List.mem_append, List.mem_filter]
  constructor
  · rintro (h | h)
    · exact .inl h
    · exact .inr h.1
  · rintro (h | h)
    · exact .inl h
    · cases hf : findS a x.id with
      | none => exact .inr ⟨h, by unfold fresh; rw [hf]; rfl⟩
      | some y =>
        obtain ⟨h1, h2⟩ := findS_some hf
        exact .inl (hab y h1 x h h2 ▸ h1)
theorem joined_valid {a b : List Spm} (ha : ∀ x ∈ a, validS x = true) (hb : ∀ x ∈ b, validS x = true) : ∀ x ∈ joined a b, validS x = true := by
  intro x hx
  rcases List.mem_append.1 hx with h | h
  · exact ha x h
  · exact hb x (List.mem_filter.1 h).1
theorem chk_joined {a b : List Spm} (ha : chk a = 0) (hb : chk b = 0) : chk (joined a b) = if 64 < (joined a b).length then 6 else 0 := by
  obtain ⟨a1, a2, a3⟩ := (chk_zero a).1 ha
  obtain ⟨b1, b2, b3⟩ := (chk_zero b).1 hb
  unfold chk
  split
  · rfl
  · rw [if_pos (List.all_eq_true.2 (joined_valid a2 b2)), if_pos (joined_nodup a3 b3)]
/-- WHAT A UNION IS. -/
theorem union_iff (a b w : List Spm) : (unionE a b = 0 ∧ unionL a b = w) ↔ (chk a = 0 ∧ chk b = 0 ∧ agree a b ∧ w.length ≤ 64 ∧ w.Pairwise ltS ∧ ∀ x, x ∈ w ↔ x ∈ a ∨ x ∈ b) := by
  constructor
  · rintro ⟨h1, h2⟩
    unfold unionL at h2
    rw [if_pos h1] at h2
    unfold unionE at h1
    by_cases ha : chk a = 0
    · rw [if_pos ha] at h1
      by_cases hb : chk b = 0
      · rw [if_pos hb] at h1
        obtain ⟨a1, a2, a3⟩ := (chk_zero a).1 ha
        obtain ⟨b1, b2, b3⟩ := (chk_zero b).1 hb
        cases hbad : b.any (bad a)
        · rw [hbad] at h1
          have hag := (agree_iff a3).1 hbad
          by_cases hl : 64 < (joined a b).length
          · simp [hl] at h1
          · subst h2
            exact ⟨ha, hb, hag, by rw [sortS_len]; omega, sortS_lt (joined_nodup a3 b3), fun x => by rw [sortS_mem, joined_mem hag]⟩
        · rw [hbad] at h1; simp at h1
      · rw [if_neg hb] at h1; exact absurd h1 hb
    · rw [if_neg ha] at h1; exact absurd h1 ha
  · rintro ⟨ha, hb, hag, hl, hw, hm⟩
    obtain ⟨a1, a2, a3⟩ := (chk_zero a).1 ha
    obtain ⟨b1, b2, b3⟩ := (chk_zero b).1 hb
    have he : sortS (joined a b) = w := lt_unique (sortS_lt (joined_nodup a3 b3)) hw (fun x => by rw [sortS_mem, joined_mem hag, hm])
    have hE : unionE a b = 0 := by
      unfold unionE
      rw [if_pos ha, if_pos hb, (agree_iff a3).2 hag, if_neg (by decide), if_neg (by rw [← sortS_len, he]; omega)]
    exact ⟨hE, by unfold unionL; rw [if_pos hE, he]⟩
theorem union_comm {a b w : List Spm} (h1 : unionE a b = 0) (h2 : unionL a b = w) : unionE b a = 0 ∧ unionL b a = w := by
  obtain ⟨ha, hb, hag, hl, hw, hm⟩ := (union_iff a b w).1 ⟨h1, h2⟩
  exact (union_iff b a w).2 ⟨hb, ha, agree_symm hag, hl, hw, fun x => by rw [hm]; exact Or.comm⟩
theorem union_chk {a b : List Spm} (h : unionE a b = 0) : chk (unionL a b) = 0 := by
  obtain ⟨ha, hb, hag, hl, hw, hm⟩ := (union_iff a b _).1 ⟨h, rfl⟩
  refine (chk_zero _).2 ⟨hl, fun x hx => ?_, lt_nodup hw⟩
  rcases (hm x).1 hx with h | h
  · exact ((chk_zero a).1 ha).2.1 x h
  · exact ((chk_zero b).1 hb).2.1 x h
theorem union_assoc {a b c : List Spm} (h1 : unionE a b = 0) (h2 : unionE b c = 0) (w : List Spm) : (unionE (unionL a b) c = 0 ∧ unionL (unionL a b) c = w) ↔ (unionE a (unionL b c) = 0 ∧ unionL a (unionL b c) = w) := by
  obtain ⟨ha, hb, hab, hl, hw, hm⟩ := (union_iff a b _).1 ⟨h1, rfl⟩
  obtain ⟨_, hc, hbc, hl', hw', hm'⟩ := (union_iff b c _).1 ⟨h2, rfl⟩
  rw [union_iff, union_iff]
  have e1 : agree (unionL a b) c ↔ agree a c := by
    constructor
    · intro h x hx y hy e; exact h x ((hm x).2 (.inl hx)) y hy e
    · intro h x hx y hy e
      rcases (hm x).1 hx with hx | hx
      · exact h x hx y hy e
      · exact hbc x hx y hy e
  have e2 : agree a (unionL b c) ↔ agree a c := by
    constructor
    · intro h x hx y hy e; exact h x hx y ((hm' y).2 (.inr hy)) e
    · intro h x hx y hy e
      rcases (hm' y).1 hy with hy | hy
      · exact hab x hx y hy e
      · exact h x hx y hy e
  have e3 : ∀ x, (x ∈ unionL a b ∨ x ∈ c) ↔ (x ∈ a ∨ x ∈ unionL b c) := fun x => by rw [hm, hm']; exact or_assoc
  have c1 := union_chk h1
  have c2 := union_chk h2
  constructor
  · rintro ⟨_, _, hag, k1, k2, k3⟩
    exact ⟨ha, c2, e2.2 (e1.1 hag), k1, k2, fun x => by rw [k3, e3]⟩
  · rintro ⟨_, _, hag, k1, k2, k3⟩
    exact ⟨c1, hc, e1.2 (e2.1 hag), k1, k2, fun x => by rw [k3, ← e3]⟩
theorem union_zero_or (a b : List Spm) : unionE a b ≠ 0 → unionL a b = [] := fun h => by unfold unionL; rw [if_neg h]

/-! ### The specimens of a die. -/
def struck (side num : Int) (x : Spm) : Bool := (decide (side = 0) && decide (x.obv = num)) || (decide (side = 1) && decide (x.rev = num))
def okDie (side num : Int) : Bool := inR side 0 1 && inR num 1 999
def ofE (l : List Spm) (side num : Int) : Int := if chk l = 0 then (if okDie side num then 0 else 1) else chk l
def ofL (l : List Spm) (side num : Int) : List Int := if ofE l side num = 0 then ((sortS l).filter (struck side num)).map Spm.id else []
theorem ofL_mem {l : List Spm} {side num : Int} (h : ofE l side num = 0) (i : Int) : i ∈ ofL l side num ↔ ∃ x ∈ l, struck side num x = true ∧ x.id = i := by
  unfold ofL
  rw [if_pos h, List.mem_map]
  constructor
  · rintro ⟨x, hx, rfl⟩
    obtain ⟨h1, h2⟩ := List.mem_filter.1 hx
    exact ⟨x, (sortS_mem l x).1 h1, h2, rfl⟩
  · rintro ⟨x, hx, h2, rfl⟩
    exact ⟨x, List.mem_filter.2 ⟨(sortS_mem l x).2 hx, h2⟩, rfl⟩

/-! ### Export, import. -/
def texts (l : List Spm) : List UInt8 := l.flatMap (fun x => textSp x ++ [10])
def expL (l : List Spm) : List UInt8 := if chk l = 0 then texts (sortS l) else []
structure ImpOk (s : List UInt8) (l : List Spm) : Prop where
  short : s.length ≤ 4096
  chk : chk l = 0
  lt : l.Pairwise ltS
  txt : texts l = s
theorem textSp_nl (x : Spm) : (10 : UInt8) ∉ textSp x := by
  intro hm
  unfold textSp at hm
  split at hm
  · rename_i h
    obtain ⟨h1, h2, h3, h4, h5, h6, h7⟩ := (validS_iff x).1 h
    have hh : 1 ≤ hourS x ∧ hourS x ≤ 12 := by unfold hourS; split <;> omega
    have n10 : ¬ isDig 10 := by unfold isDig; decide
    rcases List.mem_append.1 hm with hm | hm
    · exact n10 (itoa_dig _ (by omega) _ hm)
    rcases List.mem_cons.1 hm with hm | hm
    · exact absurd hm (by decide)
    rcases List.mem_append.1 hm with hm | hm
    · unfold pairS at hm
      split at hm
      · rcases List.mem_append.1 hm with hm | hm
        · exact labS_no 10 n10 (by decide) (by decide) (by decide) _ hm
        · rcases List.mem_cons.1 hm with hm | hm
          · exact absurd hm (by decide)
          · exact labS_no 10 n10 (by decide) (by decide) (by decide) _ hm
      · cases hm
    rcases List.mem_cons.1 hm with hm | hm
    · exact absurd hm (by decide)
    rcases List.mem_append.1 hm with hm | hm
    · rcases List.mem_append.1 hm with hm | hm
      · exact n10 (itoa_dig _ (by omega) _ hm)
      · simp at hm
    rcases List.mem_cons.1 hm with hm | hm
    · exact absurd hm (by decide)
    unfold gramS at hm
    rcases List.mem_append.1 hm with hm | hm
    · exact n10 (dec_digits _ _ hm)
    rcases List.mem_cons.1 hm with hm | hm
    · exact absurd hm (by decide)
    · exact n10 (pad3_dig _ (by omega) _ hm)
  · cases hm
theorem texts_cons (x : Spm) (l : List Spm) : texts (x :: l) = textSp x ++ 10 :: texts l := by unfold texts; simp
theorem texts_append (a b : List Spm) : texts (a ++ b) = texts a ++ texts b := by unfold texts; simp
theorem cut_texts (x : Spm) (l : List Spm) : Lib.cut (texts (x :: l)) [10] = (textSp x, texts l, true) := by
  rw [texts_cons]; exact cut_hit1 10 _ _ (textSp_nl x)
theorem textSp_inj {x y : Spm} (hx : validS x = true) (hy : validS y = true) (h : textSp x = textSp y) : x = y := by
  have h1 := parseSp_text x hx
  rw [h, parseSp_text y hy] at h1
  exact (Option.some.inj h1).symm
theorem nl_split {a b c d : List UInt8} (ha : (10 : UInt8) ∉ a) (hc : (10 : UInt8) ∉ c) (h : a ++ 10 :: b = c ++ 10 :: d) : a = c ∧ b = d := by
  have h1 := cut_hit1 10 a b ha
  rw [h, cut_hit1 10 c d hc] at h1
  simp only [Prod.mk.injEq] at h1
  exact ⟨h1.1.symm, h1.2.1.symm⟩
theorem textSp_ne {x : Spm} (h : validS x = true) : textSp x ≠ [] := by
  intro e
  have := parseSp_text x h
  rw [e] at this
  obtain ⟨h1, _⟩ := parseSp_words this
  cases h1
/-- What follows what is read already. -/
theorem texts_prefix : ∀ (out l : List Spm) (r : List UInt8), (∀ x ∈ out, validS x = true) → (∀ x ∈ l, validS x = true) → texts l = texts out ++ r → ∃ l', l = out ++ l' ∧ texts l' = r
  | [], l, r, _, _, h => ⟨l, rfl, h⟩
  | x :: out, [], r, _, _, h => by rw [texts_cons] at h; simp [texts] at h
  | x :: out, y :: l, r, hx, hl, h => by
    rw [texts_cons, texts_cons, List.append_assoc, List.cons_append] at h
    obtain ⟨h1, h2⟩ := nl_split (textSp_nl y) (textSp_nl x) h
    have he := textSp_inj (hl y (by simp)) (hx x (by simp)) h1
    subst he
    obtain ⟨l', e1, e2⟩ := texts_prefix out l r (fun z hz => hx z (by simp [hz])) (fun z hz => hl z (by simp [hz])) h2
    exact ⟨l', by rw [e1]; rfl, e2⟩
theorem imp_unique {s : List UInt8} {l m : List Spm} (h1 : ImpOk s l) (h2 : ImpOk s m) : l = m := by
  obtain ⟨l', e1, e2⟩ := texts_prefix l m [] ((chk_zero l).1 h1.chk).2.1 ((chk_zero m).1 h2.chk).2.1 (by rw [List.append_nil, h1.txt, h2.txt])
  cases l' with
  | nil => rw [e1, List.append_nil]
  | cons x l' => rw [texts_cons] at e2; simp at e2
theorem texts_len : ∀ (l : List Spm), (∀ x ∈ l, validS x = true) → (texts l).length ≤ 41 * l.length
  | [], _ => by simp [texts]
  | x :: l, h => by
    rw [texts_cons, List.length_append, List.length_cons, List.length_cons]
    have h1 := parseSp_len (parseSp_text x (h x (by simp)))
    have h2 := texts_len l (fun y hy => h y (by simp [hy]))
    omega
theorem imp_exp {l : List Spm} (h : chk l = 0) : ImpOk (expL l) (sortS l) := by
  obtain ⟨h1, h2, h3⟩ := (chk_zero l).1 h
  have hv : ∀ x ∈ sortS l, validS x = true := fun x hx => h2 x ((sortS_mem l x).1 hx)
  refine ⟨?_, by rw [chk_sort]; exact h, sortS_lt h3, by unfold expL; rw [if_pos h]⟩
  unfold expL
  rw [if_pos h]
  have := texts_len (sortS l) hv
  rw [sortS_len] at this
  omega
theorem exp_of_imp {s : List UInt8} {l : List Spm} (h : ImpOk s l) : expL l = s := by
  unfold expL
  rw [if_pos h.chk, sortS_of_lt h.lt]
  exact h.txt
/-- The step of the program's reading. -/
theorem imp_step {s r : List UInt8} {out l : List Spm} (ho : ∀ x ∈ out, validS x = true) (hs : s = texts out ++ r) (hr : r ≠ []) (h : ImpOk s l) :
    ∃ x l', l = out ++ x :: l' ∧ Lib.cut r [10] = (textSp x, texts l', true) ∧ validS x = true ∧ out.length < 64 ∧ ∀ y, out.getLast? = some y → y.id < x.id := by
  have hv := ((chk_zero l).1 h.chk).2.1
  obtain ⟨l1, e1, e2⟩ := texts_prefix out l r ho hv (by rw [h.txt, hs])
  cases l1 with
  | nil => exact absurd e2.symm (by simpa [texts] using hr)
  | cons x l' =>
    refine ⟨x, l', e1, by rw [← e2]; exact cut_texts x l', hv x (by rw [e1]; simp), ?_, ?_⟩
    · have := ((chk_zero l).1 h.chk).1
      rw [e1, List.length_append, List.length_cons] at this
      omega
    · intro y hy
      have hp := h.lt
      rw [e1, List.pairwise_append] at hp
      exact hp.2.2 y (List.mem_of_getLast? hy) x (by simp)
theorem cut_true {r d m : List UInt8} (h : Lib.cut r [10] = (d, m, true)) : r = d ++ 10 :: m := by
  rcases first_split 10 r with h' | ⟨d', r', rfl, hd⟩
  · rw [cut_none1 10 r h'] at h; simp at h
  · rw [cut_hit1 10 d' r' hd] at h
    simp only [Prod.mk.injEq] at h
    rw [h.1, h.2.1]
theorem imp_go {s r d m : List UInt8} {out : List Spm} {x : Spm} (hs : s = texts out ++ r) (hc : Lib.cut r [10] = (d, m, true)) (hp : parseSp d = some x) : s = texts (out ++ [x]) ++ m := by
  rw [hs, cut_true hc, texts_append, texts_cons, (parseSp_some hp).2]
  simp [texts]
theorem pairwise_snoc {out : List Spm} {x : Spm} (h : out.Pairwise ltS) (hl : ∀ y, out.getLast? = some y → y.id < x.id) : (out ++ [x]).Pairwise ltS := by
  rw [List.pairwise_append]
  refine ⟨h, List.pairwise_singleton .., fun a ha b hb => ?_⟩
  rw [List.mem_singleton] at hb
  subst hb
  rcases List.eq_nil_or_concat out with rfl | ⟨o, z, rfl⟩
  · cases ha
  · rw [List.concat_eq_append] at *
    have hz := hl z (by simp)
    rw [List.pairwise_append] at h
    rcases List.mem_append.1 ha with ha | ha
    · have := h.2.2 a ha z (by simp)
      unfold ltS at *; omega
    · rw [List.mem_singleton] at ha; subst ha; exact hz

/-! ### The reference's reading. -/
def parse0 (l : List UInt8) : Spm := (parseSp l).getD spZero
def refL (s : List UInt8) : List Spm := (wordsL 10 s).dropLast.map parse0
theorem wordsL_texts : ∀ l : List Spm, wordsL 10 (texts l) = l.map textSp ++ [[]]
  | [] => rfl
  | x :: l => by rw [texts_cons, wordsL_cut 10 _ _ (textSp_nl x), wordsL_texts l]; rfl
theorem refL_texts (l : List Spm) (h : ∀ x ∈ l, validS x = true) : refL (texts l) = l := by
  unfold refL
  rw [wordsL_texts, List.dropLast_concat, List.map_map]
  conv => rhs; rw [← List.map_id l]
  refine List.map_congr_left (fun x hx => ?_)
  simp [parse0, parseSp_text x (h x hx)]
theorem ref_imp {s : List UInt8} (hs : s.length ≤ 4096) (hc : chk (refL s) = 0) (he : expL (refL s) = s) : ImpOk s (refL s) := by
  have h := imp_exp hc
  rw [he] at h
  have h2 := refL_texts (sortS (refL s)) ((chk_zero _).1 h.chk).2.1
  rw [h.txt] at h2
  rw [← h2] at h
  exact h
theorem ref_of_imp {s : List UInt8} {l : List Spm} (h : ImpOk s l) : refL s = l := by
  rw [← h.txt]; exact refL_texts l ((chk_zero l).1 h.chk).2.1
end Go.Proofs.YtdokpmfejibdlaaGreatDoor
