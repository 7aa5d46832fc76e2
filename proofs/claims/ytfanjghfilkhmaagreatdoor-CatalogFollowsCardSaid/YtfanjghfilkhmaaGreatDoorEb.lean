/- The next edition in plain words (chapter 47); what follows what. -/
import Derived.Test.YtfanjghfilkhmaaGreatDoorEa
set_option linter.unusedSimpArgs false
set_option linter.unusedVariables false
namespace Go.Proofs.YtfanjghfilkhmaaGreatDoor

/-- The entries of the next edition, the greatest number being 'last' so far, and the greatest number behind them. -/
def newEnts (e : Ed) : List Int → Int → List (Int × Int) × Int
  | [], last => ([], last)
  | k :: r, last => match findE e k with
    | some n => ((k, n) :: (newEnts e r last).1, (newEnts e r last).2)
    | none => ((k, last + 1) :: (newEnts e r (last + 1)).1, (newEnts e r (last + 1)).2)
theorem newEnts_keys (e : Ed) : ∀ (l : List Int) (t : Int), (newEnts e l t).1.map Prod.fst = l
  | [], t => rfl
  | k :: r, t => by
    unfold newEnts
    cases findE e k with
    | some n => simp [newEnts_keys e r t]
    | none => simp [newEnts_keys e r (t + 1)]
theorem newEnts_top (e : Ed) : ∀ (l : List Int) (t : Int), t ≤ (newEnts e l t).2
  | [], t => Int.le_refl _
  | k :: r, t => by
    unfold newEnts
    cases findE e k with
    | some n => exact newEnts_top e r t
    | none => have := newEnts_top e r (t + 1); simp only; omega
/-- Each new entry is an old one, or has a number above 't', at most the last; the new numbers are distinct. -/
theorem newEnts_mem (e : Ed) : ∀ (l : List Int) (t : Int) (x : Int × Int), x ∈ (newEnts e l t).1 → (findE e x.1 = some x.2) ∨ (findE e x.1 = none ∧ t < x.2 ∧ x.2 ≤ (newEnts e l t).2)
  | [], t, x, h => by cases h
  | k :: r, t, x, h => by
    unfold newEnts at h ⊢
    cases hf : findE e k with
    | some n =>
      rw [hf] at h
      rcases List.mem_cons.1 h with rfl | h
      · exact .inl hf
      · exact newEnts_mem e r t x h
    | none =>
      rw [hf] at h
      rcases List.mem_cons.1 h with rfl | h
      · exact .inr ⟨hf, by simp only; omega, newEnts_top e r (t + 1)⟩
      · rcases newEnts_mem e r (t + 1) x h with h' | ⟨h1, h2, h3⟩
        · exact .inl h'
        · exact .inr ⟨h1, by omega, h3⟩
theorem newEnts_nodup {e : Ed} (hk : (keysE e).Nodup) (hn : (numsE e).Nodup) : ∀ (l : List Int) (t : Int), l.Nodup → (∀ x ∈ e.ents, x.2 ≤ t) → ((newEnts e l t).1.map Prod.snd).Nodup
  | [], t, _, _ => List.nodup_nil
  | k :: r, t, hl, ht => by
    obtain ⟨hkr, hr⟩ := List.nodup_cons.1 hl
    unfold newEnts
    cases hf : findE e k with
    | some n =>
      rw [List.map_cons, List.nodup_cons]
      refine ⟨fun hm => ?_, newEnts_nodup hk hn r t hr ht⟩
      obtain ⟨x, hx, hx2⟩ := List.mem_map.1 hm
      have hk0 := findE_some hf
      rcases newEnts_mem e r t x hx with h' | ⟨h1, h2, _⟩
      · have := ent_num hn (findE_some h') hk0 hx2
        have hxr : x.1 ∈ r := by rw [← newEnts_keys e r t]; exact List.mem_map_of_mem (f := Prod.fst) hx
        have h3 : x.1 = k := congrArg Prod.fst this
        exact hkr (h3 ▸ hxr)
      · have := ht _ hk0
        rw [hx2] at h2
        simp only at this h2
        omega
    | none =>
      rw [List.map_cons, List.nodup_cons]
      refine ⟨fun hm => ?_, newEnts_nodup hk hn r (t + 1) hr (fun x hx => by have := ht x hx; omega)⟩
      obtain ⟨x, hx, hx2⟩ := List.mem_map.1 hm
      rcases newEnts_mem e r (t + 1) x hx with h' | ⟨h1, h2, _⟩
      · have := ht _ (findE_some h')
        simp only at this hx2
        omega
      · simp only at hx2; omega
/-- The codes: 1 bad arguments, 6 full, 7 out of range (names of the code are checked at the walk). -/
def nextOf (e : Ed) (l : List Int) : Ed := ⟨(newEnts e l (topE e)).1, retE e l⟩
structure NextOk (e : Ed) (l : List Int) : Prop where
  valid : validE e
  keys : okList l 9999
  room : (retE e l).length ≤ 64
  range : (newEnts e l (topE e)).2 ≤ 999
theorem retE_mem {e : Ed} {l : List Int} {n : Int} : n ∈ retE e l ↔ n ∈ e.ret ∨ ∃ x ∈ e.ents, x.1 ∉ l ∧ x.2 = n := by
  unfold retE
  rw [sortI_mem, List.mem_append, List.mem_map]
  constructor
  · rintro (h | ⟨x, hx, rfl⟩)
    · exact .inl h
    · obtain ⟨h1, h2⟩ := List.mem_filter.1 hx
      exact .inr ⟨x, h1, by simpa using h2, rfl⟩
  · rintro (h | ⟨x, h1, h2, rfl⟩)
    · exact .inl h
    · exact .inr ⟨x, List.mem_filter.2 ⟨h1, by simpa using h2⟩, rfl⟩
theorem top_ents {e : Ed} : ∀ x ∈ e.ents, x.2 ≤ topE e := fun x hx => topE_ge (List.mem_append.2 (.inl (List.mem_map_of_mem (f := Prod.snd) hx)))
theorem top_ret {e : Ed} : ∀ r ∈ e.ret, r ≤ topE e := fun r hr => topE_ge (List.mem_append.2 (.inr hr))
theorem next_valid {e : Ed} {l : List Int} (h : NextOk e l) : validE (nextOf e l) := by
  have hk := validE_keys h.valid
  have hn := validE_nums h.valid
  obtain ⟨⟨_, _, _⟩, h2, ⟨r1, r2, r3⟩, h4⟩ := h.valid
  obtain ⟨n1, n2, n3⟩ := okList_sort.1 h2
  obtain ⟨l1, l2, l3⟩ := h.keys
  have hlen : (newEnts e l (topE e)).1.length = l.length := by rw [← List.length_map (f := Prod.fst), newEnts_keys]
  have hretnd : (e.ret ++ (e.ents.filter (fun x => !l.contains x.1)).map Prod.snd).Nodup := by
    rw [List.nodup_append]
    refine ⟨asc_nodup r1, List.Sublist.nodup (List.filter_sublist.map _) hn, fun a ha b hb e' => ?_⟩
    obtain ⟨y, hy, rfl⟩ := List.mem_map.1 hb
    exact h4 a ha (e' ▸ List.mem_map_of_mem (f := Prod.snd) (List.mem_filter.1 hy).1)
  refine ⟨?_, okList_sort.2 ⟨newEnts_nodup hk hn l _ (asc_nodup l1) top_ents, fun n hn' => ?_, ?_⟩, ⟨sortI_lt hretnd, fun r hr => ?_, h.room⟩, fun r hr hrn => ?_⟩
  · show okList ((newEnts e l (topE e)).1.map Prod.fst) 9999
    rw [newEnts_keys]; exact ⟨l1, l2, l3⟩
  · obtain ⟨x, hx, rfl⟩ := List.mem_map.1 hn'
    rcases newEnts_mem e l _ x hx with h' | ⟨_, h5, h6⟩
    · exact n2 _ (List.mem_map_of_mem (f := Prod.snd) (findE_some h'))
    · have := topE_pos e; have := h.range; omega
  · show ((newEnts e l (topE e)).1.map Prod.snd).length ≤ 64
    rw [List.length_map, hlen]; exact l3
  · rcases retE_mem.1 hr with h' | ⟨x, hx, _, rfl⟩
    · exact r2 r h'
    · exact n2 _ (List.mem_map_of_mem (f := Prod.snd) hx)
  · obtain ⟨y, hy, hy2⟩ := List.mem_map.1 hrn
    have hyl : y.1 ∈ l := by rw [← newEnts_keys e l (topE e)]; exact List.mem_map_of_mem (f := Prod.fst) hy
    rcases newEnts_mem e l _ y hy with h' | ⟨_, h5, _⟩
    · rcases retE_mem.1 hr with h6 | ⟨x, hx, hxl, hx2⟩
      · exact h4 r h6 (hy2 ▸ List.mem_map_of_mem (f := Prod.snd) (findE_some h'))
      · have := ent_num hn (findE_some h') hx (hy2.trans hx2.symm)
        exact hxl (this ▸ hyl)
    · rcases retE_mem.1 hr with h6 | ⟨x, hx, hxl, hx2⟩
      · have := top_ret r h6; omega
      · have := top_ents x hx; omega
/-- What follows what. -/
def followsE (e f : Ed) : Prop := validE e ∧ validE f ∧ (∀ x ∈ e.ents, match findE f x.1 with | some n => n = x.2 | none => x.2 ∈ f.ret) ∧ ∀ r ∈ e.ret, r ∈ f.ret
theorem next_follows {e : Ed} {l : List Int} (h : NextOk e l) : followsE e (nextOf e l) := by
  have hk := validE_keys h.valid
  refine ⟨h.valid, next_valid h, fun x hx => ?_, fun r hr => retE_mem.2 (.inl hr)⟩
  cases hf : findE (nextOf e l) x.1 with
  | some n =>
    have h1 := findE_some hf
    rcases newEnts_mem e l _ (x.1, n) h1 with h' | ⟨h', _⟩
    · rw [findE_mem hk hx] at h'; exact (Option.some.inj h').symm
    · rw [findE_mem hk hx] at h'; cases h'
  | none =>
    have h1 := findE_none.1 hf
    have h2 : keysE (nextOf e l) = l := newEnts_keys e l _
    rw [h2] at h1
    exact retE_mem.2 (.inr ⟨x, hx, h1, rfl⟩)
/-- A number that once had a key has it still, or is retired. -/
def keepsE (x : Int × Int) (g : Ed) : Prop := x ∈ g.ents ∨ x.2 ∈ g.ret
theorem keeps_step {x : Int × Int} {f g : Ed} (h : keepsE x f) (hf : followsE f g) : keepsE x g := by
  obtain ⟨_, _, h3, h4⟩ := hf
  rcases h with h | h
  · have h5 := h3 x h
    cases hg : findE g x.1 with
    | some n => rw [hg] at h5; left; have := findE_some hg; rw [h5] at this; exact this
    | none => rw [hg] at h5; exact .inr h5
  · exact .inr (h4 _ h)
theorem keeps_own {x : Int × Int} {g : Ed} (h : keepsE x g) (hv : validE g) {key : Int} (ho : ownE g x.2 = some key) : key = x.1 := by
  have h1 := ownE_some ho
  rcases h with h | h
  · exact congrArg Prod.fst (ent_num (validE_nums hv) h1 h rfl)
  · exact absurd (List.mem_map_of_mem (f := Prod.snd) h1) (hv.2.2.2 _ h)
end Go.Proofs.YtfanjghfilkhmaaGreatDoor
