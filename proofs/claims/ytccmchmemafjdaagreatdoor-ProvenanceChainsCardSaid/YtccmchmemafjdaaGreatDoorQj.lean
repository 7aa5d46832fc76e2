/- ProvenanceChains in plain words (chapter 46). -/
import Derived.Test.YtccmchmemafjdaaGreatDoorQc
import Derived.Test.YtccmchmemafjdaaGreatDoorPo
set_option linter.unusedSimpArgs false
set_option linter.unusedVariables false
namespace Go.Proofs.YtccmchmemafjdaaGreatDoor
open Go.RowKit

/-- The places of the groups, as they are written down: those before i, and the first k of group i. -/
structure AtI (gs : List (List Int)) (i k : Nat) (av : List Int) : Prop where
  len : av.length = 10000
  val : ∀ (t : Nat) (z : List Int) (a : Int), gs[t]? = some z → (t < i ∧ a ∈ z ∨ t = i ∧ a ∈ z.take k) → av[a.toNat]? = some ((t : Int) + 1)
theorem AtI.start {gs : List (List Int)} {av : List Int} (h : av.length = 10000) : AtI gs 0 0 av := ⟨h, fun t z a _ h => by
  rcases h with ⟨h, _⟩ | ⟨_, h⟩
  · omega
  · simp at h⟩
/-- What is used of the groups. -/
structure GrF (gs : List (List Int)) : Prop where
  range : ∀ (t : Nat) (z : List Int) (a : Int), gs[t]? = some z → a ∈ z → 1 ≤ a ∧ a ≤ 9999
  uniq : ∀ (t t' : Nat) (z z' : List Int) (a : Int), gs[t]? = some z → gs[t']? = some z' → a ∈ z → a ∈ z' → t = t'
theorem AtI.set {gs : List (List Int)} {i k : Nat} {av : List Int} (h : AtI gs i k av) (hG : GrF gs) {z : List Int} {a : Int} (hz : gs[i]? = some z) (ha : z[k]? = some a) : AtI gs i (k + 1) (av.set a.toNat ((i : Int) + 1)) := by
  have ham := List.mem_of_getElem? ha
  have hr := hG.range i z a hz ham
  refine ⟨by rw [List.length_set]; exact h.len, fun t z' a' hz' ht => ?_⟩
  have hm' : a' ∈ z' := by
    rcases ht with ⟨_, h⟩ | ⟨_, h⟩
    · exact h
    · exact List.mem_of_mem_take h
  have hr' := hG.range t z' a' hz' hm'
  by_cases e : a' = a
  · subst e
    obtain rfl := hG.uniq t i z' z a' hz' hz hm' ham
    exact List.getElem?_set_self (by rw [h.len]; omega)
  · rw [List.getElem?_set_ne (by omega)]
    refine h.val t z' a' hz' ?_
    rcases ht with h1 | ⟨rfl, h1⟩
    · exact .inl h1
    · right
      refine ⟨rfl, ?_⟩
      have hzz : z' = z := Option.some.inj (hz'.symm.trans hz)
      subst hzz
      rcases (mem_take_snoc ha).1 h1 with h2 | h2
      · exact h2
      · exact absurd h2 e
theorem AtI.next {gs : List (List Int)} {i k : Nat} {av : List Int} (h : AtI gs i k av) {z : List Int} (hz : gs[i]? = some z) (hk : z.length = k) : AtI gs (i + 1) 0 av :=
  ⟨h.len, fun t z' a hz' ht => by
    rcases ht with ⟨h1, h2⟩ | ⟨_, h2⟩
    · rcases Nat.lt_or_ge t i with h3 | h3
      · exact h.val t z' a hz' (.inl ⟨h3, h2⟩)
      · obtain rfl : t = i := by omega
        have hzz : z' = z := Option.some.inj (hz'.symm.trans hz)
        subst hzz
        exact h.val t z' a hz' (.inr ⟨rfl, by rw [take_all hk]; exact h2⟩)
    · simp at h2⟩
section
variable {ls : List Lst}
theorem nm_of (h0 : chkL ls = 0) : Nm (idsL ls) (holdsL ls) [] (nmU ls []) ∧ InIds (idsL ls) (holdsL ls) [] := by
  obtain ⟨_, hv, _⟩ := chkL_zero h0
  exact ⟨nmU_nm (inIds_of hv (P := []) (by simp)), inIds_of hv (by simp)⟩
theorem grps_at {t : Nat} {z : List Int} (hz : (grpsL ls)[t]? = some z) : ∃ r, ((sortI (idsL ls)).filter (fun r => decide (nmU ls [] r = r)))[t]? = some r ∧ z = grpOf (idsL ls) (nmU ls []) r := by
  unfold grpsL groupsOf at hz
  rw [List.getElem?_map] at hz
  cases hr : ((sortI (idsL ls)).filter (fun r => decide (nmU ls [] r = r)))[t]? with
  | none => rw [hr] at hz; cases hz
  | some r => rw [hr] at hz; exact ⟨r, rfl, by injection hz with hz; exact hz.symm⟩
theorem grF (h0 : chkL ls = 0) : GrF (grpsL ls) := by
  obtain ⟨_, hv, hnd⟩ := chkL_zero h0
  refine ⟨fun t z a hz ha => ?_, fun t t' z z' a hz hz' ha ha' => ?_⟩
  · have hi := grpsL_in (List.mem_of_getElem? hz) a ha
    unfold idsL at hi
    obtain ⟨x, hx, rfl⟩ := List.mem_map.1 hi
    exact (hv x hx).1
  · obtain ⟨r, hr, rfl⟩ := grps_at hz
    obtain ⟨r', hr', rfl⟩ := grps_at hz'
    have e1 := (mem_grp.1 ha).2
    have e2 := (mem_grp.1 ha').2
    have hrr : r = r' := by rw [← e1, e2]
    subst hrr
    have hnd2 : ((sortI (idsL ls)).filter (fun r => decide (nmU ls [] r = r))).Nodup := ((sortI_perm (idsL ls)).nodup_iff.2 hnd).sublist List.filter_sublist
    have hl := (List.getElem?_eq_some_iff.1 hr).1
    exact (List.getElem?_inj hl hnd2).1 (hr.trans hr'.symm)
theorem grps_has (h0 : chkL ls = 0) {a : Int} (ha : a ∈ idsL ls) : ∃ t : Nat, (grpsL ls)[t]? = some (grpOf (idsL ls) (nmU ls []) (nmU ls [] a)) ∧ a ∈ grpOf (idsL ls) (nmU ls []) (nmU ls [] a) := by
  have hN := (nm_of h0).1
  have hm : nmU ls [] a ∈ (sortI (idsL ls)).filter (fun r => decide (nmU ls [] r = r)) := by
    rw [List.mem_filter, sortI_mem, decide_eq_true_iff]
    exact ⟨hN.mem a ha, hN.idem ha⟩
  obtain ⟨t, ht⟩ := List.getElem?_of_mem hm
  refine ⟨t, ?_, mem_grp.2 ⟨ha, rfl⟩⟩
  unfold grpsL groupsOf
  rw [List.getElem?_map, ht]
  rfl
theorem at_has {gs : List (List Int)} {n : Nat} {av : List Int} (h : AtI gs n 0 av) (hn : gs.length = n) {t : Nat} {z : List Int} {a : Int} (hz : gs[t]? = some z) (ha : a ∈ z) : av[a.toNat]? = some ((t : Int) + 1) :=
  h.val t z a hz (.inl ⟨by rw [← hn]; exact (List.getElem?_eq_some_iff.1 hz).1, ha⟩)
theorem share_same (h0 : chkL ls = 0) {x y : Lst} (hx : x ∈ ls) (hy : y ∈ ls) (hs : shareL x y) : nmU ls [] x.id = nmU ls [] y.id := by
  obtain ⟨s, h1, h2⟩ := hs
  exact (nm_of h0).1.same _ _ (.inl ⟨s, mem_holds.2 ⟨x, hx, rfl, h1⟩, mem_holds.2 ⟨y, hy, rfl, h2⟩⟩)
theorem grps_flat (h0 : chkL ls = 0) : (grpsL ls).flatten.length = ls.length := by
  obtain ⟨_, _, hnd⟩ := chkL_zero h0
  have hG := grF h0
  have hp : (grpsL ls).flatten.Perm (idsL ls) := by
    refine (List.perm_ext_iff_of_nodup ?_ hnd).2 fun a => ?_
    · show List.Pairwise _ _
      rw [List.pairwise_flatten]
      refine ⟨fun z hz => ?_, ?_⟩
      · unfold grpsL groupsOf at hz
        obtain ⟨r, _, rfl⟩ := List.mem_map.1 hz
        unfold grpOf
        exact ((sortI_perm (idsL ls)).nodup_iff.2 hnd).sublist List.filter_sublist
      · rw [List.pairwise_iff_getElem]
        intro i j hi hj hij a ha b ha' hab
        subst hab
        have := hG.uniq i j _ _ a (List.getElem?_eq_getElem hi) (List.getElem?_eq_getElem hj) ha ha'
        omega
    · rw [List.mem_flatten]
      constructor
      · rintro ⟨z, hz, ha⟩
        exact grpsL_in hz a ha
      · intro ha
        obtain ⟨t, ht, hm⟩ := grps_has h0 ha
        exact ⟨_, List.mem_of_getElem? ht, hm⟩
  rw [hp.length_eq, ids_len]
/-- A group is held together at each cut. -/
theorem grps_cut (h0 : chkL ls = 0) {z : List Int} (hz : z ∈ grpsL ls) {k : Nat} (h1 : 0 < k) (h2 : k < z.length) : ∃ (i j : Nat) (x y : Lst), ls[i]? = some x ∧ ls[j]? = some y ∧ shareL x y ∧ x.id ∈ z.take k ∧ y.id ∈ z.drop k := by
  obtain ⟨hN, hI⟩ := nm_of h0
  obtain ⟨_, _, hnd⟩ := chkL_zero h0
  have hzn : z.Nodup := by
    unfold grpsL groupsOf at hz
    obtain ⟨r, _, rfl⟩ := List.mem_map.1 hz
    unfold grpOf
    exact ((sortI_perm (idsL ls)).nodup_iff.2 hnd).sublist List.filter_sublist
  have hsame : ∀ a ∈ z, ∀ b, b ∈ idsL ls → (nmU ls [] a = nmU ls [] b ↔ b ∈ z) := fun a ha b hb => by
    unfold grpsL groupsOf at hz
    obtain ⟨r, _, rfl⟩ := List.mem_map.1 hz
    rw [mem_grp]
    have := (mem_grp.1 ha).2
    rw [this]
    exact ⟨fun h => ⟨hb, h.symm⟩, fun h => h.2.symm⟩
  have hdis : ∀ a, a ∈ z.take k → a ∈ z.drop k → False := fun a ha hb => by
    have := List.nodup_append.1 (by rw [List.take_append_drop]; exact hzn : (z.take k ++ z.drop k).Nodup)
    exact this.2.2 a ha a hb rfl
  have ha : z[0]'(by omega) ∈ z.take k := by
    rw [List.mem_take_iff_getElem]
    exact ⟨0, by omega, rfl⟩
  have hb : z[k] ∈ z.drop k := by
    refine List.mem_of_getElem? (i := 0) ?_
    rw [List.getElem?_drop, Nat.add_zero]
    exact List.getElem?_eq_getElem h2
  have haz := List.mem_of_mem_take ha
  have hbz := List.mem_of_mem_drop hb
  have hc : Conn (holdsL ls) [] (z[0]'(by omega)) z[k] := (hN.conn_iff (grpsL_in hz _ haz) (grpsL_in hz _ hbz)).2 ((hsame _ haz _ (grpsL_in hz _ hbz)).2 hbz)
  rcases cross (G := fun a => a ∈ z.take k) hc with h | ⟨u, v, he, hu, hv⟩
  · exact absurd (h.1 ha) (fun h => hdis _ h hb)
  · have hvz := List.mem_of_mem_take hv
    have heq : nmU ls [] v = nmU ls [] u := by
      rcases he with he | he
      · exact (hN.same _ _ he).symm
      · exact hN.same _ _ he
    have hum : u ∈ idsL ls := by
      rcases he with he | he
      · exact (hI.edge he).1
      · exact (hI.edge he).2
    have huz : u ∈ z := (hsame v hvz u hum).1 heq
    have hud : u ∈ z.drop k := by
      have : u ∈ z.take k ++ z.drop k := by rw [List.take_append_drop]; exact huz
      rcases List.mem_append.1 this with h | h
      · exact absurd h hu
      · exact h
    have hsh : ∃ s, (s, v) ∈ holdsL ls ∧ (s, u) ∈ holdsL ls := by
      rcases he with (⟨s, h1, h2⟩ | h1) | (⟨s, h1, h2⟩ | h1)
      · exact ⟨s, h2, h1⟩
      · cases h1
      · exact ⟨s, h1, h2⟩
      · cases h1
    obtain ⟨s, hsv, hsu⟩ := hsh
    obtain ⟨x, hx, hxv, hsx⟩ := mem_holds.1 hsv
    obtain ⟨y, hy, hyu, hsy⟩ := mem_holds.1 hsu
    obtain ⟨i, hi⟩ := List.getElem?_of_mem hx
    obtain ⟨j, hj⟩ := List.getElem?_of_mem hy
    exact ⟨i, j, x, y, hi, hj, ⟨s, hsx, hsy⟩, by rw [hxv]; exact hv, by rw [hyu]; exact hud⟩
end
end Go.Proofs.YtccmchmemafjdaaGreatDoor
