/- Chains of editions, looks (chapter 47), in plain words. -/
import Derived.Test.YtfanjghfilkhmaaGreatDoorEc
set_option linter.unusedSimpArgs false
set_option linter.unusedVariables false
namespace Go.Proofs.YtfanjghfilkhmaaGreatDoor

theorem follows_self {e : Ed} : followsE e e ↔ validE e := by
  constructor
  · exact fun h => h.1
  · intro h
    exact ⟨h, h, fun x hx => by rw [findE_mem (validE_keys h) hx], fun r hr => hr⟩
/-- In a chain each number that had a key has it still, or is retired. -/
theorem chain_keeps {l : List Ed} (h : ∀ i e f, l[i]? = some e → l[i + 1]? = some f → followsE e f) : ∀ (d i : Nat) (e g : Ed), l[i]? = some e → l[i + d]? = some g → ∀ x ∈ e.ents, keepsE x g
  | 0, i, e, g, he, hg, x, hx => by
    rw [Nat.add_zero, he] at hg
    cases hg
    exact .inl hx
  | d + 1, i, e, g, he, hg, x, hx => by
    have hlt : i + (d + 1) < l.length := (List.getElem?_eq_some_iff.1 hg).1
    have hf : l[i + d]? = some l[i + d] := List.getElem?_eq_getElem (by omega)
    have h1 := chain_keeps h d i e _ he hf x hx
    exact keeps_step h1 (h (i + d) _ g hf (by rw [Nat.add_assoc]; exact hg))
/-- .. so that no number ever has two keys. -/
theorem chain_own {l : List Ed} (h : ∀ i e f, l[i]? = some e → l[i + 1]? = some f → followsE e f) (hv : ∀ g ∈ l, validE g) {i d : Nat} {e g : Ed} (he : l[i]? = some e) (hg : l[i + d]? = some g) {x : Int × Int} (hx : x ∈ e.ents) {key : Int} (ho : ownE g x.2 = some key) : key = x.1 :=
  keeps_own (chain_keeps h d i e g he hg x hx) (hv g (List.mem_of_getElem? hg)) ho
/-- A key leads to its number and back. -/
theorem own_find {e : Ed} (h : validE e) {key n : Int} (hf : findE e key = some n) : ownE e n = some key ∧ n ≤ topE e ∧ 1 ≤ n ∧ n ≤ 999 := by
  have hm := findE_some hf
  have hb := (okList_sort.1 h.2.1).2.1 _ (List.mem_map_of_mem (f := Prod.snd) hm)
  exact ⟨ownE_mem (validE_nums h) hm, top_ents _ hm, hb.1, hb.2⟩
theorem own_pos {e : Ed} (h : validE e) {key n : Int} (ho : ownE e n = some key) : 1 ≤ key ∧ key ≤ 9999 :=
  h.1.2.1 _ (List.mem_map_of_mem (f := Prod.fst) (ownE_some ho))
/-- The reference's answers: 0 where there is none. -/
def find0 (e : Ed) (key : Int) : Int := (findE e key).getD 0
def own0 (e : Ed) (n : Int) : Int := (ownE e n).getD 0
theorem find0_zero {e : Ed} (h : validE e) (key : Int) : find0 e key = 0 ↔ findE e key = none := by
  unfold find0
  cases hf : findE e key with
  | none => simp
  | some n => have := own_find h hf; simp; omega
theorem own0_zero {e : Ed} (h : validE e) (n : Int) : own0 e n = 0 ↔ ownE e n = none := by
  unfold own0
  cases hf : ownE e n with
  | none => simp
  | some k => have := own_pos h hf; simp; omega
/-- The reference's question whether an edition follows another one is the program's. -/
theorem follows_ref {e f : Ed} (he : validE e) (hf : validE f) : followsE e f ↔ ((∀ x ∈ e.ents, ¬ (find0 f x.1 ≠ 0 ∧ find0 f x.1 ≠ x.2) ∧ ¬ (find0 f x.1 = 0 ∧ x.2 ∉ f.ret)) ∧ ∀ r ∈ e.ret, r ∈ f.ret) := by
  unfold followsE
  constructor
  · rintro ⟨_, _, h3, h4⟩
    refine ⟨fun x hx => ?_, h4⟩
    have := h3 x hx
    have hz := find0_zero hf x.1
    cases hg : findE f x.1 with
    | none => rw [hg] at this; exact ⟨fun h => h.1 (hz.2 hg), fun h => h.2 this⟩
    | some n =>
      rw [hg] at this
      have h0 : find0 f x.1 = n := by unfold find0; rw [hg]; rfl
      exact ⟨fun h => h.2 (h0.trans this), fun h => by have := hz.1 h.1; rw [hg] at this; cases this⟩
  · rintro ⟨h3, h4⟩
    refine ⟨he, hf, fun x hx => ?_, h4⟩
    obtain ⟨h5, h6⟩ := h3 x hx
    have hz := find0_zero hf x.1
    cases hg : findE f x.1 with
    | none =>
      have h0 := hz.2 hg
      exact Classical.byContradiction fun hn => h6 ⟨h0, hn⟩
    | some n =>
      have h0 : find0 f x.1 = n := by unfold find0; rw [hg]; rfl
      have hne : find0 f x.1 ≠ 0 := fun h => by have := hz.1 h; rw [hg] at this; cases this
      have : find0 f x.1 = x.2 := Classical.byContradiction fun hn => h5 ⟨hne, hn⟩
      exact h0.symm.trans this
end Go.Proofs.YtfanjghfilkhmaaGreatDoor
