/- The plain law of Cover: separated years with the same common years are the same. -/
import Derived.Test.YthbckkjihijekaaDoorCp
set_option linter.unusedSimpArgs false
set_option linter.unusedVariables false
namespace Go.Proofs.YthbckkjihijekaaDoor
open Go.RowKit

def memI (l : List (Int × Int)) (n : Int) : Prop := ∃ z ∈ l, z.1 ≤ n ∧ n ≤ z.2
structure Canon (l : List (Int × Int)) : Prop where
  ok : ∀ z ∈ l, z.1 ≤ z.2
  gap : l.Pairwise fun z z' => z.2 + 1 < z'.1
theorem memI_nil (n : Int) : ¬ memI [] n := fun ⟨_, h, _⟩ => by simp at h
theorem memI_append (a b : List (Int × Int)) (n : Int) : memI (a ++ b) n ↔ memI a n ∨ memI b n := by
  unfold memI
  constructor
  · rintro ⟨z, hz, h⟩
    rcases List.mem_append.1 hz with hz | hz
    · exact .inl ⟨z, hz, h⟩
    · exact .inr ⟨z, hz, h⟩
  · rintro (⟨z, hz, h⟩ | ⟨z, hz, h⟩)
    · exact ⟨z, List.mem_append_left _ hz, h⟩
    · exact ⟨z, List.mem_append_right _ hz, h⟩
theorem memI_one (z : Int × Int) (n : Int) : memI [z] n ↔ z.1 ≤ n ∧ n ≤ z.2 := by
  unfold memI; simp
theorem memI_cons (z : Int × Int) (l : List (Int × Int)) (n : Int) : memI (z :: l) n ↔ (z.1 ≤ n ∧ n ≤ z.2) ∨ memI l n := by
  rw [show z :: l = [z] ++ l from rfl, memI_append, memI_one]
theorem memI_perm {a b : List (Int × Int)} (h : a.Perm b) (n : Int) : memI a n ↔ memI b n :=
  ⟨fun ⟨z, hz, hn⟩ => ⟨z, h.subset hz, hn⟩, fun ⟨z, hz, hn⟩ => ⟨z, h.symm.subset hz, hn⟩⟩
theorem canon_snoc {o : List (Int × Int)} {z : Int × Int} : Canon (o ++ [z]) ↔ Canon o ∧ z.1 ≤ z.2 ∧ ∀ y ∈ o, y.2 + 1 < z.1 := by
  constructor
  · rintro ⟨h1, h2⟩
    rw [List.pairwise_append] at h2
    exact ⟨⟨fun y hy => h1 y (List.mem_append_left _ hy), h2.1⟩, h1 z (by simp), fun y hy => h2.2.2 y hy z (by simp)⟩
  · rintro ⟨⟨h1, h2⟩, h3, h4⟩
    refine ⟨fun y hy => ?_, ?_⟩
    · rcases List.mem_append.1 hy with hy | hy
      · exact h1 y hy
      · simp at hy; subst hy; exact h3
    · rw [List.pairwise_append]
      exact ⟨h2, by simp, fun y hy z' hz' => by simp at hz'; subst hz'; exact h4 y hy⟩
theorem canon_nil : Canon [] := ⟨by simp, List.Pairwise.nil⟩

theorem canon_unique : ∀ (a b : List (Int × Int)), Canon a → Canon b → (∀ n, memI a n ↔ memI b n) → a = b
  | [], [], _, _, _ => rfl
  | [], z :: b, _, hb, h => absurd ((h z.1).2 ((memI_cons z b z.1).2 (.inl ⟨Int.le_refl _, hb.ok z (by simp)⟩))) (memI_nil _)
  | z :: a, [], ha, _, h => absurd ((h z.1).1 ((memI_cons z a z.1).2 (.inl ⟨Int.le_refl _, ha.ok z (by simp)⟩))) (memI_nil _)
  | z :: a, y :: b, ha, hb, h => by
    have hz := ha.ok z (by simp)
    have hy := hb.ok y (by simp)
    have ga := (List.pairwise_cons.1 ha.gap).1
    have gb := (List.pairwise_cons.1 hb.gap).1
    have la : ∀ n, memI a n → z.2 + 1 < n := fun n ⟨t, ht, h1, _⟩ => by have := ga t ht; omega
    have lb : ∀ n, memI b n → y.2 + 1 < n := fun n ⟨t, ht, h1, _⟩ => by have := gb t ht; omega
    have e1 : z.1 = y.1 := by
      have h1 := (h z.1).1 ((memI_cons z a z.1).2 (.inl ⟨Int.le_refl _, hz⟩))
      have h2 := (h y.1).2 ((memI_cons y b y.1).2 (.inl ⟨Int.le_refl _, hy⟩))
      rw [memI_cons] at h1 h2
      rcases h1 with h1 | h1
      · rcases h2 with h2 | h2
        · omega
        · have := la _ h2; omega
      · have := lb _ h1
        rcases h2 with h2 | h2
        · omega
        · have := la _ h2; omega
    have e2 : z.2 = y.2 := by
      rcases Int.lt_trichotomy z.2 y.2 with hlt | he | hgt
      · have h1 := (h (z.2 + 1)).2 ((memI_cons y b _).2 (.inl (by omega)))
        rw [memI_cons] at h1
        rcases h1 with h1 | h1
        · omega
        · have := la _ h1; omega
      · exact he
      · have h1 := (h (y.2 + 1)).1 ((memI_cons z a _).2 (.inl (by omega)))
        rw [memI_cons] at h1
        rcases h1 with h1 | h1
        · omega
        · have := lb _ h1; omega
    have e : z = y := Prod.ext e1 e2
    subst e
    have ha' : Canon a := ⟨fun t ht => ha.ok t (List.mem_cons_of_mem _ ht), (List.pairwise_cons.1 ha.gap).2⟩
    have hb' : Canon b := ⟨fun t ht => hb.ok t (List.mem_cons_of_mem _ ht), (List.pairwise_cons.1 hb.gap).2⟩
    rw [canon_unique a b ha' hb' fun n => ?_]
    have hn := h n
    rw [memI_cons, memI_cons] at hn
    constructor
    · intro hm
      have := la n hm
      rcases hn.1 (.inr hm) with h1 | h1
      · omega
      · exact h1
    · intro hm
      have := lb n hm
      rcases hn.2 (.inr hm) with h1 | h1
      · omega
      · exact h1

theorem mx_le (a b : Int) : a ≤ mx a b ∧ b ≤ mx a b := by unfold mx; split <;> omega
theorem covStep_good {out : List (Int × Int)} {y : Int × Int} (hc : Canon out) (hy : y.1 ≤ y.2) (hs : ∀ z ∈ out, z.1 ≤ y.1) :
    Canon (covStep out y) ∧ (∀ n, memI (covStep out y) n ↔ memI out n ∨ (y.1 ≤ n ∧ n ≤ y.2)) ∧ ∀ z ∈ covStep out y, z.1 ≤ y.1 := by
  rcases List.eq_nil_or_concat out with rfl | ⟨o, z, rfl⟩
  · have e : covStep [] y = [] ++ [y] := by simp [covStep]
    rw [e]
    refine ⟨canon_snoc.2 ⟨canon_nil, hy, by simp⟩, fun n => ?_, by simp⟩
    rw [memI_append, memI_one]
  · rw [List.concat_eq_append] at hc hs ⊢
    obtain ⟨h1, h2, h3⟩ := canon_snoc.1 hc
    have hz := hs z (by simp)
    rw [covStep_snoc]
    split
    · rename_i hle
      have hm := mx_le z.2 y.2
      have hm2 := mx_cases z.2 y.2
      refine ⟨canon_snoc.2 ⟨h1, by show z.1 ≤ mx z.2 y.2; omega, h3⟩, fun n => ?_, fun t ht => ?_⟩
      · rw [memI_append, memI_append, memI_one, memI_one, or_assoc]
        refine or_congr_right ?_
        show z.1 ≤ n ∧ n ≤ mx z.2 y.2 ↔ _
        omega
      · rcases List.mem_append.1 ht with ht | ht
        · exact hs t (List.mem_append_left _ ht)
        · simp at ht; subst ht; exact hz
    · rename_i hlt
      refine ⟨canon_snoc.2 ⟨hc, hy, fun t ht => ?_⟩, fun n => ?_, fun t ht => ?_⟩
      · rcases List.mem_append.1 ht with ht | ht
        · have := h3 t ht; omega
        · simp at ht; subst ht; omega
      · rw [memI_append (o ++ [z]) [y], memI_one]
      · rcases List.mem_append.1 ht with ht | ht
        · exact hs t ht
        · simp at ht; subst ht; exact Int.le_refl _
theorem cov_good_aux : ∀ (ys out : List (Int × Int)), Canon out → (∀ y ∈ ys, y.1 ≤ y.2) → ys.Pairwise (fun x y => x.1 ≤ y.1) → (∀ z ∈ out, ∀ y ∈ ys, z.1 ≤ y.1) →
    Canon (ys.foldl covStep out) ∧ ∀ n, memI (ys.foldl covStep out) n ↔ memI out n ∨ memI ys n
  | [], out, hc, _, _, _ => ⟨hc, fun n => by simp [memI]⟩
  | y :: ys, out, hc, hy, hp, hs => by
    obtain ⟨h1, h2, h3⟩ := covStep_good hc (hy y (by simp)) (fun z hz => hs z hz y (by simp))
    have hp' := List.pairwise_cons.1 hp
    obtain ⟨h4, h5⟩ := cov_good_aux ys (covStep out y) h1 (fun t ht => hy t (List.mem_cons_of_mem _ ht)) hp'.2 (fun z hz t ht => Int.le_trans (h3 z hz) (hp'.1 t ht))
    refine ⟨h4, fun n => ?_⟩
    rw [List.foldl_cons, h5 n, h2 n, memI_cons, or_assoc]
theorem cov_good {ys : List (Int × Int)} (hy : ∀ y ∈ ys, y.1 ≤ y.2) (hp : ys.Pairwise fun x y => x.1 ≤ y.1) : Canon (cov ys) ∧ ∀ n, memI (cov ys) n ↔ memI ys n := by
  obtain ⟨h1, h2⟩ := cov_good_aux ys [] canon_nil hy hp (by simp)
  exact ⟨h1, fun n => by rw [show cov ys = ys.foldl covStep [] from rfl, h2 n]; simp [memI_nil]⟩

/-- The reference's cover. -/
def inB (zs : List (Int × Int)) (n : Int) : Bool := zs.any fun z => decide (z.1 ≤ n) && decide (n ≤ z.2)
theorem inB_iff (zs : List (Int × Int)) (n : Int) : inB zs n = true ↔ memI zs n := by
  unfold inB memI; simp
def putStep (out : List (Int × Int)) (n : Int) : List (Int × Int) :=
  match out.getLast? with
  | some z => if z.2 = n - 1 then out.dropLast ++ [(z.1, n)] else out ++ [(n, n)]
  | none => [(n, n)]
theorem putStep_snoc (o : List (Int × Int)) (z : Int × Int) (n : Int) : putStep (o ++ [z]) n = if z.2 = n - 1 then o ++ [(z.1, n)] else o ++ [z] ++ [(n, n)] := by
  simp [putStep]
def rcov (zs : List (Int × Int)) : Nat → List (Int × Int)
  | 0 => []
  | k + 1 => if inB zs (-9999 + (k : Int)) then putStep (rcov zs k) (-9999 + (k : Int)) else rcov zs k
theorem putStep_len (out : List (Int × Int)) (n : Int) : (putStep out n).length ≤ out.length + 1 := by
  rcases List.eq_nil_or_concat out with rfl | ⟨o, z, rfl⟩
  · simp [putStep]
  · rw [List.concat_eq_append, putStep_snoc]; split <;> simp
theorem rcov_len (zs : List (Int × Int)) : ∀ k, (rcov zs k).length ≤ k
  | 0 => by simp [rcov]
  | k + 1 => by
    have ih := rcov_len zs k
    rw [rcov]
    split
    · have := putStep_len (rcov zs k) (-9999 + (k : Int)); omega
    · omega
theorem rcov_good (zs : List (Int × Int)) : ∀ k : Nat, Canon (rcov zs k) ∧ (∀ n, memI (rcov zs k) n ↔ (memI zs n ∧ -9999 ≤ n ∧ n < -9999 + (k : Int)))
  | 0 => ⟨canon_nil, fun n => ⟨fun h => absurd h (memI_nil n), fun h => by omega⟩⟩
  | k + 1 => by
    obtain ⟨h1, h2⟩ := rcov_good zs k
    rw [rcov]
    have hk : ((k + 1 : Nat) : Int) = (k : Int) + 1 := by omega
    rw [hk]
    generalize hm : -9999 + (k : Int) = m at *
    have hm1 : -9999 + ((k : Int) + 1) = m + 1 := by omega
    rw [hm1]
    have hm0 : -9999 ≤ m := by omega
    have hlt : ∀ z ∈ rcov zs k, z.2 < m := fun z hz => ((h2 z.2).1 ⟨z, hz, h1.ok z hz, Int.le_refl _⟩).2.2
    generalize rcov zs k = out at *
    split
    · rename_i hin
      rw [inB_iff] at hin
      have key : Canon (putStep out m) ∧ ∀ n, memI (putStep out m) n ↔ memI out n ∨ n = m := by
        rcases List.eq_nil_or_concat out with rfl | ⟨o, z, rfl⟩
        · have e : putStep [] m = [] ++ [(m, m)] := by simp [putStep]
          rw [e]
          refine ⟨canon_snoc.2 ⟨canon_nil, Int.le_refl _, by simp⟩, fun n => ?_⟩
          rw [memI_append, memI_one]
          refine or_congr_right ?_
          show m ≤ n ∧ n ≤ m ↔ _
          omega
        · rw [List.concat_eq_append] at h1 hlt ⊢
          obtain ⟨g1, g2, g3⟩ := canon_snoc.1 h1
          have hz := hlt z (by simp)
          rw [putStep_snoc]
          split
          · rename_i he
            refine ⟨canon_snoc.2 ⟨g1, by show z.1 ≤ m; omega, g3⟩, fun n => ?_⟩
            rw [memI_append, memI_append, memI_one, memI_one, or_assoc]
            refine or_congr_right ?_
            show z.1 ≤ n ∧ n ≤ m ↔ _
            omega
          · rename_i hne
            refine ⟨canon_snoc.2 ⟨h1, Int.le_refl _, fun t ht => ?_⟩, fun n => ?_⟩
            · rcases List.mem_append.1 ht with ht | ht
              · have := g3 t ht; show t.2 + 1 < m; omega
              · simp at ht; subst ht; show t.2 + 1 < m; omega
            · rw [memI_append (o ++ [z]) [(m, m)], memI_one]
              refine or_congr_right ?_
              show m ≤ n ∧ n ≤ m ↔ _
              omega
      refine ⟨key.1, fun n => ?_⟩
      rw [key.2 n, h2 n]
      constructor
      · rintro (h | rfl)
        · exact ⟨h.1, h.2.1, by omega⟩
        · exact ⟨hin, hm0, by omega⟩
      · rintro ⟨h, h', h''⟩
        by_cases hn : n = m
        · exact .inr hn
        · exact .inl ⟨h, h', by omega⟩
    · rename_i hin
      rw [inB_iff] at hin
      refine ⟨h1, fun n => ?_⟩
      rw [h2 n]
      constructor
      · rintro ⟨h, h', h''⟩; exact ⟨h, h', by omega⟩
      · rintro ⟨h, h', h''⟩
        refine ⟨h, h', ?_⟩
        by_cases hn : n = m
        · subst hn; exact absurd h hin
        · omega
/-- The program's cover is the reference's, whatever the order. -/
theorem cov_rcov {ys zs : List (Int × Int)} (hv : zs.any invY = false) (hp : ys.Perm zs) (hs : ys.Pairwise fun x y => x.1 ≤ y.1) : cov ys = rcov zs 19999 := by
  have hval : ∀ y ∈ zs, y.1 ≤ y.2 ∧ -9999 ≤ y.1 ∧ y.2 ≤ 9999 := fun y hy => (validB_iff _ _).1 (noInv hv y hy)
  obtain ⟨h1, h2⟩ := cov_good (fun y hy => (hval y (hp.subset hy)).1) hs
  obtain ⟨h3, h4⟩ := rcov_good zs 19999
  refine canon_unique _ _ h1 h3 fun n => ?_
  rw [h2 n, h4 n, memI_perm hp n]
  constructor
  · intro h
    obtain ⟨z, hz, h5, h6⟩ := h
    have := hval z hz
    exact ⟨⟨z, hz, h5, h6⟩, by omega, by omega⟩
  · exact fun h => h.1
theorem rcov_perm {zs zs' : List (Int × Int)} (hp : zs.Perm zs') (k : Nat) : rcov zs k = rcov zs' k := by
  obtain ⟨h1, h2⟩ := rcov_good zs k
  obtain ⟨h3, h4⟩ := rcov_good zs' k
  refine canon_unique _ _ h1 h3 fun n => ?_
  rw [h2 n, h4 n, memI_perm hp n]
theorem any_perm {zs zs' : List (Int × Int)} (hp : zs.Perm zs') : zs.any invY = zs'.any invY := by
  rw [Bool.eq_iff_iff, List.any_eq_true, List.any_eq_true]
  exact ⟨fun ⟨z, hz, h⟩ => ⟨z, hp.subset hz, h⟩, fun ⟨z, hz, h⟩ => ⟨z, hp.symm.subset hz, h⟩⟩
/-- A cover is its own cover. -/
theorem cov_own {c : List (Int × Int)} (hc : Canon c) (hb : ∀ n, memI c n → -9999 ≤ n ∧ n ≤ 9999) : c.any invY = false ∧ rcov c 19999 = c := by
  have hv : ∀ z ∈ c, validB z.1 z.2 = true := fun z hz => by
    have h0 := hc.ok z hz
    rw [validB_iff]
    exact ⟨h0, (hb z.1 ⟨z, hz, Int.le_refl _, h0⟩).1, (hb z.2 ⟨z, hz, h0, Int.le_refl _⟩).2⟩
  refine ⟨?_, ?_⟩
  · rw [List.any_eq_false]
    intro z hz
    unfold invY; rw [hv z hz]; simp
  · obtain ⟨h3, h4⟩ := rcov_good c 19999
    refine canon_unique _ _ h3 hc fun n => ?_
    rw [h4 n]
    exact ⟨fun h => h.1, fun h => ⟨h, (hb n h).1, by have := (hb n h).2; omega⟩⟩
end Go.Proofs.YthbckkjihijekaaDoor
