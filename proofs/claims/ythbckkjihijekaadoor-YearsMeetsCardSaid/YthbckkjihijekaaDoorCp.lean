/- Cover: plain functions. -/
import Derived.Test.YthbckkjihijekaaDoorSeq
import Derived.Test.YthbckkjihijekaaDoorYd
import Derived.Deep.DeepFit
set_option linter.unusedSimpArgs false
set_option linter.unusedVariables false
namespace Go.Proofs.YthbckkjihijekaaDoor
open Go.RowKit

def invY (x : Int × Int) : Bool := !validB x.1 x.2
theorem any_take_succ {α : Type} {p : α → Bool} {xs : List α} {k : Nat} {x : α} (h : xs[k]? = some x) : (xs.take (k + 1)).any p = ((xs.take k).any p || p x) := by
  rw [take_snocS h, List.any_append]; simp
theorem any_of_at {α : Type} {p : α → Bool} {xs : List α} {k : Nat} {x : α} (h : xs[k]? = some x) (hp : p x = true) : xs.any p = true := by
  rw [List.any_eq_true]
  exact ⟨x, List.mem_of_getElem? h, hp⟩
def covStep (out : List (Int × Int)) (y : Int × Int) : List (Int × Int) :=
  match out.getLast? with
  | some z => if y.1 ≤ z.2 + 1 then out.dropLast ++ [(z.1, mx z.2 y.2)] else out ++ [y]
  | none => [y]
def cov (ys : List (Int × Int)) : List (Int × Int) := ys.foldl covStep []
theorem covStep_snoc (o : List (Int × Int)) (z y : Int × Int) : covStep (o ++ [z]) y = if y.1 ≤ z.2 + 1 then o ++ [(z.1, mx z.2 y.2)] else o ++ [z] ++ [y] := by
  simp [covStep]
theorem cov_snoc (ys : List (Int × Int)) (y : Int × Int) : cov (ys ++ [y]) = covStep (cov ys) y := by simp [cov]
theorem covStep_len (out : List (Int × Int)) (y : Int × Int) : (covStep out y).length ≤ out.length + 1 := by
  rcases List.eq_nil_or_concat out with rfl | ⟨o, z, rfl⟩
  · simp [covStep]
  · rw [List.concat_eq_append, covStep_snoc]; split <;> simp
theorem cov_len (ys : List (Int × Int)) : (cov ys).length ≤ ys.length := by
  suffices h : ∀ (ys : List (Int × Int)) out, (ys.foldl covStep out).length ≤ out.length + ys.length by simpa [cov] using h ys []
  intro ys
  induction ys with
  | nil => intro out; simp
  | cons y ys ih =>
    intro out
    have h1 := ih (covStep out y)
    have h2 := covStep_len out y
    simp only [List.foldl_cons, List.length_cons]
    omega
theorem flat_set (o : List (Int × Int)) (z : Int × Int) (u : Int) : ((o ++ [z]).flatMap encY).set (o.length * 2 + 1) (.int .i64 u) = (o ++ [(z.1, u)]).flatMap encY := by
  have hf : (o.flatMap encY).length = o.length * 2 := flat_len encY_len o
  rw [List.flatMap_append, List.flatMap_append, List.set_append, if_neg (by rw [hf]; omega), hf]
  congr 1
  rw [show o.length * 2 + 1 - o.length * 2 = 1 from by omega]
  simp [encY]

theorem mx_cases (a b : Int) : mx a b = a ∨ mx a b = b := by unfold mx; split <;> simp
theorem covStep_mem {out : List (Int × Int)} {y z : Int × Int} (h : z ∈ covStep out y) : z.2 = y.2 ∨ ∃ z' ∈ out, z.2 = z'.2 := by
  rcases List.eq_nil_or_concat out with rfl | ⟨o, t, rfl⟩
  · simp [covStep] at h; subst h; exact .inl rfl
  · rw [List.concat_eq_append] at h ⊢
    rw [covStep_snoc] at h
    split at h
    · rcases List.mem_append.1 h with h | h
      · exact .inr ⟨z, List.mem_append_left _ h, rfl⟩
      · simp at h
        subst h
        rcases mx_cases t.2 y.2 with e | e
        · exact .inr ⟨t, by simp, e⟩
        · exact .inl e
    · rcases List.mem_append.1 h with h | h
      · exact .inr ⟨z, h, rfl⟩
      · simp at h; subst h; exact .inl rfl
theorem cov_bound (ys : List (Int × Int)) (h : ∀ y ∈ ys, -9999 ≤ y.2 ∧ y.2 ≤ 9999) : ∀ z ∈ cov ys, -9999 ≤ z.2 ∧ z.2 ≤ 9999 := by
  suffices hs : ∀ (ys : List (Int × Int)) out, (∀ y ∈ ys, -9999 ≤ y.2 ∧ y.2 ≤ 9999) → (∀ z ∈ out, -9999 ≤ z.2 ∧ z.2 ≤ 9999) → ∀ z ∈ ys.foldl covStep out, -9999 ≤ z.2 ∧ z.2 ≤ 9999 by
    exact hs ys [] h (by simp)
  intro ys
  induction ys with
  | nil => intro out _ ho z hz; exact ho z hz
  | cons y ys ih =>
    intro out hy ho z hz
    refine ih (covStep out y) (fun y' h' => hy y' (List.mem_cons_of_mem _ h')) ?_ z hz
    intro z' hz'
    rcases covStep_mem hz' with e | ⟨t, ht, e⟩
    · rw [e]; exact hy y (List.mem_cons_self ..)
    · rw [e]; exact ho t ht
theorem cell_two_at {W : World} {z : Nat} (hz : W.heap.size = z) (a b : Value) (t : TypeId) : ∀ j u, [a, b][j]? = some u → (W.alloc (.cells #[a, b] t)).cell? ((⟨z, 0, none⟩ : Addr).add j) = some u := by
  subst hz
  exact cell_two_new W a b t
theorem noInv {zs : List (Int × Int)} (h : zs.any invY = false) : ∀ y ∈ zs, validB y.1 y.2 = true := by
  intro y hy
  have := List.any_eq_false.1 h y hy
  simpa [invY] using this

/-- What Cover returns. -/
structure CoverOut (w : World) (zs : List (Int × Int)) (e : Ending) (w' : World) : Prop where
  out : ∃ A c, ∃ out : List (Int × Int), ∃ code : Int, e = .returned (.tuple #[.slice A out.length c, .int .i64 code]) ∧ Sl w' w.heap.size w'.heap.size 2 encY A out.length out ∧
    ((64 < zs.length ∧ out = [] ∧ code = 6) ∨ (zs.length ≤ 64 ∧ zs.any invY = true ∧ out = [] ∧ code = 1) ∨ (zs.length ≤ 64 ∧ zs.any invY = false ∧ code = 0 ∧ ∃ ys : List (Int × Int), ys.Perm zs ∧ ys.Pairwise (fun x y => x.1 ≤ y.1) ∧ out = cov ys))
  below : Below w.heap.size w w'
/-- What cover_any proves. -/
def CoverSaid : Prop := ∀ (A : Option Addr) (len cap : Nat) (zs : List (Int × Int)) (w : World), Sl w 0 w.heap.size 2 encY A len zs → len ≤ maxLen → Calls Tryd.prog 29 #[.slice A len cap] w (CoverOut w zs)
end Go.Proofs.YthbckkjihijekaaDoor
