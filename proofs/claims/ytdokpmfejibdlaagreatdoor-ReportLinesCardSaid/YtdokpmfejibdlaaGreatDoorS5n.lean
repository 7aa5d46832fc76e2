
/- Split, TrimSuffix, Replace in plain words; boxes of seven cells. -/
import Derived.Test.YtdokpmfejibdlaaGreatDoorStd
import Derived.Test.YtdokpmfejibdlaaGreatDoorSb
import Derived.Test.YtdokpmfejibdlaaGreatDoorBx
import Derived.Lib.SplitLaws
set_option linter.unusedSimpArgs false
set_option linter.unusedVariables false
namespace Go.Proofs.YtdokpmfejibdlaaGreatDoor
open Go.RowKit

def encStr (x : List UInt8) : List Value := [.string ⟨x.toArray⟩]
theorem encStr_len (x : List UInt8) : (encStr x).length = 1 := rfl
theorem splitB_words (c : UInt8) (l : List UInt8) : (Lib.splitB ⟨#[c]⟩ 0 (Lib.countB ⟨l.toArray⟩ ⟨#[c]⟩) ⟨l.toArray⟩).map (fun b => b.data.toList) = wordsL c l := by
  rw [Lib.splitB_data]
  exact split_one c l
theorem split_map (c : UInt8) (l : List UInt8) : (Lib.splitB ⟨#[c]⟩ 0 (Lib.countB ⟨l.toArray⟩ ⟨#[c]⟩) ⟨l.toArray⟩).map Value.string = (wordsL c l).flatMap encStr := by
  rw [← splitB_words c l]
  generalize Lib.splitB ⟨#[c]⟩ 0 (Lib.countB ⟨l.toArray⟩ ⟨#[c]⟩) ⟨l.toArray⟩ = L
  induction L with
  | nil => rfl
  | cons b L ih => simp [encStr, ih]
theorem split_any (c : UInt8) (l : List UInt8) (w : World) (hs : l.length ≤ 1000000) (hE : Env w) :
    Calls Tryz.prog 28 #[.string ⟨l.toArray⟩, .string ⟨#[c]⟩] w fun e w' => ∃ A cap, e = .returned (.slice A (wordsL c l).length cap) ∧ Sl w' w.heap.size w'.heap.size 1 encStr A (wordsL c l).length (wordsL c l) ∧ Below w.heap.size w w' := by
  obtain ⟨m, hm⟩ := hE.maxlen
  have hlen : Lib.countB ⟨l.toArray⟩ ⟨#[c]⟩ + 1 = (wordsL c l).length := by
    rw [← splitB_words c l, List.length_map, Lib.splitB_all ⟨#[c]⟩ (Nat.le_refl 1) 0 _ _ rfl]
  refine (Tryz.strings_Split ⟨l.toArray⟩ ⟨#[c]⟩ m w (by rw [size_mk']; omega) hm (Nat.le_refl 1)).mono ?_
  rintro e w' ⟨rfl, rfl⟩
  rw [hlen, split_map c l]
  refine ⟨_, _, rfl, ?_, (Below.refl _ _).alloc (Nat.le_refl _) _⟩
  refine ⟨rfl, fun _ => ⟨w.heap.size, 0, rfl, Nat.le_refl _, by simp, fun i x hx j u hu => ?_⟩⟩
  rw [World.cell?_alloc_new, Nat.zero_add]
  have := flat_at encStr_len (wordsL c l) i x j u hx hu
  simpa using this
theorem replaceK_len (c : UInt8) : ∀ (k : Nat) (s : List UInt8), (Lib.replaceK [c] [] k s).length ≤ s.length
  | 0, s => by simp [Lib.replaceK]
  | k + 1, s => by
    unfold Lib.replaceK
    split
    · exact Nat.le_refl _
    · have := replaceK_len c k (s.drop ((Lib.index s [c]).toNat + [c].length))
      simp only [List.length_append, List.length_take, List.length_nil, List.length_drop] at this ⊢
      omega
theorem replace_len (c : UInt8) (l : List UInt8) (n : Int) : (Lib.replace l [c] [] n).length ≤ l.length := by
  unfold Lib.replace
  have h : ([c] == ([] : List UInt8)) = false := rfl
  simp only [h, Bool.false_eq_true, if_false]
  exact replaceK_len c _ _
theorem trimS_len (l p : List UInt8) : (Lib.trimSuffix l p).length ≤ l.length := by
  unfold Lib.trimSuffix; split
  · rw [List.length_take]; omega
  · exact Nat.le_refl _
theorem wordsL_len (c : UInt8) : ∀ (l : List UInt8) (x : List UInt8), x ∈ wordsL c l → x.length ≤ l.length
  | [], x, h => by simp [wordsL] at h; subst h; simp
  | y :: l, x, h => by
    unfold wordsL at h
    have hn := wordsL_ne c l
    split at h
    · rcases List.mem_cons.1 h with rfl | h
      · simp
      · have := wordsL_len c l x h; simp; omega
    · split at h
      · rename_i h0; exact absurd h0 hn
      · rename_i z zs h0
        rcases List.mem_cons.1 h with rfl | h
        · have := wordsL_len c l z (by rw [h0]; simp); simp; omega
        · have := wordsL_len c l x (by rw [h0]; simp [h]); simp; omega
theorem Bx.all7 {w : World} {b : Nat} {a0 a1 a2 a3 a4 a5 a6 : Value} (h : Bx w b [a0, a1, a2, a3, a4, a5, a6]) (u0 u1 u2 u3 u4 u5 u6 : Value) :
    Bx (((((((w.setCell ⟨b, 0, none⟩ u0).setCell ⟨b, 1, none⟩ u1).setCell ⟨b, 2, none⟩ u2).setCell ⟨b, 3, none⟩ u3).setCell ⟨b, 4, none⟩ u4).setCell ⟨b, 5, none⟩ u5).setCell ⟨b, 6, none⟩ u6) b [u0, u1, u2, u3, u4, u5, u6] :=
  ((((((h.set (i := 0) (by simp) u0).set (i := 1) (by simp) u1).set (i := 2) (by simp) u2).set (i := 3) (by simp) u3).set (i := 4) (by simp) u4).set (i := 5) (by simp) u5).set (i := 6) (by simp) u6
theorem below_set7 {w w' : World} {b B : Nat} (h : Below B w w') (hb : B ≤ b) (u0 u1 u2 u3 u4 u5 u6 : Value) :
    Below B w (((((((w'.setCell ⟨b, 0, none⟩ u0).setCell ⟨b, 1, none⟩ u1).setCell ⟨b, 2, none⟩ u2).setCell ⟨b, 3, none⟩ u3).setCell ⟨b, 4, none⟩ u4).setCell ⟨b, 5, none⟩ u5).setCell ⟨b, 6, none⟩ u6) :=
  ((((((h.setCell hb _).setCell hb _).setCell hb _).setCell hb _).setCell hb _).setCell hb _).setCell hb _
theorem size_set (w : World) (p : Addr) (u : Value) : (w.setCell p u).heap.size = w.heap.size := by simp [World.setCell]
theorem one_new (w : World) (vs : List Value) (t : TypeId) : Below w.heap.size w (w.alloc (.cells vs.toArray t)) ∧ Bx (w.alloc (.cells vs.toArray t)) w.heap.size vs := ⟨one_alloc _ _, Bx.new _ _ _⟩
theorem two_new (w : World) (vs us : List Value) (t t' : TypeId) : Below w.heap.size w ((w.alloc (.cells vs.toArray t)).alloc (.cells us.toArray t')) ∧ Bx ((w.alloc (.cells vs.toArray t)).alloc (.cells us.toArray t')) w.heap.size vs ∧ Bx ((w.alloc (.cells vs.toArray t)).alloc (.cells us.toArray t')) (w.heap.size + 1) us := by
  refine ⟨(one_alloc w _).alloc (by simp) _, (Bx.new w vs t).alloc _, ?_⟩
  have := Bx.new (w.alloc (.cells vs.toArray t)) us t'
  rwa [World.size_alloc] at this
/-- A row's cells from an offset on. -/
structure Rw (w : World) (b off : Nat) (vs : List Value) : Prop where
  lt : b < w.heap.size
  cell : ∀ j u, vs[j]? = some u → w.cell? ⟨b, off + j, none⟩ = some u
theorem Rw.up {w w' : World} {b off : Nat} {vs : List Value} (h : Rw w b off vs) (hb : Below w.heap.size w w') : Rw w' b off vs :=
  ⟨Nat.lt_of_lt_of_le h.lt hb.size, fun j u hu => (hb.cell (p := ⟨b, off + j, none⟩) h.lt).trans (h.cell j u hu)⟩
theorem Rw.far {w : World} {b off : Nat} {vs : List Value} (h : Rw w b off vs) {p : Addr} (hp : p.block ≠ b) (u : Value) : Rw (w.setCell p u) b off vs :=
  ⟨by simpa [World.setCell] using h.lt, fun j v hv => (World.cell?_setCell_other w p ⟨b, off + j, none⟩ u (fun e => hp (by rw [e]))).trans (h.cell j v hv)⟩
theorem Rw.of_strs {w : World} {A : Option Addr} {n : Nat} {xs : List (List UInt8)} (h : Sl w 0 w.heap.size 1 encStr A n xs) (hn : 0 < n) : ∃ b off, A = some ⟨b, off, none⟩ ∧ Rw w b off (xs.map fun x => .string ⟨x.toArray⟩) := by
  obtain ⟨b, off, e, _, hb, hc⟩ := h.2 hn
  refine ⟨b, off, e, hb, fun j u hu => ?_⟩
  rw [List.getElem?_map, Option.map_eq_some_iff] at hu
  obtain ⟨x, hx, rfl⟩ := hu
  have := hc j x hx 0 _ rfl
  rwa [Nat.mul_one, Nat.add_zero] at this
end Go.Proofs.YtdokpmfejibdlaaGreatDoor
