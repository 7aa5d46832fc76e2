/- The fixed results that every law asks for first. -/
import Derived.Test.YthbckkjihijekaaDoorLp
import Derived.Test.YthbckkjihijekaaDoorYj
set_option linter.unusedSimpArgs false
set_option linter.unusedVariables false
namespace Go.Proofs.YthbckkjihijekaaDoor
open Go.RowKit

def aw1 : List UInt8 := [49, 52, 45, 51, 55, 32, 65, 68]
def aw2 : List UInt8 := [51, 55, 45, 49, 52, 32, 65, 68]
theorem aw1_text : textS 14 37 = aw1 := by
  simp [textS, numS, eraS, Lib.itoa, Lib.decDigits, validB, withinB, aw1]
theorem aw1_parse : parseV aw1 = .tuple #[.agg #[.int .i64 14, .int .i64 37], .int .i64 0] := by
  rw [← aw1_text]; exact parseV_text 14 37 (by decide)
theorem aw2_parse : parseV aw2 = .tuple #[.agg #[.int .i64 0, .int .i64 0], .int .i64 3] := by
  unfold parseV
  rw [if_neg]
  unfold pOk
  rw [show validB (pFrom aw2) (pTo aw2) = false from by decide +kernel]
  simp
theorem aw3_text : textS (-26) 14 = [50, 55, 32, 66, 67, 45, 49, 52, 32, 65, 68] := by
  simp [textS, numS, eraS, Lib.itoa, Lib.decDigits, validB, withinB]
theorem aw4_text : textS (-449) (-424) = [52, 53, 48, 45, 52, 50, 53, 32, 66, 67] := by
  simp [textS, numS, eraS, Lib.itoa, Lib.decDigits, validB, withinB]
theorem aw_meet : meetV 1 5 4 9 = .tuple #[.agg #[.int .i64 4, .int .i64 5], .bool true] := by
  simp [meetV, validB, withinB, mx, mn]
theorem aw_hull : hullV 1 2 8 9 = .tuple #[.agg #[.int .i64 1, .int .i64 9], .int .i64 0] := by
  simp [hullV, validB, withinB, mx, mn]
theorem aw_grow : growV 1 2 3 = .tuple #[.agg #[.int .i64 (-2), .int .i64 5], .int .i64 0] := by
  simp [growV, validB, withinB]
theorem aw_rel : relV 1 5 4 9 = 3 := by decide
theorem aw_len : (if validB (-449) (-424) then (-424 : Int) - (-449) + 1 else 0) = 26 := by decide
theorem aw_cov (ys : List (Int × Int)) (hp : ys.Perm [(4, 6), (1, 3), (9, 9)]) (hs : ys.Pairwise fun x y => x.1 ≤ y.1) : cov ys = [(1, 6), (9, 9)] := by
  have hv : ∀ y ∈ ys, y.1 ≤ y.2 := fun y hy => by
    have := hp.subset hy
    simp at this
    rcases this with rfl | rfl | rfl <;> decide
  obtain ⟨h1, h2⟩ := cov_good hv hs
  refine canon_unique _ _ h1 ⟨by simp, by simp⟩ fun n => ?_
  rw [h2 n, memI_perm hp n]
  simp only [memI_cons, memI_nil, or_false]
  omega

theorem Sl.fresh {α : Type} {k : Nat} {enc : α → List Value} (hk : ∀ x, (enc x).length = k) (w : World) (xs : List α) (vs : Array Value) (t : TypeId) (n : Nat) (hv : vs.toList = xs.flatMap enc) (hn : xs.length = n) :
    Sl (w.alloc (.cells vs t)) w.heap.size (w.alloc (.cells vs t)).heap.size k enc (some ⟨w.heap.size, 0, none⟩) n xs := by
  refine ⟨hn, fun _ => ⟨w.heap.size, 0, rfl, Nat.le_refl _, by simp, fun i x hx j u hu => ?_⟩⟩
  rw [World.cell?_alloc_new, Nat.zero_add, ← Array.getElem?_toList, hv]
  exact flat_at hk xs i x j u hx hu
/-- A box of years. -/
structure Box (w : World) (b : Nat) (x y : Int) : Prop where
  c0 : w.cell? ⟨b, 0, none⟩ = some (.int .i64 x)
  c1 : w.cell? ⟨b, 1, none⟩ = some (.int .i64 y)
  lt : b < w.heap.size
theorem Box.new (w : World) (x y : Int) (t : TypeId) : Box (w.alloc (.cells #[.int .i64 x, .int .i64 y] t)) w.heap.size x y :=
  ⟨cell_two_at rfl _ _ t 0 _ rfl, cell_two_at rfl _ _ t 1 _ rfl, by simp⟩
theorem Box.below {w w' : World} {b : Nat} {x y : Int} (h : Box w b x y) (hb : Below w.heap.size w w') : Box w' b x y :=
  ⟨(hb.cell (p := ⟨b, 0, none⟩) h.lt).trans h.c0, (hb.cell (p := ⟨b, 1, none⟩) h.lt).trans h.c1, Nat.lt_of_lt_of_le h.lt hb.size⟩
theorem box_step {w w1 w2 : World} {x y : Int} {t : TypeId} (hb1 : Below w.heap.size w w1) (hb2 : Below (w1.alloc (.cells #[.int .i64 x, .int .i64 y] t)).heap.size (w1.alloc (.cells #[.int .i64 x, .int .i64 y] t)) w2) :
    Below w1.heap.size w1 w2 ∧ Below w.heap.size w w2 ∧ Box w2 w1.heap.size x y := by
  have h0 : Below w1.heap.size w1 (w1.alloc (.cells #[.int .i64 x, .int .i64 y] t)) := (Below.refl _ _).alloc (Nat.le_refl _) _
  have h1 : Below w1.heap.size w1 w2 := h0.trans (hb2.mono (by simp))
  exact ⟨h1, hb1.trans (h1.mono hb1.size), (Box.new w1 x y t).below hb2⟩

set_option maxRecDepth 100000 in
set_option maxHeartbeats 2000000 in
theorem awake_of (HC : Hid CoverSaid) (w : World) (hE : Env w) :
    Calls Tryd.prog 12 #[] w fun e w' => e = .returned (.bool true) ∧ Below w.heap.size w w' := by
  go_enter Tryd.func12, Tryd.ntmps12
  go_wp2_with fail
  go_fit (parse_any aw1 _ (by decide) hE)
  rintro e w1 ⟨rfl, hb1⟩
  rw [aw1_parse]
  go_wp2_with fail
  go_fit (parse_any aw2 _ (by decide) (hE.step (hb1.alloc hb1.size _)))
  rintro e w2 ⟨rfl, hb2⟩
  obtain ⟨hw2, hb, B1⟩ := box_step hb1 hb2
  clear hb1 hb2 hw2
  generalize w1.heap.size = b1 at *
  rw [aw2_parse]
  go_wp2_with fail
  go_fit (meet_any 1 5 4 9 _)
  rintro e w3 ⟨rfl, hb3⟩
  obtain ⟨hw3, hb', _⟩ := box_step hb hb3
  replace B1 := B1.below hw3
  clear hb3 hb hw3
  rw [aw_meet]
  go_wp2_with fail
  go_fit (hull_any 1 2 8 9 _)
  rintro e w4 ⟨rfl, hb4⟩
  obtain ⟨hw4, hb, B2⟩ := box_step hb' hb4
  replace B1 := B1.below hw4
  clear hb4 hb' hw4
  generalize w3.heap.size = b2 at *
  rw [aw_hull]
  go_wp2_with fail
  go_fit (grow_any 1 2 3 _)
  rintro e w5 ⟨rfl, hb5⟩
  obtain ⟨hw5, hb', B3⟩ := box_step hb hb5
  replace B1 := B1.below hw5
  replace B2 := B2.below hw5
  clear hb5 hb hw5
  generalize w4.heap.size = b3 at *
  rw [aw_grow]
  go_wp2_with fail
  have hS5 : Sl ((w5.alloc (.cells #[.int .i64 (-2), .int .i64 5] 23)).alloc (.cells #[.int .i64 4, .int .i64 6, .int .i64 1, .int .i64 3, .int .i64 9, .int .i64 9] 23)) 0 ((w5.alloc (.cells #[.int .i64 (-2), .int .i64 5] 23)).alloc (.cells #[.int .i64 4, .int .i64 6, .int .i64 1, .int .i64 3, .int .i64 9, .int .i64 9] 23)).heap.size 2 encY (some ⟨w5.heap.size + 1, 0, none⟩) 3 [(4, 6), (1, 3), (9, 9)] := by
    have h := Sl.fresh encY_len (w5.alloc (.cells #[.int .i64 (-2), .int .i64 5] 23)) [(4, 6), (1, 3), (9, 9)] #[.int .i64 4, .int .i64 6, .int .i64 1, .int .i64 3, .int .i64 9, .int .i64 9] 23 3 rfl rfl
    rw [World.size_alloc] at h
    exact h.any
  have B4 := (Box.new w5 (-2) 5 23).below ((Below.refl _ _).alloc (Nat.le_refl _) (.cells #[.int .i64 4, .int .i64 6, .int .i64 1, .int .i64 3, .int .i64 9, .int .i64 9] 23))
  generalize hW : (w5.alloc (.cells #[.int .i64 (-2), .int .i64 5] 23)).alloc (.cells #[.int .i64 4, .int .i64 6, .int .i64 1, .int .i64 3, .int .i64 9, .int .i64 9] 23) = W at *
  have hbW : Below w5.heap.size w5 W := by rw [← hW]; (repeat (first | exact Below.refl _ _ | assumption | refine Below.alloc ?_ (by first | omega | (simp only [World.size_alloc]; omega) | (simp; done) | (simp; omega)) _ | refine Below.setCell ?_ (by first | omega | (simp only [World.size_alloc]; omega) | (simp; done) | (simp; omega)) _ | refine Below.drew ?_ | refine below_drewN ?_ _))
  have hb := hb'.trans (hbW.mono hb'.size)
  replace B1 := B1.below hbW
  replace B2 := B2.below hbW
  replace B3 := B3.below hbW
  clear hW hb' hbW
  generalize w5.heap.size = b4 at *
  go_fit (HC.out (some ⟨b4 + 1, 0, none⟩) 3 3 [(4, 6), (1, 3), (9, 9)] W hS5 (by decide))
  rintro e w6 ⟨⟨A6, c6, out, code, rfl, hS6, hcase⟩, hb6⟩
  obtain ⟨rfl, rfl⟩ : out = [(1, 6), (9, 9)] ∧ code = 0 := by
    rcases hcase with h | h | ⟨_, _, hcode, ys, hp, hs, ho⟩
    · simp at h
    · exact absurd h.2.1 (by decide)
    · rw [ho, aw_cov ys hp hs]; exact ⟨rfl, hcode⟩
  have hb' := hb.trans (hb6.mono hb.size)
  replace B1 := B1.below hb6
  replace B2 := B2.below hb6
  replace B3 := B3.below hb6
  replace B4 := B4.below hb6
  replace hS6 := hS6.any
  clear hcase hb hb6 hS5
  simp only [List.length_cons, List.length_nil]
  obtain ⟨c10, c11, l1⟩ := B1
  obtain ⟨c20, c21, l2⟩ := B2
  obtain ⟨c30, c31, l3⟩ := B3
  obtain ⟨c40, c41, l4⟩ := B4
  have heq := eqYears
  go_wp2_with fail
  have hbn : Below w6.heap.size w6 (w6.alloc (.cells #[.int .i64 1, .int .i64 6, .int .i64 9, .int .i64 9] 23)) := (Below.refl _ _).alloc (Nat.le_refl _) _
  have hSn : Sl (w6.alloc (.cells #[.int .i64 1, .int .i64 6, .int .i64 9, .int .i64 9] 23)) 0 (w6.alloc (.cells #[.int .i64 1, .int .i64 6, .int .i64 9, .int .i64 9] 23)).heap.size 2 encY (some ⟨w6.heap.size, 0, none⟩) 2 [(1, 6), (9, 9)] :=
    (Sl.fresh encY_len w6 [(1, 6), (9, 9)] #[.int .i64 1, .int .i64 6, .int .i64 9, .int .i64 9] 23 2 rfl rfl).any
  have hSc := hS6.up hbn (Nat.le_refl _) (Nat.le_refl _)
  have HY := Lib.hid (ylist_any A6 2 c6 [(1, 6), (9, 9)] (some ⟨w6.heap.size, 0, none⟩) 2 2 [(1, 6), (9, 9)] _ (by decide) (by decide) hSc hSn)
  have hb7' := hb'.trans (hbn.mono hb'.size)
  clear c10 c11 l1 c20 c21 l2 c30 c31 l3 c40 c41 l4 hS6 hSn hSc heq
  go_fit HY.out
  rintro e w7 ⟨rfl, hb7⟩
  have hb := hb7'.trans (hb7.mono hb7'.size)
  clear HY hb7 hb' hbn hb7'
  go_wp2_with fail
  go_fit (text_years (-26) 14 _ (hE.step hb))
  rintro e w8 ⟨rfl, hb8⟩
  rw [aw3_text]
  have hb' := hb.trans (hb8.mono hb.size)
  clear hb8 hb
  go_wp2_with fail
  go_fit (text_years (-449) (-424) _ (hE.step hb'))
  rintro e w9 ⟨rfl, hb9⟩
  rw [aw4_text]
  have hb := hb'.trans (hb9.mono hb'.size)
  clear hb9 hb'
  go_wp2_with fail
  go_fit (relation_any 1 5 4 9 _)
  rintro e w10 ⟨rfl, hb10⟩
  rw [aw_rel]
  have hb' := hb.trans (hb10.mono hb.size)
  clear hb10 hb
  go_wp2_with fail
  go_fit (length_any (-449) (-424) _)
  rintro e w11 ⟨rfl, hb11⟩
  rw [aw_len]
  have hb := hb'.trans (hb11.mono hb'.size)
  clear hb11 hb'
  go_wp2_with fail
  go_ret
  exact ⟨rfl, hb⟩
end Go.Proofs.YthbckkjihijekaaDoor
