
/- Sort and Union: the program's. -/
import Derived.Test.YtdokpmfejibdlaaGreatDoorSr
import Derived.Test.YtdokpmfejibdlaaGreatDoorS5t
import Derived.Test.YtdokpmfejibdlaaGreatDoorS5u
import Derived.Test.YtdokpmfejibdlaaGreatDoorAp
import Derived.WalkSpells
set_option linter.unusedSimpArgs false
set_option linter.unusedVariables false
namespace Go.Proofs.YtdokpmfejibdlaaGreatDoor
open Go.RowKit

def srtL (l : List Spm) : List Spm := if chk l = 0 then sortS l else []
/-- A list handed back with a code. -/
def ListOut (w : World) (out : List Spm) (code : Int) (e : Ending) (w' : World) : Prop :=
  (∃ A n c, e = .returned (.tuple #[.slice A n c, .int .i64 code]) ∧ Sl w' w.heap.size w'.heap.size 7 encS A n out) ∧ Below w.heap.size w w'
theorem chk_len {l : List Spm} (h : chk l = 0) : l.length ≤ 64 := ((chk_zero l).1 h).1
set_option maxHeartbeats 1000000 in
theorem ssort_any (A : Option Addr) (len cap : Nat) (xs : List Spm) (w : World) (hlen : len ≤ 1000000) (hS : Sl w 0 w.heap.size 7 encS A len xs) :
    Calls Tryz.prog 68 #[.slice A len cap] w (ListOut w (srtL xs) (chk xs)) := by
  have HS := Lib.hid hS; clear hS
  go_enter Tryz.func68, Tryz.ntmps68
  go_wp2_with fail
  refine (scheck_any A len cap xs _ hlen HS.out).mono ?_; rintro e w1 ⟨rfl, hb⟩
  by_cases h0 : chk xs = 0
  · have hd : (chk xs != 0) = false := by simpa using h0
    have hn := ((chk_zero xs).1 h0).2.2
    have HN := Lib.hid hn; clear hn
    have HL : Hid (srtL xs = sortS xs) := by show _ = _; unfold srtL; rw [if_pos h0]
    have H0 := Lib.hid h0
    rw [h0]
    clear h0 hd
    go_wp2_with fail
    refine (sorted_any A len cap xs _ hlen HN.out (HS.out.up hb (Nat.le_refl _) (Nat.le_refl _))).mono ?_
    rintro e w2 ⟨A2, c2, rfl, hS2, hb2, _⟩
    go_wp2_with fail
    go_ret2
    exact ⟨⟨A2, len, c2, by rw [H0.out]; rfl, by rw [HL.out]; exact hS2.less hb.size⟩, hb.trans (hb2.mono hb.size)⟩
  · have hd : (chk xs != 0) = true := by simpa using h0
    have HL : Hid (srtL xs = []) := by show _ = _; unfold srtL; rw [if_neg h0]
    generalize chk xs = c at *
    clear h0
    go_wp2_with fail
    go_ret2
    refine ⟨⟨none, 0, 0, ?_, by rw [HL.out]; exact Sl.nil⟩, hb⟩
    rfl

theorem oneS (x : Spm) : ∀ v ∈ encS x, v.oneCell' = true := encS_one x
theorem joined_take {a b : List Spm} {k : Nat} {x : Spm} (h : b[k]? = some x) : a ++ (b.take (k + 1)).filter (fresh a) = (a ++ (b.take k).filter (fresh a)) ++ (if fresh a x then [x] else []) := by
  rw [take_snocS h, List.filter_append, List.append_assoc]
  congr 2
  cases hf : fresh a x <;> simp [hf]
theorem bad_take {a b : List Spm} {k : Nat} {x : Spm} (h : b[k]? = some x) (hb : bad a x = true) : b.any (bad a) = true := List.any_eq_true.2 ⟨x, List.mem_of_getElem? h, hb⟩
theorem unionE_a {a b : List Spm} (h : chk a ≠ 0) : unionE a b = chk a := by unfold unionE; rw [if_neg h]
theorem unionE_b {a b : List Spm} (ha : chk a = 0) (h : chk b ≠ 0) : unionE a b = chk b := by unfold unionE; rw [if_pos ha, if_neg h]
theorem unionE_bad {a b : List Spm} (ha : chk a = 0) (hb : chk b = 0) (h : b.any (bad a) = true) : unionE a b = 10 := by unfold unionE; rw [if_pos ha, if_pos hb, if_pos h]
theorem unionE_full {a b : List Spm} (ha : chk a = 0) (hb : chk b = 0) (h : b.any (bad a) = false) (hl : 64 < (joined a b).length) : unionE a b = 6 := by
  unfold unionE; rw [if_pos ha, if_pos hb, if_neg (by rw [h]; decide), if_pos hl]
theorem unionE_ok {a b : List Spm} (ha : chk a = 0) (hb : chk b = 0) (h : b.any (bad a) = false) (hl : (joined a b).length ≤ 64) : unionE a b = 0 := by
  unfold unionE; rw [if_pos ha, if_pos hb, if_neg (by rw [h]; decide), if_neg (by omega)]
theorem joined_len (a b : List Spm) : (a ++ b.filter (fresh a)).length ≤ a.length + b.length := by
  rw [List.length_append]; have := List.length_filter_le (fresh a) b; omega
theorem any_bad_take {a b : List Spm} {k : Nat} {x : Spm} (h : b[k]? = some x) (hp : (b.take k).any (bad a) = false) (hx : bad a x = false) : (b.take (k + 1)).any (bad a) = false := by
  rw [take_snocS h, List.any_append, hp]; simp [hx]

theorem cell_list_at {W : World} {n : Nat} (hn : W.heap.size = n) (vs : List Value) (t : TypeId) : ∀ j u, vs[j]? = some u → (W.alloc (.cells vs.toArray t)).cell? ((⟨n, 0, none⟩ : Addr).add j) = some u := by
  subst hn; exact cell_list_new _ _ _
theorem own_below' {w w' : World} {B e size n : Nat} {v : Value} {xs : List Value} (h : w.ownsRow B e size v n xs) (hb : Below w.heap.size w w') : w'.ownsRow B e size v n xs := by
  refine ⟨h.1, ?_⟩
  rcases h.2 with hn | ⟨g, cap, cur, rfl, hg, hgg, rest⟩
  · exact .inl hn
  · exact .inr ⟨g, cap, cur, rfl, hg, by rw [hb.block g (Array.getElem?_eq_some_iff.1 hgg).1]; exact hgg, rest⟩
end Go.Proofs.YtdokpmfejibdlaaGreatDoor
