/- Next: the program's (chapter 47): words and what it calls. -/
import Derived.Test.YtfanjghfilkhmaaGreatDoorGr
import Derived.Deep.AppendLies
import Derived.OneCell
set_option linter.unusedSimpArgs false
set_option linter.unusedVariables false
namespace Go.Proofs.YtfanjghfilkhmaaGreatDoor
open Go.RowKit

/-- The row sorted where it lies. -/
theorem sortInts_keep (base g n cap : Nat) (xs : List Int) (w : World) (h : w.ownsRow base 3 1 (.slice (some ⟨g, 0, none⟩) n cap) n (xs.flatMap encI)) (hl : xs.length = n) (hbg : base ≤ g) (hg : g < w.heap.size) (hn : n ≤ 1000000) :
    Calls Tryz.prog 34 #[.slice (some ⟨g, 0, none⟩) n cap] w fun e w' => e = .returned (.tuple #[]) ∧ Sl w' g (g + 1) 1 encI (some ⟨g, 0, none⟩) n (sortI xs) ∧ Below base w w' ∧ ∀ b vs, b ≠ g → Bx w b vs → Bx w' b vs := by
  subst hl
  have hH : Go.Sort.Holds (Value.int .i64) w g 0 xs.toArray := by
    intro j hj
    refine ⟨?_, h.frozenAt _⟩
    have hj' : j < xs.length := by simpa using hj
    rw [Nat.zero_add, h.cellAt j (by omega)]
    have := flat_at encI_len xs j xs[j] 0 _ (List.getElem?_eq_getElem hj') rfl
    rw [Nat.mul_one, Nat.add_zero] at this
    rw [this]
    simp [getElem!_pos, hj']
  refine (Tryz.slices_Sort_int g 0 cap xs w hH hg (by omega)).mono ?_
  rintro e w' ⟨rfl, q, os, rfl⟩
  have hb1 : Below base w (Go.Sort.putRow (Value.int .i64) (Go.Sort.ahead w q) g 0 (sortI xs).toArray) := Lib.below_putRow (Below.refl base w) hbg
  have hz : (Go.Sort.putRow (Value.int .i64) (Go.Sort.ahead w q) g 0 (sortI xs).toArray).heap.size = w.heap.size := by unfold Go.Sort.putRow; simp [Go.Sort.mapBlock, Go.Sort.ahead]
  have hb2 : Below base w (Go.Sort.grow (Go.Sort.putRow (Value.int .i64) (Go.Sort.ahead w q) g 0 (sortI xs).toArray) os) := by
    refine hb1.trans ⟨rfl, rfl, rfl, ?_, fun j hj => ?_⟩
    · show _ ≤ ((Go.Sort.putRow (Value.int .i64) (Go.Sort.ahead w q) g 0 (sortI xs).toArray).heap ++ os).size
      simp
    · show ((Go.Sort.putRow (Value.int .i64) (Go.Sort.ahead w q) g 0 (sortI xs).toArray).heap ++ os)[j]? = _
      rw [Array.getElem?_append_left (by rw [hz]; omega)]
  have hH2 : Go.Sort.Holds (Value.int .i64) (Go.Sort.grow (Go.Sort.putRow (Value.int .i64) (Go.Sort.ahead w q) g 0 (sortI xs).toArray) os) g 0 (sortI xs).toArray :=
    Go.Sort.holds_grow _ _ _ _ _ _ (by rw [hz]; exact hg) (Go.Sort.holds_putRow _ _ _ _ _ _ hH (by simp [sortI_len]))
  refine ⟨rfl, ?_, hb2, fun b vs hne hB => ⟨Nat.lt_of_lt_of_le hB.lt (by have := hb2.size; exact this), fun j u hu => ?_, fun j => ?_⟩⟩
  rotate_left
  · exact ((Go.Sort.cell?_grow (Go.Sort.putRow (Value.int .i64) (Go.Sort.ahead w q) g 0 (sortI xs).toArray) os ⟨b, j, none⟩ (Nat.lt_of_lt_of_eq hB.lt hz.symm)).trans (Go.Sort.cell?_putRow_other (Value.int .i64) (Go.Sort.ahead w q) g 0 (sortI xs).toArray ⟨b, j, none⟩ (Or.inl hne))).trans (hB.cell j u hu)
  · exact ((Go.Sort.frozen?_grow (Go.Sort.putRow (Value.int .i64) (Go.Sort.ahead w q) g 0 (sortI xs).toArray) os ⟨b, j, none⟩ (Nat.lt_of_lt_of_eq hB.lt hz.symm)).trans (Go.Sort.frozen?_putRow (Value.int .i64) (Go.Sort.ahead w q) g 0 (sortI xs).toArray ⟨b, j, none⟩)).trans (hB.frz j)
  refine ⟨sortI_len xs, fun _ => ⟨g, 0, rfl, Nat.le_refl _, Nat.lt_succ_self _, fun i x hx j u hu => ?_⟩⟩
  have hi : i < (sortI xs).length := (List.getElem?_eq_some_iff.1 hx).1
  have hj : j = 0 := by
    have := (List.getElem?_eq_some_iff.1 hu).1
    rw [encI_len] at this; omega
  subst hj
  have h3 := (hH2 i (by simpa using hi)).1
  have h4 : (sortI xs).toArray[i]! = x := by
    rw [getElem!_pos _ _ (by simpa using hi)]
    simpa using (List.getElem?_eq_some_iff.1 hx).2
  rw [h4] at h3
  have hu' : u = .int .i64 x := by simpa [encI] using hu.symm
  rw [hu', Nat.mul_one, Nat.add_zero]
  exact h3

section
variable {w w' : World} {b : Nat} {vs : List Value}
theorem Bx.grown {row : Option Nat} (h : Bx w b vs) (hg : w.grownBy w' row) (hr : row ≠ some b) : Bx w' b vs :=
  have hbk := hg.block b h.lt (fun e => hr e.symm)
  ⟨Nat.lt_of_lt_of_le h.lt hg.size, fun j u hu => (World.cell?_of_block (w := w) (a := ⟨b, j, none⟩) hbk).trans (h.cell j u hu), fun j => (World.frozen?_of_block (w := w) (a := ⟨b, j, none⟩) hbk).trans (h.frz j)⟩
theorem Sl.set_ne {α : Type} {k n g : Nat} {enc : α → List Value} {A : Option Addr} {xs : List α} (h : Sl w g (g + 1) k enc A n xs) {p : Addr} (hp : p.block ≠ g) (u : Value) : Sl (w.setCell p u) g (g + 1) k enc A n xs :=
  h.keep fun b o h1 h2 => World.cell?_setCell_other w p ⟨b, o, none⟩ u (fun e => by subst e; simp at hp; omega)
end
def retA (e : Ed) (l : List Int) (k : Nat) : List Int := e.ret ++ ((e.ents.take k).filter (fun x => !l.contains x.1)).map Prod.snd
theorem retA_yes {e : Ed} {l : List Int} {k : Nat} {x : Int × Int} (hx : e.ents[k]? = some x) (h : decide (x.1 ∈ l) = false) : retA e l (k + 1) = retA e l k ++ [x.2] := by
  have hc : l.contains x.1 = false := by rw [← Bool.not_eq_true, List.contains_iff_mem]; exact of_decide_eq_false h
  unfold retA
  rw [take_snocS hx, List.filter_append, List.filter_cons, hc]
  simp
theorem retA_no {e : Ed} {l : List Int} {k : Nat} {x : Int × Int} (hx : e.ents[k]? = some x) (h : decide (x.1 ∈ l) = true) : retA e l (k + 1) = retA e l k := by
  have hc : l.contains x.1 = true := by rw [List.contains_iff_mem]; exact of_decide_eq_true h
  unfold retA
  rw [take_snocS hx, List.filter_append, List.filter_cons, hc]
  simp
theorem retA_all {e : Ed} {l : List Int} {k : Nat} (h : e.ents.length ≤ k) : sortI (retA e l k) = retE e l := by unfold retA retE; rw [List.take_of_length_le h]
theorem retA_len (e : Ed) (l : List Int) (k : Nat) : (retA e l k).length ≤ e.ret.length + e.ents.length := by
  unfold retA
  rw [List.length_append, List.length_map]
  have h1 := List.length_filter_le (fun x : Int × Int => !l.contains x.1) (e.ents.take k)
  rw [List.length_take] at h1
  omega
theorem retA_zero (e : Ed) (l : List Int) : retA e l 0 = e.ret := by unfold retA; simp
theorem valid_lens {e : Ed} (h : validE e) : e.ents.length ≤ 64 ∧ e.ret.length ≤ 64 := ⟨by have := h.1.2.2; unfold keysE at this; rwa [List.length_map] at this, h.2.2.1.2.2⟩
set_option maxRecDepth 100000 in
set_option maxHeartbeats 1000000 in
theorem cloneI_any (A : Option Addr) (len cap : Nat) (xs : List Int) (w : World) (hlen : len ≤ 1000000) (hS : Sl w 0 w.heap.size 1 encI A len xs) :
    Calls Tryz.prog 32 #[.slice A len cap] w fun e w' => ∃ v, e = .returned v ∧ w'.ownsRow w.heap.size 3 1 v xs.length (xs.flatMap encI) ∧ Below w.heap.size w w' := by
  obtain ⟨i0, hi, hz0, hz1, hz2⟩ := info_parts Tryz.infoI
  have hl := hS.len
  have heq := fun W => Lib.run_eql_slice_nil (P := Tryz.prog) W 23 3 A len cap 0 0 Tryz.underlying23
  rcases A with _ | ad
  · obtain rfl : len = 0 := by
      rcases Nat.eq_zero_or_pos len with h | h
      · exact h
      · obtain ⟨_, _, h', _⟩ := hS.2 h; cases h'
    have hx : xs = [] := List.eq_nil_of_length_eq_zero (by omega)
    subst hx
    clear hS hl
    go_enter Tryz.func32, Tryz.ntmps32
    go_wp2_with fail
    go_ret
    exact ⟨_, rfl, World.ownsRow_nil _ _ _ _, Below.refl _ _⟩
  · have HS := Lib.hid hS; clear hS
    have HL := Lib.hid hl; clear hl
    have hown0 : (w.alloc (.cells #[] 3)).ownsRow w.heap.size 3 1 (.slice (some ⟨w.heap.size, 0, none⟩) 0 0) 0 [] := World.ownsRow_lit w #[] 0 (Nat.le_refl _) (by unfold maxLen; omega) rfl
    have HO := Lib.hid hown0; clear hown0
    have hS1 : Sl (w.alloc (.cells #[] 3)) 0 w.heap.size 1 encI (some ad) len xs := HS.out.below (one_alloc _ _) (Nat.le_refl _)
    have HS1 := Lib.hid hS1; clear hS1
    go_enter Tryz.func32, Tryz.ntmps32
    go_wp2_with (at_builtin; refine wpList_append_sl _ rfl _ _ 23 rfl w.heap.size 3 i0 (.int .i64 0) 1 8 encI_len encI_one Tryz.underlying23 hi hz0 hz1 hz2 rfl (by decide) _ _ _ rfl HO.out cap rfl HS1.out ?c3 ?c4 ?c5 ?_)
    case c3 => unfold maxLen; omega
    case c4 => omega
    case c5 => simp
    · intro v' w1 hown' hgrow
      have hb1 : Below w.heap.size w w1 := Below.grown (one_alloc _ _) hgrow (by simp) (fun g hg => by simp [Value.ownBlock] at hg; omega)
      clear hgrow
      go_wp2_with fail
      go_ret
      refine ⟨_, rfl, ?_, hb1⟩
      rw [HL.out]
      simpa using hown'
end Go.Proofs.YtfanjghfilkhmaaGreatDoor
