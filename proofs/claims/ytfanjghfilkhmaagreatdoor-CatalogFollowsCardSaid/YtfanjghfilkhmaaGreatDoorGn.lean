/- The numbers sorted, valid, top, looked up, follows: the program's (chapter 47). -/
import Derived.Test.YtfanjghfilkhmaaGreatDoorGj
import Derived.Test.YtfanjghfilkhmaaGreatDoorGf
import Derived.Test.YtfanjghfilkhmaaGreatDoorStd
import Derived.Test.YtfanjghfilkhmaaGreatDoorSortL
import Derived.Test.YtfanjghfilkhmaaGreatDoorAp
import Derived.Deep.DeepFit
set_option linter.unusedSimpArgs false
set_option linter.unusedVariables false
namespace Go.Proofs.YtfanjghfilkhmaaGreatDoor
open Go.RowKit

/-- The row sorted where it lies. -/
theorem sortInts_any (base g n cap : Nat) (xs : List Int) (w : World) (h : w.ownsRow base 3 1 (.slice (some ⟨g, 0, none⟩) n cap) n (xs.flatMap encI)) (hl : xs.length = n) (hbg : base ≤ g) (hg : g < w.heap.size) (hn : n ≤ 1000000) :
    Calls Tryz.prog 34 #[.slice (some ⟨g, 0, none⟩) n cap] w fun e w' => e = .returned (.tuple #[]) ∧ Sl w' base w'.heap.size 1 encI (some ⟨g, 0, none⟩) n (sortI xs) ∧ Below base w w' := by
  subst hl
  have hH : Go.Sort.Holds (Value.int .i64) w g 0 xs.toArray := by
    intro j hj
    refine ⟨?_, h.frozenAt _⟩
    have hj' : j < xs.length := by simpa using hj
    rw [Nat.zero_add, h.cellAt j (by omega)]
    have := flat_at encI_len xs j xs[j] 0 _ (List.getElem?_eq_getElem hj') rfl
    rw [Nat.mul_one, Nat.add_zero] at this
    rw [this]
    simp [getElem!_pos, hj']
  refine (Tryz.slices_Sort_int g 0 cap xs w hH hg (by omega)).mono ?_
  rintro e w' ⟨rfl, q, os, rfl⟩
  have hb1 : Below base w (Go.Sort.putRow (Value.int .i64) (Go.Sort.ahead w q) g 0 (sortI xs).toArray) := Lib.below_putRow (Below.refl base w) hbg
  have hz : (Go.Sort.putRow (Value.int .i64) (Go.Sort.ahead w q) g 0 (sortI xs).toArray).heap.size = w.heap.size := by unfold Go.Sort.putRow; simp [Go.Sort.mapBlock, Go.Sort.ahead]
  have hb2 : Below base w (Go.Sort.grow (Go.Sort.putRow (Value.int .i64) (Go.Sort.ahead w q) g 0 (sortI xs).toArray) os) := by
    refine hb1.trans ⟨rfl, rfl, rfl, ?_, fun j hj => ?_⟩
    · show _ ≤ ((Go.Sort.putRow (Value.int .i64) (Go.Sort.ahead w q) g 0 (sortI xs).toArray).heap ++ os).size
      simp
    · show ((Go.Sort.putRow (Value.int .i64) (Go.Sort.ahead w q) g 0 (sortI xs).toArray).heap ++ os)[j]? = _
      rw [Array.getElem?_append_left (by rw [hz]; omega)]
  have hH2 : Go.Sort.Holds (Value.int .i64) (Go.Sort.grow (Go.Sort.putRow (Value.int .i64) (Go.Sort.ahead w q) g 0 (sortI xs).toArray) os) g 0 (sortI xs).toArray :=
    Go.Sort.holds_grow _ _ _ _ _ _ (by rw [hz]; exact hg) (Go.Sort.holds_putRow _ _ _ _ _ _ hH (by simp [sortI_len]))
  refine ⟨rfl, ?_, hb2⟩
  refine ⟨sortI_len xs, fun _ => ⟨g, 0, rfl, hbg, Nat.lt_of_lt_of_le hg (by have := hb2.size; exact this), fun i x hx j u hu => ?_⟩⟩
  have hi : i < (sortI xs).length := (List.getElem?_eq_some_iff.1 hx).1
  have hj : j = 0 := by
    have := (List.getElem?_eq_some_iff.1 hu).1
    rw [encI_len] at this; omega
  subst hj
  have h3 := (hH2 i (by simpa using hi)).1
  have h4 : (sortI xs).toArray[i]! = x := by
    rw [getElem!_pos _ _ (by simpa using hi)]
    simpa using (List.getElem?_eq_some_iff.1 hx).2
  rw [h4] at h3
  have hu' : u = .int .i64 x := by simpa [encI] using hu.symm
  rw [hu', Nat.mul_one, Nat.add_zero]
  exact h3
set_option maxRecDepth 100000 in
set_option maxHeartbeats 2000000 in
theorem numbers_any (A : Option Addr) (n c : Nat) (A' : Option Addr) (n' c' : Nat) (e : Ed) (w : World) (hn : n ≤ 1000000) (hS : EdS w A n A' n' e) :
    Calls Tryz.prog 43 #[.agg #[.slice A n c, .slice A' n' c']] w fun r w' => (∃ A2 c2, r = .returned (.slice A2 n c2) ∧ Sl w' w.heap.size w'.heap.size 1 encI A2 n (sortI (numsE e))) ∧ Below w.heap.size w w' := by
  have HL := Lib.hid hS.ents.len
  have HU : Hid (∀ W, Below w.heap.size w W → EdS W A n A' n' e) := fun W hW => hS.up hW
  clear hS
  obtain ⟨i0, hi, hz0, hz1, hz2⟩ := info_parts Tryz.infoI
  go_enter Tryz.func43, Tryz.ntmps43
  go_wp2_with fail
  go_loopw [3, 9] (fun v s wr => ∃ k : Nat, k ≤ n ∧ s = .int .i64 (k : Int) ∧ wr.ownsRow w.heap.size 3 1 v k (((numsE e).take k).flatMap encI) ∧ Below w.heap.size w wr) (fun _ s _ => n - (intOf s).toNat)
  case atStart => exact ⟨0, by omega, rfl, World.ownsRow_nil _ _ _ _, by (repeat (first | exact Below.refl _ _ | assumption | refine Below.alloc ?_ (by first | omega | (simp only [World.size_alloc]; omega) | (simp; done) | (simp; omega)) _ | refine Below.setCell ?_ (by first | omega | (simp only [World.size_alloc]; omega) | (simp; done) | (simp; omega)) _ | refine Below.drew ?_ | refine below_drewN ?_ _))⟩
  case round =>
    obtain ⟨k, hk, rfl, hown, hb⟩ := hrel
    by_cases hlt : k < n
    · obtain ⟨b, off, x, hA, hbb, hx, c0, c1⟩ := (HU.out _ hb).ents.en hlt
      subst hA
      have HX := Lib.hid (map_at (f := Prod.snd) hx); clear hx
      have hz := hb.size
      have hbz := hbb
      go_wp2_with (at_builtin; refine wpList_append_own _ rfl _ _ 23 rfl w.heap.size 3 i0 (.int .i64 0) 1 8 Tryz.underlying23 hi hz0 hz1 hz2 rfl (by decide) _ _ _ rfl ((hown.alloc _).alloc _) ⟨wr.heap.size + 1, 0, none⟩ 1 1 [.int .i64 x.2] rfl rfl ?c1 ?c2 ?c3 ?c4 ?c5 ?_)
      case c1 => exact cell_list_at (by simp) _ _
      case c2 => simp [Value.oneCell']
      case c3 => unfold maxLen; omega
      case c4 => omega
      case c5 => simp; omega
      · intro v' w1 hown' hgrow _
        have hb1 : Below w.heap.size w w1 := Below.grown (Below.alloc (hb.alloc hb.size _) (by simp; omega) _) hgrow (by simp; omega) (fun g hg => (hown.lt g hg).1)
        clear hgrow hown
        go_wp2_with fail
        go_roundw
        case rel => exact ⟨k + 1, by omega, by go_num, by unfold numsE; rw [take_snocS HX.out, List.flatMap_append]; exact hown', hb1⟩
        case measure => simp [intOf]; omega
    · obtain rfl : k = n := by omega
      have hnl : (numsE e).length = k := by unfold numsE; rw [List.length_map]; exact HL.out
      rw [List.take_of_length_le (by omega)] at hown
      rcases Nat.eq_zero_or_pos k with rfl | hk0
      · obtain ⟨A2, c2, rfl, _⟩ := own_form hown
        have hne : numsE e = [] := List.eq_nil_of_length_eq_zero hnl
        have HE : Hid (sortI (numsE e) = []) := by show _ = _; rw [hne]; exact List.eq_nil_of_length_eq_zero (by rw [sortI_len]; rfl)
        clear hown hnl hne
        go_wp2_with fail
        refine (Tryz.slices_Sort_int_none _ _ _).mono ?_; rintro r w2 ⟨rfl, rfl⟩
        go_wp2_with fail
        go_ret
        exact ⟨⟨A2, c2, rfl, by rw [HE.out]; exact Sl.nil⟩, hb⟩
      · obtain ⟨m, rfl⟩ : ∃ m, k = m + 1 := ⟨k - 1, by omega⟩
        obtain ⟨g, c2, rfl⟩ := ownsRow_succ hown
        have hgl := hown.lt g rfl
        have HSO := Lib.hid (sortInts_any w.heap.size g (m + 1) c2 (numsE e) wr hown hnl hgl.1 hgl.2 hn)
        clear hown hnl
        go_wp2_with fail
        refine HSO.out.mono ?_; rintro r w2 ⟨rfl, hS2, hb2⟩
        go_wp2_with fail
        go_ret
        exact ⟨⟨_, c2, rfl, hS2⟩, hb.trans hb2⟩
end Go.Proofs.YtfanjghfilkhmaaGreatDoor
