/- Looking up in an edition, valid: the reference's (chapter 47). -/
import Derived.Test.YtfanjghfilkhmaaGreatDoorGb
set_option linter.unusedSimpArgs false
set_option linter.unusedVariables false
namespace Go.Proofs.YtfanjghfilkhmaaGreatDoor
open Go.RowKit

theorem find_first {α : Type} {p : α → Bool} {xs : List α} {k : Nat} {x : α} (hx : xs[k]? = some x) (hn : ∀ y ∈ xs.take k, p y = false) (he : p x = true) : xs.find? p = some x := by
  obtain ⟨h1, h2⟩ := List.getElem?_eq_some_iff.1 hx
  have : xs = xs.take k ++ x :: xs.drop (k + 1) := by
    conv => lhs; rw [← List.take_append_drop k xs]
    rw [List.drop_eq_getElem_cons h1, h2]
  rw [this, List.find?_append]
  have h3 : (xs.take k).find? p = none := by
    rw [List.find?_eq_none]
    intro y hy; simpa using hn y hy
  rw [h3]
  simp [he]
theorem find_nothing {α : Type} {p : α → Bool} {xs : List α} (hn : ∀ y ∈ xs, p y = false) : xs.find? p = none := by
  rw [List.find?_eq_none]
  intro y hy; simpa using hn y hy
theorem find0_hit {e : Ed} {key : Int} {k : Nat} {x : Int × Int} (hx : e.ents[k]? = some x) (hn : ∀ y ∈ e.ents.take k, (y.1 == key) = false) (he : (x.1 == key) = true) : findE e key = some x.2 := by
  unfold findE; rw [find_first hx hn he]; rfl
theorem find0_miss {e : Ed} {key : Int} (hn : ∀ y ∈ e.ents, (y.1 == key) = false) : findE e key = none := by
  unfold findE; rw [find_nothing hn]; rfl
theorem own0_hit {e : Ed} {n : Int} {k : Nat} {x : Int × Int} (hx : e.ents[k]? = some x) (hn : ∀ y ∈ e.ents.take k, (y.2 == n) = false) (he : (x.2 == n) = true) : ownE e n = some x.1 := by
  unfold ownE; rw [find_first hx hn he]; rfl
theorem own0_miss {e : Ed} {n : Int} (hn : ∀ y ∈ e.ents, (y.2 == n) = false) : ownE e n = none := by
  unfold ownE; rw [find_nothing hn]; rfl
theorem find0_of {e : Ed} {key : Int} {o : Option Int} (h : findE e key = o) : find0 e key = o.getD 0 := by unfold find0; rw [h]
theorem own0_of {e : Ed} {n : Int} {o : Option Int} (h : ownE e n = o) : own0 e n = o.getD 0 := by unfold own0; rw [h]
theorem all_take {α : Type} {p : α → Prop} {xs : List α} {k : Nat} {x : α} (hx : xs[k]? = some x) (hn : ∀ y ∈ xs.take k, p y) (h : p x) : ∀ y ∈ xs.take (k + 1), p y := fun y hy => by
  rcases (mem_take_snoc hx).1 hy with h' | rfl
  · exact hn y h'
  · exact h

set_option maxRecDepth 100000 in
set_option maxHeartbeats 1000000 in
theorem rfind_any (A : Option Addr) (n c : Nat) (A' : Option Addr) (n' c' : Nat) (e : Ed) (key : Int) (w : World) (hn : n ≤ 1000000) (hS : EdS w A n A' n' e) :
    Calls Tryz.prog 40 #[.agg #[.slice A n c, .slice A' n' c'], .int .i64 key] w fun r w' => r = .returned (.int .i64 (find0 e key)) ∧ Below w.heap.size w w' := by
  have HL := Lib.hid hS.ents.len
  have HS := Lib.hid hS.ents; clear hS
  go_enter Tryz.func40, Tryz.ntmps40
  go_wp2_with fail
  go_loopw [5] (fun s wr => ∃ k : Nat, k ≤ n ∧ s = .int .i64 (k : Int) ∧ (∀ y ∈ e.ents.take k, (y.1 == key) = false) ∧ Bx wr w.heap.size [.slice A n c, .slice A' n' c'] ∧ Below w.heap.size w wr) (fun s _ => n - (intOf s).toNat)
  case atStart => exact ⟨0, by omega, rfl, by simp, Bx.new _ _ _, by (repeat (first | exact Below.refl _ _ | assumption | refine Below.alloc ?_ (by first | omega | (simp only [World.size_alloc]; omega) | (simp; done) | (simp; omega)) _ | refine Below.setCell ?_ (by first | omega | (simp only [World.size_alloc]; omega) | (simp; done) | (simp; omega)) _ | refine Below.drew ?_ | refine below_drewN ?_ _))⟩
  case round =>
    obtain ⟨k, hk, rfl, hnn, Z, hb⟩ := hrel
    have HN := Lib.hid hnn; clear hnn
    have Z0 := Z.cell 0 _ rfl; have Z1 := Z.cell 1 _ rfl; have Zlt := Z.lt
    by_cases hlt : k < n
    · obtain ⟨b, off, x, rfl, hbb, hx, c0, c1⟩ := (HS.out.below hb (Nat.le_refl _)).en hlt
      have HX := Lib.hid hx; clear hx
      cases he : (x.1 == key)
      · have HE := Lib.hid he
        go_wp2_with fail
        go_roundw
        case rel => exact ⟨k + 1, by omega, by go_num, all_take HX.out HN.out HE.out, Z, hb⟩
        case measure => simp [intOf]; omega
      · have HV : Hid (find0 e key = x.2) := find0_of (find0_hit HX.out HN.out he)
        go_wp2_with fail
        go_ret
        exact ⟨by rw [HV.out]; rfl, hb⟩
    · obtain rfl : k = n := by omega
      have HV : Hid (find0 e key = 0) := by
        show _ = _
        have h := HN.out
        rw [List.take_of_length_le (by have := HL.out; omega)] at h
        exact find0_of (find0_miss h)
      go_wp2_with fail
      go_ret
      exact ⟨by rw [HV.out]; rfl, hb⟩
set_option maxRecDepth 100000 in
set_option maxHeartbeats 1000000 in
theorem rowner_any (A : Option Addr) (n c : Nat) (A' : Option Addr) (n' c' : Nat) (e : Ed) (num : Int) (w : World) (hn : n ≤ 1000000) (hS : EdS w A n A' n' e) :
    Calls Tryz.prog 38 #[.agg #[.slice A n c, .slice A' n' c'], .int .i64 num] w fun r w' => r = .returned (.int .i64 (own0 e num)) ∧ Below w.heap.size w w' := by
  have HL := Lib.hid hS.ents.len
  have HS := Lib.hid hS.ents; clear hS
  go_enter Tryz.func38, Tryz.ntmps38
  go_wp2_with fail
  go_loopw [5] (fun s wr => ∃ k : Nat, k ≤ n ∧ s = .int .i64 (k : Int) ∧ (∀ y ∈ e.ents.take k, (y.2 == num) = false) ∧ Bx wr w.heap.size [.slice A n c, .slice A' n' c'] ∧ Below w.heap.size w wr) (fun s _ => n - (intOf s).toNat)
  case atStart => exact ⟨0, by omega, rfl, by simp, Bx.new _ _ _, by (repeat (first | exact Below.refl _ _ | assumption | refine Below.alloc ?_ (by first | omega | (simp only [World.size_alloc]; omega) | (simp; done) | (simp; omega)) _ | refine Below.setCell ?_ (by first | omega | (simp only [World.size_alloc]; omega) | (simp; done) | (simp; omega)) _ | refine Below.drew ?_ | refine below_drewN ?_ _))⟩
  case round =>
    obtain ⟨k, hk, rfl, hnn, Z, hb⟩ := hrel
    have HN := Lib.hid hnn; clear hnn
    have Z0 := Z.cell 0 _ rfl; have Z1 := Z.cell 1 _ rfl; have Zlt := Z.lt
    by_cases hlt : k < n
    · obtain ⟨b, off, x, rfl, hbb, hx, c0, c1⟩ := (HS.out.below hb (Nat.le_refl _)).en hlt
      have HX := Lib.hid hx; clear hx
      cases he : (x.2 == num)
      · have HE := Lib.hid he
        go_wp2_with fail
        go_roundw
        case rel => exact ⟨k + 1, by omega, by go_num, all_take HX.out HN.out HE.out, Z, hb⟩
        case measure => simp [intOf]; omega
      · have HV : Hid (own0 e num = x.1) := own0_of (own0_hit HX.out HN.out he)
        go_wp2_with fail
        go_ret
        exact ⟨by rw [HV.out]; rfl, hb⟩
    · obtain rfl : k = n := by omega
      have HV : Hid (own0 e num = 0) := by
        show _ = _
        have h := HN.out
        rw [List.take_of_length_le (by have := HL.out; omega)] at h
        exact own0_of (own0_miss h)
      go_wp2_with fail
      go_ret
      exact ⟨by rw [HV.out]; rfl, hb⟩

/-- Entries ascending by key. -/
def ordR (l : List (Int × Int)) (most : Int) : Bool := decide ((l.map Prod.fst).Pairwise (· < ·) ∧ (l.length : Int) ≤ most)
theorem map_at {α β : Type} {f : α → β} {xs : List α} {k : Nat} {x : α} (h : xs[k]? = some x) : (xs.map f)[k]? = some (f x) := by rw [List.getElem?_map, h]; rfl
set_option maxRecDepth 100000 in
set_option maxHeartbeats 1000000 in
theorem bord_any (A : Option Addr) (len cap : Nat) (xs : List (Int × Int)) (most : Int) (w : World) (hlen : len ≤ 1000000) (hS : Sl w 0 w.heap.size 2 encE A len xs) :
    Calls Tryz.prog 47 #[.slice A len cap, .int .i64 most] w fun e w' => e = .returned (.bool (ordR xs most)) ∧ Below w.heap.size w w' := by
  have HL := Lib.hid hS.len
  have HS := Lib.hid hS; clear hS
  go_enter Tryz.func47, Tryz.ntmps47
  go_wp2_with fail
  go_loopw [5] (fun s wr => ∃ k : Nat, 1 ≤ k ∧ (k ≤ len ∨ k = 1) ∧ s = .int .i64 (k : Int) ∧ ((xs.map Prod.fst).take k).Pairwise (· < ·) ∧ Below w.heap.size w wr) (fun s _ => len - (intOf s).toNat)
  case atStart => exact ⟨1, by omega, by omega, rfl, by cases xs <;> simp, Below.refl _ _⟩
  case round =>
    obtain ⟨k, hk1, hk, rfl, hp, hb⟩ := hrel
    have HP := Lib.hid hp; clear hp
    obtain ⟨m, rfl⟩ : ∃ m, k = m + 1 := ⟨k - 1, by omega⟩
    by_cases hlt : m + 1 < len
    · obtain ⟨b, off, x, rfl, hbb, hx, c0, _⟩ := (HS.out.below hb (Nat.le_refl _)).en hlt
      obtain ⟨b', off', y, hA', hbb', hy, d0, _⟩ := (HS.out.below hb (Nat.le_refl _)).en (show m < len by omega)
      simp only [Option.some.injEq, Addr.mk.injEq, and_true] at hA'
      obtain ⟨rfl, rfl⟩ := hA'
      have HX := Lib.hid (map_at (f := Prod.fst) hx); clear hx
      have HY := Lib.hid (map_at (f := Prod.fst) hy); clear hy
      by_cases he : x.1 ≤ y.1
      · have HV : Hid (ordR xs most = false) := by
          show _ = _
          unfold ordR
          rw [decide_eq_false_iff_not]
          rintro ⟨h1, _⟩
          refine asc_of_take (k := m + 1 + 1) (fun h3 => ?_) h1
          have := ((asc_take HY.out HX.out).1 h3).2
          omega
        have d3 : decide (x.1 ≤ y.1) = true := decide_eq_true he
        clear he
        go_wp2_with fail
        go_quiet (fail)
        go_wp2_with fail
        go_ret
        exact ⟨by rw [HV.out]; rfl, below_drewN hb _⟩
      · have HA : Hid (((xs.map Prod.fst).take (m + 1 + 1)).Pairwise (· < ·)) := (asc_take HY.out HX.out).2 ⟨HP.out, by omega⟩
        have d3 : decide (x.1 ≤ y.1) = false := decide_eq_false he
        clear he
        go_wp2_with fail
        go_quiet (fail)
        go_wp2_with fail
        go_roundw
        case rel => exact ⟨m + 1 + 1, by omega, by omega, by go_num, HA.out, below_drewN hb _⟩
        case measure => simp [intOf]; omega
    · have HV : Hid (ordR xs most = decide ((len : Int) ≤ most)) := by
        show _ = _
        have h1 := HP.out
        rw [List.take_of_length_le (by rw [List.length_map]; have := HL.out; omega)] at h1
        unfold ordR
        rw [HL.out]
        simp [h1]
      go_wp2_with fail
      all_goals (go_ret; exact ⟨by rw [HV.out]; rfl, hb⟩)
end Go.Proofs.YtfanjghfilkhmaaGreatDoor
