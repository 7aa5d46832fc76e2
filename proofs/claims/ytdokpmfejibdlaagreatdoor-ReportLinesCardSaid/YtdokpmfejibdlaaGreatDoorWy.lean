/- Chapter 54: wear.States. (Printed by hwt.py from Wy.txt.) -/
import Derived.Test.YtdokpmfejibdlaaGreatDoorWn
set_option linter.unusedSimpArgs false
set_option linter.unusedVariables false
namespace Go.Proofs.YtdokpmfejibdlaaGreatDoor
open Go.RowKit

/-- Hours. -/
theorem hone_any (x : Int) (w : World) (h : 0 ≤ x ∧ x < 12) : Calls Tryz.prog 139 #[.int .i64 x] w fun e w' => e = .returned (.bool true) ∧ w = w' := by
  obtain ⟨h1, h2⟩ := h
  go_enter Tryz.func139, Tryz.ntmps139
  go_wp2
  all_goals go_ret
  all_goals exact ⟨by simp, rfl⟩
theorem hclo_any (x : Int) (w : World) (h : 0 ≤ x ∧ x < 12) : Calls Tryz.prog 138 #[.int .i64 x] w fun e w' => e = .returned (.bool false) ∧ w = w' := by
  have HC := Lib.hid (hone_any x w h); clear h
  go_enter Tryz.func138, Tryz.ntmps138
  go_wp2_with fail
  go_fit HC.out
  rintro e w1 ⟨rfl, rfl⟩
  go_wp2_with fail
  go_ret
  exact ⟨rfl, rfl⟩
set_option maxHeartbeats 1000000 in
theorem hindex_any (A : Option Addr) (len cap : Nat) (xs : List Int) (w : World) (hlen : len ≤ 1000000) (hS : Sl w 0 w.heap.size 1 encI A len xs) (hall : ∀ x ∈ xs, 0 ≤ x ∧ x < 12) :
    Calls Tryz.prog 186 #[.slice A len cap, .func (.func 138) #[] #[]] w fun e w' => e = .returned (.int .i64 (-1)) ∧ w = w' := by
  have HL := Lib.hid hS.len
  have HS := Lib.hid hS; clear hS
  have HA := Lib.hid hall; clear hall
  go_enter Tryz.func186, Tryz.ntmps186
  go_wp2_with fail
  go_loop [8] (fun s => ∃ k : Nat, k ≤ len ∧ s = .int .i64 k) (fun s => len - (intOf s).toNat)
  case atStart => exact ⟨0, by omega, rfl⟩
  case round =>
    obtain ⟨k, hk, rfl⟩ := hrel
    by_cases hlt : k < len
    · obtain ⟨b, off, x, rfl, hbb, hx, c0⟩ := HS.out.in_ hlt
      have HC := Lib.hid (hclo_any x w (HA.out x (List.mem_of_getElem? hx)))
      clear hx
      go_wp2_with fail
      go_fit HC.out
      rintro e w1 ⟨rfl, rfl⟩
      go_wp2_with fail
      go_round
      case rel => exact ⟨k + 1, by omega, by go_num⟩
      case measure => simp [intOf]; omega
    · obtain rfl : k = len := by omega
      go_wp2_with fail
      go_ret
      exact ⟨rfl, rfl⟩
theorem hcontains_any (A : Option Addr) (len cap : Nat) (xs : List Int) (w : World) (hlen : len ≤ 1000000) (hS : Sl w 0 w.heap.size 1 encI A len xs) (hall : ∀ x ∈ xs, 0 ≤ x ∧ x < 12) :
    Calls Tryz.prog 137 #[.slice A len cap, .func (.func 138) #[] #[]] w fun e w' => e = .returned (.bool false) ∧ w = w' := by
  have H := Lib.hid (hindex_any A len cap xs w hlen hS hall)
  clear hS hall
  go_enter Tryz.func137, Tryz.ntmps137
  go_wp2_with fail
  go_fit H.out
  rintro e w1 ⟨rfl, rfl⟩
  go_wp2_with fail
  go_ret
  exact ⟨rfl, rfl⟩
theorem hcheck_any (A : Option Addr) (len cap : Nat) (xs : List Int) (w : World) (hlen : len ≤ 64) (hS : Sl w 0 w.heap.size 1 encI A len xs) (hall : ∀ x ∈ xs, 0 ≤ x ∧ x < 12) :
    Calls Tryz.prog 98 #[.slice A len cap] w fun e w' => e = .returned (.int .i64 0) ∧ w = w' := by
  have H := Lib.hid (hcontains_any A len cap xs w (by omega) hS hall)
  clear hS hall
  go_enter Tryz.func98, Tryz.ntmps98
  go_wp2_with fail
  go_fit H.out
  rintro e w1 ⟨rfl, rfl⟩
  go_wp2_with fail
  go_ret
  exact ⟨rfl, rfl⟩
/-- Weights. -/
theorem wone_any (x : Int) (w : World) (h : 1 ≤ x ∧ x ≤ 200000) : Calls Tryz.prog 141 #[.int .i64 x] w fun e w' => e = .returned (.bool true) ∧ w = w' := by
  obtain ⟨h1, h2⟩ := h
  go_enter Tryz.func141, Tryz.ntmps141
  go_wp2
  all_goals go_ret
  all_goals exact ⟨by simp, rfl⟩
theorem wclo_any (x : Int) (w : World) (h : 1 ≤ x ∧ x ≤ 200000) : Calls Tryz.prog 140 #[.int .i64 x] w fun e w' => e = .returned (.bool false) ∧ w = w' := by
  have HC := Lib.hid (wone_any x w h); clear h
  go_enter Tryz.func140, Tryz.ntmps140
  go_wp2_with fail
  go_fit HC.out
  rintro e w1 ⟨rfl, rfl⟩
  go_wp2_with fail
  go_ret
  exact ⟨rfl, rfl⟩
set_option maxHeartbeats 1000000 in
theorem windex_any (A : Option Addr) (len cap : Nat) (xs : List Int) (w : World) (hlen : len ≤ 1000000) (hS : Sl w 0 w.heap.size 1 encI A len xs) (hall : ∀ x ∈ xs, 1 ≤ x ∧ x ≤ 200000) :
    Calls Tryz.prog 186 #[.slice A len cap, .func (.func 140) #[] #[]] w fun e w' => e = .returned (.int .i64 (-1)) ∧ w = w' := by
  have HL := Lib.hid hS.len
  have HS := Lib.hid hS; clear hS
  have HA := Lib.hid hall; clear hall
  go_enter Tryz.func186, Tryz.ntmps186
  go_wp2_with fail
  go_loop [8] (fun s => ∃ k : Nat, k ≤ len ∧ s = .int .i64 k) (fun s => len - (intOf s).toNat)
  case atStart => exact ⟨0, by omega, rfl⟩
  case round =>
    obtain ⟨k, hk, rfl⟩ := hrel
    by_cases hlt : k < len
    · obtain ⟨b, off, x, rfl, hbb, hx, c0⟩ := HS.out.in_ hlt
      have HC := Lib.hid (wclo_any x w (HA.out x (List.mem_of_getElem? hx)))
      clear hx
      go_wp2_with fail
      go_fit HC.out
      rintro e w1 ⟨rfl, rfl⟩
      go_wp2_with fail
      go_round
      case rel => exact ⟨k + 1, by omega, by go_num⟩
      case measure => simp [intOf]; omega
    · obtain rfl : k = len := by omega
      go_wp2_with fail
      go_ret
      exact ⟨rfl, rfl⟩
theorem wcontains_any (A : Option Addr) (len cap : Nat) (xs : List Int) (w : World) (hlen : len ≤ 1000000) (hS : Sl w 0 w.heap.size 1 encI A len xs) (hall : ∀ x ∈ xs, 1 ≤ x ∧ x ≤ 200000) :
    Calls Tryz.prog 137 #[.slice A len cap, .func (.func 140) #[] #[]] w fun e w' => e = .returned (.bool false) ∧ w = w' := by
  have H := Lib.hid (windex_any A len cap xs w hlen hS hall)
  clear hS hall
  go_enter Tryz.func137, Tryz.ntmps137
  go_wp2_with fail
  go_fit H.out
  rintro e w1 ⟨rfl, rfl⟩
  go_wp2_with fail
  go_ret
  exact ⟨rfl, rfl⟩
theorem wcheck_any (A : Option Addr) (len cap : Nat) (xs : List Int) (w : World) (hlen : len ≤ 64) (hS : Sl w 0 w.heap.size 1 encI A len xs) (hall : ∀ x ∈ xs, 1 ≤ x ∧ x ≤ 200000) :
    Calls Tryz.prog 99 #[.slice A len cap] w fun e w' => e = .returned (.int .i64 0) ∧ w = w' := by
  have H := Lib.hid (wcontains_any A len cap xs w (by omega) hS hall)
  clear hS hall
  go_enter Tryz.func99, Tryz.ntmps99
  go_wp2_with fail
  go_fit H.out
  rintro e w1 ⟨rfl, rfl⟩
  go_wp2_with fail
  go_ret
  exact ⟨rfl, rfl⟩
/-! ### Hours counted. -/
def hrsT (xs : List Int) (j : Nat) : List Int := (List.range 12).map (fun h : Nat => ((xs.take j).countP (fun x => x == (h : Int)) : Int))
def hrsW (xs : List Int) : List Int := (List.range 12).map (fun h : Nat => (xs.countP (fun x => x == (h : Int)) : Int))
theorem hrsT_all (xs : List Int) (j : Nat) (h : xs.length = j) : hrsT xs j = hrsW xs := by subst h; unfold hrsT hrsW; rw [List.take_length]
theorem hrsT_get {xs : List Int} {j h : Nat} (hh : h < 12) : (hrsT xs j)[h]? = some ((xs.take j).countP (fun x => x == (h : Int)) : Int) := by
  unfold hrsT; rw [List.getElem?_map, List.getElem?_range hh]; rfl
theorem hrsT_len (xs : List Int) (j : Nat) : (hrsT xs j).length = 12 := by unfold hrsT; simp
theorem hrsT_step {xs : List Int} {j h : Nat} (hx : xs[j]? = some (h : Int)) (hh : h < 12) : hrsT xs (j + 1) = (hrsT xs j).set h ((xs.take j).countP (fun x => x == (h : Int)) + 1 : Int) := by
  refine List.ext_getElem? fun k => ?_
  by_cases hk : k < 12
  · rw [hrsT_get hk, countP_snocW hx]
    by_cases e : h = k
    · subst e
      rw [List.getElem?_set_self (by rw [hrsT_len]; exact hh)]
      simp
    · have : ((h : Int) == (k : Int)) = false := by simp; omega
      rw [List.getElem?_set_ne e, hrsT_get hk, this]
      simp
  · rw [List.getElem?_eq_none (by rw [hrsT_len]; omega), List.getElem?_eq_none (by rw [List.length_set, hrsT_len]; omega)]
theorem encI_flatX (xs : List Int) : xs.flatMap encI = xs.map (Value.int .i64) := by
  induction xs with
  | nil => rfl
  | cons x xs ih => rw [List.flatMap_cons, ih]; rfl
set_option maxHeartbeats 2000000 in
theorem counts_any (A : Option Addr) (len cap : Nat) (xs : List Int) (w : World) (hlen : len ≤ 64) (hS : Sl w 0 w.heap.size 1 encI A len xs) (hall : ∀ x ∈ xs, 0 ≤ x ∧ x < 12) :
    Calls Tryz.prog 56 #[.slice A len cap] w fun e w' => (∃ A' c', e = .returned (.tuple #[.slice A' 12 c', .int .i64 0]) ∧ Sl w' 0 w'.heap.size 1 encI A' 12 (hrsW xs)) ∧ Below w.heap.size w w' := by
  have HC := Lib.hid (hcheck_any A len cap xs w hlen hS hall)
  have HS : Hid (∀ W, Below w.heap.size w W → Sl W 0 W.heap.size 1 encI A len xs) := fun W hW => hS.up hW (Nat.le_refl _) (Nat.le_refl _)
  have HL := Lib.hid hS.len
  have HA := Lib.hid hall
  clear hS hall
  obtain ⟨i0, hi, hz0, hz1, hz2⟩ := info_parts Tryz.infoI
  go_enter Tryz.func56, Tryz.ntmps56
  go_wp2_with fail
  go_fit HC.out
  rintro e w1 ⟨rfl, rfl⟩
  go_wp2_with (refine wpList_make_full _ rfl _ _ 36 rfl w.heap.size 3 i0 (.int .i64 0) 1 Tryz.underlying36 hi hz0 hz1 .i64 .i64 _ _ 12 rfl rfl rfl rfl (by rw [hz2]; omega) (by unfold maxLen; omega) (Nat.le_refl _) ?_; intro w2 hown2 hg2)
  have hown0 : w2.ownsRow w.heap.size 3 1 (.slice (some ⟨w.heap.size, 0, none⟩) 12 12) 12 ((hrsT xs 0).flatMap encI) := by
    have hz : (hrsT xs 0).flatMap encI = (madeCells (Value.int .i64 0).cells (12 * 1)).toList := by
      rw [encI_flatX, show (Value.int .i64 0).cells = #[Value.int .i64 0] from rfl, toList_madeCells_one]
      rfl
    rw [hz]; exact hown2
  have hb2 : Below w.heap.size w w2 := ⟨hg2.os, hg2.tape, hg2.output, hg2.size, fun k hk => hg2.block k hk (by simp)⟩
  clear hown2 hg2
  go_wp2_with fail
  go_loopw [16] (fun i wr => ∃ j : Nat, j ≤ len ∧ i = .int .i64 (j : Int) ∧ wr.ownsRow w.heap.size 3 1 (.slice (some ⟨w.heap.size, 0, none⟩) 12 12) 12 ((hrsT xs j).flatMap encI) ∧ Below w.heap.size w wr) (fun i _ => len - (intOf i).toNat)
  case atStart => exact ⟨0, by omega, rfl, hown0, hb2⟩
  case round =>
    clear hown0 hb2
    obtain ⟨j, hj, rfl, hown, hbr⟩ := hrel
    by_cases hlt : j < len
    · obtain ⟨b, off, x, rfl, hbb, hx, x0⟩ := (HS.out _ hbr).in_ hlt
      obtain ⟨h1, h2⟩ := HA.out x (List.mem_of_getElem? hx)
      obtain ⟨h, rfl⟩ := Int.eq_ofNat_of_zero_le h1
      have hh : h < 12 := by omega
      have HST := Lib.hid (hrsT_step hx hh)
      have hcl : (xs.take j).countP (fun x => x == (h : Int)) ≤ 64 := by have := List.countP_le_length (p := fun x : Int => x == (h : Int)) (l := xs.take j); rw [List.length_take] at this; omega
      have r0 : wr.cell? ⟨w.heap.size, h, none⟩ = some (.int .i64 ((xs.take j).countP (fun x => x == (h : Int)) : Int)) := by
        rw [hown.cellAt h (by omega), encI_flatX, List.getElem?_map, hrsT_get hh]; rfl
      have f0 := hown.frozenAt h
      have rl : w.heap.size < wr.heap.size := (hown.lt _ rfl).2
      obtain ⟨hst, hgs⟩ := hown.stored h (.int .i64 ((xs.take j).countP (fun x => x == (h : Int)) + 1 : Int))
      rw [encI_flatX, ← List.map_set, ← HST.out, ← encI_flatX] at hst
      have hb3 := hbr.setCell (p := ⟨w.heap.size, h, none⟩) (Nat.le_refl _) (.int .i64 ((xs.take j).countP (fun x => x == (h : Int)) + 1 : Int))
      generalize (xs.take j).countP (fun x => x == (h : Int)) = q at *
      clear hx h1 h2 hgs
      go_wp2_with fail
      exact ⟨⟨j + 1, by omega, by go_num, hst, hb3⟩, by simp [intOf]; omega⟩
    · obtain rfl : j = len := by omega
      rw [hrsT_all xs j HL.out] at hown
      have HSL := Lib.hid (Sl.of_own (k := 1) (enc := encI) (fun _ => rfl) hown (by unfold hrsW; simp)).any
      clear hown
      go_wp2_with fail
      go_ret2
      exact ⟨⟨_, 12, rfl, HSL.out⟩, hbr⟩
/-! ### Classes of weights. -/
theorem withinT_step {xs : List Int} {j : Nat} {x : Int} (lo hi : Int) (hx : xs[j]? = some x) : withinW (xs.take (j + 1)) lo hi = withinW (xs.take j) lo hi + (if (decide (lo ≤ x) && decide (x < hi)) = true then 1 else 0) := by
  unfold withinW; exact countP_snocW hx
theorem withinT_le (xs : List Int) (lo hi : Int) : withinW xs lo hi ≤ xs.length := by unfold withinW; exact List.countP_le_length
set_option maxHeartbeats 2000000 in
theorem within_any (A : Option Addr) (len cap : Nat) (xs : List Int) (lo hi : Int) (w : World) (hlen : len ≤ 64) (hS : Sl w 0 w.heap.size 1 encI A len xs) :
    Calls Tryz.prog 100 #[.slice A len cap, .int .i64 lo, .int .i64 hi] w fun e w' => e = .returned (.int .i64 (withinW xs lo hi : Nat)) ∧ w = w' := by
  have HL := Lib.hid hS.len
  have HS := Lib.hid hS; clear hS
  go_enter Tryz.func100, Tryz.ntmps100
  go_wp2_with fail
  go_loop [7, 12] (fun v s => ∃ k : Nat, k ≤ len ∧ s = .int .i64 (k : Int) ∧ v = .int .i64 (withinW (xs.take k) lo hi : Nat)) (fun _ s => len - (intOf s).toNat)
  case atStart => exact ⟨0, by omega, rfl, rfl⟩
  case round =>
    obtain ⟨k, hk, rfl, rfl⟩ := hrel
    by_cases hlt : k < len
    · obtain ⟨b, off, x, rfl, hbb, hx, c0⟩ := HS.out.in_ hlt
      have HST := Lib.hid (withinT_step lo hi hx)
      have hwl : withinW (xs.take k) lo hi ≤ 64 := by have := withinT_le (xs.take k) lo hi; rw [List.length_take] at this; omega
      generalize withinW (xs.take k) lo hi = q at *
      clear hx
      by_cases h1 : lo ≤ x
      · by_cases h2 : x < hi
        · have HQ : Hid (withinW (xs.take (k + 1)) lo hi = q + 1) := by show _ = _; rw [HST.out]; simp [h1, h2]
          go_wp2_with fail
          go_round
          case rel => exact ⟨k + 1, by omega, by go_num, by rw [HQ.out]; go_num⟩
          case measure => simp [intOf]; omega
        · have HQ : Hid (withinW (xs.take (k + 1)) lo hi = q) := by show _ = _; rw [HST.out]; simp [h2]
          go_wp2_with fail
          go_round
          case rel => exact ⟨k + 1, by omega, by go_num, by rw [HQ.out]⟩
          case measure => simp [intOf]; omega
      · have HQ : Hid (withinW (xs.take (k + 1)) lo hi = q) := by show _ = _; rw [HST.out]; simp [h1]
        go_wp2_with fail
        go_round
        case rel => exact ⟨k + 1, by omega, by go_num, by rw [HQ.out]⟩
        case measure => simp [intOf]; omega
    · obtain rfl : k = len := by omega
      have HT : Hid (xs.take k = xs) := take_all HL.out
      rw [HT.out]
      go_wp2_with fail
      go_ret
      exact ⟨rfl, rfl⟩
def tableR (xs : List Int) (low step n : Int) : List Int := if tableE low step n = 0 then tableW xs low step n.toNat else []
def tabT (xs : List Int) (low step : Int) (k : Nat) : List Int := (withinW xs 0 low : Int) :: ((List.range k).map (fun k : Nat => (withinW xs (low + k * step) (low + (k + 1) * step) : Int)))
theorem tabT_succ (xs : List Int) (low step : Int) (k : Nat) : tabT xs low step (k + 1) = tabT xs low step k ++ [(withinW xs (low + k * step) (low + (k + 1) * step) : Int)] := by
  unfold tabT; rw [List.range_succ, List.map_append]; rfl
theorem tabT_len (xs : List Int) (low step : Int) (k : Nat) : (tabT xs low step k).length = k + 1 := by unfold tabT; simp
theorem tableE_or (low step n : Int) : (tableE low step n = 0 ∧ 0 ≤ low ∧ low ≤ 200000 ∧ 1 ≤ step ∧ step ≤ 10000 ∧ 1 ≤ n ∧ n ≤ 64) ∨ (tableE low step n = 2 ∧ ¬ (0 ≤ low ∧ low ≤ 200000 ∧ 1 ≤ step ∧ step ≤ 10000 ∧ 1 ≤ n ∧ n ≤ 64)) := by
  unfold tableE
  by_cases h : 0 ≤ low ∧ low ≤ 200000 ∧ 1 ≤ step ∧ step ≤ 10000 ∧ 1 ≤ n ∧ n ≤ 64
  · rw [if_pos h]; exact .inl ⟨rfl, h⟩
  · rw [if_neg h]; exact .inr ⟨rfl, h⟩
set_option maxRecDepth 100000 in
set_option maxHeartbeats 4000000 in
theorem ltable_any (A : Option Addr) (len cap : Nat) (xs : List Int) (low step n : Int) (w : World) (hlen : len ≤ 64) (hS : Sl w 0 w.heap.size 1 encI A len xs) (hall : ∀ x ∈ xs, 1 ≤ x ∧ x ≤ 200000) :
    Calls Tryz.prog 57 #[.slice A len cap, .int .i64 low, .int .i64 step, .int .i64 n] w (NumsW w (tableR xs low step n) (tableE low step n)) := by
  have HC := Lib.hid (wcheck_any A len cap xs w hlen hS hall)
  have HW : Hid (∀ lo hi W, Below w.heap.size w W → Calls Tryz.prog 100 #[.slice A len cap, .int .i64 lo, .int .i64 hi] W fun e w' => e = .returned (.int .i64 (withinW xs lo hi : Nat)) ∧ W = w') := fun lo hi W hW => within_any A len cap xs lo hi W hlen (hS.up hW (Nat.le_refl _) (Nat.le_refl _))
  clear hS hall
  obtain ⟨i0, hi, hz0, hz1, hz2⟩ := info_parts Tryz.infoI
  go_enter Tryz.func57, Tryz.ntmps57
  go_wp2_with fail
  go_fit HC.out
  rintro e w1 ⟨rfl, rfl⟩
  rcases tableE_or low step n with ⟨he, h1, h2, h3, h4, h5, h6⟩ | ⟨he, hbad⟩
  · have HE := Lib.hid he
    have HR : Hid (tableR xs low step n = tableW xs low step n.toNat) := if_pos he
    obtain ⟨nn, rfl⟩ := Int.eq_ofNat_of_zero_le (show 0 ≤ n by omega)
    rw [Int.toNat_natCast] at HR
    clear he
    go_wp2_with fail
    go_fit (HW.out _ _ _ (Below.refl _ _))
    rintro e w2 ⟨rfl, rfl⟩
    have own0 : (w.alloc (.cells #[.int .i64 (withinW xs 0 low : Nat)] 3)).ownsRow w.heap.size 3 1 (.slice (some ⟨w.heap.size, 0, none⟩) 1 1) 1 ((tabT xs low step 0).flatMap encI) := World.ownsRow_lit w #[.int .i64 (withinW xs 0 low : Nat)] 1 (Nat.le_refl _) (by unfold maxLen; omega) rfl
    go_wp2_with fail
    go_loopw [11, 45] (fun v i wr => ∃ j : Nat, j ≤ nn ∧ i = .int .i64 (j : Int) ∧ wr.ownsRow w.heap.size 3 1 v (j + 1) ((tabT xs low step j).flatMap encI) ∧ Below w.heap.size w wr) (fun _ i _ => nn - (intOf i).toNat)
    case atStart => exact ⟨0, by omega, rfl, own0, one_alloc _ _⟩
    case round =>
      clear own0
      obtain ⟨j, hj, rfl, hown, hbr⟩ := hrel
      have hm1 : 0 ≤ (j : Int) * step ∧ (j : Int) * step ≤ 64 * 10000 := ⟨Int.mul_nonneg (by omega) (by omega), Int.mul_le_mul (by omega) h4 (by omega) (by omega)⟩
      have hm2 : 0 ≤ ((j : Int) + 1) * step ∧ ((j : Int) + 1) * step ≤ 65 * 10000 := ⟨Int.mul_nonneg (by omega) (by omega), Int.mul_le_mul (by omega) h4 (by omega) (by omega)⟩
      have e1 : low + (j : Int) * step = low + j * step := rfl
      obtain ⟨p1, hp1⟩ : ∃ p1, p1 = (j : Int) * step := ⟨_, rfl⟩
      obtain ⟨p2, hp2⟩ : ∃ p2, p2 = ((j : Int) + 1) * step := ⟨_, rfl⟩
      rw [← hp1] at hm1
      rw [← hp2] at hm2
      by_cases hlt : j < nn
      · have hw1 : IntKind.i64.wrap ((j : Int) * step) = p1 := by rw [← hp1, IntKind.wrap_i64]; omega
        have hw2 : IntKind.i64.wrap (((j : Int) + 1) * step) = p2 := by rw [← hp2, IntKind.wrap_i64]; omega
        have HT : Hid (tabT xs low step (j + 1) = tabT xs low step j ++ [(withinW xs (low + p1) (low + p2) : Int)]) := by show _ = _; rw [tabT_succ, hp1, hp2]
        clear hp1 hp2 e1
        go_wp2_with fail
        go_fit (HW.out _ _ _ hbr)
        rintro e w2 ⟨rfl, rfl⟩
        generalize hq : withinW xs (low + p1) (low + p2) = q at *
        clear hq
        go_wp2_with (at_builtin; refine wpList_append_own _ rfl _ _ 36 rfl w.heap.size 3 i0 (.int .i64 0) 1 8 Tryz.underlying36 hi hz0 hz1 hz2 rfl (by decide) _ _ _ rfl (hown.alloc _) ⟨wr.heap.size, 0, none⟩ 1 1 [.int .i64 (q : Nat)] rfl rfl ?c1 ?c2 ?c3 ?c4 ?c5 ?_)
        case c1 => exact cell_list_at (by simp) _ _
        case c2 => exact encI_one (q : Nat)
        case c3 => unfold maxLen; omega
        case c4 => omega
        case c5 => have := hbr.size; simp; omega
        intro v' w5 hown5 hgrow _
        have hb5 : Below w.heap.size w w5 := Below.grown (hbr.alloc hbr.size _) hgrow (by have := hbr.size; simp; omega) (fun g hg => (hown.lt g hg).1)
        clear hgrow
        go_wp2_with fail
        exact ⟨⟨j + 1, by omega, by go_num, by rw [HT.out, List.flatMap_append]; exact hown5, hb5⟩, by simp [intOf]; omega⟩
      · obtain rfl : j = nn := by omega
        have hw1 : IntKind.i64.wrap ((j : Int) * step) = p1 := by rw [← hp1, IntKind.wrap_i64]; omega
        have HT : Hid (tableW xs low step j = tabT xs low step j ++ [(withinW xs (low + p1) 200001 : Int)]) := by show _ = _; unfold tableW tabT; rw [hp1]
        clear hp1 hp2 e1
        go_wp2_with fail
        go_fit (HW.out _ _ _ hbr)
        rintro e w2 ⟨rfl, rfl⟩
        generalize hq : withinW xs (low + p1) 200001 = q at *
        clear hq
        go_wp2_with (at_builtin; refine wpList_append_own _ rfl _ _ 36 rfl w.heap.size 3 i0 (.int .i64 0) 1 8 Tryz.underlying36 hi hz0 hz1 hz2 rfl (by decide) _ _ _ rfl (hown.alloc _) ⟨wr.heap.size, 0, none⟩ 1 1 [.int .i64 (q : Nat)] rfl rfl ?c1 ?c2 ?c3 ?c4 ?c5 ?_)
        case c1 => exact cell_list_at (by simp) _ _
        case c2 => exact encI_one (q : Nat)
        case c3 => unfold maxLen; omega
        case c4 => omega
        case c5 => have := hbr.size; simp; omega
        intro v' w5 hown5 hgrow _
        have hb5 : Below w.heap.size w w5 := Below.grown (hbr.alloc hbr.size _) hgrow (by have := hbr.size; simp; omega) (fun g hg => (hown.lt g hg).1)
        have hown6 : w5.ownsRow w.heap.size 3 1 v' (j + 2) ((tableW xs low step j).flatMap encI) := by rw [HT.out, List.flatMap_append]; exact hown5
        obtain ⟨A6, c6, rfl, _⟩ := own_form hown6
        have HSL := Lib.hid (Sl.of_own (k := 1) (enc := encI) (fun _ => rfl) hown6 (by rw [HT.out, List.length_append, tabT_len]; rfl)).any
        clear hown6 hown5 hgrow
        go_wp2_with fail
        go_ret2
        exact ⟨⟨A6, j + 2, c6, by rw [HE.out]; rfl, by omega, by rw [HR.out]; exact HSL.out⟩, hb5⟩
  · have HE := Lib.hid he
    have HR : Hid (tableR xs low step n = []) := if_neg (by rw [he]; decide)
    clear he
    have hfin : NumsW w (tableR xs low step n) (tableE low step n) (.returned (.tuple #[.slice none 0 0, .int .i64 2])) w := ⟨⟨none, 0, 0, by rw [HE.out], by omega, by rw [HR.out]; exact Sl.nil⟩, Below.refl _ _⟩
    have HF := Lib.hid hfin
    clear hfin
    by_cases b1 : low < 0
    · go_wp2_with fail
      go_ret2
      exact HF.out
    by_cases b2 : 200000 < low
    · go_wp2_with fail
      go_ret2
      exact HF.out
    by_cases b3 : step < 1
    · go_wp2_with fail
      go_ret2
      exact HF.out
    by_cases b4 : 10000 < step
    · go_wp2_with fail
      go_ret2
      exact HF.out
    by_cases b5 : n < 1
    · go_wp2_with fail
      go_ret2
      exact HF.out
    have b6 : 64 < n := by omega
    go_wp2_with fail
    go_ret2
    exact HF.out
end Go.Proofs.YtdokpmfejibdlaaGreatDoor
set_option linter.unusedSimpArgs false
set_option linter.unusedVariables false
namespace Go.Proofs.YtdokpmfejibdlaaGreatDoor
open Go.RowKit

theorem bx5c {w : World} {b : Nat} {u0 u1 u2 u3 u4 : Value} {us : List Value} (h : Bx w b (u0 :: u1 :: u2 :: u3 :: u4 :: us)) : w.cell? ⟨b, 0, none⟩ = some u0 ∧ w.cell? ⟨b, 1, none⟩ = some u1 ∧ w.cell? ⟨b, 2, none⟩ = some u2 ∧ w.cell? ⟨b, 3, none⟩ = some u3 ∧ w.cell? ⟨b, 4, none⟩ = some u4 :=
  ⟨h.cell 0 _ rfl, h.cell 1 _ rfl, h.cell 2 _ rfl, h.cell 3 _ rfl, h.cell 4 _ rfl⟩
set_option maxHeartbeats 1000000 in
theorem wside_any (s : Spm) (side : Int) (w : World) : Calls Tryz.prog 134 #[.agg #[.int .i64 s.id, .int .i64 s.obv, .int .i64 s.rev, .int .i64 s.os, .int .i64 s.rs, .int .i64 s.ax, .int .i64 s.wt], .int .i64 side] w fun e w' => e = .returned (.tuple #[.int .i64 (sideW s side).1, .int .i64 (sideW s side).2]) ∧ Below w.heap.size w w' := by
  go_enter Tryz.func134, Tryz.ntmps134
  by_cases h0 : side = 0
  · have HS : Hid (sideW s side = (s.obv, s.os)) := if_pos h0
    subst h0
    go_wp2_with fail
    have B := bx5c ((Bx.new w [.int .i64 s.id, .int .i64 s.obv, .int .i64 s.rev, .int .i64 s.os, .int .i64 s.rs, .int .i64 s.ax, .int .i64 s.wt] 34).up (Below.drew (Below.refl _ _)))
    have hb : Below w.heap.size w (w.alloc (.cells #[.int .i64 s.id, .int .i64 s.obv, .int .i64 s.rev, .int .i64 s.os, .int .i64 s.rs, .int .i64 s.ax, .int .i64 s.wt] 34)).drew := Below.drew (one_alloc _ _)
    have B' : (w.alloc (.cells #[.int .i64 s.id, .int .i64 s.obv, .int .i64 s.rev, .int .i64 s.os, .int .i64 s.rs, .int .i64 s.ax, .int .i64 s.wt] 34)).drew.cell? ⟨w.heap.size, 0, none⟩ = some (.int .i64 s.id) ∧ _ := B
    refine wp_region_noPanic ?_
    refine wp_region_held_drew (S := fun U => (U.cell? ⟨w.heap.size, 0, none⟩ = some (.int .i64 s.id) ∧ U.cell? ⟨w.heap.size, 1, none⟩ = some (.int .i64 s.obv) ∧ U.cell? ⟨w.heap.size, 2, none⟩ = some (.int .i64 s.rev) ∧ U.cell? ⟨w.heap.size, 3, none⟩ = some (.int .i64 s.os) ∧ U.cell? ⟨w.heap.size, 4, none⟩ = some (.int .i64 s.rs))) (by kernel_rfl) B (fun hHeld => ?_)
    generalize (w.alloc (.cells #[.int .i64 s.id, .int .i64 s.obv, .int .i64 s.rev, .int .i64 s.os, .int .i64 s.rs, .int .i64 s.ax, .int .i64 s.wt] 34)).drew = W6 at *
    refine' takeW 0 ?_ ?_ ?_ (by kernel_rfl) (by kernel_rfl) (by kernel_rfl) (fun _ _ _ h => h) hHeld ?_
    rotate_left 2
    · (simp only [List.getElem?_toArray, List.getElem?_cons_succ, List.getElem?_cons_zero]; try rfl)
    · rfl
    · (intro w hSw; (try dsimp only at hSw); go_simp; first | done | with_reducible rfl)
    (try simp only [Act.put, List.setIfInBounds_toArray, List.set_cons_zero, List.set_cons_succ])
    refine' takeW 1 ?_ ?_ ?_ (by kernel_rfl) (by kernel_rfl) (by kernel_rfl) (fun _ _ _ h => h) hHeld ?_
    rotate_left 2
    · (simp only [List.getElem?_toArray, List.getElem?_cons_succ, List.getElem?_cons_zero]; try rfl)
    · rfl
    · (intro w hSw; (try dsimp only at hSw); go_simp; first | done | with_reducible rfl)
    (try simp only [Act.put, List.setIfInBounds_toArray, List.set_cons_zero, List.set_cons_succ])
    refine' takeW 2 ?_ ?_ ?_ (by kernel_rfl) (by kernel_rfl) (by kernel_rfl) (fun _ _ _ h => h) hHeld ?_
    rotate_left 2
    · (simp only [List.getElem?_toArray, List.getElem?_cons_succ, List.getElem?_cons_zero]; try rfl)
    · rfl
    · (intro w hSw; (try dsimp only at hSw); go_simp; first | done | with_reducible rfl)
    (try simp only [Act.put, List.setIfInBounds_toArray, List.set_cons_zero, List.set_cons_succ])
    refine' takeW 3 ?_ ?_ ?_ (by kernel_rfl) (by kernel_rfl) (by kernel_rfl) (fun _ _ _ h => h) hHeld ?_
    rotate_left 2
    · (simp only [List.getElem?_toArray, List.getElem?_cons_succ, List.getElem?_cons_zero]; try rfl)
    · rfl
    · (intro w hSw; (try dsimp only at hSw); go_simp; first | done | with_reducible rfl)
    (try simp only [Act.put, List.setIfInBounds_toArray, List.set_cons_zero, List.set_cons_succ])
    refine' takeW 4 ?_ ?_ ?_ (by kernel_rfl) (by kernel_rfl) (by kernel_rfl) (fun _ _ _ h => h) hHeld ?_
    rotate_left 2
    · (simp only [List.getElem?_toArray, List.getElem?_cons_succ, List.getElem?_cons_zero]; try rfl)
    · rfl
    · (intro w hSw; (try dsimp only at hSw); go_simp; first | done | with_reducible rfl)
    (try simp only [Act.put, List.setIfInBounds_toArray, List.set_cons_zero, List.set_cons_succ])
    refine' takeW 5 ?_ ?_ ?_ (by kernel_rfl) (by kernel_rfl) (by kernel_rfl) (fun _ _ _ h => h) hHeld ?_
    rotate_left 2
    · (simp only [List.getElem?_toArray, List.getElem?_cons_succ, List.getElem?_cons_zero]; try rfl)
    · rfl
    · (intro w hSw; (try dsimp only at hSw); go_simp; first | done | with_reducible rfl)
    (try simp only [Act.put, List.setIfInBounds_toArray, List.set_cons_zero, List.set_cons_succ])
    refine wpAnyH_done (by kernel_rfl) ?_ _
    refine NoPanic.normal ?_
    clear hHeld
    go_wp2_with fail
    go_ret2
    exact ⟨by rw [HS.out]; rfl, hb⟩
  · have HS : Hid (sideW s side = (s.rev, s.rs)) := if_neg h0
    go_wp2_with fail
    have B := bx5c ((Bx.new w [.int .i64 s.id, .int .i64 s.obv, .int .i64 s.rev, .int .i64 s.os, .int .i64 s.rs, .int .i64 s.ax, .int .i64 s.wt] 34).up (Below.drew (Below.refl _ _)))
    have hb : Below w.heap.size w (w.alloc (.cells #[.int .i64 s.id, .int .i64 s.obv, .int .i64 s.rev, .int .i64 s.os, .int .i64 s.rs, .int .i64 s.ax, .int .i64 s.wt] 34)).drew := Below.drew (one_alloc _ _)
    refine wp_region_noPanic ?_
    refine wp_region_held_drew (S := fun U => (U.cell? ⟨w.heap.size, 0, none⟩ = some (.int .i64 s.id) ∧ U.cell? ⟨w.heap.size, 1, none⟩ = some (.int .i64 s.obv) ∧ U.cell? ⟨w.heap.size, 2, none⟩ = some (.int .i64 s.rev) ∧ U.cell? ⟨w.heap.size, 3, none⟩ = some (.int .i64 s.os) ∧ U.cell? ⟨w.heap.size, 4, none⟩ = some (.int .i64 s.rs))) (by kernel_rfl) B (fun hHeld => ?_)
    generalize (w.alloc (.cells #[.int .i64 s.id, .int .i64 s.obv, .int .i64 s.rev, .int .i64 s.os, .int .i64 s.rs, .int .i64 s.ax, .int .i64 s.wt] 34)).drew = W6 at *
    refine' takeW 0 ?_ ?_ ?_ (by kernel_rfl) (by kernel_rfl) (by kernel_rfl) (fun _ _ _ h => h) hHeld ?_
    rotate_left 2
    · (simp only [List.getElem?_toArray, List.getElem?_cons_succ, List.getElem?_cons_zero]; try rfl)
    · rfl
    · (intro w hSw; (try dsimp only at hSw); go_simp; first | done | with_reducible rfl)
    (try simp only [Act.put, List.setIfInBounds_toArray, List.set_cons_zero, List.set_cons_succ])
    refine' takeW 1 ?_ ?_ ?_ (by kernel_rfl) (by kernel_rfl) (by kernel_rfl) (fun _ _ _ h => h) hHeld ?_
    rotate_left 2
    · (simp only [List.getElem?_toArray, List.getElem?_cons_succ, List.getElem?_cons_zero]; try rfl)
    · rfl
    · (intro w hSw; (try dsimp only at hSw); go_simp; first | done | with_reducible rfl)
    (try simp only [Act.put, List.setIfInBounds_toArray, List.set_cons_zero, List.set_cons_succ])
    refine' takeW 2 ?_ ?_ ?_ (by kernel_rfl) (by kernel_rfl) (by kernel_rfl) (fun _ _ _ h => h) hHeld ?_
    rotate_left 2
    · (simp only [List.getElem?_toArray, List.getElem?_cons_succ, List.getElem?_cons_zero]; try rfl)
    · rfl
    · (intro w hSw; (try dsimp only at hSw); go_simp; first | done | with_reducible rfl)
    (try simp only [Act.put, List.setIfInBounds_toArray, List.set_cons_zero, List.set_cons_succ])
    refine' takeW 3 ?_ ?_ ?_ (by kernel_rfl) (by kernel_rfl) (by kernel_rfl) (fun _ _ _ h => h) hHeld ?_
    rotate_left 2
    · (simp only [List.getElem?_toArray, List.getElem?_cons_succ, List.getElem?_cons_zero]; try rfl)
    · rfl
    · (intro w hSw; (try dsimp only at hSw); go_simp; first | done | with_reducible rfl)
    (try simp only [Act.put, List.setIfInBounds_toArray, List.set_cons_zero, List.set_cons_succ])
    refine' takeW 4 ?_ ?_ ?_ (by kernel_rfl) (by kernel_rfl) (by kernel_rfl) (fun _ _ _ h => h) hHeld ?_
    rotate_left 2
    · (simp only [List.getElem?_toArray, List.getElem?_cons_succ, List.getElem?_cons_zero]; try rfl)
    · rfl
    · (intro w hSw; (try dsimp only at hSw); go_simp; first | done | with_reducible rfl)
    (try simp only [Act.put, List.setIfInBounds_toArray, List.set_cons_zero, List.set_cons_succ])
    refine' takeW 5 ?_ ?_ ?_ (by kernel_rfl) (by kernel_rfl) (by kernel_rfl) (fun _ _ _ h => h) hHeld ?_
    rotate_left 2
    · (simp only [List.getElem?_toArray, List.getElem?_cons_succ, List.getElem?_cons_zero]; try rfl)
    · rfl
    · (intro w hSw; (try dsimp only at hSw); go_simp; first | done | with_reducible rfl)
    (try simp only [Act.put, List.setIfInBounds_toArray, List.set_cons_zero, List.set_cons_succ])
    refine wpAnyH_done (by kernel_rfl) ?_ _
    refine NoPanic.normal ?_
    clear hHeld
    go_wp2_with fail
    go_ret2
    exact ⟨by rw [HS.out]; rfl, hb⟩
def stT (xs : List Spm) (side num : Int) (j : Nat) : List Int := ((xs.take j).filter (fun s => (sideW s side).1 == num)).map (fun s => (sideW s side).2)
theorem stT_succ {xs : List Spm} {side num : Int} {j : Nat} {x : Spm} (hx : xs[j]? = some x) : stT xs side num (j + 1) = stT xs side num j ++ (if ((sideW x side).1 == num) = true then [(sideW x side).2] else []) := by
  unfold stT
  rw [filterSnocW hx, List.map_append]
  split <;> rfl
theorem stT_all {xs : List Spm} {side num : Int} {j : Nat} (h : xs.length = j) : uniqI (stT xs side num j) = statesS xs ⟨side, num⟩ := by subst h; unfold stT statesS; rw [List.take_length]
theorem stT_len (xs : List Spm) (side num : Int) (j : Nat) : (stT xs side num j).length ≤ j := by
  unfold stT
  rw [List.length_map]
  refine Nat.le_trans (List.length_filter_le _ _) ?_
  rw [List.length_take]; omega
set_option maxRecDepth 100000 in
set_option maxHeartbeats 2000000 in
theorem wstates_any (A : Option Addr) (len cap : Nat) (xs : List Spm) (side num : Int) (w : World) (hlen : len ≤ 64) (hS : Sl w 0 w.heap.size 7 encS A len xs) :
    Calls Tryz.prog 91 #[.slice A len cap, .agg #[.int .i64 side, .int .i64 num]] w fun e w' => (∃ A' n' c', e = .returned (.slice A' n' c') ∧ n' ≤ 64 ∧ Sl w' 0 w'.heap.size 1 encI A' n' (statesS xs ⟨side, num⟩)) ∧ Below w.heap.size w w' := by
  have HS : Hid (∀ W, Below w.heap.size w W → Sl W 0 W.heap.size 7 encS A len xs) := fun W hW => hS.up hW (Nat.le_refl _) (Nat.le_refl _)
  have HL := Lib.hid hS.len
  have HW := Lib.hid (fun (s : Spm) (W : World) => wside_any s side W)
  clear hS
  obtain ⟨i0, hi, hz0, hz1, hz2⟩ := info_parts Tryz.infoI
  go_enter Tryz.func91, Tryz.ntmps91
  go_wp2_with fail
  have D3 := Bx.new w [.int .i64 side, .int .i64 num] 72
  have hb := one_alloc w (.cells #[.int .i64 side, .int .i64 num] 72)
  have D3' : Bx (w.alloc (.cells #[.int .i64 side, .int .i64 num] 72)) w.heap.size [.int .i64 side, .int .i64 num] := D3
  clear D3
  go_loopw [5, 12] (fun v i wr => ∃ j : Nat, j ≤ len ∧ i = .int .i64 (j : Int) ∧ wr.ownsRow (w.heap.size + 1) 3 1 v (stT xs side num j).length ((stT xs side num j).flatMap encI) ∧ Below w.heap.size w wr ∧ Bx wr w.heap.size [.int .i64 side, .int .i64 num]) (fun _ i _ => len - (intOf i).toNat)
  case atStart => exact ⟨0, by omega, rfl, World.ownsRow_nil _ _ _ _, hb, D3'⟩
  case round =>
    clear hb D3'
    obtain ⟨j, hj, rfl, hown, hbr, D3⟩ := hrel
    have hpl := stT_len xs side num j
    by_cases hlt : j < len
    · obtain ⟨b, off, x, rfl, hbb, hx, x0, x1, x2, x3, x4, x5, x6⟩ := (HS.out _ hbr).sp hlt
      have HST := Lib.hid (stT_succ (side := side) (num := num) hx)
      clear hx
      generalize stT xs side num j = ps at *
      have p0 := D3.cell 0 _ rfl
      have pl := D3.lt
      have HC := Lib.hid (HW.out x)
      generalize (sideW x side).2 = ey at *
      generalize (sideW x side).1 = ex at *
      go_wp2_with fail
      refine (HC.out _).mono ?_; rintro e w4 ⟨rfl, hb4⟩
      obtain ⟨hb5, hb6, X⟩ := step1 (vs := [.int .i64 x.id, .int .i64 x.obv, .int .i64 x.rev, .int .i64 x.os, .int .i64 x.rs, .int .i64 x.ax, .int .i64 x.wt]) hbr hb4
      replace D3 := D3.up hb5
      have own4 := own_below' hown hb5
      clear hb4 hb5 X hown p0 x0 x1 x2 x3 x4 x5 x6
      have p1 := D3.cell 1 _ rfl
      have pl4 := D3.lt
      by_cases he : ex = num
      · have hee : (ex == num) = true := by simpa using he
        have HQ : Hid (stT xs side num (j + 1) = ps ++ [ey]) := by show _ = _; rw [HST.out, hee]; rfl
        clear he
        go_wp2_with (at_builtin; refine wpList_append_own _ rfl _ _ 36 rfl (w.heap.size + 1) 3 i0 (.int .i64 0) 1 8 Tryz.underlying36 hi hz0 hz1 hz2 rfl (by decide) _ _ _ rfl (own4.alloc _) ⟨w4.heap.size, 0, none⟩ 1 1 [.int .i64 ey] rfl rfl ?c1 ?c2 ?c3 ?c4 ?c5 ?_)
        case c1 => exact cell_list_at (by simp) _ _
        case c2 => exact encI_one ey
        case c3 => unfold maxLen; omega
        case c4 => omega
        case c5 => simp; omega
        intro v' w5 hown' hgrow _
        have hb7 : Below w.heap.size w w5 := Below.grown (hb6.alloc hb6.size _) hgrow (by simp; omega) (fun g hg => by have := (own4.lt g hg).1; omega)
        have D6 := (D3.alloc (.cells #[.int .i64 ey] 3)).grown hgrow (fun e => by have := (own4.lt _ e).1; omega)
        clear hgrow own4 hbr D3 hb6
        go_wp2_with fail
        exact ⟨⟨j + 1, by omega, by go_num, by rw [HQ.out, List.length_append, List.flatMap_append]; exact hown', hb7, D6⟩, by simp [intOf]; omega⟩
      · have hee : (ex == num) = false := by simpa using he
        have HQ : Hid (stT xs side num (j + 1) = ps) := by show _ = _; rw [HST.out, hee]; exact List.append_nil _
        clear he
        go_wp2_with fail
        exact ⟨⟨j + 1, by omega, by go_num, by rw [HQ.out]; exact own4, hb6, D3⟩, by simp [intOf]; omega⟩
    · obtain rfl : j = len := by omega
      have HFI : Hid (uniqI (stT xs side num j) = statesS xs ⟨side, num⟩) := stT_all HL.out
      generalize stT xs side num j = ps at *
      clear D3
      go_wp2_with fail
      refine (psort_any (w.heap.size + 1) _ ps wr (by omega) hown).mono ?_; rintro e w3 ⟨rfl, hgr, hown3⟩
      have hb3 : Below w.heap.size w w3 := Below.grown hbr hgr hbr.size (fun g hg => by have := (hown.lt g hg).1; omega)
      have HS3 : Hid (compI (sortI ps) = uniqI ps) := uniq_sort ps
      have HS4 := Lib.hid (sortI_len ps)
      generalize sortI ps = ss at *
      rw [← HS4.out] at hown3 hpl
      obtain ⟨A0, c0, rfl, _⟩ := own_form hown3
      have HPC := Lib.hid (pcomp_any (w.heap.size + 1) A0 c0 ss w3 (by omega) hown3)
      have HLT : Hid (∀ g, (Value.slice A0 ss.length c0).ownBlock = some g → w.heap.size + 1 ≤ g) := fun g hg => (hown3.lt g hg).1
      clear hown hown3 hgr
      go_wp2_with fail
      refine HPC.out.mono ?_; rintro e w4 ⟨m4, rfl, hm4, hS4, hgr4⟩
      have hb4 : Below w.heap.size w w4 := Below.grown hb3 hgr4 hb3.size (fun g hg => by have := HLT.out g hg; omega)
      clear hgr4
      go_wp2_with fail
      go_ret
      exact ⟨⟨A0, m4, c0, rfl, by omega, by rw [← HFI.out, ← HS3.out]; exact hS4.any⟩, hb4⟩
set_option maxHeartbeats 2000000 in
theorem lstates_any (A : Option Addr) (len cap : Nat) (xs : List Spm) (side num : Int) (w : World) (hlen : len ≤ 64) (hS : Sl w 0 w.heap.size 7 encS A len xs) (hc : chk xs = 0) (hs : side = 0 ∨ side = 1) (h1 : 1 ≤ num) (h2 : num ≤ 999) :
    Calls Tryz.prog 49 #[.slice A len cap, .agg #[.int .i64 side, .int .i64 num]] w (NumsW w (statesS xs ⟨side, num⟩) 0) := by
  have HC : Hid (∀ W, Below w.heap.size w W → Calls Tryz.prog 90 #[.slice A len cap] W fun e w' => e = .returned (.int .i64 0) ∧ Below W.heap.size W w') := fun W hW => by
    have := scheck_any A len cap xs W (by omega) (hS.up hW (Nat.le_refl _) (Nat.le_refl _))
    rwa [hc] at this
  have HS : Hid (∀ W, Below w.heap.size w W → Calls Tryz.prog 91 #[.slice A len cap, .agg #[.int .i64 side, .int .i64 num]] W fun e w' => (∃ A' n' c', e = .returned (.slice A' n' c') ∧ n' ≤ 64 ∧ Sl w' 0 w'.heap.size 1 encI A' n' (statesS xs ⟨side, num⟩)) ∧ Below W.heap.size W w') := fun W hW => wstates_any A len cap xs side num W hlen (hS.up hW (Nat.le_refl _) (Nat.le_refl _))
  have hs1 : ((side != 0) = false) ∨ ((side != 0) = true ∧ (side != 1) = false) := by rcases hs with rfl | rfl <;> decide
  clear hS hs hc
  go_enter Tryz.func49, Tryz.ntmps49
  go_wp2_with fail
  refine (HC.out _ (one_alloc _ _)).mono ?_; rintro e w1 ⟨rfl, hb1⟩
  obtain ⟨_, hb, D⟩ := step1 (vs := [.int .i64 side, .int .i64 num]) (Below.refl _ w) hb1
  clear hb1
  have p0 := D.cell 0 _ rfl
  have p1 := D.cell 1 _ rfl
  have pl := D.lt
  rcases hs1 with e1 | ⟨e1, e2⟩
  all_goals
    go_wp2_with fail
    refine (HS.out _ hb).mono ?_; rintro e w2 ⟨⟨A2, n2, c2, rfl, hn2, hS2⟩, hb2⟩
    have hb3 := below_keep' hb hb2
    go_wp2_with fail
    go_ret2
    exact ⟨⟨A2, n2, c2, rfl, by omega, hS2⟩, hb3⟩
end Go.Proofs.YtdokpmfejibdlaaGreatDoor
