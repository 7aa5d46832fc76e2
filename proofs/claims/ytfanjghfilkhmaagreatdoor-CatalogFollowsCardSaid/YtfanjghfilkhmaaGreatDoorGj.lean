/- The keys, the greatest number, the number of a key: the program's (chapter 47). -/
import Derived.Test.YtfanjghfilkhmaaGreatDoorGi
set_option linter.unusedSimpArgs false
set_option linter.unusedVariables false
namespace Go.Proofs.YtfanjghfilkhmaaGreatDoor
open Go.RowKit

set_option maxRecDepth 100000 in
set_option maxHeartbeats 2000000 in
theorem keys_any (A : Option Addr) (n c : Nat) (A' : Option Addr) (n' c' : Nat) (e : Ed) (w : World) (hn : n ≤ 1000000) (hS : EdS w A n A' n' e) :
    Calls Tryz.prog 44 #[.agg #[.slice A n c, .slice A' n' c']] w fun r w' => (∃ A2 c2, r = .returned (.slice A2 n c2) ∧ Sl w' w.heap.size w'.heap.size 1 encI A2 n (keysE e)) ∧ Below w.heap.size w w' := by
  have HL := Lib.hid hS.ents.len
  have HU : Hid (∀ W, Below w.heap.size w W → EdS W A n A' n' e) := fun W hW => hS.up hW
  clear hS
  obtain ⟨i0, hi, hz0, hz1, hz2⟩ := info_parts Tryz.infoI
  go_enter Tryz.func44, Tryz.ntmps44
  go_wp2_with fail
  go_loopw [3, 9] (fun v s wr => ∃ k : Nat, k ≤ n ∧ s = .int .i64 (k : Int) ∧ wr.ownsRow w.heap.size 3 1 v k (((keysE e).take k).flatMap encI) ∧ Below w.heap.size w wr) (fun _ s _ => n - (intOf s).toNat)
  case atStart => exact ⟨0, by omega, rfl, World.ownsRow_nil _ _ _ _, by (repeat (first | exact Below.refl _ _ | assumption | refine Below.alloc ?_ (by first | omega | (simp only [World.size_alloc]; omega) | (simp; done) | (simp; omega)) _ | refine Below.setCell ?_ (by first | omega | (simp only [World.size_alloc]; omega) | (simp; done) | (simp; omega)) _ | refine Below.drew ?_ | refine below_drewN ?_ _))⟩
  case round =>
    obtain ⟨k, hk, rfl, hown, hb⟩ := hrel
    by_cases hlt : k < n
    · obtain ⟨b, off, x, hA, hbb, hx, c0, c1⟩ := (HU.out _ hb).ents.en hlt
      subst hA
      have HX := Lib.hid (map_at (f := Prod.fst) hx); clear hx
      have hz := hb.size
      have hbz := hbb
      go_wp2_with (at_builtin; refine wpList_append_own _ rfl _ _ 23 rfl w.heap.size 3 i0 (.int .i64 0) 1 8 Tryz.underlying23 hi hz0 hz1 hz2 rfl (by decide) _ _ _ rfl ((hown.alloc _).alloc _) ⟨wr.heap.size + 1, 0, none⟩ 1 1 [.int .i64 x.1] rfl rfl ?c1 ?c2 ?c3 ?c4 ?c5 ?_)
      case c1 => exact cell_list_at (by simp) _ _
      case c2 => simp [Value.oneCell']
      case c3 => unfold maxLen; omega
      case c4 => omega
      case c5 => simp; omega
      · intro v' w1 hown' hgrow _
        have hb1 : Below w.heap.size w w1 := Below.grown (Below.alloc (hb.alloc hb.size _) (by simp; omega) _) hgrow (by simp; omega) (fun g hg => (hown.lt g hg).1)
        clear hgrow hown
        go_wp2_with fail
        go_roundw
        case rel => exact ⟨k + 1, by omega, by go_num, by unfold keysE; rw [take_snocS HX.out, List.flatMap_append]; exact hown', hb1⟩
        case measure => simp [intOf]; omega
    · obtain rfl : k = n := by omega
      rw [List.take_of_length_le (by unfold keysE; rw [List.length_map]; have := HL.out; omega)] at hown
      obtain ⟨A2, c2, rfl, _⟩ := own_form hown
      have hSo := Sl.of_own (enc := encI) encI_len hown (by unfold keysE; rw [List.length_map]; exact HL.out)
      clear hown
      go_wp2_with fail
      go_ret
      exact ⟨⟨A2, c2, rfl, hSo⟩, hb⟩
set_option maxRecDepth 100000 in
set_option maxHeartbeats 2000000 in
theorem top_any (A : Option Addr) (n c : Nat) (A' : Option Addr) (n' c' : Nat) (e : Ed) (w : World) (hn : n ≤ 1000000) (hn' : n' ≤ 1000000) (hS : EdS w A n A' n' e) :
    Calls Tryz.prog 35 #[.agg #[.slice A n c, .slice A' n' c']] w fun r w' => r = .returned (.int .i64 (topE e)) ∧ Below w.heap.size w w' := by
  have HL := Lib.hid hS.ents.len
  have HL' := Lib.hid hS.ret.len
  have HU : Hid (∀ W, Below w.heap.size w W → EdS W A n A' n' e) := fun W hW => hS.up hW
  clear hS
  have hmx := @run_mxI Tryz.prog
  go_enter Tryz.func35, Tryz.ntmps35
  go_wp2_with fail
  go_loopw [3, 11] (fun v s wr => ∃ k : Nat, k ≤ n ∧ s = .int .i64 (k : Int) ∧ v = .int .i64 (maxL ((numsE e).take k)) ∧ Bx wr w.heap.size [.slice A n c, .slice A' n' c'] ∧ Below w.heap.size w wr) (fun _ s _ => n - (intOf s).toNat)
  case atStart => exact ⟨0, by omega, rfl, rfl, Bx.new _ _ _, by (repeat (first | exact Below.refl _ _ | assumption | refine Below.alloc ?_ (by first | omega | (simp only [World.size_alloc]; omega) | (simp; done) | (simp; omega)) _ | refine Below.setCell ?_ (by first | omega | (simp only [World.size_alloc]; omega) | (simp; done) | (simp; omega)) _ | refine Below.drew ?_ | refine below_drewN ?_ _))⟩
  case round =>
    obtain ⟨k, hk, rfl, rfl, Z, hb⟩ := hrel
    have Z0 := Z.cell 0 _ rfl; have Z1 := Z.cell 1 _ rfl; have Zlt := Z.lt
    by_cases hlt : k < n
    · obtain ⟨b, off, x, hA, hbb, hx, c0, c1⟩ := (HU.out _ hb).ents.en hlt
      subst hA
      have HX := Lib.hid (maxL_take0 (map_at (f := Prod.snd) hx)); clear hx
      go_wp2_with fail
      go_roundw
      case rel => exact ⟨k + 1, by omega, by go_num, by unfold numsE; rw [HX.out], Z.alloc _, hb.alloc hb.size _⟩
      case measure => simp [intOf]; omega
    · obtain rfl : k = n := by omega
      have HN : Hid ((numsE e).take k = numsE e) := List.take_of_length_le (by unfold numsE; rw [List.length_map]; have := HL.out; omega)
      rw [HN.out]
      go_wp2_with fail
      go_loopw [3, 23] (fun v s wr => ∃ j : Nat, j ≤ n' ∧ s = .int .i64 (j : Int) ∧ v = .int .i64 (maxL (numsE e ++ e.ret.take j)) ∧ Below w.heap.size w wr) (fun _ s _ => n' - (intOf s).toNat)
      case atStart => exact ⟨0, by omega, rfl, by simp, hb⟩
      case round =>
        clear hb Z Z0 Z1 Zlt
        obtain ⟨j, hj, rfl, rfl, hb⟩ := hrel
        by_cases hlt2 : j < n'
        · obtain ⟨b, off, x, hA, hbb, hx, c0⟩ := (HU.out _ hb).ret.in_ hlt2
          subst hA
          have HX := Lib.hid (maxL_take (l := numsE e) hx); clear hx
          go_wp2_with fail
          go_roundw
          case rel => exact ⟨j + 1, by omega, by go_num, by rw [HX.out], hb⟩
          case measure => simp [intOf]; omega
        · obtain rfl : j = n' := by omega
          have HN : Hid (e.ret.take j = e.ret) := List.take_of_length_le (by have := HL'.out; omega)
          rw [HN.out]
          have HT : Hid (topE e = maxL (numsE e ++ e.ret)) := topE_eq e
          go_wp2_with fail
          go_ret
          exact ⟨by rw [HT.out]; rfl, hb⟩
def findV (e : Ed) (key : Int) : Value := match findE e key with | some n => .tuple #[.int .i64 n, .bool true] | none => .tuple #[.int .i64 0, .bool false]
theorem findV_some {e : Ed} {key n : Int} (h : findE e key = some n) : findV e key = .tuple #[.int .i64 n, .bool true] := by unfold findV; rw [h]
theorem findV_none {e : Ed} {key : Int} (h : findE e key = none) : findV e key = .tuple #[.int .i64 0, .bool false] := by unfold findV; rw [h]
set_option maxRecDepth 100000 in
set_option maxHeartbeats 1000000 in
theorem find_any (A : Option Addr) (n c : Nat) (A' : Option Addr) (n' c' : Nat) (e : Ed) (key : Int) (w : World) (hn : n ≤ 1000000) (hS : EdS w A n A' n' e) :
    Calls Tryz.prog 36 #[.agg #[.slice A n c, .slice A' n' c'], .int .i64 key] w fun r w' => r = .returned (findV e key) ∧ Below w.heap.size w w' := by
  have HL := Lib.hid hS.ents.len
  have HS := Lib.hid hS.ents; clear hS
  go_enter Tryz.func36, Tryz.ntmps36
  go_wp2_with fail
  go_loopw [11] (fun s wr => ∃ k : Nat, k ≤ n ∧ s = .int .i64 (k : Int) ∧ (∀ y ∈ e.ents.take k, (y.1 == key) = false) ∧ Below w.heap.size w wr) (fun s _ => n - (intOf s).toNat)
  case atStart => exact ⟨0, by omega, rfl, by simp, by (repeat (first | exact Below.refl _ _ | assumption | refine Below.alloc ?_ (by first | omega | (simp only [World.size_alloc]; omega) | (simp; done) | (simp; omega)) _ | refine Below.setCell ?_ (by first | omega | (simp only [World.size_alloc]; omega) | (simp; done) | (simp; omega)) _ | refine Below.drew ?_ | refine below_drewN ?_ _))⟩
  case round =>
    obtain ⟨k, hk, rfl, hnn, hb⟩ := hrel
    have HN := Lib.hid hnn; clear hnn
    by_cases hlt : k < n
    · obtain ⟨b, off, x, rfl, hbb, hx, c0, c1⟩ := (HS.out.below hb (Nat.le_refl _)).en hlt
      have HX := Lib.hid hx; clear hx
      cases he : (x.1 == key)
      · have HE := Lib.hid he
        go_wp2_with fail
        go_roundw
        case rel => exact ⟨k + 1, by omega, by go_num, all_take HX.out HN.out HE.out, hb.alloc hb.size _⟩
        case measure => simp [intOf]; omega
      · have HV := Lib.hid (findV_some (find0_hit HX.out HN.out he))
        go_wp2_with fail
        go_ret2
        exact ⟨by rw [HV.out]; rfl, hb.alloc hb.size _⟩
    · obtain rfl : k = n := by omega
      have HV : Hid (findV e key = .tuple #[.int .i64 0, .bool false]) := by
        show _ = _
        have h := HN.out
        rw [List.take_of_length_le (by have := HL.out; omega)] at h
        exact findV_none (find0_miss h)
      go_wp2_with fail
      go_ret2
      exact ⟨by rw [HV.out]; rfl, hb⟩
end Go.Proofs.YtfanjghfilkhmaaGreatDoor
