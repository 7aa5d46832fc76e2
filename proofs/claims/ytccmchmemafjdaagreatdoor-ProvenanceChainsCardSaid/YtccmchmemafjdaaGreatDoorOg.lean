/- Chapter 46: valid listings, the reference's. -/
import Derived.Test.YtccmchmemafjdaaGreatDoorOf
import Derived.Deep.RegionWith
set_option linter.unusedSimpArgs false
set_option linter.unusedVariables false
namespace Go.Proofs.YtccmchmemafjdaaGreatDoor
open Go.RowKit

theorem keep4 {w0 w w1 : World} {b1 b2 o1 o2 o3 o4 : Nat} {a1 a2 a3 a4 : Value} (h1 : b1 < w0.heap.size) (h2 : b2 < w0.heap.size)
    (h : w.cell? ⟨b1, o1, none⟩ = some a1 ∧ w.cell? ⟨b2, o2, none⟩ = some a2 ∧ w.cell? ⟨b2, o3, none⟩ = some a3 ∧ w.cell? ⟨b2, o4, none⟩ = some a4 ∧ Below w0.heap.size w0 w) (hb : Below w.heap.size w w1) :
    w1.cell? ⟨b1, o1, none⟩ = some a1 ∧ w1.cell? ⟨b2, o2, none⟩ = some a2 ∧ w1.cell? ⟨b2, o3, none⟩ = some a3 ∧ w1.cell? ⟨b2, o4, none⟩ = some a4 ∧ Below w0.heap.size w0 w1 := by
  obtain ⟨k1, k2, k3, k4, k5⟩ := h
  have l1 : b1 < w.heap.size := Nat.lt_of_lt_of_le h1 k5.size
  have l2 : b2 < w.heap.size := Nat.lt_of_lt_of_le h2 k5.size
  exact ⟨(hb.cell (p := ⟨b1, o1, none⟩) l1).trans k1, (hb.cell (p := ⟨b2, o2, none⟩) l2).trans k2, (hb.cell (p := ⟨b2, o3, none⟩) l2).trans k3, (hb.cell (p := ⟨b2, o4, none⟩) l2).trans k4, below_keep' k5 hb⟩
theorem last5 {a1 a2 a3 a4 z : Prop} (h : a1 ∧ a2 ∧ a3 ∧ a4 ∧ z) : z := h.2.2.2.2
theorem last6 {a1 a2 a3 a4 a5 z : Prop} (h : a1 ∧ a2 ∧ a3 ∧ a4 ∧ a5 ∧ z) : z := h.2.2.2.2.2
set_option maxRecDepth 100000 in
set_option maxHeartbeats 2000000 in
theorem rvalid_any (id : Int) (A : Option Addr) (n c : Nat) (xs : List Sal) (w : World) (hn : n ≤ maxLen) (hS : SaS w A n xs) :
    Calls Tryz.prog 16 #[.agg #[.int .i64 id, .slice A n c]] w fun e w' => e = .returned (.bool (validB id xs)) ∧ Below w.heap.size w w' := by
  have hml : maxLen ≤ 9223372036854775807 := by unfold maxLen; omega
  have hnl : (n : Int) ≤ 9223372036854775807 := by omega
  have HL := Lib.hid (Sl.len hS)
  have HU : Hid (∀ W, Below w.heap.size w W → SaS W A n xs) := fun W hW => hS.up hW
  clear hS hn hml
  cases hi : inR id 1 9999
  · have HV := Lib.hid (validB_id (xs := xs) hi)
    go_enter Tryz.func16, Tryz.ntmps16
    go_wp2_with (go_at_call 46; refine (bid_any _ _).mono ?_; rintro e w' ⟨rfl, rfl⟩)
    go_ret
    exact ⟨by rw [HV.out]; rfl, by (repeat (first | exact Below.refl _ _ | assumption | refine Below.alloc ?_ (by first | omega | (simp only [World.size_alloc]; omega) | (simp; done) | (simp; omega)) _ | refine Below.setCell ?_ (by first | omega | (simp only [World.size_alloc]; omega) | (simp; done) | (simp; omega)) _ | refine Below.drew ?_ | refine below_drewN ?_ _))⟩
  by_cases h8 : 8 < n
  · have HV := Lib.hid (validB_len (id := id) (xs := xs) (by rw [HL.out]; exact h8))
    go_enter Tryz.func16, Tryz.ntmps16
    go_wp2_with (go_at_call 46; refine (bid_any _ _).mono ?_; rintro e w' ⟨rfl, rfl⟩)
    go_ret
    exact ⟨by rw [HV.out]; rfl, by (repeat (first | exact Below.refl _ _ | assumption | refine Below.alloc ?_ (by first | omega | (simp only [World.size_alloc]; omega) | (simp; done) | (simp; omega)) _ | refine Below.setCell ?_ (by first | omega | (simp only [World.size_alloc]; omega) | (simp; done) | (simp; omega)) _ | refine Below.drew ?_ | refine below_drewN ?_ _))⟩
  have HI := Lib.hid hi
  go_enter Tryz.func16, Tryz.ntmps16
  go_wp2_with (go_at_call 46; refine (bid_any _ _).mono ?_; rintro e w' ⟨rfl, rfl⟩)
  clear hi hnl
  go_loopw [3] (fun s wr => ∃ k : Nat, k ≤ n ∧ s = .int .i64 (k : Int) ∧ (∀ x ∈ xs.take k, okSal x) ∧ (xs.take k).Pairwise ltSal ∧ Bx wr w.heap.size [.int .i64 id, .slice A n c] ∧ Below w.heap.size w wr) (fun s _ => n - (intOf s).toNat)
  case atStart => exact ⟨0, by omega, rfl, by simp, by simp, Bx.new _ _ _, one_alloc _ _⟩
  case round =>
    obtain ⟨k, hk, rfl, hok, hasc, Z, hb⟩ := hrel
    have HO := Lib.hid hok; clear hok
    have HA := Lib.hid hasc; clear hasc
    by_cases hlt : k < n
    · obtain ⟨b, off, x, rfl, hbb, hx, c0, c1, c2⟩ := Sl.sa (HU.out _ hb) hlt
      have HX := Lib.hid hx; clear hx
      have Z0 := Z.cell 0 _ rfl; have Z1 := Z.cell 1 _ rfl; have Zlt := Z.lt
      have HR := Lib.hid (fun V => rright_any x V)
      cases h1 : decide (okSal x)
      · have HV : Hid (validB id xs = false) := validB_sale HX.out h1
        rw [h1] at HR
        clear h1
        go_wp2_with fail
        refine wp_region_noPanic ?_
        refine wp_region_held_drew (S := fun U => U.cell? ⟨w.heap.size, 1, none⟩ = some (.slice (some ⟨b, off, none⟩) n c) ∧ U.cell? ⟨b, off + k * 3, none⟩ = some (.int .i64 x.y) ∧ U.cell? ⟨b, off + k * 3 + 1, none⟩ = some (.int .i64 x.h) ∧ U.cell? ⟨b, off + k * 3 + 2, none⟩ = some (.int .i64 x.l) ∧ Below wr.heap.size wr U) (by kernel_rfl) ⟨Z1, c0, c1, c2, Below.drew (Below.refl _ _)⟩ (fun hHeld => ?_)
        refine' takeW 0 ?_ ?_ ?_ (by kernel_rfl) (by kernel_rfl) (by kernel_rfl) (fun _ _ _ h => h) hHeld ?_
        rotate_left 2
        · (simp only [List.getElem?_toArray, List.getElem?_cons_succ, List.getElem?_cons_zero]; rfl)
        · rfl
        · (intro w hSw; (try dsimp only at hSw); go_simp; first | done | with_reducible rfl)
        (try simp only [Act.put, List.setIfInBounds_toArray, List.set_cons_zero, List.set_cons_succ])
        refine' takeW 1 ?_ ?_ ?_ (by kernel_rfl) (by kernel_rfl) (by kernel_rfl) (fun _ _ _ h => h) hHeld ?_
        rotate_left 2
        · (simp only [List.getElem?_toArray, List.getElem?_cons_succ, List.getElem?_cons_zero]; rfl)
        · rfl
        · (intro w hSw; (try dsimp only at hSw); go_simp; first | done | with_reducible rfl)
        (try simp only [Act.put, List.setIfInBounds_toArray, List.set_cons_zero, List.set_cons_succ])
        refine' takeW 2 ?_ ?_ ?_ (by kernel_rfl) (by kernel_rfl) (by kernel_rfl) (fun _ _ _ h => h) hHeld ?_
        rotate_left 2
        · (simp only [List.getElem?_toArray, List.getElem?_cons_succ, List.getElem?_cons_zero]; rfl)
        · rfl
        · (intro w hSw; (try dsimp only at hSw); go_simp; first | done | with_reducible rfl)
        (try simp only [Act.put, List.setIfInBounds_toArray, List.set_cons_zero, List.set_cons_succ])
        refine' takeW 3 ?_ ?_ ?_ (by kernel_rfl) (by kernel_rfl) (by kernel_rfl) (fun _ _ _ h => h) hHeld ?_
        rotate_left 2
        · (simp only [List.getElem?_toArray, List.getElem?_cons_succ, List.getElem?_cons_zero]; rfl)
        · rfl
        · (intro w hSw; (try dsimp only at hSw); go_simp; first | done | with_reducible rfl)
        (try simp only [Act.put, List.setIfInBounds_toArray, List.set_cons_zero, List.set_cons_succ])
        refine' takeW 4 ?_ ?_ ?_ (by kernel_rfl) (by kernel_rfl) (by kernel_rfl) (fun _ _ _ h => h) hHeld ?_
        rotate_left 2
        · (simp only [List.getElem?_toArray, List.getElem?_cons_succ, List.getElem?_cons_zero]; rfl)
        · rfl
        · (intro w hSw; (try dsimp only at hSw); go_simp; first | done | with_reducible rfl)
        (try simp only [Act.put, List.setIfInBounds_toArray, List.set_cons_zero, List.set_cons_succ])
        refine wpAnyH_ready (rs := [5]) (by kernel_rfl) (by simp) ?_
        refine' AllReadyH.cons ?_ (fun K hK => ?_) AllReadyH.nil
        rotate_left 1
        · (simp only [List.getElem?_toArray, List.getElem?_cons_succ, List.getElem?_cons_zero]; rfl)
        (try go_simp)
        go_fit (HR.out _)
        rintro e w2 ⟨rfl, hb2⟩
        (try go_simp)
        refine hK.out _ _ ?_ (fun hHeld => ?_)
        · exact keep4 Zlt hbb hHeld hb2
        clear hK K
        (try simp only [Act.put, List.setIfInBounds_toArray, List.set_cons_zero, List.set_cons_succ])
        refine' takeW 6 ?_ ?_ ?_ (by kernel_rfl) (by kernel_rfl) (by kernel_rfl) (fun _ _ _ h => h) hHeld ?_
        rotate_left 2
        · (simp only [List.getElem?_toArray, List.getElem?_cons_succ, List.getElem?_cons_zero]; rfl)
        · rfl
        · (intro w hSw; (try dsimp only at hSw); go_simp; first | done | with_reducible rfl)
        (try simp only [Act.put, List.setIfInBounds_toArray, List.set_cons_zero, List.set_cons_succ])
        refine' takeW 7 ?_ ?_ ?_ (by kernel_rfl) (by kernel_rfl) (by kernel_rfl) (fun _ _ _ h => h) hHeld ?_
        rotate_left 2
        · (simp only [List.getElem?_toArray, List.getElem?_cons_succ, List.getElem?_cons_zero]; rfl)
        · rfl
        · (intro w hSw; (try dsimp only at hSw); go_simp; first | done | with_reducible rfl)
        (try simp only [Act.put, List.setIfInBounds_toArray, List.set_cons_zero, List.set_cons_succ])
        refine' takeN 8 ?_ ?_ (by kernel_rfl) (by kernel_rfl) (by kernel_rfl) (fun _ _ _ h => h) hHeld ?_
        rotate_left 1
        · (simp only [List.getElem?_toArray, List.getElem?_cons_succ, List.getElem?_cons_zero]; rfl)
        · rfl
        (try simp only [Act.put, List.setIfInBounds_toArray, List.set_cons_zero, List.set_cons_succ])
        refine' takeN 9 ?_ ?_ (by kernel_rfl) (by kernel_rfl) (by kernel_rfl) (fun _ _ _ h => h) hHeld ?_
        rotate_left 1
        · (simp only [List.getElem?_toArray, List.getElem?_cons_succ, List.getElem?_cons_zero]; rfl)
        · rfl
        (try simp only [Act.put, List.setIfInBounds_toArray, List.set_cons_zero, List.set_cons_succ])
        refine' takeN 10 ?_ ?_ (by kernel_rfl) (by kernel_rfl) (by kernel_rfl) (fun _ _ _ h => h) hHeld ?_
        rotate_left 1
        · (simp only [List.getElem?_toArray, List.getElem?_cons_succ, List.getElem?_cons_zero]; rfl)
        · rfl
        (try simp only [Act.put, List.setIfInBounds_toArray, List.set_cons_zero, List.set_cons_succ])
        refine' takeN 11 ?_ ?_ (by kernel_rfl) (by kernel_rfl) (by kernel_rfl) (fun _ _ _ h => h) hHeld ?_
        rotate_left 1
        · (simp only [List.getElem?_toArray, List.getElem?_cons_succ, List.getElem?_cons_zero]; rfl)
        · rfl
        (try simp only [Act.put, List.setIfInBounds_toArray, List.set_cons_zero, List.set_cons_succ])
        refine' takeN 12 ?_ ?_ (by kernel_rfl) (by kernel_rfl) (by kernel_rfl) (fun _ _ _ h => h) hHeld ?_
        rotate_left 1
        · (simp only [List.getElem?_toArray, List.getElem?_cons_succ, List.getElem?_cons_zero]; rfl)
        · rfl
        (try simp only [Act.put, List.setIfInBounds_toArray, List.set_cons_zero, List.set_cons_succ])
        refine' takeN 13 ?_ ?_ (by kernel_rfl) (by kernel_rfl) (by kernel_rfl) (fun _ _ _ h => h) hHeld ?_
        rotate_left 1
        · (simp only [List.getElem?_toArray, List.getElem?_cons_succ, List.getElem?_cons_zero]; rfl)
        · rfl
        (try simp only [Act.put, List.setIfInBounds_toArray, List.set_cons_zero, List.set_cons_succ])
        refine' takeN 14 ?_ ?_ (by kernel_rfl) (by kernel_rfl) (by kernel_rfl) (fun _ _ _ h => h) hHeld ?_
        rotate_left 1
        · (simp only [List.getElem?_toArray, List.getElem?_cons_succ, List.getElem?_cons_zero]; rfl)
        · rfl
        (try simp only [Act.put, List.setIfInBounds_toArray, List.set_cons_zero, List.set_cons_succ])
        refine' takeN 15 ?_ ?_ (by kernel_rfl) (by kernel_rfl) (by kernel_rfl) (fun _ _ _ h => h) hHeld ?_
        rotate_left 1
        · (simp only [List.getElem?_toArray, List.getElem?_cons_succ, List.getElem?_cons_zero]; rfl)
        · rfl
        (try simp only [Act.put, List.setIfInBounds_toArray, List.set_cons_zero, List.set_cons_succ])
        refine' takeN 16 ?_ ?_ (by kernel_rfl) (by kernel_rfl) (by kernel_rfl) (fun _ _ _ h => h) hHeld ?_
        rotate_left 1
        · (simp only [List.getElem?_toArray, List.getElem?_cons_succ, List.getElem?_cons_zero]; rfl)
        · rfl
        (try simp only [Act.put, List.setIfInBounds_toArray, List.set_cons_zero, List.set_cons_succ])
        refine' takeN 17 ?_ ?_ (by kernel_rfl) (by kernel_rfl) (by kernel_rfl) (fun _ _ _ h => h) hHeld ?_
        rotate_left 1
        · (simp only [List.getElem?_toArray, List.getElem?_cons_succ, List.getElem?_cons_zero]; rfl)
        · rfl
        (try simp only [Act.put, List.setIfInBounds_toArray, List.set_cons_zero, List.set_cons_succ])
        refine' takeN 18 ?_ ?_ (by kernel_rfl) (by kernel_rfl) (by kernel_rfl) (fun _ _ _ h => h) hHeld ?_
        rotate_left 1
        · (simp only [List.getElem?_toArray, List.getElem?_cons_succ, List.getElem?_cons_zero]; rfl)
        · rfl
        (try simp only [Act.put, List.setIfInBounds_toArray, List.set_cons_zero, List.set_cons_succ])
        refine' takeN 19 ?_ ?_ (by kernel_rfl) (by kernel_rfl) (by kernel_rfl) (fun _ _ _ h => h) hHeld ?_
        rotate_left 1
        · (simp only [List.getElem?_toArray, List.getElem?_cons_succ, List.getElem?_cons_zero]; rfl)
        · rfl
        (try simp only [Act.put, List.setIfInBounds_toArray, List.set_cons_zero, List.set_cons_succ])
        refine' takeN 20 ?_ ?_ (by kernel_rfl) (by kernel_rfl) (by kernel_rfl) (fun _ _ _ h => h) hHeld ?_
        rotate_left 1
        · (simp only [List.getElem?_toArray, List.getElem?_cons_succ, List.getElem?_cons_zero]; rfl)
        · rfl
        (try simp only [Act.put, List.setIfInBounds_toArray, List.set_cons_zero, List.set_cons_succ])
        refine' takeN 21 ?_ ?_ (by kernel_rfl) (by kernel_rfl) (by kernel_rfl) (fun _ _ _ h => h) hHeld ?_
        rotate_left 1
        · (simp only [List.getElem?_toArray, List.getElem?_cons_succ, List.getElem?_cons_zero]; rfl)
        · rfl
        (try simp only [Act.put, List.setIfInBounds_toArray, List.set_cons_zero, List.set_cons_succ])
        refine' takeN 22 ?_ ?_ (by kernel_rfl) (by kernel_rfl) (by kernel_rfl) (fun _ _ _ h => h) hHeld ?_
        rotate_left 1
        · (simp only [List.getElem?_toArray, List.getElem?_cons_succ, List.getElem?_cons_zero]; rfl)
        · rfl
        (try simp only [Act.put, List.setIfInBounds_toArray, List.set_cons_zero, List.set_cons_succ])
        refine' takeN 23 ?_ ?_ (by kernel_rfl) (by kernel_rfl) (by kernel_rfl) (fun _ _ _ h => h) hHeld ?_
        rotate_left 1
        · (simp only [List.getElem?_toArray, List.getElem?_cons_succ, List.getElem?_cons_zero]; rfl)
        · rfl
        (try simp only [Act.put, List.setIfInBounds_toArray, List.set_cons_zero, List.set_cons_succ])
        refine' takeN 24 ?_ ?_ (by kernel_rfl) (by kernel_rfl) (by kernel_rfl) (fun _ _ _ h => h) hHeld ?_
        rotate_left 1
        · (simp only [List.getElem?_toArray, List.getElem?_cons_succ, List.getElem?_cons_zero]; rfl)
        · rfl
        (try simp only [Act.put, List.setIfInBounds_toArray, List.set_cons_zero, List.set_cons_succ])
        refine' takeW 25 ?_ ?_ ?_ (by kernel_rfl) (by kernel_rfl) (by kernel_rfl) (fun _ _ _ h => h) hHeld ?_
        rotate_left 2
        · (simp only [List.getElem?_toArray, List.getElem?_cons_succ, List.getElem?_cons_zero]; rfl)
        · rfl
        · (intro w hSw; (try dsimp only at hSw); go_simp; first | done | with_reducible rfl)
        (try simp only [Act.put, List.setIfInBounds_toArray, List.set_cons_zero, List.set_cons_succ])
        refine wpAnyH_done (by kernel_rfl) ?_ _
        refine NoPanic.normal ?_
        go_wp2_with fail
        go_ret
        exact ⟨by rw [HV.out]; rfl, below_keep' hb (last5 hHeld)⟩
      · have HOK : Hid (okSal x) := by
          show okSal x
          exact of_decide_eq_true h1
        rw [h1] at HR
        clear h1
        rcases Nat.eq_zero_or_pos k with rfl | hk0
        · simp only [Int.ofNat_zero, Int.natCast_zero]
          simp only [Nat.zero_mul, Nat.add_zero] at c0 c1 c2
          go_wp2_with fail
          refine wp_region_noPanic ?_
          refine wp_region_held_drew (S := fun U => U.cell? ⟨w.heap.size, 1, none⟩ = some (.slice (some ⟨b, off, none⟩) n c) ∧ U.cell? ⟨b, off, none⟩ = some (.int .i64 x.y) ∧ U.cell? ⟨b, off + 1, none⟩ = some (.int .i64 x.h) ∧ U.cell? ⟨b, off + 2, none⟩ = some (.int .i64 x.l) ∧ Below wr.heap.size wr U) (by kernel_rfl) ⟨Z1, c0, c1, c2, Below.drew (Below.refl _ _)⟩ (fun hHeld => ?_)
          refine' takeW 0 ?_ ?_ ?_ (by kernel_rfl) (by kernel_rfl) (by kernel_rfl) (fun _ _ _ h => h) hHeld ?_
          rotate_left 2
          · (simp only [List.getElem?_toArray, List.getElem?_cons_succ, List.getElem?_cons_zero]; rfl)
          · rfl
          · (intro w hSw; (try dsimp only at hSw); go_simp; first | done | with_reducible rfl)
          (try simp only [Act.put, List.setIfInBounds_toArray, List.set_cons_zero, List.set_cons_succ])
          refine' takeW 1 ?_ ?_ ?_ (by kernel_rfl) (by kernel_rfl) (by kernel_rfl) (fun _ _ _ h => h) hHeld ?_
          rotate_left 2
          · (simp only [List.getElem?_toArray, List.getElem?_cons_succ, List.getElem?_cons_zero]; rfl)
          · rfl
          · (intro w hSw; (try dsimp only at hSw); go_simp; first | done | with_reducible rfl)
          (try simp only [Act.put, List.setIfInBounds_toArray, List.set_cons_zero, List.set_cons_succ])
          refine' takeW 2 ?_ ?_ ?_ (by kernel_rfl) (by kernel_rfl) (by kernel_rfl) (fun _ _ _ h => h) hHeld ?_
          rotate_left 2
          · (simp only [List.getElem?_toArray, List.getElem?_cons_succ, List.getElem?_cons_zero]; rfl)
          · rfl
          · (intro w hSw; (try dsimp only at hSw); go_simp; first | done | with_reducible rfl)
          (try simp only [Act.put, List.setIfInBounds_toArray, List.set_cons_zero, List.set_cons_succ])
          refine' takeW 3 ?_ ?_ ?_ (by kernel_rfl) (by kernel_rfl) (by kernel_rfl) (fun _ _ _ h => h) hHeld ?_
          rotate_left 2
          · (simp only [List.getElem?_toArray, List.getElem?_cons_succ, List.getElem?_cons_zero]; rfl)
          · rfl
          · (intro w hSw; (try dsimp only at hSw); go_simp; first | done | with_reducible rfl)
          (try simp only [Act.put, List.setIfInBounds_toArray, List.set_cons_zero, List.set_cons_succ])
          refine' takeW 4 ?_ ?_ ?_ (by kernel_rfl) (by kernel_rfl) (by kernel_rfl) (fun _ _ _ h => h) hHeld ?_
          rotate_left 2
          · (simp only [List.getElem?_toArray, List.getElem?_cons_succ, List.getElem?_cons_zero]; rfl)
          · rfl
          · (intro w hSw; (try dsimp only at hSw); go_simp; first | done | with_reducible rfl)
          (try simp only [Act.put, List.setIfInBounds_toArray, List.set_cons_zero, List.set_cons_succ])
          refine wpAnyH_ready (rs := [5]) (by kernel_rfl) (by simp) ?_
          refine' AllReadyH.cons ?_ (fun K hK => ?_) AllReadyH.nil
          rotate_left 1
          · (simp only [List.getElem?_toArray, List.getElem?_cons_succ, List.getElem?_cons_zero]; rfl)
          (try go_simp)
          go_fit (HR.out _)
          rintro e w2 ⟨rfl, hb2⟩
          (try go_simp)
          refine hK.out _ _ ?_ (fun hHeld => ?_)
          · exact keep4 Zlt hbb hHeld hb2
          clear hK K
          (try simp only [Act.put, List.setIfInBounds_toArray, List.set_cons_zero, List.set_cons_succ])
          refine' takeW 6 ?_ ?_ ?_ (by kernel_rfl) (by kernel_rfl) (by kernel_rfl) (fun _ _ _ h => h) hHeld ?_
          rotate_left 2
          · (simp only [List.getElem?_toArray, List.getElem?_cons_succ, List.getElem?_cons_zero]; rfl)
          · rfl
          · (intro w hSw; (try dsimp only at hSw); go_simp; first | done | with_reducible rfl)
          (try simp only [Act.put, List.setIfInBounds_toArray, List.set_cons_zero, List.set_cons_succ])
          refine' takeW 7 ?_ ?_ ?_ (by kernel_rfl) (by kernel_rfl) (by kernel_rfl) (fun _ _ _ h => h) hHeld ?_
          rotate_left 2
          · (simp only [List.getElem?_toArray, List.getElem?_cons_succ, List.getElem?_cons_zero]; rfl)
          · rfl
          · (intro w hSw; (try dsimp only at hSw); go_simp; first | done | with_reducible rfl)
          (try simp only [Act.put, List.setIfInBounds_toArray, List.set_cons_zero, List.set_cons_succ])
          refine' takeW 8 ?_ ?_ ?_ (by kernel_rfl) (by kernel_rfl) (by kernel_rfl) (fun _ _ _ h => h) hHeld ?_
          rotate_left 2
          · (simp only [List.getElem?_toArray, List.getElem?_cons_succ, List.getElem?_cons_zero]; rfl)
          · rfl
          · (intro w hSw; (try dsimp only at hSw); go_simp; first | done | with_reducible rfl)
          (try simp only [Act.put, List.setIfInBounds_toArray, List.set_cons_zero, List.set_cons_succ])
          refine' takeW 9 ?_ ?_ ?_ (by kernel_rfl) (by kernel_rfl) (by kernel_rfl) (fun _ _ _ h => h) hHeld ?_
          rotate_left 2
          · (simp only [List.getElem?_toArray, List.getElem?_cons_succ, List.getElem?_cons_zero]; rfl)
          · rfl
          · (intro w hSw; (try dsimp only at hSw); go_simp; first | done | with_reducible rfl)
          (try simp only [Act.put, List.setIfInBounds_toArray, List.set_cons_zero, List.set_cons_succ])
          refine' takeW 10 ?_ ?_ ?_ (by kernel_rfl) (by kernel_rfl) (by kernel_rfl) (fun _ _ _ h => h) hHeld ?_
          rotate_left 2
          · (simp only [List.getElem?_toArray, List.getElem?_cons_succ, List.getElem?_cons_zero]; rfl)
          · rfl
          · (intro w hSw; (try dsimp only at hSw); go_simp; first | done | with_reducible rfl)
          (try simp only [Act.put, List.setIfInBounds_toArray, List.set_cons_zero, List.set_cons_succ])
          refine' takeN 11 ?_ ?_ (by kernel_rfl) (by kernel_rfl) (by kernel_rfl) (fun _ _ _ h => h) hHeld ?_
          rotate_left 1
          · (simp only [List.getElem?_toArray, List.getElem?_cons_succ, List.getElem?_cons_zero]; rfl)
          · rfl
          (try simp only [Act.put, List.setIfInBounds_toArray, List.set_cons_zero, List.set_cons_succ])
          refine' takeN 12 ?_ ?_ (by kernel_rfl) (by kernel_rfl) (by kernel_rfl) (fun _ _ _ h => h) hHeld ?_
          rotate_left 1
          · (simp only [List.getElem?_toArray, List.getElem?_cons_succ, List.getElem?_cons_zero]; rfl)
          · rfl
          (try simp only [Act.put, List.setIfInBounds_toArray, List.set_cons_zero, List.set_cons_succ])
          refine' takeN 13 ?_ ?_ (by kernel_rfl) (by kernel_rfl) (by kernel_rfl) (fun _ _ _ h => h) hHeld ?_
          rotate_left 1
          · (simp only [List.getElem?_toArray, List.getElem?_cons_succ, List.getElem?_cons_zero]; rfl)
          · rfl
          (try simp only [Act.put, List.setIfInBounds_toArray, List.set_cons_zero, List.set_cons_succ])
          refine' takeN 14 ?_ ?_ (by kernel_rfl) (by kernel_rfl) (by kernel_rfl) (fun _ _ _ h => h) hHeld ?_
          rotate_left 1
          · (simp only [List.getElem?_toArray, List.getElem?_cons_succ, List.getElem?_cons_zero]; rfl)
          · rfl
          (try simp only [Act.put, List.setIfInBounds_toArray, List.set_cons_zero, List.set_cons_succ])
          refine' takeN 15 ?_ ?_ (by kernel_rfl) (by kernel_rfl) (by kernel_rfl) (fun _ _ _ h => h) hHeld ?_
          rotate_left 1
          · (simp only [List.getElem?_toArray, List.getElem?_cons_succ, List.getElem?_cons_zero]; rfl)
          · rfl
          (try simp only [Act.put, List.setIfInBounds_toArray, List.set_cons_zero, List.set_cons_succ])
          refine' takeN 16 ?_ ?_ (by kernel_rfl) (by kernel_rfl) (by kernel_rfl) (fun _ _ _ h => h) hHeld ?_
          rotate_left 1
          · (simp only [List.getElem?_toArray, List.getElem?_cons_succ, List.getElem?_cons_zero]; rfl)
          · rfl
          (try simp only [Act.put, List.setIfInBounds_toArray, List.set_cons_zero, List.set_cons_succ])
          refine' takeN 17 ?_ ?_ (by kernel_rfl) (by kernel_rfl) (by kernel_rfl) (fun _ _ _ h => h) hHeld ?_
          rotate_left 1
          · (simp only [List.getElem?_toArray, List.getElem?_cons_succ, List.getElem?_cons_zero]; rfl)
          · rfl
          (try simp only [Act.put, List.setIfInBounds_toArray, List.set_cons_zero, List.set_cons_succ])
          refine' takeN 18 ?_ ?_ (by kernel_rfl) (by kernel_rfl) (by kernel_rfl) (fun _ _ _ h => h) hHeld ?_
          rotate_left 1
          · (simp only [List.getElem?_toArray, List.getElem?_cons_succ, List.getElem?_cons_zero]; rfl)
          · rfl
          (try simp only [Act.put, List.setIfInBounds_toArray, List.set_cons_zero, List.set_cons_succ])
          refine' takeN 19 ?_ ?_ (by kernel_rfl) (by kernel_rfl) (by kernel_rfl) (fun _ _ _ h => h) hHeld ?_
          rotate_left 1
          · (simp only [List.getElem?_toArray, List.getElem?_cons_succ, List.getElem?_cons_zero]; rfl)
          · rfl
          (try simp only [Act.put, List.setIfInBounds_toArray, List.set_cons_zero, List.set_cons_succ])
          refine' takeN 20 ?_ ?_ (by kernel_rfl) (by kernel_rfl) (by kernel_rfl) (fun _ _ _ h => h) hHeld ?_
          rotate_left 1
          · (simp only [List.getElem?_toArray, List.getElem?_cons_succ, List.getElem?_cons_zero]; rfl)
          · rfl
          (try simp only [Act.put, List.setIfInBounds_toArray, List.set_cons_zero, List.set_cons_succ])
          refine' takeN 21 ?_ ?_ (by kernel_rfl) (by kernel_rfl) (by kernel_rfl) (fun _ _ _ h => h) hHeld ?_
          rotate_left 1
          · (simp only [List.getElem?_toArray, List.getElem?_cons_succ, List.getElem?_cons_zero]; rfl)
          · rfl
          (try simp only [Act.put, List.setIfInBounds_toArray, List.set_cons_zero, List.set_cons_succ])
          refine' takeN 22 ?_ ?_ (by kernel_rfl) (by kernel_rfl) (by kernel_rfl) (fun _ _ _ h => h) hHeld ?_
          rotate_left 1
          · (simp only [List.getElem?_toArray, List.getElem?_cons_succ, List.getElem?_cons_zero]; rfl)
          · rfl
          (try simp only [Act.put, List.setIfInBounds_toArray, List.set_cons_zero, List.set_cons_succ])
          refine' takeN 23 ?_ ?_ (by kernel_rfl) (by kernel_rfl) (by kernel_rfl) (fun _ _ _ h => h) hHeld ?_
          rotate_left 1
          · (simp only [List.getElem?_toArray, List.getElem?_cons_succ, List.getElem?_cons_zero]; rfl)
          · rfl
          (try simp only [Act.put, List.setIfInBounds_toArray, List.set_cons_zero, List.set_cons_succ])
          refine' takeW 24 ?_ ?_ ?_ (by kernel_rfl) (by kernel_rfl) (by kernel_rfl) (fun _ _ _ h => h) hHeld ?_
          rotate_left 2
          · (simp only [List.getElem?_toArray, List.getElem?_cons_succ, List.getElem?_cons_zero]; rfl)
          · rfl
          · (intro w hSw; (try dsimp only at hSw); go_simp; first | done | with_reducible rfl)
          (try simp only [Act.put, List.setIfInBounds_toArray, List.set_cons_zero, List.set_cons_succ])
          refine' takeW 25 ?_ ?_ ?_ (by kernel_rfl) (by kernel_rfl) (by kernel_rfl) (fun _ _ _ h => h) hHeld ?_
          rotate_left 2
          · (simp only [List.getElem?_toArray, List.getElem?_cons_succ, List.getElem?_cons_zero]; rfl)
          · rfl
          · (intro w hSw; (try dsimp only at hSw); go_simp; first | done | with_reducible rfl)
          (try simp only [Act.put, List.setIfInBounds_toArray, List.set_cons_zero, List.set_cons_succ])
          refine wpAnyH_done (by kernel_rfl) ?_ _
          refine NoPanic.normal ?_
          have hb3 := last5 hHeld
          go_wp2_with fail
          go_roundw
          case rel => exact ⟨1, by omega, by go_num, all_take (p := okSal) (k := 0) HX.out HO.out HOK.out, by rw [take_snocS (k := 0) HX.out]; simp, Z.up hb3, below_keep' hb hb3⟩
          case measure => simp [intOf]; omega
        · obtain ⟨m, rfl⟩ : ∃ m, k = m + 1 := ⟨k - 1, by omega⟩
          obtain ⟨b', off', y, hA', hbb', hy, d0, d1, d2⟩ := Sl.sa (HU.out _ hb) (show m < n by omega)
          simp only [Option.some.injEq, Addr.mk.injEq, and_true] at hA'
          obtain ⟨rfl, rfl⟩ := hA'
          have HY := Lib.hid hy; clear hy
          have hm8 : (m : Int) ≤ 8 := by omega
          have hm0 : (0 : Int) ≤ (m : Int) := by omega
          have hmn : (m : Int) < (n : Int) := by omega
          have hmw : IntKind.i64.wrap (m : Int) = (m : Int) := IntWalk.i64_in _ (by omega)
          have hm1 : (0 : Int) < (m : Int) + 1 := by omega
          have hm2 : (0 : Int) ≤ (m : Int) + 1 := by omega
          have hm3 : (m : Int) + 1 < (n : Int) := by omega
          have HCO := Lib.hid (fun V => rbefore_any y x V)
          cases hl : decide (ltSal y x)
          · have HV : Hid (validB id xs = false) := validB_asc HY.out HX.out hl
            rw [hl] at HCO
            clear hl
            go_wp2_with fail
            go_region_held3 (fun U => U.cell? ⟨w.heap.size, 1, none⟩ = some (.slice (some ⟨b, off, none⟩) n c) ∧ U.cell? ⟨b, off + m * 3, none⟩ = some (.int .i64 y.y) ∧ U.cell? ⟨b, off + m * 3 + 1, none⟩ = some (.int .i64 y.h) ∧ U.cell? ⟨b, off + m * 3 + 2, none⟩ = some (.int .i64 y.l) ∧ U.cell? ⟨b, off + (m + 1) * 3, none⟩ = some (.int .i64 x.y) ∧ U.cell? ⟨b, off + (m + 1) * 3 + 1, none⟩ = some (.int .i64 x.h) ∧ U.cell? ⟨b, off + (m + 1) * 3 + 2, none⟩ = some (.int .i64 x.l) ∧ Below wr.heap.size wr U)
              (first | exact keep7 Z1 d0 d1 d2 c0 c1 c2 Zlt hbb' hbb' hbb' hbb' hbb' hbb' (Below.drew (Below.refl _ _)) | exact keep7 Z1 d0 d1 d2 c0 c1 c2 Zlt hbb' hbb' hbb' hbb' hbb' hbb' (below_keep' (last8 (by assumption)) (by assumption)) | go_keep)
              (first
                | (go_at_call 47; refine (HR.out _).mono ?_; rintro e w2 ⟨rfl, hb2⟩)
                | (go_at_call 48; refine (HCO.out _).mono ?_; rintro e w2 ⟨rfl, hb2⟩))
            all_goals
              rename_i hH
              have hb3 := below_keep' hb (last8 hH)
              clear hH
              go_wp2_with fail
              go_ret
              exact ⟨by rw [HV.out]; rfl, hb3⟩
          · have HLT : Hid (ltSal y x) := by show ltSal y x; exact of_decide_eq_true hl
            rw [hl] at HCO
            clear hl
            go_wp2_with fail
            go_region_held3 (fun U => U.cell? ⟨w.heap.size, 1, none⟩ = some (.slice (some ⟨b, off, none⟩) n c) ∧ U.cell? ⟨b, off + m * 3, none⟩ = some (.int .i64 y.y) ∧ U.cell? ⟨b, off + m * 3 + 1, none⟩ = some (.int .i64 y.h) ∧ U.cell? ⟨b, off + m * 3 + 2, none⟩ = some (.int .i64 y.l) ∧ U.cell? ⟨b, off + (m + 1) * 3, none⟩ = some (.int .i64 x.y) ∧ U.cell? ⟨b, off + (m + 1) * 3 + 1, none⟩ = some (.int .i64 x.h) ∧ U.cell? ⟨b, off + (m + 1) * 3 + 2, none⟩ = some (.int .i64 x.l) ∧ Below wr.heap.size wr U)
              (first | exact keep7 Z1 d0 d1 d2 c0 c1 c2 Zlt hbb' hbb' hbb' hbb' hbb' hbb' (Below.drew (Below.refl _ _)) | exact keep7 Z1 d0 d1 d2 c0 c1 c2 Zlt hbb' hbb' hbb' hbb' hbb' hbb' (below_keep' (last8 (by assumption)) (by assumption)) | go_keep)
              (first
                | (go_at_call 47; refine (HR.out _).mono ?_; rintro e w2 ⟨rfl, hb2⟩)
                | (go_at_call 48; refine (HCO.out _).mono ?_; rintro e w2 ⟨rfl, hb2⟩))
            all_goals
              rename_i hH
              have hb4 := last8 hH
              have hb3 := below_keep' hb hb4
              clear hH
              replace Z := Z.up hb4
              go_wp2_with fail
              go_roundw
              case rel => exact ⟨m + 1 + 1, by omega, by go_num, all_take (p := okSal) HX.out HO.out HOK.out, asc_snocS HA.out HY.out HX.out HLT.out, Z, hb3⟩
              case measure => simp [intOf]; omega
    · obtain rfl : k = n := by omega
      have HV : Hid (validB id xs = true) := by
        have h1 := HO.out
        have h2 := HA.out
        rw [take_all HL.out] at h1 h2
        exact validB_yes HI.out (by rw [HL.out]; omega) h1 h2
      have Z0 := Z.cell 0 _ rfl; have Z1 := Z.cell 1 _ rfl; have Zlt := Z.lt
      go_wp2_with fail
      go_ret
      exact ⟨by rw [HV.out]; rfl, hb⟩
end Go.Proofs.YtccmchmemafjdaaGreatDoor
