/- Cover: the reference's. -/
import Derived.Test.YthbckkjihijekaaDoorYi
set_option linter.unusedSimpArgs false
set_option linter.unusedVariables false
namespace Go.Proofs.YthbckkjihijekaaDoor
open Go.RowKit

structure RCoverOut (w : World) (zs : List (Int × Int)) (e : Ending) (w' : World) : Prop where
  out : ∃ A c, ∃ out : List (Int × Int), ∃ code : Int, e = .returned (.tuple #[.slice A out.length c, .int .i64 code]) ∧ Sl w' w.heap.size w'.heap.size 2 encY A out.length out ∧
    ((64 < zs.length ∧ out = [] ∧ code = 6) ∨ (zs.length ≤ 64 ∧ zs.any invY = true ∧ out = [] ∧ code = 1) ∨ (zs.length ≤ 64 ∧ zs.any invY = false ∧ code = 0 ∧ out = rcov zs 19999))
  below : Below w.heap.size w w'

set_option maxRecDepth 100000 in
set_option maxHeartbeats 2000000 in
theorem rcover_any (A : Option Addr) (len cap : Nat) (zs : List (Int × Int)) (w : World) (hS : Sl w 0 w.heap.size 2 encY A len zs) (hm : len ≤ maxLen) :
    Calls Tryd.prog 30 #[.slice A len cap] w (RCoverOut w zs) := by
  have hl := hS.len
  unfold maxLen at hm
  by_cases h64 : 64 < len
  · clear hS
    go_enter Tryd.func30, Tryd.ntmps30
    go_wp2_with fail
    go_ret2
    exact ⟨⟨none, 0, [], 6, rfl, Sl.nil, .inl ⟨by omega, rfl, rfl⟩⟩, Below.refl _ _⟩
  · go_enter Tryd.func30, Tryd.ntmps30
    go_wp2_with fail
    go_loopw [4] (fun i wr => ∃ k : Nat, k ≤ len ∧ i = .int .i64 k ∧ (zs.take k).any invY = false ∧ Below w.heap.size w wr) (fun i _ => len - (intOf i).toNat)
    case atStart => exact ⟨0, by omega, rfl, rfl, Below.refl _ _⟩
    case round =>
      obtain ⟨k, hk, rfl, hn, hb⟩ := hrel
      have HN := Lib.hid hn; clear hn
      by_cases hlt : k < len
      · obtain ⟨b, off, x, rfl, _, hbb, hx, hcx⟩ := (hS.below hb (Nat.le_refl _)).at_ hlt
        have hc0 : wr.cell? ⟨b, off + k * 2, none⟩ = some (.int .i64 x.1) := hcx 0 _ rfl
        have hc1 : wr.cell? ⟨b, off + k * 2 + 1, none⟩ = some (.int .i64 x.2) := hcx 1 _ rfl
        have HX := Lib.hid hx; clear hx hcx
        clear hS
        go_wp2_with fail
        go_fit (rvalid_any _ _ _)
        rintro e w1 ⟨rfl, hw1⟩
        have hb1 : Below wr.heap.size wr w1 := by rw [← hw1]; (repeat (first | exact Below.refl _ _ | assumption | refine Below.alloc ?_ (by first | omega | (simp only [World.size_alloc]; omega) | (simp; done) | (simp; omega)) _ | refine Below.setCell ?_ (by first | omega | (simp only [World.size_alloc]; omega) | (simp; done) | (simp; omega)) _ | refine Below.drew ?_ | refine below_drewN ?_ _))
        have hb1' : Below w.heap.size w w1 := hb.trans (hb1.mono hb.size)
        clear hw1 hb1 hc0 hc1 hbb
        cases hp : validB x.1 x.2
        · have HP := Lib.hid hp; clear hp
          go_wp2_with fail
          go_ret2
          exact ⟨⟨none, 0, [], 1, rfl, Sl.nil, .inr (.inl ⟨by omega, any_of_at HX.out (by unfold invY; rw [HP.out]; rfl), rfl, rfl⟩)⟩, hb1'⟩
        · have HP := Lib.hid hp; clear hp
          go_wp2_with fail
          go_roundw
          case rel => exact ⟨k + 1, by omega, by go_num, by rw [any_take_succ HX.out, HN.out]; unfold invY; rw [HP.out]; rfl, hb1'⟩
          case measure => simp [intOf]; omega
      · obtain rfl : k = len := by omega
        have hn := HN.out
        rw [List.take_of_length_le (by omega)] at hn
        have HI := Lib.hid hn; clear hn HN
        obtain ⟨wo, hwo⟩ : ∃ wo : World, wo = wr := ⟨_, rfl⟩
        have hS1 : Sl wr 0 wr.heap.size 2 encY A k zs := hS.up hb (Nat.le_refl _) (Nat.le_refl _)
        clear hS
        obtain ⟨i0, hi0, hz0, hz1, hz22⟩ := info_parts Tryd.infoY
        go_wp2_with fail
        rw [← hwo] at hS1 hb
        go_loopw [5, 6] (fun v i wr => ∃ m : Nat, m ≤ 19999 ∧ i = .int .i64 (-9999 + (m : Int)) ∧ wr.ownsRow wo.heap.size 23 2 v (rcov zs m).length ((rcov zs m).flatMap encY) ∧ Below wo.heap.size wo wr) (fun _ i _ => (10000 - intOf i).toNat)
        case atStart => exact ⟨0, by omega, rfl, World.ownsRow_nil _ _ _ _, by rw [hwo]; exact Below.refl _ _⟩
        case round =>
          obtain ⟨m, hmm, rfl, hown, hbm⟩ := hrel
          clear hwo
          have hcl := rcov_len zs m
          have hrs : rcov zs (m + 1) = if inB zs (-9999 + (m : Int)) then putStep (rcov zs m) (-9999 + (m : Int)) else rcov zs m := rfl
          have hmi : ((m + 1 : Nat) : Int) = (m : Int) + 1 := by omega
          generalize hout : rcov zs m = out at *
          have HOUT : Hid (out = rcov zs m) := hout.symm
          clear hout
          have HRS := Lib.hid hrs; clear hrs
          by_cases hlt : m < 19999
          · have hSr : Sl wr 0 wr.heap.size 2 encY A k zs := hS1.up hbm (Nat.le_refl _) (Nat.le_refl _)
            have HIN := Lib.hid (in_any A k cap zs (-9999 + (m : Int)) wr (by omega) hSr)
            clear hSr
            go_wp2_with fail
            go_fit HIN.out
            rintro e w1 ⟨rfl, rfl⟩
            clear HIN
            cases hin : inB zs (-9999 + (m : Int))
            · have HI2 := Lib.hid hin; clear hin
              go_wp2_with fail
              go_roundw
              case rel => exact ⟨m + 1, by omega, by go_num, by rw [HRS.out, HI2.out]; exact hown, hbm⟩
              case measure => simp [intOf]; omega
            · have hcs : rcov zs (m + 1) = putStep out (-9999 + (m : Int)) := by rw [HRS.out, hin]; rfl
              have HCS := Lib.hid hcs; clear hcs hin HRS
              rcases List.eq_nil_or_concat out with rfl | ⟨o, z, rfl⟩
              · obtain ⟨A0, c0, rfl, _⟩ := own_form hown
                simp only [List.length_nil] at hown ⊢
                have hzr : wo.heap.size ≤ wr.heap.size := hbm.size
                go_wp2_with (at_builtin; refine wpList_append_own _ rfl _ _ 42 rfl wo.heap.size 23 i0 (.agg #[.int .i64 0, .int .i64 0]) 2 16 Tryd.underlying42 hi0 hz0 hz1 hz22 rfl (by decide) _ _ _ rfl (hown.alloc _) ⟨wr.heap.size, 0, none⟩ 1 1 [.int .i64 (-9999 + (m : Int)), .int .i64 (-9999 + (m : Int))] rfl rfl ?c1 ?c2 ?c3 ?c4 ?c5 ?_)
                case c1 => exact cell_two_at rfl _ _ _
                case c2 => simp [Value.oneCell']
                case c3 => unfold maxLen; omega
                case c4 => omega
                case c5 => simp; omega
                · intro v' w4 hown' hgrow _
                  have hb4 : Below wo.heap.size wo w4 := Below.grown (hbm.alloc hzr _) hgrow (by simp; omega) (fun g hg => (hown.lt g hg).1)
                  clear hgrow hown hbm
                  go_wp2_with fail
                  go_roundw
                  case rel => exact ⟨m + 1, by omega, by go_num, by rw [HCS.out]; exact hown', hb4⟩
                  case measure => simp [intOf]; omega
              · rw [List.concat_eq_append] at hown hcl HCS
                have hlen' : (o ++ [z]).length = o.length + 1 := by simp
                rw [hlen'] at hown hcl
                obtain ⟨g, cq, hv⟩ := ownsRow_succ hown
                subst hv
                have hf : ((o ++ [z]).flatMap encY)[o.length * 2 + 1]? = some (.int .i64 z.2) := flat_at encY_len (o ++ [z]) o.length z 1 _ (by simp) rfl
                have hcz : wr.cell? ⟨g, o.length * 2 + 1, none⟩ = some (.int .i64 z.2) := (hown.cellAt _ (by omega)).trans hf
                have hfz : wr.frozen? ⟨g, o.length * 2 + 1, none⟩ = false := hown.frozenAt _
                clear hf
                have hgl := hown.lt g rfl
                have hgl2 : g < wr.heap.size := hgl.2
                have hzr : wo.heap.size ≤ wr.heap.size := hbm.size
                have i0' : (0 : Int) ≤ (o.length : Int) := by omega
                have i1' : (o.length : Int) < (o.length : Int) + 1 := by omega
                by_cases hmr : z.2 = -9999 + (m : Int) - 1
                · have hst := hown.stored (o.length * 2 + 1) (.int .i64 (-9999 + (m : Int)))
                  have hcv : putStep (o ++ [z]) (-9999 + (m : Int)) = o ++ [(z.1, -9999 + (m : Int))] := by rw [putStep_snoc, if_pos hmr]
                  rw [flat_set] at hst
                  have HST := Lib.hid hst.1; clear hst
                  clear hown
                  go_wp2_with fail
                  go_roundw
                  case rel =>
                    refine ⟨m + 1, by omega, by go_num, ?_, Below.setCell hbm hgl.1 _⟩
                    rw [HCS.out, hcv]
                    have h2 := HST.out
                    simp at h2 ⊢
                    exact h2
                  case measure => simp [intOf]; omega
                · have hcv : putStep (o ++ [z]) (-9999 + (m : Int)) = o ++ [z] ++ [(-9999 + (m : Int), -9999 + (m : Int))] := by rw [putStep_snoc, if_neg hmr]
                  have HCV := Lib.hid hcv; clear hcv
                  go_wp2_with (at_builtin; refine wpList_append_own _ rfl _ _ 42 rfl wo.heap.size 23 i0 (.agg #[.int .i64 0, .int .i64 0]) 2 16 Tryd.underlying42 hi0 hz0 hz1 hz22 rfl (by decide) _ _ _ rfl (hown.alloc _) ⟨wr.heap.size, 0, none⟩ 1 1 [.int .i64 (-9999 + (m : Int)), .int .i64 (-9999 + (m : Int))] rfl rfl ?c1 ?c2 ?c3 ?c4 ?c5 ?_)
                  case c1 => exact cell_two_at rfl _ _ _
                  case c2 => simp [Value.oneCell']
                  case c3 => unfold maxLen; omega
                  case c4 => omega
                  case c5 => simp; omega
                  · intro v' w4 hown' hgrow _
                    have hb4 : Below wo.heap.size wo w4 := Below.grown (hbm.alloc hzr _) hgrow (by simp; omega) (fun g hg => (hown.lt g hg).1)
                    clear hgrow hown hbm hcz hfz
                    go_wp2_with fail
                    go_roundw
                    case rel =>
                      refine ⟨m + 1, by omega, by go_num, ?_, hb4⟩
                      rw [HCS.out, HCV.out]
                      simpa [List.flatMap_append, encY] using hown'
                    case measure => simp [intOf]; omega
          · obtain rfl : m = 19999 := by omega
            obtain ⟨A0, c0, rfl, _⟩ := own_form hown
            have hSo := (Sl.of_own (enc := encY) encY_len hown rfl).less (show w.heap.size ≤ wo.heap.size from hb.size)
            have hbe : Below w.heap.size w wr := hb.trans (hbm.mono hb.size)
            clear hown hbm
            go_wp2_with fail
            go_ret2
            exact ⟨⟨A0, c0, out, 0, rfl, hSo, .inr (.inr ⟨by omega, HI.out, rfl, HOUT.out⟩)⟩, hbe⟩
end Go.Proofs.YthbckkjihijekaaDoor
