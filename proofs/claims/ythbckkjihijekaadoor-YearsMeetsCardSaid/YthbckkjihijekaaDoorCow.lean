/- Cover: the program's. -/
import Derived.Test.YthbckkjihijekaaDoorCov
import Derived.StillTailTactics
import Derived.Deep.RegionHeld3
set_option linter.unusedSimpArgs false
set_option linter.unusedVariables false
namespace Go.Proofs.YthbckkjihijekaaDoor
open Go.RowKit

set_option maxRecDepth 100000 in
set_option maxHeartbeats 2000000 in
theorem cover_any (A : Option Addr) (len cap : Nat) (zs : List (Int × Int)) (w : World) (hS : Sl w 0 w.heap.size 2 encY A len zs) (hm : len ≤ maxLen) :
    Calls Tryd.prog 29 #[.slice A len cap] w (CoverOut w zs) := by
  have hl := hS.len
  unfold maxLen at hm
  by_cases h64 : 64 < len
  · clear hS
    go_enter Tryd.func29, Tryd.ntmps29
    go_wp2_with fail
    go_ret2
    exact ⟨⟨none, 0, [], 6, rfl, Sl.nil, .inl ⟨by omega, rfl, rfl⟩⟩, Below.refl _ _⟩
  · have HS := Lib.hid hS
    have HC := Lib.hid (containsFunc_any A len cap zs w (by omega) hS)
    clear hS
    go_enter Tryd.func29, Tryd.ntmps29
    go_wp2_with fail
    go_fit HC.out
    rintro e w1 ⟨rfl, hb1⟩
    cases hi : zs.any invY
    · have HI := Lib.hid hi; clear hi
      go_wp2_with fail
      go_fit (callsIn_wide.1 (values_in Fence.wide 0 trivial rfl A len cap w1))
      rintro e w2 ⟨rfl, hw2⟩
      have hb2 : Below w.heap.size w w2 := by rw [hw2]; exact hb1.alloc hb1.size _
      have hc2 : w2.cell? ⟨w1.heap.size, 0, none⟩ = some (.slice A len cap) := by rw [hw2]; simp
      have hz2 : w1.heap.size < w2.heap.size := by rw [hw2]; simp
      clear hw2
      have HQ := Lib.hid (sortedFunc_any w1.heap.size A len cap zs w2 (by omega) hz2 hc2 (HS.out.up hb2 (Nat.le_refl _) (Nat.le_refl _)))
      clear hc2
      go_wp2_with fail
      go_fit HQ.out
      rintro e w3 ⟨A3, c3, ys, rfl, hp, hpw, hS3, hb3⟩
      have hb3' : Below w.heap.size w w3 := hb2.trans (hb3.mono hb2.size)
      clear HQ hb1 hb2 hb3 HC HS
      have HP := Lib.hid hp; clear hp
      have HPW := Lib.hid hpw; clear hpw
      obtain ⟨i0, hi0, hz0, hz1, hz22⟩ := info_parts Tryd.infoY
      have hly := hS3.len
      have hmx := @run_mx Tryd.prog
      go_wp2_with fail
      go_loopw [5, 19] (fun v i wr => ∃ k : Nat, k ≤ len ∧ i = .int .i64 k ∧ wr.ownsRow w3.heap.size 23 2 v (cov (ys.take k)).length ((cov (ys.take k)).flatMap encY) ∧ Below w3.heap.size w3 wr) (fun _ i _ => len - (intOf i).toNat)
      case atStart => exact ⟨0, by omega, rfl, World.ownsRow_nil _ _ _ _, Below.refl _ _⟩
      case round =>
        obtain ⟨k, hk, rfl, hown, hb⟩ := hrel
        by_cases hlt : k < len
        · obtain ⟨b, off, y, rfl, _, hbb, hy, hcy⟩ := (hS3.below hb (Nat.le_refl _)).at_ hlt
          have hc0 : wr.cell? ⟨b, off + k * 2, none⟩ = some (.int .i64 y.1) := hcy 0 _ rfl
          have hc1 : wr.cell? ⟨b, off + k * 2 + 1, none⟩ = some (.int .i64 y.2) := hcy 1 _ rfl
          clear hcy
          have hcl : (cov (ys.take k)).length ≤ k := Nat.le_trans (cov_len _) (by rw [List.length_take]; omega)
          have hcs : cov (ys.take (k + 1)) = covStep (cov (ys.take k)) y := by rw [take_snocS hy, cov_snoc]
          have hbd : ∀ z ∈ cov (ys.take k), -9999 ≤ z.2 ∧ z.2 ≤ 9999 := cov_bound _ (fun y' h' => by
            have hv := (validB_iff _ _).1 (noInv HI.out y' (HP.out.subset (List.mem_of_mem_take h')))
            omega)
          have HY := Lib.hid hy; clear hy
          generalize cov (ys.take k) = out at *
          have HCS := Lib.hid hcs; clear hcs
          rcases List.eq_nil_or_concat out with rfl | ⟨o, z, rfl⟩
          · obtain ⟨A0, c0, rfl, _⟩ := own_form hown
            clear hbd hcl
            have hzr : w3.heap.size ≤ wr.heap.size := hb.size
            have hbz : b < wr.heap.size := by omega
            simp only [List.length_nil] at hown ⊢
            go_wp2_with fail
            go_quiet (fail)
            go_wp2_with (at_builtin; refine wpList_append_own _ rfl _ _ 42 rfl w3.heap.size 23 i0 (.agg #[.int .i64 0, .int .i64 0]) 2 16 Tryd.underlying42 hi0 hz0 hz1 hz22 rfl (by decide) _ _ _ rfl (ownsRow_drewN ((hown.alloc _).alloc _) _) ⟨wr.heap.size + 1, 0, none⟩ 1 1 [.int .i64 y.1, .int .i64 y.2] rfl rfl ?c1 ?c2 ?c3 ?c4 ?c5 ?_)
            case c1 => exact cell_two_at (by simp) _ _ _
            case c2 => simp [Value.oneCell']
            case c3 => unfold maxLen; omega
            case c4 => omega
            case c5 => simp; omega
            · intro v' w4 hown' hgrow _
              have hb4 : Below w3.heap.size w3 w4 := Below.grown (Below.alloc (below_drewN (hb.alloc hzr _) _) (by simp; omega) _) hgrow (by simp; omega) (fun g hg => (hown.lt g hg).1)
              clear hgrow hown hb hc0 hc1
              go_wp2_with fail
              go_roundw
              case rel => exact ⟨k + 1, by omega, by go_num, by rw [HCS.out]; exact hown', hb4⟩
              case measure => simp [intOf]; omega
          · rw [List.concat_eq_append] at hown hbd hcl HCS
            have hlen' : (o ++ [z]).length = o.length + 1 := by simp
            rw [hlen'] at hown hcl
            obtain ⟨g, cq, hv⟩ := ownsRow_succ hown
            subst hv
            have hz := hbd z (by simp)
            clear hbd
            have hf : ((o ++ [z]).flatMap encY)[o.length * 2 + 1]? = some (.int .i64 z.2) := flat_at encY_len (o ++ [z]) o.length z 1 _ (by simp) rfl
            have hcz : wr.cell? ⟨g, o.length * 2 + 1, none⟩ = some (.int .i64 z.2) := (hown.cellAt _ (by omega)).trans hf
            have hfz : wr.frozen? ⟨g, o.length * 2 + 1, none⟩ = false := hown.frozenAt _
            clear hf
            have hgl := hown.lt g rfl
            have hgl2 : g < wr.heap.size := hgl.2
            have hzr : w3.heap.size ≤ wr.heap.size := hb.size
            have hbz : b < wr.heap.size := by omega
            have hbg : b < g := by omega
            obtain ⟨hz1', hz2'⟩ := hz
            have i0' : (0 : Int) ≤ (o.length : Int) := by omega
            have i1' : (o.length : Int) < (o.length : Int) + 1 := by omega
            by_cases hmr : y.1 ≤ z.2 + 1
            · go_wp2_with fail
              go_quiet (fail)
              go_wp2_with fail
              generalize hWX : (wr.alloc (.cells #[.int .i64 y.1, .int .i64 y.2] 23)).drewN nq = WX
              have hbX : Below wr.heap.size wr WX := by subst hWX; (repeat (first | exact Below.refl _ _ | assumption | refine Below.alloc ?_ (by first | omega | (simp only [World.size_alloc]; omega) | (simp; done) | (simp; omega)) _ | refine Below.setCell ?_ (by first | omega | (simp only [World.size_alloc]; omega) | (simp; done) | (simp; omega)) _ | refine Below.drew ?_ | refine below_drewN ?_ _))
              have hzX : wr.heap.size < WX.heap.size := by subst hWX; simp
              have hx1 : WX.cell? ⟨wr.heap.size, 1, none⟩ = some (.int .i64 y.2) := by subst hWX; go_simp
              have hxz : WX.cell? ⟨g, o.length * 2 + 1, none⟩ = some (.int .i64 z.2) := (hbX.cell (p := ⟨g, o.length * 2 + 1, none⟩) hgl2).trans hcz
              have hxf : WX.frozen? ⟨g, o.length * 2 + 1, none⟩ = false := (hbX.frozen (p := ⟨g, o.length * 2 + 1, none⟩) hgl2).trans hfz
              have hownX : WX.ownsRow w3.heap.size 23 2 (.slice (some ⟨g, 0, none⟩) (o.length + 1) cq) (o.length + 1) ((o ++ [z]).flatMap encY) := by
                subst hWX; exact ownsRow_drewN (hown.alloc _) _
              clear hWX hc0 hc1 hcz hfz hown
              go_still_tail 12, (by kernel_rfl)
              change wpList _ _ _ _ _ WX.drew
              have hdX : Below wr.heap.size wr WX.drew := Below.drew hbX
              go_wp2_with fail
              have hst := hownX.stored (o.length * 2 + 1) (.int .i64 (mx z.2 y.2))
              go_roundw
              case rel =>
                have hcv : covStep (o ++ [z]) y = o ++ [(z.1, mx z.2 y.2)] := by rw [covStep_snoc, if_pos hmr]
                rw [flat_set] at hst
                have hbs : Below w3.heap.size w3 (WX.setCell ⟨g, o.length * 2 + 1, none⟩ (.int .i64 (mx z.2 y.2))).drew := Below.drew (Below.setCell (hb.trans (hbX.mono hzr)) hgl.1 _)
                refine ⟨k + 1, by omega, by go_num, ?_, hbs⟩
                rw [HCS.out, hcv]
                have h2 := hst.1
                simp at h2 ⊢
                exact h2
              case measure => simp [intOf]; omega
            · have hcv : covStep (o ++ [z]) y = o ++ [z] ++ [y] := by rw [covStep_snoc, if_neg hmr]
              go_wp2_with fail
              go_quiet (fail)
              go_wp2_with (at_builtin; refine wpList_append_own _ rfl _ _ 42 rfl w3.heap.size 23 i0 (.agg #[.int .i64 0, .int .i64 0]) 2 16 Tryd.underlying42 hi0 hz0 hz1 hz22 rfl (by decide) _ _ _ rfl (ownsRow_drewN ((hown.alloc _).alloc _) _) ⟨wr.heap.size + 1, 0, none⟩ 1 1 [.int .i64 y.1, .int .i64 y.2] rfl rfl ?c1 ?c2 ?c3 ?c4 ?c5 ?_)
              case c1 => exact cell_two_at (by simp) _ _ _
              case c2 => simp [Value.oneCell']
              case c3 => unfold maxLen; omega
              case c4 => omega
              case c5 => simp; omega
              · intro v' w4 hown' hgrow _
                have hb4 : Below w3.heap.size w3 w4 := Below.grown (Below.alloc (below_drewN (hb.alloc hzr _) _) (by simp; omega) _) hgrow (by simp; omega) (fun g hg => (hown.lt g hg).1)
                clear hgrow hown hb hc0 hc1 hcz hfz
                go_wp2_with fail
                go_roundw
                case rel => 
                  refine ⟨k + 1, by omega, by go_num, ?_, hb4⟩
                  rw [HCS.out, hcv]
                  simpa [List.flatMap_append, encY] using hown'
                case measure => simp [intOf]; omega
        · obtain rfl : k = len := by omega
          rw [List.take_of_length_le (by omega)] at hown
          obtain ⟨A0, c0, rfl, _⟩ := own_form hown
          have hSo := (Sl.of_own (enc := encY) encY_len hown rfl).less (show w.heap.size ≤ w3.heap.size from hb3'.size)
          have hbe : Below w.heap.size w wr := hb3'.trans (hb.mono hb3'.size)
          clear hown hb
          go_wp2_with fail
          go_ret2
          exact ⟨⟨A0, c0, cov ys, 0, rfl, hSo, .inr (.inr ⟨by omega, HI.out, rfl, ys, HP.out, HPW.out, rfl⟩)⟩, hbe⟩
    · have HI := Lib.hid hi; clear hi
      go_wp2_with fail
      go_ret2
      exact ⟨⟨none, 0, [], 1, rfl, Sl.nil, .inr (.inl ⟨by omega, HI.out, rfl, rfl⟩)⟩, hb1⟩
end Go.Proofs.YthbckkjihijekaaDoor
