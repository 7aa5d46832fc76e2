/- slices.Values, slices.Collect over a slice of specimens. -/
import Derived.RangeFuncNested
import Derived.RangeFuncBound
import Derived.RangeFuncCalls
import Derived.RangeFuncLeaves
import Derived.RangeFuncBox
import Derived.Maps.AppendAt
import Derived.Shelf.Abstract
import Derived.Shelf.RegionOpen
import Derived.WalkKit
import Derived.OwnWalkIn
import Derived.TacticsInMore
import Derived.LoopNIn
import Derived.LoopIn
import Derived.Test.YtdokpmfejibdlaaGreatDoorBase
import Derived.Test.YtdokpmfejibdlaaGreatDoorSb
import Derived.Test.YtdokpmfejibdlaaGreatDoorProg
set_option linter.unusedSimpArgs false
set_option linter.unusedVariables false
namespace Go.Proofs.YtdokpmfejibdlaaGreatDoor
open Go.RowKit Go.Shelf
attribute [local go_sem] Oper.semAt_some

def encS (x : Spm) : List Value := [.int .i64 x.id, .int .i64 x.obv, .int .i64 x.rev, .int .i64 x.os, .int .i64 x.rs, .int .i64 x.ax, .int .i64 x.wt]
theorem encS_len (x : Spm) : (encS x).length = 7 := rfl
theorem cell_list_new (W : World) (vs : List Value) (t : TypeId) : ∀ j u, vs[j]? = some u → (W.alloc (.cells vs.toArray t)).cell? ((⟨W.heap.size, 0, none⟩ : Addr).add j) = some u := by
  intro j u h
  rw [Go.WideShapes.add_plain, World.cell?_alloc_new, Nat.zero_add]
  simpa using h
theorem take_snocS {α : Type} {xs : List α} {k : Nat} {x : α} (h : xs[k]? = some x) : xs.take (k + 1) = xs.take k ++ [x] := by
  obtain ⟨hl, rfl⟩ := List.getElem?_eq_some_iff.1 h
  exact List.take_succ_eq_append_getElem hl

set_option maxRecDepth 100000 in
set_option maxHeartbeats 2000000 in
theorem values1_in (F : Fence) (n : Nat) (hF : F.fn 197) (hro : F.round = none) (hn : 1 ≤ n) (l Bs n₀ : Nat) (A : Option Addr) (len cap : Nat) (zs : List Spm) (hlen : len ≤ 1000000) (J Jx : List Spm → World → Prop)
    (W : World) (hJ : AbidesFrom W.heap.size J) (hB0 : n₀ ≤ W.heap.size)
    (hY : ∀ pre x W, J pre W → pre.length < len → YieldAt F (n - 1) Tryz.prog l #[.agg (encS x).toArray] W fun e W' =>
      (e = .returned (.bool true) ∧ J (pre ++ [x]) W' ∧ Below n₀ W W') ∨ (e = .returned (.bool false) ∧ Jx (pre ++ [x]) W'))
    (hBs : W.cell? ⟨Bs, 0, none⟩ = some (.slice A len cap)) (hS : Sl W 0 n₀ 7 encS A len zs) (h0 : J [] W) :
    CallsIn F n Tryz.prog 197 #[.func (.yield l) #[] #[], .pointer (some ⟨Bs, 0, none⟩)] W fun e W' => (∃ v, e = .returned v) ∧
      ((∃ ys, ys = zs ∧ J ys W') ∨ (∃ pre, True ∧ Jx pre W')) := by
  refine callsIn_of_wp Tryz.func197 rfl hF ?_ hro
  simp only [Tryz.ntmps197, List.size_toArray, List.length_cons, List.length_nil, Nat.reduceAdd, Nat.reduceSub, Array.replicate_succ, Array.replicate_zero, List.push_toArray, List.append_toArray, List.nil_append, List.cons_append]
  have hl := hS.len
  gi_wp2
  gi_loopw [7] (fun i wr => ∃ k : Nat, k ≤ len ∧ i = .int .i64 k ∧ J (zs.take k) wr ∧ Below n₀ W wr ∧ W.heap.size ≤ wr.heap.size)
    (fun i _ => len - (intOf i).toNat)
  case atStart => exact ⟨0, Nat.zero_le _, rfl, h0, Below.refl _ _, Nat.le_refl _⟩
  case round =>
    obtain ⟨k, hk, rfl, hJs, hnx, hsz⟩ := hrel
    by_cases hlt : k < len
    · obtain ⟨b, off, x, rfl, _, hb, hx, hcx⟩ := (hS.below hnx (Nat.le_refl _)).at_ hlt
      have hc0 : wr.cell? ⟨b, off + k * 7, none⟩ = some (.int .i64 x.id) := hcx 0 _ rfl
      have hc1 : wr.cell? ⟨b, off + k * 7 + 1, none⟩ = some (.int .i64 x.obv) := hcx 1 _ rfl
      have hc2 : wr.cell? ⟨b, off + k * 7 + 2, none⟩ = some (.int .i64 x.rev) := hcx 2 _ rfl
      have hc3 : wr.cell? ⟨b, off + k * 7 + 3, none⟩ = some (.int .i64 x.os) := hcx 3 _ rfl
      have hc4 : wr.cell? ⟨b, off + k * 7 + 4, none⟩ = some (.int .i64 x.rs) := hcx 4 _ rfl
      have hc5 : wr.cell? ⟨b, off + k * 7 + 5, none⟩ = some (.int .i64 x.ax) := hcx 5 _ rfl
      have hc6 : wr.cell? ⟨b, off + k * 7 + 6, none⟩ = some (.int .i64 x.wt) := hcx 6 _ rfl
      clear hcx
      have hJ2 : ∀ o, J (zs.take k) (wr.alloc o) := fun o => hJ _ wr _ none hJs (World.grownBy_alloc wr o none) (fun r e => by cases e)
      obtain ⟨fn, tmps, assign, body, hy, hR⟩ := hY _ x _ (hJ2 (.cells #[.int .i64 x.id, .int .i64 x.obv, .int .i64 x.rev, .int .i64 x.os, .int .i64 x.rs, .int .i64 x.ax, .int .i64 x.wt] 34)) (by rw [List.length_take]; omega)
      have HX := Lib.hid hx; clear hx
      have HJ := Lib.hid hJ; clear hJ
      have HJ2 := Lib.hid hJ2; clear hJ2
      dsimp only [encS] at hy
      gi_wp2
      refine hR.mono ?_
      rintro e W3 (⟨rfl, hJ3, hk3⟩ | ⟨rfl, hJx3⟩)
      · have hz3 : W.heap.size ≤ W3.heap.size := by have := hk3.size; simp at this; omega
        have hb3 : Below n₀ W W3 := (hnx.alloc (by omega) _).trans hk3
        clear hk3
        gi_wp2
        go_roundw
        case rel => exact ⟨k + 1, by omega, by go_num, by rw [take_snocS HX.out]; exact hJ3, hb3, hz3⟩
        case measure => simp [intOf]; omega
      · gi_wp2
        refine bodyPost_ret (results_none rfl _ _ _) rfl ?_
        exact ⟨⟨_, rfl⟩, .inr ⟨_, trivial, hJx3⟩⟩
    · obtain rfl : k = len := by omega
      gi_wp2
      go_end0
      exact ⟨⟨_, rfl⟩, .inl ⟨_, rfl, by rw [List.take_of_length_le (by omega)] at hJs; exact hJs⟩⟩

set_option maxHeartbeats 1000000 in
theorem values_in (F : Fence) (n : Nat) (hF : F.fn 154) (hro : F.round = none) (A : Option Addr) (len cap : Nat) (w : World) :
    CallsIn F n Tryz.prog 154 #[.slice A len cap] w fun e w' => e = .returned (.func (.func 197) #[] #[.pointer (some ⟨w.heap.size, 0, none⟩)]) ∧ w' = w.alloc (.cells #[.slice A len cap] 22) := by
  refine callsIn_of_wp Tryz.func154 rfl hF ?_ hro
  simp only [Tryz.ntmps154, List.size_toArray, List.length_cons, List.length_nil, Nat.reduceAdd, Nat.reduceSub, Array.replicate_succ, Array.replicate_zero, List.push_toArray, List.append_toArray, List.nil_append, List.cons_append]
  gi_wp2
  go_ret
  exact ⟨rfl, rfl⟩

theorem values_stops (F : Fence) (n : Nat) (hF : F.fn 197) (hro : F.round = none) (hn : 1 ≤ n) (Bs n₀ : Nat) (A : Option Addr) (len cap : Nat) (zs : List Spm) (hlen : len ≤ 1000000) (w : World) (hBs : Bs < w.heap.size) (hn₀ : n₀ ≤ w.heap.size)
    (hc : w.cell? ⟨Bs, 0, none⟩ = some (.slice A len cap)) (hS : Sl w 0 n₀ 7 encS A len zs) :
    SeqStopsK F n Tryz.prog 197 #[.pointer (some ⟨Bs, 0, none⟩)] (fun x : Spm => #[Value.agg (encS x).toArray]) (Below n₀) (fun ys => ys = zs) (fun _ => True) len w := fun l J Jx W hW hJ _ hY h0 =>
  values1_in F n hF hro hn l Bs n₀ A len cap zs hlen J Jx W hJ (Nat.le_trans hn₀ hW.size) hY ((hW.cell (p := ⟨Bs, 0, none⟩) hBs).trans hc) (hS.below hW hn₀) h0

theorem Tryz.infoS : (Tryz.prog.info? 34).map (fun i => (i.zero, i.size, i.bytes)) = some (some (.agg #[.int .i64 0, .int .i64 0, .int .i64 0, .int .i64 0, .int .i64 0, .int .i64 0, .int .i64 0]), 7, 56) := by kernel_rfl
/-- A block of cells is left alone by the turn of what is no cells. -/
theorem blk_own {β : Type} (B : Nat) (t : TypeId) (cs : β → Array Value) : Own (fun s W => W.heap[B]? = some (.cells (cs s) t (0, 0))) := fun s X Y row hs hg hrow => by
  have hlt : B < X.heap.size := (Array.getElem?_eq_some_iff.1 hs).1
  refine (hg.block B hlt (fun e' => ?_)).trans hs
  obtain ⟨o, ho, hc⟩ := hrow B e'.symm
  rw [hs] at ho; cases ho; cases hc

set_option maxRecDepth 100000 in
set_option maxHeartbeats 4000000 in
theorem appendSeq_in (F : Fence) (n : Nat) (hF : F.fn 211) (hro : F.round = none) (hn : 6 ≤ n) (gf : Nat) (lb : Array Value) (hg : F.fn gf) (eg : ∀ args w, (callFunc gf args).run Tryz.prog w = .ok (.enter gf args) w)
    (N : Nat) (zs : List Spm) (w : World) (hN : N ≤ 1000000)
    (hseq : ∀ W, Below w.heap.size w W → SeqStopsK F (n - 1) Tryz.prog gf lb (fun x : Spm => #[Value.agg (encS x).toArray]) (Below w.heap.size) (fun ys => ys = zs) (fun _ => True) N W) (hzs : zs.length ≤ N) :
    CallsIn F n Tryz.prog 211 #[.slice none 0 0, .func (.func gf) #[] lb] w fun e W' => ∃ v, e = .returned v ∧ W'.ownsRow w.heap.size 34 7 v zs.length (zs.flatMap encS) ∧ Below w.heap.size w W' := by
  obtain ⟨i0, hi, hz0, hz1, hz2⟩ := info_parts Tryz.infoS
  have h1 : 1 ≤ n := by omega
  refine callsIn_of_wp_marks Tryz.func211 rfl hF ?_ hro
  simp only [Tryz.ntmps211, List.size_toArray, List.length_cons, List.length_nil, Nat.reduceAdd, Nat.reduceSub, Array.replicate_succ, Array.replicate_zero, List.push_toArray, List.append_toArray, List.nil_append, List.cons_append]
  have HSEQ := Lib.hid hseq; clear hseq
  have HEG := Lib.hid eg; clear eg
  gi_wp2
  have bS := Boxed.new w 22 (.slice none 0 0)
  have hB0 : Below w.heap.size w (w.alloc (.cells #[.slice none 0 0] 22)) := (Below.refl _ w).alloc (Nat.le_refl _) _
  refine wpIn_rangeFunc_ownH hro h1 (gf := gf) (lb := lb) rfl hg HEG.out (HSEQ.out _ hB0) belowK_t (belowK_b (by simp)) (Below.refl _ _) (fun _ => rfl)
    (fun (pre : List Spm) W => (∃ v, Boxed W w.heap.size 22 v ∧ W.ownsRow w.heap.size 34 7 v pre.length (pre.flatMap encS) ∧ True) ∧ Below w.heap.size w W)
    (fun _ _ _ => False)
    (OwnFrom.and (Own.from (holdsRow_own w.heap.size w.heap.size 22 34 7 (fun (pre : List Spm) => pre.length) (fun pre => pre.flatMap encS) (fun _ _ => True)) _) (ownFrom_below (Nat.le_refl _) (by simp)))
    (fun _ _ _ _ _ hs _ _ => hs)
    ⟨⟨_, bS, World.ownsRow_nil _ _ _ _, trivial⟩, hB0⟩
    (fun (x : Spm) a' W => ∃ Bx, w.heap.size < Bx ∧ W.heap[Bx]? = some (.cells (encS x).toArray 34 (0, 0)) ∧ a' = { tmps := #[.slice none 0 0, .func (.func gf) #[] lb, .pointer (some ⟨w.heap.size, 0, none⟩), undef, .slice none 0 0, .pointer (some ⟨Bx, 0, none⟩), .func (.func gf) #[] lb, .agg (encS x).toArray, undef, undef, undef, undef, undef], defers := [] })
    (fun x a' _ X Y row hs hg hr => by obtain ⟨Bx, h1, h2, h3⟩ := hs; exact ⟨Bx, h1, blk_own (β := Unit) Bx 34 (fun _ => (encS x).toArray) () X Y row h2 hg (fun r e => (hr r e).2), h3⟩)
    ?assign ?body ?done ?stop
  case assign =>
    rintro l pre x W K ⟨⟨v, hv, hrow, _⟩, hB⟩ hK
    have hlt := hv.lt
    dsimp only [encS]
    gi_wp2
    exact hK _ _ ((KeepsOthers.alloc _ _).from _) ((Below.refl _ W).alloc hB.size _) ⟨⟨v, hv.alloc _, hrow.alloc _, trivial⟩, hB.alloc hB.size _⟩ ⟨W.heap.size, hlt, heap_alloc_new W _, rfl⟩
  case body =>
    rintro l pre x a' W hl _ ⟨⟨v, hv, hrow, _⟩, hB⟩ ⟨Bx, hBx, bX, rfl⟩ hlt
    have hc := hv.cell
    have x0 : W.cell? ⟨Bx, 0, none⟩ = some (.int .i64 x.id) := by simp [World.cell?, bX, encS]
    have x1 : W.cell? ⟨Bx, 1, none⟩ = some (.int .i64 x.obv) := by simp [World.cell?, bX, encS]
    have x2 : W.cell? ⟨Bx, 2, none⟩ = some (.int .i64 x.rev) := by simp [World.cell?, bX, encS]
    have x3 : W.cell? ⟨Bx, 3, none⟩ = some (.int .i64 x.os) := by simp [World.cell?, bX, encS]
    have x4 : W.cell? ⟨Bx, 4, none⟩ = some (.int .i64 x.rs) := by simp [World.cell?, bX, encS]
    have x5 : W.cell? ⟨Bx, 5, none⟩ = some (.int .i64 x.ax) := by simp [World.cell?, bX, encS]
    have x6 : W.cell? ⟨Bx, 6, none⟩ = some (.int .i64 x.wt) := by simp [World.cell?, bX, encS]
    clear bX
    dsimp only [encS]
    gi_wp2_with (gi_at_builtin; refine wpListIn_append_own _ rfl _ _ 22 rfl w.heap.size 34 i0 (.agg #[.int .i64 0, .int .i64 0, .int .i64 0, .int .i64 0, .int .i64 0, .int .i64 0, .int .i64 0]) 7 56 Tryz.underlying22 hi hz0 hz1 hz2 rfl (by decide) _ _ _ rfl (hrow.alloc _) ⟨W.heap.size, 0, none⟩ 1 1 [.int .i64 x.id, .int .i64 x.obv, .int .i64 x.rev, .int .i64 x.os, .int .i64 x.rs, .int .i64 x.ax, .int .i64 x.wt] rfl rfl (cell_list_new _ _ _) (by simp [Value.oneCell']) (by unfold maxLen; omega) (by omega) (by have := hB.size; simp; omega) ?_; intro v' w1 hown' hgrow _; obtain ⟨g', cap', rfl⟩ := ownsRow_succ hown'; obtain ⟨hv1, hv2, hr2, hk2, hb2⟩ := hv.appended (by decide) hrow hB.size (Nat.le_refl _) hown' hgrow; have hc1 := hv1.cell; have hf1 := hv1.frozen)
    exact ⟨hk2.from _, hb2, ⟨_, hv2, by rw [List.flatMap_append, List.length_append]; exact hr2, trivial⟩, hB.trans hb2⟩
  case done =>
    rintro D ys W hD rfl ⟨⟨v, hv, hrow, _⟩, hB⟩ hK
    have hc := hv.cell
    gi_wp2
    refine ⟨by simp, .inl ⟨_, _, rfl, run_takeDeferred hK, ?_⟩⟩
    exact ⟨_, results_tmp rfl _ _ _, v, rfl, ownsRow_putObj hrow _ hK rfl, hB.trans (belowK_b (w := w) (Nat.le_refl _) W D _ _ (by simp at hD; omega) hK rfl rfl)⟩
  case stop =>
    rintro D c pre W _ _ h _
    exact h.elim
end Go.Proofs.YtdokpmfejibdlaaGreatDoor
