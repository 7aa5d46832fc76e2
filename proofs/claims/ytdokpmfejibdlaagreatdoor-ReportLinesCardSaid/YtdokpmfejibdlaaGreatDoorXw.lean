/- Chapter 54: the reference's components (14): far, numbers, loops; there are no fewer loops than none. -/
import Derived.Test.YtdokpmfejibdlaaGreatDoorXp
set_option linter.unusedSimpArgs false
set_option linter.unusedVariables false
namespace Go.Proofs.YtdokpmfejibdlaaGreatDoor
open Go.RowKit

set_option maxRecDepth 100000 in
set_option maxHeartbeats 1000000 in
theorem rplace_yes (A : Option Addr) (n c : Nat) (l : List DieP) (d : DieP) (i : Nat) (w : World) (hn : n ≤ 1000000) (hS : Sl w 0 w.heap.size 2 encD A n l) (hi : l[i]? = some d) (hb : l.Nodup) :
  Calls Tryz.prog 171 #[.slice A n c, .agg #[.int .i64 d.side, .int .i64 d.num]] w fun e w' => e = .returned (.int .i64 (i : Int)) ∧ Below w.heap.size w w' := by
 have hin : i < n := by have := (List.getElem?_eq_some_iff.1 hi).1; have := hS.len; omega
 have HI : Hid (∀ j, j < i → ∀ x, l[j]? = some x → x ≠ d) := fun j hj x hx e => by
  subst e
  obtain ⟨h1, e1⟩ := List.getElem?_eq_some_iff.1 hi
  obtain ⟨h2, e2⟩ := List.getElem?_eq_some_iff.1 hx
  have := (List.pairwise_iff_getElem.1 hb) j i h2 h1 hj
  rw [e1, e2] at this
  exact this rfl
 have HX := Lib.hid hi
 have HS : Hid (∀ W, Below w.heap.size w W → Sl W 0 W.heap.size 2 encD A n l) := fun W hW => hS.up hW (Nat.le_refl _) (Nat.le_refl _)
 clear hS hb hi
 have X0 := Bx.new w [.int .i64 d.side, .int .i64 d.num] 72
 have X : Bx (w.alloc (.cells #[.int .i64 d.side, .int .i64 d.num] 72)) w.heap.size [.int .i64 d.side, .int .i64 d.num] := X0
 have hb0 := one_alloc w (.cells #[.int .i64 d.side, .int .i64 d.num] 72)
 clear X0
 go_enter Tryz.func171, Tryz.ntmps171
 go_wp2_with fail
 generalize w.alloc (.cells #[.int .i64 d.side, .int .i64 d.num] 72) = w1 at *
 go_loopw [5] (fun s wr => ∃ j : Nat, j ≤ i ∧ s = .int .i64 (j : Int) ∧ Below w.heap.size w wr ∧ Bx wr w.heap.size [.int .i64 d.side, .int .i64 d.num]) (fun s _ => i + 1 - (intOf s).toNat)
 case atStart => exact ⟨0, by omega, rfl, hb0, X⟩
 case round =>
  clear hb0 X
  obtain ⟨j, hj, rfl, hbr, X⟩ := hrel
  obtain ⟨b, off, x, rfl, hbb, hx, x0, x1⟩ := (HS.out _ hbr).di (show j < n by omega)
  have z0 := X.cell 0 _ rfl
  have z1 := X.cell 1 _ rfl
  have hjn : (j : Int) < (n : Int) := by omega
  by_cases he : j = i
  ·have hxd : x = d := by
    rw [he, HX.out] at hx
    exact (Option.some.inj hx).symm
   have heq := eqDiT hxd
   have HJ := Lib.hid he
   clear he hx hxd
   go_wp2_with fail
   go_quiet (fail)
   go_wp2_with fail
   go_ret
   exact ⟨by rw [HJ.out]; rfl, below_drewN hbr _⟩
  ·have heq := eqDiF (HI.out j (by omega) x hx)
   have hji : j < i := by omega
   clear he hx
   go_wp2_with fail
   go_quiet (fail)
   go_wp2_with fail
   go_roundw
   case rel => exact ⟨j + 1, by omega, by go_num, below_drewN hbr _, X.drewN _⟩
   case measure => simp [intOf]; omega
/-- One link of a round of the reference's search. -/
def farStep (k : Nat) (xi yi : Nat) (out : List Int) : List Int :=
 if out[xi]? = some (k : Int) ∧ ∃ v, out[yi]? = some v ∧ v < 0 then out.set yi ((k : Int) + 1) else if out[yi]? = some (k : Int) ∧ ∃ v, out[xi]? = some v ∧ v < 0 then out.set xi ((k : Int) + 1) else out
theorem idx_unique {g : Gr} (hn : (diesG g).Nodup) {i j : Nat} {d : DieP} (h1 : (diesG g)[i]? = some d) (h2 : (diesG g)[j]? = some d) : i = j := by
 obtain ⟨a1, e1⟩ := List.getElem?_eq_some_iff.1 h1
 obtain ⟨a2, e2⟩ := List.getElem?_eq_some_iff.1 h2
 rcases Nat.lt_trichotomy i j with h | h | h
 ·exact absurd (e1.trans e2.symm) ((List.pairwise_iff_getElem.1 hn) i j a1 a2 h)
 ·exact h
 ·exact absurd (e2.trans e1.symm) ((List.pairwise_iff_getElem.1 hn) j i a2 a1 h)
theorem far_step {g : Gr} {t k m xi yi : Nat} {out : List Int} {x : Lnk} (h : FW g t k m out) (hn : (diesG g).Nodup) (hx : g.links[m]? = some x) (h1 : (diesG g)[xi]? = some (obvD x)) (h2 : (diesG g)[yi]? = some (revD x)) :
  FW g t k (m + 1) (farStep k xi yi out) := by
 have hxm := List.mem_of_getElem? hx
 have a1 : AdjI g xi yi := ⟨x, hxm, .inl ⟨h1, h2⟩⟩
 have a2 : AdjI g yi xi := ⟨x, hxm, .inr ⟨h2, h1⟩⟩
 have hxl : xi < out.length := by rw [h.c.len]; exact (List.getElem?_eq_some_iff.1 h1).1
 have hyl : yi < out.length := by rw [h.c.len]; exact (List.getElem?_eq_some_iff.1 h2).1
 have key : ∀ o : List Int, FW g t k m o → (o[xi]? = some (k : Int) → ∃ u, o[yi]? = some u ∧ 0 ≤ u) → (o[yi]? = some (k : Int) → ∃ u, o[xi]? = some u ∧ 0 ≤ u) → FW g t k (m + 1) o := fun o ho p1 p2 =>
  ho.next hx fun i j hi hj => by
   obtain rfl := idx_unique hn hi h1
   obtain rfl := idx_unique hn hj h2
   exact ⟨p1, p2⟩
 have hne : xi ≠ yi := fun e => by subst e; rw [h1] at h2; exact absurd (Option.some.inj h2) (obv_ne_rev x x)
 unfold farStep
 by_cases c1 : out[xi]? = some (k : Int) ∧ ∃ v, out[yi]? = some v ∧ v < 0
 ·rw [if_pos c1]
  obtain ⟨e1, v, e2, hv⟩ := c1
  refine key _ (h.put a1 e1 e2 hv) (fun _ => ⟨_, List.getElem?_set_self hyl, by omega⟩) (fun e => ?_)
  rw [List.getElem?_set_self hyl] at e
  injection e with e
  omega
 ·rw [if_neg c1]
  by_cases c2 : out[yi]? = some (k : Int) ∧ ∃ v, out[xi]? = some v ∧ v < 0
  ·rw [if_pos c2]
   obtain ⟨e1, v, e2, hv⟩ := c2
   refine key _ (h.put a2 e1 e2 hv) (fun e => ?_) (fun _ => ⟨_, List.getElem?_set_self hxl, by omega⟩)
   rw [List.getElem?_set_self hxl] at e
   injection e with e
   omega
  ·rw [if_neg c2]
   refine key _ h (fun e => ?_) (fun e => ?_)
   ·refine ⟨_, List.getElem?_eq_getElem hyl, ?_⟩
    rcases Int.lt_or_le (out[yi]) 0 with hv | hv
    ·exact absurd ⟨e, _, List.getElem?_eq_getElem hyl, hv⟩ c1
    ·exact hv
   ·refine ⟨_, List.getElem?_eq_getElem hxl, ?_⟩
    rcases Int.lt_or_le (out[xi]) 0 with hv | hv
    ·exact absurd ⟨e, _, List.getElem?_eq_getElem hxl, hv⟩ c2
    ·exact hv
theorem RowI.slAll {w : World} {g : Nat} {xs : List Int} (h : RowI w g xs) {n : Nat} (hn : xs.length = n) : Sl w 0 w.heap.size 1 encI (some ⟨g, 0, none⟩) n xs := by
 have := h.sl (k := n) (by omega)
 rwa [List.take_of_length_le (by omega)] at this
theorem RowI.slAllL {w : World} {g L : Nat} {xs : List Int} (h : RowI w g xs) {n : Nat} (hn : xs.length = n) (hL : L ≤ g) : Sl w L w.heap.size 1 encI (some ⟨g, 0, none⟩) n xs := by
 have h0 := h.slAll hn
 refine ⟨h0.1, fun hp => ?_⟩
 obtain ⟨b, off, e, h1, h2, h3⟩ := h0.2 hp
 cases e
 exact ⟨g, 0, rfl, hL, h2, h3⟩
set_option maxRecDepth 100000 in
set_option maxHeartbeats 8000000 in
theorem rfar_yes (A : Option Addr) (n c : Nat) (B : Option Addr) (m d : Nat) (C : Option Addr) (k l : Nat) (g : Gr) (t : Nat) (td : DieP) (w : World) (hG : GrM w A n B m C k g) (hg : GrOk g) (ht : (diesG g)[t]? = some td) :
  Calls Tryz.prog 125 #[.agg #[.slice A n c, .slice B m d, .slice C k l], .agg #[.int .i64 td.side, .int .i64 td.num]] w fun e w' =>
   (∃ A' c' out, e = .returned (.slice A' (diesG g).length c') ∧ out.length = (diesG g).length ∧ Sl w' w.heap.size w'.heap.size 1 encI A' (diesG g).length out ∧ ∀ i : Nat, (∃ v : Int, out[i]? = some v ∧ 0 ≤ v) ↔ ReachI g t i) ∧ Below w.heap.size w w' := by
 have HD : Hid (∀ W, Below w.heap.size w W → Calls Tryz.prog 52 #[.agg #[.slice A n c, .slice B m d, .slice C k l]] W (DiesW W (diesG g) 0)) := fun W hW => rdies13_any A n c B m d C k l g W (hG.up hW) hg
 have HUL : Hid (∀ W, Below w.heap.size w W → Sl W 0 W.heap.size 3 encL C k g.links) := fun W hW => hG.links.up hW (Nat.le_refl _) (Nat.le_refl _)
 have HLN := Lib.hid hG.links.len
 have HND := Lib.hid (diesG_nodup hg)
 have hN64 : (diesG g).length ≤ 64 := by rw [diesG_len]; have := hg.lo; have := hg.lr; omega
 have hk : k ≤ 64 := by have := hG.links.len; have := hg.ll; omega
 have HIX : Hid (∀ x ∈ g.links, ∃ i j : Nat, (diesG g)[i]? = some (obvD x) ∧ (diesG g)[j]? = some (revD x)) := fun x hx => by
  obtain ⟨i, h1, e1⟩ := List.getElem_of_mem (diesG_mem.2 (.inl ⟨rfl, (hg.eo _).2 ⟨x, hx, rfl⟩⟩) : obvD x ∈ diesG g)
  obtain ⟨j, h2, e2⟩ := List.getElem_of_mem (diesG_mem.2 (.inr ⟨rfl, (hg.er _).2 ⟨x, hx, rfl⟩⟩) : revD x ∈ diesG g)
  exact ⟨i, j, by rw [List.getElem?_eq_getElem h1, e1], by rw [List.getElem?_eq_getElem h2, e2]⟩
 have HGG := Lib.hid hg
 have htl := (List.getElem?_eq_some_iff.1 ht).1
 have HT := Lib.hid ht
 clear hG hg ht
 obtain ⟨i0, hi, hz0, hz1, hz2⟩ := info_parts Tryz.infoI
 have D3' : Bx ((w.alloc (.cells #[.slice A n c, .slice B m d, .slice C k l] 52)).alloc (.cells #[.int .i64 td.side, .int .i64 td.num] 72)) (w.heap.size + 1) [.int .i64 td.side, .int .i64 td.num] := by
  have h := Bx.new (w.alloc (.cells #[.slice A n c, .slice B m d, .slice C k l] 52)) [.int .i64 td.side, .int .i64 td.num] 72
  rwa [World.size_alloc] at h
 have D2' : Bx ((w.alloc (.cells #[.slice A n c, .slice B m d, .slice C k l] 52)).alloc (.cells #[.int .i64 td.side, .int .i64 td.num] 72)) w.heap.size [.slice A n c, .slice B m d, .slice C k l] := (Bx.new w [.slice A n c, .slice B m d, .slice C k l] 52).alloc _
 have hb : Below w.heap.size w ((w.alloc (.cells #[.slice A n c, .slice B m d, .slice C k l] 52)).alloc (.cells #[.int .i64 td.side, .int .i64 td.num] 72)) := by (repeat (first | exact Below.refl _ _ | assumption | refine Below.alloc ?_ (by first | omega | (simp only [World.size_alloc]; omega) | (simp; done) | (simp; omega)) _ | refine Below.setCell ?_ (by first | omega | (simp only [World.size_alloc]; omega) | (simp; done) | (simp; omega)) _ | refine Below.drew ?_ | refine below_drewN ?_ _))
 go_enter Tryz.func125, Tryz.ntmps125
 go_wp2_with fail
 generalize (w.alloc (.cells #[.slice A n c, .slice B m d, .slice C k l] 52)).alloc (.cells #[.int .i64 td.side, .int .i64 td.num] 72) = w1 at *
 refine (HD.out _ hb).mono ?_; rintro e w2 ⟨⟨A5, n5, c5, rfl, hn5, hc5, hS5⟩, hb2⟩
 have HBX : Hid (∀ W, Below w2.heap.size w2 W → (W.cell? ⟨w.heap.size, 0, none⟩ = some (.slice A n c) ∧ W.cell? ⟨w.heap.size, 1, none⟩ = some (.slice B m d) ∧ W.cell? ⟨w.heap.size, 2, none⟩ = some (.slice C k l)) ∧ (W.cell? ⟨w.heap.size + 1, 0, none⟩ = some (.int .i64 td.side) ∧ W.cell? ⟨w.heap.size + 1, 1, none⟩ = some (.int .i64 td.num))) := fun W hW => ⟨bx3 ((D2'.up hb2).up hW), bx2c ((D3'.up hb2).up hW)⟩
 have HUW : Hid (∀ W, Below w2.heap.size w2 W → Below w.heap.size w W) := fun W hW => below_keep' (below_keep' hb hb2) hW
 have HDS : Hid (∀ W, Below w2.heap.size w2 W → Sl W 0 W.heap.size 2 encD A5 n5 (diesG g)) := fun W hW => hS5.up hW (Nat.le_refl _) (Nat.le_refl _)
 have HN5 := Lib.hid hS5.len
 have hn64 : n5 ≤ 64 := by have := HN5.out; omega
 have htn : t < n5 := by have := HN5.out; omega
 have HPL : Hid (∀ (dd : DieP) (i : Nat) W, (diesG g)[i]? = some dd → Below w2.heap.size w2 W → Calls Tryz.prog 171 #[.slice A5 n5 c5, .agg #[.int .i64 dd.side, .int .i64 dd.num]] W fun e w' => e = .returned (.int .i64 (i : Int)) ∧ Below W.heap.size W w') := fun dd i W hi hW => rplace_yes A5 n5 c5 _ dd i W hn5 (HDS.out W hW) hi HND.out
 clear hb hb2 D2' D3' hS5 hN64 htl
 go_wp2_with (refine wpList_make_full _ rfl _ _ 36 rfl w2.heap.size 3 i0 (.int .i64 0) 1 Tryz.underlying36 hi hz0 hz1 .i64 .i64 _ _ n5 rfl rfl rfl rfl (by rw [hz2]; omega) (by unfold maxLen; omega) (by omega) ?_; intro w3 hown3 hg3)
 have hb3 : Below w2.heap.size w2 w3 := ⟨hg3.os, hg3.tape, hg3.output, hg3.size, fun k hk => hg3.block k hk (by simp)⟩
 have hR3 : RowI w3 w2.heap.size (List.replicate 0 (-1 : Int) ++ List.replicate (n5 - 0) 0) := by
  refine RowI.of_own (base := w2.heap.size) (e := 3) (n := n5) (cap := n5) ?_ (by simp)
  rw [encI_flat]
  have h := hown3
  rw [show (Value.int .i64 0).cells = #[Value.int .i64 0] from rfl, Nat.mul_one, toList_madeCells_one] at h
  simpa using h
 clear hown3 hg3
 obtain ⟨ob, hob, hob2⟩ : ∃ ob, ob = w2.heap.size ∧ w2.heap.size ≤ ob := ⟨_, rfl, Nat.le_refl _⟩
 rw [← hob] at hR3
 go_wp2_with fail
 simp only [← hob]
 clear hob
 go_loopw [8] (fun i wr => ∃ j : Nat, j ≤ n5 ∧ i = .int .i64 (j : Int) ∧ RowI wr ob (List.replicate j (-1 : Int) ++ List.replicate (n5 - j) 0) ∧ Below w2.heap.size w2 wr) (fun i _ => n5 - (intOf i).toNat)
 case atStart => exact ⟨0, by omega, rfl, hR3, hb3⟩
 case round =>
  clear hR3 hb3
  obtain ⟨j, hj, rfl, hR, hbr⟩ := hrel
  by_cases hlt : j < n5
  ·have hget : (List.replicate j (-1 : Int) ++ List.replicate (n5 - j) 0)[j]? = some 0 := by
    rw [List.getElem?_append_right (by simp), List.getElem?_replicate]
    simp; omega
   have r0 := hR.atI hget
   have f0 := hR.frz j
   have rl := hR.lt
   have hR' := hR.put (i := j) (by simp; omega) (-1)
   have HRE : Hid ((List.replicate j (-1 : Int) ++ List.replicate (n5 - j) 0).set j (-1) = List.replicate (j + 1) (-1 : Int) ++ List.replicate (n5 - (j + 1)) 0) := by
    show _ = _
    rw [List.set_append_right _ _ (by simp), List.length_replicate, Nat.sub_self, show n5 - j = (n5 - (j + 1)) + 1 by omega, List.replicate_succ, List.set_cons_zero, List.replicate_succ']
    simp
   rw [HRE.out] at hR'
   have hbr' := hbr.setCell (p := ⟨ob, j, none⟩) hob2 (.int .i64 (-1))
   clear hget hR
   go_wp2_with fail
   exact ⟨⟨j + 1, by omega, by go_num, hR', hbr'⟩, by simp [intOf]; omega⟩
  ·obtain rfl : j = n5 := by omega
   rename World => w4
   rw [Nat.sub_self, List.replicate_zero, List.append_nil] at hR
   obtain ⟨⟨g0, g1, g2⟩, z0, z1⟩ := HBX.out _ hbr
   go_wp2_with fail
   refine (HPL.out td t _ HT.out hbr).mono ?_; rintro e w5 ⟨rfl, hb5⟩
   replace hR := hR.up hb5
   replace hbr := below_keep' hbr hb5
   clear g0 g1 g2 z0 z1 hb5
   obtain ⟨⟨g0, g1, g2⟩, z0, z1⟩ := HBX.out _ hbr
   have ht0 : ¬ ((t : Int) < 0) := by omega
   go_wp2_with fail
   refine (HPL.out td t _ HT.out hbr).mono ?_; rintro e w6 ⟨rfl, hb6⟩
   replace hR := hR.up hb6
   replace hbr := below_keep' hbr hb6
   clear g0 g1 g2 z0 z1 hb6
   have r0 := hR.atI (i := t) (x := -1) (by rw [List.getElem?_replicate, if_pos htn])
   have f0 := hR.frz t
   have rl := hR.lt
   have hR7 := hR.put (i := t) (by simp; omega) 0
   have HF0 : Hid (FR g t 0 ((List.replicate j (-1 : Int)).set t 0)) := FR.start (ht := by have := HN5.out; omega) (by rw [HN5.out])
   have hb7 := hbr.setCell (p := ⟨ob, t, none⟩) hob2 (.int .i64 0)
   have htn2 : (t : Int) < (j : Int) := by omega
   clear hR
   go_wp2_with fail
   clear r0 f0 rl
   generalize w6.setCell ⟨ob, t, none⟩ (.int .i64 0) = w7 at *
   obtain ⟨n5, hn5e⟩ : ∃ n5, n5 = j := ⟨_, rfl⟩
   simp only [← hn5e] at *
   clear hn5e
   go_loopw [9] (fun kk wr => ∃ (q : Nat) (out : List Int), q ≤ n5 ∧ kk = .int .i64 (q : Int) ∧ FR g t q out ∧ RowI wr ob out ∧ Below w2.heap.size w2 wr) (fun kk _ => n5 - (intOf kk).toNat)
   case atStart => exact ⟨0, _, by omega, rfl, HF0.out, hR7, hb7⟩
   case round =>
    clear hR7 hb7 HF0
    obtain ⟨q, out, hq, rfl, hFR, hR, hbr⟩ := hrel
    by_cases hlq : q < n5
    ·have hFW := hFR.begin
     clear hFR
     go_wp2_with fail
     go_loopw [10] (fun i wp => ∃ (p : Nat) (out : List Int), p ≤ k ∧ i = .int .i64 (p : Int) ∧ FW g t q p out ∧ RowI wp ob out ∧ Below w2.heap.size w2 wp) (fun i _ => k - (intOf i).toNat)
     case atStart => exact ⟨0, out, by omega, rfl, hFW, hR, hbr⟩
     case round =>
      clear hFW hR hbr
      obtain ⟨p, out, hp, rfl, hFW, hR, hbp⟩ := hrel
      obtain ⟨⟨g0, g1, g2⟩, z0, z1⟩ := HBX.out _ hbp
      have holn := hFW.c.len
      by_cases hlp : p < k
      ·obtain ⟨b, off, x, rfl, hbb, hx, x0, x1, x2⟩ := (HUL.out _ (HUW.out _ hbp)).ln hlp
       obtain ⟨xi, yi, hxi, hyi⟩ := HIX.out x (List.mem_of_getElem? hx)
       have HFS := Lib.hid (far_step hFW HND.out hx hxi hyi)
       have hxl : xi < out.length := by rw [holn]; exact (List.getElem?_eq_some_iff.1 hxi).1
       have hyl : yi < out.length := by rw [holn]; exact (List.getElem?_eq_some_iff.1 hyi).1
       have holn5 : out.length = n5 := by rw [holn, HN5.out]
       have HPX : Hid (∀ W, Below w2.heap.size w2 W → Calls Tryz.prog 171 #[.slice A5 n5 c5, .agg #[.int .i64 0, .int .i64 x.obv]] W fun e w' => e = .returned (.int .i64 (xi : Int)) ∧ Below W.heap.size W w') := fun W hW => HPL.out (obvD x) xi W hxi hW
       have HPY : Hid (∀ W, Below w2.heap.size w2 W → Calls Tryz.prog 171 #[.slice A5 n5 c5, .agg #[.int .i64 1, .int .i64 x.rev]] W fun e w' => e = .returned (.int .i64 (yi : Int)) ∧ Below W.heap.size W w') := fun W hW => HPL.out (revD x) yi W hyi hW
       have HEN := Lib.hid (rends_any x)
       clear hx hxi hyi holn hFW
       go_wp2_with fail
       refine (HEN.out _).mono ?_; rintro e w8 ⟨rfl, hb8⟩
       replace hR := hR.up hb8
       replace hbp := below_keep' hbp hb8
       clear g0 g1 g2 z0 z1 hb8 HEN x0 x1 x2
       go_wp2_with fail
       have Y1 : Bx ((w8.alloc (.cells #[.int .i64 0, .int .i64 x.obv] 72)).alloc (.cells #[.int .i64 1, .int .i64 x.rev] 72)) w8.heap.size [.int .i64 0, .int .i64 x.obv] := (Bx.new w8 [.int .i64 0, .int .i64 x.obv] 72).alloc _
       have Y2 : Bx ((w8.alloc (.cells #[.int .i64 0, .int .i64 x.obv] 72)).alloc (.cells #[.int .i64 1, .int .i64 x.rev] 72)) (w8.heap.size + 1) [.int .i64 1, .int .i64 x.rev] := by
        have h := Bx.new (w8.alloc (.cells #[.int .i64 0, .int .i64 x.obv] 72)) [.int .i64 1, .int .i64 x.rev] 72
        rwa [World.size_alloc] at h
       have hb9 : Below w8.heap.size w8 ((w8.alloc (.cells #[.int .i64 0, .int .i64 x.obv] 72)).alloc (.cells #[.int .i64 1, .int .i64 x.rev] 72)) := by (repeat (first | exact Below.refl _ _ | assumption | refine Below.alloc ?_ (by first | omega | (simp only [World.size_alloc]; omega) | (simp; done) | (simp; omega)) _ | refine Below.setCell ?_ (by first | omega | (simp only [World.size_alloc]; omega) | (simp; done) | (simp; omega)) _ | refine Below.drew ?_ | refine below_drewN ?_ _))
       replace hR := (hR.up hb9).up (Below.drew (Below.refl _ _))
       replace hbp := below_keep' hbp hb9
       generalize (w8.alloc (.cells #[.int .i64 0, .int .i64 x.obv] 72)).alloc (.cells #[.int .i64 1, .int .i64 x.rev] 72) = W5 at *
       generalize w8.heap.size = ba at *
       have HBB : Hid (∀ W, Below W5.drew.heap.size W5.drew W → (W.cell? ⟨ba, 0, none⟩ = some (.int .i64 0) ∧ W.cell? ⟨ba, 1, none⟩ = some (.int .i64 x.obv)) ∧ (W.cell? ⟨ba + 1, 0, none⟩ = some (.int .i64 1) ∧ W.cell? ⟨ba + 1, 1, none⟩ = some (.int .i64 x.rev))) := fun W hW => ⟨bx2c ((Y1.up (Below.drew (Below.refl _ _))).up hW), bx2c ((Y2.up (Below.drew (Below.refl _ _))).up hW)⟩
       have HCU : Hid (∀ W, Below W5.drew.heap.size W5.drew W → Below w2.heap.size w2 W) := fun W hW => below_keep' hbp.drew hW
       have hC := Below.refl W5.drew.heap.size W5.drew
       clear Y1 Y2 hb9 hbp
       refine wp_region_noPanic ?_
       refine wp_region_held_drew (S := fun U => (U.cell? ⟨ba, 0, none⟩ = some (.int .i64 0) ∧ U.cell? ⟨ba, 1, none⟩ = some (.int .i64 x.obv)) ∧ (U.cell? ⟨ba + 1, 0, none⟩ = some (.int .i64 1) ∧ U.cell? ⟨ba + 1, 1, none⟩ = some (.int .i64 x.rev))) (by kernel_rfl) (HBB.out _ hC) (fun hHeld => ?_)
       generalize W5.drew = W6 at *
       refine' takeW 0 ?_ ?_ ?_ (by kernel_rfl) (by kernel_rfl) (by kernel_rfl) (fun _ _ _ h => h) hHeld ?_
       rotate_left 2
       ·(simp only [List.getElem?_toArray, List.getElem?_cons_succ, List.getElem?_cons_zero]; try rfl)
       ·rfl
       ·(intro w hSw; (try dsimp only at hSw); go_simp; first | done | with_reducible rfl)
       (try simp only [Act.put, List.setIfInBounds_toArray, List.set_cons_zero, List.set_cons_succ])
       refine' takeW 1 ?_ ?_ ?_ (by kernel_rfl) (by kernel_rfl) (by kernel_rfl) (fun _ _ _ h => h) hHeld ?_
       rotate_left 2
       ·(simp only [List.getElem?_toArray, List.getElem?_cons_succ, List.getElem?_cons_zero]; try rfl)
       ·rfl
       ·(intro w hSw; (try dsimp only at hSw); go_simp; first | done | with_reducible rfl)
       (try simp only [Act.put, List.setIfInBounds_toArray, List.set_cons_zero, List.set_cons_succ])
       refine' takeW 3 ?_ ?_ ?_ (by kernel_rfl) (by kernel_rfl) (by kernel_rfl) (fun _ _ _ h => h) hHeld ?_
       rotate_left 2
       ·(simp only [List.getElem?_toArray, List.getElem?_cons_succ, List.getElem?_cons_zero]; try rfl)
       ·rfl
       ·(intro w hSw; (try dsimp only at hSw); go_simp; first | done | with_reducible rfl)
       (try simp only [Act.put, List.setIfInBounds_toArray, List.set_cons_zero, List.set_cons_succ])
       refine' takeW 4 ?_ ?_ ?_ (by kernel_rfl) (by kernel_rfl) (by kernel_rfl) (fun _ _ _ h => h) hHeld ?_
       rotate_left 2
       ·(simp only [List.getElem?_toArray, List.getElem?_cons_succ, List.getElem?_cons_zero]; try rfl)
       ·rfl
       ·(intro w hSw; (try dsimp only at hSw); go_simp; first | done | with_reducible rfl)
       (try simp only [Act.put, List.setIfInBounds_toArray, List.set_cons_zero, List.set_cons_succ])
       refine wpAnyH_ready (rs := [2]) (by kernel_rfl) (by simp) ?_
       refine' AllReadyH.cons ?_ (fun K hK => ?_) AllReadyH.nil
       rotate_left 1
       ·(simp only [List.getElem?_toArray, List.getElem?_cons_succ, List.getElem?_cons_zero]; try rfl)
       (try go_simp)
       go_at_call 171
       refine (HPX.out _ (HCU.out _ hC)).mono ?_
       rintro e wz ⟨rfl, hbz⟩
       replace hC := below_keep' hC hbz
       (try go_simp)
       refine hK.out _ _ ?_ (fun hHeld => ?_)
       ·exact HBB.out _ hC
       clear hK K
       (try simp only [Act.put, List.setIfInBounds_toArray, List.set_cons_zero, List.set_cons_succ])
       refine wpAnyH_ready (rs := [5]) (by kernel_rfl) (by simp) ?_
       refine' AllReadyH.cons ?_ (fun K hK => ?_) AllReadyH.nil
       rotate_left 1
       ·(simp only [List.getElem?_toArray, List.getElem?_cons_succ, List.getElem?_cons_zero]; try rfl)
       (try go_simp)
       go_at_call 171
       refine (HPY.out _ (HCU.out _ hC)).mono ?_
       rintro e wz ⟨rfl, hbz⟩
       replace hC := below_keep' hC hbz
       (try go_simp)
       refine hK.out _ _ ?_ (fun hHeld => ?_)
       ·exact HBB.out _ hC
       clear hK K
       (try simp only [Act.put, List.setIfInBounds_toArray, List.set_cons_zero, List.set_cons_succ])
       refine' takeW 6 ?_ ?_ ?_ (by kernel_rfl) (by kernel_rfl) (by kernel_rfl) (fun _ _ _ h => h) hHeld ?_
       rotate_left 2
       ·(simp only [List.getElem?_toArray, List.getElem?_cons_succ, List.getElem?_cons_zero]; try rfl)
       ·rfl
       ·(intro w hSw; (try dsimp only at hSw); go_simp; first | done | with_reducible rfl)
       (try simp only [Act.put, List.setIfInBounds_toArray, List.set_cons_zero, List.set_cons_succ])
       refine' takeW 7 ?_ ?_ ?_ (by kernel_rfl) (by kernel_rfl) (by kernel_rfl) (fun _ _ _ h => h) hHeld ?_
       rotate_left 2
       ·(simp only [List.getElem?_toArray, List.getElem?_cons_succ, List.getElem?_cons_zero]; try rfl)
       ·rfl
       ·(intro w hSw; (try dsimp only at hSw); go_simp; first | done | with_reducible rfl)
       (try simp only [Act.put, List.setIfInBounds_toArray, List.set_cons_zero, List.set_cons_succ])
       refine wpAnyH_done (by kernel_rfl) ?_ _
       refine NoPanic.normal ?_
       clear hHeld
       replace hR := hR.up hC
       replace hbp := HCU.out _ hC
       obtain ⟨uo, huo⟩ : ∃ uo, out[xi]? = some uo := ⟨_, List.getElem?_eq_getElem hxl⟩
       obtain ⟨vo, hvo⟩ : ∃ vo, out[yi]? = some vo := ⟨_, List.getElem?_eq_getElem hyl⟩
       have r0 := hR.atI huo
       have r1 := hR.atI hvo
       have f0 := hR.frz xi
       have f1 := hR.frz yi
       have rl := hR.lt
       have hxn : (xi : Int) < (n5 : Int) := by omega
       have hyn : (yi : Int) < (n5 : Int) := by omega
       have HFSX : Hid (∀ o, farStep q xi yi out = o → FW g t q (p + 1) o) := fun o h => by rw [← h]; exact HFS.out
       have HUO := Lib.hid huo
       have HVO := Lib.hid hvo
       have hk1 : IntKind.i64.wrap ((q : Int) + 1) = (q : Int) + 1 := IntWalk.i64_in _ (by omega)
       clear huo hvo HFS
       by_cases c1 : uo = (q : Int) ∧ vo < 0
       ·have b1 : (uo == (q : Int)) = true := by simpa using c1.1
        have b2 : decide (vo < 0) = true := decide_eq_true c1.2
        have HO : Hid (farStep q xi yi out = out.set yi ((q : Int) + 1)) := if_pos ⟨by rw [HUO.out, c1.1], _, HVO.out, c1.2⟩
        have hR7 := hR.put hyl ((q : Int) + 1)
        have s0 := hR7.atI (i := yi) (List.getElem?_set_self hyl)
        have b3 : ((q : Int) + 1 == (q : Int)) = false := by simp; omega
        replace hbp := hbp.setCell (p := ⟨ob, yi, none⟩) hob2 (.int .i64 ((q : Int) + 1))
        clear c1
        go_wp2_with fail
        exact ⟨⟨p + 1, _, by omega, by go_num, HFSX.out _ HO.out, hR7, hbp⟩, by simp [intOf]; omega⟩
       ·have HN1 : Hid (¬ (out[xi]? = some (q : Int) ∧ ∃ v, out[yi]? = some v ∧ v < 0)) := by
         rintro ⟨e1, v, e2, hv⟩
         rw [HUO.out] at e1
         rw [HVO.out] at e2
         exact c1 ⟨Option.some.inj e1, by rw [Option.some.inj e2]; exact hv⟩
        by_cases c2 : vo = (q : Int) ∧ uo < 0
        ·have b0 : (uo == (q : Int)) = false := by simp; omega
         have b1 : (vo == (q : Int)) = true := by simpa using c2.1
         have b2 : decide (uo < 0) = true := decide_eq_true c2.2
         have HO : Hid (farStep q xi yi out = out.set xi ((q : Int) + 1)) := by
          show _ = _
          unfold farStep
          rw [if_neg HN1.out, if_pos ⟨by rw [HVO.out, c2.1], _, HUO.out, c2.2⟩]
         have hR7 := hR.put hxl ((q : Int) + 1)
         replace hbp := hbp.setCell (p := ⟨ob, xi, none⟩) hob2 (.int .i64 ((q : Int) + 1))
         clear c1 c2
         go_wp2_with fail
         exact ⟨⟨p + 1, _, by omega, by go_num, HFSX.out _ HO.out, hR7, hbp⟩, by simp [intOf]; omega⟩
        ·have HO : Hid (farStep q xi yi out = out) := by
          show _ = _
          unfold farStep
          rw [if_neg HN1.out, if_neg]
          rintro ⟨e1, v, e2, hv⟩
          rw [HVO.out] at e1
          rw [HUO.out] at e2
          exact c2 ⟨Option.some.inj e1, by rw [Option.some.inj e2]; exact hv⟩
         have k1 : (uo == (q : Int)) = false ∨ ((uo == (q : Int)) = true ∧ decide (vo < 0) = false) := by
          by_cases e : uo = (q : Int)
          ·exact .inr ⟨by simpa using e, decide_eq_false (fun h => c1 ⟨e, h⟩)⟩
          ·exact .inl (by simpa using e)
         have k2 : (vo == (q : Int)) = false ∨ ((vo == (q : Int)) = true ∧ decide (uo < 0) = false) := by
          by_cases e : vo = (q : Int)
          ·exact .inr ⟨by simpa using e, decide_eq_false (fun h => c2 ⟨e, h⟩)⟩
          ·exact .inl (by simpa using e)
         clear c1 c2
         rcases k1 with b1 | ⟨b1, b2⟩ <;> rcases k2 with b3 | ⟨b3, b4⟩
         all_goals
          go_wp2_with fail
          exact ⟨⟨p + 1, _, by omega, by go_num, HFSX.out _ HO.out, hR, hbp⟩, by simp [intOf]; omega⟩
      ·obtain rfl : p = k := by omega
       have hFR' := hFW.done HLN.out
       go_wp2_with fail
       exact ⟨⟨q + 1, out, by omega, by go_num, hFR', hR, hbp⟩, by simp [intOf]; omega⟩
    ·obtain rfl : q = n5 := by omega
     have hol := hFR.c.len
     have hall := fun i => hFR.all HGG.out HN5.out i
     have HAL := Lib.hid hall
     have HSL := Lib.hid (hR.slAllL (n := q) (L := w.heap.size) (by rw [hol, HN5.out]) (Nat.le_trans (HUW.out _ (Below.refl _ _)).size hob2))
     have HOL := Lib.hid hol
     clear hall hol hFR
     go_wp2_with fail
     go_ret
     exact ⟨⟨_, q, out, by rw [HN5.out]; rfl, HOL.out, by rw [HN5.out]; exact HSL.out, HAL.out⟩, HUW.out _ hbr⟩
theorem countP_one {p q : Nat → Bool} : ∀ n : Nat, (∀ i k : Nat, i < n → k < n → p i = true → q i = false → p k = true → q k = false → i = k) → (List.range n).countP p ≤ (List.range n).countP q + 1
 | 0, _ => by simp
 | n + 1, h => by
  rw [List.range_succ, List.countP_append, List.countP_append, List.countP_singleton, List.countP_singleton]
  by_cases c : p n = true ∧ q n = false
  ·have h1 : (List.range n).countP p ≤ (List.range n).countP q := List.countP_mono_left fun i hi hp => by
    cases hq : q i
    ·have := List.mem_range.1 hi
     exact absurd (h i n (by omega) (by omega) hp hq c.1 c.2) (by omega)
    ·rfl
   rw [if_pos c.1]
   omega
  ·have := countP_one (p := p) (q := q) n (fun i k hi hk => h i k (by omega) (by omega))
   cases hp : p n
   ·simp; omega
   ·cases hq : q n
    ·exact absurd ⟨hp, hq⟩ c
    ·simp; omega
theorem reach_snoc {o r : List Int} {l : List Lnk} {x : Lnk} {a b : DieP} (h : Reach ⟨o, r, l ++ [x]⟩ a b) : Reach ⟨o, r, l⟩ a b ∨ (Reach ⟨o, r, l⟩ a (obvD x) ∧ Reach ⟨o, r, l⟩ (revD x) b) ∨ (Reach ⟨o, r, l⟩ a (revD x) ∧ Reach ⟨o, r, l⟩ (obvD x) b) := by
 induction h with
 | refl => exact .inl .refl
 | @step b c h1 h2 ih =>
  obtain ⟨y, hy, e⟩ := h2
  rcases List.mem_append.1 hy with hy | hy
  ·have h3 : AdjD ⟨o, r, l⟩ b c := ⟨y, hy, e⟩
   rcases ih with ih | ⟨i1, i2⟩ | ⟨i1, i2⟩
   ·exact .inl (.step ih h3)
   ·exact .inr (.inl ⟨i1, .step i2 h3⟩)
   ·exact .inr (.inr ⟨i1, .step i2 h3⟩)
  ·obtain rfl := List.mem_singleton.1 hy
   rcases across_iff.1 e with ⟨rfl, rfl⟩ | ⟨rfl, rfl⟩
   ·rcases ih with ih | ⟨i1, i2⟩ | ⟨i1, i2⟩
    ·exact .inr (.inl ⟨ih, .refl⟩)
    ·exact .inr (.inl ⟨i1, .refl⟩)
    ·exact .inl i1
   ·rcases ih with ih | ⟨i1, i2⟩ | ⟨i1, i2⟩
    ·exact .inr (.inr ⟨ih, .refl⟩)
    ·exact .inl i1
    ·exact .inr (.inr ⟨i1, .refl⟩)
theorem reach_more {o r : List Int} {l : List Lnk} {x : Lnk} {a b : DieP} (h : Reach ⟨o, r, l⟩ a b) : Reach ⟨o, r, l ++ [x]⟩ a b := by
 induction h with
 | refl => exact .refl
 | step _ h2 ih =>
  obtain ⟨y, hy, e⟩ := h2
  exact .step ih ⟨y, List.mem_append_left _ hy, e⟩
/-- A place that was a first one and is none with one link more: of its component is the one end, and the other end's component begins ahead. -/
theorem first_lost {o r : List Int} {l : List Lnk} {x : Lnk} {i : Nat} {d : DieP} (hd : (diesG ⟨o, r, l⟩)[i]? = some d) (h1 : FirstI ⟨o, r, l⟩ i) (h2 : ¬ FirstI ⟨o, r, l ++ [x]⟩ i) :
  ∃ (j : Nat) (c : DieP), j < i ∧ (diesG ⟨o, r, l⟩)[j]? = some c ∧ ((Reach ⟨o, r, l⟩ c (obvD x) ∧ Reach ⟨o, r, l⟩ (revD x) d) ∨ (Reach ⟨o, r, l⟩ c (revD x) ∧ Reach ⟨o, r, l⟩ (obvD x) d)) := by
 obtain ⟨j, hj, hr⟩ : ∃ j, j < i ∧ ReachI ⟨o, r, l ++ [x]⟩ j i := by
  apply Classical.byContradiction
  intro hn
  exact h2 fun j hj hr => hn ⟨j, hj, hr⟩
 obtain ⟨c, d', hc, hd', hR⟩ := hr
 obtain rfl : d' = d := Option.some.inj (hd'.symm.trans hd)
 refine ⟨j, c, hj, hc, ?_⟩
 rcases reach_snoc hR with h | h | h
 ·exact absurd ⟨c, d', hc, hd, h⟩ (h1 j hj)
 ·exact .inl h
 ·exact .inr h
theorem first_same {g : Gr} {i k : Nat} (h1 : FirstI g i) (h2 : FirstI g k) (h : ReachI g i k) : i = k := by
 rcases Nat.lt_trichotomy i k with h3 | h3 | h3
 ·exact absurd h (h2 i h3)
 ·exact h3
 ·exact absurd h.symm (h1 k h3)
theorem lost_one {o r : List Int} {l : List Lnk} {x : Lnk} {i k : Nat} {a b : DieP} (ha : (diesG ⟨o, r, l⟩)[i]? = some a) (hb : (diesG ⟨o, r, l⟩)[k]? = some b)
  (i1 : FirstI ⟨o, r, l⟩ i) (i2 : ¬ FirstI ⟨o, r, l ++ [x]⟩ i) (k1 : FirstI ⟨o, r, l⟩ k) (k2 : ¬ FirstI ⟨o, r, l ++ [x]⟩ k) : i = k := by
 obtain ⟨j, c, hj, hc, hJ⟩ := first_lost ha i1 i2
 obtain ⟨m, e, hm, he, hM⟩ := first_lost hb k1 k2
 have cross : Reach ⟨o, r, l⟩ c b → Reach ⟨o, r, l⟩ e a → i = k := fun p q => by
  have p1 : ¬ j < k := fun h => k1 j h ⟨c, b, hc, hb, p⟩
  have q1 : ¬ m < i := fun h => i1 m h ⟨e, a, he, ha, q⟩
  omega
 rcases hJ with ⟨j1, j2⟩ | ⟨j1, j2⟩ <;> rcases hM with ⟨m1, m2⟩ | ⟨m1, m2⟩
 ·exact first_same i1 k1 ⟨a, b, ha, hb, j2.symm.trans m2⟩
 ·exact cross (j1.trans m2) (m1.trans j2)
 ·exact cross (j1.trans m2) (m1.trans j2)
 ·exact first_same i1 k1 ⟨a, b, ha, hb, j2.symm.trans m2⟩
theorem loops_key {g : Gr} (hg : GrOk g) (l : List Lnk) : (diesG g).length ≤ l.length + cntF ⟨g.obv, g.rev, l⟩ (diesG g).length := by
 revert l
 refine snocIndW ?_ ?_
 ·have hall : ∀ i ∈ List.range (diesG g).length, isFirst ⟨g.obv, g.rev, []⟩ i = true := fun i hi => by
   rw [isFirst_iff]
   rintro j hj ⟨a, b, ha, hb, hR⟩
   obtain rfl : a = b := by
    cases hR with
    | refl => rfl
    | step _ h => obtain ⟨y, hy, _⟩ := h; cases hy
   obtain ⟨a1, e1⟩ := List.getElem?_eq_some_iff.1 ha
   obtain ⟨a2, e2⟩ := List.getElem?_eq_some_iff.1 hb
   exact absurd (e1.trans e2.symm) ((List.pairwise_iff_getElem.1 (diesG_nodup hg)) j i a1 a2 hj)
  have : cntF ⟨g.obv, g.rev, []⟩ (diesG g).length = (diesG g).length := by
   unfold cntF
   rw [List.countP_eq_length.2 hall, List.length_range]
  rw [this]
  exact Nat.le_add_left _ _
 ·intro l x ih
  have h1 : cntF ⟨g.obv, g.rev, l⟩ (diesG g).length ≤ cntF ⟨g.obv, g.rev, l ++ [x]⟩ (diesG g).length + 1 := by
   unfold cntF
   refine countP_one _ fun i k hi hk p1 q1 p2 q2 => ?_
   have hi' : i < (diesG ⟨g.obv, g.rev, l⟩).length := hi
   have hk' : k < (diesG ⟨g.obv, g.rev, l⟩).length := hk
   refine lost_one (List.getElem?_eq_getElem hi') (List.getElem?_eq_getElem hk') (isFirst_iff.1 p1) (x := x) (fun h => ?_) (isFirst_iff.1 p2) (fun h => ?_)
   ·rw [isFirst_iff.2 h] at q1; cases q1
   ·rw [isFirst_iff.2 h] at q2; cases q2
  rw [List.length_append, List.length_singleton]
  omega
theorem loops_pos {g : Gr} (hg : GrOk g) : 0 ≤ loopsG g := by
 have h : (diesG g).length ≤ g.links.length + cntF g (diesG g).length := loops_key hg g.links
 unfold loopsG
 rw [show (chainsG g).length = cntF g (diesG g).length by unfold chainsG; simp]
 rw [diesG_len] at *
 omega
/-- The numbers in the making: what is known has its component's number, the rest -1. -/
def PO (g : Gr) (P : Nat → Prop) (out : List Int) : Prop := out.length = (diesG g).length ∧ ∀ k : Nat, k < (diesG g).length → (P k → out[k]? = some (partI g k : Int)) ∧ (¬ P k → out[k]? = some (-1))
theorem PO.start {g : Gr} : PO g (KnownI g 0) (List.replicate (diesG g).length (-1)) :=
 ⟨by simp, fun k hk => ⟨fun ⟨j, hj, _⟩ => absurd hj (by omega), fun _ => by rw [List.getElem?_replicate, if_pos hk]⟩⟩
theorem PO.congr {g : Gr} {P Q : Nat → Prop} {out : List Int} (h : PO g P out) (hk : ∀ k, k < (diesG g).length → (P k ↔ Q k)) : PO g Q out :=
 ⟨h.1, fun k hl => ⟨fun hq => (h.2 k hl).1 ((hk k hl).2 hq), fun hq => (h.2 k hl).2 fun hp => hq ((hk k hl).1 hp)⟩⟩
theorem PO.put {g : Gr} {P : Nat → Prop} {out : List Int} (h : PO g P out) {p : Nat} (hp : p < (diesG g).length) : PO g (fun z => P z ∨ z = p) (out.set p (partI g p : Int)) := by
 refine ⟨by rw [List.length_set]; exact h.1, fun k hk => ?_⟩
 by_cases e : p = k
 ·subst e
  rw [List.getElem?_set_self (by rw [h.1]; exact hk)]
  exact ⟨fun _ => rfl, fun hn => absurd (.inr rfl) hn⟩
 ·rw [List.getElem?_set_ne e]
  exact ⟨fun hq => (h.2 k hk).1 (hq.resolve_right fun e' => e e'.symm), fun hq => (h.2 k hk).2 fun hp' => hq (.inl hp')⟩
theorem PO.done {g : Gr} {out : List Int} (h : PO g (KnownI g (diesG g).length) out) : out = partsG g := by
 apply List.ext_getElem?
 intro k
 unfold partsG
 rcases Nat.lt_or_ge k (diesG g).length with hk | hk
 ·rw [(h.2 k hk).1 ⟨k, hk, .refl hk⟩, List.getElem?_map, List.getElem?_range hk]
  rfl
 ·rw [List.getElem?_eq_none (by rw [h.1]; exact hk), List.getElem?_eq_none (by simp; exact hk)]
/-- Within a round: the places ahead of p that are reached have got their number. -/
def KP (g : Gr) (i p z : Nat) : Prop := KnownI g i z ∨ (z < p ∧ ReachI g i z)
theorem PO.inner {g : Gr} {i : Nat} {out : List Int} (h : PO g (KnownI g i) out) : PO g (KP g i 0) out :=
 h.congr fun k _ => ⟨.inl, fun h => h.resolve_right fun ⟨h1, _⟩ => absurd h1 (by omega)⟩
theorem PO.hit {g : Gr} {i p : Nat} {out : List Int} (h : PO g (KP g i p) out) (hi : i < (diesG g).length) (hf : ¬ KnownI g i i) (hp : p < (diesG g).length) (hr : ReachI g i p) : PO g (KP g i (p + 1)) (out.set p (cntF g i : Int)) := by
 rw [← partI_first hi (known_first.1 hf), partI_congr hr]
 refine (h.put hp).congr fun k _ => ?_
 unfold KP
 constructor
 ·rintro ((h1 | ⟨h1, h2⟩) | rfl)
  ·exact .inl h1
  ·exact .inr ⟨by omega, h2⟩
  ·exact .inr ⟨by omega, hr⟩
 ·rintro (h1 | ⟨h1, h2⟩)
  ·exact .inl (.inl h1)
  ·by_cases e : k = p
   ·exact .inr e
   ·exact .inl (.inr ⟨by omega, h2⟩)
theorem PO.miss {g : Gr} {i p : Nat} {out : List Int} (h : PO g (KP g i p) out) (hr : ¬ ReachI g i p) : PO g (KP g i (p + 1)) out := by
 refine h.congr fun k _ => ?_
 unfold KP
 constructor
 ·rintro (h1 | ⟨h1, h2⟩)
  ·exact .inl h1
  ·exact .inr ⟨by omega, h2⟩
 ·rintro (h1 | ⟨h1, h2⟩)
  ·exact .inl h1
  ·by_cases e : k = p
   ·subst e; exact absurd h2 hr
   ·exact .inr ⟨by omega, h2⟩
theorem PO.outer {g : Gr} {i : Nat} {out : List Int} (h : PO g (KP g i (diesG g).length) out) : PO g (KnownI g (i + 1)) out :=
 h.congr fun k hk => by rw [known_succ]; unfold KP; exact ⟨fun h => h.imp_right And.right, fun h => h.imp_right fun h => ⟨hk, h⟩⟩
theorem PO.skip {g : Gr} {i : Nat} {out : List Int} (h : PO g (KnownI g i) out) (hi : i < (diesG g).length) (hk : KnownI g i i) : PO g (KnownI g (i + 1)) out ∧ cntF g (i + 1) = cntF g i := by
 refine ⟨h.congr fun k _ => (known_skip hi hk).symm, ?_⟩
 rw [cntF_succ, if_neg]
 ·rfl
 ·rw [isFirst_iff]; exact fun hf => known_first.2 hf hk
theorem cntF_first {g : Gr} {i : Nat} (hf : ¬ KnownI g i i) : cntF g (i + 1) = cntF g i + 1 := by
 rw [cntF_succ, if_pos (isFirst_iff.2 (known_first.1 hf))]
theorem num_step {g : Gr} {i : Nat} (hi : i < (diesG g).length) : (if (cntF g i : Int) < (partI g i : Int) + 1 then (partI g i : Int) + 1 else (cntF g i : Int)) = (cntF g (i + 1) : Int) := by
 by_cases hk : KnownI g i i
 ·have hlt : partI g i < cntF g i := by
   unfold partI
   refine cntF_lt (firstI_first hi) ?_
   obtain ⟨h1, h2, h3⟩ := firstI_spec hi
   rcases Nat.lt_or_ge (firstI g i) i with h | h
   ·exact h
   ·obtain ⟨j, hj, hr⟩ := hk
    exact absurd hr (h3 j (by omega))
  have e : cntF g (i + 1) = cntF g i := by
   rw [cntF_succ, if_neg]
   ·rfl
   ·rw [isFirst_iff]; exact fun hf => known_first.2 hf hk
  rw [if_neg (by omega), e]
 ·have := partI_first hi (known_first.1 hk)
  have := cntF_first hk
  rw [if_pos (by omega)]
  omega
set_option maxRecDepth 100000 in
set_option maxHeartbeats 8000000 in
theorem rparts14_any (A : Option Addr) (n c : Nat) (B : Option Addr) (m d : Nat) (C : Option Addr) (k l : Nat) (g : Gr) (w : World) (hG : GrM w A n B m C k g) (hg : GrOk g) :
  Calls Tryz.prog 81 #[.agg #[.slice A n c, .slice B m d, .slice C k l]] w (NumsW w (partsG g) 0) := by
 have HD : Hid (∀ W, Below w.heap.size w W → Calls Tryz.prog 52 #[.agg #[.slice A n c, .slice B m d, .slice C k l]] W (DiesW W (diesG g) 0)) := fun W hW => rdies13_any A n c B m d C k l g W (hG.up hW) hg
 have HF : Hid (∀ (t : Nat) (td : DieP) W, (diesG g)[t]? = some td → Below w.heap.size w W → Calls Tryz.prog 125 #[.agg #[.slice A n c, .slice B m d, .slice C k l], .agg #[.int .i64 td.side, .int .i64 td.num]] W fun e w' => (∃ A' c' out, e = .returned (.slice A' (diesG g).length c') ∧ out.length = (diesG g).length ∧ Sl w' W.heap.size w'.heap.size 1 encI A' (diesG g).length out ∧ ∀ i : Nat, (∃ v : Int, out[i]? = some v ∧ 0 ≤ v) ↔ ReachI g t i) ∧ Below W.heap.size W w') := fun t td W ht hW => rfar_yes A n c B m d C k l g t td W (hG.up hW) hg ht
 have hN64 : (diesG g).length ≤ 64 := by rw [diesG_len]; have := hg.lo; have := hg.lr; omega
 clear hG hg
 obtain ⟨i0, hi, hz0, hz1, hz2⟩ := info_parts Tryz.infoI
 have D2' : Bx (w.alloc (.cells #[.slice A n c, .slice B m d, .slice C k l] 52)) w.heap.size [.slice A n c, .slice B m d, .slice C k l] := Bx.new w [.slice A n c, .slice B m d, .slice C k l] 52
 have hb : Below w.heap.size w (w.alloc (.cells #[.slice A n c, .slice B m d, .slice C k l] 52)) := one_alloc _ _
 go_enter Tryz.func81, Tryz.ntmps81
 go_wp2_with fail
 generalize w.alloc (.cells #[.slice A n c, .slice B m d, .slice C k l] 52) = w1 at *
 refine (HD.out _ hb).mono ?_; rintro e w2 ⟨⟨A5, n5, c5, rfl, hn5, hc5, hS5⟩, hb2⟩
 have HBX : Hid (∀ W, Below w2.heap.size w2 W → W.cell? ⟨w.heap.size, 0, none⟩ = some (.slice A n c) ∧ W.cell? ⟨w.heap.size, 1, none⟩ = some (.slice B m d) ∧ W.cell? ⟨w.heap.size, 2, none⟩ = some (.slice C k l)) := fun W hW => bx3 ((D2'.up hb2).up hW)
 have HUW : Hid (∀ W, Below w2.heap.size w2 W → Below w.heap.size w W) := fun W hW => below_keep' (below_keep' hb hb2) hW
 have HDS : Hid (∀ W, Below w2.heap.size w2 W → Sl W 0 W.heap.size 2 encD A5 n5 (diesG g)) := fun W hW => hS5.up hW (Nat.le_refl _) (Nat.le_refl _)
 have HN5 := Lib.hid hS5.len
 have hn64 : n5 ≤ 64 := by have := HN5.out; omega
 clear hb hb2 D2' hS5 hN64
 go_wp2_with (refine wpList_make_full _ rfl _ _ 36 rfl w2.heap.size 3 i0 (.int .i64 0) 1 Tryz.underlying36 hi hz0 hz1 .i64 .i64 _ _ n5 rfl rfl rfl rfl (by rw [hz2]; omega) (by unfold maxLen; omega) (by omega) ?_; intro w3 hown3 hg3)
 have hb3 : Below w2.heap.size w2 w3 := ⟨hg3.os, hg3.tape, hg3.output, hg3.size, fun k hk => hg3.block k hk (by simp)⟩
 have hR3 : RowI w3 w2.heap.size (List.replicate 0 (-1 : Int) ++ List.replicate (n5 - 0) 0) := by
  refine RowI.of_own (base := w2.heap.size) (e := 3) (n := n5) (cap := n5) ?_ (by simp)
  rw [encI_flat]
  have h := hown3
  rw [show (Value.int .i64 0).cells = #[Value.int .i64 0] from rfl, Nat.mul_one, toList_madeCells_one] at h
  simpa using h
 clear hown3 hg3
 obtain ⟨ob, hob, hob2⟩ : ∃ ob, ob = w2.heap.size ∧ w2.heap.size ≤ ob := ⟨_, rfl, Nat.le_refl _⟩
 rw [← hob] at hR3
 go_wp2_with fail
 simp only [← hob]
 clear hob
 go_loopw [7] (fun i wr => ∃ j : Nat, j ≤ n5 ∧ i = .int .i64 (j : Int) ∧ RowI wr ob (List.replicate j (-1 : Int) ++ List.replicate (n5 - j) 0) ∧ Below w2.heap.size w2 wr) (fun i _ => n5 - (intOf i).toNat)
 case atStart => exact ⟨0, by omega, rfl, hR3, hb3⟩
 case round =>
  clear hR3 hb3
  obtain ⟨j, hj, rfl, hR, hbr⟩ := hrel
  by_cases hlt : j < n5
  ·have hget : (List.replicate j (-1 : Int) ++ List.replicate (n5 - j) 0)[j]? = some 0 := by
    rw [List.getElem?_append_right (by simp), List.getElem?_replicate]
    simp; omega
   have r0 := hR.atI hget
   have f0 := hR.frz j
   have rl := hR.lt
   have hR' := hR.put (i := j) (by simp; omega) (-1)
   have HRE : Hid ((List.replicate j (-1 : Int) ++ List.replicate (n5 - j) 0).set j (-1) = List.replicate (j + 1) (-1 : Int) ++ List.replicate (n5 - (j + 1)) 0) := by
    show _ = _
    rw [List.set_append_right _ _ (by simp), List.length_replicate, Nat.sub_self, show n5 - j = (n5 - (j + 1)) + 1 by omega, List.replicate_succ, List.set_cons_zero, List.replicate_succ']
    simp
   rw [HRE.out] at hR'
   have hbr' := hbr.setCell (p := ⟨ob, j, none⟩) hob2 (.int .i64 (-1))
   clear hget hR
   go_wp2_with fail
   exact ⟨⟨j + 1, by omega, by go_num, hR', hbr'⟩, by simp [intOf]; omega⟩
  ·obtain rfl : j = n5 := by omega
   rename World => w4
   rw [Nat.sub_self, List.replicate_zero, List.append_nil] at hR
   have HP0 : Hid (PO g (KnownI g 0) (List.replicate j (-1))) := by show PO _ _ _; rw [← HN5.out]; exact PO.start
   obtain ⟨n5, hn5e⟩ : ∃ n5, n5 = j := ⟨_, rfl⟩
   simp only [← hn5e] at *
   clear hn5e
   go_wp2_with fail
   go_loopw [8, 9] (fun nn i wr => ∃ (j : Nat) (out : List Int), j ≤ n5 ∧ nn = .int .i64 ((cntF g j : Nat) : Int) ∧ i = .int .i64 (j : Int) ∧ PO g (KnownI g j) out ∧ RowI wr ob out ∧ Below w2.heap.size w2 wr) (fun _ i _ => n5 - (intOf i).toNat)
   case atStart => exact ⟨0, _, by omega, rfl, rfl, HP0.out, hR, hbr⟩
   case round =>
    clear hR hbr HP0
    obtain ⟨j, out, hj, rfl, rfl, hPO, hR, hbr⟩ := hrel
    have hcle := cntF_le g j
    by_cases hlt : j < n5
    ·have hjd : j < (diesG g).length := by rw [HN5.out]; exact hlt
     have f0 := hR.frz j
     have rl := hR.lt
     by_cases hk : KnownI g j j
     ·have r0 := hR.atI ((hPO.2 j hjd).1 hk)
      have hd0 : decide ((0 : Int) ≤ (partI g j : Int)) = true := by simp
      obtain ⟨h1, h2⟩ := hPO.skip hjd hk
      have HP1 := Lib.hid h1
      have HC1 := Lib.hid h2
      clear h1 h2 hk hPO hjd
      generalize partI g j = pj at *
      go_wp2_with fail
      go_roundw
      case rel => exact ⟨j + 1, out, by omega, by rw [HC1.out], by go_num, HP1.out, hR, hbr⟩
      case measure => simp [intOf]; omega
     ·have r0 := hR.atI ((hPO.2 j hjd).2 hk)
      obtain ⟨b, off, td, rfl, hbb, hx, x0, x1⟩ := (HDS.out _ hbr).di hlt
      have HFA := Lib.hid (fun W hW => HF.out j td W hx hW)
      have HBB : Hid (∀ W, Below wr.drew.heap.size wr.drew W → (W.cell? ⟨w.heap.size, 0, none⟩ = some (.slice A n c) ∧ W.cell? ⟨w.heap.size, 1, none⟩ = some (.slice B m d) ∧ W.cell? ⟨w.heap.size, 2, none⟩ = some (.slice C k l)) ∧ (W.cell? ⟨b, off + j * 2, none⟩ = some (.int .i64 td.side) ∧ W.cell? ⟨b, off + j * 2 + 1, none⟩ = some (.int .i64 td.num))) := fun W hW => ⟨HBX.out _ (below_keep' hbr.drew hW), ⟨(hW.cell (p := ⟨b, off + j * 2, none⟩) hbb).trans x0, (hW.cell (p := ⟨b, off + j * 2 + 1, none⟩) hbb).trans x1⟩⟩
      have hbd := hbr.drew
      have hRd := hR.up (Below.drew (Below.refl _ _))
      have HKN := Lib.hid hk
      have HJD := Lib.hid hjd
      clear hx hk hjd hR
      go_wp2_with fail
      refine wp_region_noPanic ?_
      refine wp_region_held_drew (S := fun U => (U.cell? ⟨w.heap.size, 0, none⟩ = some (.slice A n c) ∧ U.cell? ⟨w.heap.size, 1, none⟩ = some (.slice B m d) ∧ U.cell? ⟨w.heap.size, 2, none⟩ = some (.slice C k l)) ∧ (U.cell? ⟨b, off + j * 2, none⟩ = some (.int .i64 td.side) ∧ U.cell? ⟨b, off + j * 2 + 1, none⟩ = some (.int .i64 td.num))) (by kernel_rfl) (HBB.out _ (Below.refl _ _)) (fun hHeld => ?_)
      generalize wr.drew = W6 at *
      refine' takeW 0 ?_ ?_ ?_ (by kernel_rfl) (by kernel_rfl) (by kernel_rfl) (fun _ _ _ h => h) hHeld ?_
      rotate_left 2
      ·(simp only [List.getElem?_toArray, List.getElem?_cons_succ, List.getElem?_cons_zero]; try rfl)
      ·rfl
      ·(intro w hSw; (try dsimp only at hSw); go_simp; first | done | with_reducible rfl)
      (try simp only [Act.put, List.setIfInBounds_toArray, List.set_cons_zero, List.set_cons_succ])
      refine' takeW 1 ?_ ?_ ?_ (by kernel_rfl) (by kernel_rfl) (by kernel_rfl) (fun _ _ _ h => h) hHeld ?_
      rotate_left 2
      ·(simp only [List.getElem?_toArray, List.getElem?_cons_succ, List.getElem?_cons_zero]; try rfl)
      ·rfl
      ·(intro w hSw; (try dsimp only at hSw); go_simp; first | done | with_reducible rfl)
      (try simp only [Act.put, List.setIfInBounds_toArray, List.set_cons_zero, List.set_cons_succ])
      refine' takeW 2 ?_ ?_ ?_ (by kernel_rfl) (by kernel_rfl) (by kernel_rfl) (fun _ _ _ h => h) hHeld ?_
      rotate_left 2
      ·(simp only [List.getElem?_toArray, List.getElem?_cons_succ, List.getElem?_cons_zero]; try rfl)
      ·rfl
      ·(intro w hSw; (try dsimp only at hSw); go_simp; first | done | with_reducible rfl)
      (try simp only [Act.put, List.setIfInBounds_toArray, List.set_cons_zero, List.set_cons_succ])
      refine' takeW 3 ?_ ?_ ?_ (by kernel_rfl) (by kernel_rfl) (by kernel_rfl) (fun _ _ _ h => h) hHeld ?_
      rotate_left 2
      ·(simp only [List.getElem?_toArray, List.getElem?_cons_succ, List.getElem?_cons_zero]; try rfl)
      ·rfl
      ·(intro w hSw; (try dsimp only at hSw); go_simp; first | done | with_reducible rfl)
      (try simp only [Act.put, List.setIfInBounds_toArray, List.set_cons_zero, List.set_cons_succ])
      refine' takeW 4 ?_ ?_ ?_ (by kernel_rfl) (by kernel_rfl) (by kernel_rfl) (fun _ _ _ h => h) hHeld ?_
      rotate_left 2
      ·(simp only [List.getElem?_toArray, List.getElem?_cons_succ, List.getElem?_cons_zero]; try rfl)
      ·rfl
      ·(intro w hSw; (try dsimp only at hSw); go_simp; first | done | with_reducible rfl)
      (try simp only [Act.put, List.setIfInBounds_toArray, List.set_cons_zero, List.set_cons_succ])
      refine wpAnyH_ready (rs := [5]) (by kernel_rfl) (by simp) ?_
      refine' AllReadyH.cons ?_ (fun K hK => ?_) AllReadyH.nil
      rotate_left 1
      ·(simp only [List.getElem?_toArray, List.getElem?_cons_succ, List.getElem?_cons_zero]; try rfl)
      (try go_simp)
      go_at_call 125
      refine (HFA.out _ (HUW.out _ hbd)).mono ?_
      rintro e w8 ⟨⟨A8, c8, dl, rfl, hdl, hS8, hall⟩, hb8⟩
      (try go_simp)
      refine hK.out _ _ ?_ (fun hHeld => ?_)
      ·exact HBB.out _ hb8
      clear hK K
      (try simp only [Act.put, List.setIfInBounds_toArray, List.set_cons_zero, List.set_cons_succ])
      refine' takeW 6 ?_ ?_ ?_ (by kernel_rfl) (by kernel_rfl) (by kernel_rfl) (fun _ _ _ h => h) hHeld ?_
      rotate_left 2
      ·(simp only [List.getElem?_toArray, List.getElem?_cons_succ, List.getElem?_cons_zero]; try rfl)
      ·rfl
      ·(intro w hSw; (try dsimp only at hSw); go_simp; first | done | with_reducible rfl)
      (try simp only [Act.put, List.setIfInBounds_toArray, List.set_cons_zero, List.set_cons_succ])
      refine wpAnyH_done (by kernel_rfl) ?_ _
      refine NoPanic.normal ?_
      clear hHeld
      have hR8 := hRd.up hb8
      have hbr8 := below_keep' hbd hb8
      rw [HN5.out] at hS8
      have hL8 : ob < W6.heap.size := hRd.lt
      have HALL := Lib.hid hall
      rw [HN5.out]
      clear hall hb8 hRd hbd HBB HFA
      go_wp2_with fail
      go_loopw [11] (fun kk wp => ∃ (p : Nat) (out : List Int), p ≤ n5 ∧ kk = .int .i64 (p : Int) ∧ PO g (KP g j p) out ∧ RowI wp ob out ∧ Below w2.heap.size w2 wp ∧ Sl wp W6.heap.size wp.heap.size 1 encI A8 n5 dl) (fun kk _ => n5 - (intOf kk).toNat)
      case atStart => exact ⟨0, out, by omega, rfl, hPO.inner, hR8, hbr8, hS8⟩
      case round =>
       clear hR8 hbr8 hPO hS8
       obtain ⟨p, out, hp, rfl, hPO, hR, hbp, hS8⟩ := hrel
       rename World => wp
       by_cases hlp : p < n5
       ·obtain ⟨b9, off9, v, rfl, hbb9, hv, v0⟩ := hS8.in_ hlp
        have hpd : p < (diesG g).length := by rw [HN5.out]; exact hlp
        have f0 := hR.frz p
        have rl := hR.lt
        have hol := hPO.1
        rw [HN5.out] at hol
        by_cases hv0 : 0 ≤ v
        ·have hdv : decide ((0 : Int) ≤ v) = true := decide_eq_true hv0
         have HPN := Lib.hid (hPO.hit HJD.out HKN.out hpd ((HALL.out p).1 ⟨v, hv, hv0⟩))
         obtain ⟨u0, hu0⟩ : ∃ u0, out[p]? = some u0 := ⟨_, List.getElem?_eq_getElem (by rw [hol]; exact hlp)⟩
         have r0 := hR.atI hu0
         have hR9 := hR.put (i := p) (by rw [hol]; exact hlp) ((cntF g j : Nat) : Int)
         have hb9 := hbp.setCell (p := ⟨ob, p, none⟩) hob2 (.int .i64 ((cntF g j : Nat) : Int))
         have hS9 := hS8.set1 (p := ⟨ob, p, none⟩) hL8 (.int .i64 ((cntF g j : Nat) : Int))
         clear hS8
         clear hv hv0 hPO hu0
         go_wp2_with fail
         exact ⟨⟨p + 1, _, by omega, by go_num, HPN.out, hR9, hb9, hS9⟩, by simp [intOf]; omega⟩
        ·have hdv : decide ((0 : Int) ≤ v) = false := decide_eq_false hv0
         have HPN := Lib.hid (hPO.miss (fun h => by
          obtain ⟨v', h1, h2⟩ := (HALL.out p).2 h
          rw [hv] at h1
          exact hv0 (by rw [Option.some.inj h1]; exact h2)))
         clear hv hv0 hPO
         go_wp2_with fail
         exact ⟨⟨p + 1, _, by omega, by go_num, HPN.out, hR, hbp, hS8⟩, by simp [intOf]; omega⟩
       ·obtain rfl : p = n5 := by omega
        have HPN : Hid (PO g (KnownI g (j + 1)) out) := PO.outer (by rw [HN5.out]; exact hPO)
        have HC1 := Lib.hid (cntF_first HKN.out)
        clear hPO
        go_wp2_with fail
        exact ⟨⟨j + 1, out, by omega, by rw [HC1.out]; go_num, by go_num, HPN.out, hR, hbp⟩, by simp [intOf]; omega⟩
    ·obtain rfl : j = n5 := by omega
     have HOL := Lib.hid hPO.1
     have HPD : Hid (out = partsG g) := PO.done (by rw [HN5.out]; exact hPO)
     have HSL := Lib.hid (hR.slAll (n := j) (by rw [HOL.out, HN5.out]))
     clear hPO
     go_wp2_with fail
     go_ret2
     exact ⟨⟨_, j, _, rfl, by omega, by rw [← HPD.out]; exact HSL.out⟩, HUW.out _ hbr⟩
set_option maxRecDepth 100000 in
set_option maxHeartbeats 2000000 in
theorem rnumber14_any (A : Option Addr) (n c : Nat) (B : Option Addr) (m d : Nat) (C : Option Addr) (k l : Nat) (g : Gr) (w : World) (hG : GrM w A n B m C k g) (hg : GrOk g) :
  Calls Tryz.prog 82 #[.agg #[.slice A n c, .slice B m d, .slice C k l]] w fun e w' => e = .returned (.int .i64 ((cntF g (diesG g).length : Nat) : Int)) ∧ Below w.heap.size w w' := by
 have HP : Hid (∀ W, Below w.heap.size w W → Calls Tryz.prog 81 #[.agg #[.slice A n c, .slice B m d, .slice C k l]] W (NumsW W (partsG g) 0)) := fun W hW => rparts14_any A n c B m d C k l g W (hG.up hW) hg
 have hN64 : (diesG g).length ≤ 64 := by rw [diesG_len]; have := hg.lo; have := hg.lr; omega
 clear hG hg
 go_enter Tryz.func82, Tryz.ntmps82
 go_wp2_with fail
 refine (HP.out _ (one_alloc _ _)).mono ?_; rintro e w2 ⟨⟨A5, n5, c5, rfl, hn5, hS5⟩, hb2⟩
 replace hb2 := below_keep' (one_alloc w (.cells #[.slice A n c, .slice B m d, .slice C k l] 52)) hb2
 have HSP : Hid (∀ W, Below w2.heap.size w2 W → Sl W 0 W.heap.size 1 encI A5 n5 (partsG g)) := fun W hW => hS5.up hW (Nat.le_refl _) (Nat.le_refl _)
 have HN5 : Hid (n5 = (diesG g).length) := by show _ = _; rw [← hS5.len, partsG_len]
 have hn64 : n5 ≤ 64 := by have := HN5.out; omega
 clear hS5 hN64
 go_wp2_with fail
 go_loopw [5, 6] (fun mm i wr => ∃ j : Nat, j ≤ n5 ∧ mm = .int .i64 ((cntF g j : Nat) : Int) ∧ i = .int .i64 (j : Int) ∧ Below w2.heap.size w2 wr) (fun _ i _ => n5 - (intOf i).toNat)
 case atStart => exact ⟨0, by omega, rfl, rfl, Below.refl _ _⟩
 case round =>
  obtain ⟨j, hj, rfl, rfl, hbr⟩ := hrel
  by_cases hlt : j < n5
  ·obtain ⟨b, off, x, rfl, hbb, hx, x0⟩ := (HSP.out _ hbr).in_ hlt
   obtain rfl := partsG_get hx
   have HNS := Lib.hid (num_step (g := g) (i := j) (by rw [← HN5.out]; exact hlt))
   have hle := cntF_le g j
   have hpl := partI_lt (g := g) (i := j) (by rw [← HN5.out]; exact hlt)
   have hcl := cntF_le g (diesG g).length
   rw [← HN5.out] at hcl hpl
   clear hx
   generalize partI g j = pj at *
   generalize cntF g j = cj at *
   by_cases hm : (cj : Int) < (pj : Int) + 1
   ·have HN2 : Hid ((pj : Int) + 1 = (cntF g (j + 1) : Int)) := by show _ = _; rw [← HNS.out, if_pos hm]
    have hmx : max (cj : Int) ((pj : Int) + 1) = (pj : Int) + 1 := Int.max_eq_right (by omega)
    go_wp2_with fail
    exact ⟨⟨j + 1, by omega, by rw [← HN2.out], by go_num, hbr⟩, by simp [intOf]; omega⟩
   ·have HN2 : Hid ((cj : Int) = (cntF g (j + 1) : Int)) := by show _ = _; rw [← HNS.out, if_neg hm]
    have hmx : max (cj : Int) ((pj : Int) + 1) = (cj : Int) := Int.max_eq_left (by omega)
    go_wp2_with fail
    exact ⟨⟨j + 1, by omega, by rw [← HN2.out], by go_num, hbr⟩, by simp [intOf]; omega⟩
  ·obtain rfl : j = n5 := by omega
   have hn := HN5.out
   clear HSP
   go_wp2_with fail
   go_ret
   exact ⟨by rw [← hn]; rfl, below_keep' hb2 hbr⟩
set_option maxRecDepth 100000 in
set_option maxHeartbeats 2000000 in
theorem rloops14_any (A : Option Addr) (n c : Nat) (B : Option Addr) (m d : Nat) (C : Option Addr) (k l : Nat) (g : Gr) (w : World) (hG : GrM w A n B m C k g) (hg : GrOk g) :
  Calls Tryz.prog 42 #[.agg #[.slice A n c, .slice B m d, .slice C k l]] w fun e w' => e = .returned (.tuple #[.int .i64 (loopsG g), .int .i64 0]) ∧ Below w.heap.size w w' := by
 have HD : Hid (∀ W, Below w.heap.size w W → Calls Tryz.prog 52 #[.agg #[.slice A n c, .slice B m d, .slice C k l]] W (DiesW W (diesG g) 0)) := fun W hW => rdies13_any A n c B m d C k l g W (hG.up hW) hg
 have HNU : Hid (∀ W, Below w.heap.size w W → Calls Tryz.prog 82 #[.agg #[.slice A n c, .slice B m d, .slice C k l]] W fun e w' => e = .returned (.int .i64 ((cntF g (diesG g).length : Nat) : Int)) ∧ Below W.heap.size W w') := fun W hW => rnumber14_any A n c B m d C k l g W (hG.up hW) hg
 have hN64 : (diesG g).length ≤ 64 := by rw [diesG_len]; have := hg.lo; have := hg.lr; omega
 have hk64 : k ≤ 64 := by have := hG.links.len; have := hg.ll; omega
 have HL0 : Hid (loopsG g = (k : Int) - (diesG g).length + (cntF g (diesG g).length : Nat)) := by
  show _ = _
  unfold loopsG
  rw [hG.links.len, diesG_len, show (chainsG g).length = cntF g (g.obv.length + g.rev.length) by unfold chainsG; simp [diesG_len]]
  omega
 have hcl := cntF_le g (diesG g).length
 clear hG hg
 have D2' : Bx (w.alloc (.cells #[.slice A n c, .slice B m d, .slice C k l] 52)) w.heap.size [.slice A n c, .slice B m d, .slice C k l] := Bx.new w [.slice A n c, .slice B m d, .slice C k l] 52
 have hb : Below w.heap.size w (w.alloc (.cells #[.slice A n c, .slice B m d, .slice C k l] 52)) := one_alloc _ _
 go_enter Tryz.func42, Tryz.ntmps42
 go_wp2_with fail
 generalize w.alloc (.cells #[.slice A n c, .slice B m d, .slice C k l] 52) = w1 at *
 refine (HD.out _ hb).mono ?_; rintro e w2 ⟨⟨A5, n5, c5, rfl, hn5, hc5, hS5⟩, hb2⟩
 have HBX : Hid (∀ W, Below w2.heap.size w2 W → W.cell? ⟨w.heap.size, 0, none⟩ = some (.slice A n c) ∧ W.cell? ⟨w.heap.size, 1, none⟩ = some (.slice B m d) ∧ W.cell? ⟨w.heap.size, 2, none⟩ = some (.slice C k l)) := fun W hW => bx3 ((D2'.up hb2).up hW)
 have HUW : Hid (∀ W, Below w2.heap.size w2 W → Below w.heap.size w W) := fun W hW => below_keep' (below_keep' hb hb2) hW
 have hlen := hS5.len
 rw [hlen] at HL0 hN64 hcl HNU
 have HL := HL0
 clear hb hb2 D2' hS5 hlen HD HL0
 generalize cntF g n5 = cn at *
 go_wp2_with fail
 refine wp_region_noPanic ?_
 refine wp_region_held_drew (S := fun U => U.cell? ⟨w.heap.size, 0, none⟩ = some (.slice A n c) ∧ U.cell? ⟨w.heap.size, 1, none⟩ = some (.slice B m d) ∧ U.cell? ⟨w.heap.size, 2, none⟩ = some (.slice C k l)) (by kernel_rfl) (HBX.out _ (Below.drew (Below.refl _ _))) (fun hHeld => ?_)
 have hC := Below.drew (Below.refl w2.heap.size w2)
 generalize w2.drew = W6 at *
 refine' takeW 0 ?_ ?_ ?_ (by kernel_rfl) (by kernel_rfl) (by kernel_rfl) (fun _ _ _ h => h) hHeld ?_
 rotate_left 2
 ·(simp only [List.getElem?_toArray, List.getElem?_cons_succ, List.getElem?_cons_zero]; try rfl)
 ·rfl
 ·(intro w hSw; (try dsimp only at hSw); go_simp; first | done | with_reducible rfl)
 (try simp only [Act.put, List.setIfInBounds_toArray, List.set_cons_zero, List.set_cons_succ])
 refine' takeW 1 ?_ ?_ ?_ (by kernel_rfl) (by kernel_rfl) (by kernel_rfl) (fun _ _ _ h => h) hHeld ?_
 rotate_left 2
 ·(simp only [List.getElem?_toArray, List.getElem?_cons_succ, List.getElem?_cons_zero]; try rfl)
 ·rfl
 ·(intro w hSw; (try dsimp only at hSw); go_simp; first | done | with_reducible rfl)
 (try simp only [Act.put, List.setIfInBounds_toArray, List.set_cons_zero, List.set_cons_succ])
 refine' takeW 2 ?_ ?_ ?_ (by kernel_rfl) (by kernel_rfl) (by kernel_rfl) (fun _ _ _ h => h) hHeld ?_
 rotate_left 2
 ·(simp only [List.getElem?_toArray, List.getElem?_cons_succ, List.getElem?_cons_zero]; try rfl)
 ·rfl
 ·(intro w hSw; (try dsimp only at hSw); go_simp; first | done | with_reducible rfl)
 (try simp only [Act.put, List.setIfInBounds_toArray, List.set_cons_zero, List.set_cons_succ])
 refine' takeW 3 ?_ ?_ ?_ (by kernel_rfl) (by kernel_rfl) (by kernel_rfl) (fun _ _ _ h => h) hHeld ?_
 rotate_left 2
 ·(simp only [List.getElem?_toArray, List.getElem?_cons_succ, List.getElem?_cons_zero]; try rfl)
 ·rfl
 ·(intro w hSw; (try dsimp only at hSw); go_simp; first | done | with_reducible rfl)
 (try simp only [Act.put, List.setIfInBounds_toArray, List.set_cons_zero, List.set_cons_succ])
 refine' takeW 4 ?_ ?_ ?_ (by kernel_rfl) (by kernel_rfl) (by kernel_rfl) (fun _ _ _ h => h) hHeld ?_
 rotate_left 2
 ·(simp only [List.getElem?_toArray, List.getElem?_cons_succ, List.getElem?_cons_zero]; try rfl)
 ·rfl
 ·(intro w hSw; (try dsimp only at hSw); go_simp; first | done | with_reducible rfl)
 (try simp only [Act.put, List.setIfInBounds_toArray, List.set_cons_zero, List.set_cons_succ])
 refine' takeW 5 ?_ ?_ ?_ (by kernel_rfl) (by kernel_rfl) (by kernel_rfl) (fun _ _ _ h => h) hHeld ?_
 rotate_left 2
 ·(simp only [List.getElem?_toArray, List.getElem?_cons_succ, List.getElem?_cons_zero]; try rfl)
 ·rfl
 ·(intro w hSw; (try dsimp only at hSw); go_simp; first | done | with_reducible rfl)
 (try simp only [Act.put, List.setIfInBounds_toArray, List.set_cons_zero, List.set_cons_succ])
 refine' takeW 6 ?_ ?_ ?_ (by kernel_rfl) (by kernel_rfl) (by kernel_rfl) (fun _ _ _ h => h) hHeld ?_
 rotate_left 2
 ·(simp only [List.getElem?_toArray, List.getElem?_cons_succ, List.getElem?_cons_zero]; try rfl)
 ·rfl
 ·(intro w hSw; (try dsimp only at hSw); go_simp; first | done | with_reducible rfl)
 (try simp only [Act.put, List.setIfInBounds_toArray, List.set_cons_zero, List.set_cons_succ])
 refine wpAnyH_ready (rs := [7]) (by kernel_rfl) (by simp) ?_
 refine' AllReadyH.cons ?_ (fun K hK => ?_) AllReadyH.nil
 rotate_left 1
 ·(simp only [List.getElem?_toArray, List.getElem?_cons_succ, List.getElem?_cons_zero]; try rfl)
 (try go_simp)
 go_at_call 82
 refine (HNU.out _ (HUW.out _ hC)).mono ?_
 rintro e w8 ⟨rfl, hb8⟩
 (try go_simp)
 refine hK.out _ _ ?_ (fun hHeld => ?_)
 ·exact HBX.out _ (below_keep' hC hb8)
 clear hK K
 (try simp only [Act.put, List.setIfInBounds_toArray, List.set_cons_zero, List.set_cons_succ])
 refine' takeW 8 ?_ ?_ ?_ (by kernel_rfl) (by kernel_rfl) (by kernel_rfl) (fun _ _ _ h => h) hHeld ?_
 rotate_left 2
 ·(simp only [List.getElem?_toArray, List.getElem?_cons_succ, List.getElem?_cons_zero]; try rfl)
 ·rfl
 ·(intro w hSw; (try dsimp only at hSw); go_simp; first | done | with_reducible rfl)
 (try simp only [Act.put, List.setIfInBounds_toArray, List.set_cons_zero, List.set_cons_succ])
 refine' takeW 9 ?_ ?_ ?_ (by kernel_rfl) (by kernel_rfl) (by kernel_rfl) (fun _ _ _ h => h) hHeld ?_
 rotate_left 2
 ·(simp only [List.getElem?_toArray, List.getElem?_cons_succ, List.getElem?_cons_zero]; try rfl)
 ·rfl
 ·(intro w hSw; (try dsimp only at hSw); go_simp; first | done | with_reducible rfl)
 (try simp only [Act.put, List.setIfInBounds_toArray, List.set_cons_zero, List.set_cons_succ])
 refine' takeW 10 ?_ ?_ ?_ (by kernel_rfl) (by kernel_rfl) (by kernel_rfl) (fun _ _ _ h => h) hHeld ?_
 rotate_left 2
 ·(simp only [List.getElem?_toArray, List.getElem?_cons_succ, List.getElem?_cons_zero]; try rfl)
 ·rfl
 ·(intro w hSw; (try dsimp only at hSw); go_simp; first | done | with_reducible rfl)
 (try simp only [Act.put, List.setIfInBounds_toArray, List.set_cons_zero, List.set_cons_succ])
 refine wpAnyH_done (by kernel_rfl) ?_ _
 refine NoPanic.normal ?_
 clear hHeld
 have hb9 := HUW.out _ (below_keep' hC hb8)
 clear hC hb8
 go_wp2_with fail
 go_ret2
 have hw1 : IntKind.i64.wrap ((k : Int) - (n5 : Int)) = (k : Int) - (n5 : Int) := IntWalk.i64_in _ (by omega)
 have hw2 : IntKind.i64.wrap (IntKind.i64.wrap ((k : Int) - (n5 : Int)) + (cn : Int)) = (k : Int) - (n5 : Int) + (cn : Int) := by rw [hw1]; exact IntWalk.i64_in _ (by omega)
 exact ⟨by rw [HL.out]; exact congrArg (fun z => Ending.returned (.tuple #[.int .i64 z, .int .i64 0])) hw2, hb9⟩
end Go.Proofs.YtdokpmfejibdlaaGreatDoor
