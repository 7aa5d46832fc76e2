/- Chapter 54: the reference's graph: valid, dies, degree, partners. -/
import Derived.Test.YtdokpmfejibdlaaGreatDoorXl
set_option linter.unusedSimpArgs false
set_option linter.unusedVariables false
namespace Go.Proofs.YtdokpmfejibdlaaGreatDoor
open Go.RowKit

set_option maxRecDepth 100000 in
set_option maxHeartbeats 1000000 in
theorem basc_yes (A : Option Addr) (len cap : Nat) (xs : List Int) (lo hi : Int) (w : World) (hlen : len ≤ 1000000) (hS : Sl w 0 w.heap.size 1 encI A len xs) (hp : xs.Pairwise (· < ·)) (hr : ∀ x ∈ xs, lo ≤ x ∧ x ≤ hi) :
  Calls Tryz.prog 175 #[.slice A len cap, .int .i64 lo, .int .i64 hi] w fun e w' => e = .returned (.bool true) ∧ Below w.heap.size w w' := by
 have HS := Lib.hid hS; clear hS
 have HP := Lib.hid hp; clear hp
 have HR := Lib.hid hr; clear hr
 go_enter Tryz.func175, Tryz.ntmps175
 go_wp2_with fail
 go_loopw [7] (fun s wr => ∃ k : Nat, k ≤ len ∧ s = .int .i64 (k : Int) ∧ Below w.heap.size w wr) (fun s _ => len - (intOf s).toNat)
 case atStart => exact ⟨0, by omega, rfl, Below.refl _ _⟩
 case round =>
  obtain ⟨k, hk, rfl, hb⟩ := hrel
  by_cases hlt : k < len
  ·obtain ⟨b, off, x, rfl, hbb, hx, c0⟩ := (HS.out.below hb (Nat.le_refl _)).in_ hlt
   obtain ⟨h1, h2⟩ := HR.out x (List.mem_of_getElem? hx)
   have d1 : decide (x < lo) = false := decide_eq_false (by omega)
   have d2 : decide (hi < x) = false := decide_eq_false (by omega)
   have HX := Lib.hid hx; clear hx h1 h2
   rcases Nat.eq_zero_or_pos k with rfl | hk0
   ·simp only [Nat.add_zero] at c0
    simp only [Int.ofNat_zero, Int.natCast_zero]
    go_wp2_with fail
    go_quiet (fail)
    go_wp2_with fail
    go_roundw
    case rel => exact ⟨1, by omega, by go_num, below_drewN hb _⟩
    case measure => simp [intOf]; omega
   ·obtain ⟨m, rfl⟩ : ∃ m, k = m + 1 := ⟨k - 1, by omega⟩
    obtain ⟨b', off', y, hA', hbb', hy, d0⟩ := (HS.out.below hb (Nat.le_refl _)).in_ (show m < len by omega)
    simp only [Option.some.injEq, Addr.mk.injEq, and_true] at hA'
    obtain ⟨rfl, rfl⟩ := hA'
    have hlt1 : y < x := by
     obtain ⟨h1, e1⟩ := List.getElem?_eq_some_iff.1 HX.out
     obtain ⟨h2, e2⟩ := List.getElem?_eq_some_iff.1 hy
     have := (List.pairwise_iff_getElem.1 HP.out) m (m + 1) h2 h1 (by omega)
     rw [e1, e2] at this
     exact this
    have d3 : decide (x ≤ y) = false := decide_eq_false (by omega)
    clear hy hlt1
    go_wp2_with fail
    go_quiet (fail)
    go_wp2_with fail
    go_roundw
    case rel => exact ⟨m + 1 + 1, by omega, by go_num, below_drewN hb _⟩
    case measure => simp [intOf]; omega
  ·obtain rfl : k = len := by omega
   go_wp2_with fail
   go_ret
   exact ⟨rfl, hb⟩
/-! ### Two rows that grow by turns. -/
def Apart (v1 v2 : Value) : Prop := v2.ownBlock = none ∨ v2.ownBlock ≠ v1.ownBlock
theorem Apart.turn1 {w : World} {B k n : Nat} {e : TypeId} {v1 v1' v2 : Value} {xs : List Value} (h : Apart v1 v2) (ho : w.ownsRow B e k v2 n xs) (ha : v1'.ownBlock = v1.ownBlock ∨ v1'.ownBlock = some w.heap.size) : Apart v1' v2 := by
 unfold Apart at *
 rcases ha with ha | ha
 ·rw [ha]; exact h
 ·rw [ha]
  rcases e2 : v2.ownBlock with _ | b
  ·exact .inl rfl
  ·refine .inr (fun e => ?_)
   injection e with e
   have := (ho.lt b e2).2
   omega
theorem Apart.symm {v1 v2 : Value} (h : Apart v1 v2) : Apart v2 v1 := by
 unfold Apart at *
 rcases h with h | h
 ·rcases e : v1.ownBlock with _ | b
  ·exact .inl rfl
  ·exact .inr (by rw [h]; simp)
 ·exact .inr fun e => h e.symm
theorem far_row {w : World} {B k n b : Nat} {e : TypeId} {v : Value} {xs : List Value} (ho : w.ownsRow B e k v n xs) (hb : b < B) : some b ≠ v.ownBlock := fun e1 => by have := (ho.lt b e1.symm).1; omega
/-- Two rows of numbers that grow by turns. -/
structure TwoR (w : World) (B : Nat) (v1 : Value) (n1 : Nat) (l1 : List Int) (v2 : Value) (n2 : Nat) (l2 : List Int) : Prop where
 o1 : w.ownsRow B 3 1 v1 n1 (l1.flatMap encI)
 o2 : w.ownsRow B 3 1 v2 n2 (l2.flatMap encI)
 ap : Apart v1 v2
section
variable {w w' : World} {B n1 n2 : Nat} {v1 v2 v1' v2' : Value} {l1 l2 : List Int}
theorem TwoR.alloc (h : TwoR w B v1 n1 l1 v2 n2 l2) (o : Obj) : TwoR (w.alloc o) B v1 n1 l1 v2 n2 l2 := ⟨h.o1.alloc o, h.o2.alloc o, h.ap⟩
theorem TwoR.drew (h : TwoR w B v1 n1 l1 v2 n2 l2) : TwoR w.drew B v1 n1 l1 v2 n2 l2 := ⟨h.o1, h.o2, h.ap⟩
theorem TwoR.app1 (h : TwoR w B v1 n1 l1 v2 n2 l2) {x : Int} {o : Obj} (hn : w'.ownsRow B 3 1 v1' (n1 + 1) (l1.flatMap encI ++ [.int .i64 x])) (hg : (w.alloc o).grownBy w' v1.ownBlock)
  (ha : v1'.ownBlock = v1.ownBlock ∨ v1'.ownBlock = some (w.heap.size + 1)) : TwoR w' B v1' (n1 + 1) (l1 ++ [x]) v2 n2 l2 :=
 ⟨by rw [List.flatMap_append]; exact hn, (h.o2.alloc o).kept hg h.ap, h.ap.turn1 (h.o2.alloc o) (by rw [World.size_alloc]; exact ha)⟩
theorem TwoR.symm (h : TwoR w B v1 n1 l1 v2 n2 l2) : TwoR w B v2 n2 l2 v1 n1 l1 := ⟨h.o2, h.o1, h.ap.symm⟩
theorem TwoR.app2 (h : TwoR w B v1 n1 l1 v2 n2 l2) {x : Int} {o : Obj} (hn : w'.ownsRow B 3 1 v2' (n2 + 1) (l2.flatMap encI ++ [.int .i64 x])) (hg : (w.alloc o).grownBy w' v2.ownBlock)
  (ha : v2'.ownBlock = v2.ownBlock ∨ v2'.ownBlock = some (w.heap.size + 1)) : TwoR w' B v1 n1 l1 v2' (n2 + 1) (l2 ++ [x]) := (h.symm.app1 hn hg ha).symm
theorem TwoR.nil (w : World) (B : Nat) : TwoR w B (.slice none 0 0) 0 [] (.slice none 0 0) 0 [] := ⟨World.ownsRow_nil _ _ _ _, World.ownsRow_nil _ _ _ _, .inl rfl⟩
end
theorem rowNe {w : World} {B k n b : Nat} {e : TypeId} {v : Value} {xs : List Value} (ho : w.ownsRow B e k v n xs) (hb : b < B ∨ w.heap.size ≤ b) : v.ownBlock ≠ some b := fun e1 => by have := ho.lt b e1; omega
set_option maxRecDepth 100000 in
set_option maxHeartbeats 8000000 in
theorem bgraph_yes (A : Option Addr) (n c : Nat) (B : Option Addr) (m d : Nat) (C : Option Addr) (k l : Nat) (g : Gr) (w : World) (hG : GrM w A n B m C k g) (hg : GrOk g) :
  Calls Tryz.prog 132 #[.agg #[.slice A n c, .slice B m d, .slice C k l]] w fun e w' => e = .returned (.bool true) ∧ Below w.heap.size w w' := by
 have hn : n ≤ 32 := by have := hG.obv.len; have := hg.lo; omega
 have hm : m ≤ 32 := by have := hG.rev.len; have := hg.lr; omega
 have hk : k ≤ 64 := by have := hG.links.len; have := hg.ll; omega
 have HN1 : Hid (∀ W, Below w.heap.size w W → Calls Tryz.prog 175 #[.slice A n c, .int .i64 1, .int .i64 999] W fun e w' => e = .returned (.bool true) ∧ Below W.heap.size W w') := fun W hW => basc_yes A n c g.obv 1 999 W (by omega) (hG.obv.up hW (Nat.le_refl _) (Nat.le_refl _)) hg.ao hg.ro
 have HN2 : Hid (∀ W, Below w.heap.size w W → Calls Tryz.prog 175 #[.slice B m d, .int .i64 1, .int .i64 999] W fun e w' => e = .returned (.bool true) ∧ Below W.heap.size W w') := fun W hW => basc_yes B m d g.rev 1 999 W (by omega) (hG.rev.up hW (Nat.le_refl _) (Nat.le_refl _)) hg.ar hg.rr
 have HH1 : Hid (∀ W x, Below w.heap.size w W → x ∈ g.links → Calls Tryz.prog 25 #[.slice A n c, .int .i64 x.obv] W fun e w' => e = .returned (.bool true) ∧ W = w') := fun W x hW hx => by
  have := has_any A n c g.obv x.obv W (by omega) (hG.obv.up hW (Nat.le_refl _) (Nat.le_refl _))
  rwa [decide_eq_true ((hg.eo _).2 ⟨x, hx, rfl⟩)] at this
 have HH2 : Hid (∀ W x, Below w.heap.size w W → x ∈ g.links → Calls Tryz.prog 25 #[.slice B m d, .int .i64 x.rev] W fun e w' => e = .returned (.bool true) ∧ W = w') := fun W x hW hx => by
  have := has_any B m d g.rev x.rev W (by omega) (hG.rev.up hW (Nat.le_refl _) (Nat.le_refl _))
  rwa [decide_eq_true ((hg.er _).2 ⟨x, hx, rfl⟩)] at this
 have HLI := Lib.hid hg.li
 have HRI := Lib.hid hg.ri
 have HLL := Lib.hid hG.links.len
 have HE1 : Hid (∀ y ∈ g.obv, y ∈ g.links.map Lnk.obv) := fun y hy => by obtain ⟨x, hx, e⟩ := (hg.eo y).1 hy; exact List.mem_map.2 ⟨x, hx, e⟩
 have HE2 : Hid (∀ y ∈ g.rev, y ∈ g.links.map Lnk.rev) := fun y hy => by obtain ⟨x, hx, e⟩ := (hg.er y).1 hy; exact List.mem_map.2 ⟨x, hx, e⟩
 have HUO : Hid (∀ W, Below w.heap.size w W → Sl W 0 W.heap.size 1 encI A n g.obv) := fun W hW => hG.obv.up hW (Nat.le_refl _) (Nat.le_refl _)
 have HUR : Hid (∀ W, Below w.heap.size w W → Sl W 0 W.heap.size 1 encI B m g.rev) := fun W hW => hG.rev.up hW (Nat.le_refl _) (Nat.le_refl _)
 have HUL : Hid (∀ W, Below w.heap.size w W → Sl W 0 W.heap.size 3 encL C k g.links) := fun W hW => hG.links.up hW (Nat.le_refl _) (Nat.le_refl _)
 clear hG hg
 obtain ⟨i0, hi, hz0, hz1, hz2⟩ := info_parts Tryz.infoI
 have hb0 : Below w.heap.size w (w.alloc (.cells #[.slice A n c, .slice B m d, .slice C k l] 52)) := by (repeat (first | exact Below.refl _ _ | assumption | refine Below.alloc ?_ (by first | omega | (simp only [World.size_alloc]; omega) | (simp; done) | (simp; omega)) _ | refine Below.setCell ?_ (by first | omega | (simp only [World.size_alloc]; omega) | (simp; done) | (simp; omega)) _ | refine Below.drew ?_ | refine below_drewN ?_ _))
 have D0 := Bx.new w [.slice A n c, .slice B m d, .slice C k l] 52
 have D : Bx (w.alloc (.cells #[.slice A n c, .slice B m d, .slice C k l] 52)) w.heap.size [.slice A n c, .slice B m d, .slice C k l] := D0
 clear D0
 have hBz : w.heap.size + 1 ≤ (w.alloc (.cells #[.slice A n c, .slice B m d, .slice C k l] 52)).heap.size := by simp
 go_enter Tryz.func132, Tryz.ntmps132
 go_wp2_with fail
 generalize w.alloc (.cells #[.slice A n c, .slice B m d, .slice C k l] 52) = W0 at *
 refine (HN1.out _ hb0).mono ?_; rintro e w1 ⟨rfl, hb1⟩
 replace D := D.up hb1
 replace hBz := Nat.le_trans hBz hb1.size
 replace hb1 := below_keep' hb0 hb1
 have d0 := D.cell 0 _ rfl
 have d1 := D.cell 1 _ rfl
 have d2 := D.cell 2 _ rfl
 go_wp2_with fail
 refine (HN2.out _ hb1).mono ?_; rintro e w2 ⟨rfl, hb2⟩
 replace D := D.up hb2
 replace hBz := Nat.le_trans hBz hb2.size
 replace hb2 := below_keep' hb1 hb2
 clear hb0 hb1 d0 d1 d2
 go_wp2_with fail
 obtain ⟨Bz, hBl, hBz'⟩ : ∃ Bz, w.heap.size < Bz ∧ Bz ≤ w2.heap.size := ⟨w.heap.size + 1, by omega, hBz⟩
 clear hBz
 go_loopw [3, 4, 5] (fun v1 v2 i wr => ∃ j : Nat, j ≤ k ∧ i = .int .i64 (j : Int) ∧ TwoR wr Bz v1 j ((g.links.take j).map Lnk.obv) v2 j ((g.links.take j).map Lnk.rev) ∧ Below w.heap.size w wr ∧ Bx wr w.heap.size [.slice A n c, .slice B m d, .slice C k l] ∧ Bz ≤ wr.heap.size) (fun _ _ i _ => k - (intOf i).toNat)
 case atStart => exact ⟨0, by omega, rfl, TwoR.nil _ _, hb2, D, hBz'⟩
 case round =>
  clear hb2 D hBz'
  obtain ⟨j, hj, rfl, hT, hbr, D, hBz⟩ := hrel
  obtain ⟨A3, c3, rfl, hc3⟩ := own_form hT.o1
  obtain ⟨A4, c4, rfl, hc4⟩ := own_form hT.o2
  have d0 := D.cell 0 _ rfl
  have d1 := D.cell 1 _ rfl
  have d2 := D.cell 2 _ rfl
  have dl := D.lt
  by_cases hlt : j < k
  ·obtain ⟨b, off, x, rfl, hbb, hx, x0, x1, x2⟩ := (HUL.out _ hbr).ln hlt
   have hxm := List.mem_of_getElem? hx
   obtain ⟨hr1, hr2⟩ := HRI.out x hxm
   have HTK : Hid ((g.links.take (j + 1)).map Lnk.obv = (g.links.take j).map Lnk.obv ++ [x.obv] ∧ (g.links.take (j + 1)).map Lnk.rev = (g.links.take j).map Lnk.rev ++ [x.rev]) := by
    show _ ∧ _
    rw [takeSnocW hx, List.map_append, List.map_append]; exact ⟨rfl, rfl⟩
   have HID : Hid (∀ W, Calls Tryz.prog 107 #[.int .i64 x.id] W fun e w' => e = .returned (.bool true) ∧ W = w') := fun W => by
    have h9 := bid_any x.id W
    have h8 : inR x.id 1 9999 = true := by simp [inR]; omega
    rwa [h8] at h9
   have HC1 : Hid (∀ W, Below w.heap.size w W → Calls Tryz.prog 25 #[.slice A n c, .int .i64 x.obv] W fun e w' => e = .returned (.bool true) ∧ W = w') := fun W hW => HH1.out W x hW hxm
   have HC2 : Hid (∀ W, Below w.heap.size w W → Calls Tryz.prog 25 #[.slice B m d, .int .i64 x.rev] W fun e w' => e = .returned (.bool true) ∧ W = w') := fun W hW => HH2.out W x hW hxm
   clear hxm hr1 hr2
   have X0 := Bx.new wr [.int .i64 x.id, .int .i64 x.obv, .int .i64 x.rev] 96
   have X : Bx (wr.alloc (.cells #[.int .i64 x.id, .int .i64 x.obv, .int .i64 x.rev] 96)) wr.heap.size [.int .i64 x.id, .int .i64 x.obv, .int .i64 x.rev] := X0
   have hb2 : Below wr.heap.size wr (wr.alloc (.cells #[.int .i64 x.id, .int .i64 x.obv, .int .i64 x.rev] 96)) := by (repeat (first | exact Below.refl _ _ | assumption | refine Below.alloc ?_ (by first | omega | (simp only [World.size_alloc]; omega) | (simp; done) | (simp; omega)) _ | refine Below.setCell ?_ (by first | omega | (simp only [World.size_alloc]; omega) | (simp; done) | (simp; omega)) _ | refine Below.drew ?_ | refine below_drewN ?_ _))
   have hbr2 := below_keep' hbr hb2
   have D2 := D.up hb2
   have hBz2 := Nat.le_trans hBz hb2.size
   have hXo : ∀ (v : Value) (n0 : Nat) (ys : List Value), wr.ownsRow Bz 3 1 v n0 ys → v.ownBlock ≠ some wr.heap.size := fun v n0 ys h => rowNe h (.inr (Nat.le_refl _))
   have hx1 := hXo _ _ _ hT.o1
   have hx2 := hXo _ _ _ hT.o2
   replace hT := (hT.alloc (.cells #[.int .i64 x.id, .int .i64 x.obv, .int .i64 x.rev] 96)).drew
   clear X0 hXo
   generalize (g.links.take j).map Lnk.obv = l1 at *
   generalize (g.links.take j).map Lnk.rev = l2 at *
   rcases Nat.eq_zero_or_pos j with rfl | hj0
   ·clear hx
    rw [Nat.zero_mul, Nat.add_zero] at x0 x1 x2
    go_wp2_with fail
    generalize wr.alloc (.cells #[.int .i64 x.id, .int .i64 x.obv, .int .i64 x.rev] 96) = W1 at *
    have y9 := X.lt
    generalize wr.heap.size = bx at *
    clear d0 d1 d2 dl x0 x1 x2 hb2
    refine wp_region_noPanic ?_
    refine wp_region_held_drew (S := fun U => (U.cell? ⟨bx, 0, none⟩ = some (.int .i64 x.id) ∧ U.cell? ⟨bx, 1, none⟩ = some (.int .i64 x.obv) ∧ U.cell? ⟨bx, 2, none⟩ = some (.int .i64 x.rev)) ∧ (U.cell? ⟨w.heap.size, 0, none⟩ = some (.slice A n c) ∧ U.cell? ⟨w.heap.size, 1, none⟩ = some (.slice B m d) ∧ U.cell? ⟨w.heap.size, 2, none⟩ = some (.slice (some ⟨b, off, none⟩) k l))) (by kernel_rfl) ⟨bx3 (X.up (Below.drew (Below.refl _ _))), bx3 (D2.up (Below.drew (Below.refl _ _)))⟩ (fun hHeld => ?_)
    refine' takeW 0 ?_ ?_ ?_ (by kernel_rfl) (by kernel_rfl) (by kernel_rfl) (fun _ _ _ h => h) hHeld ?_
    rotate_left 2
    ·(simp only [List.getElem?_toArray, List.getElem?_cons_succ, List.getElem?_cons_zero]; try rfl)
    ·rfl
    ·(intro w hSw; (try dsimp only at hSw); go_simp; first | done | with_reducible rfl)
    (try simp only [Act.put, List.setIfInBounds_toArray, List.set_cons_zero, List.set_cons_succ])
    refine' takeW 1 ?_ ?_ ?_ (by kernel_rfl) (by kernel_rfl) (by kernel_rfl) (fun _ _ _ h => h) hHeld ?_
    rotate_left 2
    ·(simp only [List.getElem?_toArray, List.getElem?_cons_succ, List.getElem?_cons_zero]; try rfl)
    ·rfl
    ·(intro w hSw; (try dsimp only at hSw); go_simp; first | done | with_reducible rfl)
    (try simp only [Act.put, List.setIfInBounds_toArray, List.set_cons_zero, List.set_cons_succ])
    refine wpAnyH_ready (rs := [2]) (by kernel_rfl) (by simp) ?_
    refine' AllReadyH.cons ?_ (fun K hK => ?_) AllReadyH.nil
    rotate_left 1
    ·(simp only [List.getElem?_toArray, List.getElem?_cons_succ, List.getElem?_cons_zero]; try rfl)
    (try go_simp)
    go_at_call 107
    refine (HID.out _).mono ?_
    rintro e wz ⟨rfl, rfl⟩
    (try go_simp)
    refine hK.out _ _ ?_ (fun hHeld => ?_)
    ·exact hHeld
    clear hK K
    (try simp only [Act.put, List.setIfInBounds_toArray, List.set_cons_zero, List.set_cons_succ])
    refine' takeW 3 ?_ ?_ ?_ (by kernel_rfl) (by kernel_rfl) (by kernel_rfl) (fun _ _ _ h => h) hHeld ?_
    rotate_left 2
    ·(simp only [List.getElem?_toArray, List.getElem?_cons_succ, List.getElem?_cons_zero]; try rfl)
    ·rfl
    ·(intro w hSw; (try dsimp only at hSw); go_simp; first | done | with_reducible rfl)
    (try simp only [Act.put, List.setIfInBounds_toArray, List.set_cons_zero, List.set_cons_succ])
    refine' takeW 4 ?_ ?_ ?_ (by kernel_rfl) (by kernel_rfl) (by kernel_rfl) (fun _ _ _ h => h) hHeld ?_
    rotate_left 2
    ·(simp only [List.getElem?_toArray, List.getElem?_cons_succ, List.getElem?_cons_zero]; try rfl)
    ·rfl
    ·(intro w hSw; (try dsimp only at hSw); go_simp; first | done | with_reducible rfl)
    (try simp only [Act.put, List.setIfInBounds_toArray, List.set_cons_zero, List.set_cons_succ])
    refine' takeW 5 ?_ ?_ ?_ (by kernel_rfl) (by kernel_rfl) (by kernel_rfl) (fun _ _ _ h => h) hHeld ?_
    rotate_left 2
    ·(simp only [List.getElem?_toArray, List.getElem?_cons_succ, List.getElem?_cons_zero]; try rfl)
    ·rfl
    ·(intro w hSw; (try dsimp only at hSw); go_simp; first | done | with_reducible rfl)
    (try simp only [Act.put, List.setIfInBounds_toArray, List.set_cons_zero, List.set_cons_succ])
    refine' takeW 6 ?_ ?_ ?_ (by kernel_rfl) (by kernel_rfl) (by kernel_rfl) (fun _ _ _ h => h) hHeld ?_
    rotate_left 2
    ·(simp only [List.getElem?_toArray, List.getElem?_cons_succ, List.getElem?_cons_zero]; try rfl)
    ·rfl
    ·(intro w hSw; (try dsimp only at hSw); go_simp; first | done | with_reducible rfl)
    (try simp only [Act.put, List.setIfInBounds_toArray, List.set_cons_zero, List.set_cons_succ])
    refine' takeW 7 ?_ ?_ ?_ (by kernel_rfl) (by kernel_rfl) (by kernel_rfl) (fun _ _ _ h => h) hHeld ?_
    rotate_left 2
    ·(simp only [List.getElem?_toArray, List.getElem?_cons_succ, List.getElem?_cons_zero]; try rfl)
    ·rfl
    ·(intro w hSw; (try dsimp only at hSw); go_simp; first | done | with_reducible rfl)
    (try simp only [Act.put, List.setIfInBounds_toArray, List.set_cons_zero, List.set_cons_succ])
    refine' takeN 8 ?_ ?_ (by kernel_rfl) (by kernel_rfl) (by kernel_rfl) (fun _ _ _ h => h) hHeld ?_
    rotate_left 1
    ·(simp only [List.getElem?_toArray, List.getElem?_cons_succ, List.getElem?_cons_zero]; try rfl)
    ·rfl
    (try simp only [Act.put, List.setIfInBounds_toArray, List.set_cons_zero, List.set_cons_succ])
    refine' takeN 9 ?_ ?_ (by kernel_rfl) (by kernel_rfl) (by kernel_rfl) (fun _ _ _ h => h) hHeld ?_
    rotate_left 1
    ·(simp only [List.getElem?_toArray, List.getElem?_cons_succ, List.getElem?_cons_zero]; try rfl)
    ·rfl
    (try simp only [Act.put, List.setIfInBounds_toArray, List.set_cons_zero, List.set_cons_succ])
    refine' takeN 10 ?_ ?_ (by kernel_rfl) (by kernel_rfl) (by kernel_rfl) (fun _ _ _ h => h) hHeld ?_
    rotate_left 1
    ·(simp only [List.getElem?_toArray, List.getElem?_cons_succ, List.getElem?_cons_zero]; try rfl)
    ·rfl
    (try simp only [Act.put, List.setIfInBounds_toArray, List.set_cons_zero, List.set_cons_succ])
    refine' takeN 11 ?_ ?_ (by kernel_rfl) (by kernel_rfl) (by kernel_rfl) (fun _ _ _ h => h) hHeld ?_
    rotate_left 1
    ·(simp only [List.getElem?_toArray, List.getElem?_cons_succ, List.getElem?_cons_zero]; try rfl)
    ·rfl
    (try simp only [Act.put, List.setIfInBounds_toArray, List.set_cons_zero, List.set_cons_succ])
    refine' takeN 12 ?_ ?_ (by kernel_rfl) (by kernel_rfl) (by kernel_rfl) (fun _ _ _ h => h) hHeld ?_
    rotate_left 1
    ·(simp only [List.getElem?_toArray, List.getElem?_cons_succ, List.getElem?_cons_zero]; try rfl)
    ·rfl
    (try simp only [Act.put, List.setIfInBounds_toArray, List.set_cons_zero, List.set_cons_succ])
    refine' takeN 13 ?_ ?_ (by kernel_rfl) (by kernel_rfl) (by kernel_rfl) (fun _ _ _ h => h) hHeld ?_
    rotate_left 1
    ·(simp only [List.getElem?_toArray, List.getElem?_cons_succ, List.getElem?_cons_zero]; try rfl)
    ·rfl
    (try simp only [Act.put, List.setIfInBounds_toArray, List.set_cons_zero, List.set_cons_succ])
    refine' takeN 14 ?_ ?_ (by kernel_rfl) (by kernel_rfl) (by kernel_rfl) (fun _ _ _ h => h) hHeld ?_
    rotate_left 1
    ·(simp only [List.getElem?_toArray, List.getElem?_cons_succ, List.getElem?_cons_zero]; try rfl)
    ·rfl
    (try simp only [Act.put, List.setIfInBounds_toArray, List.set_cons_zero, List.set_cons_succ])
    refine' takeN 15 ?_ ?_ (by kernel_rfl) (by kernel_rfl) (by kernel_rfl) (fun _ _ _ h => h) hHeld ?_
    rotate_left 1
    ·(simp only [List.getElem?_toArray, List.getElem?_cons_succ, List.getElem?_cons_zero]; try rfl)
    ·rfl
    (try simp only [Act.put, List.setIfInBounds_toArray, List.set_cons_zero, List.set_cons_succ])
    refine' takeN 16 ?_ ?_ (by kernel_rfl) (by kernel_rfl) (by kernel_rfl) (fun _ _ _ h => h) hHeld ?_
    rotate_left 1
    ·(simp only [List.getElem?_toArray, List.getElem?_cons_succ, List.getElem?_cons_zero]; try rfl)
    ·rfl
    (try simp only [Act.put, List.setIfInBounds_toArray, List.set_cons_zero, List.set_cons_succ])
    refine' takeN 17 ?_ ?_ (by kernel_rfl) (by kernel_rfl) (by kernel_rfl) (fun _ _ _ h => h) hHeld ?_
    rotate_left 1
    ·(simp only [List.getElem?_toArray, List.getElem?_cons_succ, List.getElem?_cons_zero]; try rfl)
    ·rfl
    (try simp only [Act.put, List.setIfInBounds_toArray, List.set_cons_zero, List.set_cons_succ])
    refine' takeW 18 ?_ ?_ ?_ (by kernel_rfl) (by kernel_rfl) (by kernel_rfl) (fun _ _ _ h => h) hHeld ?_
    rotate_left 2
    ·(simp only [List.getElem?_toArray, List.getElem?_cons_succ, List.getElem?_cons_zero]; try rfl)
    ·rfl
    ·(intro w hSw; (try dsimp only at hSw); go_simp; first | done | with_reducible rfl)
    (try simp only [Act.put, List.setIfInBounds_toArray, List.set_cons_zero, List.set_cons_succ])
    refine' takeW 19 ?_ ?_ ?_ (by kernel_rfl) (by kernel_rfl) (by kernel_rfl) (fun _ _ _ h => h) hHeld ?_
    rotate_left 2
    ·(simp only [List.getElem?_toArray, List.getElem?_cons_succ, List.getElem?_cons_zero]; try rfl)
    ·rfl
    ·(intro w hSw; (try dsimp only at hSw); go_simp; first | done | with_reducible rfl)
    (try simp only [Act.put, List.setIfInBounds_toArray, List.set_cons_zero, List.set_cons_succ])
    refine' takeW 20 ?_ ?_ ?_ (by kernel_rfl) (by kernel_rfl) (by kernel_rfl) (fun _ _ _ h => h) hHeld ?_
    rotate_left 2
    ·(simp only [List.getElem?_toArray, List.getElem?_cons_succ, List.getElem?_cons_zero]; try rfl)
    ·rfl
    ·(intro w hSw; (try dsimp only at hSw); go_simp; first | done | with_reducible rfl)
    (try simp only [Act.put, List.setIfInBounds_toArray, List.set_cons_zero, List.set_cons_succ])
    refine' takeW 21 ?_ ?_ ?_ (by kernel_rfl) (by kernel_rfl) (by kernel_rfl) (fun _ _ _ h => h) hHeld ?_
    rotate_left 2
    ·(simp only [List.getElem?_toArray, List.getElem?_cons_succ, List.getElem?_cons_zero]; try rfl)
    ·rfl
    ·(intro w hSw; (try dsimp only at hSw); go_simp; first | done | with_reducible rfl)
    (try simp only [Act.put, List.setIfInBounds_toArray, List.set_cons_zero, List.set_cons_succ])
    refine' takeW 22 ?_ ?_ ?_ (by kernel_rfl) (by kernel_rfl) (by kernel_rfl) (fun _ _ _ h => h) hHeld ?_
    rotate_left 2
    ·(simp only [List.getElem?_toArray, List.getElem?_cons_succ, List.getElem?_cons_zero]; try rfl)
    ·rfl
    ·(intro w hSw; (try dsimp only at hSw); go_simp; first | done | with_reducible rfl)
    (try simp only [Act.put, List.setIfInBounds_toArray, List.set_cons_zero, List.set_cons_succ])
    refine' takeW 23 ?_ ?_ ?_ (by kernel_rfl) (by kernel_rfl) (by kernel_rfl) (fun _ _ _ h => h) hHeld ?_
    rotate_left 2
    ·(simp only [List.getElem?_toArray, List.getElem?_cons_succ, List.getElem?_cons_zero]; try rfl)
    ·rfl
    ·(intro w hSw; (try dsimp only at hSw); go_simp; first | done | with_reducible rfl)
    (try simp only [Act.put, List.setIfInBounds_toArray, List.set_cons_zero, List.set_cons_succ])
    refine' takeW 24 ?_ ?_ ?_ (by kernel_rfl) (by kernel_rfl) (by kernel_rfl) (fun _ _ _ h => h) hHeld ?_
    rotate_left 2
    ·(simp only [List.getElem?_toArray, List.getElem?_cons_succ, List.getElem?_cons_zero]; try rfl)
    ·rfl
    ·(intro w hSw; (try dsimp only at hSw); go_simp; first | done | with_reducible rfl)
    (try simp only [Act.put, List.setIfInBounds_toArray, List.set_cons_zero, List.set_cons_succ])
    refine wpAnyH_ready (rs := [25]) (by kernel_rfl) (by simp) ?_
    refine' AllReadyH.cons ?_ (fun K hK => ?_) AllReadyH.nil
    rotate_left 1
    ·(simp only [List.getElem?_toArray, List.getElem?_cons_succ, List.getElem?_cons_zero]; try rfl)
    (try go_simp)
    go_at_call 25
    refine (HC1.out _ hbr2.drew).mono ?_
    rintro e wz ⟨rfl, rfl⟩
    (try go_simp)
    refine hK.out _ _ ?_ (fun hHeld => ?_)
    ·exact hHeld
    clear hK K
    (try simp only [Act.put, List.setIfInBounds_toArray, List.set_cons_zero, List.set_cons_succ])
    refine' takeW 26 ?_ ?_ ?_ (by kernel_rfl) (by kernel_rfl) (by kernel_rfl) (fun _ _ _ h => h) hHeld ?_
    rotate_left 2
    ·(simp only [List.getElem?_toArray, List.getElem?_cons_succ, List.getElem?_cons_zero]; try rfl)
    ·rfl
    ·(intro w hSw; (try dsimp only at hSw); go_simp; first | done | with_reducible rfl)
    (try simp only [Act.put, List.setIfInBounds_toArray, List.set_cons_zero, List.set_cons_succ])
    refine' takeW 27 ?_ ?_ ?_ (by kernel_rfl) (by kernel_rfl) (by kernel_rfl) (fun _ _ _ h => h) hHeld ?_
    rotate_left 2
    ·(simp only [List.getElem?_toArray, List.getElem?_cons_succ, List.getElem?_cons_zero]; try rfl)
    ·rfl
    ·(intro w hSw; (try dsimp only at hSw); go_simp; first | done | with_reducible rfl)
    (try simp only [Act.put, List.setIfInBounds_toArray, List.set_cons_zero, List.set_cons_succ])
    refine' takeW 28 ?_ ?_ ?_ (by kernel_rfl) (by kernel_rfl) (by kernel_rfl) (fun _ _ _ h => h) hHeld ?_
    rotate_left 2
    ·(simp only [List.getElem?_toArray, List.getElem?_cons_succ, List.getElem?_cons_zero]; try rfl)
    ·rfl
    ·(intro w hSw; (try dsimp only at hSw); go_simp; first | done | with_reducible rfl)
    (try simp only [Act.put, List.setIfInBounds_toArray, List.set_cons_zero, List.set_cons_succ])
    refine' takeW 29 ?_ ?_ ?_ (by kernel_rfl) (by kernel_rfl) (by kernel_rfl) (fun _ _ _ h => h) hHeld ?_
    rotate_left 2
    ·(simp only [List.getElem?_toArray, List.getElem?_cons_succ, List.getElem?_cons_zero]; try rfl)
    ·rfl
    ·(intro w hSw; (try dsimp only at hSw); go_simp; first | done | with_reducible rfl)
    (try simp only [Act.put, List.setIfInBounds_toArray, List.set_cons_zero, List.set_cons_succ])
    refine' takeW 30 ?_ ?_ ?_ (by kernel_rfl) (by kernel_rfl) (by kernel_rfl) (fun _ _ _ h => h) hHeld ?_
    rotate_left 2
    ·(simp only [List.getElem?_toArray, List.getElem?_cons_succ, List.getElem?_cons_zero]; try rfl)
    ·rfl
    ·(intro w hSw; (try dsimp only at hSw); go_simp; first | done | with_reducible rfl)
    (try simp only [Act.put, List.setIfInBounds_toArray, List.set_cons_zero, List.set_cons_succ])
    refine' takeW 31 ?_ ?_ ?_ (by kernel_rfl) (by kernel_rfl) (by kernel_rfl) (fun _ _ _ h => h) hHeld ?_
    rotate_left 2
    ·(simp only [List.getElem?_toArray, List.getElem?_cons_succ, List.getElem?_cons_zero]; try rfl)
    ·rfl
    ·(intro w hSw; (try dsimp only at hSw); go_simp; first | done | with_reducible rfl)
    (try simp only [Act.put, List.setIfInBounds_toArray, List.set_cons_zero, List.set_cons_succ])
    refine' takeW 32 ?_ ?_ ?_ (by kernel_rfl) (by kernel_rfl) (by kernel_rfl) (fun _ _ _ h => h) hHeld ?_
    rotate_left 2
    ·(simp only [List.getElem?_toArray, List.getElem?_cons_succ, List.getElem?_cons_zero]; try rfl)
    ·rfl
    ·(intro w hSw; (try dsimp only at hSw); go_simp; first | done | with_reducible rfl)
    (try simp only [Act.put, List.setIfInBounds_toArray, List.set_cons_zero, List.set_cons_succ])
    refine wpAnyH_ready (rs := [33]) (by kernel_rfl) (by simp) ?_
    refine' AllReadyH.cons ?_ (fun K hK => ?_) AllReadyH.nil
    rotate_left 1
    ·(simp only [List.getElem?_toArray, List.getElem?_cons_succ, List.getElem?_cons_zero]; try rfl)
    (try go_simp)
    go_at_call 25
    refine (HC2.out _ hbr2.drew).mono ?_
    rintro e wz ⟨rfl, rfl⟩
    (try go_simp)
    refine hK.out _ _ ?_ (fun hHeld => ?_)
    ·exact hHeld
    clear hK K
    (try simp only [Act.put, List.setIfInBounds_toArray, List.set_cons_zero, List.set_cons_succ])
    refine' takeW 34 ?_ ?_ ?_ (by kernel_rfl) (by kernel_rfl) (by kernel_rfl) (fun _ _ _ h => h) hHeld ?_
    rotate_left 2
    ·(simp only [List.getElem?_toArray, List.getElem?_cons_succ, List.getElem?_cons_zero]; try rfl)
    ·rfl
    ·(intro w hSw; (try dsimp only at hSw); go_simp; first | done | with_reducible rfl)
    (try simp only [Act.put, List.setIfInBounds_toArray, List.set_cons_zero, List.set_cons_succ])
    refine' takeW 35 ?_ ?_ ?_ (by kernel_rfl) (by kernel_rfl) (by kernel_rfl) (fun _ _ _ h => h) hHeld ?_
    rotate_left 2
    ·(simp only [List.getElem?_toArray, List.getElem?_cons_succ, List.getElem?_cons_zero]; try rfl)
    ·rfl
    ·(intro w hSw; (try dsimp only at hSw); go_simp; first | done | with_reducible rfl)
    (try simp only [Act.put, List.setIfInBounds_toArray, List.set_cons_zero, List.set_cons_succ])
    refine wpAnyH_done (by kernel_rfl) ?_ _
    refine NoPanic.normal ?_
    clear hHeld
    have hC := hbr2.drew
    replace X := X.up (Below.drew (Below.refl _ _))
    replace D2 := D2.up (Below.drew (Below.refl _ _))
    replace hBz2 : Bz ≤ W1.drew.heap.size := hBz2
    generalize W1.drew = W2 at *
    have q0 := X.cell 0 _ rfl
    have q1 := X.cell 1 _ rfl
    have q2 := X.cell 2 _ rfl
    go_wp2_with (at_builtin; go_loud (refine wpList_append_own_at _ rfl _ _ 36 rfl Bz 3 i0 (.int .i64 0) 1 8 Tryz.underlying36 hi hz0 hz1 hz2 rfl (by decide) (.slice A3 0 c3) _ _ rfl (hT.o1.alloc _) ⟨W2.heap.size, 0, none⟩ 1 1 [.int .i64 x.obv] rfl rfl ?c1 ?c2 ?c3 ?c4 ?c5 ?_))
    case c1 => exact cell_list_at (by simp) _ _
    case c2 => exact encI_one x.obv
    case c3 => unfold maxLen; omega
    case c4 => omega
    case c5 => simp; omega
    intro v5 w5 hn5 hg5 _ ha5
    replace hC := below_row (hC.alloc hC.size _) (hT.o1.alloc _) hg5 (by omega) (Nat.le_refl _)
    replace D2 := (D2.alloc _).grown hg5 (rowNe hT.o1 (.inl (by omega)))
    replace X := (X.alloc _).grown hg5 hx1
    replace hT := hT.app1 hn5 hg5 ha5
    replace hBz2 := Nat.le_trans hBz2 (Nat.le_trans (by simp) hg5.size)
    clear q0 q1 q2
    have q0 := X.cell 0 _ rfl
    have q1 := X.cell 1 _ rfl
    have q2 := X.cell 2 _ rfl
    go_wp2_with (at_builtin; go_loud (refine wpList_append_own_at _ rfl _ _ 36 rfl Bz 3 i0 (.int .i64 0) 1 8 Tryz.underlying36 hi hz0 hz1 hz2 rfl (by decide) (.slice A4 0 c4) _ _ rfl (hT.o2.alloc _) ⟨w5.heap.size, 0, none⟩ 1 1 [.int .i64 x.rev] rfl rfl ?c1 ?c2 ?c3 ?c4 ?c5 ?_))
    case c1 => exact cell_list_at (by simp) _ _
    case c2 => exact encI_one x.rev
    case c3 => unfold maxLen; omega
    case c4 => omega
    case c5 => simp; omega
    intro v6 w6 hn6 hg6 _ ha6
    replace hC := below_row (hC.alloc hC.size _) (hT.o2.alloc _) hg6 (by omega) (Nat.le_refl _)
    replace D2 := (D2.alloc _).grown hg6 (rowNe hT.o2 (.inl (by omega)))
    replace X := (X.alloc _).grown hg6 hx2
    replace hT := hT.app2 hn6 hg6 ha6
    replace hBz2 := Nat.le_trans hBz2 (Nat.le_trans (by simp) hg6.size)
    go_wp2_with fail
    go_roundw
    case rel => exact ⟨0 + 1, by omega, by go_num, by rw [HTK.out.1, HTK.out.2]; exact hT, hC, D2, hBz2⟩
    case measure => simp [intOf]; omega
   ·obtain ⟨jp, rfl⟩ : ∃ jp, j = jp + 1 := ⟨j - 1, by omega⟩
    obtain ⟨b', off', y, hA, hbbb, hy, y0, y1, y2⟩ := (HUL.out _ hbr2).ln (show jp < k by omega)
    cases hA
    have hlt1 : y.id < x.id := by
     obtain ⟨h1, e1⟩ := List.getElem?_eq_some_iff.1 hx
     obtain ⟨h2, e2⟩ := List.getElem?_eq_some_iff.1 hy
     have := (List.pairwise_iff_getElem.1 HLI.out) jp (jp + 1) h2 h1 (by omega)
     rw [e1, e2] at this
     exact this
    have k6 : IntKind.i64.wrap (jp : Int) = (jp : Int) := by rw [IntKind.wrap_i64]; omega
    have k4 : (jp : Int) < (k : Int) := by omega
    have g3 : decide (x.id ≤ y.id) = false := decide_eq_false (by omega)
    have g4 : decide ((0 : Int) < (jp : Int) + 1) = true := decide_eq_true (by omega)
    clear hx hy hlt1
    go_wp2_with fail
    generalize wr.alloc (.cells #[.int .i64 x.id, .int .i64 x.obv, .int .i64 x.rev] 96) = W1 at *
    have y9 := X.lt
    generalize wr.heap.size = bx at *
    clear d0 d1 d2 dl x0 x1 x2 hb2
    refine wp_region_noPanic ?_
    refine wp_region_held_drew (S := fun U => (U.cell? ⟨bx, 0, none⟩ = some (.int .i64 x.id) ∧ U.cell? ⟨bx, 1, none⟩ = some (.int .i64 x.obv) ∧ U.cell? ⟨bx, 2, none⟩ = some (.int .i64 x.rev)) ∧ (U.cell? ⟨w.heap.size, 0, none⟩ = some (.slice A n c) ∧ U.cell? ⟨w.heap.size, 1, none⟩ = some (.slice B m d) ∧ U.cell? ⟨w.heap.size, 2, none⟩ = some (.slice (some ⟨b, off, none⟩) k l)) ∧ U.cell? ⟨b, off + jp * 3, none⟩ = some (.int .i64 y.id)) (by kernel_rfl) ⟨bx3 (X.up (Below.drew (Below.refl _ _))), bx3 (D2.up (Below.drew (Below.refl _ _))), y0⟩ (fun hHeld => ?_)
    refine' takeW 0 ?_ ?_ ?_ (by kernel_rfl) (by kernel_rfl) (by kernel_rfl) (fun _ _ _ h => h) hHeld ?_
    rotate_left 2
    ·(simp only [List.getElem?_toArray, List.getElem?_cons_succ, List.getElem?_cons_zero]; try rfl)
    ·rfl
    ·(intro w hSw; (try dsimp only at hSw); go_simp; first | done | with_reducible rfl)
    (try simp only [Act.put, List.setIfInBounds_toArray, List.set_cons_zero, List.set_cons_succ])
    refine' takeW 1 ?_ ?_ ?_ (by kernel_rfl) (by kernel_rfl) (by kernel_rfl) (fun _ _ _ h => h) hHeld ?_
    rotate_left 2
    ·(simp only [List.getElem?_toArray, List.getElem?_cons_succ, List.getElem?_cons_zero]; try rfl)
    ·rfl
    ·(intro w hSw; (try dsimp only at hSw); go_simp; first | done | with_reducible rfl)
    (try simp only [Act.put, List.setIfInBounds_toArray, List.set_cons_zero, List.set_cons_succ])
    refine wpAnyH_ready (rs := [2]) (by kernel_rfl) (by simp) ?_
    refine' AllReadyH.cons ?_ (fun K hK => ?_) AllReadyH.nil
    rotate_left 1
    ·(simp only [List.getElem?_toArray, List.getElem?_cons_succ, List.getElem?_cons_zero]; try rfl)
    (try go_simp)
    go_at_call 107
    refine (HID.out _).mono ?_
    rintro e wz ⟨rfl, rfl⟩
    (try go_simp)
    refine hK.out _ _ ?_ (fun hHeld => ?_)
    ·exact hHeld
    clear hK K
    (try simp only [Act.put, List.setIfInBounds_toArray, List.set_cons_zero, List.set_cons_succ])
    refine' takeW 3 ?_ ?_ ?_ (by kernel_rfl) (by kernel_rfl) (by kernel_rfl) (fun _ _ _ h => h) hHeld ?_
    rotate_left 2
    ·(simp only [List.getElem?_toArray, List.getElem?_cons_succ, List.getElem?_cons_zero]; try rfl)
    ·rfl
    ·(intro w hSw; (try dsimp only at hSw); go_simp; first | done | with_reducible rfl)
    (try simp only [Act.put, List.setIfInBounds_toArray, List.set_cons_zero, List.set_cons_succ])
    refine' takeW 4 ?_ ?_ ?_ (by kernel_rfl) (by kernel_rfl) (by kernel_rfl) (fun _ _ _ h => h) hHeld ?_
    rotate_left 2
    ·(simp only [List.getElem?_toArray, List.getElem?_cons_succ, List.getElem?_cons_zero]; try rfl)
    ·rfl
    ·(intro w hSw; (try dsimp only at hSw); go_simp; first | done | with_reducible rfl)
    (try simp only [Act.put, List.setIfInBounds_toArray, List.set_cons_zero, List.set_cons_succ])
    refine' takeW 5 ?_ ?_ ?_ (by kernel_rfl) (by kernel_rfl) (by kernel_rfl) (fun _ _ _ h => h) hHeld ?_
    rotate_left 2
    ·(simp only [List.getElem?_toArray, List.getElem?_cons_succ, List.getElem?_cons_zero]; try rfl)
    ·rfl
    ·(intro w hSw; (try dsimp only at hSw); go_simp; first | done | with_reducible rfl)
    (try simp only [Act.put, List.setIfInBounds_toArray, List.set_cons_zero, List.set_cons_succ])
    refine' takeW 6 ?_ ?_ ?_ (by kernel_rfl) (by kernel_rfl) (by kernel_rfl) (fun _ _ _ h => h) hHeld ?_
    rotate_left 2
    ·(simp only [List.getElem?_toArray, List.getElem?_cons_succ, List.getElem?_cons_zero]; try rfl)
    ·rfl
    ·(intro w hSw; (try dsimp only at hSw); go_simp; first | done | with_reducible rfl)
    (try simp only [Act.put, List.setIfInBounds_toArray, List.set_cons_zero, List.set_cons_succ])
    refine' takeW 7 ?_ ?_ ?_ (by kernel_rfl) (by kernel_rfl) (by kernel_rfl) (fun _ _ _ h => h) hHeld ?_
    rotate_left 2
    ·(simp only [List.getElem?_toArray, List.getElem?_cons_succ, List.getElem?_cons_zero]; try rfl)
    ·rfl
    ·(intro w hSw; (try dsimp only at hSw); go_simp; first | done | with_reducible rfl)
    (try simp only [Act.put, List.setIfInBounds_toArray, List.set_cons_zero, List.set_cons_succ])
    refine' takeW 8 ?_ ?_ ?_ (by kernel_rfl) (by kernel_rfl) (by kernel_rfl) (fun _ _ _ h => h) hHeld ?_
    rotate_left 2
    ·(simp only [List.getElem?_toArray, List.getElem?_cons_succ, List.getElem?_cons_zero]; try rfl)
    ·rfl
    ·(intro w hSw; (try dsimp only at hSw); go_simp; first | done | with_reducible rfl)
    (try simp only [Act.put, List.setIfInBounds_toArray, List.set_cons_zero, List.set_cons_succ])
    refine' takeW 9 ?_ ?_ ?_ (by kernel_rfl) (by kernel_rfl) (by kernel_rfl) (fun _ _ _ h => h) hHeld ?_
    rotate_left 2
    ·(simp only [List.getElem?_toArray, List.getElem?_cons_succ, List.getElem?_cons_zero]; try rfl)
    ·rfl
    ·(intro w hSw; (try dsimp only at hSw); go_simp; first | done | with_reducible rfl)
    (try simp only [Act.put, List.setIfInBounds_toArray, List.set_cons_zero, List.set_cons_succ])
    refine' takeW 10 ?_ ?_ ?_ (by kernel_rfl) (by kernel_rfl) (by kernel_rfl) (fun _ _ _ h => h) hHeld ?_
    rotate_left 2
    ·(simp only [List.getElem?_toArray, List.getElem?_cons_succ, List.getElem?_cons_zero]; try rfl)
    ·rfl
    ·(intro w hSw; (try dsimp only at hSw); go_simp; first | done | with_reducible rfl)
    (try simp only [Act.put, List.setIfInBounds_toArray, List.set_cons_zero, List.set_cons_succ])
    refine' takeW 11 ?_ ?_ ?_ (by kernel_rfl) (by kernel_rfl) (by kernel_rfl) (fun _ _ _ h => h) hHeld ?_
    rotate_left 2
    ·(simp only [List.getElem?_toArray, List.getElem?_cons_succ, List.getElem?_cons_zero]; try rfl)
    ·rfl
    ·(intro w hSw; (try dsimp only at hSw); go_simp; first | done | with_reducible rfl)
    (try simp only [Act.put, List.setIfInBounds_toArray, List.set_cons_zero, List.set_cons_succ])
    refine' takeW 12 ?_ ?_ ?_ (by kernel_rfl) (by kernel_rfl) (by kernel_rfl) (fun _ _ _ h => h) hHeld ?_
    rotate_left 2
    ·(simp only [List.getElem?_toArray, List.getElem?_cons_succ, List.getElem?_cons_zero]; try rfl)
    ·rfl
    ·(intro w hSw; (try dsimp only at hSw); go_simp; first | done | with_reducible rfl)
    (try simp only [Act.put, List.setIfInBounds_toArray, List.set_cons_zero, List.set_cons_succ])
    refine' takeW 13 ?_ ?_ ?_ (by kernel_rfl) (by kernel_rfl) (by kernel_rfl) (fun _ _ _ h => h) hHeld ?_
    rotate_left 2
    ·(simp only [List.getElem?_toArray, List.getElem?_cons_succ, List.getElem?_cons_zero]; try rfl)
    ·rfl
    ·(intro w hSw; (try dsimp only at hSw); go_simp; first | done | with_reducible rfl)
    (try simp only [Act.put, List.setIfInBounds_toArray, List.set_cons_zero, List.set_cons_succ])
    refine' takeW 14 ?_ ?_ ?_ (by kernel_rfl) (by kernel_rfl) (by kernel_rfl) (fun _ _ _ h => h) hHeld ?_
    rotate_left 2
    ·(simp only [List.getElem?_toArray, List.getElem?_cons_succ, List.getElem?_cons_zero]; try rfl)
    ·rfl
    ·(intro w hSw; (try dsimp only at hSw); go_simp; first | done | with_reducible rfl)
    (try simp only [Act.put, List.setIfInBounds_toArray, List.set_cons_zero, List.set_cons_succ])
    refine' takeW 15 ?_ ?_ ?_ (by kernel_rfl) (by kernel_rfl) (by kernel_rfl) (fun _ _ _ h => h) hHeld ?_
    rotate_left 2
    ·(simp only [List.getElem?_toArray, List.getElem?_cons_succ, List.getElem?_cons_zero]; try rfl)
    ·rfl
    ·(intro w hSw; (try dsimp only at hSw); go_simp; first | done | with_reducible rfl)
    (try simp only [Act.put, List.setIfInBounds_toArray, List.set_cons_zero, List.set_cons_succ])
    refine' takeW 16 ?_ ?_ ?_ (by kernel_rfl) (by kernel_rfl) (by kernel_rfl) (fun _ _ _ h => h) hHeld ?_
    rotate_left 2
    ·(simp only [List.getElem?_toArray, List.getElem?_cons_succ, List.getElem?_cons_zero]; try rfl)
    ·rfl
    ·(intro w hSw; (try dsimp only at hSw); go_simp; first | done | with_reducible rfl)
    (try simp only [Act.put, List.setIfInBounds_toArray, List.set_cons_zero, List.set_cons_succ])
    refine' takeW 17 ?_ ?_ ?_ (by kernel_rfl) (by kernel_rfl) (by kernel_rfl) (fun _ _ _ h => h) hHeld ?_
    rotate_left 2
    ·(simp only [List.getElem?_toArray, List.getElem?_cons_succ, List.getElem?_cons_zero]; try rfl)
    ·rfl
    ·(intro w hSw; (try dsimp only at hSw); go_simp; first | done | with_reducible rfl)
    (try simp only [Act.put, List.setIfInBounds_toArray, List.set_cons_zero, List.set_cons_succ])
    refine' takeW 18 ?_ ?_ ?_ (by kernel_rfl) (by kernel_rfl) (by kernel_rfl) (fun _ _ _ h => h) hHeld ?_
    rotate_left 2
    ·(simp only [List.getElem?_toArray, List.getElem?_cons_succ, List.getElem?_cons_zero]; try rfl)
    ·rfl
    ·(intro w hSw; (try dsimp only at hSw); go_simp; first | done | with_reducible rfl)
    (try simp only [Act.put, List.setIfInBounds_toArray, List.set_cons_zero, List.set_cons_succ])
    refine' takeW 19 ?_ ?_ ?_ (by kernel_rfl) (by kernel_rfl) (by kernel_rfl) (fun _ _ _ h => h) hHeld ?_
    rotate_left 2
    ·(simp only [List.getElem?_toArray, List.getElem?_cons_succ, List.getElem?_cons_zero]; try rfl)
    ·rfl
    ·(intro w hSw; (try dsimp only at hSw); go_simp; first | done | with_reducible rfl)
    (try simp only [Act.put, List.setIfInBounds_toArray, List.set_cons_zero, List.set_cons_succ])
    refine' takeW 20 ?_ ?_ ?_ (by kernel_rfl) (by kernel_rfl) (by kernel_rfl) (fun _ _ _ h => h) hHeld ?_
    rotate_left 2
    ·(simp only [List.getElem?_toArray, List.getElem?_cons_succ, List.getElem?_cons_zero]; try rfl)
    ·rfl
    ·(intro w hSw; (try dsimp only at hSw); go_simp; first | done | with_reducible rfl)
    (try simp only [Act.put, List.setIfInBounds_toArray, List.set_cons_zero, List.set_cons_succ])
    refine' takeW 21 ?_ ?_ ?_ (by kernel_rfl) (by kernel_rfl) (by kernel_rfl) (fun _ _ _ h => h) hHeld ?_
    rotate_left 2
    ·(simp only [List.getElem?_toArray, List.getElem?_cons_succ, List.getElem?_cons_zero]; try rfl)
    ·rfl
    ·(intro w hSw; (try dsimp only at hSw); go_simp; first | done | with_reducible rfl)
    (try simp only [Act.put, List.setIfInBounds_toArray, List.set_cons_zero, List.set_cons_succ])
    refine' takeW 22 ?_ ?_ ?_ (by kernel_rfl) (by kernel_rfl) (by kernel_rfl) (fun _ _ _ h => h) hHeld ?_
    rotate_left 2
    ·(simp only [List.getElem?_toArray, List.getElem?_cons_succ, List.getElem?_cons_zero]; try rfl)
    ·rfl
    ·(intro w hSw; (try dsimp only at hSw); go_simp; first | done | with_reducible rfl)
    (try simp only [Act.put, List.setIfInBounds_toArray, List.set_cons_zero, List.set_cons_succ])
    refine' takeW 23 ?_ ?_ ?_ (by kernel_rfl) (by kernel_rfl) (by kernel_rfl) (fun _ _ _ h => h) hHeld ?_
    rotate_left 2
    ·(simp only [List.getElem?_toArray, List.getElem?_cons_succ, List.getElem?_cons_zero]; try rfl)
    ·rfl
    ·(intro w hSw; (try dsimp only at hSw); go_simp; first | done | with_reducible rfl)
    (try simp only [Act.put, List.setIfInBounds_toArray, List.set_cons_zero, List.set_cons_succ])
    refine' takeW 24 ?_ ?_ ?_ (by kernel_rfl) (by kernel_rfl) (by kernel_rfl) (fun _ _ _ h => h) hHeld ?_
    rotate_left 2
    ·(simp only [List.getElem?_toArray, List.getElem?_cons_succ, List.getElem?_cons_zero]; try rfl)
    ·rfl
    ·(intro w hSw; (try dsimp only at hSw); go_simp; first | done | with_reducible rfl)
    (try simp only [Act.put, List.setIfInBounds_toArray, List.set_cons_zero, List.set_cons_succ])
    refine wpAnyH_ready (rs := [25]) (by kernel_rfl) (by simp) ?_
    refine' AllReadyH.cons ?_ (fun K hK => ?_) AllReadyH.nil
    rotate_left 1
    ·(simp only [List.getElem?_toArray, List.getElem?_cons_succ, List.getElem?_cons_zero]; try rfl)
    (try go_simp)
    go_at_call 25
    refine (HC1.out _ hbr2.drew).mono ?_
    rintro e wz ⟨rfl, rfl⟩
    (try go_simp)
    refine hK.out _ _ ?_ (fun hHeld => ?_)
    ·exact hHeld
    clear hK K
    (try simp only [Act.put, List.setIfInBounds_toArray, List.set_cons_zero, List.set_cons_succ])
    refine' takeW 26 ?_ ?_ ?_ (by kernel_rfl) (by kernel_rfl) (by kernel_rfl) (fun _ _ _ h => h) hHeld ?_
    rotate_left 2
    ·(simp only [List.getElem?_toArray, List.getElem?_cons_succ, List.getElem?_cons_zero]; try rfl)
    ·rfl
    ·(intro w hSw; (try dsimp only at hSw); go_simp; first | done | with_reducible rfl)
    (try simp only [Act.put, List.setIfInBounds_toArray, List.set_cons_zero, List.set_cons_succ])
    refine' takeW 27 ?_ ?_ ?_ (by kernel_rfl) (by kernel_rfl) (by kernel_rfl) (fun _ _ _ h => h) hHeld ?_
    rotate_left 2
    ·(simp only [List.getElem?_toArray, List.getElem?_cons_succ, List.getElem?_cons_zero]; try rfl)
    ·rfl
    ·(intro w hSw; (try dsimp only at hSw); go_simp; first | done | with_reducible rfl)
    (try simp only [Act.put, List.setIfInBounds_toArray, List.set_cons_zero, List.set_cons_succ])
    refine' takeW 28 ?_ ?_ ?_ (by kernel_rfl) (by kernel_rfl) (by kernel_rfl) (fun _ _ _ h => h) hHeld ?_
    rotate_left 2
    ·(simp only [List.getElem?_toArray, List.getElem?_cons_succ, List.getElem?_cons_zero]; try rfl)
    ·rfl
    ·(intro w hSw; (try dsimp only at hSw); go_simp; first | done | with_reducible rfl)
    (try simp only [Act.put, List.setIfInBounds_toArray, List.set_cons_zero, List.set_cons_succ])
    refine' takeW 29 ?_ ?_ ?_ (by kernel_rfl) (by kernel_rfl) (by kernel_rfl) (fun _ _ _ h => h) hHeld ?_
    rotate_left 2
    ·(simp only [List.getElem?_toArray, List.getElem?_cons_succ, List.getElem?_cons_zero]; try rfl)
    ·rfl
    ·(intro w hSw; (try dsimp only at hSw); go_simp; first | done | with_reducible rfl)
    (try simp only [Act.put, List.setIfInBounds_toArray, List.set_cons_zero, List.set_cons_succ])
    refine' takeW 30 ?_ ?_ ?_ (by kernel_rfl) (by kernel_rfl) (by kernel_rfl) (fun _ _ _ h => h) hHeld ?_
    rotate_left 2
    ·(simp only [List.getElem?_toArray, List.getElem?_cons_succ, List.getElem?_cons_zero]; try rfl)
    ·rfl
    ·(intro w hSw; (try dsimp only at hSw); go_simp; first | done | with_reducible rfl)
    (try simp only [Act.put, List.setIfInBounds_toArray, List.set_cons_zero, List.set_cons_succ])
    refine' takeW 31 ?_ ?_ ?_ (by kernel_rfl) (by kernel_rfl) (by kernel_rfl) (fun _ _ _ h => h) hHeld ?_
    rotate_left 2
    ·(simp only [List.getElem?_toArray, List.getElem?_cons_succ, List.getElem?_cons_zero]; try rfl)
    ·rfl
    ·(intro w hSw; (try dsimp only at hSw); go_simp; first | done | with_reducible rfl)
    (try simp only [Act.put, List.setIfInBounds_toArray, List.set_cons_zero, List.set_cons_succ])
    refine' takeW 32 ?_ ?_ ?_ (by kernel_rfl) (by kernel_rfl) (by kernel_rfl) (fun _ _ _ h => h) hHeld ?_
    rotate_left 2
    ·(simp only [List.getElem?_toArray, List.getElem?_cons_succ, List.getElem?_cons_zero]; try rfl)
    ·rfl
    ·(intro w hSw; (try dsimp only at hSw); go_simp; first | done | with_reducible rfl)
    (try simp only [Act.put, List.setIfInBounds_toArray, List.set_cons_zero, List.set_cons_succ])
    refine wpAnyH_ready (rs := [33]) (by kernel_rfl) (by simp) ?_
    refine' AllReadyH.cons ?_ (fun K hK => ?_) AllReadyH.nil
    rotate_left 1
    ·(simp only [List.getElem?_toArray, List.getElem?_cons_succ, List.getElem?_cons_zero]; try rfl)
    (try go_simp)
    go_at_call 25
    refine (HC2.out _ hbr2.drew).mono ?_
    rintro e wz ⟨rfl, rfl⟩
    (try go_simp)
    refine hK.out _ _ ?_ (fun hHeld => ?_)
    ·exact hHeld
    clear hK K
    (try simp only [Act.put, List.setIfInBounds_toArray, List.set_cons_zero, List.set_cons_succ])
    refine' takeW 34 ?_ ?_ ?_ (by kernel_rfl) (by kernel_rfl) (by kernel_rfl) (fun _ _ _ h => h) hHeld ?_
    rotate_left 2
    ·(simp only [List.getElem?_toArray, List.getElem?_cons_succ, List.getElem?_cons_zero]; try rfl)
    ·rfl
    ·(intro w hSw; (try dsimp only at hSw); go_simp; first | done | with_reducible rfl)
    (try simp only [Act.put, List.setIfInBounds_toArray, List.set_cons_zero, List.set_cons_succ])
    refine' takeW 35 ?_ ?_ ?_ (by kernel_rfl) (by kernel_rfl) (by kernel_rfl) (fun _ _ _ h => h) hHeld ?_
    rotate_left 2
    ·(simp only [List.getElem?_toArray, List.getElem?_cons_succ, List.getElem?_cons_zero]; try rfl)
    ·rfl
    ·(intro w hSw; (try dsimp only at hSw); go_simp; first | done | with_reducible rfl)
    (try simp only [Act.put, List.setIfInBounds_toArray, List.set_cons_zero, List.set_cons_succ])
    refine wpAnyH_done (by kernel_rfl) ?_ _
    refine NoPanic.normal ?_
    clear hHeld
    have hC := hbr2.drew
    replace X := X.up (Below.drew (Below.refl _ _))
    replace D2 := D2.up (Below.drew (Below.refl _ _))
    replace hBz2 : Bz ≤ W1.drew.heap.size := hBz2
    generalize W1.drew = W2 at *
    have q0 := X.cell 0 _ rfl
    have q1 := X.cell 1 _ rfl
    have q2 := X.cell 2 _ rfl
    go_wp2_with (at_builtin; go_loud (refine wpList_append_own_at _ rfl _ _ 36 rfl Bz 3 i0 (.int .i64 0) 1 8 Tryz.underlying36 hi hz0 hz1 hz2 rfl (by decide) (.slice A3 (jp + 1) c3) _ _ rfl (hT.o1.alloc _) ⟨W2.heap.size, 0, none⟩ 1 1 [.int .i64 x.obv] rfl rfl ?c1 ?c2 ?c3 ?c4 ?c5 ?_))
    case c1 => exact cell_list_at (by simp) _ _
    case c2 => exact encI_one x.obv
    case c3 => unfold maxLen; omega
    case c4 => omega
    case c5 => simp; omega
    intro v5 w5 hn5 hg5 _ ha5
    replace hC := below_row (hC.alloc hC.size _) (hT.o1.alloc _) hg5 (by omega) (Nat.le_refl _)
    replace D2 := (D2.alloc _).grown hg5 (rowNe hT.o1 (.inl (by omega)))
    replace X := (X.alloc _).grown hg5 hx1
    replace hT := hT.app1 hn5 hg5 ha5
    replace hBz2 := Nat.le_trans hBz2 (Nat.le_trans (by simp) hg5.size)
    clear q0 q1 q2
    have q0 := X.cell 0 _ rfl
    have q1 := X.cell 1 _ rfl
    have q2 := X.cell 2 _ rfl
    go_wp2_with (at_builtin; go_loud (refine wpList_append_own_at _ rfl _ _ 36 rfl Bz 3 i0 (.int .i64 0) 1 8 Tryz.underlying36 hi hz0 hz1 hz2 rfl (by decide) (.slice A4 (jp + 1) c4) _ _ rfl (hT.o2.alloc _) ⟨w5.heap.size, 0, none⟩ 1 1 [.int .i64 x.rev] rfl rfl ?c1 ?c2 ?c3 ?c4 ?c5 ?_))
    case c1 => exact cell_list_at (by simp) _ _
    case c2 => exact encI_one x.rev
    case c3 => unfold maxLen; omega
    case c4 => omega
    case c5 => simp; omega
    intro v6 w6 hn6 hg6 _ ha6
    replace hC := below_row (hC.alloc hC.size _) (hT.o2.alloc _) hg6 (by omega) (Nat.le_refl _)
    replace D2 := (D2.alloc _).grown hg6 (rowNe hT.o2 (.inl (by omega)))
    replace X := (X.alloc _).grown hg6 hx2
    replace hT := hT.app2 hn6 hg6 ha6
    replace hBz2 := Nat.le_trans hBz2 (Nat.le_trans (by simp) hg6.size)
    go_wp2_with fail
    go_roundw
    case rel => exact ⟨(jp + 1) + 1, by omega, by go_num, by rw [HTK.out.1, HTK.out.2]; exact hT, hC, D2, hBz2⟩
    case measure => simp [intOf]; omega
  ·obtain rfl : j = k := by omega
   rename World => w3
   rw [take_all HLL.out] at hT
   have HS3 : Hid (∀ W, Below w3.heap.size w3 W → Sl W 0 W.heap.size 1 encI A3 j (g.links.map Lnk.obv)) := fun W hW => (Sl.of_own (k := 1) (enc := encI) (fun _ => rfl) hT.o1 (by rw [List.length_map]; exact HLL.out)).any.up hW (Nat.le_refl _) (Nat.le_refl _)
   have HS4 : Hid (∀ W, Below w3.heap.size w3 W → Sl W 0 W.heap.size 1 encI A4 j (g.links.map Lnk.rev)) := fun W hW => (Sl.of_own (k := 1) (enc := encI) (fun _ => rfl) hT.o2 (by rw [List.length_map]; exact HLL.out)).any.up hW (Nat.le_refl _) (Nat.le_refl _)
   clear hT
   go_wp2_with fail
   go_loopw [7] (fun i wq => ∃ q : Nat, q ≤ n ∧ i = .int .i64 (q : Int) ∧ Below w3.heap.size w3 wq) (fun i _ => n - (intOf i).toNat)
   case atStart => exact ⟨0, by omega, rfl, Below.refl _ _⟩
   case round =>
    clear d0 d1 d2 dl
    obtain ⟨q, hq, rfl, hbq⟩ := hrel
    have DQ := D.up hbq
    have d0 := DQ.cell 0 _ rfl
    have d1 := DQ.cell 1 _ rfl
    have d2 := DQ.cell 2 _ rfl
    by_cases hlq : q < n
    ·obtain ⟨b, off, y, rfl, hbb, hy, y0⟩ := (HUO.out _ (below_keep' hbr hbq)).in_ hlq
     have hmem := HE1.out y (List.mem_of_getElem? hy)
     have HHA : Hid (∀ W, Below w3.heap.size w3 W → Calls Tryz.prog 25 #[.slice A3 j c3, .int .i64 y] W fun e w' => e = .returned (.bool true) ∧ W = w') := fun W hW => by
      have h9 := has_any A3 j c3 _ y W (by omega) (HS3.out W hW)
      rwa [decide_eq_true hmem] at h9
     clear hy hmem
     go_wp2_with fail
     refine (HHA.out _ hbq).mono ?_; rintro e wz ⟨rfl, rfl⟩
     go_wp2_with fail
     exact ⟨⟨q + 1, by omega, by go_num, hbq⟩, by simp [intOf]; omega⟩
    ·obtain rfl : q = n := by omega
     go_wp2_with fail
     go_loopw [8] (fun i wp => ∃ p : Nat, p ≤ m ∧ i = .int .i64 (p : Int) ∧ Below w3.heap.size w3 wp) (fun i _ => m - (intOf i).toNat)
     case atStart => exact ⟨0, by omega, rfl, hbq⟩
     case round =>
      clear hbq DQ d0 d1 d2
      obtain ⟨p, hp, rfl, hbq⟩ := hrel
      have DQ := D.up hbq
      have d0 := DQ.cell 0 _ rfl
      have d1 := DQ.cell 1 _ rfl
      have d2 := DQ.cell 2 _ rfl
      by_cases hlp : p < m
      ·obtain ⟨b, off, y, rfl, hbb, hy, y0⟩ := (HUR.out _ (below_keep' hbr hbq)).in_ hlp
       have hmem := HE2.out y (List.mem_of_getElem? hy)
       have HHA : Hid (∀ W, Below w3.heap.size w3 W → Calls Tryz.prog 25 #[.slice A4 j c4, .int .i64 y] W fun e w' => e = .returned (.bool true) ∧ W = w') := fun W hW => by
        have h9 := has_any A4 j c4 _ y W (by omega) (HS4.out W hW)
        rwa [decide_eq_true hmem] at h9
       clear hy hmem
       go_wp2_with fail
       refine (HHA.out _ hbq).mono ?_; rintro e wz ⟨rfl, rfl⟩
       go_wp2_with fail
       exact ⟨⟨p + 1, by omega, by go_num, hbq⟩, by simp [intOf]; omega⟩
      ·obtain rfl : p = m := by omega
       go_wp2_with fail
       go_ret
       exact ⟨rfl, below_keep' hbr hbq⟩
end Go.Proofs.YtdokpmfejibdlaaGreatDoor
