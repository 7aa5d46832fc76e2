/- Chapter 46: words split and joined; the text of a listing, the program's. -/
import Derived.Test.YtccmchmemafjdaaGreatDoorOh
import Derived.Deep.AppendLies
import Derived.Test.YtccmchmemafjdaaGreatDoorAp
set_option linter.unusedSimpArgs false
set_option linter.unusedVariables false
namespace Go.Proofs.YtccmchmemafjdaaGreatDoor
open Go.RowKit

def encStr (x : List UInt8) : List Value := [.string ⟨x.toArray⟩]
theorem encStr_len (x : List UInt8) : (encStr x).length = 1 := rfl
theorem splitB_words (c : UInt8) (l : List UInt8) : (Lib.splitB ⟨#[c]⟩ 0 (Lib.countB ⟨l.toArray⟩ ⟨#[c]⟩) ⟨l.toArray⟩).map (fun b => b.data.toList) = wordsL c l := by
  rw [Lib.splitB_data]
  exact split_one c l
theorem split_map (c : UInt8) (l : List UInt8) : (Lib.splitB ⟨#[c]⟩ 0 (Lib.countB ⟨l.toArray⟩ ⟨#[c]⟩) ⟨l.toArray⟩).map Value.string = (wordsL c l).flatMap encStr := by
  rw [← splitB_words c l]
  generalize Lib.splitB ⟨#[c]⟩ 0 (Lib.countB ⟨l.toArray⟩ ⟨#[c]⟩) ⟨l.toArray⟩ = L
  induction L with
  | nil => rfl
  | cons b L ih => simp [encStr, ih]
theorem split_any (c : UInt8) (l : List UInt8) (w : World) (hs : l.length ≤ 1000000) (hE : Env w) :
    Calls Tryz.prog 40 #[.string ⟨l.toArray⟩, .string ⟨#[c]⟩] w fun e w' => ∃ A cap, e = .returned (.slice A (wordsL c l).length cap) ∧ Sl w' w.heap.size w'.heap.size 1 encStr A (wordsL c l).length (wordsL c l) ∧ Below w.heap.size w w' := by
  obtain ⟨m, hm⟩ := hE.maxlen
  have hlen : Lib.countB ⟨l.toArray⟩ ⟨#[c]⟩ + 1 = (wordsL c l).length := by
    rw [← splitB_words c l, List.length_map, Lib.splitB_all ⟨#[c]⟩ (Nat.le_refl 1) 0 _ _ rfl]
  refine (Tryz.strings_Split ⟨l.toArray⟩ ⟨#[c]⟩ m w (by rw [size_mk']; omega) hm (Nat.le_refl 1)).mono ?_
  rintro e w' ⟨rfl, rfl⟩
  rw [hlen, split_map c l]
  refine ⟨_, _, rfl, ?_, (Below.refl _ _).alloc (Nat.le_refl _) _⟩
  refine ⟨rfl, fun _ => ⟨w.heap.size, 0, rfl, Nat.le_refl _, by simp, fun i x hx j u hu => ?_⟩⟩
  rw [World.cell?_alloc_new, Nat.zero_add]
  have := flat_at encStr_len (wordsL c l) i x j u hx hu
  simpa using this
theorem wordsL_len (c : UInt8) : ∀ (l : List UInt8) (x : List UInt8), x ∈ wordsL c l → x.length ≤ l.length
  | [], x, h => by simp [wordsL] at h; subst h; simp
  | y :: l, x, h => by
    unfold wordsL at h
    have hn := wordsL_ne c l
    split at h
    · rcases List.mem_cons.1 h with rfl | h
      · simp
      · have := wordsL_len c l x h; simp; omega
    · split at h
      · rename_i he; exact absurd he hn
      · rename_i z zs he
        rcases List.mem_cons.1 h with rfl | h
        · have := wordsL_len c l z (by rw [he]; simp); simp; omega
        · have := wordsL_len c l x (by rw [he]; simp [h]); simp; omega
theorem cutPre_any (l p : List UInt8) (w : World) :
    Calls Tryz.prog 72 #[.string ⟨l.toArray⟩, .string ⟨p.toArray⟩] w fun e w' => e = .returned (.tuple #[.string ⟨(Lib.trimPrefix l p).toArray⟩, .bool (Lib.hasPrefix l p)]) ∧ w = w' :=
  (Tryz.strings_CutPrefix ⟨l.toArray⟩ ⟨p.toArray⟩ w).mono fun e w' ⟨h1, h2⟩ => ⟨h1, h2.symm⟩
theorem trimPre_any (l p : List UInt8) (w : World) :
    Calls Tryz.prog 42 #[.string ⟨l.toArray⟩, .string ⟨p.toArray⟩] w fun e w' => e = .returned (.string ⟨(Lib.trimPrefix l p).toArray⟩) ∧ w = w' :=
  (Tryz.strings_TrimPrefix ⟨l.toArray⟩ ⟨p.toArray⟩ w).mono fun e w' ⟨h1, h2⟩ => ⟨h1, h2.symm⟩
theorem trimPre_len (l p : List UInt8) : (Lib.trimPrefix l p).length ≤ l.length := by
  unfold Lib.trimPrefix
  split
  · rw [List.length_drop]; omega
  · exact Nat.le_refl _
theorem join_any (A : Option Addr) (n c : Nat) (ls : List (List UInt8)) (sep : List UInt8) (w : World) (hn : n ≤ 100000) (hc : n ≤ c) (hlen : (Lib.join ls sep).length ≤ 1000000) (hS : Sl w 0 w.heap.size 1 encStr A n ls) :
    Calls Tryz.prog 37 #[.slice A n c, .string ⟨sep.toArray⟩] w fun e w' => e = .returned (.string ⟨(Lib.join ls sep).toArray⟩) ∧ Below w.heap.size w w' := by
  have hl := hS.len
  rcases Nat.eq_zero_or_pos n with h0 | h0
  · subst h0
    have hne : ls = [] := List.eq_nil_of_length_eq_zero hl
    subst hne
    exact (Tryz.strings_Join_none A c ⟨sep.toArray⟩ w).mono fun e w' ⟨h1, h2⟩ => ⟨h1, by rw [h2]; exact Below.refl _ _⟩
  · obtain ⟨b, off, hA, _, hb, hcell⟩ := hS.2 h0
    subst hA
    have hm : (ls.map (fun l => (⟨l.toArray⟩ : ByteArray))).map (·.data.toList) = ls := by
      rw [List.map_map]
      conv => rhs; rw [← List.map_id ls]
      exact List.map_congr_left fun x _ => rfl
    have hq := Tryz.strings_Join b off c (ls.map (fun l => (⟨l.toArray⟩ : ByteArray))) ⟨sep.toArray⟩ w (fun j x hx => by
      rw [List.getElem?_map] at hx
      cases hj : ls[j]? with
      | none => rw [hj] at hx; cases hx
      | some z =>
        rw [hj] at hx
        have : (⟨z.toArray⟩ : ByteArray) = x := by simpa using hx
        rw [← this]
        have := hcell j z hj 0 _ rfl
        rwa [Nat.mul_one, Nat.add_zero] at this) hb (by rw [List.length_map]; omega) (by rw [List.length_map]; omega) (by rw [hm]; show (Lib.join ls sep).length ≤ _; omega)
    rw [List.length_map, hl, hm] at hq
    exact hq
theorem Tryz.infoStr : (Tryz.prog.info? 9).map (fun i => (i.zero, i.size, i.bytes)) = some (some (.string ⟨#[]⟩), 1, 16) := by kernel_rfl
theorem cell_list_at {W : World} {n : Nat} (hn : W.heap.size = n) (vs : List Value) (t : TypeId) : ∀ j u, vs[j]? = some u → (W.alloc (.cells vs.toArray t)).cell? ((⟨n, 0, none⟩ : Addr).add j) = some u := by
  subst hn
  intro j u h
  rw [Go.WideShapes.add_plain, World.cell?_alloc_new, Nat.zero_add]
  simpa using h
section
variable {w w' : World} {b : Nat} {vs : List Value}
theorem Bx.grown {row : Option Nat} (h : Bx w b vs) (hg : w.grownBy w' row) (hr : row ≠ some b) : Bx w' b vs :=
  have hbk := hg.block b h.lt (fun e => hr e.symm)
  ⟨Nat.lt_of_lt_of_le h.lt hg.size, fun j u hu => (World.cell?_of_block (w := w) (a := ⟨b, j, none⟩) hbk).trans (h.cell j u hu), fun j => (World.frozen?_of_block (w := w) (a := ⟨b, j, none⟩) hbk).trans (h.frz j)⟩
theorem Bx.keepD {D : Nat} (h : Bx w b vs) (hb : Below D w w') (hD : b < D) : Bx w' b vs :=
  ⟨Nat.lt_of_lt_of_le h.lt hb.size, fun j u hu => (hb.cell (p := ⟨b, j, none⟩) hD).trans (h.cell j u hu), fun j => (hb.frozen (p := ⟨b, j, none⟩) hD).trans (h.frz j)⟩
end
/-- A sale by itself, sum by sum. -/
theorem sale_lists0 {P : Program} (y h l : List UInt8) (hl : y.length + h.length + l.length ≤ 100000) :
    (∀ W, (Op.stringOp .add ⟨#[32]⟩ ⟨y.toArray⟩).run P W = .ok (.string ⟨(32 :: y).toArray⟩) W) ∧
    (∀ W, (Op.stringOp .add ⟨(32 :: y).toArray⟩ ⟨#[32, 72]⟩).run P W = .ok (.string ⟨(32 :: (y ++ [32, 72])).toArray⟩) W) ∧
    (∀ W, (Op.stringOp .add ⟨(32 :: (y ++ [32, 72])).toArray⟩ ⟨h.toArray⟩).run P W = .ok (.string ⟨(32 :: (y ++ 32 :: 72 :: h)).toArray⟩) W) ∧
    (∀ W, (Op.stringOp .add ⟨(32 :: (y ++ 32 :: 72 :: h)).toArray⟩ ⟨#[32, 76]⟩).run P W = .ok (.string ⟨(32 :: (y ++ 32 :: 72 :: (h ++ [32, 76]))).toArray⟩) W) ∧
    (∀ W, (Op.stringOp .add ⟨(32 :: (y ++ 32 :: 72 :: (h ++ [32, 76]))).toArray⟩ ⟨l.toArray⟩).run P W = .ok (.string ⟨(32 :: (y ++ 32 :: 72 :: (h ++ 32 :: 76 :: l))).toArray⟩) W) := by
  have h1 := add_lists (P := P) [32] y (by simp; omega)
  have h2 := add_lists (P := P) (32 :: y) [32, 72] (by simp; omega)
  have h3 := add_lists (P := P) (32 :: (y ++ [32, 72])) h (by simp; omega)
  have h4 := add_lists (P := P) (32 :: (y ++ 32 :: 72 :: h)) [32, 76] (by simp; omega)
  have h5 := add_lists (P := P) (32 :: (y ++ 32 :: 72 :: (h ++ [32, 76]))) l (by simp; omega)
  exact ⟨fun W => by rw [h1 W]; simp, fun W => by rw [h2 W]; simp, fun W => by rw [h3 W]; simp, fun W => by rw [h4 W]; simp, fun W => by rw [h5 W]; simp⟩

set_option maxRecDepth 100000 in
set_option maxHeartbeats 4000000 in
theorem ptext_any (id : Int) (A : Option Addr) (n c : Nat) (xs : List Sal) (w : World) (hE : Env w) (hn : n ≤ maxLen) (hS : SaS w A n xs) :
    Calls Tryz.prog 11 #[.agg #[.int .i64 id, .slice A n c]] w fun e w' => e = .returned (.string ⟨(textL ⟨id, xs⟩).toArray⟩) ∧ Below w.heap.size w w' := by
  have HL := Lib.hid (Sl.len hS)
  have HU : Hid (∀ W, Below w.heap.size w W → SaS W A n xs) := fun W hW => hS.up hW
  have HEN : Hid (∀ W, Below w.heap.size w W → Env W) := fun W hW => hE.step hW
  have HVA := Lib.hid (pvalid_any id A n c xs (w.alloc (.cells #[.int .i64 id, .slice A n c] 24)) hn (HU.out _ (one_alloc _ _)))
  clear hS hn hE
  obtain ⟨i0, hi, hz0, hz1, hz2⟩ := info_parts Tryz.infoStr
  go_enter Tryz.func11, Tryz.ntmps11
  go_wp2_with fail
  refine HVA.out.mono ?_; rintro r w1 ⟨rfl, hb1⟩
  obtain ⟨_, hb, Z⟩ := step1 (Below.refl _ w) hb1
  clear hb1 HVA
  cases hv : validB id xs
  · have HV := Lib.hid (textB_no hv)
    clear hv
    go_wp2_with fail
    go_ret
    exact ⟨by rw [HV.out]; rfl, hb⟩
  have HVL := Lib.hid (validB_of hv)
  have HV : Hid (textL ⟨id, xs⟩ = Lib.itoa id ++ 58 :: Lib.join (xs.map saleT) [59]) := textL_ok (validB_of hv)
  clear hv
  have hid1 := HVL.out.1
  have hn8 : n ≤ 8 := by have := HVL.out.2.1; have := HL.out; simp only at *; omega
  simp only at hid1
  obtain ⟨hid1, hid2⟩ := hid1
  have HOK : Hid (∀ x ∈ xs, okSal x) := HVL.out.2.2.1
  have hil := itoa_len (n := id) (by omega) (by omega)
  obtain ⟨B0, hB0⟩ : ∃ B0, B0 = w1.heap.size := ⟨_, rfl⟩
  have hzB : B0 ≤ w1.heap.size := by omega
  have hZB : w.heap.size < B0 := by have := Z.lt; omega
  clear hB0
  have Z0 := Z.cell 0 _ rfl; have Z1 := Z.cell 1 _ rfl; have Zlt := Z.lt
  go_wp2_with fail
  go_loopw [12, 3] (fun s t wr => ∃ (k : Nat) (v : Value), k ≤ n ∧ s = .int .i64 (k : Int) ∧ t = v ∧ wr.ownsRow B0 9 1 v k (((xs.take k).map saleT).flatMap encStr) ∧ Bx wr w.heap.size [.int .i64 id, .slice A n c] ∧ Below w.heap.size w wr ∧ B0 ≤ wr.heap.size) (fun s _ _ => n - (intOf s).toNat)
  case atStart => exact ⟨0, .slice none 0 0, by omega, rfl, rfl, World.ownsRow_nil _ _ _ _, Z, hb, hzB⟩
  case round =>
    clear hb Z Z0 Z1 Zlt hzB
    obtain ⟨k, v, hk, rfl, rfl, hown, Z, hb, hzB⟩ := hrel
    by_cases hlt : k < n
    · obtain ⟨b, off, x, rfl, hbb, hx, c0, c1, c2⟩ := Sl.sa (HU.out _ hb) hlt
      obtain ⟨o1, o2, o3⟩ := HOK.out x (List.mem_of_getElem? hx)
      have HX := Lib.hid hx; clear hx
      have l1 := itoa_len (n := x.y) (by omega) (by omega)
      have l2 := itoa_len (n := x.h) (by omega) (by omega)
      have l3 := itoa_len (n := x.l) (by omega) (by omega)
      obtain ⟨q1, q2, q3, q4, q5⟩ := sale_lists0 (P := Tryz.prog) (Lib.itoa x.y) (Lib.itoa x.h) (Lib.itoa x.l) (by omega)
      obtain ⟨y1, y2⟩ := o1
      obtain ⟨y3, y4⟩ := o2
      obtain ⟨y5, y6⟩ := o3
      obtain ⟨Av, cv, rfl, _⟩ := own_form hown
      go_wp2_with fail
      have VB := Bx.new wr [.int .i64 x.y, .int .i64 x.h, .int .i64 x.l] 57
      replace VB := VB.up (Below.drew (Below.refl _ _))
      have hne : (Value.slice Av k cv).ownBlock ≠ some wr.heap.size := fun h => by have := (hown.lt _ h).2; omega
      replace hown := hown.alloc (.cells #[.int .i64 x.y, .int .i64 x.h, .int .i64 x.l] 57)
      replace hown := own_below' hown (Below.drew (Below.refl _ _))
      have hbU : Below w.heap.size w (wr.alloc (.cells #[.int .i64 x.y, .int .i64 x.h, .int .i64 x.l] 57)).drew := Below.drew (hb.alloc hb.size _)
      have hzU : B0 ≤ (wr.alloc (.cells #[.int .i64 x.y, .int .i64 x.h, .int .i64 x.l] 57)).drew.heap.size := by simp; omega
      have hbZ : Below B0 wr (wr.alloc (.cells #[.int .i64 x.y, .int .i64 x.h, .int .i64 x.l] 57)).drew := Below.drew ((Below.refl _ _).alloc hzB _)
      clear c0 c1 c2 hbb
      have hcs : (wr.alloc (.cells #[.int .i64 x.y, .int .i64 x.h, .int .i64 x.l] 57)).drew.heap.size = wr.heap.size + 1 := by simp
      generalize wr.alloc (.cells #[.int .i64 x.y, .int .i64 x.h, .int .i64 x.l] 57) = W0 at *
      generalize hbs : wr.heap.size = bs at *
      refine wp_region_noPanic ?_
      refine wp_region_held_drew (S := fun U => U.cell? ⟨bs, 0, none⟩ = some (.int .i64 x.y) ∧ U.cell? ⟨bs, 1, none⟩ = some (.int .i64 x.h) ∧ U.cell? ⟨bs, 2, none⟩ = some (.int .i64 x.l)) (by kernel_rfl) ⟨VB.cell 0 _ rfl, VB.cell 1 _ rfl, VB.cell 2 _ rfl⟩ (fun hHeld => ?_)
      refine' takeW 0 ?_ ?_ ?_ (by kernel_rfl) (by kernel_rfl) (by kernel_rfl) (fun _ _ _ h => h) hHeld ?_
      rotate_left 2
      · (simp only [List.getElem?_toArray, List.getElem?_cons_succ, List.getElem?_cons_zero]; rfl)
      · rfl
      · (intro w hSw; (try dsimp only at hSw); go_simp; first | done | with_reducible rfl)
      (try simp only [Act.put, List.setIfInBounds_toArray, List.set_cons_zero, List.set_cons_succ])
      refine' takeW 1 ?_ ?_ ?_ (by kernel_rfl) (by kernel_rfl) (by kernel_rfl) (fun _ _ _ h => h) hHeld ?_
      rotate_left 2
      · (simp only [List.getElem?_toArray, List.getElem?_cons_succ, List.getElem?_cons_zero]; rfl)
      · rfl
      · (intro w hSw; (try dsimp only at hSw); go_simp; first | done | with_reducible rfl)
      (try simp only [Act.put, List.setIfInBounds_toArray, List.set_cons_zero, List.set_cons_succ])
      refine' takeW 2 ?_ ?_ ?_ (by kernel_rfl) (by kernel_rfl) (by kernel_rfl) (fun _ _ _ h => h) hHeld ?_
      rotate_left 2
      · (simp only [List.getElem?_toArray, List.getElem?_cons_succ, List.getElem?_cons_zero]; rfl)
      · rfl
      · (intro w hSw; (try dsimp only at hSw); go_simp; first | done | with_reducible rfl)
      (try simp only [Act.put, List.setIfInBounds_toArray, List.set_cons_zero, List.set_cons_succ])
      refine' takeW 6 ?_ ?_ ?_ (by kernel_rfl) (by kernel_rfl) (by kernel_rfl) (fun _ _ _ h => h) hHeld ?_
      rotate_left 2
      · (simp only [List.getElem?_toArray, List.getElem?_cons_succ, List.getElem?_cons_zero]; rfl)
      · rfl
      · (intro w hSw; (try dsimp only at hSw); go_simp; first | done | with_reducible rfl)
      (try simp only [Act.put, List.setIfInBounds_toArray, List.set_cons_zero, List.set_cons_succ])
      refine' takeW 7 ?_ ?_ ?_ (by kernel_rfl) (by kernel_rfl) (by kernel_rfl) (fun _ _ _ h => h) hHeld ?_
      rotate_left 2
      · (simp only [List.getElem?_toArray, List.getElem?_cons_succ, List.getElem?_cons_zero]; rfl)
      · rfl
      · (intro w hSw; (try dsimp only at hSw); go_simp; first | done | with_reducible rfl)
      (try simp only [Act.put, List.setIfInBounds_toArray, List.set_cons_zero, List.set_cons_succ])
      refine' takeW 11 ?_ ?_ ?_ (by kernel_rfl) (by kernel_rfl) (by kernel_rfl) (fun _ _ _ h => h) hHeld ?_
      rotate_left 2
      · (simp only [List.getElem?_toArray, List.getElem?_cons_succ, List.getElem?_cons_zero]; rfl)
      · rfl
      · (intro w hSw; (try dsimp only at hSw); go_simp; first | done | with_reducible rfl)
      (try simp only [Act.put, List.setIfInBounds_toArray, List.set_cons_zero, List.set_cons_succ])
      refine' takeW 12 ?_ ?_ ?_ (by kernel_rfl) (by kernel_rfl) (by kernel_rfl) (fun _ _ _ h => h) hHeld ?_
      rotate_left 2
      · (simp only [List.getElem?_toArray, List.getElem?_cons_succ, List.getElem?_cons_zero]; rfl)
      · rfl
      · (intro w hSw; (try dsimp only at hSw); go_simp; first | done | with_reducible rfl)
      (try simp only [Act.put, List.setIfInBounds_toArray, List.set_cons_zero, List.set_cons_succ])
      refine wpAnyH_ready (rs := [3]) (by kernel_rfl) (by simp) ?_
      refine' AllReadyH.cons ?_ (fun K hK => ?_) AllReadyH.nil
      rotate_left 1
      · (simp only [List.getElem?_toArray, List.getElem?_cons_succ, List.getElem?_cons_zero]; rfl)
      (try go_simp)
      go_fit (itoa_any x.y _ (by omega) (by omega) (HEN.out _ hbU))
      rintro e w2 ⟨rfl, hb2⟩
      replace VB := VB.up hb2
      replace hown := own_below' hown hb2
      replace hbZ := hbZ.trans (hb2.mono hzU)
      replace hzU := Nat.le_trans hzU hb2.size
      replace hbU := below_keep' hbU hb2
      clear hb2
      (try go_simp)
      refine hK.out _ _ ?_ (fun hHeld => ?_)
      · exact ⟨VB.cell 0 _ rfl, VB.cell 1 _ rfl, VB.cell 2 _ rfl⟩
      clear hK K
      (try simp only [Act.put, List.setIfInBounds_toArray, List.set_cons_zero, List.set_cons_succ])
      refine' takeW 4 ?_ ?_ ?_ (by kernel_rfl) (by kernel_rfl) (by kernel_rfl) (fun _ _ _ h => h) hHeld ?_
      rotate_left 2
      · (simp only [List.getElem?_toArray, List.getElem?_cons_succ, List.getElem?_cons_zero]; rfl)
      · rfl
      · (intro w hSw; (try dsimp only at hSw); go_simp; first | done | with_reducible rfl)
      (try simp only [Act.put, List.setIfInBounds_toArray, List.set_cons_zero, List.set_cons_succ])
      refine' takeW 5 ?_ ?_ ?_ (by kernel_rfl) (by kernel_rfl) (by kernel_rfl) (fun _ _ _ h => h) hHeld ?_
      rotate_left 2
      · (simp only [List.getElem?_toArray, List.getElem?_cons_succ, List.getElem?_cons_zero]; rfl)
      · rfl
      · (intro w hSw; (try dsimp only at hSw); go_simp; first | done | with_reducible rfl)
      (try simp only [Act.put, List.setIfInBounds_toArray, List.set_cons_zero, List.set_cons_succ])
      refine wpAnyH_ready (rs := [8]) (by kernel_rfl) (by simp) ?_
      refine' AllReadyH.cons ?_ (fun K hK => ?_) AllReadyH.nil
      rotate_left 1
      · (simp only [List.getElem?_toArray, List.getElem?_cons_succ, List.getElem?_cons_zero]; rfl)
      (try go_simp)
      go_fit (itoa_any x.h _ (by omega) (by omega) (HEN.out _ hbU))
      rintro e w2 ⟨rfl, hb2⟩
      replace VB := VB.up hb2
      replace hown := own_below' hown hb2
      replace hbZ := hbZ.trans (hb2.mono hzU)
      replace hzU := Nat.le_trans hzU hb2.size
      replace hbU := below_keep' hbU hb2
      clear hb2
      (try go_simp)
      refine hK.out _ _ ?_ (fun hHeld => ?_)
      · exact ⟨VB.cell 0 _ rfl, VB.cell 1 _ rfl, VB.cell 2 _ rfl⟩
      clear hK K
      (try simp only [Act.put, List.setIfInBounds_toArray, List.set_cons_zero, List.set_cons_succ])
      refine' takeW 9 ?_ ?_ ?_ (by kernel_rfl) (by kernel_rfl) (by kernel_rfl) (fun _ _ _ h => h) hHeld ?_
      rotate_left 2
      · (simp only [List.getElem?_toArray, List.getElem?_cons_succ, List.getElem?_cons_zero]; rfl)
      · rfl
      · (intro w hSw; (try dsimp only at hSw); go_simp; first | done | with_reducible rfl)
      (try simp only [Act.put, List.setIfInBounds_toArray, List.set_cons_zero, List.set_cons_succ])
      refine' takeW 10 ?_ ?_ ?_ (by kernel_rfl) (by kernel_rfl) (by kernel_rfl) (fun _ _ _ h => h) hHeld ?_
      rotate_left 2
      · (simp only [List.getElem?_toArray, List.getElem?_cons_succ, List.getElem?_cons_zero]; rfl)
      · rfl
      · (intro w hSw; (try dsimp only at hSw); go_simp; first | done | with_reducible rfl)
      (try simp only [Act.put, List.setIfInBounds_toArray, List.set_cons_zero, List.set_cons_succ])
      refine wpAnyH_ready (rs := [13]) (by kernel_rfl) (by simp) ?_
      refine' AllReadyH.cons ?_ (fun K hK => ?_) AllReadyH.nil
      rotate_left 1
      · (simp only [List.getElem?_toArray, List.getElem?_cons_succ, List.getElem?_cons_zero]; rfl)
      (try go_simp)
      go_fit (itoa_any x.l _ (by omega) (by omega) (HEN.out _ hbU))
      rintro e w2 ⟨rfl, hb2⟩
      replace VB := VB.up hb2
      replace hown := own_below' hown hb2
      replace hbZ := hbZ.trans (hb2.mono hzU)
      replace hzU := Nat.le_trans hzU hb2.size
      replace hbU := below_keep' hbU hb2
      clear hb2
      (try go_simp)
      refine hK.out _ _ ?_ (fun hHeld => ?_)
      · exact ⟨VB.cell 0 _ rfl, VB.cell 1 _ rfl, VB.cell 2 _ rfl⟩
      clear hK K
      (try simp only [Act.put, List.setIfInBounds_toArray, List.set_cons_zero, List.set_cons_succ])
      refine' takeW 14 ?_ ?_ ?_ (by kernel_rfl) (by kernel_rfl) (by kernel_rfl) (fun _ _ _ h => h) hHeld ?_
      rotate_left 2
      · (simp only [List.getElem?_toArray, List.getElem?_cons_succ, List.getElem?_cons_zero]; rfl)
      · rfl
      · (intro w hSw; (try dsimp only at hSw); go_simp; first | done | with_reducible rfl)
      (try simp only [Act.put, List.setIfInBounds_toArray, List.set_cons_zero, List.set_cons_succ])
      refine wpAnyH_ready (rs := [15]) (by kernel_rfl) (by simp) ?_
      refine' AllReadyH.cons ?_ (fun K hK => ?_) AllReadyH.nil
      rotate_left 1
      · (simp only [List.getElem?_toArray, List.getElem?_cons_succ, List.getElem?_cons_zero]; rfl)
      (try go_simp)
      replace VB := VB.alloc (.cells #[.string ⟨(32 :: (Lib.itoa x.y ++ 32 :: 72 :: (Lib.itoa x.h ++ 32 :: 76 :: Lib.itoa x.l))).toArray⟩] 9)
      replace hown := hown.alloc (.cells #[.string ⟨(32 :: (Lib.itoa x.y ++ 32 :: 72 :: (Lib.itoa x.h ++ 32 :: 76 :: Lib.itoa x.l))).toArray⟩] 9)
      replace hbZ := hbZ.alloc (by omega) (.cells #[.string ⟨(32 :: (Lib.itoa x.y ++ 32 :: 72 :: (Lib.itoa x.h ++ 32 :: 76 :: Lib.itoa x.l))).toArray⟩] 9)
      refine hK.out _ _ ?_ (fun hHeld => ?_)
      · exact ⟨VB.cell 0 _ rfl, VB.cell 1 _ rfl, VB.cell 2 _ rfl⟩
      clear hK K
      (try simp only [Act.put, List.setIfInBounds_toArray, List.set_cons_zero, List.set_cons_succ])
      refine wpAnyH_ready (rs := [16]) (by kernel_rfl) (by simp) ?_
      refine' AllReadyH.cons ?_ (fun K hK => ?_) AllReadyH.nil
      rotate_left 1
      · (simp only [List.getElem?_toArray, List.getElem?_cons_succ, List.getElem?_cons_zero]; rfl)
      refine step_append_lies _ rfl (.tmp 16) (.tmp 31) 60 rfl B0 9 i0 (.string ⟨#[]⟩) 1 16 Tryz.underlying60 hi hz0 hz1 hz2 rfl (by decide) _ _ _ rfl hown _ 1 1 [.string ⟨(32 :: (Lib.itoa x.y ++ 32 :: 72 :: (Lib.itoa x.h ++ 32 :: 76 :: Lib.itoa x.l))).toArray⟩] rfl rfl (cell_list_at rfl _ _) (by simp [Value.oneCell']) (by decide) (by unfold maxLen; omega) (by omega) (by simp; omega) _ rfl ?_
      intro g cap w6 hown' hgrow hat hlt6
      have VB6 := VB.grown hgrow hne
      have hb6 := Below.grown hbZ hgrow (by simp; omega) (fun g hg => (hown.lt g hg).1)
      refine hK.out _ _ ?_ (fun hHeld => ?_)
      · exact ⟨VB6.cell 0 _ rfl, VB6.cell 1 _ rfl, VB6.cell 2 _ rfl⟩
      clear hK K
      (try simp only [Act.put, List.setIfInBounds_toArray, List.set_cons_zero, List.set_cons_succ])
      refine' takeW 17 ?_ ?_ ?_ (by kernel_rfl) (by kernel_rfl) (by kernel_rfl) (fun _ _ _ h => h) hHeld ?_
      rotate_left 2
      · (simp only [List.getElem?_toArray, List.getElem?_cons_succ, List.getElem?_cons_zero]; rfl)
      · rfl
      · (intro w hSw; (try dsimp only at hSw); go_simp; first | done | with_reducible rfl)
      (try simp only [Act.put, List.setIfInBounds_toArray, List.set_cons_zero, List.set_cons_succ])
      refine wpAnyH_done (by kernel_rfl) ?_ _
      refine NoPanic.normal ?_
      have hz6 := hb6.size
      go_wp2_with fail
      go_roundw
      case rel => exact ⟨k + 1, _, by omega, by go_num, rfl, by rw [take_snocS HX.out, List.map_append, List.flatMap_append]; exact hown', Z.keepD hb6 hZB, hb.trans (hb6.mono (by omega)), by omega⟩
      case measure => simp [intOf]; omega
    · obtain rfl : k = n := by omega
      obtain ⟨Av, cv, rfl, hcv⟩ := own_form hown
      have hSw := Sl.of_own (enc := encStr) encStr_len hown (by rw [List.length_map, List.length_take]; have := HL.out; omega)
      rw [take_all HL.out] at hSw
      have hjl := join_len xs HOK.out
      have hln := HL.out
      have HJ := Lib.hid (fun (V : World) (hV : Below wr.heap.size wr V) => join_any Av k cv (xs.map saleT) [59] V (by omega) hcv (by omega) ((hSw.up hV (Nat.le_refl _) (Nat.le_refl _)).any))
      have q1 := add_lists (P := Tryz.prog) (Lib.itoa id) [58] (by simp; omega)
      have q2 := add_lists (P := Tryz.prog) (Lib.itoa id ++ [58]) (Lib.join (xs.map saleT) [59]) (by simp; omega)
      simp only [List.append_assoc, List.singleton_append] at q2
      clear hSw hjl hown
      have Z0 := Z.cell 0 _ rfl; have Z1 := Z.cell 1 _ rfl; have Zlt := Z.lt
      go_wp2_with fail
      refine (itoa_any id _ (by omega) (by omega) (HEN.out _ hb)).mono ?_; rintro r w2 ⟨rfl, hb2⟩
      go_wp2_with fail
      refine (HJ.out _ hb2).mono ?_; rintro r w3 ⟨rfl, hb3⟩
      go_wp2_with fail
      go_ret
      exact ⟨by rw [HV.out]; rfl, below_keep' (below_keep' hb hb2) hb3⟩
end Go.Proofs.YtccmchmemafjdaaGreatDoor
