/- Parse: the program's (chapter 47). -/
import Derived.Test.YtfanjghfilkhmaaGreatDoorHp
import Derived.Test.YtfanjghfilkhmaaGreatDoorGm
import Derived.Deep.RegionWith
import Derived.Deep.AppendLies
set_option linter.unusedSimpArgs false
set_option linter.unusedVariables false
namespace Go.Proofs.YtfanjghfilkhmaaGreatDoor
open Go.RowKit
attribute [local go_sem] Oper.semAt_some

theorem def_set2 {W : World} {D b : Nat} (h : W.heap[D]? = some (.deferred (some []))) (hne : D ≠ b) (u0 u1 : Value) : ((W.setCell ⟨b, 0, none⟩ u0).setCell ⟨b, 1, none⟩ u1).heap[D]? = some (.deferred (some [])) :=
  (Below.heap_setCell _ ⟨b, 1, none⟩ _ D hne).trans ((Below.heap_setCell _ ⟨b, 0, none⟩ _ D hne).trans h)
theorem below_put {w W : World} {B D : Nat} (h : Below B w W) (hB : B ≤ W.heap.size) (hD : B ≤ D) (o : Obj) : Below B w (W.putObj D o) :=
  h.grown (grownBy_putObj' W D o) hB (fun k e => by injection e with e; omega)
theorem putObj_cellj {W : World} {l b : Nat} (h : b ≠ l) (o : Obj) (j : Nat) : (W.putObj l o).cell? ⟨b, j, none⟩ = W.cell? ⟨b, j, none⟩ := World.cell?_of_block (World.putObj_heap_other h)
theorem splitBx (c : UInt8) (l : List UInt8) (w : World) (hs : l.length ≤ 1000000) (hE : Env w) :
    Calls Tryz.prog 60 #[.string ⟨l.toArray⟩, .string ⟨#[c]⟩] w fun e w' => ∃ cap, e = .returned (.slice (some ⟨w.heap.size, 0, none⟩) (wordsL c l).length cap) ∧ Bx w' w.heap.size ((wordsL c l).map (fun y => Value.string ⟨y.toArray⟩)) ∧ Below w.heap.size w w' := by
  obtain ⟨m, hm⟩ := hE.maxlen
  have hlen : Lib.countB ⟨l.toArray⟩ ⟨#[c]⟩ + 1 = (wordsL c l).length := by
    rw [← splitB_words c l, List.length_map, Lib.splitB_all ⟨#[c]⟩ (Nat.le_refl 1) 0 _ _ rfl]
  have hmap : (wordsL c l).flatMap encStr = (wordsL c l).map (fun y => Value.string ⟨y.toArray⟩) := by
    generalize wordsL c l = L
    induction L with
    | nil => rfl
    | cons y L ih => rw [List.flatMap_cons, ih]; rfl
  refine (Tryz.strings_Split ⟨l.toArray⟩ ⟨#[c]⟩ m w (by rw [size_mk']; omega) hm (Nat.le_refl 1)).mono ?_
  rintro e w' ⟨rfl, rfl⟩
  rw [hlen, split_map c l, hmap]
  exact ⟨_, rfl, Bx.new _ _ _, (Below.refl _ _).alloc (Nat.le_refl _) _⟩
theorem tsUp {w0 V V' W2 : World} {B0 B1 Bs : Nat} {e : Ed} {vE vR : Value} (h01 : B0 ≤ B1) (hBs : Bs < B1) (T : PSt w0 B0 B1 e vE vR V ∧ RoundKeeps B1 Bs W2 V) (hb : Below V.heap.size V V') : PSt w0 B0 B1 e vE vR V' ∧ RoundKeeps B1 Bs W2 V' :=
  ⟨T.1.up hb h01, T.2.trans (RoundKeeps.of_below hb (Nat.lt_of_lt_of_le hBs T.1.big))⟩
set_option maxRecDepth 100000 in
set_option maxHeartbeats 8000000 in
theorem pparse_any (s : List UInt8) (w : World) (hs : s.length ≤ 100000) (hE : Env w) :
    Calls Tryz.prog 27 #[.string ⟨s.toArray⟩] w (ParOut w s) := by
  refine (callsIn_wide (n := 9)).1 (callsIn_of_wp_marks Tryz.func27 rfl trivial ?_ rfl)
  simp only [Tryz.ntmps27, List.size_toArray, List.length_cons, List.length_nil, Nat.reduceAdd, Nat.reduceSub, Array.replicate_succ, Array.replicate_zero, List.push_toArray, List.append_toArray, List.nil_append, List.cons_append]
  refine wpIn_wide.2 ?_
  by_cases hlong : 4096 < s.length
  · have HO : Hid (∀ e, ¬ ParOk s e) := fun e he => by have := he.2; omega
    have HC : Hid (parCode s = 6) := by show _ = _; unfold parCode; rw [if_pos hlong]
    have R := Bx.new w [.slice none 0 0, .slice none 0 0] 25
    have hb := one_alloc w (.cells #[.slice none 0 0, .slice none 0 0] 25)
    go_wp2_with fail
    refine ⟨.tuple #[.agg #[.slice none 0 0, .slice none 0 0], .int .i64 6], by simp [results, Tryz.results27, go_sem, R.cell 0 _ rfl, R.cell 1 _ rfl], .inr ⟨HO.out, by rw [HC.out]⟩, hb⟩
  · obtain ⟨i0, hi, hz0, hz1, hz2⟩ := info_parts Tryz.infoI
    obtain ⟨i1, hi1, hy0, hy1, hy2⟩ := info_parts Tryz.infoE
    go_wp2_with fail
    refine (lines_any s _).mono ?_; rintro r w1 ⟨rfl, hw1⟩
    have hz : w1.heap.size = w.heap.size + 3 := by rw [hw1]; simp
    have hR : Bx w1 w.heap.size [.slice none 0 0, .slice none 0 0] := by
      rw [hw1]; exact ((Bx.new w [.slice none 0 0, .slice none 0 0] 25).alloc _).alloc _
    have hO : Bx w1 (w.heap.size + 1) [.slice none 0 0, .slice none 0 0] := by
      rw [hw1]
      have := (Bx.new (w.alloc (.cells #[.slice none 0 0, .slice none 0 0] 25)) [.slice none 0 0, .slice none 0 0] 25)
      rw [World.size_alloc] at this
      exact this.alloc _
    have hb1 : Below w.heap.size w w1 := by rw [hw1]; exact (((Below.refl _ w).alloc (Nat.le_refl _) _).alloc (by simp) _).alloc (by simp; omega) _
    have hS : Bx w1 (w.heap.size + 2) [.string ⟨s.toArray⟩] := by
      rw [hw1]
      have := Bx.new ((w.alloc (.cells #[.slice none 0 0, .slice none 0 0] 25)).alloc (.cells #[.slice none 0 0, .slice none 0 0] 25)) [.string ⟨s.toArray⟩] 9
      rw [World.size_alloc, World.size_alloc] at this
      exact this
    clear hw1
    have hP0 : PSt w w.heap.size w1.heap.size (colE []) (.slice none 0 0) (.slice none 0 0) w1 := ⟨hR, hO, World.ownsRow_nil _ _ _ _, World.ownsRow_nil _ _ _ _, hb1, Nat.le_refl _⟩
    have hbs : (w.alloc (.cells #[.slice none 0 0, .slice none 0 0] 25)).heap.size + 1 = w.heap.size + 2 := by simp
    go_wp2_with fail
    have hL : s.length ≤ 4096 := by omega
    have hzs : ((w.alloc (.cells #[.slice none 0 0, .slice none 0 0] 25)).alloc (.cells #[.slice none 0 0, .slice none 0 0] 25)).heap.size = w.heap.size + 2 := by simp
    refine range_lines (w.heap.size + 2) s hs (by first | rfl | (rw [← hzs]; rfl)) (hS.cell 0 _ rfl) (hS.frz 0) hS.lt (fun pre W => ∃ vE vR, PSt w w.heap.size w1.heap.size (colE pre) vE vR W) ?_ ?_ ?_ ?_ ⟨_, _, hP0⟩ ?_ ?_
    · rintro pre W v ⟨vE, vR, h⟩; exact ⟨vE, vR, h.set (by simp) (by show _ < _; simp only; omega) v⟩
    · rintro pre W ⟨vE, vR, h⟩; exact ⟨vE, vR, h.up (Below.drew (Below.refl _ _)) (by omega)⟩
    · rintro pre W o _ ⟨vE, vR, h⟩; exact ⟨vE, vR, h.up (one_alloc _ _) (by omega)⟩
    · rintro pre W l o o' hl ho hc ⟨vE, vR, h⟩; exact ⟨vE, vR, h.put o' hl (by omega) ho hc⟩
    · intro l pre x W K hx _ _ hK
      have hroom := colE_room hx
      have htl := trim10_le x
      have HEN : Hid (∀ V, Below w.heap.size w V → Env V) := fun V hV => hE.step hV
      have HSN : Hid (colE (pre ++ [x]) = stepP (colE pre) (Lib.trimSuffix x [10])) := colE_snoc pre x
      clear hx hP0 hS hR hO hb1 hE
      generalize colE pre = e at *
      have HK := Lib.hid hK; clear hK
      gi_wp2
      refine HK.out _ ?_
      clear HK K
      rintro W2 ⟨vE, vR, hP⟩ hW2
      gi_wp2
      refine ⟨trivial, CallsIn.mono (callsR (trims_any x [10] _ (by omega))) ?_⟩
      rintro r W3 ⟨rfl, rfl⟩
      generalize Lib.trimSuffix x [10] = t at *
      gi_wp2
      refine ⟨trivial, CallsIn.mono (callsR (cutPre_any t [114, 101, 116, 105, 114, 101, 100, 32] _)) ?_⟩
      rintro r W3 ⟨rfl, rfl⟩
      cases hp : Lib.hasPrefix t [114, 101, 116, 105, 114, 101, 100, 32]
      · have HV : Hid (colE (pre ++ [x]) = ⟨e.ents ++ [(numL (Lib.cut t [32, 61, 32]).2.1, numL (Lib.cut t [32, 61, 32]).1)], e.ret⟩) := by show _ = _; rw [HSN.out]; exact step_ent hp
        have hc1 := cut_len1 t
        have hc2 := cut_len2 t
        clear hp HSN
        have hkl : (Lib.cut t [32, 61, 32]).2.1.length ≤ 100000 := by omega
        have hnl : (Lib.cut t [32, 61, 32]).1.length ≤ 100000 := by omega
        gi_wp2
        refine ⟨trivial, CallsIn.mono (callsR (cutL t [32, 61, 32] _ (by omega) (HEN.out _ hP.low))) ?_⟩
        rintro r W3 ⟨rfl, hb3⟩
        have hP3 := hP.up hb3 (by omega)
        have hk3 : RoundKeeps w1.heap.size (w.heap.size + 2) W2 W3 := RoundKeeps.of_below hb3 (by omega)
        generalize (Lib.cut t [32, 61, 32]).2.1 = key at *
        generalize (Lib.cut t [32, 61, 32]).1 = num at *
        clear hb3 hP
        gi_wp2
        refine regionN (by kernel_rfl) (by kernel_rfl) ?_
        have T0 : PSt w w.heap.size w1.heap.size e vE vR W3.drew ∧ RoundKeeps w1.heap.size (w.heap.size + 2) W2 W3.drew := tsUp (by omega) (by omega) ⟨hP3, hk3⟩ (Below.drew (Below.refl _ _))
        have T00 := T0.1.O.cell 0 _ rfl
        have T01 := T0.1.O.cell 1 _ rfl
        have T0lt := T0.1.O.lt
        generalize W3.drew = V0 at *
        have hne : e.ents.length ≤ 5000 := by omega
        clear hP3 hk3 hc1 hc2 htl hL hzs hbs hW2
        refine wpAny_take (i := 0) (v := ?_) rfl (by kernel_rfl) (by kernel_rfl) (by kernel_rfl) (fun _ _ _ h => absurd h.1 (by simp)) (Or.inl ⟨by rfl, ?_⟩) ?_
        rotate_left 1
        · intro w; go_simp; first | done | with_reducible rfl
        refine wpAny_take (i := 2) (v := ?_) rfl (by kernel_rfl) (by kernel_rfl) (by kernel_rfl) (fun _ _ _ h => absurd h.1 (by simp)) (Or.inl ⟨by rfl, ?_⟩) ?_
        rotate_left 1
        · intro w; go_simp; first | done | with_reducible rfl
        refine wpAny_take (i := 4) (v := ?_) rfl (by kernel_rfl) (by kernel_rfl) (by kernel_rfl) (fun _ _ _ h => absurd h.1 (by simp)) (Or.inl ⟨by rfl, ?_⟩) ?_
        rotate_left 1
        · intro w; go_simp; first | done | with_reducible rfl
        refine wpAny_ready (rs := [1, 3]) (by kernel_rfl) (by simp) ?_
        refine (AllReady.cons rfl (fun K hK => ?_) (AllReady.cons rfl (fun K hK => ?_) AllReady.nil))
        · go_simp
          refine hK _ _ ?_
          clear hK K
          refine wpAny_ready (rs := [3]) (by kernel_rfl) (by simp) ?_
          refine (AllReady.cons rfl (fun K hK => ?_) AllReady.nil)
          go_simp
          refine (pnum_any key _ hkl ?_).mono ?_
          · exact HEN.out _ (PSt.low (And.left (show PSt w w.heap.size w1.heap.size e vE vR _ ∧ RoundKeeps w1.heap.size (w.heap.size + 2) W2 _ from by assumption)))
          rintro r V4 ⟨rfl, hb4⟩
          have T4 : PSt w w.heap.size w1.heap.size e vE vR V4 ∧ RoundKeeps w1.heap.size (w.heap.size + 2) W2 V4 := tsUp (by omega) (by omega) (by assumption) hb4
          clear hb4
          have T40 := T4.1.O.cell 0 _ rfl
          have T41 := T4.1.O.cell 1 _ rfl
          have T4lt := T4.1.O.lt
          (try go_simp)
          refine hK _ _ ?_
          clear hK K
          refine wpAny_ready (rs := [5]) (by kernel_rfl) (by simp) ?_
          refine (AllReady.cons rfl (fun K hK => ?_) AllReady.nil)
          go_simp
          refine (pnum_any num _ hnl ?_).mono ?_
          · exact HEN.out _ (PSt.low (And.left (show PSt w w.heap.size w1.heap.size e vE vR _ ∧ RoundKeeps w1.heap.size (w.heap.size + 2) W2 _ from by assumption)))
          rintro r V4 ⟨rfl, hb4⟩
          have T4 : PSt w w.heap.size w1.heap.size e vE vR V4 ∧ RoundKeeps w1.heap.size (w.heap.size + 2) W2 V4 := tsUp (by omega) (by omega) (by assumption) hb4
          clear hb4
          have T40 := T4.1.O.cell 0 _ rfl
          have T41 := T4.1.O.cell 1 _ rfl
          have T4lt := T4.1.O.lt
          (try go_simp)
          refine hK _ _ ?_
          clear hK K
          refine wpAny_take (i := 6) (v := ?_) rfl (by kernel_rfl) (by kernel_rfl) (by kernel_rfl) (fun _ _ _ h => absurd h.1 (by simp)) (Or.inl ⟨by rfl, ?_⟩) ?_
          rotate_left 1
          · intro w; go_simp; first | done | with_reducible rfl
          refine wpAny_ready (rs := [7]) (by kernel_rfl) (by simp) ?_
          refine (AllReady.cons rfl (fun K hK => ?_) AllReady.nil)
          go_simp
          refine hK _ _ ?_
          clear hK K
          refine wpAny_ready (rs := [8]) (by kernel_rfl) (by simp) ?_
          refine (AllReady.cons rfl (fun K hK => ?_) AllReady.nil)
          obtain ⟨T4, T4r⟩ := T4
          refine step_append_lies _ rfl (.tmp 50) (.tmp 56) 22 rfl w1.heap.size 36 i1 (.agg #[.int .i64 0, .int .i64 0]) 2 16 Tryz.underlying22 hi1 hy0 hy1 hy2 rfl (by decide) _ _ _ rfl (T4.E.alloc _) ⟨V4.heap.size, 0, none⟩ 1 1 [.int .i64 (numL key), .int .i64 (numL num)] rfl rfl (cell_list_at rfl _ _) (by simp [Value.oneCell']) (by decide) (by unfold maxLen; omega) (by omega) (by have := T4.big; simp; omega) _ rfl ?_
          intro g cap w6 hown' hgrow hat hlt6
          obtain ⟨O6, hP6, hk6⟩ := T4.appE (by omega) (Bs := w.heap.size + 2) (by omega) (by omega) (x := (numL key, numL num)) hgrow hown'
          have O60 := O6.cell 0 _ rfl
          have O61 := O6.cell 1 _ rfl
          have O6f0 := O6.frz 0
          have O6lt := O6.lt
          refine hK _ _ ?_
          clear hK K hgrow hown' hat
          refine wpAny_take (i := 9) (v := ?_) rfl (by kernel_rfl) (by kernel_rfl) (by kernel_rfl) (fun _ _ _ h => absurd h.1 (by simp)) (Or.inl ⟨by rfl, ?_⟩) ?_
          rotate_left 1
          · intro w; go_simp; first | done | with_reducible rfl
          refine wpAny_ready (rs := [10]) (by kernel_rfl) (by simp) ?_
          refine (AllReady.cons rfl (fun K hK => ?_) AllReady.nil)
          go_simp
          refine hK _ _ ?_
          clear hK K
          refine wpAny_done (by kernel_rfl) ?_ _
          refine ⟨rfl, ?_⟩
          gi_wp2
          refine ⟨⟨_, _, by rw [HV.out]; first | exact hP6 | (rw [← hz]; exact hP6)⟩, by first | exact T4r.trans hk6 | (rw [← hz]; exact T4r.trans hk6)⟩
        · go_simp
          refine (pnum_any key _ hkl ?_).mono ?_
          · exact HEN.out _ (PSt.low (And.left (show PSt w w.heap.size w1.heap.size e vE vR _ ∧ RoundKeeps w1.heap.size (w.heap.size + 2) W2 _ from by assumption)))
          rintro r V4 ⟨rfl, hb4⟩
          have T4 : PSt w w.heap.size w1.heap.size e vE vR V4 ∧ RoundKeeps w1.heap.size (w.heap.size + 2) W2 V4 := tsUp (by omega) (by omega) (by assumption) hb4
          clear hb4
          have T40 := T4.1.O.cell 0 _ rfl
          have T41 := T4.1.O.cell 1 _ rfl
          have T4lt := T4.1.O.lt
          (try go_simp)
          refine hK _ _ ?_
          clear hK K
          refine wpAny_ready (rs := [1, 5]) (by kernel_rfl) (by simp) ?_
          refine (AllReady.cons rfl (fun K hK => ?_) (AllReady.cons rfl (fun K hK => ?_) AllReady.nil))
          · go_simp
            refine hK _ _ ?_
            clear hK K
            refine wpAny_ready (rs := [5]) (by kernel_rfl) (by simp) ?_
            refine (AllReady.cons rfl (fun K hK => ?_) AllReady.nil)
            go_simp
            refine (pnum_any num _ hnl ?_).mono ?_
            · exact HEN.out _ (PSt.low (And.left (show PSt w w.heap.size w1.heap.size e vE vR _ ∧ RoundKeeps w1.heap.size (w.heap.size + 2) W2 _ from by assumption)))
            rintro r V4 ⟨rfl, hb4⟩
            have T4 : PSt w w.heap.size w1.heap.size e vE vR V4 ∧ RoundKeeps w1.heap.size (w.heap.size + 2) W2 V4 := tsUp (by omega) (by omega) (by assumption) hb4
            clear hb4
            have T40 := T4.1.O.cell 0 _ rfl
            have T41 := T4.1.O.cell 1 _ rfl
            have T4lt := T4.1.O.lt
            (try go_simp)
            refine hK _ _ ?_
            clear hK K
            refine wpAny_take (i := 6) (v := ?_) rfl (by kernel_rfl) (by kernel_rfl) (by kernel_rfl) (fun _ _ _ h => absurd h.1 (by simp)) (Or.inl ⟨by rfl, ?_⟩) ?_
            rotate_left 1
            · intro w; go_simp; first | done | with_reducible rfl
            refine wpAny_ready (rs := [7]) (by kernel_rfl) (by simp) ?_
            refine (AllReady.cons rfl (fun K hK => ?_) AllReady.nil)
            go_simp
            refine hK _ _ ?_
            clear hK K
            refine wpAny_ready (rs := [8]) (by kernel_rfl) (by simp) ?_
            refine (AllReady.cons rfl (fun K hK => ?_) AllReady.nil)
            obtain ⟨T4, T4r⟩ := T4
            refine step_append_lies _ rfl (.tmp 50) (.tmp 56) 22 rfl w1.heap.size 36 i1 (.agg #[.int .i64 0, .int .i64 0]) 2 16 Tryz.underlying22 hi1 hy0 hy1 hy2 rfl (by decide) _ _ _ rfl (T4.E.alloc _) ⟨V4.heap.size, 0, none⟩ 1 1 [.int .i64 (numL key), .int .i64 (numL num)] rfl rfl (cell_list_at rfl _ _) (by simp [Value.oneCell']) (by decide) (by unfold maxLen; omega) (by omega) (by have := T4.big; simp; omega) _ rfl ?_
            intro g cap w6 hown' hgrow hat hlt6
            obtain ⟨O6, hP6, hk6⟩ := T4.appE (by omega) (Bs := w.heap.size + 2) (by omega) (by omega) (x := (numL key, numL num)) hgrow hown'
            have O60 := O6.cell 0 _ rfl
            have O61 := O6.cell 1 _ rfl
            have O6f0 := O6.frz 0
            have O6lt := O6.lt
            refine hK _ _ ?_
            clear hK K hgrow hown' hat
            refine wpAny_take (i := 9) (v := ?_) rfl (by kernel_rfl) (by kernel_rfl) (by kernel_rfl) (fun _ _ _ h => absurd h.1 (by simp)) (Or.inl ⟨by rfl, ?_⟩) ?_
            rotate_left 1
            · intro w; go_simp; first | done | with_reducible rfl
            refine wpAny_ready (rs := [10]) (by kernel_rfl) (by simp) ?_
            refine (AllReady.cons rfl (fun K hK => ?_) AllReady.nil)
            go_simp
            refine hK _ _ ?_
            clear hK K
            refine wpAny_done (by kernel_rfl) ?_ _
            refine ⟨rfl, ?_⟩
            gi_wp2
            refine ⟨⟨_, _, by rw [HV.out]; first | exact hP6 | (rw [← hz]; exact hP6)⟩, by first | exact T4r.trans hk6 | (rw [← hz]; exact T4r.trans hk6)⟩
          · go_simp
            refine (pnum_any num _ hnl ?_).mono ?_
            · exact HEN.out _ (PSt.low (And.left (show PSt w w.heap.size w1.heap.size e vE vR _ ∧ RoundKeeps w1.heap.size (w.heap.size + 2) W2 _ from by assumption)))
            rintro r V4 ⟨rfl, hb4⟩
            have T4 : PSt w w.heap.size w1.heap.size e vE vR V4 ∧ RoundKeeps w1.heap.size (w.heap.size + 2) W2 V4 := tsUp (by omega) (by omega) (by assumption) hb4
            clear hb4
            have T40 := T4.1.O.cell 0 _ rfl
            have T41 := T4.1.O.cell 1 _ rfl
            have T4lt := T4.1.O.lt
            (try go_simp)
            refine hK _ _ ?_
            clear hK K
            refine wpAny_take (i := 6) (v := ?_) rfl (by kernel_rfl) (by kernel_rfl) (by kernel_rfl) (fun _ _ _ h => absurd h.1 (by simp)) (Or.inl ⟨by rfl, ?_⟩) ?_
            rotate_left 1
            · intro w; go_simp; first | done | with_reducible rfl
            refine wpAny_ready (rs := [1, 7]) (by kernel_rfl) (by simp) ?_
            refine (AllReady.cons rfl (fun K hK => ?_) (AllReady.cons rfl (fun K hK => ?_) AllReady.nil))
            · go_simp
              refine hK _ _ ?_
              clear hK K
              refine wpAny_ready (rs := [7]) (by kernel_rfl) (by simp) ?_
              refine (AllReady.cons rfl (fun K hK => ?_) AllReady.nil)
              go_simp
              refine hK _ _ ?_
              clear hK K
              refine wpAny_ready (rs := [8]) (by kernel_rfl) (by simp) ?_
              refine (AllReady.cons rfl (fun K hK => ?_) AllReady.nil)
              obtain ⟨T4, T4r⟩ := T4
              refine step_append_lies _ rfl (.tmp 50) (.tmp 56) 22 rfl w1.heap.size 36 i1 (.agg #[.int .i64 0, .int .i64 0]) 2 16 Tryz.underlying22 hi1 hy0 hy1 hy2 rfl (by decide) _ _ _ rfl (T4.E.alloc _) ⟨V4.heap.size, 0, none⟩ 1 1 [.int .i64 (numL key), .int .i64 (numL num)] rfl rfl (cell_list_at rfl _ _) (by simp [Value.oneCell']) (by decide) (by unfold maxLen; omega) (by omega) (by have := T4.big; simp; omega) _ rfl ?_
              intro g cap w6 hown' hgrow hat hlt6
              obtain ⟨O6, hP6, hk6⟩ := T4.appE (by omega) (Bs := w.heap.size + 2) (by omega) (by omega) (x := (numL key, numL num)) hgrow hown'
              have O60 := O6.cell 0 _ rfl
              have O61 := O6.cell 1 _ rfl
              have O6f0 := O6.frz 0
              have O6lt := O6.lt
              refine hK _ _ ?_
              clear hK K hgrow hown' hat
              refine wpAny_take (i := 9) (v := ?_) rfl (by kernel_rfl) (by kernel_rfl) (by kernel_rfl) (fun _ _ _ h => absurd h.1 (by simp)) (Or.inl ⟨by rfl, ?_⟩) ?_
              rotate_left 1
              · intro w; go_simp; first | done | with_reducible rfl
              refine wpAny_ready (rs := [10]) (by kernel_rfl) (by simp) ?_
              refine (AllReady.cons rfl (fun K hK => ?_) AllReady.nil)
              go_simp
              refine hK _ _ ?_
              clear hK K
              refine wpAny_done (by kernel_rfl) ?_ _
              refine ⟨rfl, ?_⟩
              gi_wp2
              refine ⟨⟨_, _, by rw [HV.out]; first | exact hP6 | (rw [← hz]; exact hP6)⟩, by first | exact T4r.trans hk6 | (rw [← hz]; exact T4r.trans hk6)⟩
            · go_simp
              refine hK _ _ ?_
              clear hK K
              refine wpAny_ready (rs := [1]) (by kernel_rfl) (by simp) ?_
              refine (AllReady.cons rfl (fun K hK => ?_) AllReady.nil)
              go_simp
              refine hK _ _ ?_
              clear hK K
              refine wpAny_ready (rs := [8]) (by kernel_rfl) (by simp) ?_
              refine (AllReady.cons rfl (fun K hK => ?_) AllReady.nil)
              obtain ⟨T4, T4r⟩ := T4
              refine step_append_lies _ rfl (.tmp 50) (.tmp 56) 22 rfl w1.heap.size 36 i1 (.agg #[.int .i64 0, .int .i64 0]) 2 16 Tryz.underlying22 hi1 hy0 hy1 hy2 rfl (by decide) _ _ _ rfl (T4.E.alloc _) ⟨V4.heap.size, 0, none⟩ 1 1 [.int .i64 (numL key), .int .i64 (numL num)] rfl rfl (cell_list_at rfl _ _) (by simp [Value.oneCell']) (by decide) (by unfold maxLen; omega) (by omega) (by have := T4.big; simp; omega) _ rfl ?_
              intro g cap w6 hown' hgrow hat hlt6
              obtain ⟨O6, hP6, hk6⟩ := T4.appE (by omega) (Bs := w.heap.size + 2) (by omega) (by omega) (x := (numL key, numL num)) hgrow hown'
              have O60 := O6.cell 0 _ rfl
              have O61 := O6.cell 1 _ rfl
              have O6f0 := O6.frz 0
              have O6lt := O6.lt
              refine hK _ _ ?_
              clear hK K hgrow hown' hat
              refine wpAny_take (i := 9) (v := ?_) rfl (by kernel_rfl) (by kernel_rfl) (by kernel_rfl) (fun _ _ _ h => absurd h.1 (by simp)) (Or.inl ⟨by rfl, ?_⟩) ?_
              rotate_left 1
              · intro w; go_simp; first | done | with_reducible rfl
              refine wpAny_ready (rs := [10]) (by kernel_rfl) (by simp) ?_
              refine (AllReady.cons rfl (fun K hK => ?_) AllReady.nil)
              go_simp
              refine hK _ _ ?_
              clear hK K
              refine wpAny_done (by kernel_rfl) ?_ _
              refine ⟨rfl, ?_⟩
              gi_wp2
              refine ⟨⟨_, _, by rw [HV.out]; first | exact hP6 | (rw [← hz]; exact hP6)⟩, by first | exact T4r.trans hk6 | (rw [← hz]; exact T4r.trans hk6)⟩
      · have HV : Hid (colE (pre ++ [x]) = ⟨e.ents, e.ret ++ (wordsL 32 (Lib.trimPrefix t [114, 101, 116, 105, 114, 101, 100, 32])).map numL⟩) := by show _ = _; rw [HSN.out]; exact step_ret hp
        have hpl := pre_len t [114, 101, 116, 105, 114, 101, 100, 32]
        clear hp HSN
        generalize Lib.trimPrefix t [114, 101, 116, 105, 114, 101, 100, 32] = u at *
        have hwl := words_le 32 u
        have HWL : Hid (∀ y ∈ wordsL 32 u, y.length ≤ u.length) := wordsL_len 32 u
        gi_wp2
        refine ⟨trivial, CallsIn.mono (callsR (splitBx 32 u _ (by omega) (HEN.out _ hP.low))) ?_⟩
        rintro r W3 ⟨cap, rfl, X3, hb3⟩
        have hP3 := hP.up hb3 (by omega)
        have hk3 : RoundKeeps w1.heap.size (w.heap.size + 2) W2 W3 := RoundKeeps.of_below hb3 (by omega)
        have hv3 : vR.ownBlock ≠ some W2.heap.size := fun h => by have := (hP.T.lt _ h).2; omega
        have hret : e.ret.length + u.length ≤ 10000 := by omega
        generalize wordsL 32 u = ws at *
        obtain ⟨strs, hstrs⟩ : ∃ strs, strs = ws.map (fun y => Value.string ⟨y.toArray⟩) := ⟨_, rfl⟩
        rw [← hstrs] at X3
        have HST := Lib.hid hstrs; clear hstrs
        obtain ⟨bw, hbw⟩ : ∃ bw, bw = W2.heap.size := ⟨_, rfl⟩
        rw [← hbw] at X3 hv3 ⊢
        have hbw3 : w.heap.size + 3 ≤ bw := by omega
        have hT0 : e.ret = e.ret ++ (ws.take 0).map numL := by simp
        clear hb3 hP hbw htl hL hzs hbs hW2
        gi_wp2
        gi_loopw [31] (fun s V => ∃ (j : Nat) (vJ : Value), j ≤ ws.length ∧ s = .int .i64 (j : Int) ∧ PSt w w.heap.size w1.heap.size ⟨e.ents, e.ret ++ (ws.take j).map numL⟩ vE vJ V ∧ RoundKeeps w1.heap.size (w.heap.size + 2) W2 V ∧ vJ.ownBlock ≠ some bw ∧ Bx V bw strs) (fun s _ => ws.length - (intOf s).toNat)
        case atStart => exact ⟨0, vR, by omega, rfl, by rw [← hT0]; first | exact hP3 | (rw [← hz]; exact hP3), by first | exact hk3 | (rw [← hz]; exact hk3), hv3, X3⟩
        case round =>
          clear hP3 hk3 hv3 X3 hT0
          obtain ⟨j, vJ, hj, rfl, hPJ, hkJ, hvJ, XJ⟩ := hrel
          by_cases hlt : j < ws.length
          · obtain ⟨y, hy⟩ : ∃ y, ws[j]? = some y := ⟨ws[j], List.getElem?_eq_getElem hlt⟩
            have hyl : y.length ≤ 100000 := by have := HWL.out y (List.mem_of_getElem? hy); omega
            have c0 : wr.cell? ⟨bw, j, none⟩ = some (.string ⟨y.toArray⟩) := XJ.cell j _ (by rw [HST.out, List.getElem?_map, hy]; rfl)
            have XJlt := XJ.lt
            have hjl : (e.ret ++ (ws.take j).map numL).length ≤ 20000 := by simp; omega
            obtain ⟨eJ, heJ⟩ : ∃ eJ : Ed, eJ = ⟨e.ents, e.ret ++ (ws.take j).map numL⟩ := ⟨_, rfl⟩
            have HNX : Hid ((⟨e.ents, e.ret ++ (ws.take (j + 1)).map numL⟩ : Ed) = ⟨eJ.ents, eJ.ret ++ [numL y]⟩) := by
              show _ = _
              rw [heJ, take_snocS hy]
              simp
            rw [← heJ] at hPJ
            have hjl2 : eJ.ret.length ≤ 20000 := by rw [heJ]; exact hjl
            clear heJ hy hjl
            gi_wp2
            refine regionN (by kernel_rfl) (by kernel_rfl) ?_
            have T0 : PSt w w.heap.size w1.heap.size eJ vE vJ wr.drew ∧ RoundKeeps w1.heap.size (w.heap.size + 2) W2 wr.drew := tsUp (by omega) (by omega) ⟨hPJ, hkJ⟩ (Below.drew (Below.refl _ _))
            have X0 : Bx wr.drew bw strs := XJ.up (Below.drew (Below.refl _ _))
            have T00 := T0.1.O.cell 0 _ rfl
            have T01 := T0.1.O.cell 1 _ rfl
            have T0lt := T0.1.O.lt
            clear hPJ hkJ XJ c0 XJlt
            generalize wr.drew = V0 at *
            refine wpAny_take (i := 0) (v := ?_) rfl (by kernel_rfl) (by kernel_rfl) (by kernel_rfl) (fun _ _ _ h => absurd h.1 (by simp)) (Or.inl ⟨by rfl, ?_⟩) ?_
            rotate_left 1
            · intro w; go_simp; first | done | with_reducible rfl
            refine wpAny_take (i := 2) (v := ?_) rfl (by kernel_rfl) (by kernel_rfl) (by kernel_rfl) (fun _ _ _ h => absurd h.1 (by simp)) (Or.inl ⟨by rfl, ?_⟩) ?_
            rotate_left 1
            · intro w; go_simp; first | done | with_reducible rfl
            refine wpAny_ready (rs := [1, 3]) (by kernel_rfl) (by simp) ?_
            refine (AllReady.cons rfl (fun K hK => ?_) (AllReady.cons rfl (fun K hK => ?_) AllReady.nil))
            · go_simp
              refine hK _ _ ?_
              clear hK K
              refine wpAny_ready (rs := [3]) (by kernel_rfl) (by simp) ?_
              refine (AllReady.cons rfl (fun K hK => ?_) AllReady.nil)
              go_simp
              refine (pnum_any y _ hyl ?_).mono ?_
              · exact HEN.out _ (PSt.low (And.left (show PSt w w.heap.size w1.heap.size eJ vE vJ _ ∧ RoundKeeps w1.heap.size (w.heap.size + 2) W2 _ from by assumption)))
              rintro r V4 ⟨rfl, hb4⟩
              have T4 : PSt w w.heap.size w1.heap.size eJ vE vJ V4 ∧ RoundKeeps w1.heap.size (w.heap.size + 2) W2 V4 := tsUp (by omega) (by omega) (by assumption) hb4
              have X4 : Bx V4 bw strs := X0.up hb4
              clear hb4
              have T40 := T4.1.O.cell 0 _ rfl
              have T41 := T4.1.O.cell 1 _ rfl
              have T4lt := T4.1.O.lt
              (try go_simp)
              refine hK _ _ ?_
              clear hK K
              refine wpAny_ready (rs := [4]) (by kernel_rfl) (by simp) ?_
              refine (AllReady.cons rfl (fun K hK => ?_) AllReady.nil)
              go_simp
              refine hK _ _ ?_
              clear hK K
              refine wpAny_ready (rs := [5]) (by kernel_rfl) (by simp) ?_
              refine (AllReady.cons rfl (fun K hK => ?_) AllReady.nil)
              obtain ⟨T4, T4r⟩ := T4
              refine step_append_lies _ rfl (.tmp 36) (.tmp 39) 23 rfl w1.heap.size 3 i0 (.int .i64 0) 1 8 Tryz.underlying23 hi hz0 hz1 hz2 rfl (by decide) _ _ _ rfl (T4.T.alloc _) ⟨V4.heap.size, 0, none⟩ 1 1 [.int .i64 (numL y)] rfl rfl (cell_list_at rfl _ _) (by simp [Value.oneCell']) (by decide) (by unfold maxLen; omega) (by omega) (by have := T4.big; simp; omega) _ rfl ?_
              intro g cap w6 hown' hgrow hat hlt6
              obtain ⟨O6, hP6, hk6⟩ := T4.appR (by omega) (Bs := w.heap.size + 2) (by omega) (by omega) (x := numL y) hgrow hown'
              have X6 : Bx (w6.setCell ⟨w.heap.size + 1, 1, none⟩ (.slice (some ⟨g, 0, none⟩) (eJ.ret.length + 1) cap)) bw strs := ((X4.alloc _).grown hgrow hvJ).far (by simp; omega) _
              have hg6 : (Value.slice (some ⟨g, 0, none⟩) (eJ.ret.length + 1) cap).ownBlock ≠ some bw := by
                have := X4.lt
                rcases hat with h | h
                · exact fun h' => hvJ ((show vJ.ownBlock = some g from h).trans h')
                · rw [h]; simp [Value.ownBlock]; omega
              have O60 := O6.cell 0 _ rfl
              have O61 := O6.cell 1 _ rfl
              have O6f1 := O6.frz 1
              have O6lt := O6.lt
              refine hK _ _ ?_
              clear hK K hgrow hown' hat
              refine wpAny_take (i := 6) (v := ?_) rfl (by kernel_rfl) (by kernel_rfl) (by kernel_rfl) (fun _ _ _ h => absurd h.1 (by simp)) (Or.inl ⟨by rfl, ?_⟩) ?_
              rotate_left 1
              · intro w; go_simp; first | done | with_reducible rfl
              refine wpAny_ready (rs := [7]) (by kernel_rfl) (by simp) ?_
              refine (AllReady.cons rfl (fun K hK => ?_) AllReady.nil)
              go_simp
              refine hK _ _ ?_
              clear hK K
              refine wpAny_done (by kernel_rfl) ?_ _
              refine ⟨rfl, ?_⟩
              gi_wp2
              go_roundw
              case rel => exact ⟨j + 1, _, by omega, by go_num, by rw [HNX.out]; first | exact hP6 | (rw [← hz]; exact hP6), by first | exact T4r.trans hk6 | (rw [← hz]; exact T4r.trans hk6), hg6, X6⟩
              case measure => simp [intOf]; omega
            · go_simp
              refine (pnum_any y _ hyl ?_).mono ?_
              · exact HEN.out _ (PSt.low (And.left (show PSt w w.heap.size w1.heap.size eJ vE vJ _ ∧ RoundKeeps w1.heap.size (w.heap.size + 2) W2 _ from by assumption)))
              rintro r V4 ⟨rfl, hb4⟩
              have T4 : PSt w w.heap.size w1.heap.size eJ vE vJ V4 ∧ RoundKeeps w1.heap.size (w.heap.size + 2) W2 V4 := tsUp (by omega) (by omega) (by assumption) hb4
              have X4 : Bx V4 bw strs := X0.up hb4
              clear hb4
              have T40 := T4.1.O.cell 0 _ rfl
              have T41 := T4.1.O.cell 1 _ rfl
              have T4lt := T4.1.O.lt
              (try go_simp)
              refine hK _ _ ?_
              clear hK K
              refine wpAny_ready (rs := [1, 4]) (by kernel_rfl) (by simp) ?_
              refine (AllReady.cons rfl (fun K hK => ?_) (AllReady.cons rfl (fun K hK => ?_) AllReady.nil))
              · go_simp
                refine hK _ _ ?_
                clear hK K
                refine wpAny_ready (rs := [4]) (by kernel_rfl) (by simp) ?_
                refine (AllReady.cons rfl (fun K hK => ?_) AllReady.nil)
                go_simp
                refine hK _ _ ?_
                clear hK K
                refine wpAny_ready (rs := [5]) (by kernel_rfl) (by simp) ?_
                refine (AllReady.cons rfl (fun K hK => ?_) AllReady.nil)
                obtain ⟨T4, T4r⟩ := T4
                refine step_append_lies _ rfl (.tmp 36) (.tmp 39) 23 rfl w1.heap.size 3 i0 (.int .i64 0) 1 8 Tryz.underlying23 hi hz0 hz1 hz2 rfl (by decide) _ _ _ rfl (T4.T.alloc _) ⟨V4.heap.size, 0, none⟩ 1 1 [.int .i64 (numL y)] rfl rfl (cell_list_at rfl _ _) (by simp [Value.oneCell']) (by decide) (by unfold maxLen; omega) (by omega) (by have := T4.big; simp; omega) _ rfl ?_
                intro g cap w6 hown' hgrow hat hlt6
                obtain ⟨O6, hP6, hk6⟩ := T4.appR (by omega) (Bs := w.heap.size + 2) (by omega) (by omega) (x := numL y) hgrow hown'
                have X6 : Bx (w6.setCell ⟨w.heap.size + 1, 1, none⟩ (.slice (some ⟨g, 0, none⟩) (eJ.ret.length + 1) cap)) bw strs := ((X4.alloc _).grown hgrow hvJ).far (by simp; omega) _
                have hg6 : (Value.slice (some ⟨g, 0, none⟩) (eJ.ret.length + 1) cap).ownBlock ≠ some bw := by
                  have := X4.lt
                  rcases hat with h | h
                  · exact fun h' => hvJ ((show vJ.ownBlock = some g from h).trans h')
                  · rw [h]; simp [Value.ownBlock]; omega
                have O60 := O6.cell 0 _ rfl
                have O61 := O6.cell 1 _ rfl
                have O6f1 := O6.frz 1
                have O6lt := O6.lt
                refine hK _ _ ?_
                clear hK K hgrow hown' hat
                refine wpAny_take (i := 6) (v := ?_) rfl (by kernel_rfl) (by kernel_rfl) (by kernel_rfl) (fun _ _ _ h => absurd h.1 (by simp)) (Or.inl ⟨by rfl, ?_⟩) ?_
                rotate_left 1
                · intro w; go_simp; first | done | with_reducible rfl
                refine wpAny_ready (rs := [7]) (by kernel_rfl) (by simp) ?_
                refine (AllReady.cons rfl (fun K hK => ?_) AllReady.nil)
                go_simp
                refine hK _ _ ?_
                clear hK K
                refine wpAny_done (by kernel_rfl) ?_ _
                refine ⟨rfl, ?_⟩
                gi_wp2
                go_roundw
                case rel => exact ⟨j + 1, _, by omega, by go_num, by rw [HNX.out]; first | exact hP6 | (rw [← hz]; exact hP6), by first | exact T4r.trans hk6 | (rw [← hz]; exact T4r.trans hk6), hg6, X6⟩
                case measure => simp [intOf]; omega
              · go_simp
                refine hK _ _ ?_
                clear hK K
                refine wpAny_ready (rs := [1]) (by kernel_rfl) (by simp) ?_
                refine (AllReady.cons rfl (fun K hK => ?_) AllReady.nil)
                go_simp
                refine hK _ _ ?_
                clear hK K
                refine wpAny_ready (rs := [5]) (by kernel_rfl) (by simp) ?_
                refine (AllReady.cons rfl (fun K hK => ?_) AllReady.nil)
                obtain ⟨T4, T4r⟩ := T4
                refine step_append_lies _ rfl (.tmp 36) (.tmp 39) 23 rfl w1.heap.size 3 i0 (.int .i64 0) 1 8 Tryz.underlying23 hi hz0 hz1 hz2 rfl (by decide) _ _ _ rfl (T4.T.alloc _) ⟨V4.heap.size, 0, none⟩ 1 1 [.int .i64 (numL y)] rfl rfl (cell_list_at rfl _ _) (by simp [Value.oneCell']) (by decide) (by unfold maxLen; omega) (by omega) (by have := T4.big; simp; omega) _ rfl ?_
                intro g cap w6 hown' hgrow hat hlt6
                obtain ⟨O6, hP6, hk6⟩ := T4.appR (by omega) (Bs := w.heap.size + 2) (by omega) (by omega) (x := numL y) hgrow hown'
                have X6 : Bx (w6.setCell ⟨w.heap.size + 1, 1, none⟩ (.slice (some ⟨g, 0, none⟩) (eJ.ret.length + 1) cap)) bw strs := ((X4.alloc _).grown hgrow hvJ).far (by simp; omega) _
                have hg6 : (Value.slice (some ⟨g, 0, none⟩) (eJ.ret.length + 1) cap).ownBlock ≠ some bw := by
                  have := X4.lt
                  rcases hat with h | h
                  · exact fun h' => hvJ ((show vJ.ownBlock = some g from h).trans h')
                  · rw [h]; simp [Value.ownBlock]; omega
                have O60 := O6.cell 0 _ rfl
                have O61 := O6.cell 1 _ rfl
                have O6f1 := O6.frz 1
                have O6lt := O6.lt
                refine hK _ _ ?_
                clear hK K hgrow hown' hat
                refine wpAny_take (i := 6) (v := ?_) rfl (by kernel_rfl) (by kernel_rfl) (by kernel_rfl) (fun _ _ _ h => absurd h.1 (by simp)) (Or.inl ⟨by rfl, ?_⟩) ?_
                rotate_left 1
                · intro w; go_simp; first | done | with_reducible rfl
                refine wpAny_ready (rs := [7]) (by kernel_rfl) (by simp) ?_
                refine (AllReady.cons rfl (fun K hK => ?_) AllReady.nil)
                go_simp
                refine hK _ _ ?_
                clear hK K
                refine wpAny_done (by kernel_rfl) ?_ _
                refine ⟨rfl, ?_⟩
                gi_wp2
                go_roundw
                case rel => exact ⟨j + 1, _, by omega, by go_num, by rw [HNX.out]; first | exact hP6 | (rw [← hz]; exact hP6), by first | exact T4r.trans hk6 | (rw [← hz]; exact T4r.trans hk6), hg6, X6⟩
                case measure => simp [intOf]; omega
          · obtain rfl : j = ws.length := by omega
            have HTK : Hid (ws.take ws.length = ws) := List.take_of_length_le (Nat.le_refl _)
            rw [HTK.out] at hPJ
            gi_wp2
            refine ⟨⟨_, _, by rw [HV.out]; first | exact hPJ | (rw [← hz]; exact hPJ)⟩, by first | exact hkJ | (rw [← hz]; exact hkJ)⟩
    · rintro D W hD ⟨vE, vR, hP⟩ hdef
      have HEN : Hid (∀ V, Below w.heap.size w V → Env V) := fun V hV => hE.step hV
      have hcl := coll_len s
      have HPP : Hid (∀ ys : List (Int × Int), ys.Perm (collP s).ents → ys.Pairwise (fun a b => a.1 ≤ b.1) → (IsText s ⟨ys, (collP s).ret⟩ ∧ ∀ e, IsText s e → e = ⟨ys, (collP s).ret⟩) ∨ ((∀ e, ¬ IsText s e) ∧ ¬ IsText s ⟨ys, (collP s).ret⟩)) := fun ys h1 h2 => prog_parse h1 h2
      have HC : Hid (parCode s = 3) := by show _ = _; unfold parCode; rw [if_neg hlong]
      rw [colE_all] at hP
      clear hP0 hS hR hO hb1 hE hbs hzs
      generalize collP s = e at *
      obtain ⟨AE, cE, hvE, _⟩ := own_form hP.E
      obtain ⟨AR, cR, hvR, _⟩ := own_form hP.T
      subst hvE
      subst hvR
      have O0 := hP.O.cell 0 _ rfl
      have O1 := hP.O.cell 1 _ rfl
      have HSO := Lib.hid (psort_any (D := D) (by omega) (by omega) hP hdef)
      have hWD : D < W.heap.size := (Array.getElem?_eq_some_iff.1 hdef).1
      clear hP hdef
      have hDR : D ≠ w.heap.size := by omega
      have hDO : D ≠ w.heap.size + 1 := by omega
      have hn1 : e.ents.length ≤ 1000000 := by omega
      have hn2 : e.ret.length ≤ 1000000 := by omega
      have hwD : w.heap.size ≤ D := by omega
      have hB1 : w.heap.size < w1.heap.size := by omega
      clear hD hz
      go_wp2_with fail
      go_fit HSO.out
      rintro r W3 ⟨rfl, ys, hp, hpw, ⟨hSe, hSr⟩, R, O, hb, hd, hz3⟩
      have HT := Lib.hid (HPP.out ys hp hpw)
      clear hp hpw HSO HPP O0 O1
      have hW3 : w.heap.size ≤ W3.heap.size := hb.size
      have HU : Hid (∀ V, Below W3.heap.size W3 V → EdS V AE e.ents.length AR e.ret.length ⟨ys, e.ret⟩) := fun V hV => EdS.up ⟨hSe.any, hSr.any⟩ hV
      have HSE := Lib.hid hSe; clear hSe
      have HSR := Lib.hid hSr; clear hSr
      have O0 := O.cell 0 _ rfl; have O1 := O.cell 1 _ rfl; have Olt := O.lt
      go_wp2_with fail
      refine (valid_any AE _ cE AR _ cR ⟨ys, e.ret⟩ _ hn1 hn2 (HU.out _ (Below.refl _ _))).mono ?_; rintro r W4 ⟨rfl, hb4⟩
      have hbw4 : Below W3.heap.size W3 W4 := hb4
      replace hd := def_kept hd hb4
      (replace hb := hb.trans (hb4.mono hb.size)); replace R := R.up hb4; replace O := O.up hb4; clear hb4; (try clear R0); (try clear R1); (try clear Rf0); (try clear Rf1); (try clear Rlt); (try clear O0); (try clear O1); (try clear Olt)
      by_cases hv : ¬ validE ⟨ys, e.ret⟩
      · have HN : Hid (∀ e', ¬ ParOk s e') := fun e' he' => by
          rcases HT.out with ⟨h1, _⟩ | ⟨h1, _⟩
          · exact hv h1.1
          · exact h1 e' he'.1
        rw [decide_eq_false hv]
        clear hv
        have hdF := def_set2 hd hDR (.slice none 0 0) (.slice none 0 0)
        have hbF : ∀ o', Below w.heap.size w (((W4.setCell ⟨w.heap.size, 0, none⟩ (.slice none 0 0)).setCell ⟨w.heap.size, 1, none⟩ (.slice none 0 0)).putObj D o') := fun o' => below_put (below_set2 hb (Nat.le_refl _) _ _) (by simp only [size_set]; exact hb.size) (by omega) _
        have R0 := R.cell 0 _ rfl; have Rf0 := R.frz 0; have R1 := R.cell 1 _ rfl; have Rf1 := R.frz 1; have Rlt := R.lt
        go_wp2_with fail
        refine fin_marks (v := .tuple #[.agg #[.slice none 0 0, .slice none 0 0], .int .i64 3]) hdF (by simp [results, Tryz.results27, go_sem, putObj_cellj hDR.symm, (R.all2 _ _).cell 0 _ rfl, (R.all2 _ _).cell 1 _ rfl]) ?_
        exact ⟨.inr ⟨HN.out, by rw [HC.out]⟩, hbF _⟩
      replace hv := Classical.not_not.1 hv
      rw [decide_eq_true hv]
      have HV := Lib.hid hv; clear hv
      have O0 := O.cell 0 _ rfl; have O1 := O.cell 1 _ rfl; have Olt := O.lt
      go_wp2_with fail
      refine (ptext_any AE _ cE AR _ cR ⟨ys, e.ret⟩ _ (HEN.out _ hb) hn1 hn2 (HU.out _ hbw4)).mono ?_; rintro r W5 ⟨rfl, hb5⟩
      have hbw5 : Below W3.heap.size W3 W5 := hbw4.trans (hb5.mono hbw4.size)
      replace hd := def_kept hd hb5
      (replace hb := hb.trans (hb5.mono hb.size)); replace R := R.up hb5; replace O := O.up hb5; clear hb5; (try clear R0); (try clear R1); (try clear Rf0); (try clear Rf1); (try clear Rlt); (try clear O0); (try clear O1); (try clear Olt)
      clear hbw4
      cases ht : (textE ⟨ys, e.ret⟩ == s)
      · have HN : Hid (∀ e', ¬ ParOk s e') := fun e' he' => by
          rcases HT.out with ⟨h1, _⟩ | ⟨h1, _⟩
          · have h2 := h1.2
            rw [h2] at ht
            simp at ht
          · exact h1 e' he'.1
        have hdF := def_set2 hd hDR (.slice none 0 0) (.slice none 0 0)
        have hbF : ∀ o', Below w.heap.size w (((W5.setCell ⟨w.heap.size, 0, none⟩ (.slice none 0 0)).setCell ⟨w.heap.size, 1, none⟩ (.slice none 0 0)).putObj D o') := fun o' => below_put (below_set2 hb (Nat.le_refl _) _ _) (by simp only [size_set]; exact hb.size) (by omega) _
        have R0 := R.cell 0 _ rfl; have Rf0 := R.frz 0; have R1 := R.cell 1 _ rfl; have Rf1 := R.frz 1; have Rlt := R.lt
        go_wp2_with fail
        refine fin_marks (v := .tuple #[.agg #[.slice none 0 0, .slice none 0 0], .int .i64 3]) hdF (by simp [results, Tryz.results27, go_sem, putObj_cellj hDR.symm, (R.all2 _ _).cell 0 _ rfl, (R.all2 _ _).cell 1 _ rfl]) ?_
        exact ⟨.inr ⟨HN.out, by rw [HC.out]⟩, hbF _⟩
      · have HY : Hid (ParOk s ⟨ys, e.ret⟩) := ⟨⟨HV.out, by simpa using ht⟩, hL⟩
        have hdF := def_set2 hd hDR (.slice AE e.ents.length cE) (.slice AR e.ret.length cR)
        have hbF : ∀ o', Below w.heap.size w (((W5.setCell ⟨w.heap.size, 0, none⟩ (.slice AE e.ents.length cE)).setCell ⟨w.heap.size, 1, none⟩ (.slice AR e.ret.length cR)).putObj D o') := fun o' => below_put (below_set2 hb (Nat.le_refl _) _ _) (by simp only [size_set]; exact hb.size) (by omega) _
        have R0 := R.cell 0 _ rfl; have Rf0 := R.frz 0; have R1 := R.cell 1 _ rfl; have Rf1 := R.frz 1; have Rlt := R.lt
        have O0 := O.cell 0 _ rfl; have O1 := O.cell 1 _ rfl; have Olt := O.lt
        go_wp2_with fail
        refine fin_marks (v := .tuple #[.agg #[.slice AE e.ents.length cE, .slice AR e.ret.length cR], .int .i64 0]) hdF (by simp [results, Tryz.results27, go_sem, putObj_cellj hDR.symm, (R.all2 _ _).cell 0 _ rfl, (R.all2 _ _).cell 1 _ rfl]) ?_
        have hz5 := hbw5.size
        refine ⟨.inl ⟨⟨ys, e.ret⟩, HY.out, _, _, _, _, _, _, rfl, ?_, ?_⟩, hbF _⟩
        · exact (((((HSE.out.below hbw5 (Nat.le_refl _)).set_ (p := ⟨w.heap.size, 0, none⟩) hB1 _).set_ (p := ⟨w.heap.size, 1, none⟩) hB1 _).put hdF rfl _).any).more (Nat.le_trans (by simpa only [size_set] using hz5) (grownBy_putObj' _ D _).size)
        · exact (((((HSR.out.below hbw5 (Nat.le_refl _)).set_ (p := ⟨w.heap.size, 0, none⟩) hB1 _).set_ (p := ⟨w.heap.size, 1, none⟩) hB1 _).put hdF rfl _).any).more (Nat.le_trans (by simpa only [size_set] using hz5) (grownBy_putObj' _ D _).size)
end Go.Proofs.YtfanjghfilkhmaaGreatDoor
