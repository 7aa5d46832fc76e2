/- Chapter 46: the numbers of a sale's words (the program's). -/
import Derived.Test.YtccmchmemafjdaaGreatDoorOi
set_option linter.unusedSimpArgs false
set_option linter.unusedVariables false
namespace Go.Proofs.YtccmchmemafjdaaGreatDoor
open Go.RowKit

theorem Tryz.infoI : (Tryz.prog.info? 3).map (fun i => (i.zero, i.size, i.bytes)) = some (some (.int .i64 0), 1, 8) := by kernel_rfl
def lettersL : List (List UInt8) := [[], [72], [76]]
def numAt (s : List UInt8) (k : Nat) : Option Int := numW (lettersL.getD k []) ((wordsL 32 s).getD k [])
def numsS (s : List UInt8) : Option Sal := match wordsL 32 s with
  | [a, b, c] => match numW [] a, numW [72] b, numW [76] c with
    | some y, some h, some l => some ⟨y, h, l⟩
    | _, _, _ => none
  | _ => none
theorem saleW_nums (p : List UInt8) : saleW p = numsS (Lib.trimPrefix p [32]) := rfl
theorem list3 {α : Type} {l : List α} (h : l.length = 3) : ∃ a b c, l = [a, b, c] := by
  match l, h with
  | [a, b, c], _ => exact ⟨a, b, c, rfl⟩
theorem numsS_len {s : List UInt8} (h : (wordsL 32 s).length ≠ 3) : numsS s = none := by
  unfold numsS
  split
  · rename_i a b c he
    rw [he] at h
    exact absurd rfl h
  · rfl
theorem numsS_bad {s : List UInt8} (h : (wordsL 32 s).length = 3) {k : Nat} (hk : k < 3) (hn : numAt s k = none) : numsS s = none := by
  obtain ⟨a, b, c, he⟩ := list3 h
  unfold numAt at hn
  unfold numsS
  rw [he] at hn ⊢
  simp only
  match k, hk with
  | 0, _ =>
    have : numW [] a = none := hn
    rw [this]
  | 1, _ =>
    have : numW [72] b = none := hn
    rw [this]
    cases numW [] a <;> rfl
  | 2, _ =>
    have : numW [76] c = none := hn
    rw [this]
    cases numW [] a <;> cases numW [72] b <;> rfl
theorem numsS_ok {s : List UInt8} (h : (wordsL 32 s).length = 3) {os : List Int} (hl : os.length = 3) (ho : ∀ (k : Nat) (z : Int), os[k]? = some z → numAt s k = some z) : ∃ x : Sal, numsS s = some x ∧ os = [x.y, x.h, x.l] := by
  obtain ⟨a, b, c, he⟩ := list3 h
  obtain ⟨y, g, l, rfl⟩ := list3 hl
  have h0 := ho 0 y rfl
  have h1 := ho 1 g rfl
  have h2 := ho 2 l rfl
  unfold numAt at h0 h1 h2
  rw [he] at h0 h1 h2
  have k0 : numW [] a = some y := h0
  have k1 : numW [72] b = some g := h1
  have k2 : numW [76] c = some l := h2
  refine ⟨⟨y, g, l⟩, ?_, rfl⟩
  unfold numsS
  rw [he]
  simp only [k0, k1, k2]
theorem numW_no1 {l w : List UInt8} (h : Lib.hasPrefix w l = false) : numW l w = none := by
  unfold numW
  have : l.isPrefixOf w = false := h
  rw [this, if_neg (by decide)]
theorem numW_no2 {l w : List UInt8} (h : ∀ v, Lib.atoiAll (Lib.trimPrefix w l) ≠ .ok v) : numW l w = none := by
  unfold numW
  split
  · cases hc : Lib.atoiAll (Lib.trimPrefix w l) with
    | ok v => exact absurd hc (h v)
    | _ => rfl
  · rfl
theorem numW_ok {l w : List UInt8} (h : Lib.hasPrefix w l = true) {v : Int} (hv : Lib.atoiAll (Lib.trimPrefix w l) = .ok v) : numW l w = some v := by
  unfold numW
  have : l.isPrefixOf w = true := h
  rw [this, if_pos rfl, hv]
theorem atoi_cases (l : List UInt8) : (∃ v, Lib.atoiAll l = .ok v) ∨ ∀ v, Lib.atoiAll l ≠ .ok v := by
  cases h : Lib.atoiAll l with
  | ok v => exact .inl ⟨v, rfl⟩
  | _ => exact .inr fun v h2 => by cases h2
/-- What numbers hands over. -/
def NumsOut (L : Nat) (s : List UInt8) (r : Ending) (w' : World) : Prop :=
  match numsS s with
  | some x => ∃ A c, r = .returned (.tuple #[.slice A 3 c, .bool true]) ∧ Sl w' L w'.heap.size 1 encI A 3 [x.y, x.h, x.l]
  | none => r = .returned (.tuple #[.slice none 0 0, .bool false])
set_option maxRecDepth 100000 in
set_option maxHeartbeats 4000000 in
theorem numbers_any (s : List UInt8) (L : Option Addr) (lc : Nat) (w : World) (hs : s.length ≤ 1000000) (hE : Env w) (hL : Sl w 0 w.heap.size 1 encStr L 3 lettersL) :
    Calls Tryz.prog 41 #[.string ⟨s.toArray⟩, .slice L 3 lc] w fun r w' => NumsOut w.heap.size s r w' ∧ Below w.heap.size w w' := by
  have HEN : Hid (∀ W, Below w.heap.size w W → Env W) := fun W hW => hE.step hW
  have HLU : Hid (∀ W, Below w.heap.size w W → Sl W 0 W.heap.size 1 encStr L 3 lettersL) := fun W hW => hL.up hW (Nat.le_refl _) (Nat.le_refl _)
  clear hE hL
  obtain ⟨i0, hi, hz0, hz1, hz2⟩ := info_parts Tryz.infoI
  go_enter Tryz.func41, Tryz.ntmps41
  go_wp2_with fail
  refine (split_any 32 s _ hs (HEN.out _ (Below.refl _ _))).mono ?_; rintro r w1 ⟨A, cap, rfl, hSw, hb⟩
  have HWL : Hid (∀ x ∈ wordsL 32 s, x.length ≤ 1000000) := fun x hx => Nat.le_trans (wordsL_len 32 s x hx) hs
  have HSW : Hid (∀ W, Below w1.heap.size w1 W → Sl W 0 W.heap.size 1 encStr A (wordsL 32 s).length (wordsL 32 s)) := fun W hW => (hSw.up hW (Nat.le_refl _) (Nat.le_refl _)).any
  clear hSw
  by_cases h3 : (wordsL 32 s).length = 3
  rotate_left 1
  · have HV := Lib.hid (numsS_len h3)
    have h3i : ¬ (((wordsL 32 s).length : Int) = 3) := by omega
    go_wp2_with fail
    refine bodyPost_ret (v := .tuple #[.slice none 0 0, .bool false]) (by simp [results, Tryz.results41, go_sem]) rfl ?_
    exact ⟨by unfold NumsOut; rw [HV.out], hb⟩
  have H3 := Lib.hid h3
  have HAT : Hid (∀ k, numAt s k = numW (lettersL.getD k []) ((wordsL 32 s).getD k [])) := fun k => rfl
  have HBAD : Hid (∀ k, k < 3 → numAt s k = none → numsS s = none) := fun k hk h => numsS_bad h3 hk h
  have HOKS : Hid (∀ os : List Int, os.length = 3 → (∀ (k : Nat) (z : Int), os[k]? = some z → numAt s k = some z) → ∃ x : Sal, numsS s = some x ∧ os = [x.y, x.h, x.l]) := fun os hl ho => numsS_ok h3 hl ho
  rw [h3] at HSW ⊢
  generalize wordsL 32 s = ws at *
  clear h3
  obtain ⟨B0, hB0⟩ : ∃ B0, B0 = w1.heap.size := ⟨_, rfl⟩
  have HB0 := Lib.hid hB0
  have hzB : B0 ≤ w1.heap.size := by omega
  have hb1 : Below B0 w1 w1 := Below.refl _ _
  clear hB0
  go_wp2_with fail
  go_loopw [23, 7] (fun t v wr => ∃ (k : Nat) (os : List Int), k ≤ 3 ∧ t = .int .i64 (k : Int) ∧ os.length = k ∧ (∀ (j : Nat) (z : Int), os[j]? = some z → numAt s j = some z) ∧ wr.ownsRow B0 3 1 v k (os.flatMap encI) ∧ Below B0 w1 wr ∧ B0 ≤ wr.heap.size) (fun t _ _ => 3 - (intOf t).toNat)
  case atStart => exact ⟨0, [], by omega, rfl, rfl, fun j z h => by simp at h, World.ownsRow_nil _ _ _ _, hb1, hzB⟩
  case round =>
    clear hb1 hzB
    obtain ⟨k, os, hk, rfl, hol, hoz, hown, hb1, hzB⟩ := hrel
    have hbr : Below w1.heap.size w1 wr := by rw [← HB0.out]; exact hb1
    have hbw : Below w.heap.size w wr := below_keep' hb hbr
    by_cases hlt : k < 3
    · obtain ⟨b, off, x, rfl, _, hbb, hx, c0⟩ := Sl.one_ (enc := fun x : List UInt8 => Value.string ⟨x.toArray⟩) (HSW.out _ hbr) hlt
      obtain ⟨b2, off2, z, rfl, _, hbb2, hz, d0⟩ := Sl.one_ (enc := fun x : List UInt8 => Value.string ⟨x.toArray⟩) (HLU.out _ hbw) hlt
      have hxl : x.length ≤ 1000000 := HWL.out x (List.mem_of_getElem? hx)
      have HNA : Hid (numAt s k = numW z x) := by
        show _ = _
        rw [HAT.out k, List.getD_eq_getElem?_getD, List.getD_eq_getElem?_getD, hx, hz]
        rfl
      have htl : (Lib.trimPrefix x z).length ≤ 1000000 := Nat.le_trans (trimPre_len x z) hxl
      clear hx hz hxl
      obtain ⟨Av, cv, rfl, _⟩ := own_form hown
      have hk3 : (k : Int) < 3 := by omega
      go_wp2_with fail
      refine (cutPre_any x z _).mono ?_; rintro r w2 ⟨rfl, rfl⟩
      rcases atoi_cases (Lib.trimPrefix x z) with ⟨v, hv⟩ | hv
      · cases hp : Lib.hasPrefix x z
        · have HV := Lib.hid (HBAD.out k hlt (by rw [HNA.out]; exact numW_no1 hp))
          have HV2 := Lib.hid hv; clear hv
          go_wp2_with fail
          refine (atoi_ok ⟨(Lib.trimPrefix x z).toArray⟩ v _ (by rw [size_mk']; omega) HV2.out).mono ?_; rintro r w2 ⟨rfl, hb2⟩
          go_wp2_with fail
          refine bodyPost_ret (v := .tuple #[.slice none 0 0, .bool false]) (by simp [results, Tryz.results41, go_sem]) rfl ?_
          exact ⟨by unfold NumsOut; rw [HV.out], below_keep' hbw hb2⟩
        · have HNV : Hid (numAt s k = some v) := by show _ = _; rw [HNA.out]; exact numW_ok hp hv
          have HV2 := Lib.hid hv; clear hv
          go_wp2_with fail
          refine (atoi_ok ⟨(Lib.trimPrefix x z).toArray⟩ v _ (by rw [size_mk']; omega) HV2.out).mono ?_; rintro r w2 ⟨rfl, hb2⟩
          replace hown := own_below' hown hb2
          have hs2 := hb2.size
          have hb3 : Below B0 w1 w2 := hb1.trans (hb2.mono hzB)
          clear hb1 hbr hbw c0 d0 hbb hbb2 hb2
          go_wp2_with (at_builtin; refine wpList_append_own _ rfl _ _ 40 rfl B0 3 i0 (.int .i64 0) 1 8 Tryz.underlying40 hi hz0 hz1 hz2 rfl (by decide) _ _ _ rfl (hown.alloc _) ⟨w2.heap.size, 0, none⟩ 1 1 [.int .i64 v] rfl rfl ?c1 ?c2 ?c3 ?c4 ?c5 ?_)
          case c1 => exact cell_list_at rfl _ _
          case c2 => simp [Value.oneCell']
          case c3 => unfold maxLen; omega
          case c4 => omega
          case c5 => simp; omega
          · intro v' w6 hown' hgrow _
            have hb6 : Below B0 w1 w6 := Below.grown (hb3.alloc (by omega) _) hgrow (by simp; omega) (fun g hg => (hown.lt g hg).1)
            have hz6 := hgrow.size
            rw [World.size_alloc] at hz6
            go_wp2_with fail
            go_roundw
            case rel => exact ⟨k + 1, os ++ [v], by omega, by go_num, by simp [hol], fun j y hy => by
              by_cases hj : j < os.length
              · rw [List.getElem?_append_left hj] at hy; exact hoz j y hy
              · have hj2 : j = os.length := by
                  have := (List.getElem?_eq_some_iff.1 hy).1
                  simp at this; omega
                subst hj2
                rw [List.getElem?_append_right (Nat.le_refl _), Nat.sub_self] at hy
                have hy2 : v = y := by simpa using hy
                rw [hol, ← hy2]
                exact HNV.out, by rw [List.flatMap_append]; exact hown', hb6, by omega⟩
            case measure => simp [intOf]; omega
      · have HV := Lib.hid (HBAD.out k hlt (by rw [HNA.out]; exact numW_no2 hv))
        have HV2 := Lib.hid hv; clear hv
        cases hp : Lib.hasPrefix x z
        all_goals
          go_wp2_with fail
          refine (atoi_err ⟨(Lib.trimPrefix x z).toArray⟩ _ (by rw [size_mk']; omega) HV2.out (HEN.out _ hbw)).mono ?_
          rintro r w2 ⟨⟨q, te, pv, rfl⟩, hb2⟩
          go_wp2_with fail
          refine bodyPost_ret (v := .tuple #[.slice none 0 0, .bool false]) (by simp [results, Tryz.results41, go_sem]) rfl ?_
          exact ⟨by unfold NumsOut; rw [HV.out], below_keep' hbw hb2⟩
    · obtain rfl : k = 3 := by omega
      obtain ⟨x, HX, hox⟩ := HOKS.out os hol hoz
      obtain ⟨Av, cv, rfl, _⟩ := own_form hown
      have hSo := Sl.of_own (enc := encI) encI_len hown hol
      rw [hox] at hSo
      have HXX := Lib.hid HX
      clear HX hown
      go_wp2_with fail
      refine bodyPost_ret (v := .tuple #[.slice Av 3 cv, .bool true]) (by simp [results, Tryz.results41, go_sem]) rfl ?_
      exact ⟨by unfold NumsOut; rw [HXX.out]; exact ⟨_, _, rfl, hSo.less (by have := HB0.out; have := hb.size; omega)⟩, hbw⟩
end Go.Proofs.YtccmchmemafjdaaGreatDoor
