/- Export: the program's. -/
import Derived.Test.YtnaoagkelbjflaaGreatDoorSw
import Derived.Test.YtnaoagkelbjflaaGreatDoorSkt
import Derived.Shelf.Strings.BuilderK
import Derived.Lib.BufferKept
set_option linter.unusedSimpArgs false
set_option linter.unusedVariables false
namespace Go.Proofs.YtnaoagkelbjflaaGreatDoor
open Go.RowKit

theorem atF_below {T e : TypeId} {B b : Nat} {p : Value} {bs : List Value} {w w' : World} (h : Lib.BuilderAtF T e B b p bs w) (hb : Below w.heap.size w w') : Lib.BuilderAtF T e B b p bs w' := by
  have hlt := h.lt
  obtain ⟨hB, v, hbk, hown, hne⟩ := h
  refine ⟨hB, v, (hb.block b hlt).trans hbk, ⟨hown.1, ?_⟩, hne⟩
  rcases hown.2 with hn | ⟨g, cap, cur, fz, hv, hbg, hg, rest⟩
  · exact .inl hn
  · exact .inr ⟨g, cap, cur, fz, hv, hbg, (hb.block g (Array.getElem?_eq_some_iff.1 hg).1).trans hg, rest⟩
theorem isF_below {T e : TypeId} {B b : Nat} {bs : List Value} {w w' : World} (h : Lib.IsBuilderF T e B b bs w) (hb : Below w.heap.size w w') : Lib.IsBuilderF T e B b bs w' :=
  h.elim (fun x => .inl (atF_below x hb)) (fun x => .inr (atF_below x hb))
theorem sl_others {w w' : World} {L B n b : Nat} {A : Option Addr} {xs : List Spm} (h : Sl w L B 7 encS A n xs) (ht : TypedS w A n) (hk : Lib.OthersKept 5 (some b) w w') (hL : b < L) : Sl w' L B 7 encS A n xs :=
  ⟨h.1, fun hn => by
    obtain ⟨g, off, e, ha, hb, hc⟩ := h.2 hn
    obtain ⟨cs, f, hg⟩ := ht g off hn e
    have hg' := hk g _ hg (by simp; omega) (fun c fz e => by injection e with _ h2 _; revert h2; decide)
    refine ⟨g, off, e, ha, hb, fun i x hx j u hu => ?_⟩
    have := hc i x hx j u hu
    rw [Lib.cell_of_heap hg] at this
    rw [Lib.cell_of_heap hg']
    exact this⟩
theorem texts_take {zs : List Spm} {k : Nat} {x : Spm} (h : zs[k]? = some x) : texts (zs.take (k + 1)) = texts (zs.take k) ++ (textSp x ++ [10]) := by
  rw [take_snocS h, texts_append]; simp [texts]
theorem wstr_k (B b : Nat) (l s : List UInt8) (w : World) (h : Lib.IsBuilderF 71 5 B b (Lib.byteCells l) w) (hlen : l.length + s.length ≤ 100000000) (hBw : B ≤ w.heap.size) :
    Calls Tryz.prog 57 #[.pointer (some ⟨b, 0, none⟩), .string ⟨s.toArray⟩] w fun e w' => e = .returned (.tuple #[.int .i64 s.length, .nilIface]) ∧ Lib.IsBuilderF 71 5 B b (Lib.byteCells (l ++ s)) w' ∧ Below B w w' ∧ Lib.OthersKept 5 (some b) w w' :=
  (Any.Builder_WriteString_k (L := { Tryz.lays154 with }) Tryz.Builder_Extra_154 B b (Lib.byteCells l) ⟨s.toArray⟩ w h (by rw [Lib.byteCells_length]; simp only [ByteArray.size, List.size_toArray]; omega) hBw).mono fun e w' ⟨he, h1, h2, h3⟩ =>
    ⟨he, .inr (by rw [Lib.byteCells_append]; exact h1), h2, h3⟩
theorem string_k (B b : Nat) (l : List UInt8) (w : World) (h : Lib.IsBuilderF 71 5 B b (Lib.byteCells l) w) (hBw : B ≤ w.heap.size) :
    Calls Tryz.prog 58 #[.pointer (some ⟨b, 0, none⟩)] w fun e w' => e = .returned (.string ⟨l.toArray⟩) ∧ Below B w w' :=
  (Tryz.Builder_String_any_k B b l w h hBw).mono fun e w' ⟨he, _, h2, _⟩ => ⟨he, h2⟩
theorem fresh_F (w : World) : Lib.IsBuilderF 71 5 w.heap.size w.heap.size (Lib.byteCells []) (w.alloc (.cells #[.pointer none, .slice none 0 0] 71)) := .of (Lib.fresh_isBuilder _ _ _)

theorem ofs_alloc {e : TypeId} {b : Option Nat} {w w1 w2 : World} (h : Lib.OthersKept e b w w1) (hb : Below w1.heap.size w1 w2) : Lib.OthersKept e b w w2 := h.below hb
set_option maxRecDepth 100000 in
set_option maxHeartbeats 2000000 in
theorem sexport_any (A : Option Addr) (len cap : Nat) (xs : List Spm) (w : World) (hE : Env w) (hlen : len ≤ 1000000) (hS : Sl w 0 w.heap.size 7 encS A len xs) :
    Calls Tryz.prog 29 #[.slice A len cap] w fun e w' => e = .returned (.tuple #[.string ⟨(expL xs).toArray⟩, .int .i64 (chk xs)]) ∧ Below w.heap.size w w' := by
  have HS := Lib.hid hS; clear hS
  go_enter Tryz.func29, Tryz.ntmps29
  go_wp2_with fail
  refine (scheck_any A len cap xs _ hlen HS.out).mono ?_; rintro e w1 ⟨rfl, hb⟩
  by_cases ha : ¬ chk xs = 0
  · have hd : (chk xs != 0) = true := by simpa using ha
    have HL : Hid (expL xs = []) := by show _ = _; unfold expL; rw [if_neg ha]
    obtain ⟨c, HC⟩ : ∃ c, Hid (chk xs = c) := ⟨chk xs, rfl⟩
    rw [HC.out] at hd ⊢
    clear ha
    go_wp2_with fail
    go_ret2
    exact ⟨by rw [HL.out, HC.out]; rfl, hb⟩
  replace ha := Classical.not_not.1 ha
  have hd : (chk xs != 0) = false := by simpa using ha
  have HA := Lib.hid ha
  have HN : Hid ((idsOf xs).Nodup) := ((chk_zero xs).1 ha).2.2
  have HV : Hid (∀ x ∈ xs, validS x = true) := ((chk_zero xs).1 ha).2.1
  have HL : Hid (expL xs = texts (sortS xs)) := by show _ = _; unfold expL; rw [if_pos ha]
  have hl64 : xs.length ≤ 64 := chk_len ha
  rw [ha]
  clear ha hd
  have HL2 : Hid (xs.length = len) := HS.out.len
  have hl2 : len ≤ 64 := by have := HL2.out; omega
  have HSU : Hid (∀ W, Below w1.heap.size w1 W → Sl W 0 W.heap.size 7 encS A len xs) := fun W hW => HS.out.up (hb.trans (hW.mono hb.size)) (Nat.le_refl _) (Nat.le_refl _)
  have hF0 := fresh_F w1
  have HF0 := Lib.hid hF0; clear hF0
  go_wp2_with fail
  refine (sorted_any A len cap xs _ hlen HN.out (HSU.out _ (one_alloc _ _))).mono ?_
  rintro e w2 ⟨A2, c2, rfl, hS2, hb2, hty⟩
  have hF2 := isF_below HF0.out hb2
  obtain ⟨hb21, _⟩ := step1 hb hb2
  have hB2 : w1.heap.size < w2.heap.size := by have := hb2.size; simp at this; omega
  have HSO : Hid (∀ W, Lib.OthersKept 5 (some w1.heap.size) w2 W → Sl W 0 w2.heap.size 7 encS A2 len (sortS xs)) := fun W hW => (sl_others hS2 hty hW (by simp)).any
  have HSL : Hid ((sortS xs).length = len) := by show _ = _; rw [sortS_len, HL2.out]
  have HSV : Hid (∀ x ∈ sortS xs, validS x = true) := fun x hx => HV.out x ((sortS_mem xs x).1 hx)
  have HTL : Hid (∀ k, k ≤ 64 → (texts ((sortS xs).take k)).length ≤ 41 * k) := fun k hk => by
    have h1 := texts_len ((sortS xs).take k) (fun x hx => HSV.out x (List.mem_of_mem_take hx))
    have h2 := List.length_take_le k (sortS xs)
    exact Nat.le_trans h1 (Nat.mul_le_mul_left _ h2)
  generalize sortS xs = zs at *
  clear hS2 hty hb2
  have HF2 := Lib.hid hF2; clear hF2
  have HB21 := Lib.hid hb21; clear hb21
  go_wp2_with fail
  go_loopw [16] (fun i wr => ∃ k : Nat, k ≤ len ∧ i = .int .i64 (k : Int) ∧ Lib.IsBuilderF 71 5 w1.heap.size w1.heap.size (Lib.byteCells (texts (zs.take k))) wr ∧ Below w1.heap.size w1 wr ∧ w2.heap.size ≤ wr.heap.size ∧ Lib.OthersKept 5 (some w1.heap.size) w2 wr) (fun i _ => len - (intOf i).toNat)
  case atStart => exact ⟨0, by omega, rfl, HF2.out, HB21.out, Nat.le_refl _, Lib.OthersKept.refl _ _ _⟩
  case round =>
    obtain ⟨k, hk, rfl, hF, hbr, hzr, hok⟩ := hrel
    by_cases hlt : k < len
    · obtain ⟨b, off, x, rfl, hbb, hx, c0, c1, c2, c3, c4, c5, c6⟩ := (HSO.out _ hok).sp hlt
      have hbz : b < wr.heap.size := by omega
      have hxl := parseSp_len (parseSp_text x (HSV.out x (List.mem_of_getElem? hx)))
      have hadd : ∀ W, (Op.stringOp .add ⟨(textSp x).toArray⟩ ⟨#[10]⟩).run Tryz.prog W = .ok (.string ⟨(textSp x ++ [10]).toArray⟩) W := add_lists (textSp x) [10] (by simp; omega)
      have HT := Lib.hid (texts_take hx); clear hx
      have htl := HTL.out k (by omega)
      have HBW : Hid (Below w.heap.size w wr) := hb.trans (hbr.mono hb.size)
      have HE2 : Hid (∀ W, Below wr.heap.size wr W → Env W) := fun W hW => hE.step (HBW.out.trans (hW.mono HBW.out.size))
      have HF := Lib.hid hF; clear hF
      have HOK := Lib.hid hok; clear hok
      go_wp2_with fail
      refine (stext_any x _ (HE2.out _ (one_alloc _ _))).mono ?_; rintro e w4 ⟨rfl, hb4⟩
      obtain ⟨h14, _⟩ := step1 hbr hb4
      have hF4 := isF_below HF.out h14
      have hok4 := HOK.out.below h14
      have hb14 := hbr.trans (h14.mono hbr.size)
      have hz4 := h14.size
      have hB4 : w1.heap.size ≤ w4.heap.size := by omega
      clear hb4 h14
      go_wp2_with fail
      refine (wstr_k w1.heap.size w1.heap.size _ (textSp x ++ [10]) w4 hF4 (by simp; omega) hB4).mono ?_
      rintro e w5 ⟨rfl, hF5, hb5, hok5⟩
      rw [← HT.out] at hF5
      have hz5 := hb5.size
      go_wp2_with fail
      go_roundw
      case rel => exact ⟨k + 1, by omega, by go_num, hF5, hb14.trans hb5, by omega, hok4.trans hok5⟩
      case measure => simp [intOf]; omega
    · obtain rfl : k = len := by omega
      have HT : Hid (zs.take k = zs) := List.take_of_length_le (by have := HSL.out; omega)
      rw [HT.out] at hF
      go_wp2_with fail
      refine (string_k w1.heap.size w1.heap.size _ wr hF (by omega)).mono ?_
      rintro e w6 ⟨rfl, hb6⟩
      go_wp2_with fail
      go_ret2
      exact ⟨by rw [HL.out, HA.out]; rfl, hb.trans ((hbr.trans hb6).mono hb.size)⟩
end Go.Proofs.YtnaoagkelbjflaaGreatDoor
