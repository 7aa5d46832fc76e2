/- Chapter 54: strings.Builder (WriteString, WriteByte, String), strings.Join, names and grams; the texts of the reports. -/
import Derived.Test.YtdokpmfejibdlaaGreatDoorWw
import Derived.Test.YtdokpmfejibdlaaGreatDoorWy
import Derived.Test.YtdokpmfejibdlaaGreatDoorS5f
import Derived.Shelf.Strings.BuilderK
import Derived.Lib.BufferKept
import Derived.Lib.ItoaLen
namespace Go.Proofs
open Go.Shelf
def Tryz.lays166_ren : Go.Shelf.Ren := ⟨fun | 166 => 36 | 240 => 78 | 276 => 122 | n => n, fun | 0 => 0 | 3 => 3 | 4 => 4 | 5 => 5 | 9 => 9 | 20 => 20 | 37 => 64 | 70 => 63 | 72 => 66 | 75 => 45 | 80 => 69 | 127 => 107 | 164 => 147 | n => n, fun | n => n⟩
theorem Tryz.lays166 : Go.Proofs.Lays.n166 Tryz.prog Tryz.lays166_ren := {
  mixed := by kernel_rfl
  f166 := Tryz.func36.trans (congrArg some (by kernel_rfl))
  f240 := Tryz.func78.trans (congrArg some (by kernel_rfl))
  f276 := Tryz.func122.trans (congrArg some (by kernel_rfl))
  t0 := Tryz.underlying0
  a0 := Tryz.isAgg0
  z0 := Tryz.sizeOf0
  v0 := Tryz.zeroValue0
  t3 := Tryz.underlying3
  a3 := Tryz.isAgg3
  z3 := Tryz.sizeOf3
  v3 := Tryz.zeroValue3
  t4 := Tryz.underlying4
  a4 := Tryz.isAgg4
  z4 := Tryz.sizeOf4
  v4 := Tryz.zeroValue4
  t9 := Tryz.underlying9
  a9 := Tryz.isAgg9
  z9 := Tryz.sizeOf9
  v9 := Tryz.zeroValue9
  t20 := Tryz.underlying20
  a20 := Tryz.isAgg20
  z20 := Tryz.sizeOf20
  v20 := Tryz.zeroValue20
  t37 := Tryz.underlying64
  a37 := Tryz.isAgg64
  z37 := Tryz.sizeOf64
  v37 := Tryz.zeroValue64
  t70 := Tryz.underlying63
  a70 := Tryz.isAgg63
  z70 := Tryz.sizeOf63
  v70 := Tryz.zeroValue63
  t72 := Tryz.underlying66
  a72 := Tryz.isAgg66
  z72 := Tryz.sizeOf66
  v72 := Tryz.zeroValue66
  t75 := Tryz.underlying45
  a75 := Tryz.isAgg45
  z75 := Tryz.sizeOf45
  v75 := Tryz.zeroValue45
  t164 := Tryz.underlying147
  a164 := Tryz.isAgg147
  z164 := Tryz.sizeOf147
  v164 := Tryz.zeroValue147
  }
theorem Tryz.lays167_ok : Go.Proofs.Lays.n167 Tryz.prog ⟨fun | 167 => 35 | 240 => 78 | 276 => 122 | n => n, Tryz.lays166_ren.t, fun | n => n⟩ := {
  mixed := by kernel_rfl
  f167 := Tryz.func35.trans (congrArg some (by kernel_rfl))
  f240 := Tryz.func78.trans (congrArg some (by kernel_rfl))
  f276 := Tryz.func122.trans (congrArg some (by kernel_rfl))
  t0 := Tryz.underlying0
  a0 := Tryz.isAgg0
  z0 := Tryz.sizeOf0
  v0 := Tryz.zeroValue0
  t4 := Tryz.underlying4
  a4 := Tryz.isAgg4
  z4 := Tryz.sizeOf4
  v4 := Tryz.zeroValue4
  t5 := Tryz.underlying5
  a5 := Tryz.isAgg5
  z5 := Tryz.sizeOf5
  v5 := Tryz.zeroValue5
  t9 := Tryz.underlying9
  a9 := Tryz.isAgg9
  z9 := Tryz.sizeOf9
  v9 := Tryz.zeroValue9
  t20 := Tryz.underlying20
  a20 := Tryz.isAgg20
  z20 := Tryz.sizeOf20
  v20 := Tryz.zeroValue20
  t37 := Tryz.underlying64
  a37 := Tryz.isAgg64
  z37 := Tryz.sizeOf64
  v37 := Tryz.zeroValue64
  t70 := Tryz.underlying63
  a70 := Tryz.isAgg63
  z70 := Tryz.sizeOf63
  v70 := Tryz.zeroValue63
  t72 := Tryz.underlying66
  a72 := Tryz.isAgg66
  z72 := Tryz.sizeOf66
  v72 := Tryz.zeroValue66
  t75 := Tryz.underlying45
  a75 := Tryz.isAgg45
  z75 := Tryz.sizeOf45
  v75 := Tryz.zeroValue45
  t164 := Tryz.underlying147
  a164 := Tryz.isAgg147
  z164 := Tryz.sizeOf147
  v164 := Tryz.zeroValue147
  }
theorem Tryz.Builder_Extra_166 : Builder.Extra Tryz.prog Tryz.lays166_ren := {
  sizeBuilder := by kernel_rfl
  liesBuilder := by kernel_rfl
  t5 := Tryz.underlying5
  a5 := Tryz.isAgg5
  z5 := Tryz.sizeOf5
  v5 := Tryz.zeroValue5
  infoByte := by kernel_rfl
  cellsByte := by kernel_rfl
  sizeByte := by kernel_rfl
  neB5 := by decide }
theorem Tryz.Builder_Extra_167 : Builder.Extra Tryz.prog ⟨fun | 167 => 35 | 240 => 78 | 276 => 122 | n => n, Tryz.lays166_ren.t, fun | n => n⟩ := {
  sizeBuilder := by kernel_rfl
  liesBuilder := by kernel_rfl
  t5 := Tryz.underlying5
  a5 := Tryz.isAgg5
  z5 := Tryz.sizeOf5
  v5 := Tryz.zeroValue5
  infoByte := by kernel_rfl
  cellsByte := by kernel_rfl
  sizeByte := by kernel_rfl
  neB5 := by decide }
end Go.Proofs
set_option linter.unusedSimpArgs false
set_option linter.unusedVariables false
namespace Go.Proofs.YtdokpmfejibdlaaGreatDoor
open Go.RowKit

theorem atF_below {T e : TypeId} {B b : Nat} {p : Value} {bs : List Value} {w w' : World} (h : Lib.BuilderAtF T e B b p bs w) (hb : Below w.heap.size w w') : Lib.BuilderAtF T e B b p bs w' := by
  have hlt := h.lt
  obtain ⟨hB, v, hbk, hown, hne⟩ := h
  refine ⟨hB, v, (hb.block b hlt).trans hbk, ⟨hown.1, ?_⟩, hne⟩
  rcases hown.2 with hn | ⟨g, cap, cur, fz, hv, hbg, hg, rest⟩
  · exact .inl hn
  · exact .inr ⟨g, cap, cur, fz, hv, hbg, (hb.block g (Array.getElem?_eq_some_iff.1 hg).1).trans hg, rest⟩
theorem isF_below {T e : TypeId} {B b : Nat} {bs : List Value} {w w' : World} (h : Lib.IsBuilderF T e B b bs w) (hb : Below w.heap.size w w') : Lib.IsBuilderF T e B b bs w' :=
  h.elim (fun x => .inl (atF_below x hb)) (fun x => .inr (atF_below x hb))
theorem fresh_F (w : World) : Lib.IsBuilderF 66 5 w.heap.size w.heap.size (Lib.byteCells []) (w.alloc (.cells #[.pointer none, .slice none 0 0] 66)) := .of (Lib.fresh_isBuilder _ _ _)
/-- A report under way: its builder is block b, laid in world w0; it holds l. -/
structure Rep (w0 w : World) (b : Nat) (l : List UInt8) : Prop where
  bld : Lib.IsBuilderF 66 5 b b (Lib.byteCells l) w
  bl : Below b w0 w
  eq : b = w0.heap.size
  lt : b < w.heap.size
theorem Rep.start (w : World) : Rep w (w.alloc (.cells #[.pointer none, .slice none 0 0] 66)) w.heap.size [] := ⟨fresh_F w, one_alloc _ _, rfl, by simp⟩
theorem Rep.up {w0 w w' : World} {b : Nat} {l : List UInt8} (h : Rep w0 w b l) (hb : Below w.heap.size w w') : Rep w0 w' b l :=
  ⟨isF_below h.bld hb, h.bl.trans (hb.mono (Nat.le_of_lt h.lt)), h.eq, Nat.lt_of_lt_of_le h.lt hb.size⟩
theorem Rep.base {w0 w : World} {b : Nat} {l : List UInt8} (h : Rep w0 w b l) : Below w0.heap.size w0 w := by have := h.bl; rw [h.eq] at this; exact this
theorem Rep.wstr {w0 w : World} {b : Nat} {l : List UInt8} (h : Rep w0 w b l) (s : List UInt8) (hlen : l.length + s.length ≤ 100000000) :
    Calls Tryz.prog 36 #[.pointer (some ⟨b, 0, none⟩), .string ⟨s.toArray⟩] w fun e w' => e = .returned (.tuple #[.int .i64 s.length, .nilIface]) ∧ Rep w0 w' b (l ++ s) ∧ Lib.OthersKept 5 (some b) w w' :=
  (Any.Builder_WriteString_k Tryz.lays166 Tryz.Builder_Extra_166 b b (Lib.byteCells l) ⟨s.toArray⟩ w h.bld (by rw [Lib.byteCells_length]; simp only [ByteArray.size, List.size_toArray]; omega) (Nat.le_of_lt h.lt)).mono fun e w' ⟨he, h1, h2, h3⟩ =>
    ⟨he, ⟨.inr (by rw [Lib.byteCells_append]; exact h1), h.bl.trans h2, h.eq, Nat.lt_of_lt_of_le h.lt h2.size⟩, h3⟩
theorem Rep.wbyte {w0 w : World} {b : Nat} {l : List UInt8} (h : Rep w0 w b l) (c : UInt8) (hlen : l.length ≤ 100000000) :
    Calls Tryz.prog 35 #[.pointer (some ⟨b, 0, none⟩), .int .u8 (c.toNat : Int)] w fun e w' => e = .returned .nilIface ∧ Rep w0 w' b (l ++ [c]) ∧ Lib.OthersKept 5 (some b) w w' :=
  (Any.Builder_WriteByte_k Tryz.lays167_ok Tryz.Builder_Extra_167 b b (Lib.byteCells l) (c.toNat : Int) w h.bld (by rw [Lib.byteCells_length]; omega) (Nat.le_of_lt h.lt)).mono fun e w' ⟨he, h1, h2, h3⟩ =>
    ⟨he, ⟨.inr (by rw [Lib.byteCells_append]; exact h1), h.bl.trans h2, h.eq, Nat.lt_of_lt_of_le h.lt h2.size⟩, h3⟩
theorem Rep.fin {w0 w : World} {b : Nat} {l : List UInt8} (h : Rep w0 w b l) :
    Calls Tryz.prog 38 #[.pointer (some ⟨b, 0, none⟩)] w fun e w' => e = .returned (.string ⟨l.toArray⟩) ∧ Below w0.heap.size w0 w' :=
  (Tryz.Builder_String_any_k b b l w h.bld (Nat.le_of_lt h.lt)).mono fun e w' ⟨he, _, h2, _⟩ => ⟨he, by have h3 := h.bl.trans h2; rw [h.eq] at h3; exact h3⟩
/-- Rows that are not of bytes stand while a builder is written. -/
theorem own_others {w w' : World} {base b sz n : Nat} {e : TypeId} {v : Value} {xs : List Value} (h : w.ownsRow base e sz v n xs) (he : e ≠ 5) (hne : e ≠ 66) (hb : ∃ c f, w.heap[b]? = some (.cells c 66 f)) (hk : Lib.OthersKept 5 (some b) w w') : w'.ownsRow base e sz v n xs := by
  refine ⟨h.1, ?_⟩
  rcases h.2 with h0 | ⟨g, cap, cur, hv, hbg, hg, rest⟩
  · exact .inl h0
  · refine .inr ⟨g, cap, cur, hv, hbg, hk g _ hg (fun e0 => ?_) (fun c fz e0 => by injection e0 with _ h2 _; exact he h2), rest⟩
    injection e0 with e0
    obtain ⟨c, f, hc⟩ := hb
    rw [e0, hc] at hg
    injection hg with hg
    injection hg with _ h2 _
    exact hne h2.symm
theorem Rep.cells {w0 w : World} {b : Nat} {l : List UInt8} (h : Rep w0 w b l) : ∃ c f, w.heap[b]? = some (.cells c 66 f) := by
  rcases h.bld with h1 | h1
  · obtain ⟨_, v, hbk, _⟩ := h1; exact ⟨_, _, hbk⟩
  · obtain ⟨_, v, hbk, _⟩ := h1; exact ⟨_, _, hbk⟩
theorem RoR.others {α : Type} {w w' : World} {base b : Nat} {eo e : TypeId} {sz : Nat} {enc : α → List Value} {v : Value} {vs : List Value} {css : List (List α)} (h : RoR w base eo e sz enc v vs css) (h1 : eo ≠ 5) (h2 : eo ≠ 66) (h3 : e ≠ 5) (h4 : e ≠ 66)
    (hb : ∃ c f, w.heap[b]? = some (.cells c 66 f)) (hk : Lib.OthersKept 5 (some b) w w') : RoR w' base eo e sz enc v vs css :=
  ⟨h.len, own_others h.out h1 h2 hb hk, fun k u cs hu hc => own_others (h.row k u cs hu hc) h3 h4 hb hk, h.apart⟩
/-! ### Join. -/
def joinL (sep : List UInt8) : List (List UInt8) → List UInt8
  | [] => []
  | [x] => x
  | x :: y :: r => x ++ sep ++ joinL sep (y :: r)
theorem join_eq (sep : List UInt8) : ∀ ss, Lib.join ss sep = joinL sep ss
  | [] => by simp [Lib.join, joinL]
  | [x] => by simp [Lib.join, joinL, List.intercalate]
  | x :: y :: r => by
    have ih := join_eq sep (y :: r)
    unfold Lib.join List.intercalate at *
    rw [joinL, ← ih]
    simp
theorem joinL_len {sep : List UInt8} {m : Nat} : ∀ {ss : List (List UInt8)}, (∀ s ∈ ss, s.length ≤ m) → (joinL sep ss).length ≤ ss.length * (m + sep.length)
  | [], _ => by simp [joinL]
  | [x], h => by
    have := h x (by simp)
    simp only [joinL, List.length_cons, List.length_nil]
    omega
  | x :: y :: r, h => by
    have h1 := h x (by simp)
    have ih := joinL_len (sep := sep) (ss := y :: r) (fun s hs => h s (by simp [hs]))
    rw [joinL, List.length_append, List.length_append, List.length_cons (a := x), Nat.succ_mul]
    omega
def encT (s : List UInt8) : List Value := [.string ⟨s.toArray⟩]
theorem encT_one (s : List UInt8) : ∀ v ∈ encT s, v.oneCell' = true := by
  intro v hv
  simp only [encT, List.mem_cons, List.not_mem_nil, or_false] at hv
  subst hv; rfl
theorem join_any (A : Option Addr) (n c : Nat) (ss : List (List UInt8)) (sep : List UInt8) (w : World) (base : Nat) (hown : w.ownsRow base 9 1 (.slice A n c) n (ss.flatMap encT)) (hl : ss.length = n) (hlen : (joinL sep ss).length ≤ 100000000) (hn : n ≤ 1000000) :
    Calls Tryz.prog 51 #[.slice A n c, .string ⟨sep.toArray⟩] w fun e w' => e = .returned (.string ⟨(joinL sep ss).toArray⟩) ∧ Below w.heap.size w w' := by
  have hnc : n ≤ c := by obtain ⟨_, _, h1, h2⟩ := own_form hown; injection h1 with _ _ h1; omega
  have hSl := Sl.of_own (k := 1) (enc := encT) (fun _ => rfl) hown hl
  rcases Nat.eq_zero_or_pos n with h0 | h0
  · subst h0
    obtain rfl : ss = [] := List.length_eq_zero_iff.1 hl
    exact (Tryz.strings_Join_none A c _ w).mono fun e w' ⟨h1, h2⟩ => ⟨h1, by rw [h2]; exact Below.refl _ _⟩
  · obtain ⟨g, off, ha, hb, hg, hc⟩ := hSl.2 h0
    subst ha
    have := Tryz.strings_Join g off c (ss.map fun s => ⟨s.toArray⟩) ⟨sep.toArray⟩ w (fun j x hx => by
      rw [List.getElem?_map] at hx
      cases hs : ss[j]? with
      | none => rw [hs] at hx; cases hx
      | some s =>
        rw [hs] at hx
        injection hx with hx
        subst hx
        have := hc j s hs 0 _ rfl
        simpa using this) hg (by rw [List.length_map]; omega) (by rw [List.length_map]; omega)
    have hj : Lib.join ((ss.map fun s => (⟨s.toArray⟩ : ByteArray)).map (·.data.toList)) sep = joinL sep ss := by
      rw [List.map_map, ← join_eq]
      congr 1
      conv => rhs; rw [← List.map_id ss]
      exact List.map_congr_left fun s _ => by simp
    simp only [List.toList_toArray] at this
    rw [hj, List.length_map, hl] at this
    exact this (by omega)
/-! ### Names, grams. -/
def nameL (side num : Int) : List UInt8 := labS ⟨side, num, 0⟩
theorem nameL_len (side num : Int) : (nameL side num).length ≤ 5 := labS_len _
set_option maxHeartbeats 1000000 in
theorem name_any (side num : Int) (w : World) (hE : Env w) : Calls Tryz.prog 44 #[.int .i64 side, .int .i64 num] w fun e w' => e = .returned (.string ⟨(nameL side num).toArray⟩) ∧ Below w.heap.size w w' := by
  have HC := Lib.hid (ltext_any ⟨side, num, 0⟩ w hE)
  go_enter Tryz.func44, Tryz.ntmps44
  go_wp2_with fail
  go_fit HC.out
  rintro e w1 ⟨rfl, hb⟩
  go_wp2_with fail
  go_ret
  exact ⟨rfl, hb⟩
def gramsL (n : Int) : List UInt8 := Lib.itoa (n / 1000) ++ [46] ++ List.replicate (3 - (Lib.itoa (n % 1000)).length) 48 ++ Lib.itoa (n % 1000)
theorem itoa3' (n : Int) (h1 : 0 ≤ n) (h2 : n ≤ 999) : 1 ≤ (Lib.itoa n).length ∧ (Lib.itoa n).length ≤ 3 := by
  rw [itoa_nat _ h1]
  exact ⟨by rw [Lib.decDigits_length]; exact Lib.nDigits_pos _, decDigits_le 2 _ (by omega)⟩
theorem itoa21 (n : Int) (h1 : 0 ≤ n) (h2 : n ≤ 100000000) : (Lib.itoa n).length ≤ 21 := Lib.itoa_length_le n (by omega) (by omega)
theorem repeatL_one (c : UInt8) : ∀ k, Lib.repeatL [c] k = List.replicate k c
  | 0 => rfl
  | k + 1 => by rw [Lib.repeatL, repeatL_one c k, List.replicate_succ]; rfl
theorem gramsL_len (n : Int) (h1 : 0 ≤ n) (h2 : n ≤ 100000000) : (gramsL n).length ≤ 26 := by
  obtain ⟨h3, h4⟩ := itoa3' (n % 1000) (by omega) (by omega)
  have h5 := itoa21 (n / 1000) (by omega) (by omega)
  unfold gramsL
  simp only [List.length_append, List.length_replicate, List.length_cons, List.length_nil]
  omega
set_option maxHeartbeats 1000000 in
theorem grams_any (n : Int) (w : World) (hE : Env w) (h1 : 0 ≤ n) (h2 : n ≤ 100000000) : Calls Tryz.prog 58 #[.int .i64 n] w fun e w' => e = .returned (.string ⟨(gramsL n).toArray⟩) ∧ Below w.heap.size w w' := by
  obtain ⟨h3, h4⟩ := itoa3' (n % 1000) (by omega) (by omega)
  have h5 := itoa21 (n / 1000) (by omega) (by omega)
  have HI : Hid (∀ x W, 0 ≤ x → x ≤ 100000000 → Below w.heap.size w W → Calls Tryz.prog 37 #[.int .i64 x] W fun e w' => e = .returned (.string ⟨(Lib.itoa x).toArray⟩) ∧ Below W.heap.size W w') := fun x W g1 g2 hW => itoa_any x W (by omega) (by omega) (hE.step hW)
  have HG : Hid (gramsL n = Lib.itoa (n / 1000) ++ [46] ++ List.replicate (3 - (Lib.itoa (n % 1000)).length) 48 ++ Lib.itoa (n % 1000)) := rfl
  have hw1 : IntKind.i64.wrap (n.tmod 1000) = n % 1000 := by rw [Int.tmod_eq_emod_of_nonneg h1, IntKind.wrap_i64]; omega
  have hw2 : IntKind.i64.wrap (n.tdiv 1000) = n / 1000 := by rw [Int.tdiv_eq_ediv_of_nonneg h1, IntKind.wrap_i64]; omega
  have hw3 : n.tmod 1000 = n % 1000 := Int.tmod_eq_emod_of_nonneg h1
  have hw4 : n.tdiv 1000 = n / 1000 := Int.tdiv_eq_ediv_of_nonneg h1
  go_enter Tryz.func58, Tryz.ntmps58
  go_wp2_with fail
  refine (HI.out _ _ (by omega) (by omega) (Below.refl _ _)).mono ?_; rintro e w1 ⟨rfl, hb1⟩
  go_wp2_with fail
  refine (HI.out _ _ (by omega) (by omega) hb1).mono ?_; rintro e w2 ⟨rfl, hb2⟩
  replace hb2 := below_keep' hb1 hb2
  have hsz : (ByteArray.mk (Lib.itoa (n % 1000)).toArray).size = (Lib.itoa (n % 1000)).length := by simp [ByteArray.size]
  have ha1 := add_lists (P := Tryz.prog) (Lib.itoa (n / 1000)) [46] (by simp; omega)
  generalize hs : Lib.itoa (n % 1000) = s at *
  generalize Lib.itoa (n / 1000) = q at *
  have HR := Tryz.strings_Repeat ⟨#[48]⟩ (3 - s.length) w2 (by omega) (by simp [ByteArray.size]; omega)
  rw [show (((3 - s.length : Nat)) : Int) = 3 - (s.length : Int) from by omega, show (ByteArray.mk #[48]).data.toList = [48] from rfl, repeatL_one] at HR
  have ha2 := add_lists (P := Tryz.prog) (q ++ [46]) (List.replicate (3 - s.length) 48) (by simp; omega)
  have ha3 := add_lists (P := Tryz.prog) (q ++ [46] ++ List.replicate (3 - s.length) 48) s (by simp; omega)
  have hrl : (List.replicate (3 - s.length) (48 : UInt8)).length ≤ 3 := by simp
  generalize List.replicate (3 - s.length) (48 : UInt8) = z at *
  simp only [List.append_assoc, List.cons_append, List.nil_append] at ha2 ha3
  have HRR := Lib.hid HR; clear HR
  go_wp2_with fail
  refine HRR.out.mono ?_; rintro e w3 ⟨rfl, hb3⟩
  go_wp2_with fail
  go_ret
  exact ⟨by rw [HG.out]; simp, below_keep' hb2 hb3⟩
/-! ### The texts of the reports. -/
theorem flatR_len {m : Nat} (f : Nat → List UInt8) : ∀ j : Nat, (∀ i, i < j → (f i).length ≤ m) → ((List.range j).flatMap f).length ≤ j * m
  | 0, _ => by simp
  | j + 1, h => by
    have ih := flatR_len f j (fun i hi => h i (by omega))
    have := h j (by omega)
    rw [List.range_succ, List.flatMap_append, List.length_append, Nat.succ_mul]
    simp only [List.flatMap_cons, List.flatMap_nil, List.append_nil]
    omega
theorem flatR_succ (f : Nat → List UInt8) (j : Nat) : (List.range (j + 1)).flatMap f = (List.range j).flatMap f ++ f j := by
  rw [List.range_succ, List.flatMap_append]; simp
theorem flatL_len {α : Type} {m : Nat} {f : α → List UInt8} : ∀ {l : List α}, (∀ x ∈ l, (f x).length ≤ m) → (l.flatMap f).length ≤ l.length * m
  | [], _ => by simp
  | x :: l, h => by
    have ih := flatL_len (f := f) (l := l) (fun y hy => h y (by simp [hy]))
    have := h x (by simp)
    rw [List.flatMap_cons, List.length_append, List.length_cons, Nat.succ_mul]
    omega
theorem flatT_snoc {α : Type} {f : α → List UInt8} {l : List α} {q : Nat} {x : α} (h : l[q]? = some x) : (l.take (q + 1)).flatMap f = (l.take q).flatMap f ++ f x := by
  rw [takeSnocW h, List.flatMap_append]; simp
def dieT (d : DieP) : List UInt8 := 32 :: nameL d.side d.num
def numT (n : Int) : List UInt8 := 32 :: Lib.itoa n
/-- Chains. -/
def chainT54 (css : List (List DieP)) (i : Nat) : List UInt8 := Lib.itoa ((i : Int) + 1) ++ [58] ++ (css.getD i []).flatMap dieT ++ [10]
def chainsL (css : List (List DieP)) : List UInt8 := (List.range css.length).flatMap (chainT54 css)
/-- The matrix. -/
def mrowT (g : Gr) (i : Nat) : List UInt8 := nameL 0 (g.obv.getD i 0) ++ ((matrixG g).getD i []).flatMap numT ++ [10]
def matrixL (g : Gr) : List UInt8 := [45] ++ g.rev.flatMap (fun r => 32 :: nameL 1 r) ++ [10] ++ (List.range g.obv.length).flatMap (mrowT g)
/-- Hours. -/
def hourT54 (xs : List Int) (i : Nat) : List UInt8 := if 0 < xs.countP (fun x => x == (((i + 1) % 12 : Nat) : Int)) then Lib.itoa ((i : Int) + 1) ++ [104, 32] ++ Lib.itoa (xs.countP (fun x => x == (((i + 1) % 12 : Nat) : Int)) : Nat) ++ [10] else []
def hoursL (xs : List Int) : List UInt8 := (List.range 12).flatMap (hourT54 xs)
/-- Classes of weights. -/
def classT (low step : Int) (n : Nat) (i : Nat) : List UInt8 := if i = 0 then [98, 101, 108, 111, 119] else if i = n - 1 then [97, 98, 111, 118, 101] else gramsL (low + ((i : Int) - 1) * step) ++ [45] ++ gramsL (low + (i : Int) * step - 1)
def wlineT (t : List Int) (low step : Int) (i : Nat) : List UInt8 := classT low step t.length i ++ [32] ++ Lib.itoa (t.getD i 0) ++ [10]
def weightsL (t : List Int) (low step : Int) : List UInt8 := (List.range t.length).flatMap (wlineT t low step)
/-- Dies. -/
def letterT (s : Int) : List UInt8 := [UInt8.ofNat (96 + s).toNat]
def dlineT (xs : List Spm) (g : Gr) (side n : Int) : List UInt8 :=
  nameL side n ++ [58, 32] ++ Lib.itoa (degG g ⟨side, n⟩ : Nat) ++ [32] ++ (if degG g ⟨side, n⟩ = 1 then [115, 112, 101, 99, 105, 109, 101, 110] else [115, 112, 101, 99, 105, 109, 101, 110, 115]) ++ [59, 32, 115, 116, 97, 116, 101, 115, 32] ++
    joinL [44, 32] ((statesS xs ⟨side, n⟩).map letterT) ++ [59, 32, 119, 105, 116, 104, 32] ++ joinL [44, 32] ((partnersG g ⟨side, n⟩).map (nameL (1 - side))) ++ [10]
def diesL (xs : List Spm) (g : Gr) (side : Int) : List UInt8 := (if side = 0 then g.obv else g.rev).flatMap (dlineT xs g side)
/-- The summary. -/
def sumW : List (List UInt8) := [[115, 112, 101, 99, 105, 109, 101, 110, 115], [111, 98, 118, 101, 114, 115, 101, 115], [114, 101, 118, 101, 114, 115, 101, 115], [112, 97, 105, 114, 115], [99, 104, 97, 105, 110, 115], [108, 111, 111, 112, 115]]
def sumT (ns : List Int) (i : Nat) : List UInt8 := (if 0 < i then [32] else []) ++ (sumW.getD i [] ++ [32] ++ Lib.itoa (ns.getD i 0))
def sumL (ns : List Int) : List UInt8 := (List.range 6).flatMap (sumT ns) ++ [10]
end Go.Proofs.YtdokpmfejibdlaaGreatDoor
