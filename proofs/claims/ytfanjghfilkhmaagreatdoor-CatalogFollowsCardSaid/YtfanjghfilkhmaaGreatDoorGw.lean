/- Text: the program's (chapter 47). -/
import Derived.Test.YtfanjghfilkhmaaGreatDoorShelf
import Derived.Shelf.Strings.BuilderK
import Derived.Test.YtfanjghfilkhmaaGreatDoorGv
import Derived.Test.YtfanjghfilkhmaaGreatDoorGk
import Derived.Test.YtfanjghfilkhmaaGreatDoorGr
import Derived.Lib.BufferKept
import Derived.Deep.RegionWith
namespace Go.Proofs
open Go.Shelf
def Tryz.lays166_ren : Go.Shelf.Ren := ⟨fun | 166 => 54 | 240 => 73 | 276 => 97 | n => n, fun | 0 => 0 | 3 => 3 | 4 => 4 | 5 => 5 | 9 => 9 | 20 => 20 | 37 => 62 | 70 => 61 | 72 => 64 | 75 => 72 | 80 => 76 | 127 => 96 | 164 => 117 | n => n, fun | n => n⟩
theorem Tryz.lays166 : Go.Proofs.Lays.n166 Tryz.prog Tryz.lays166_ren := {
  mixed := by kernel_rfl
  f166 := Tryz.func54.trans (congrArg some (by kernel_rfl))
  f240 := Tryz.func73.trans (congrArg some (by kernel_rfl))
  f276 := Tryz.func97.trans (congrArg some (by kernel_rfl))
  t0 := Tryz.underlying0
  a0 := Tryz.isAgg0
  z0 := Tryz.sizeOf0
  v0 := Tryz.zeroValue0
  t3 := Tryz.underlying3
  a3 := Tryz.isAgg3
  z3 := Tryz.sizeOf3
  v3 := Tryz.zeroValue3
  t4 := Tryz.underlying4
  a4 := Tryz.isAgg4
  z4 := Tryz.sizeOf4
  v4 := Tryz.zeroValue4
  t9 := Tryz.underlying9
  a9 := Tryz.isAgg9
  z9 := Tryz.sizeOf9
  v9 := Tryz.zeroValue9
  t20 := Tryz.underlying20
  a20 := Tryz.isAgg20
  z20 := Tryz.sizeOf20
  v20 := Tryz.zeroValue20
  t37 := Tryz.underlying62
  a37 := Tryz.isAgg62
  z37 := Tryz.sizeOf62
  v37 := Tryz.zeroValue62
  t70 := Tryz.underlying61
  a70 := Tryz.isAgg61
  z70 := Tryz.sizeOf61
  v70 := Tryz.zeroValue61
  t72 := Tryz.underlying64
  a72 := Tryz.isAgg64
  z72 := Tryz.sizeOf64
  v72 := Tryz.zeroValue64
  t75 := Tryz.underlying72
  a75 := Tryz.isAgg72
  z75 := Tryz.sizeOf72
  v75 := Tryz.zeroValue72
  t164 := Tryz.underlying117
  a164 := Tryz.isAgg117
  z164 := Tryz.sizeOf117
  v164 := Tryz.zeroValue117
  }
theorem Tryz.Builder_Extra_166 : Builder.Extra Tryz.prog Tryz.lays166_ren := {
  sizeBuilder := by kernel_rfl
  liesBuilder := by kernel_rfl
  t5 := Tryz.underlying5
  a5 := Tryz.isAgg5
  z5 := Tryz.sizeOf5
  v5 := Tryz.zeroValue5
  infoByte := by kernel_rfl
  cellsByte := by kernel_rfl
  sizeByte := by kernel_rfl
  neB5 := by decide }
end Go.Proofs
set_option linter.unusedSimpArgs false
set_option linter.unusedVariables false
namespace Go.Proofs.YtfanjghfilkhmaaGreatDoor
open Go.RowKit

theorem atF_below {T e : TypeId} {B b : Nat} {p : Value} {bs : List Value} {w w' : World} (h : Lib.BuilderAtF T e B b p bs w) (hb : Below w.heap.size w w') : Lib.BuilderAtF T e B b p bs w' := by
  have hlt := h.lt
  obtain ⟨hB, v, hbk, hown, hne⟩ := h
  refine ⟨hB, v, (hb.block b hlt).trans hbk, ⟨hown.1, ?_⟩, hne⟩
  rcases hown.2 with hn | ⟨g, cap, cur, fz, hv, hbg, hg, rest⟩
  · exact .inl hn
  · exact .inr ⟨g, cap, cur, fz, hv, hbg, (hb.block g (Array.getElem?_eq_some_iff.1 hg).1).trans hg, rest⟩
theorem isF_below {T e : TypeId} {B b : Nat} {bs : List Value} {w w' : World} (h : Lib.IsBuilderF T e B b bs w) (hb : Below w.heap.size w w') : Lib.IsBuilderF T e B b bs w' :=
  h.elim (fun x => .inl (atF_below x hb)) (fun x => .inr (atF_below x hb))
theorem sle_others {w w' : World} {L B n b : Nat} {A : Option Addr} {xs : List (Int × Int)} (h : Sl w L B 2 encE A n xs) (ht : TypedE w A n) (hk : Lib.OthersKept 5 (some b) w w') (hL : b < L) : Sl w' L B 2 encE A n xs :=
  ⟨h.1, fun hn => by
    obtain ⟨g, off, e, ha, hb, hc⟩ := h.2 hn
    obtain ⟨cs, f, hg⟩ := ht g off hn e
    have hg' := hk g _ hg (by simp; omega) (fun c fz e => by injection e with _ h2 _; revert h2; decide)
    refine ⟨g, off, e, ha, hb, fun i x hx j u hu => ?_⟩
    have := hc i x hx j u hu
    rw [Lib.cell_of_heap hg] at this
    rw [Lib.cell_of_heap hg']
    exact this⟩
theorem wstr_k (B b : Nat) (l s : List UInt8) (w : World) (h : Lib.IsBuilderF 64 5 B b (Lib.byteCells l) w) (hlen : l.length + s.length ≤ 100000000) (hBw : B ≤ w.heap.size) :
    Calls Tryz.prog 54 #[.pointer (some ⟨b, 0, none⟩), .string ⟨s.toArray⟩] w fun e w' => e = .returned (.tuple #[.int .i64 s.length, .nilIface]) ∧ Lib.IsBuilderF 64 5 B b (Lib.byteCells (l ++ s)) w' ∧ Below B w w' ∧ Lib.OthersKept 5 (some b) w w' :=
  (Any.Builder_WriteString_k Tryz.lays166 Tryz.Builder_Extra_166 B b (Lib.byteCells l) ⟨s.toArray⟩ w h (by rw [Lib.byteCells_length]; simp only [ByteArray.size, List.size_toArray]; omega) hBw).mono fun e w' ⟨he, h1, h2, h3⟩ =>
    ⟨he, .inr (by rw [Lib.byteCells_append]; exact h1), h2, h3⟩
theorem string_k (B b : Nat) (l : List UInt8) (w : World) (h : Lib.IsBuilderF 64 5 B b (Lib.byteCells l) w) (hBw : B ≤ w.heap.size) :
    Calls Tryz.prog 56 #[.pointer (some ⟨b, 0, none⟩)] w fun e w' => e = .returned (.string ⟨l.toArray⟩) ∧ Below B w w' :=
  (Tryz.Builder_String_any_k B b l w h hBw).mono fun e w' ⟨he, _, h2, _⟩ => ⟨he, h2⟩
theorem fresh_F (w : World) : Lib.IsBuilderF 64 5 w.heap.size w.heap.size (Lib.byteCells []) (w.alloc (.cells #[.pointer none, .slice none 0 0] 64)) := .of (Lib.fresh_isBuilder _ _ _)
/-- What the world holds while a line is made. -/
structure TSt (B bx : Nat) (x : Int × Int) (l : List UInt8) (w1 w3 V : World) : Prop where
  x0 : V.cell? ⟨bx, 0, none⟩ = some (.int .i64 x.1)
  x1 : V.cell? ⟨bx, 1, none⟩ = some (.int .i64 x.2)
  bld : Lib.IsBuilderF 64 5 B B (Lib.byteCells l) V
  blw : Below B w1 V
  oth : Lib.OthersKept 5 (some B) w3 V
  env : Env V
  sz : w3.heap.size ≤ V.heap.size
  bxl : bx < V.heap.size
  bB : B ≤ V.heap.size
theorem TSt.up {B bx : Nat} {x : Int × Int} {l : List UInt8} {w1 w3 V V' : World} (h : TSt B bx x l w1 w3 V) (hb : Below V.heap.size V V') : TSt B bx x l w1 w3 V' where
  x0 := (hb.cell (p := ⟨bx, 0, none⟩) h.bxl).trans h.x0
  x1 := (hb.cell (p := ⟨bx, 1, none⟩) h.bxl).trans h.x1
  bld := isF_below h.bld hb
  blw := h.blw.trans (hb.mono h.bB)
  oth := h.oth.below hb
  env := h.env.step hb
  sz := Nat.le_trans h.sz hb.size
  bxl := Nat.lt_of_lt_of_le h.bxl hb.size
  bB := Nat.le_trans h.bB hb.size
theorem pline_lists {P : Program} (d k : List UInt8) (h : d.length + k.length ≤ 100000) :
    (∀ W, (Op.stringOp .add ⟨d.toArray⟩ ⟨#[32, 61, 32]⟩).run P W = .ok (.string ⟨(d ++ [32, 61, 32]).toArray⟩) W) ∧
    (∀ W, (Op.stringOp .add ⟨(d ++ [32, 61, 32]).toArray⟩ ⟨k.toArray⟩).run P W = .ok (.string ⟨(d ++ 32 :: 61 :: 32 :: k).toArray⟩) W) ∧
    (∀ W, (Op.stringOp .add ⟨(d ++ 32 :: 61 :: 32 :: k).toArray⟩ ⟨#[10]⟩).run P W = .ok (.string ⟨(d ++ 32 :: 61 :: 32 :: (k ++ [10])).toArray⟩) W) := by
  have h1 := add_lists (P := P) d [32, 61, 32] (by simp; omega)
  have h2 := add_lists (P := P) (d ++ [32, 61, 32]) k (by simp; omega)
  have h3 := add_lists (P := P) (d ++ 32 :: 61 :: 32 :: k) [10] (by simp; omega)
  exact ⟨h1, fun W => by rw [h2 W]; simp, fun W => by rw [h3 W]; simp⟩
theorem byNum_of {e : Ed} (h : validE e) {ys : List (Int × Int)} (hp : ys.Perm e.ents) (hs : ys.Pairwise (fun x y => x.2 ≤ y.2)) : ys = byNum e := by
  have hn := validE_nums h
  refine List.Perm.eq_of_pairwise (le := fun a b : Int × Int => a.2 ≤ b.2) (fun a b ha hb h3 h4 => ent_num hn (hp.mem_iff.1 ha) ((byNum_mem e b).1 hb) (by omega)) hs ((byNum_lt hn).imp (fun h => by omega)) (hp.trans (List.mergeSort_perm e.ents _).symm)
theorem lines_step {zs : List (Int × Int)} {k : Nat} {x : Int × Int} (h : zs[k]? = some x) : (zs.take (k + 1)).flatMap lineE = (zs.take k).flatMap lineE ++ (Lib.itoa x.2 ++ (32 :: 61 :: 32 :: (Lib.itoa x.1 ++ [10]))) := by
  rw [take_snocS h, List.flatMap_append]; simp [lineE]
theorem lineE_le {x : Int × Int} (h1 : 1 ≤ x.1 ∧ x.1 ≤ 9999) (h2 : 1 ≤ x.2 ∧ x.2 ≤ 999) : (lineE x).length ≤ 12 := by
  have := itoa_len (n := x.1) (by omega) (by omega)
  have := itoa_len (n := x.2) (by omega) (by omega)
  simp [lineE]; omega
theorem lines_len {zs : List (Int × Int)} (h : ∀ x ∈ zs, (1 ≤ x.1 ∧ x.1 ≤ 9999) ∧ (1 ≤ x.2 ∧ x.2 ≤ 999)) : (zs.flatMap lineE).length ≤ 12 * zs.length := by
  induction zs with
  | nil => simp
  | cons x xs ih =>
    have h1 := lineE_le (h x (by simp)).1 (h x (by simp)).2
    have h2 := ih (fun y hy => h y (by simp [hy]))
    rw [List.flatMap_cons, List.length_append, List.length_cons]; omega
theorem ents_in {e : Ed} (h : validE e) : ∀ x ∈ e.ents, (1 ≤ x.1 ∧ x.1 ≤ 9999) ∧ (1 ≤ x.2 ∧ x.2 ≤ 999) := fun x hx =>
  ⟨h.1.2.1 _ (List.mem_map_of_mem (f := Prod.fst) hx), (okList_sort.1 h.2.1).2.1 _ (List.mem_map_of_mem (f := Prod.snd) hx)⟩
set_option maxRecDepth 100000 in
set_option maxHeartbeats 8000000 in
theorem ptext_any (A : Option Addr) (n c : Nat) (A' : Option Addr) (n' c' : Nat) (e : Ed) (w : World) (hE : Env w) (hn : n ≤ 1000000) (hn' : n' ≤ 1000000) (hS : EdS w A n A' n' e) :
    Calls Tryz.prog 26 #[.agg #[.slice A n c, .slice A' n' c']] w fun r w' => r = .returned (.string ⟨(textE e).toArray⟩) ∧ Below w.heap.size w w' := by
  have HL := Lib.hid hS.ents.len
  have HL' := Lib.hid hS.ret.len
  have HU : Hid (∀ W, Below w.heap.size w W → EdS W A n A' n' e) := fun W hW => hS.up hW
  have HEN : Hid (∀ W, Below w.heap.size w W → Env W) := fun W hW => hE.step hW
  clear hS hE
  go_enter Tryz.func26, Tryz.ntmps26
  go_wp2_with fail
  refine (valid_any A n c A' n' c' e _ hn hn' (HU.out _ (one_alloc _ _))).mono ?_; rintro r w1 ⟨rfl, hb1⟩
  obtain ⟨_, hb, Z⟩ := step1 (Below.refl _ w) hb1
  clear hb1
  by_cases hv : ¬ validE e
  · have HV := Lib.hid (text_bad hv)
    rw [decide_eq_false hv]
    clear hv
    go_wp2_with fail
    go_ret
    exact ⟨by rw [HV.out]; rfl, hb⟩
  replace hv := Classical.not_not.1 hv
  rw [decide_eq_true hv]
  have HV : Hid (textE e = (byNum e).flatMap lineE ++ retT e.ret) := by show _ = _; unfold textE; rw [if_pos hv]
  have HVE := Lib.hid hv; clear hv
  have hZl := Z.lt
  have hlens := valid_lens HVE.out
  have hn64 : n ≤ 64 := by have := HL.out; omega
  have hn64' : n' ≤ 64 := by have := HL'.out; omega
  clear hlens
  have hF0 := fresh_F w1
  have HF0 := Lib.hid hF0; clear hF0
  replace Z := Z.alloc (.cells #[.pointer none, .slice none 0 0] 64)
  have Z0 := Z.cell 0 _ rfl; have Z1 := Z.cell 1 _ rfl; have Zlt := Z.lt
  go_wp2_with fail
  go_fit (callsIn_wide.1 (values_in Fence.wide 0 trivial rfl A n c _))
  rintro r w2 ⟨rfl, hw2⟩
  have hb12 : Below w1.heap.size w1 w2 := by rw [hw2]; exact ((one_alloc _ _).alloc (by simp) _)
  have hF2 := isF_below HF0.out (show Below (w1.alloc (.cells #[.pointer none, .slice none 0 0] 64)).heap.size (w1.alloc (.cells #[.pointer none, .slice none 0 0] 64)) w2 from by rw [hw2]; exact one_alloc _ _)
  have hc2 : w2.cell? ⟨w1.heap.size + 1, 0, none⟩ = some (.slice A n c) := by rw [hw2, ← World.size_alloc w1 (.cells #[.pointer none, .slice none 0 0] 64)]; simp
  have hz2 : w1.heap.size + 1 < w2.heap.size := by rw [hw2]; simp
  clear hw2 Z0 Z1 Zlt
  have hb2 : Below w.heap.size w w2 := hb.trans (hb12.mono hb.size)
  have HQ := Lib.hid (sortedFuncV (w1.heap.size + 1) A n c e.ents w2 hn hz2 hc2 (HU.out _ hb2).ents)
  clear hc2
  go_wp2_with fail
  go_fit HQ.out
  rintro r w3 ⟨A3, c3, ys, rfl, hp, hpw, hS3, hb3, hty⟩
  have he : ys = byNum e := byNum_of HVE.out hp hpw
  subst he
  have hF3 := isF_below hF2 hb3
  have hb13 : Below w1.heap.size w1 w3 := hb12.trans (hb3.mono (by omega))
  have hz3 := hb3.size
  have HSO : Hid (∀ W, Lib.OthersKept 5 (some w1.heap.size) w3 W → Sl W 0 w3.heap.size 2 encE A3 n (byNum e)) := fun W hW => (sle_others hS3 hty hW (by omega)).any
  have HSL : Hid ((byNum e).length = n) := hS3.len
  have HIN : Hid (∀ x ∈ byNum e, (1 ≤ x.1 ∧ x.1 ≤ 9999) ∧ (1 ≤ x.2 ∧ x.2 ≤ 999)) := fun x hx => ents_in HVE.out x ((byNum_mem e x).1 hx)
  have HTL : Hid (∀ k, k ≤ 64 → (((byNum e).take k).flatMap lineE).length ≤ 12 * k) := fun k hk => by
    have h1 := lines_len (zs := (byNum e).take k) (fun x hx => HIN.out x (List.mem_of_mem_take hx))
    rw [List.length_take] at h1
    omega
  have HZ1 : Hid (Bx w1 w.heap.size [.slice A n c, .slice A' n' c']) := by
    refine ⟨by omega, fun j u hu => ?_, fun j => ?_⟩
    · have := Z.cell j u hu
      exact ((one_alloc w1 (.cells #[.pointer none, .slice none 0 0] 64)).cell (p := ⟨w.heap.size, j, none⟩) hZl).symm.trans this
    · have := Z.frz j
      exact ((one_alloc w1 (.cells #[.pointer none, .slice none 0 0] 64)).frozen (p := ⟨w.heap.size, j, none⟩) hZl).symm.trans this
  clear hS3 hty hb3 hF2 hb12 hb2 hp hpw HQ HF0 Z
  generalize byNum e = zs at *
  have HF3 := Lib.hid hF3; clear hF3
  have HB13 := Lib.hid hb13; clear hb13
  go_wp2_with fail
  go_loopw [16] (fun i wr => ∃ k : Nat, k ≤ n ∧ i = .int .i64 (k : Int) ∧ Lib.IsBuilderF 64 5 w1.heap.size w1.heap.size (Lib.byteCells ((zs.take k).flatMap lineE)) wr ∧ Below w1.heap.size w1 wr ∧ w3.heap.size ≤ wr.heap.size ∧ Lib.OthersKept 5 (some w1.heap.size) w3 wr) (fun i _ => n - (intOf i).toNat)
  case atStart => exact ⟨0, by omega, rfl, HF3.out, HB13.out, Nat.le_refl _, Lib.OthersKept.refl _ _ _⟩
  case round =>
    obtain ⟨k, hk, rfl, hF, hbr, hzr, hok⟩ := hrel
    have hbw : Below w.heap.size w wr := hb.trans (hbr.mono hb.size)
    by_cases hlt : k < n
    · obtain ⟨b, off, x, rfl, hbb, hx, c0, c1⟩ := (HSO.out _ hok).en hlt
      have hbz : b < wr.heap.size := by omega
      have htl := HTL.out k (by omega)
      obtain ⟨⟨hx1, hx2⟩, hx3, hx4⟩ := HIN.out x (List.mem_of_getElem? hx)
      have hl1 := itoa_len (n := x.1) (by omega) (by omega)
      have hl2 := itoa_len (n := x.2) (by omega) (by omega)
      obtain ⟨q1, q2, q3⟩ := pline_lists (P := Tryz.prog) (Lib.itoa x.2) (Lib.itoa x.1) (by omega)
      have HT := Lib.hid (lines_step hx); clear hx
      generalize (zs.take k).flatMap lineE = lk at *
      have T0 : TSt w1.heap.size wr.heap.size x lk w1 w3 (wr.alloc (.cells #[.int .i64 x.1, .int .i64 x.2] 36)) := ⟨by simp, by simp, isF_below hF (one_alloc _ _), hbr.alloc (by omega) _, hok.below (one_alloc _ _), HEN.out _ (hbw.alloc hbw.size _), by simp; omega, by simp, by simp; omega⟩
      clear hF hbr hok hbw
      go_wp2_with fail
      generalize wr.alloc (.cells #[.int .i64 x.1, .int .i64 x.2] 36) = W0 at *
      have hbxl := T0.bxl
      have T0d : TSt w1.heap.size wr.heap.size x lk w1 w3 W0.drew := T0.up (Below.drew (Below.refl _ _))
      have T00 := T0.x0
      have T01 := T0.x1
      have T0d0 := T0d.x0
      have T0d1 := T0d.x1
      generalize wr.heap.size = bx at *
      have i1 : -9223372036854775808 ≤ x.1 := by omega
      have i2 : x.1 ≤ 9223372036854775807 := by omega
      have i3 : -9223372036854775808 ≤ x.2 := by omega
      have i4 : x.2 ≤ 9223372036854775807 := by omega
      have hlen : lk.length + (Lib.itoa x.2 ++ 32 :: 61 :: 32 :: (Lib.itoa x.1 ++ [10])).length ≤ 100000000 := by simp; omega
      go_region_with (first
        | (go_at_call_of 55 (Value.int .i64 x.1); refine (itoa_any x.1 _ i1 i2 ?_).mono ?_; exact TSt.env (by assumption); rintro r w4 ⟨rfl, hb4⟩; have T4 : TSt w1.heap.size bx x lk w1 w3 w4 := TSt.up (by assumption) hb4; clear hb4; have T40 := T4.x0; have T41 := T4.x1)
        | (go_at_call_of 55 (Value.int .i64 x.2); refine (itoa_any x.2 _ i3 i4 ?_).mono ?_; exact TSt.env (by assumption); rintro r w4 ⟨rfl, hb4⟩; have T4 : TSt w1.heap.size bx x lk w1 w3 w4 := TSt.up (by assumption) hb4; clear hb4; have T40 := T4.x0; have T41 := T4.x1)
        | (go_at_call 54; refine (wstr_k w1.heap.size w1.heap.size lk _ _ (TSt.bld (by assumption)) hlen (TSt.bB (by assumption))).mono ?_; rintro r w5 ⟨rfl, hF5, hb5, hok5⟩; have hbF := Below.trans (TSt.blw (B := w1.heap.size) (bx := bx) (x := x) (l := lk) (w1 := w1) (w3 := w3) (by assumption)) hb5; have hokF := Lib.OthersKept.trans (TSt.oth (B := w1.heap.size) (bx := bx) (x := x) (l := lk) (w1 := w1) (w3 := w3) (by assumption)) hok5; have hzF := Nat.le_trans (TSt.sz (B := w1.heap.size) (bx := bx) (x := x) (l := lk) (w1 := w1) (w3 := w3) (by assumption)) hb5.size; clear hb5 hok5))
      all_goals
        go_wp2_with fail
        go_roundw
        case rel => exact ⟨k + 1, by omega, by go_num, by rw [HT.out]; exact hF5, hbF, hzF, hokF⟩
        case measure => simp [intOf]; omega
    · obtain rfl : k = n := by omega
      have HT : Hid (zs.take k = zs) := List.take_of_length_le (by have := HSL.out; omega)
      rw [HT.out] at hF
      have hll := HTL.out k hn64
      rw [HT.out] at hll
      clear hok HT
      generalize zs.flatMap lineE = l0 at *
      have Z : Bx wr w.heap.size [.slice A k c, .slice A' n' c'] := HZ1.out.keepD hbr hZl
      have hBr : w1.heap.size ≤ wr.heap.size := hbr.size
      have Z0 := Z.cell 0 _ rfl; have Z1 := Z.cell 1 _ rfl; have Zlt := Z.lt
      rcases Nat.eq_zero_or_pos n' with h0 | h0
      · subst h0
        have HT0 : Hid (textE e = l0) := by
          have he : e.ret = [] := List.eq_nil_of_length_eq_zero HL'.out
          show _ = _
          rw [HV.out, he]
          simp [retT]
        go_wp2_with fail
        refine (string_k w1.heap.size w1.heap.size _ wr hF hBr).mono ?_
        rintro r w6 ⟨rfl, hb6⟩
        go_wp2_with fail
        go_ret
        exact ⟨by rw [HT0.out]; rfl, hb.trans ((hbr.trans hb6).mono hb.size)⟩
      · have hne : e.ret ≠ [] := fun h => by have := HL'.out; rw [h] at this; simp at this; omega
        have HRE : Hid (textE e = l0 ++ (retTk e.ret n' ++ [10])) := by show _ = _; rw [HV.out, retT_eq hne, HL'.out]
        have HRI : Hid (∀ x ∈ e.ret, 1 ≤ x ∧ x ≤ 999) := HVE.out.2.2.1.2.1
        have HRL : Hid (∀ j, (retTk e.ret j).length ≤ 7 + 5 * j) := retTk_len HRI.out
        have HR0 : Hid (retTk e.ret 0 = [114, 101, 116, 105, 114, 101, 100]) := by show _ = _; unfold retTk; simp
        have HF := Lib.hid hF; clear hF
        clear hne
        go_wp2_with fail
        refine (wstr_k w1.heap.size w1.heap.size l0 [114, 101, 116, 105, 114, 101, 100] wr HF.out (by simp; omega) hBr).mono ?_
        rintro r w5 ⟨rfl, hF5, hb5, _⟩
        rw [← HR0.out] at hF5
        have Z5 : Bx w5 w.heap.size [.slice A k c, .slice A' n' c'] := Z.keepD hb5 hZl
        have hbr5 := hbr.trans hb5
        clear hb5 Z Z0 Z1 Zlt hbr hbw hBr HF hzr
        have Z50 := Z5.cell 0 _ rfl; have Z51 := Z5.cell 1 _ rfl; have Z5lt := Z5.lt
        go_wp2_with fail
        go_loopw [39] (fun i wr => ∃ j : Nat, j ≤ n' ∧ i = .int .i64 (j : Int) ∧ Lib.IsBuilderF 64 5 w1.heap.size w1.heap.size (Lib.byteCells (l0 ++ retTk e.ret j)) wr ∧ Below w1.heap.size w1 wr) (fun i _ => n' - (intOf i).toNat)
        case atStart => exact ⟨0, by omega, rfl, hF5, hbr5⟩
        case round =>
          clear hF5 hbr5 Z5 Z50 Z51 Z5lt
          obtain ⟨j, hj, rfl, hF, hbr⟩ := hrel
          have hbw : Below w.heap.size w wr := hb.trans (hbr.mono hb.size)
          have hBr : w1.heap.size ≤ wr.heap.size := hbr.size
          have hrl := HRL.out j
          by_cases hlt : j < n'
          · obtain ⟨b, off, x, hA, hbb, hx, c0⟩ := (HU.out _ hbw).ret.in_ hlt
            subst hA
            obtain ⟨hx1, hx2⟩ := HRI.out x (List.mem_of_getElem? hx)
            have hl1 := itoa_len (n := x) (by omega) (by omega)
            have HX := Lib.hid (retTk_step hx); clear hx
            have q1 : ∀ W, (Op.stringOp .add ⟨#[32]⟩ ⟨(Lib.itoa x).toArray⟩).run Tryz.prog W = .ok (.string ⟨(32 :: Lib.itoa x).toArray⟩) W := fun W => by rw [add_lists (P := Tryz.prog) [32] (Lib.itoa x) (by simp; omega) W]; simp
            have HEW := Lib.hid (HEN.out _ hbw)
            have HF := Lib.hid hF; clear hF
            go_wp2_with fail
            refine (itoa_any x _ (by omega) (by omega) HEW.out).mono ?_; rintro r w6 ⟨rfl, hb6⟩
            have hF6 := isF_below HF.out hb6
            have hb16 := hbr.trans (hb6.mono hBr)
            have hB6 : w1.heap.size ≤ w6.heap.size := hb16.size
            clear hb6
            go_wp2_with fail
            refine (wstr_k w1.heap.size w1.heap.size (l0 ++ retTk e.ret j) (32 :: Lib.itoa x) w6 hF6 (by simp; omega) hB6).mono ?_
            rintro r w7 ⟨rfl, hF7, hb7, _⟩
            go_wp2_with fail
            go_roundw
            case rel => exact ⟨j + 1, by omega, by go_num, by rw [HX.out]; rw [show l0 ++ (retTk e.ret j ++ [32] ++ Lib.itoa x) = l0 ++ retTk e.ret j ++ (32 :: Lib.itoa x) from by simp]; exact hF7, hb16.trans hb7⟩
            case measure => simp [intOf]; omega
          · obtain rfl : j = n' := by omega
            have HF := Lib.hid hF; clear hF
            go_wp2_with fail
            refine (wstr_k w1.heap.size w1.heap.size (l0 ++ retTk e.ret j) [10] wr HF.out (by simp; omega) hBr).mono ?_
            rintro r w7 ⟨rfl, hF7, hb7, _⟩
            have hb17 := hbr.trans hb7
            have hB7 : w1.heap.size ≤ w7.heap.size := hb17.size
            clear hb7
            go_wp2_with fail
            refine (string_k w1.heap.size w1.heap.size _ w7 hF7 hB7).mono ?_
            rintro r w8 ⟨rfl, hb8⟩
            go_wp2_with fail
            go_ret
            exact ⟨by rw [HRE.out, ← List.append_assoc]; rfl, hb.trans ((hb17.trans hb8).mono hb.size)⟩
end Go.Proofs.YtfanjghfilkhmaaGreatDoor
