/- Chapter 54: the reference's numerals, grams, names; with, insert. (Printed by hwt.py from Xk.txt.) -/
import Derived.Test.YtdokpmfejibdlaaGreatDoorXh
set_option linter.unusedSimpArgs false
set_option linter.unusedVariables false
namespace Go.Proofs.YtdokpmfejibdlaaGreatDoor
open Go.RowKit

theorem rdec_any (n : Int) (w : World) (h1 : 0 ≤ n) (h2 : n ≤ 1000000) :
  Calls Tryz.prog 43 #[.int .i64 n] w fun e w' => e = .returned (.string ⟨(Lib.itoa n).toArray⟩) ∧ Below w.heap.size w w' := by
 have HF := Lib.hid (itoa_nat n h1)
 obtain ⟨k, rfl⟩ := Int.eq_ofNat_of_zero_le h1
 rw [HF.out, Int.toNat_natCast]
 clear HF
 go_enter Tryz.func43, Tryz.ntmps43
 go_wp2_with fail
 refine (numAt_any k _ (by omega)).mono ?_
 rintro e w1 ⟨A', m, c', rfl, hb1, hT⟩
 have HT := Lib.hid hT; clear hT
 go_wp2_with fail
 refine (HT.out _ (Below.refl _ _)).mono ?_
 rintro e w2 ⟨rfl, hb2⟩
 go_wp2_with fail
 go_ret
 exact ⟨rfl, hb1.trans (hb2.mono hb1.size)⟩
set_option maxHeartbeats 1000000 in
theorem rname_any (side num : Int) (w : World) : Calls Tryz.prog 45 #[.agg #[.int .i64 side, .int .i64 num]] w fun e w' => e = .returned (.string ⟨(nameL side num).toArray⟩) ∧ Below w.heap.size w w' := by
 have HC := Lib.hid (fun W => rltext_any ⟨side, num, 0⟩ W)
 go_enter Tryz.func45, Tryz.ntmps45
 go_wp2_with fail
 refine (HC.out _).mono ?_; rintro e w1 ⟨rfl, hb⟩
 obtain ⟨_, hb2, _⟩ := step1 (vs := [.int .i64 side, .int .i64 num]) (Below.refl _ w) hb
 go_wp2_with fail
 go_ret
 exact ⟨rfl, hb2⟩
/-- Zeros ahead till there are four. -/
theorem dec_zeros (k : Nat) (h : k ≤ 999999) : ∃ z, z ≤ 3 ∧ (z = 0 ∨ z + (Lib.decDigits k).length = 4) ∧ 4 ≤ z + (Lib.decDigits k).length ∧ (z + (Lib.decDigits k).length ≤ 6) ∧
  (List.replicate z 48 ++ Lib.decDigits k).take (z + (Lib.decDigits k).length - 3) ++ [46] ++ (List.replicate z 48 ++ Lib.decDigits k).drop (z + (Lib.decDigits k).length - 3) = gramS k := by
 have key : ∀ (z : Nat), List.replicate z 48 ++ Lib.decDigits k = Lib.decDigits (k / 1000) ++ pad3 (k % 1000) → z ≤ 3 → (z = 0 ∨ z + (Lib.decDigits k).length = 4) → ∃ z, z ≤ 3 ∧ (z = 0 ∨ z + (Lib.decDigits k).length = 4) ∧ 4 ≤ z + (Lib.decDigits k).length ∧ (z + (Lib.decDigits k).length ≤ 6) ∧
  (List.replicate z 48 ++ Lib.decDigits k).take (z + (Lib.decDigits k).length - 3) ++ [46] ++ (List.replicate z 48 ++ Lib.decDigits k).drop (z + (Lib.decDigits k).length - 3) = gramS k := by
  intro z hz h1 h2
  have hl : z + (Lib.decDigits k).length = (Lib.decDigits (k / 1000)).length + 3 := by
   have := congrArg List.length hz
   simpa [pad3] using this
  have hd := decDigits_le 2 (k / 1000) (by omega)
  have hp : 1 ≤ (Lib.decDigits (k / 1000)).length := by
   rcases Nat.eq_zero_or_pos (Lib.decDigits (k / 1000)).length with h0 | h0
   ·exact absurd (List.eq_nil_of_length_eq_zero h0) (dec_ne _)
   ·exact h0
  refine ⟨z, h1, h2, by omega, by omega, ?_⟩
  rw [hz, hl, show (Lib.decDigits (k / 1000)).length + 3 - 3 = (Lib.decDigits (k / 1000)).length by omega, List.take_left, List.drop_left]
  simp [gramS]
 have d1 : ∀ d : Nat, d < 10 → Lib.decDigits d = [UInt8.ofNat (48 + d)] := fun d hd => by rw [Lib.decDigits, dif_pos hd]
 by_cases h1 : 1000 ≤ k
 ·refine key 0 ?_ (by omega) (.inl rfl)
  have := dec_pad3 (k / 1000) (k % 1000) (by omega) (by omega)
  rw [show 1000 * (k / 1000) + k % 1000 = k by omega] at this
  rw [this]; rfl
 ·have hq : k / 1000 = 0 := by omega
  have hm : k % 1000 = k := by omega
  have z0 : Lib.decDigits 0 = [48] := by rw [d1 0 (by omega)]; rfl
  by_cases h2 : 100 ≤ k
  ·have e : Lib.decDigits k = pad3 k := by
    rw [Lib.decDigits, dif_neg (by omega), Lib.decDigits, dif_neg (by omega), d1 _ (show k / 10 / 10 < 10 by omega)]
    simp only [pad3, List.cons_append, List.nil_append]
    rw [show k / 10 / 10 = k / 100 by omega]
   refine key 1 ?_ (by omega) (.inr (by rw [e]; rfl))
   rw [hq, hm, e, z0]; rfl
  ·by_cases h3 : 10 ≤ k
   ·have e : Lib.decDigits k = [UInt8.ofNat (48 + k / 10), UInt8.ofNat (48 + k % 10)] := by
     rw [Lib.decDigits, dif_neg (by omega), d1 _ (show k / 10 < 10 by omega)]; rfl
    refine key 2 ?_ (by omega) (.inr (by rw [e]; rfl))
    rw [hq, hm, e, z0, pad3, show k / 100 = 0 by omega, show k / 10 % 10 = k / 10 by omega]; rfl
   ·refine key 3 ?_ (by omega) (.inr (by rw [d1 k (by omega)]; rfl))
    rw [hq, hm, d1 k (by omega), z0, pad3, show k / 100 = 0 by omega, show k / 10 % 10 = 0 by omega, show k % 10 = k by omega]; rfl

set_option maxRecDepth 100000 in
set_option maxHeartbeats 1000000 in
theorem rgrams_any (k : Nat) (w : World) (hk : k ≤ 999999) :
  Calls Tryz.prog 60 #[.int .i64 (k : Int)] w fun e w' => e = .returned (.string ⟨(gramS k).toArray⟩) ∧ Below w.heap.size w w' := by
 obtain ⟨z, hz1, hz2, hz3, hz4, hz5⟩ := dec_zeros k hk
 have HD : Hid (Lib.itoa (k : Int) = Lib.decDigits k) := by show _ = _; rw [itoa_nat _ (by omega)]; rfl
 have HR := Lib.hid hz5; clear hz5
 have hlen : ∀ m, (List.replicate m 48 ++ Lib.decDigits k).length = m + (Lib.decDigits k).length := fun m => by simp
 generalize hdk : Lib.decDigits k = d at *
 clear hdk
 go_enter Tryz.func60, Tryz.ntmps60
 go_wp2_with fail
 refine (rdec9_any _ _ (by omega) (by omega)).mono ?_
 rintro e w1 ⟨rfl, hb⟩
 rw [HD.out]
 have HL := Lib.hid hlen; clear hlen
 go_wp2_with fail
 go_loop [3] (fun s => ∃ m : Nat, m ≤ z ∧ s = .string ⟨(List.replicate m 48 ++ d).toArray⟩) (fun s => 4 - strLen s)
 case atStart => exact ⟨0, by omega, rfl⟩
 case round =>
  obtain ⟨m, hm, rfl⟩ := hrel
  have hsz : (List.replicate m 48 ++ d).length = m + d.length := HL.out m
  have hsq := add_lists (P := Tryz.prog) [48] (List.replicate m 48 ++ d) (by rw [List.length_cons, List.length_nil, hsz]; omega)
  have hcons : Hid ([48] ++ (List.replicate m 48 ++ d) = List.replicate (m + 1) 48 ++ d) := by show _ = _; rw [List.replicate_succ]; rfl
  have HM : Hid (m = z → List.replicate m 48 ++ d = List.replicate z 48 ++ d) := fun h => by rw [h]
  generalize List.replicate m 48 ++ d = t at *
  have HSZ := Lib.hid hsz; clear hsz
  have ht4 : t.length < 4 ↔ m < z := by rw [HSZ.out]; omega
  have htl : t.length ≤ 6 := by rw [HSZ.out]; omega
  have HT4 := Lib.hid ht4; clear ht4
  by_cases hlt : t.length < 4
  ·have hmz : m < z := HT4.out.1 hlt
   go_wp2_with fail
   go_round
   case rel => exact ⟨m + 1, by omega, by rw [← hcons.out]; rfl⟩
   case measure => simp [strLen, ByteArray.size]; omega
  ·have hmz : m = z := by have := mt HT4.out.2 hlt; omega
   have hte := HM.out hmz
   have HTE := Lib.hid hte; clear hte hmz
   have htz : Hid (t.length = z + d.length) := by show _ = _; rw [HTE.out]; simp
   have htl4 : 4 ≤ t.length := by omega
   have hx1 : (ByteArray.mk t.toArray).extract 0 (t.length - 3) = ⟨(t.take (t.length - 3)).toArray⟩ := by rw [ByteArray.extract_mk]; rfl
   have hx2 : (ByteArray.mk t.toArray).extract (t.length - 3) t.length = ⟨(t.drop (t.length - 3)).toArray⟩ := by rw [ByteArray.extract_mk, List.take_of_length_le (by simp)]
   have hq1 := add_lists (P := Tryz.prog) (t.take (t.length - 3)) [46] (by simp; omega)
   have hq2 := add_lists (P := Tryz.prog) (t.take (t.length - 3) ++ [46]) (t.drop (t.length - 3)) (by simp; omega)
   have hfin : Hid (t.take (t.length - 3) ++ [46] ++ t.drop (t.length - 3) = gramS k) := by
    show _ = _
    rw [← HR.out, htz.out, HTE.out]
   have hc : ((t.length : Int) - 3).toNat = t.length - 3 := by omega
   have hw : IntKind.i64.wrap ((t.length : Int) - 3) = (t.length : Int) - 3 := IntWalk.i64_in _ (by omega)
   have hp0 : (0 : Int) ≤ (t.length : Int) - 3 := by omega
   have hp1 : (t.length : Int) - 3 ≤ (t.length : Int) := by omega
   go_wp2_with fail
   go_quiet (fail)
   go_wp2_with fail
   go_ret
   refine ⟨?_, hb.trans (below_drewN (Below.refl _ _) _ |>.mono hb.size)⟩
   rw [← hfin.out]; simp
theorem pad_dec (r : Nat) (h : r < 1000) : List.replicate (3 - (Lib.decDigits r).length) 48 ++ Lib.decDigits r = pad3 r := by
 have d1 : ∀ d : Nat, d < 10 → Lib.decDigits d = [UInt8.ofNat (48 + d)] := fun d hd => by rw [Lib.decDigits, dif_pos hd]
 by_cases h2 : 100 ≤ r
 ·have e : Lib.decDigits r = pad3 r := by
   rw [Lib.decDigits, dif_neg (by omega), Lib.decDigits, dif_neg (by omega), d1 _ (show r / 10 / 10 < 10 by omega)]
   simp only [pad3, List.cons_append, List.nil_append]
   rw [show r / 10 / 10 = r / 100 by omega]
  rw [e]; rfl
 ·by_cases h3 : 10 ≤ r
  ·have e : Lib.decDigits r = [UInt8.ofNat (48 + r / 10), UInt8.ofNat (48 + r % 10)] := by
    rw [Lib.decDigits, dif_neg (by omega), d1 _ (show r / 10 < 10 by omega)]; rfl
   rw [e, pad3, show r / 100 = 0 by omega, show r / 10 % 10 = r / 10 by omega]; rfl
  ·rw [d1 r (by omega), pad3, show r / 100 = 0 by omega, show r / 10 % 10 = 0 by omega, show r % 10 = r by omega]; rfl
theorem grams_same (k : Nat) : gramsL (k : Int) = gramS k := by
 have e1 : ((k : Int) / 1000) = ((k / 1000 : Nat) : Int) := by omega
 have e2 : ((k : Int) % 1000) = ((k % 1000 : Nat) : Int) := by omega
 unfold gramsL gramS
 rw [e1, e2, itoa_nat _ (by omega), itoa_nat _ (by omega), Int.toNat_natCast, Int.toNat_natCast, List.append_assoc, pad_dec _ (by omega)]; simp
/-- An append of a list within a drawn region. -/
theorem step_append_sl {α : Type} {enc : α → List Value} {w : World} {ops : Array Oper} {o : Oper} {a : Act} {J : Act → World → Prop} {Q : Exit → Act → World → Prop} {E : Prop} (hgd : o.guard = none) (s x : Operand) (t : TypeId)
  (ho : o.op = .call { callee := .builtin .append, args := #[s, x], argTypes := #[t, t] })
  (base : Nat) (e : TypeId) (i : TypeInfo) (z : Value) (k bytes : Nat) (hk : ∀ x, (enc x).length = k) (h1 : ∀ x, ∀ u ∈ enc x, u.oneCell' = true)
  (ht : Tryz.prog.underlying t = some (.slice e)) (hi : Tryz.prog.info? e = some i) (hz : i.zero = some z) (hsize : i.size = k) (hby : i.bytes = bytes) (hzs : z.cells.size = k) (hsz : 0 < k)
  (v : Value) (n : Nat) (xs : List Value) (hs : a.eval s = v) (hown : w.ownsRow base e k v n xs) {L B : Nat} {A : Option Addr} {m : Nat} {ys : List α} (c : Nat) (hx : a.eval x = .slice A m c) (hS : Sl w L B k enc A m ys)
  (h63 : n + m ≤ maxLen) (hbytes : (n + m) * bytes ≤ 140737488355328) (hbase : base ≤ w.heap.size)
  (hK : ∀ v' w', w'.ownsRow base e k v' (n + m) (xs ++ ys.flatMap enc) → w.grownBy w' v.ownBlock → J (a.put o.dst v') w') :
  if Region.wanted o (yielded ops a.tmps) = true then Oper.wp Tryz.prog o a w J Q else E := by
 have hw : Region.wanted o (yielded ops a.tmps) = true := by simp [Region.wanted, hgd]
 rw [if_pos hw]
 obtain ⟨v', w', hr, h2, h3⟩ := run_append_sl (P := Tryz.prog) w base t o.type e i z k bytes hk h1 ht hi hz hsize hby hzs hsz v n xs hown c hS h63 hbytes hbase
 unfold Oper.wp execOp
 simp only [ho, resolve, invoke, builtin, Sem.run_bind, Sem.run_pure, Result.andThen_ok, List.map_toArray, List.map_cons, List.map_nil, hs, hx, hr]
 exact hK _ _ h2 h3
section
variable {α : Type} {enc : α → List Value} {w0 w w' : World} {B : Nat} {e : TypeId} {k : Nat}
theorem own0 (h : Below B w0 w) (hB : B ≤ w0.heap.size) : (w.alloc (.cells #[] e)).ownsRow B e k (.slice (some ⟨w.heap.size, 0, none⟩) 0 0) 0 [] := World.ownsRow_lit w #[] 0 (Nat.le_trans hB h.size) (by unfold maxLen; omega) (by simp)
/-- One element laid for an append. -/
structure WOne (w : World) (b : Nat) (us : List Value) : Prop where
 cell : ∀ j u, us[j]? = some u → w.cell? ⟨b, j, none⟩ = some u
 lt : b < w.heap.size
theorem WOne.up {b : Nat} {us : List Value} (h : WOne w b us) (hb : Below w.heap.size w w') : WOne w' b us := ⟨fun j u hu => (hb.cell (p := ⟨b, j, none⟩) h.lt).trans (h.cell j u hu), Nat.lt_of_lt_of_le h.lt hb.size⟩
theorem WOne.grown {b : Nat} {us : List Value} {row : Option Nat} (h : WOne w b us) (hg : w.grownBy w' row) (hne : some b ≠ row) : WOne w' b us :=
 ⟨fun j u hu => (World.cell?_of_block (a := ⟨b, j, none⟩) (hg.block b h.lt hne)).trans (h.cell j u hu), Nat.lt_of_lt_of_le h.lt hg.size⟩
theorem one1 (h : Below B w0 w) (us : List Value) (e : TypeId) : WOne (w.alloc (.cells us.toArray e)) w.heap.size us := ⟨fun j u hu => by rw [World.cell?_alloc_new]; simpa using hu, by simp⟩
theorem WOne.sl {b : Nat} {x : α} (h : WOne w b (enc x)) : Sl w 0 w.heap.size k enc (some ⟨b, 0, none⟩) 1 [x] := by
 refine ⟨rfl, fun _ => ⟨b, 0, rfl, Nat.zero_le _, h.lt, fun i y hy j u hu => ?_⟩⟩
 have hi : i = 0 := by have := (List.getElem?_eq_some_iff.1 hy).1; simp at this; omega
 subst hi
 have : x = y := by simpa using hy
 subst this
 simpa using h.cell j u hu
theorem WOne.ne {b m c : Nat} {us : List Value} (h : WOne w b us) : some b ≠ (Value.slice (some ⟨w.heap.size, 0, none⟩) m c).ownBlock := fun e => by
 have e' : some b = some w.heap.size := e
 injection e' with e'
 have := h.lt
 omega
theorem own_ne {v : Value} {n : Nat} {xs : List Value} (h : w.ownsRow B e k v n xs) : some w.heap.size ≠ v.ownBlock := fun e1 => by have := (h.lt _ e1.symm).2; omega
/-- A list cut at the front. -/
theorem Sl.drop_ {L D n q : Nat} {A A' : Option Addr} {xs : List α} (h : Sl w L D k enc A n xs) (hq : q ≤ n) (hA : q < n → ∀ b off, A = some ⟨b, off, none⟩ → A' = some ⟨b, off + q * k, none⟩) : Sl w L D k enc A' (n - q) (xs.drop q) := by
 refine ⟨by rw [List.length_drop, h.len], fun hn => ?_⟩
 obtain ⟨b, off, ha, hb1, hb2, hc⟩ := h.2 (by omega)
 refine ⟨b, off + q * k, hA (by omega) b off ha, hb1, hb2, fun i x hx j u hu => ?_⟩
 rw [List.getElem?_drop] at hx
 have := hc (q + i) x hx j u hu
 rwa [Nat.add_mul, ← Nat.add_assoc] at this
end
theorem ins_sl0 {α : Type} {enc : α → List Value} {w : World} {base kk k c : Nat} {e : TypeId} {A : Option Addr} {xs : List α} {x : α} (hk : ∀ y, (enc y).length = kk)
  (h : w.ownsRow base e kk (.slice A (k + 1 + 0) c) (k + 1 + 0) ((xs.take k).flatMap enc ++ [x].flatMap enc ++ ([] : List α).flatMap enc)) (hl : xs.length = k) : Sl w base w.heap.size kk enc A (k + 1 + 0) (xs.take k ++ x :: xs.drop k) := by
 rw [List.drop_of_length_le (by omega)]
 have h' : w.ownsRow base e kk (.slice A (k + 1 + 0) c) (k + 1 + 0) ((xs.take k ++ [x]).flatMap enc) := by
  rw [List.flatMap_append]
  simpa using h
 exact (Sl.of_own hk h' (by rw [List.length_append, List.length_take]; simp; omega))
theorem ins_sl {α : Type} {enc : α → List Value} {w : World} {base kk k n c : Nat} {e : TypeId} {A : Option Addr} {xs : List α} {x : α} (hk : ∀ y, (enc y).length = kk)
  (h : w.ownsRow base e kk (.slice A (k + 1 + (n - k)) c) (k + 1 + (n - k)) ((xs.take k).flatMap enc ++ [x].flatMap enc ++ (xs.drop k).flatMap enc)) (hl : xs.length = n) (hkn : k ≤ n) : Sl w base w.heap.size kk enc A (k + 1 + (n - k)) (xs.take k ++ x :: xs.drop k) := by
 have h' : w.ownsRow base e kk (.slice A (k + 1 + (n - k)) c) (k + 1 + (n - k)) ((xs.take k ++ x :: xs.drop k).flatMap enc) := by
  rw [List.flatMap_append, List.flatMap_cons]
  simpa [List.append_assoc] using h
 exact (Sl.of_own hk h' (by rw [List.length_append, List.length_cons, List.length_take, List.length_drop]; omega))
theorem all_takeW {α : Type} {p : α → Prop} {xs : List α} {k : Nat} {x : α} (hx : xs[k]? = some x) (h : ∀ y ∈ xs.take k, p y) (hp : p x) : ∀ y ∈ xs.take (k + 1), p y := fun y hy => by
 rw [takeSnocW hx, List.mem_append, List.mem_singleton] at hy
 rcases hy with hy | rfl
 ·exact h y hy
 ·exact hp
set_option maxRecDepth 100000 in
set_option maxHeartbeats 4000000 in
theorem rwith_any (L : Nat) (A : Option Addr) (n c : Nat) (l : List Int) (x : Int) (w : World) (hLw : L ≤ w.heap.size) (hn : n ≤ 1000000) (hc : n ≤ c) (hS : Sl w L w.heap.size 1 encI A n l) :
  Calls Tryz.prog 97 #[.slice A n c, .int .i64 x] w fun e w' => (∃ A' n' c', e = .returned (.slice A' n' c') ∧ n' ≤ n + 1 ∧ n' ≤ c' ∧ Sl w' L w'.heap.size 1 encI A' n' (withI x l)) ∧ Below w.heap.size w w' := by
 have HL := Lib.hid hS.len
 have HS : Hid (∀ W, Below w.heap.size w W → Sl W L W.heap.size 1 encI A n l) := fun W hW => hS.up hW (Nat.le_refl _) (Nat.le_refl _)
 clear hS
 obtain ⟨i0, hi, hz0, hz1, hz2⟩ := info_parts Tryz.infoI
 go_enter Tryz.func97, Tryz.ntmps97
 go_wp2_with fail
 go_loop [5] (fun s => ∃ k : Nat, k ≤ n ∧ s = .int .i64 (k : Int) ∧ ∀ y ∈ l.take k, y < x) (fun s => n - (intOf s).toNat)
 case atStart => exact ⟨0, by omega, rfl, by simp⟩
 case round =>
  obtain ⟨k, hk, rfl, hv⟩ := hrel
  have HV := Lib.hid hv; clear hv
  by_cases hlt : k < n
  ·obtain ⟨b, off, y, rfl, hbb, hx, x0⟩ := (HS.out w (Below.refl _ _)).in_ hlt
   have HX := Lib.hid hx; clear hx
   by_cases hy : y < x
   ·have HA := Lib.hid (all_takeW (p := fun y => y < x) HX.out HV.out hy)
    go_wp2_with fail
    go_round
    case rel => exact ⟨k + 1, by omega, by go_num, HA.out⟩
    case measure => simp [intOf]; omega
   ·have HCT := Lib.hid (withI_cut (n := x) k l HV.out (.inr ⟨y, HX.out, hy⟩))
    by_cases hyx : y = x
    ·subst hyx
     have HR : Hid (withI y l = l) := by show _ = _; rw [HCT.out, if_pos HX.out]
     have HSS := Lib.hid (HS.out w (Below.refl _ _))
     clear hy
     go_wp2_with fail
     go_ret
     exact ⟨⟨_, n, c, rfl, by omega, hc, by rw [HR.out]; exact HSS.out⟩, Below.refl _ _⟩
    ·have HR : Hid (withI x l = l.take k ++ x :: l.drop k) := by show _ = _; rw [HCT.out, if_neg (by rw [HX.out]; intro e; injection e with e; exact hyx e)]
     have hC : Below w.heap.size w w.drew := (Below.refl _ _).drew
     have hkc : k ≤ c := by omega
     go_wp2_with fail
     refine wp_region_noPanic ?_
     refine wp_region_held_drew (S := fun _ => True) (by kernel_rfl) trivial (fun hHeld => ?_)
     generalize w.drew = W at *
     refine' takeW 1 ?_ ?_ ?_ (by kernel_rfl) (by kernel_rfl) (by kernel_rfl) (fun _ _ _ h => h) hHeld ?_
     rotate_left 2
     ·(simp only [List.getElem?_toArray, List.getElem?_cons_succ, List.getElem?_cons_zero]; try rfl)
     ·rfl
     ·(intro w hSw; (try dsimp only at hSw); go_simp; first | done | with_reducible rfl)
     (try simp only [Act.put, List.setIfInBounds_toArray, List.set_cons_zero, List.set_cons_succ])
     refine' takeW 2 ?_ ?_ ?_ (by kernel_rfl) (by kernel_rfl) (by kernel_rfl) (fun _ _ _ h => h) hHeld ?_
     rotate_left 2
     ·(simp only [List.getElem?_toArray, List.getElem?_cons_succ, List.getElem?_cons_zero]; try rfl)
     ·rfl
     ·(intro w hSw; (try dsimp only at hSw); go_simp; first | done | with_reducible rfl)
     (try simp only [Act.put, List.setIfInBounds_toArray, List.set_cons_zero, List.set_cons_succ])
     refine' takeW 3 ?_ ?_ ?_ (by kernel_rfl) (by kernel_rfl) (by kernel_rfl) (fun _ _ _ h => h) hHeld ?_
     rotate_left 2
     ·(simp only [List.getElem?_toArray, List.getElem?_cons_succ, List.getElem?_cons_zero]; try rfl)
     ·rfl
     ·(intro w hSw; (try dsimp only at hSw); go_simp; first | done | with_reducible rfl)
     (try simp only [Act.put, List.setIfInBounds_toArray, List.set_cons_zero, List.set_cons_succ])
     refine' takeW 5 ?_ ?_ ?_ (by kernel_rfl) (by kernel_rfl) (by kernel_rfl) (fun _ _ _ h => h) hHeld ?_
     rotate_left 2
     ·(simp only [List.getElem?_toArray, List.getElem?_cons_succ, List.getElem?_cons_zero]; try rfl)
     ·rfl
     ·(intro w hSw; (try dsimp only at hSw); go_simp; first | done | with_reducible rfl)
     (try simp only [Act.put, List.setIfInBounds_toArray, List.set_cons_zero, List.set_cons_succ])
     refine' takeW 8 ?_ ?_ ?_ (by kernel_rfl) (by kernel_rfl) (by kernel_rfl) (fun _ _ _ h => h) hHeld ?_
     rotate_left 2
     ·(simp only [List.getElem?_toArray, List.getElem?_cons_succ, List.getElem?_cons_zero]; try rfl)
     ·rfl
     ·(intro w hSw; (try dsimp only at hSw); go_simp; first | done | with_reducible rfl)
     (try simp only [Act.put, List.setIfInBounds_toArray, List.set_cons_zero, List.set_cons_succ])
     refine' takeW 9 ?_ ?_ ?_ (by kernel_rfl) (by kernel_rfl) (by kernel_rfl) (fun _ _ _ h => h) hHeld ?_
     rotate_left 2
     ·(simp only [List.getElem?_toArray, List.getElem?_cons_succ, List.getElem?_cons_zero]; try rfl)
     ·rfl
     ·(intro w hSw; (try dsimp only at hSw); go_simp; first | done | with_reducible rfl)
     (try simp only [Act.put, List.setIfInBounds_toArray, List.set_cons_zero, List.set_cons_succ])
     refine' takeW 10 ?_ ?_ ?_ (by kernel_rfl) (by kernel_rfl) (by kernel_rfl) (fun _ _ _ h => h) hHeld ?_
     rotate_left 2
     ·(simp only [List.getElem?_toArray, List.getElem?_cons_succ, List.getElem?_cons_zero]; try rfl)
     ·rfl
     ·(intro w hSw; (try dsimp only at hSw); go_simp; first | done | with_reducible rfl)
     (try simp only [Act.put, List.setIfInBounds_toArray, List.set_cons_zero, List.set_cons_succ])
     refine wpAnyH_ready (rs := [0, 6]) (by kernel_rfl) (by simp) ?_
     refine AllReadyH.cons (o := ?o1_7_0) ?h1_7_0 (fun K hK => ?s1_7_0) (AllReadyH.cons (o := ?o1_7_6) ?h1_7_6 (fun K hK => ?s1_7_6) AllReadyH.nil)
     case h1_7_0 => (simp only [List.getElem?_toArray, List.getElem?_cons_succ, List.getElem?_cons_zero]; try rfl)
     case h1_7_6 => (simp only [List.getElem?_toArray, List.getElem?_cons_succ, List.getElem?_cons_zero]; try rfl)
     case s1_7_0 =>
      (try go_simp)
      have hO := own0 (e := 3) (k := 1) hC (Nat.le_refl _)
      (try simp only [World.size_alloc] at hO)
      (try replace hN := hN.up (one_alloc _ (.cells #[] 3)))
      replace hC := hC.alloc hC.size (.cells #[] 3)
      refine hK.out _ _ trivial (fun hHeld => ?_)
      clear hK K
      (try simp only [Act.put, List.setIfInBounds_toArray, List.set_cons_zero, List.set_cons_succ])
      refine wpAnyH_ready (rs := [4, 6]) (by kernel_rfl) (by simp) ?_
      refine AllReadyH.cons (o := ?o1_8_4) ?h1_8_4 (fun K hK => ?s1_8_4) (AllReadyH.cons (o := ?o1_8_6) ?h1_8_6 (fun K hK => ?s1_8_6) AllReadyH.nil)
      case h1_8_4 => (simp only [List.getElem?_toArray, List.getElem?_cons_succ, List.getElem?_cons_zero]; try rfl)
      case h1_8_6 => (simp only [List.getElem?_toArray, List.getElem?_cons_succ, List.getElem?_cons_zero]; try rfl)
      case s1_8_4 =>
       refine step_append_sl rfl _ _ 36 rfl w.heap.size 3 i0 (.int .i64 0) 1 8 (fun _ => rfl) (by intro x u hu; simp [encI] at hu; subst hu; rfl) Tryz.underlying36 hi hz0 hz1 hz2 rfl (by decide) (.slice (some ⟨_, 0, none⟩) 0 0) _ _ rfl hO _ rfl ((HS.out _ hC).cut k (by omega)) (by unfold maxLen; omega) (by omega) hC.size ?_
       intro v4 w4 hO4 hg4
       (try replace hN := hN.grown hg4 (by intro e9; simp [Value.ownBlock] at e9))
       replace hC := below_row hC hO hg4 (Nat.le_refl _) (Nat.le_refl _)
       rw [Nat.zero_add, List.nil_append] at hO4
       obtain ⟨A4, c4, rfl, hc4⟩ := own_form hO4
       clear hO hg4
       refine hK.out _ _ trivial (fun hHeld => ?_)
       clear hK K
       (try simp only [Act.put, List.setIfInBounds_toArray, List.set_cons_zero, List.set_cons_succ])
       refine wpAnyH_ready (rs := [6]) (by kernel_rfl) (by simp) ?_
       refine' AllReadyH.cons ?_ (fun K hK => ?_) AllReadyH.nil
       rotate_left 1
       ·(simp only [List.getElem?_toArray, List.getElem?_cons_succ, List.getElem?_cons_zero]; try rfl)
       (try go_simp)
       have hN := one1 hC [Value.int .i64 x] 3
       (try simp only [World.size_alloc] at hN)
       (try replace hO4 := hO4.alloc (.cells #[Value.int .i64 x] 3))
       (try replace hO := hO.alloc (.cells #[Value.int .i64 x] 3))
       replace hC := hC.alloc hC.size (.cells #[Value.int .i64 x] 3)
       refine hK.out _ _ trivial (fun hHeld => ?_)
       clear hK K
       (try simp only [Act.put, List.setIfInBounds_toArray, List.set_cons_zero, List.set_cons_succ])
       refine wpAnyH_ready (rs := [7]) (by kernel_rfl) (by simp) ?_
       refine' AllReadyH.cons ?_ (fun K hK => ?_) AllReadyH.nil
       rotate_left 1
       ·(simp only [List.getElem?_toArray, List.getElem?_cons_succ, List.getElem?_cons_zero]; try rfl)
       refine step_append_sl rfl _ _ 36 rfl w.heap.size 3 i0 (.int .i64 0) 1 8 (fun _ => rfl) (by intro x u hu; simp [encI] at hu; subst hu; rfl) Tryz.underlying36 hi hz0 hz1 hz2 rfl (by decide) (.slice A4 k c4) _ _ rfl hO4 _ rfl (WOne.sl (enc := encI) (x := x) hN) (by unfold maxLen; omega) (by omega) hC.size ?_
       intro v7 w7 hO7 hg7
       replace hC := below_row hC hO4 hg7 (Nat.le_refl _) (Nat.le_refl _)
       obtain ⟨A7, c7, rfl, hc7⟩ := own_form hO7
       clear hO4 hg7 hN
       refine hK.out _ _ trivial (fun hHeld => ?_)
       clear hK K
       (try simp only [Act.put, List.setIfInBounds_toArray, List.set_cons_zero, List.set_cons_succ])
       refine wpAnyH_ready (rs := [11]) (by kernel_rfl) (by simp) ?_
       refine' AllReadyH.cons ?_ (fun K hK => ?_) AllReadyH.nil
       rotate_left 1
       ·(simp only [List.getElem?_toArray, List.getElem?_cons_succ, List.getElem?_cons_zero]; try rfl)
       refine step_append_sl rfl _ _ 36 rfl w.heap.size 3 i0 (.int .i64 0) 1 8 (fun _ => rfl) (by intro x u hu; simp [encI] at hu; subst hu; rfl) Tryz.underlying36 hi hz0 hz1 hz2 rfl (by decide) (.slice A7 (k + 1) c7) _ _ rfl hO7 _ rfl ((HS.out _ hC).drop_ (q := k) (by omega) (by intro h9 b9 o9 e9; first | (exfalso; omega) | (cases e9; first | rfl | (rw [if_neg (by omega)]; simp) | (simp; omega) | simp)))  (by unfold maxLen; omega) (by omega) hC.size ?_
       intro v11 w11 hO11 hg11
       replace hC := below_row hC hO7 hg11 (Nat.le_refl _) (Nat.le_refl _)
       obtain ⟨A11, c11, rfl, hc11⟩ := own_form hO11
       clear hO7 hg11
       refine hK.out _ _ trivial (fun hHeld => ?_)
       clear hK K
       (try simp only [Act.put, List.setIfInBounds_toArray, List.set_cons_zero, List.set_cons_succ])
       refine' takeW 12 ?_ ?_ ?_ (by kernel_rfl) (by kernel_rfl) (by kernel_rfl) (fun _ _ _ h => h) hHeld ?_
       rotate_left 2
       ·(simp only [List.getElem?_toArray, List.getElem?_cons_succ, List.getElem?_cons_zero]; try rfl)
       ·rfl
       ·(intro w hSw; (try dsimp only at hSw); go_simp; first | done | with_reducible rfl)
       (try simp only [Act.put, List.setIfInBounds_toArray, List.set_cons_zero, List.set_cons_succ])
       refine wpAnyH_done (by kernel_rfl) ?_ _
       refine NoPanic.normal ?_
       go_wp2_with fail
       all_goals (go_ret; refine ⟨⟨A11, _, c11, rfl, by omega, hc11, ?_⟩, hC⟩; rw [HR.out])
       all_goals exact (ins_sl (enc := encI) (fun _ => rfl) hO11 HL.out (by omega)).less hLw
      case s1_8_6 =>
       (try go_simp)
       have hN := one1 hC [Value.int .i64 x] 3
       (try simp only [World.size_alloc] at hN)
       (try replace hO4 := hO4.alloc (.cells #[Value.int .i64 x] 3))
       (try replace hO := hO.alloc (.cells #[Value.int .i64 x] 3))
       replace hC := hC.alloc hC.size (.cells #[Value.int .i64 x] 3)
       refine hK.out _ _ trivial (fun hHeld => ?_)
       clear hK K
       (try simp only [Act.put, List.setIfInBounds_toArray, List.set_cons_zero, List.set_cons_succ])
       refine wpAnyH_ready (rs := [4]) (by kernel_rfl) (by simp) ?_
       refine' AllReadyH.cons ?_ (fun K hK => ?_) AllReadyH.nil
       rotate_left 1
       ·(simp only [List.getElem?_toArray, List.getElem?_cons_succ, List.getElem?_cons_zero]; try rfl)
       refine step_append_sl rfl _ _ 36 rfl w.heap.size 3 i0 (.int .i64 0) 1 8 (fun _ => rfl) (by intro x u hu; simp [encI] at hu; subst hu; rfl) Tryz.underlying36 hi hz0 hz1 hz2 rfl (by decide) (.slice (some ⟨_, 0, none⟩) 0 0) _ _ rfl hO _ rfl ((HS.out _ hC).cut k (by omega)) (by unfold maxLen; omega) (by omega) hC.size ?_
       intro v4 w4 hO4 hg4
       (try replace hN := hN.grown hg4 (by intro e9; simp [Value.ownBlock] at e9))
       replace hC := below_row hC hO hg4 (Nat.le_refl _) (Nat.le_refl _)
       rw [Nat.zero_add, List.nil_append] at hO4
       obtain ⟨A4, c4, rfl, hc4⟩ := own_form hO4
       clear hO hg4
       refine hK.out _ _ trivial (fun hHeld => ?_)
       clear hK K
       (try simp only [Act.put, List.setIfInBounds_toArray, List.set_cons_zero, List.set_cons_succ])
       refine wpAnyH_ready (rs := [7]) (by kernel_rfl) (by simp) ?_
       refine' AllReadyH.cons ?_ (fun K hK => ?_) AllReadyH.nil
       rotate_left 1
       ·(simp only [List.getElem?_toArray, List.getElem?_cons_succ, List.getElem?_cons_zero]; try rfl)
       refine step_append_sl rfl _ _ 36 rfl w.heap.size 3 i0 (.int .i64 0) 1 8 (fun _ => rfl) (by intro x u hu; simp [encI] at hu; subst hu; rfl) Tryz.underlying36 hi hz0 hz1 hz2 rfl (by decide) (.slice A4 k c4) _ _ rfl hO4 _ rfl (WOne.sl (enc := encI) (x := x) hN) (by unfold maxLen; omega) (by omega) hC.size ?_
       intro v7 w7 hO7 hg7
       replace hC := below_row hC hO4 hg7 (Nat.le_refl _) (Nat.le_refl _)
       obtain ⟨A7, c7, rfl, hc7⟩ := own_form hO7
       clear hO4 hg7 hN
       refine hK.out _ _ trivial (fun hHeld => ?_)
       clear hK K
       (try simp only [Act.put, List.setIfInBounds_toArray, List.set_cons_zero, List.set_cons_succ])
       refine wpAnyH_ready (rs := [11]) (by kernel_rfl) (by simp) ?_
       refine' AllReadyH.cons ?_ (fun K hK => ?_) AllReadyH.nil
       rotate_left 1
       ·(simp only [List.getElem?_toArray, List.getElem?_cons_succ, List.getElem?_cons_zero]; try rfl)
       refine step_append_sl rfl _ _ 36 rfl w.heap.size 3 i0 (.int .i64 0) 1 8 (fun _ => rfl) (by intro x u hu; simp [encI] at hu; subst hu; rfl) Tryz.underlying36 hi hz0 hz1 hz2 rfl (by decide) (.slice A7 (k + 1) c7) _ _ rfl hO7 _ rfl ((HS.out _ hC).drop_ (q := k) (by omega) (by intro h9 b9 o9 e9; first | (exfalso; omega) | (cases e9; first | rfl | (rw [if_neg (by omega)]; simp) | (simp; omega) | simp)))  (by unfold maxLen; omega) (by omega) hC.size ?_
       intro v11 w11 hO11 hg11
       replace hC := below_row hC hO7 hg11 (Nat.le_refl _) (Nat.le_refl _)
       obtain ⟨A11, c11, rfl, hc11⟩ := own_form hO11
       clear hO7 hg11
       refine hK.out _ _ trivial (fun hHeld => ?_)
       clear hK K
       (try simp only [Act.put, List.setIfInBounds_toArray, List.set_cons_zero, List.set_cons_succ])
       refine' takeW 12 ?_ ?_ ?_ (by kernel_rfl) (by kernel_rfl) (by kernel_rfl) (fun _ _ _ h => h) hHeld ?_
       rotate_left 2
       ·(simp only [List.getElem?_toArray, List.getElem?_cons_succ, List.getElem?_cons_zero]; try rfl)
       ·rfl
       ·(intro w hSw; (try dsimp only at hSw); go_simp; first | done | with_reducible rfl)
       (try simp only [Act.put, List.setIfInBounds_toArray, List.set_cons_zero, List.set_cons_succ])
       refine wpAnyH_done (by kernel_rfl) ?_ _
       refine NoPanic.normal ?_
       go_wp2_with fail
       all_goals (go_ret; refine ⟨⟨A11, _, c11, rfl, by omega, hc11, ?_⟩, hC⟩; rw [HR.out])
       all_goals exact (ins_sl (enc := encI) (fun _ => rfl) hO11 HL.out (by omega)).less hLw
     case s1_7_6 =>
      (try go_simp)
      have hN := one1 hC [Value.int .i64 x] 3
      (try simp only [World.size_alloc] at hN)
      (try replace hO4 := hO4.alloc (.cells #[Value.int .i64 x] 3))
      (try replace hO := hO.alloc (.cells #[Value.int .i64 x] 3))
      replace hC := hC.alloc hC.size (.cells #[Value.int .i64 x] 3)
      refine hK.out _ _ trivial (fun hHeld => ?_)
      clear hK K
      (try simp only [Act.put, List.setIfInBounds_toArray, List.set_cons_zero, List.set_cons_succ])
      refine wpAnyH_ready (rs := [0]) (by kernel_rfl) (by simp) ?_
      refine' AllReadyH.cons ?_ (fun K hK => ?_) AllReadyH.nil
      rotate_left 1
      ·(simp only [List.getElem?_toArray, List.getElem?_cons_succ, List.getElem?_cons_zero]; try rfl)
      (try go_simp)
      have hO := own0 (e := 3) (k := 1) hC (Nat.le_refl _)
      (try simp only [World.size_alloc] at hO)
      (try replace hN := hN.up (one_alloc _ (.cells #[] 3)))
      replace hC := hC.alloc hC.size (.cells #[] 3)
      refine hK.out _ _ trivial (fun hHeld => ?_)
      clear hK K
      (try simp only [Act.put, List.setIfInBounds_toArray, List.set_cons_zero, List.set_cons_succ])
      refine wpAnyH_ready (rs := [4]) (by kernel_rfl) (by simp) ?_
      refine' AllReadyH.cons ?_ (fun K hK => ?_) AllReadyH.nil
      rotate_left 1
      ·(simp only [List.getElem?_toArray, List.getElem?_cons_succ, List.getElem?_cons_zero]; try rfl)
      refine step_append_sl rfl _ _ 36 rfl w.heap.size 3 i0 (.int .i64 0) 1 8 (fun _ => rfl) (by intro x u hu; simp [encI] at hu; subst hu; rfl) Tryz.underlying36 hi hz0 hz1 hz2 rfl (by decide) (.slice (some ⟨_, 0, none⟩) 0 0) _ _ rfl hO _ rfl ((HS.out _ hC).cut k (by omega)) (by unfold maxLen; omega) (by omega) hC.size ?_
      intro v4 w4 hO4 hg4
      (try replace hN := hN.grown hg4 (by intro e9; simp [Value.ownBlock] at e9))
      replace hC := below_row hC hO hg4 (Nat.le_refl _) (Nat.le_refl _)
      rw [Nat.zero_add, List.nil_append] at hO4
      obtain ⟨A4, c4, rfl, hc4⟩ := own_form hO4
      clear hO hg4
      refine hK.out _ _ trivial (fun hHeld => ?_)
      clear hK K
      (try simp only [Act.put, List.setIfInBounds_toArray, List.set_cons_zero, List.set_cons_succ])
      refine wpAnyH_ready (rs := [7]) (by kernel_rfl) (by simp) ?_
      refine' AllReadyH.cons ?_ (fun K hK => ?_) AllReadyH.nil
      rotate_left 1
      ·(simp only [List.getElem?_toArray, List.getElem?_cons_succ, List.getElem?_cons_zero]; try rfl)
      refine step_append_sl rfl _ _ 36 rfl w.heap.size 3 i0 (.int .i64 0) 1 8 (fun _ => rfl) (by intro x u hu; simp [encI] at hu; subst hu; rfl) Tryz.underlying36 hi hz0 hz1 hz2 rfl (by decide) (.slice A4 k c4) _ _ rfl hO4 _ rfl (WOne.sl (enc := encI) (x := x) hN) (by unfold maxLen; omega) (by omega) hC.size ?_
      intro v7 w7 hO7 hg7
      replace hC := below_row hC hO4 hg7 (Nat.le_refl _) (Nat.le_refl _)
      obtain ⟨A7, c7, rfl, hc7⟩ := own_form hO7
      clear hO4 hg7 hN
      refine hK.out _ _ trivial (fun hHeld => ?_)
      clear hK K
      (try simp only [Act.put, List.setIfInBounds_toArray, List.set_cons_zero, List.set_cons_succ])
      refine wpAnyH_ready (rs := [11]) (by kernel_rfl) (by simp) ?_
      refine' AllReadyH.cons ?_ (fun K hK => ?_) AllReadyH.nil
      rotate_left 1
      ·(simp only [List.getElem?_toArray, List.getElem?_cons_succ, List.getElem?_cons_zero]; try rfl)
      refine step_append_sl rfl _ _ 36 rfl w.heap.size 3 i0 (.int .i64 0) 1 8 (fun _ => rfl) (by intro x u hu; simp [encI] at hu; subst hu; rfl) Tryz.underlying36 hi hz0 hz1 hz2 rfl (by decide) (.slice A7 (k + 1) c7) _ _ rfl hO7 _ rfl ((HS.out _ hC).drop_ (q := k) (by omega) (by intro h9 b9 o9 e9; first | (exfalso; omega) | (cases e9; first | rfl | (rw [if_neg (by omega)]; simp) | (simp; omega) | simp)))  (by unfold maxLen; omega) (by omega) hC.size ?_
      intro v11 w11 hO11 hg11
      replace hC := below_row hC hO7 hg11 (Nat.le_refl _) (Nat.le_refl _)
      obtain ⟨A11, c11, rfl, hc11⟩ := own_form hO11
      clear hO7 hg11
      refine hK.out _ _ trivial (fun hHeld => ?_)
      clear hK K
      (try simp only [Act.put, List.setIfInBounds_toArray, List.set_cons_zero, List.set_cons_succ])
      refine' takeW 12 ?_ ?_ ?_ (by kernel_rfl) (by kernel_rfl) (by kernel_rfl) (fun _ _ _ h => h) hHeld ?_
      rotate_left 2
      ·(simp only [List.getElem?_toArray, List.getElem?_cons_succ, List.getElem?_cons_zero]; try rfl)
      ·rfl
      ·(intro w hSw; (try dsimp only at hSw); go_simp; first | done | with_reducible rfl)
      (try simp only [Act.put, List.setIfInBounds_toArray, List.set_cons_zero, List.set_cons_succ])
      refine wpAnyH_done (by kernel_rfl) ?_ _
      refine NoPanic.normal ?_
      go_wp2_with fail
      all_goals (go_ret; refine ⟨⟨A11, _, c11, rfl, by omega, hc11, ?_⟩, hC⟩; rw [HR.out])
      all_goals exact (ins_sl (enc := encI) (fun _ => rfl) hO11 HL.out (by omega)).less hLw
  ·obtain rfl : k = n := by omega
   have HCT := Lib.hid (withI_cut (n := x) k l HV.out (.inl HL.out.symm))
   have HR : Hid (withI x l = l.take k ++ x :: l.drop k) := by show _ = _; rw [HCT.out, if_neg (by rw [List.getElem?_eq_none (by have := HL.out; omega)]; simp)]
   rcases A with _ | ⟨b, off, i⟩
   ·have hC : Below w.heap.size w w.drew := (Below.refl _ _).drew
    have hkc : k ≤ c := by omega
    go_wp2_with fail
    refine wp_region_noPanic ?_
    refine wp_region_held_drew (S := fun _ => True) (by kernel_rfl) trivial (fun hHeld => ?_)
    generalize w.drew = W at *
    refine' takeW 1 ?_ ?_ ?_ (by kernel_rfl) (by kernel_rfl) (by kernel_rfl) (fun _ _ _ h => h) hHeld ?_
    rotate_left 2
    ·(simp only [List.getElem?_toArray, List.getElem?_cons_succ, List.getElem?_cons_zero]; try rfl)
    ·rfl
    ·(intro w hSw; (try dsimp only at hSw); go_simp; first | done | with_reducible rfl)
    (try simp only [Act.put, List.setIfInBounds_toArray, List.set_cons_zero, List.set_cons_succ])
    refine' takeW 2 ?_ ?_ ?_ (by kernel_rfl) (by kernel_rfl) (by kernel_rfl) (fun _ _ _ h => h) hHeld ?_
    rotate_left 2
    ·(simp only [List.getElem?_toArray, List.getElem?_cons_succ, List.getElem?_cons_zero]; try rfl)
    ·rfl
    ·(intro w hSw; (try dsimp only at hSw); go_simp; first | done | with_reducible rfl)
    (try simp only [Act.put, List.setIfInBounds_toArray, List.set_cons_zero, List.set_cons_succ])
    refine' takeW 3 ?_ ?_ ?_ (by kernel_rfl) (by kernel_rfl) (by kernel_rfl) (fun _ _ _ h => h) hHeld ?_
    rotate_left 2
    ·(simp only [List.getElem?_toArray, List.getElem?_cons_succ, List.getElem?_cons_zero]; try rfl)
    ·rfl
    ·(intro w hSw; (try dsimp only at hSw); go_simp; first | done | with_reducible rfl)
    (try simp only [Act.put, List.setIfInBounds_toArray, List.set_cons_zero, List.set_cons_succ])
    refine' takeW 5 ?_ ?_ ?_ (by kernel_rfl) (by kernel_rfl) (by kernel_rfl) (fun _ _ _ h => h) hHeld ?_
    rotate_left 2
    ·(simp only [List.getElem?_toArray, List.getElem?_cons_succ, List.getElem?_cons_zero]; try rfl)
    ·rfl
    ·(intro w hSw; (try dsimp only at hSw); go_simp; first | done | with_reducible rfl)
    (try simp only [Act.put, List.setIfInBounds_toArray, List.set_cons_zero, List.set_cons_succ])
    refine' takeW 8 ?_ ?_ ?_ (by kernel_rfl) (by kernel_rfl) (by kernel_rfl) (fun _ _ _ h => h) hHeld ?_
    rotate_left 2
    ·(simp only [List.getElem?_toArray, List.getElem?_cons_succ, List.getElem?_cons_zero]; try rfl)
    ·rfl
    ·(intro w hSw; (try dsimp only at hSw); go_simp; first | done | with_reducible rfl)
    (try simp only [Act.put, List.setIfInBounds_toArray, List.set_cons_zero, List.set_cons_succ])
    refine' takeW 9 ?_ ?_ ?_ (by kernel_rfl) (by kernel_rfl) (by kernel_rfl) (fun _ _ _ h => h) hHeld ?_
    rotate_left 2
    ·(simp only [List.getElem?_toArray, List.getElem?_cons_succ, List.getElem?_cons_zero]; try rfl)
    ·rfl
    ·(intro w hSw; (try dsimp only at hSw); go_simp; first | done | with_reducible rfl)
    (try simp only [Act.put, List.setIfInBounds_toArray, List.set_cons_zero, List.set_cons_succ])
    refine' takeW 10 ?_ ?_ ?_ (by kernel_rfl) (by kernel_rfl) (by kernel_rfl) (fun _ _ _ h => h) hHeld ?_
    rotate_left 2
    ·(simp only [List.getElem?_toArray, List.getElem?_cons_succ, List.getElem?_cons_zero]; try rfl)
    ·rfl
    ·(intro w hSw; (try dsimp only at hSw); go_simp; first | done | with_reducible rfl)
    (try simp only [Act.put, List.setIfInBounds_toArray, List.set_cons_zero, List.set_cons_succ])
    refine wpAnyH_ready (rs := [0, 6]) (by kernel_rfl) (by simp) ?_
    refine AllReadyH.cons (o := ?o2_7_0) ?h2_7_0 (fun K hK => ?s2_7_0) (AllReadyH.cons (o := ?o2_7_6) ?h2_7_6 (fun K hK => ?s2_7_6) AllReadyH.nil)
    case h2_7_0 => (simp only [List.getElem?_toArray, List.getElem?_cons_succ, List.getElem?_cons_zero]; try rfl)
    case h2_7_6 => (simp only [List.getElem?_toArray, List.getElem?_cons_succ, List.getElem?_cons_zero]; try rfl)
    case s2_7_0 =>
     (try go_simp)
     have hO := own0 (e := 3) (k := 1) hC (Nat.le_refl _)
     (try simp only [World.size_alloc] at hO)
     (try replace hN := hN.up (one_alloc _ (.cells #[] 3)))
     replace hC := hC.alloc hC.size (.cells #[] 3)
     refine hK.out _ _ trivial (fun hHeld => ?_)
     clear hK K
     (try simp only [Act.put, List.setIfInBounds_toArray, List.set_cons_zero, List.set_cons_succ])
     refine wpAnyH_ready (rs := [4, 6]) (by kernel_rfl) (by simp) ?_
     refine AllReadyH.cons (o := ?o2_8_4) ?h2_8_4 (fun K hK => ?s2_8_4) (AllReadyH.cons (o := ?o2_8_6) ?h2_8_6 (fun K hK => ?s2_8_6) AllReadyH.nil)
     case h2_8_4 => (simp only [List.getElem?_toArray, List.getElem?_cons_succ, List.getElem?_cons_zero]; try rfl)
     case h2_8_6 => (simp only [List.getElem?_toArray, List.getElem?_cons_succ, List.getElem?_cons_zero]; try rfl)
     case s2_8_4 =>
      refine step_append_sl rfl _ _ 36 rfl w.heap.size 3 i0 (.int .i64 0) 1 8 (fun _ => rfl) (by intro x u hu; simp [encI] at hu; subst hu; rfl) Tryz.underlying36 hi hz0 hz1 hz2 rfl (by decide) (.slice (some ⟨_, 0, none⟩) 0 0) _ _ rfl hO _ rfl ((HS.out _ hC).cut k (by omega)) (by unfold maxLen; omega) (by omega) hC.size ?_
      intro v4 w4 hO4 hg4
      (try replace hN := hN.grown hg4 (by intro e9; simp [Value.ownBlock] at e9))
      replace hC := below_row hC hO hg4 (Nat.le_refl _) (Nat.le_refl _)
      rw [Nat.zero_add, List.nil_append] at hO4
      obtain ⟨A4, c4, rfl, hc4⟩ := own_form hO4
      clear hO hg4
      refine hK.out _ _ trivial (fun hHeld => ?_)
      clear hK K
      (try simp only [Act.put, List.setIfInBounds_toArray, List.set_cons_zero, List.set_cons_succ])
      refine wpAnyH_ready (rs := [6]) (by kernel_rfl) (by simp) ?_
      refine' AllReadyH.cons ?_ (fun K hK => ?_) AllReadyH.nil
      rotate_left 1
      ·(simp only [List.getElem?_toArray, List.getElem?_cons_succ, List.getElem?_cons_zero]; try rfl)
      (try go_simp)
      have hN := one1 hC [Value.int .i64 x] 3
      (try simp only [World.size_alloc] at hN)
      (try replace hO4 := hO4.alloc (.cells #[Value.int .i64 x] 3))
      (try replace hO := hO.alloc (.cells #[Value.int .i64 x] 3))
      replace hC := hC.alloc hC.size (.cells #[Value.int .i64 x] 3)
      refine hK.out _ _ trivial (fun hHeld => ?_)
      clear hK K
      (try simp only [Act.put, List.setIfInBounds_toArray, List.set_cons_zero, List.set_cons_succ])
      refine wpAnyH_ready (rs := [7]) (by kernel_rfl) (by simp) ?_
      refine' AllReadyH.cons ?_ (fun K hK => ?_) AllReadyH.nil
      rotate_left 1
      ·(simp only [List.getElem?_toArray, List.getElem?_cons_succ, List.getElem?_cons_zero]; try rfl)
      refine step_append_sl rfl _ _ 36 rfl w.heap.size 3 i0 (.int .i64 0) 1 8 (fun _ => rfl) (by intro x u hu; simp [encI] at hu; subst hu; rfl) Tryz.underlying36 hi hz0 hz1 hz2 rfl (by decide) (.slice A4 k c4) _ _ rfl hO4 _ rfl (WOne.sl (enc := encI) (x := x) hN) (by unfold maxLen; omega) (by omega) hC.size ?_
      intro v7 w7 hO7 hg7
      replace hC := below_row hC hO4 hg7 (Nat.le_refl _) (Nat.le_refl _)
      obtain ⟨A7, c7, rfl, hc7⟩ := own_form hO7
      clear hO4 hg7 hN
      refine hK.out _ _ trivial (fun hHeld => ?_)
      clear hK K
      (try simp only [Act.put, List.setIfInBounds_toArray, List.set_cons_zero, List.set_cons_succ])
      refine wpAnyH_ready (rs := [11]) (by kernel_rfl) (by simp) ?_
      refine' AllReadyH.cons ?_ (fun K hK => ?_) AllReadyH.nil
      rotate_left 1
      ·(simp only [List.getElem?_toArray, List.getElem?_cons_succ, List.getElem?_cons_zero]; try rfl)
      refine step_append_sl rfl _ _ 36 rfl w.heap.size 3 i0 (.int .i64 0) 1 8 (fun _ => rfl) (by intro x u hu; simp [encI] at hu; subst hu; rfl) Tryz.underlying36 hi hz0 hz1 hz2 rfl (by decide) (.slice A7 (k + 1) c7) _ _ rfl hO7 _ rfl (Sl.nil (L := 0) (B := 0) (k := 1) (enc := encI))  (by unfold maxLen; omega) (by omega) hC.size ?_
      intro v11 w11 hO11 hg11
      replace hC := below_row hC hO7 hg11 (Nat.le_refl _) (Nat.le_refl _)
      obtain ⟨A11, c11, rfl, hc11⟩ := own_form hO11
      clear hO7 hg11
      refine hK.out _ _ trivial (fun hHeld => ?_)
      clear hK K
      (try simp only [Act.put, List.setIfInBounds_toArray, List.set_cons_zero, List.set_cons_succ])
      refine' takeW 12 ?_ ?_ ?_ (by kernel_rfl) (by kernel_rfl) (by kernel_rfl) (fun _ _ _ h => h) hHeld ?_
      rotate_left 2
      ·(simp only [List.getElem?_toArray, List.getElem?_cons_succ, List.getElem?_cons_zero]; try rfl)
      ·rfl
      ·(intro w hSw; (try dsimp only at hSw); go_simp; first | done | with_reducible rfl)
      (try simp only [Act.put, List.setIfInBounds_toArray, List.set_cons_zero, List.set_cons_succ])
      refine wpAnyH_done (by kernel_rfl) ?_ _
      refine NoPanic.normal ?_
      go_wp2_with fail
      all_goals (go_ret; refine ⟨⟨A11, _, c11, rfl, by omega, hc11, ?_⟩, hC⟩; rw [HR.out])
      all_goals exact (ins_sl0 (enc := encI) (fun _ => rfl) hO11 HL.out).less hLw
     case s2_8_6 =>
      (try go_simp)
      have hN := one1 hC [Value.int .i64 x] 3
      (try simp only [World.size_alloc] at hN)
      (try replace hO4 := hO4.alloc (.cells #[Value.int .i64 x] 3))
      (try replace hO := hO.alloc (.cells #[Value.int .i64 x] 3))
      replace hC := hC.alloc hC.size (.cells #[Value.int .i64 x] 3)
      refine hK.out _ _ trivial (fun hHeld => ?_)
      clear hK K
      (try simp only [Act.put, List.setIfInBounds_toArray, List.set_cons_zero, List.set_cons_succ])
      refine wpAnyH_ready (rs := [4]) (by kernel_rfl) (by simp) ?_
      refine' AllReadyH.cons ?_ (fun K hK => ?_) AllReadyH.nil
      rotate_left 1
      ·(simp only [List.getElem?_toArray, List.getElem?_cons_succ, List.getElem?_cons_zero]; try rfl)
      refine step_append_sl rfl _ _ 36 rfl w.heap.size 3 i0 (.int .i64 0) 1 8 (fun _ => rfl) (by intro x u hu; simp [encI] at hu; subst hu; rfl) Tryz.underlying36 hi hz0 hz1 hz2 rfl (by decide) (.slice (some ⟨_, 0, none⟩) 0 0) _ _ rfl hO _ rfl ((HS.out _ hC).cut k (by omega)) (by unfold maxLen; omega) (by omega) hC.size ?_
      intro v4 w4 hO4 hg4
      (try replace hN := hN.grown hg4 (by intro e9; simp [Value.ownBlock] at e9))
      replace hC := below_row hC hO hg4 (Nat.le_refl _) (Nat.le_refl _)
      rw [Nat.zero_add, List.nil_append] at hO4
      obtain ⟨A4, c4, rfl, hc4⟩ := own_form hO4
      clear hO hg4
      refine hK.out _ _ trivial (fun hHeld => ?_)
      clear hK K
      (try simp only [Act.put, List.setIfInBounds_toArray, List.set_cons_zero, List.set_cons_succ])
      refine wpAnyH_ready (rs := [7]) (by kernel_rfl) (by simp) ?_
      refine' AllReadyH.cons ?_ (fun K hK => ?_) AllReadyH.nil
      rotate_left 1
      ·(simp only [List.getElem?_toArray, List.getElem?_cons_succ, List.getElem?_cons_zero]; try rfl)
      refine step_append_sl rfl _ _ 36 rfl w.heap.size 3 i0 (.int .i64 0) 1 8 (fun _ => rfl) (by intro x u hu; simp [encI] at hu; subst hu; rfl) Tryz.underlying36 hi hz0 hz1 hz2 rfl (by decide) (.slice A4 k c4) _ _ rfl hO4 _ rfl (WOne.sl (enc := encI) (x := x) hN) (by unfold maxLen; omega) (by omega) hC.size ?_
      intro v7 w7 hO7 hg7
      replace hC := below_row hC hO4 hg7 (Nat.le_refl _) (Nat.le_refl _)
      obtain ⟨A7, c7, rfl, hc7⟩ := own_form hO7
      clear hO4 hg7 hN
      refine hK.out _ _ trivial (fun hHeld => ?_)
      clear hK K
      (try simp only [Act.put, List.setIfInBounds_toArray, List.set_cons_zero, List.set_cons_succ])
      refine wpAnyH_ready (rs := [11]) (by kernel_rfl) (by simp) ?_
      refine' AllReadyH.cons ?_ (fun K hK => ?_) AllReadyH.nil
      rotate_left 1
      ·(simp only [List.getElem?_toArray, List.getElem?_cons_succ, List.getElem?_cons_zero]; try rfl)
      refine step_append_sl rfl _ _ 36 rfl w.heap.size 3 i0 (.int .i64 0) 1 8 (fun _ => rfl) (by intro x u hu; simp [encI] at hu; subst hu; rfl) Tryz.underlying36 hi hz0 hz1 hz2 rfl (by decide) (.slice A7 (k + 1) c7) _ _ rfl hO7 _ rfl (Sl.nil (L := 0) (B := 0) (k := 1) (enc := encI))  (by unfold maxLen; omega) (by omega) hC.size ?_
      intro v11 w11 hO11 hg11
      replace hC := below_row hC hO7 hg11 (Nat.le_refl _) (Nat.le_refl _)
      obtain ⟨A11, c11, rfl, hc11⟩ := own_form hO11
      clear hO7 hg11
      refine hK.out _ _ trivial (fun hHeld => ?_)
      clear hK K
      (try simp only [Act.put, List.setIfInBounds_toArray, List.set_cons_zero, List.set_cons_succ])
      refine' takeW 12 ?_ ?_ ?_ (by kernel_rfl) (by kernel_rfl) (by kernel_rfl) (fun _ _ _ h => h) hHeld ?_
      rotate_left 2
      ·(simp only [List.getElem?_toArray, List.getElem?_cons_succ, List.getElem?_cons_zero]; try rfl)
      ·rfl
      ·(intro w hSw; (try dsimp only at hSw); go_simp; first | done | with_reducible rfl)
      (try simp only [Act.put, List.setIfInBounds_toArray, List.set_cons_zero, List.set_cons_succ])
      refine wpAnyH_done (by kernel_rfl) ?_ _
      refine NoPanic.normal ?_
      go_wp2_with fail
      all_goals (go_ret; refine ⟨⟨A11, _, c11, rfl, by omega, hc11, ?_⟩, hC⟩; rw [HR.out])
      all_goals exact (ins_sl0 (enc := encI) (fun _ => rfl) hO11 HL.out).less hLw
    case s2_7_6 =>
     (try go_simp)
     have hN := one1 hC [Value.int .i64 x] 3
     (try simp only [World.size_alloc] at hN)
     (try replace hO4 := hO4.alloc (.cells #[Value.int .i64 x] 3))
     (try replace hO := hO.alloc (.cells #[Value.int .i64 x] 3))
     replace hC := hC.alloc hC.size (.cells #[Value.int .i64 x] 3)
     refine hK.out _ _ trivial (fun hHeld => ?_)
     clear hK K
     (try simp only [Act.put, List.setIfInBounds_toArray, List.set_cons_zero, List.set_cons_succ])
     refine wpAnyH_ready (rs := [0]) (by kernel_rfl) (by simp) ?_
     refine' AllReadyH.cons ?_ (fun K hK => ?_) AllReadyH.nil
     rotate_left 1
     ·(simp only [List.getElem?_toArray, List.getElem?_cons_succ, List.getElem?_cons_zero]; try rfl)
     (try go_simp)
     have hO := own0 (e := 3) (k := 1) hC (Nat.le_refl _)
     (try simp only [World.size_alloc] at hO)
     (try replace hN := hN.up (one_alloc _ (.cells #[] 3)))
     replace hC := hC.alloc hC.size (.cells #[] 3)
     refine hK.out _ _ trivial (fun hHeld => ?_)
     clear hK K
     (try simp only [Act.put, List.setIfInBounds_toArray, List.set_cons_zero, List.set_cons_succ])
     refine wpAnyH_ready (rs := [4]) (by kernel_rfl) (by simp) ?_
     refine' AllReadyH.cons ?_ (fun K hK => ?_) AllReadyH.nil
     rotate_left 1
     ·(simp only [List.getElem?_toArray, List.getElem?_cons_succ, List.getElem?_cons_zero]; try rfl)
     refine step_append_sl rfl _ _ 36 rfl w.heap.size 3 i0 (.int .i64 0) 1 8 (fun _ => rfl) (by intro x u hu; simp [encI] at hu; subst hu; rfl) Tryz.underlying36 hi hz0 hz1 hz2 rfl (by decide) (.slice (some ⟨_, 0, none⟩) 0 0) _ _ rfl hO _ rfl ((HS.out _ hC).cut k (by omega)) (by unfold maxLen; omega) (by omega) hC.size ?_
     intro v4 w4 hO4 hg4
     (try replace hN := hN.grown hg4 (by intro e9; simp [Value.ownBlock] at e9))
     replace hC := below_row hC hO hg4 (Nat.le_refl _) (Nat.le_refl _)
     rw [Nat.zero_add, List.nil_append] at hO4
     obtain ⟨A4, c4, rfl, hc4⟩ := own_form hO4
     clear hO hg4
     refine hK.out _ _ trivial (fun hHeld => ?_)
     clear hK K
     (try simp only [Act.put, List.setIfInBounds_toArray, List.set_cons_zero, List.set_cons_succ])
     refine wpAnyH_ready (rs := [7]) (by kernel_rfl) (by simp) ?_
     refine' AllReadyH.cons ?_ (fun K hK => ?_) AllReadyH.nil
     rotate_left 1
     ·(simp only [List.getElem?_toArray, List.getElem?_cons_succ, List.getElem?_cons_zero]; try rfl)
     refine step_append_sl rfl _ _ 36 rfl w.heap.size 3 i0 (.int .i64 0) 1 8 (fun _ => rfl) (by intro x u hu; simp [encI] at hu; subst hu; rfl) Tryz.underlying36 hi hz0 hz1 hz2 rfl (by decide) (.slice A4 k c4) _ _ rfl hO4 _ rfl (WOne.sl (enc := encI) (x := x) hN) (by unfold maxLen; omega) (by omega) hC.size ?_
     intro v7 w7 hO7 hg7
     replace hC := below_row hC hO4 hg7 (Nat.le_refl _) (Nat.le_refl _)
     obtain ⟨A7, c7, rfl, hc7⟩ := own_form hO7
     clear hO4 hg7 hN
     refine hK.out _ _ trivial (fun hHeld => ?_)
     clear hK K
     (try simp only [Act.put, List.setIfInBounds_toArray, List.set_cons_zero, List.set_cons_succ])
     refine wpAnyH_ready (rs := [11]) (by kernel_rfl) (by simp) ?_
     refine' AllReadyH.cons ?_ (fun K hK => ?_) AllReadyH.nil
     rotate_left 1
     ·(simp only [List.getElem?_toArray, List.getElem?_cons_succ, List.getElem?_cons_zero]; try rfl)
     refine step_append_sl rfl _ _ 36 rfl w.heap.size 3 i0 (.int .i64 0) 1 8 (fun _ => rfl) (by intro x u hu; simp [encI] at hu; subst hu; rfl) Tryz.underlying36 hi hz0 hz1 hz2 rfl (by decide) (.slice A7 (k + 1) c7) _ _ rfl hO7 _ rfl (Sl.nil (L := 0) (B := 0) (k := 1) (enc := encI))  (by unfold maxLen; omega) (by omega) hC.size ?_
     intro v11 w11 hO11 hg11
     replace hC := below_row hC hO7 hg11 (Nat.le_refl _) (Nat.le_refl _)
     obtain ⟨A11, c11, rfl, hc11⟩ := own_form hO11
     clear hO7 hg11
     refine hK.out _ _ trivial (fun hHeld => ?_)
     clear hK K
     (try simp only [Act.put, List.setIfInBounds_toArray, List.set_cons_zero, List.set_cons_succ])
     refine' takeW 12 ?_ ?_ ?_ (by kernel_rfl) (by kernel_rfl) (by kernel_rfl) (fun _ _ _ h => h) hHeld ?_
     rotate_left 2
     ·(simp only [List.getElem?_toArray, List.getElem?_cons_succ, List.getElem?_cons_zero]; try rfl)
     ·rfl
     ·(intro w hSw; (try dsimp only at hSw); go_simp; first | done | with_reducible rfl)
     (try simp only [Act.put, List.setIfInBounds_toArray, List.set_cons_zero, List.set_cons_succ])
     refine wpAnyH_done (by kernel_rfl) ?_ _
     refine NoPanic.normal ?_
     go_wp2_with fail
     all_goals (go_ret; refine ⟨⟨A11, _, c11, rfl, by omega, hc11, ?_⟩, hC⟩; rw [HR.out])
     all_goals exact (ins_sl0 (enc := encI) (fun _ => rfl) hO11 HL.out).less hLw
   ·have hC : Below w.heap.size w w.drew := (Below.refl _ _).drew
    have hkc : k ≤ c := by omega
    go_wp2_with fail
    refine wp_region_noPanic ?_
    refine wp_region_held_drew (S := fun _ => True) (by kernel_rfl) trivial (fun hHeld => ?_)
    generalize w.drew = W at *
    refine' takeW 1 ?_ ?_ ?_ (by kernel_rfl) (by kernel_rfl) (by kernel_rfl) (fun _ _ _ h => h) hHeld ?_
    rotate_left 2
    ·(simp only [List.getElem?_toArray, List.getElem?_cons_succ, List.getElem?_cons_zero]; try rfl)
    ·rfl
    ·(intro w hSw; (try dsimp only at hSw); go_simp; first | done | with_reducible rfl)
    (try simp only [Act.put, List.setIfInBounds_toArray, List.set_cons_zero, List.set_cons_succ])
    refine' takeW 2 ?_ ?_ ?_ (by kernel_rfl) (by kernel_rfl) (by kernel_rfl) (fun _ _ _ h => h) hHeld ?_
    rotate_left 2
    ·(simp only [List.getElem?_toArray, List.getElem?_cons_succ, List.getElem?_cons_zero]; try rfl)
    ·rfl
    ·(intro w hSw; (try dsimp only at hSw); go_simp; first | done | with_reducible rfl)
    (try simp only [Act.put, List.setIfInBounds_toArray, List.set_cons_zero, List.set_cons_succ])
    refine' takeW 3 ?_ ?_ ?_ (by kernel_rfl) (by kernel_rfl) (by kernel_rfl) (fun _ _ _ h => h) hHeld ?_
    rotate_left 2
    ·(simp only [List.getElem?_toArray, List.getElem?_cons_succ, List.getElem?_cons_zero]; try rfl)
    ·rfl
    ·(intro w hSw; (try dsimp only at hSw); go_simp; first | done | with_reducible rfl)
    (try simp only [Act.put, List.setIfInBounds_toArray, List.set_cons_zero, List.set_cons_succ])
    refine' takeW 5 ?_ ?_ ?_ (by kernel_rfl) (by kernel_rfl) (by kernel_rfl) (fun _ _ _ h => h) hHeld ?_
    rotate_left 2
    ·(simp only [List.getElem?_toArray, List.getElem?_cons_succ, List.getElem?_cons_zero]; try rfl)
    ·rfl
    ·(intro w hSw; (try dsimp only at hSw); go_simp; first | done | with_reducible rfl)
    (try simp only [Act.put, List.setIfInBounds_toArray, List.set_cons_zero, List.set_cons_succ])
    refine' takeW 8 ?_ ?_ ?_ (by kernel_rfl) (by kernel_rfl) (by kernel_rfl) (fun _ _ _ h => h) hHeld ?_
    rotate_left 2
    ·(simp only [List.getElem?_toArray, List.getElem?_cons_succ, List.getElem?_cons_zero]; try rfl)
    ·rfl
    ·(intro w hSw; (try dsimp only at hSw); go_simp; first | done | with_reducible rfl)
    (try simp only [Act.put, List.setIfInBounds_toArray, List.set_cons_zero, List.set_cons_succ])
    refine' takeW 9 ?_ ?_ ?_ (by kernel_rfl) (by kernel_rfl) (by kernel_rfl) (fun _ _ _ h => h) hHeld ?_
    rotate_left 2
    ·(simp only [List.getElem?_toArray, List.getElem?_cons_succ, List.getElem?_cons_zero]; try rfl)
    ·rfl
    ·(intro w hSw; (try dsimp only at hSw); go_simp; first | done | with_reducible rfl)
    (try simp only [Act.put, List.setIfInBounds_toArray, List.set_cons_zero, List.set_cons_succ])
    refine' takeW 10 ?_ ?_ ?_ (by kernel_rfl) (by kernel_rfl) (by kernel_rfl) (fun _ _ _ h => h) hHeld ?_
    rotate_left 2
    ·(simp only [List.getElem?_toArray, List.getElem?_cons_succ, List.getElem?_cons_zero]; try rfl)
    ·rfl
    ·(intro w hSw; (try dsimp only at hSw); go_simp; first | done | with_reducible rfl)
    (try simp only [Act.put, List.setIfInBounds_toArray, List.set_cons_zero, List.set_cons_succ])
    refine wpAnyH_ready (rs := [0, 6]) (by kernel_rfl) (by simp) ?_
    refine AllReadyH.cons (o := ?o3_7_0) ?h3_7_0 (fun K hK => ?s3_7_0) (AllReadyH.cons (o := ?o3_7_6) ?h3_7_6 (fun K hK => ?s3_7_6) AllReadyH.nil)
    case h3_7_0 => (simp only [List.getElem?_toArray, List.getElem?_cons_succ, List.getElem?_cons_zero]; try rfl)
    case h3_7_6 => (simp only [List.getElem?_toArray, List.getElem?_cons_succ, List.getElem?_cons_zero]; try rfl)
    case s3_7_0 =>
     (try go_simp)
     have hO := own0 (e := 3) (k := 1) hC (Nat.le_refl _)
     (try simp only [World.size_alloc] at hO)
     (try replace hN := hN.up (one_alloc _ (.cells #[] 3)))
     replace hC := hC.alloc hC.size (.cells #[] 3)
     refine hK.out _ _ trivial (fun hHeld => ?_)
     clear hK K
     (try simp only [Act.put, List.setIfInBounds_toArray, List.set_cons_zero, List.set_cons_succ])
     refine wpAnyH_ready (rs := [4, 6]) (by kernel_rfl) (by simp) ?_
     refine AllReadyH.cons (o := ?o3_8_4) ?h3_8_4 (fun K hK => ?s3_8_4) (AllReadyH.cons (o := ?o3_8_6) ?h3_8_6 (fun K hK => ?s3_8_6) AllReadyH.nil)
     case h3_8_4 => (simp only [List.getElem?_toArray, List.getElem?_cons_succ, List.getElem?_cons_zero]; try rfl)
     case h3_8_6 => (simp only [List.getElem?_toArray, List.getElem?_cons_succ, List.getElem?_cons_zero]; try rfl)
     case s3_8_4 =>
      refine step_append_sl rfl _ _ 36 rfl w.heap.size 3 i0 (.int .i64 0) 1 8 (fun _ => rfl) (by intro x u hu; simp [encI] at hu; subst hu; rfl) Tryz.underlying36 hi hz0 hz1 hz2 rfl (by decide) (.slice (some ⟨_, 0, none⟩) 0 0) _ _ rfl hO _ rfl ((HS.out _ hC).cut k (by omega)) (by unfold maxLen; omega) (by omega) hC.size ?_
      intro v4 w4 hO4 hg4
      (try replace hN := hN.grown hg4 (by intro e9; simp [Value.ownBlock] at e9))
      replace hC := below_row hC hO hg4 (Nat.le_refl _) (Nat.le_refl _)
      rw [Nat.zero_add, List.nil_append] at hO4
      obtain ⟨A4, c4, rfl, hc4⟩ := own_form hO4
      clear hO hg4
      refine hK.out _ _ trivial (fun hHeld => ?_)
      clear hK K
      (try simp only [Act.put, List.setIfInBounds_toArray, List.set_cons_zero, List.set_cons_succ])
      refine wpAnyH_ready (rs := [6]) (by kernel_rfl) (by simp) ?_
      refine' AllReadyH.cons ?_ (fun K hK => ?_) AllReadyH.nil
      rotate_left 1
      ·(simp only [List.getElem?_toArray, List.getElem?_cons_succ, List.getElem?_cons_zero]; try rfl)
      (try go_simp)
      have hN := one1 hC [Value.int .i64 x] 3
      (try simp only [World.size_alloc] at hN)
      (try replace hO4 := hO4.alloc (.cells #[Value.int .i64 x] 3))
      (try replace hO := hO.alloc (.cells #[Value.int .i64 x] 3))
      replace hC := hC.alloc hC.size (.cells #[Value.int .i64 x] 3)
      refine hK.out _ _ trivial (fun hHeld => ?_)
      clear hK K
      (try simp only [Act.put, List.setIfInBounds_toArray, List.set_cons_zero, List.set_cons_succ])
      refine wpAnyH_ready (rs := [7]) (by kernel_rfl) (by simp) ?_
      refine' AllReadyH.cons ?_ (fun K hK => ?_) AllReadyH.nil
      rotate_left 1
      ·(simp only [List.getElem?_toArray, List.getElem?_cons_succ, List.getElem?_cons_zero]; try rfl)
      refine step_append_sl rfl _ _ 36 rfl w.heap.size 3 i0 (.int .i64 0) 1 8 (fun _ => rfl) (by intro x u hu; simp [encI] at hu; subst hu; rfl) Tryz.underlying36 hi hz0 hz1 hz2 rfl (by decide) (.slice A4 k c4) _ _ rfl hO4 _ rfl (WOne.sl (enc := encI) (x := x) hN) (by unfold maxLen; omega) (by omega) hC.size ?_
      intro v7 w7 hO7 hg7
      replace hC := below_row hC hO4 hg7 (Nat.le_refl _) (Nat.le_refl _)
      obtain ⟨A7, c7, rfl, hc7⟩ := own_form hO7
      clear hO4 hg7 hN
      refine hK.out _ _ trivial (fun hHeld => ?_)
      clear hK K
      (try simp only [Act.put, List.setIfInBounds_toArray, List.set_cons_zero, List.set_cons_succ])
      refine wpAnyH_ready (rs := [11]) (by kernel_rfl) (by simp) ?_
      refine' AllReadyH.cons ?_ (fun K hK => ?_) AllReadyH.nil
      rotate_left 1
      ·(simp only [List.getElem?_toArray, List.getElem?_cons_succ, List.getElem?_cons_zero]; try rfl)
      refine step_append_sl rfl _ _ 36 rfl w.heap.size 3 i0 (.int .i64 0) 1 8 (fun _ => rfl) (by intro x u hu; simp [encI] at hu; subst hu; rfl) Tryz.underlying36 hi hz0 hz1 hz2 rfl (by decide) (.slice A7 (k + 1) c7) _ _ rfl hO7 _ rfl (Sl.nil (L := 0) (B := 0) (k := 1) (enc := encI))  (by unfold maxLen; omega) (by omega) hC.size ?_
      intro v11 w11 hO11 hg11
      replace hC := below_row hC hO7 hg11 (Nat.le_refl _) (Nat.le_refl _)
      obtain ⟨A11, c11, rfl, hc11⟩ := own_form hO11
      clear hO7 hg11
      refine hK.out _ _ trivial (fun hHeld => ?_)
      clear hK K
      (try simp only [Act.put, List.setIfInBounds_toArray, List.set_cons_zero, List.set_cons_succ])
      refine' takeW 12 ?_ ?_ ?_ (by kernel_rfl) (by kernel_rfl) (by kernel_rfl) (fun _ _ _ h => h) hHeld ?_
      rotate_left 2
      ·(simp only [List.getElem?_toArray, List.getElem?_cons_succ, List.getElem?_cons_zero]; try rfl)
      ·rfl
      ·(intro w hSw; (try dsimp only at hSw); go_simp; first | done | with_reducible rfl)
      (try simp only [Act.put, List.setIfInBounds_toArray, List.set_cons_zero, List.set_cons_succ])
      refine wpAnyH_done (by kernel_rfl) ?_ _
      refine NoPanic.normal ?_
      go_wp2_with fail
      all_goals (go_ret; refine ⟨⟨A11, _, c11, rfl, by omega, hc11, ?_⟩, hC⟩; rw [HR.out])
      all_goals exact (ins_sl0 (enc := encI) (fun _ => rfl) hO11 HL.out).less hLw
     case s3_8_6 =>
      (try go_simp)
      have hN := one1 hC [Value.int .i64 x] 3
      (try simp only [World.size_alloc] at hN)
      (try replace hO4 := hO4.alloc (.cells #[Value.int .i64 x] 3))
      (try replace hO := hO.alloc (.cells #[Value.int .i64 x] 3))
      replace hC := hC.alloc hC.size (.cells #[Value.int .i64 x] 3)
      refine hK.out _ _ trivial (fun hHeld => ?_)
      clear hK K
      (try simp only [Act.put, List.setIfInBounds_toArray, List.set_cons_zero, List.set_cons_succ])
      refine wpAnyH_ready (rs := [4]) (by kernel_rfl) (by simp) ?_
      refine' AllReadyH.cons ?_ (fun K hK => ?_) AllReadyH.nil
      rotate_left 1
      ·(simp only [List.getElem?_toArray, List.getElem?_cons_succ, List.getElem?_cons_zero]; try rfl)
      refine step_append_sl rfl _ _ 36 rfl w.heap.size 3 i0 (.int .i64 0) 1 8 (fun _ => rfl) (by intro x u hu; simp [encI] at hu; subst hu; rfl) Tryz.underlying36 hi hz0 hz1 hz2 rfl (by decide) (.slice (some ⟨_, 0, none⟩) 0 0) _ _ rfl hO _ rfl ((HS.out _ hC).cut k (by omega)) (by unfold maxLen; omega) (by omega) hC.size ?_
      intro v4 w4 hO4 hg4
      (try replace hN := hN.grown hg4 (by intro e9; simp [Value.ownBlock] at e9))
      replace hC := below_row hC hO hg4 (Nat.le_refl _) (Nat.le_refl _)
      rw [Nat.zero_add, List.nil_append] at hO4
      obtain ⟨A4, c4, rfl, hc4⟩ := own_form hO4
      clear hO hg4
      refine hK.out _ _ trivial (fun hHeld => ?_)
      clear hK K
      (try simp only [Act.put, List.setIfInBounds_toArray, List.set_cons_zero, List.set_cons_succ])
      refine wpAnyH_ready (rs := [7]) (by kernel_rfl) (by simp) ?_
      refine' AllReadyH.cons ?_ (fun K hK => ?_) AllReadyH.nil
      rotate_left 1
      ·(simp only [List.getElem?_toArray, List.getElem?_cons_succ, List.getElem?_cons_zero]; try rfl)
      refine step_append_sl rfl _ _ 36 rfl w.heap.size 3 i0 (.int .i64 0) 1 8 (fun _ => rfl) (by intro x u hu; simp [encI] at hu; subst hu; rfl) Tryz.underlying36 hi hz0 hz1 hz2 rfl (by decide) (.slice A4 k c4) _ _ rfl hO4 _ rfl (WOne.sl (enc := encI) (x := x) hN) (by unfold maxLen; omega) (by omega) hC.size ?_
      intro v7 w7 hO7 hg7
      replace hC := below_row hC hO4 hg7 (Nat.le_refl _) (Nat.le_refl _)
      obtain ⟨A7, c7, rfl, hc7⟩ := own_form hO7
      clear hO4 hg7 hN
      refine hK.out _ _ trivial (fun hHeld => ?_)
      clear hK K
      (try simp only [Act.put, List.setIfInBounds_toArray, List.set_cons_zero, List.set_cons_succ])
      refine wpAnyH_ready (rs := [11]) (by kernel_rfl) (by simp) ?_
      refine' AllReadyH.cons ?_ (fun K hK => ?_) AllReadyH.nil
      rotate_left 1
      ·(simp only [List.getElem?_toArray, List.getElem?_cons_succ, List.getElem?_cons_zero]; try rfl)
      refine step_append_sl rfl _ _ 36 rfl w.heap.size 3 i0 (.int .i64 0) 1 8 (fun _ => rfl) (by intro x u hu; simp [encI] at hu; subst hu; rfl) Tryz.underlying36 hi hz0 hz1 hz2 rfl (by decide) (.slice A7 (k + 1) c7) _ _ rfl hO7 _ rfl (Sl.nil (L := 0) (B := 0) (k := 1) (enc := encI))  (by unfold maxLen; omega) (by omega) hC.size ?_
      intro v11 w11 hO11 hg11
      replace hC := below_row hC hO7 hg11 (Nat.le_refl _) (Nat.le_refl _)
      obtain ⟨A11, c11, rfl, hc11⟩ := own_form hO11
      clear hO7 hg11
      refine hK.out _ _ trivial (fun hHeld => ?_)
      clear hK K
      (try simp only [Act.put, List.setIfInBounds_toArray, List.set_cons_zero, List.set_cons_succ])
      refine' takeW 12 ?_ ?_ ?_ (by kernel_rfl) (by kernel_rfl) (by kernel_rfl) (fun _ _ _ h => h) hHeld ?_
      rotate_left 2
      ·(simp only [List.getElem?_toArray, List.getElem?_cons_succ, List.getElem?_cons_zero]; try rfl)
      ·rfl
      ·(intro w hSw; (try dsimp only at hSw); go_simp; first | done | with_reducible rfl)
      (try simp only [Act.put, List.setIfInBounds_toArray, List.set_cons_zero, List.set_cons_succ])
      refine wpAnyH_done (by kernel_rfl) ?_ _
      refine NoPanic.normal ?_
      go_wp2_with fail
      all_goals (go_ret; refine ⟨⟨A11, _, c11, rfl, by omega, hc11, ?_⟩, hC⟩; rw [HR.out])
      all_goals exact (ins_sl0 (enc := encI) (fun _ => rfl) hO11 HL.out).less hLw
    case s3_7_6 =>
     (try go_simp)
     have hN := one1 hC [Value.int .i64 x] 3
     (try simp only [World.size_alloc] at hN)
     (try replace hO4 := hO4.alloc (.cells #[Value.int .i64 x] 3))
     (try replace hO := hO.alloc (.cells #[Value.int .i64 x] 3))
     replace hC := hC.alloc hC.size (.cells #[Value.int .i64 x] 3)
     refine hK.out _ _ trivial (fun hHeld => ?_)
     clear hK K
     (try simp only [Act.put, List.setIfInBounds_toArray, List.set_cons_zero, List.set_cons_succ])
     refine wpAnyH_ready (rs := [0]) (by kernel_rfl) (by simp) ?_
     refine' AllReadyH.cons ?_ (fun K hK => ?_) AllReadyH.nil
     rotate_left 1
     ·(simp only [List.getElem?_toArray, List.getElem?_cons_succ, List.getElem?_cons_zero]; try rfl)
     (try go_simp)
     have hO := own0 (e := 3) (k := 1) hC (Nat.le_refl _)
     (try simp only [World.size_alloc] at hO)
     (try replace hN := hN.up (one_alloc _ (.cells #[] 3)))
     replace hC := hC.alloc hC.size (.cells #[] 3)
     refine hK.out _ _ trivial (fun hHeld => ?_)
     clear hK K
     (try simp only [Act.put, List.setIfInBounds_toArray, List.set_cons_zero, List.set_cons_succ])
     refine wpAnyH_ready (rs := [4]) (by kernel_rfl) (by simp) ?_
     refine' AllReadyH.cons ?_ (fun K hK => ?_) AllReadyH.nil
     rotate_left 1
     ·(simp only [List.getElem?_toArray, List.getElem?_cons_succ, List.getElem?_cons_zero]; try rfl)
     refine step_append_sl rfl _ _ 36 rfl w.heap.size 3 i0 (.int .i64 0) 1 8 (fun _ => rfl) (by intro x u hu; simp [encI] at hu; subst hu; rfl) Tryz.underlying36 hi hz0 hz1 hz2 rfl (by decide) (.slice (some ⟨_, 0, none⟩) 0 0) _ _ rfl hO _ rfl ((HS.out _ hC).cut k (by omega)) (by unfold maxLen; omega) (by omega) hC.size ?_
     intro v4 w4 hO4 hg4
     (try replace hN := hN.grown hg4 (by intro e9; simp [Value.ownBlock] at e9))
     replace hC := below_row hC hO hg4 (Nat.le_refl _) (Nat.le_refl _)
     rw [Nat.zero_add, List.nil_append] at hO4
     obtain ⟨A4, c4, rfl, hc4⟩ := own_form hO4
     clear hO hg4
     refine hK.out _ _ trivial (fun hHeld => ?_)
     clear hK K
     (try simp only [Act.put, List.setIfInBounds_toArray, List.set_cons_zero, List.set_cons_succ])
     refine wpAnyH_ready (rs := [7]) (by kernel_rfl) (by simp) ?_
     refine' AllReadyH.cons ?_ (fun K hK => ?_) AllReadyH.nil
     rotate_left 1
     ·(simp only [List.getElem?_toArray, List.getElem?_cons_succ, List.getElem?_cons_zero]; try rfl)
     refine step_append_sl rfl _ _ 36 rfl w.heap.size 3 i0 (.int .i64 0) 1 8 (fun _ => rfl) (by intro x u hu; simp [encI] at hu; subst hu; rfl) Tryz.underlying36 hi hz0 hz1 hz2 rfl (by decide) (.slice A4 k c4) _ _ rfl hO4 _ rfl (WOne.sl (enc := encI) (x := x) hN) (by unfold maxLen; omega) (by omega) hC.size ?_
     intro v7 w7 hO7 hg7
     replace hC := below_row hC hO4 hg7 (Nat.le_refl _) (Nat.le_refl _)
     obtain ⟨A7, c7, rfl, hc7⟩ := own_form hO7
     clear hO4 hg7 hN
     refine hK.out _ _ trivial (fun hHeld => ?_)
     clear hK K
     (try simp only [Act.put, List.setIfInBounds_toArray, List.set_cons_zero, List.set_cons_succ])
     refine wpAnyH_ready (rs := [11]) (by kernel_rfl) (by simp) ?_
     refine' AllReadyH.cons ?_ (fun K hK => ?_) AllReadyH.nil
     rotate_left 1
     ·(simp only [List.getElem?_toArray, List.getElem?_cons_succ, List.getElem?_cons_zero]; try rfl)
     refine step_append_sl rfl _ _ 36 rfl w.heap.size 3 i0 (.int .i64 0) 1 8 (fun _ => rfl) (by intro x u hu; simp [encI] at hu; subst hu; rfl) Tryz.underlying36 hi hz0 hz1 hz2 rfl (by decide) (.slice A7 (k + 1) c7) _ _ rfl hO7 _ rfl (Sl.nil (L := 0) (B := 0) (k := 1) (enc := encI))  (by unfold maxLen; omega) (by omega) hC.size ?_
     intro v11 w11 hO11 hg11
     replace hC := below_row hC hO7 hg11 (Nat.le_refl _) (Nat.le_refl _)
     obtain ⟨A11, c11, rfl, hc11⟩ := own_form hO11
     clear hO7 hg11
     refine hK.out _ _ trivial (fun hHeld => ?_)
     clear hK K
     (try simp only [Act.put, List.setIfInBounds_toArray, List.set_cons_zero, List.set_cons_succ])
     refine' takeW 12 ?_ ?_ ?_ (by kernel_rfl) (by kernel_rfl) (by kernel_rfl) (fun _ _ _ h => h) hHeld ?_
     rotate_left 2
     ·(simp only [List.getElem?_toArray, List.getElem?_cons_succ, List.getElem?_cons_zero]; try rfl)
     ·rfl
     ·(intro w hSw; (try dsimp only at hSw); go_simp; first | done | with_reducible rfl)
     (try simp only [Act.put, List.setIfInBounds_toArray, List.set_cons_zero, List.set_cons_succ])
     refine wpAnyH_done (by kernel_rfl) ?_ _
     refine NoPanic.normal ?_
     go_wp2_with fail
     all_goals (go_ret; refine ⟨⟨A11, _, c11, rfl, by omega, hc11, ?_⟩, hC⟩; rw [HR.out])
     all_goals exact (ins_sl0 (enc := encI) (fun _ => rfl) hO11 HL.out).less hLw
end Go.Proofs.YtdokpmfejibdlaaGreatDoor
