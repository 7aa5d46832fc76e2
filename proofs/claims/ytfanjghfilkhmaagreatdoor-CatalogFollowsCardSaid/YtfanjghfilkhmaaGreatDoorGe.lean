/- Top, Number, Key, Follows: the reference's (chapter 47). -/
import Derived.Test.YtfanjghfilkhmaaGreatDoorGd
set_option linter.unusedSimpArgs false
set_option linter.unusedVariables false
namespace Go.Proofs.YtfanjghfilkhmaaGreatDoor
open Go.RowKit

def mxI (a b : Int) : Int := if b > a then b else a
theorem mxI_eq (a b : Int) : mxI a b = max a b := by unfold mxI; split <;> omega
theorem run_mxI {P : Program} (ts : Array TypeId) (t : TypeId) (k k' : IntKind) (x y : Int) (w : World) : (Builtin.max_ ts t #[.int k x, .int k' y]).run P w = .ok (.int k (mxI x y)) w := by
  unfold mxI; simp [go_sem]
def maxL (l : List Int) : Int := l.foldl max 0
theorem maxL_snoc (l : List Int) (x : Int) : maxL (l ++ [x]) = mxI (maxL l) x := by rw [mxI_eq]; unfold maxL; rw [List.foldl_append]; rfl
theorem maxL_take {l r : List Int} {k : Nat} {x : Int} (h : r[k]? = some x) : maxL (l ++ r.take (k + 1)) = mxI (maxL (l ++ r.take k)) x := by
  rw [take_snocS h, ← List.append_assoc, maxL_snoc]
theorem maxL_take0 {r : List Int} {k : Nat} {x : Int} (h : r[k]? = some x) : maxL (r.take (k + 1)) = mxI (maxL (r.take k)) x := by
  rw [take_snocS h, maxL_snoc]
theorem topE_eq (e : Ed) : topE e = maxL (numsE e ++ e.ret) := rfl
def topV (e : Ed) : Value := if validE e then .tuple #[.int .i64 (topE e), .int .i64 0] else .tuple #[.int .i64 0, .int .i64 1]
theorem topV_yes {e : Ed} (h : validE e) : topV e = .tuple #[.int .i64 (topE e), .int .i64 0] := by unfold topV; rw [if_pos h]
theorem topV_no {e : Ed} (h : ¬ validE e) : topV e = .tuple #[.int .i64 0, .int .i64 1] := by unfold topV; rw [if_neg h]
set_option maxRecDepth 100000 in
set_option maxHeartbeats 2000000 in
theorem rtop_any (A : Option Addr) (n c : Nat) (A' : Option Addr) (n' c' : Nat) (e : Ed) (w : World) (hn : n ≤ 1000000) (hn' : n' ≤ 1000000) (hS : EdS w A n A' n' e) :
    Calls Tryz.prog 24 #[.agg #[.slice A n c, .slice A' n' c']] w fun r w' => r = .returned (topV e) ∧ Below w.heap.size w w' := by
  have HL := Lib.hid hS.ents.len
  have HL' := Lib.hid hS.ret.len
  have HU : Hid (∀ W, Below w.heap.size w W → EdS W A n A' n' e) := fun W hW => hS.up hW
  clear hS
  go_enter Tryz.func24, Tryz.ntmps24
  go_wp2_with fail
  refine (rvalid_any A n c A' n' c' e _ hn hn' (HU.out _ (one_alloc _ _))).mono ?_; rintro r w1 ⟨rfl, hb1⟩
  obtain ⟨_, hb, Z⟩ := step1 (Below.refl _ w) hb1
  clear hb1
  by_cases hv : ¬ validE e
  · have HV : Hid (topV e = .tuple #[.int .i64 0, .int .i64 1]) := topV_no hv
    rw [decide_eq_false hv]
    clear hv
    go_wp2_with fail
    go_ret2
    exact ⟨by rw [HV.out]; rfl, hb⟩
  replace hv := Classical.not_not.1 hv
  have HV : Hid (topV e = .tuple #[.int .i64 (topE e), .int .i64 0]) := topV_yes hv
  rw [decide_eq_true hv]
  clear hv
  have hmx := @run_mxI Tryz.prog
  go_wp2_with fail
  go_loopw [4, 5] (fun v s wr => ∃ k : Nat, k ≤ n ∧ s = .int .i64 (k : Int) ∧ v = .int .i64 (maxL ((numsE e).take k)) ∧ Bx wr w.heap.size [.slice A n c, .slice A' n' c'] ∧ Below w.heap.size w wr) (fun _ s _ => n - (intOf s).toNat)
  case atStart => exact ⟨0, by omega, rfl, rfl, Z, hb⟩
  case round =>
    clear hb Z
    obtain ⟨k, hk, rfl, rfl, Z, hb⟩ := hrel
    have Z0 := Z.cell 0 _ rfl; have Z1 := Z.cell 1 _ rfl; have Zlt := Z.lt
    by_cases hlt : k < n
    · obtain ⟨b, off, x, hA, hbb, hx, c0, c1⟩ := (HU.out _ hb).ents.en hlt
      subst hA
      have HX := Lib.hid (maxL_take0 (map_at (f := Prod.snd) hx)); clear hx
      go_wp2_with fail
      go_roundw
      case rel => exact ⟨k + 1, by omega, by go_num, by unfold numsE; rw [HX.out], Z, hb⟩
      case measure => simp [intOf]; omega
    · obtain rfl : k = n := by omega
      have HN : Hid ((numsE e).take k = numsE e) := List.take_of_length_le (by unfold numsE; rw [List.length_map]; have := HL.out; omega)
      rw [HN.out]
      go_wp2_with fail
      go_loopw [4, 6] (fun v s wr => ∃ j : Nat, j ≤ n' ∧ s = .int .i64 (j : Int) ∧ v = .int .i64 (maxL (numsE e ++ e.ret.take j)) ∧ Bx wr w.heap.size [.slice A k c, .slice A' n' c'] ∧ Below w.heap.size w wr) (fun _ s _ => n' - (intOf s).toNat)
      case atStart => exact ⟨0, by omega, rfl, by simp, Z, hb⟩
      case round =>
        clear hb Z Z0 Z1 Zlt
        obtain ⟨j, hj, rfl, rfl, Z, hb⟩ := hrel
        have Z0 := Z.cell 0 _ rfl; have Z1 := Z.cell 1 _ rfl; have Zlt := Z.lt
        by_cases hlt2 : j < n'
        · obtain ⟨b, off, x, hA, hbb, hx, c0⟩ := (HU.out _ hb).ret.in_ hlt2
          subst hA
          have HX := Lib.hid (maxL_take (l := numsE e) hx); clear hx
          go_wp2_with fail
          go_roundw
          case rel => exact ⟨j + 1, by omega, by go_num, by rw [HX.out], Z, hb⟩
          case measure => simp [intOf]; omega
        · obtain rfl : j = n' := by omega
          have HN : Hid (e.ret.take j = e.ret) := List.take_of_length_le (by have := HL'.out; omega)
          rw [HN.out]
          go_wp2_with fail
          go_ret2
          exact ⟨by rw [HV.out]; rfl, hb⟩
def numV (e : Ed) (key : Int) : Value := if validE e then (match findE e key with | some n => .tuple #[.int .i64 n, .int .i64 0] | none => .tuple #[.int .i64 0, .int .i64 7]) else .tuple #[.int .i64 0, .int .i64 1]
def keyV (e : Ed) (n : Int) : Value := if validE e then (match ownE e n with | some n => .tuple #[.int .i64 n, .int .i64 0] | none => .tuple #[.int .i64 0, .int .i64 7]) else .tuple #[.int .i64 0, .int .i64 1]
theorem numV_no {e : Ed} (h : ¬ validE e) (key : Int) : numV e key = .tuple #[.int .i64 0, .int .i64 1] := by unfold numV; rw [if_neg h]
theorem keyV_no {e : Ed} (h : ¬ validE e) (n : Int) : keyV e n = .tuple #[.int .i64 0, .int .i64 1] := by unfold keyV; rw [if_neg h]
theorem numV_yes {e : Ed} (h : validE e) {key n : Int} (hf : findE e key = some n) : numV e key = .tuple #[.int .i64 n, .int .i64 0] := by unfold numV; rw [if_pos h, hf]
theorem numV_none {e : Ed} (h : validE e) {key : Int} (hf : findE e key = none) : numV e key = .tuple #[.int .i64 0, .int .i64 7] := by unfold numV; rw [if_pos h, hf]
theorem keyV_yes {e : Ed} (h : validE e) {n key : Int} (hf : ownE e n = some key) : keyV e n = .tuple #[.int .i64 key, .int .i64 0] := by unfold keyV; rw [if_pos h, hf]
theorem keyV_none {e : Ed} (h : validE e) {n : Int} (hf : ownE e n = none) : keyV e n = .tuple #[.int .i64 0, .int .i64 7] := by unfold keyV; rw [if_pos h, hf]
set_option maxRecDepth 100000 in
set_option maxHeartbeats 2000000 in
theorem rnumber_any (A : Option Addr) (n c : Nat) (A' : Option Addr) (n' c' : Nat) (e : Ed) (key : Int) (w : World) (hn : n ≤ 1000000) (hn' : n' ≤ 1000000) (hS : EdS w A n A' n' e) :
    Calls Tryz.prog 22 #[.agg #[.slice A n c, .slice A' n' c'], .int .i64 key] w fun r w' => r = .returned (numV e key) ∧ Below w.heap.size w w' := by
  have HU : Hid (∀ W, Below w.heap.size w W → EdS W A n A' n' e) := fun W hW => hS.up hW
  clear hS
  go_enter Tryz.func22, Tryz.ntmps22
  go_wp2_with fail
  refine (rvalid_any A n c A' n' c' e _ hn hn' (HU.out _ (one_alloc _ _))).mono ?_; rintro r w1 ⟨rfl, hb1⟩
  obtain ⟨_, hb, Z⟩ := step1 (Below.refl _ w) hb1
  clear hb1
  by_cases hv : ¬ validE e
  · have HV := Lib.hid (numV_no hv key)
    rw [decide_eq_false hv]
    clear hv
    go_wp2_with fail
    go_ret2
    exact ⟨by rw [HV.out]; rfl, hb⟩
  replace hv := Classical.not_not.1 hv
  rw [decide_eq_true hv]
  have Z0 := Z.cell 0 _ rfl; have Z1 := Z.cell 1 _ rfl; have Zlt := Z.lt
  cases hf : findE e key with
  | none =>
    have HV := Lib.hid (numV_none hv hf)
    have HZ := Lib.hid (find0_of hf)
    clear hv hf
    go_wp2_with fail
    refine (rfind_any A n c A' n' c' e key _ hn (HU.out _ hb)).mono ?_; rintro r w2 ⟨rfl, hb2⟩
    (replace hb := hb.trans (hb2.mono hb.size)); clear hb2
    rw [HZ.out]
    dsimp only [Option.getD]
    go_wp2_with fail
    go_ret2
    exact ⟨by rw [HV.out]; rfl, hb⟩
  | some m =>
    have HV := Lib.hid (numV_yes hv hf)
    have HZ := Lib.hid (find0_of hf)
    have hm : (m == 0) = false := by have := (own_find hv hf).2.2; simp; omega
    clear hv hf
    go_wp2_with fail
    refine (rfind_any A n c A' n' c' e key _ hn (HU.out _ hb)).mono ?_; rintro r w2 ⟨rfl, hb2⟩
    (replace hb := hb.trans (hb2.mono hb.size)); clear hb2
    rw [HZ.out]
    dsimp only [Option.getD]
    go_wp2_with fail
    go_ret2
    exact ⟨by rw [HV.out]; rfl, hb⟩
set_option maxRecDepth 100000 in
set_option maxHeartbeats 2000000 in
theorem rkey_any (A : Option Addr) (n c : Nat) (A' : Option Addr) (n' c' : Nat) (e : Ed) (num : Int) (w : World) (hn : n ≤ 1000000) (hn' : n' ≤ 1000000) (hS : EdS w A n A' n' e) :
    Calls Tryz.prog 23 #[.agg #[.slice A n c, .slice A' n' c'], .int .i64 num] w fun r w' => r = .returned (keyV e num) ∧ Below w.heap.size w w' := by
  have HU : Hid (∀ W, Below w.heap.size w W → EdS W A n A' n' e) := fun W hW => hS.up hW
  clear hS
  go_enter Tryz.func23, Tryz.ntmps23
  go_wp2_with fail
  refine (rvalid_any A n c A' n' c' e _ hn hn' (HU.out _ (one_alloc _ _))).mono ?_; rintro r w1 ⟨rfl, hb1⟩
  obtain ⟨_, hb, Z⟩ := step1 (Below.refl _ w) hb1
  clear hb1
  by_cases hv : ¬ validE e
  · have HV := Lib.hid (keyV_no hv num)
    rw [decide_eq_false hv]
    clear hv
    go_wp2_with fail
    go_ret2
    exact ⟨by rw [HV.out]; rfl, hb⟩
  replace hv := Classical.not_not.1 hv
  rw [decide_eq_true hv]
  have Z0 := Z.cell 0 _ rfl; have Z1 := Z.cell 1 _ rfl; have Zlt := Z.lt
  cases hf : ownE e num with
  | none =>
    have HV := Lib.hid (keyV_none hv hf)
    have HZ := Lib.hid (own0_of hf)
    clear hv hf
    go_wp2_with fail
    refine (rowner_any A n c A' n' c' e num _ hn (HU.out _ hb)).mono ?_; rintro r w2 ⟨rfl, hb2⟩
    (replace hb := hb.trans (hb2.mono hb.size)); clear hb2
    rw [HZ.out]
    dsimp only [Option.getD]
    go_wp2_with fail
    go_ret2
    exact ⟨by rw [HV.out]; rfl, hb⟩
  | some m =>
    have HV := Lib.hid (keyV_yes hv hf)
    have HZ := Lib.hid (own0_of hf)
    have hm : (m == 0) = false := by have := own_pos hv hf; simp; omega
    clear hv hf
    go_wp2_with fail
    refine (rowner_any A n c A' n' c' e num _ hn (HU.out _ hb)).mono ?_; rintro r w2 ⟨rfl, hb2⟩
    (replace hb := hb.trans (hb2.mono hb.size)); clear hb2
    rw [HZ.out]
    dsimp only [Option.getD]
    go_wp2_with fail
    go_ret2
    exact ⟨by rw [HV.out]; rfl, hb⟩
end Go.Proofs.YtfanjghfilkhmaaGreatDoor
