/- Follows: the program's (chapter 47). -/
import Derived.Test.YtfanjghfilkhmaaGreatDoorGn
set_option linter.unusedSimpArgs false
set_option linter.unusedVariables false
namespace Go.Proofs.YtfanjghfilkhmaaGreatDoor
open Go.RowKit

theorem any_takeB {α : Type} {p : α → Bool} {xs : List α} {k : Nat} {x : α} (hx : xs[k]? = some x) (h : (xs.take k).any p = false) (hp : p x = false) : (xs.take (k + 1)).any p = false := by
  rw [List.take_add_one, hx]
  simp [List.any_append, h, hp]
theorem any_ofB {α : Type} {p : α → Bool} {xs : List α} {k : Nat} {x : α} (hx : xs[k]? = some x) (hp : p x = true) : xs.any p = true :=
  List.any_eq_true.2 ⟨x, List.mem_of_getElem? hx, hp⟩
set_option maxRecDepth 100000 in
set_option maxHeartbeats 1000000 in
theorem indexV_any (Bs : Nat) (A : Option Addr) (len cap : Nat) (xs : List Int) (p : Int → Bool) (w : World) (hlen : len ≤ 1000000) (hS : Sl w 0 w.heap.size 1 encI A len xs)
    (HP : ∀ x, Calls Tryz.prog 46 #[.int .i64 x, .pointer (some ⟨Bs, 0, none⟩)] w fun e w' => e = .returned (.bool (p x)) ∧ w = w') :
    Calls Tryz.prog 69 #[.slice A len cap, .func (.func 46) #[] #[.pointer (some ⟨Bs, 0, none⟩)]] w fun e w' => (∃ k : Int, e = .returned (.int .i64 k) ∧ decide (0 ≤ k) = xs.any p) ∧ w = w' := by
  have HL := Lib.hid hS.len
  have HS := Lib.hid hS; clear hS
  have HQ := Lib.hid HP; clear HP
  go_enter Tryz.func69, Tryz.ntmps69
  go_wp2_with fail
  go_loop [8] (fun s => ∃ k : Nat, k ≤ len ∧ s = .int .i64 k ∧ (xs.take k).any p = false) (fun s => len - (intOf s).toNat)
  case atStart => exact ⟨0, by omega, rfl, by simp⟩
  case round =>
    obtain ⟨k, hk, rfl, hn⟩ := hrel
    have HN := Lib.hid hn; clear hn
    by_cases hlt : k < len
    · obtain ⟨b, off, x, rfl, hbb, hx, c0⟩ := HS.out.in_ hlt
      have HX := Lib.hid hx; clear hx
      have HC := Lib.hid (HQ.out x)
      cases hp : p x
      · have HP := Lib.hid hp
        rw [hp] at HC
        clear hp
        go_wp2_with fail
        go_fit HC.out
        rintro e w1 ⟨rfl, rfl⟩
        go_wp2_with fail
        go_round
        case rel => exact ⟨k + 1, by omega, by go_num, any_takeB HX.out HN.out HP.out⟩
        case measure => simp [intOf]; omega
      · have HP := Lib.hid hp
        rw [hp] at HC
        clear hp
        go_wp2_with fail
        go_fit HC.out
        rintro e w1 ⟨rfl, rfl⟩
        go_wp2_with fail
        go_ret
        exact ⟨⟨_, rfl, by rw [any_ofB HX.out HP.out]; simp⟩, rfl⟩
    · obtain rfl : k = len := by omega
      have HD : Hid (xs.any p = false) := by
        have hn := HN.out
        rw [List.take_of_length_le (by have := HL.out; omega)] at hn
        exact hn
      go_wp2_with fail
      go_ret
      exact ⟨⟨-1, rfl, by rw [HD.out]; rfl⟩, rfl⟩
set_option maxHeartbeats 1000000 in
theorem containsV_any (Bs : Nat) (A : Option Addr) (len cap : Nat) (xs : List Int) (p : Int → Bool) (w : World) (hlen : len ≤ 1000000) (hS : Sl w 0 w.heap.size 1 encI A len xs)
    (HP : ∀ x, Calls Tryz.prog 46 #[.int .i64 x, .pointer (some ⟨Bs, 0, none⟩)] w fun e w' => e = .returned (.bool (p x)) ∧ w = w') :
    Calls Tryz.prog 45 #[.slice A len cap, .func (.func 46) #[] #[.pointer (some ⟨Bs, 0, none⟩)]] w fun e w' => e = .returned (.bool (xs.any p)) ∧ w = w' := by
  have H := Lib.hid (indexV_any Bs A len cap xs p w hlen hS HP)
  clear hS HP
  go_enter Tryz.func45, Tryz.ntmps45
  go_wp2_with fail
  refine H.out.mono ?_
  rintro e w1 ⟨⟨r, rfl, hr⟩, rfl⟩
  have HR := Lib.hid hr; clear hr
  go_wp2_with fail
  go_ret
  exact ⟨by rw [← HR.out]; rfl, rfl⟩
set_option maxHeartbeats 1000000 in
/-- The closure of Valid: the number is among those that the captured variable holds. -/
theorem valid1_any (Bs : Nat) (A : Option Addr) (n c : Nat) (xs : List Int) (x : Int) (w : World) (hn : n ≤ 1000000) (hc : w.cell? ⟨Bs, 0, none⟩ = some (.slice A n c)) (hS : Sl w 0 w.heap.size 1 encI A n xs) :
    Calls Tryz.prog 46 #[.int .i64 x, .pointer (some ⟨Bs, 0, none⟩)] w fun e w' => e = .returned (.bool (decide (x ∈ xs))) ∧ w = w' := by
  have HC := Lib.hid (contains_any A n c xs x w hn hS)
  clear hS
  go_enter Tryz.func46, Tryz.ntmps46
  go_wp2_with fail
  refine HC.out.mono ?_
  rintro e w1 ⟨rfl, rfl⟩
  go_wp2_with fail
  go_ret
  exact ⟨rfl, rfl⟩

theorem vB (e : Ed) : decide (validE e) = (okB (keysE e) 9999 && (okB (sortI (numsE e)) 999 && (okB e.ret 999 && !(e.ret.any fun x => decide (x ∈ sortI (numsE e)))))) := by
  rw [Bool.eq_iff_iff, decide_eq_true_iff]
  unfold validE okB
  simp only [Bool.and_eq_true, decide_eq_true_iff, Bool.not_eq_true', List.any_eq_false, sortI_mem, decide_eq_false_iff_not]
theorem vB1 {e : Ed} (h : okB (keysE e) 9999 = false) : decide (validE e) = false := by rw [vB, h]; rfl
theorem vB2 {e : Ed} (h : okB (sortI (numsE e)) 999 = false) : decide (validE e) = false := by rw [vB, h]; simp
theorem vB3 {e : Ed} (h : okB e.ret 999 = false) : decide (validE e) = false := by rw [vB, h]; simp
theorem vB4 {e : Ed} (h1 : okB (keysE e) 9999 = true) (h2 : okB (sortI (numsE e)) 999 = true) (h3 : okB e.ret 999 = true) : decide (validE e) = !(e.ret.any fun x => decide (x ∈ sortI (numsE e))) := by rw [vB, h1, h2, h3]; simp
set_option maxRecDepth 100000 in
set_option maxHeartbeats 4000000 in
theorem valid_any (A : Option Addr) (n c : Nat) (A' : Option Addr) (n' c' : Nat) (e : Ed) (w : World) (hn : n ≤ 1000000) (hn' : n' ≤ 1000000) (hS : EdS w A n A' n' e) :
    Calls Tryz.prog 16 #[.agg #[.slice A n c, .slice A' n' c']] w fun r w' => r = .returned (.bool (decide (validE e))) ∧ Below w.heap.size w w' := by
  have HU : Hid (∀ W, Below w.heap.size w W → EdS W A n A' n' e) := fun W hW => hS.up hW
  clear hS
  go_enter Tryz.func16, Tryz.ntmps16
  go_wp2_with fail
  refine (numbers_any A n c A' n' c' e _ hn (HU.out _ (one_alloc _ _))).mono ?_; rintro r w1 ⟨⟨A2, c2, rfl, hS2⟩, hb1⟩
  obtain ⟨_, hb, Z⟩ := step1 (Below.refl _ w) hb1
  clear hb1
  have HS2 := Lib.hid hS2; clear hS2
  have Z0 := Z.cell 0 _ rfl; have Z1 := Z.cell 1 _ rfl; have Zlt := Z.lt
  go_wp2_with fail
  refine (keys_any A n c A' n' c' e _ hn (HU.out _ (hb.alloc hb.size _))).mono ?_; rintro r w2 ⟨⟨A3, c3, rfl, hS3⟩, hb2⟩
  obtain ⟨hs, hb', Y⟩ := step1 hb hb2
  replace Z := Z.up hs
  have HS4 : Hid (Sl w2 0 w2.heap.size 1 encI A2 n (sortI (numsE e))) := (HS2.out.up hs (Nat.le_refl _) (Nat.le_refl _)).any
  have HS5 : Hid (Sl w2 0 w2.heap.size 1 encI A3 n (keysE e)) := hS3.any
  clear hS3 HS2 hb hb2 Z0 Z1 Zlt hs
  have hb := hb'; clear hb'
  generalize w1.heap.size = b2 at *
  have Z0 := Z.cell 0 _ rfl; have Z1 := Z.cell 1 _ rfl; have Zlt := Z.lt
  have Y0 := Y.cell 0 _ rfl; have Ylt := Y.lt
  go_wp2_with fail
  refine (asc_any A3 n c3 (keysE e) _ _ hn HS5.out).mono ?_; rintro r w3 ⟨rfl, rfl⟩
  cases h1 : okB (keysE e) 9999
  · have HV := Lib.hid (vB1 h1)
    clear h1
    go_wp2_with fail
    go_ret
    exact ⟨by rw [HV.out]; rfl, hb⟩
  go_wp2_with fail
  refine (asc_any A2 n c2 _ _ _ hn HS4.out).mono ?_; rintro r w3 ⟨rfl, rfl⟩
  cases h2 : okB (sortI (numsE e)) 999
  · have HV := Lib.hid (vB2 h2)
    clear h1 h2
    go_wp2_with fail
    go_ret
    exact ⟨by rw [HV.out]; rfl, hb⟩
  go_wp2_with fail
  refine (asc_any A' n' c' _ _ _ hn' (HU.out _ hb).ret).mono ?_; rintro r w3 ⟨rfl, rfl⟩
  cases h3 : okB e.ret 999
  · have HV := Lib.hid (vB3 h3)
    clear h1 h2 h3
    go_wp2_with fail
    go_ret
    exact ⟨by rw [HV.out]; rfl, hb⟩
  have HV := Lib.hid (vB4 h1 h2 h3)
  clear h1 h2 h3
  have HC := Lib.hid (containsV_any b2 A' n' c' e.ret (fun x => decide (x ∈ sortI (numsE e))) w2 hn' (HU.out _ hb).ret (fun x => valid1_any b2 A2 n c2 _ x w2 hn Y0 HS4.out))
  go_wp2_with fail
  go_fit HC.out
  rintro r w3 ⟨rfl, rfl⟩
  go_wp2_with fail
  go_ret
  exact ⟨by rw [HV.out]; rfl, hb⟩
end Go.Proofs.YtfanjghfilkhmaaGreatDoor
set_option linter.unusedSimpArgs false
set_option linter.unusedVariables false
namespace Go.Proofs.YtfanjghfilkhmaaGreatDoor
open Go.RowKit

set_option maxRecDepth 100000 in
set_option maxHeartbeats 2000000 in
theorem ptop_any (A : Option Addr) (n c : Nat) (A' : Option Addr) (n' c' : Nat) (e : Ed) (w : World) (hn : n ≤ 1000000) (hn' : n' ≤ 1000000) (hS : EdS w A n A' n' e) :
    Calls Tryz.prog 20 #[.agg #[.slice A n c, .slice A' n' c']] w fun r w' => r = .returned (topV e) ∧ Below w.heap.size w w' := by
  have HU : Hid (∀ W, Below w.heap.size w W → EdS W A n A' n' e) := fun W hW => hS.up hW
  clear hS
  go_enter Tryz.func20, Tryz.ntmps20
  go_wp2_with fail
  refine (valid_any A n c A' n' c' e _ hn hn' (HU.out _ (one_alloc _ _))).mono ?_; rintro r w1 ⟨rfl, hb1⟩
  obtain ⟨_, hb, Z⟩ := step1 (Below.refl _ w) hb1
  clear hb1
  by_cases hv : ¬ validE e
  · have HV := Lib.hid (topV_no hv)
    rw [decide_eq_false hv]
    clear hv
    go_wp2_with fail
    go_ret2
    exact ⟨by rw [HV.out]; rfl, hb⟩
  replace hv := Classical.not_not.1 hv
  rw [decide_eq_true hv]
  have Z0 := Z.cell 0 _ rfl; have Z1 := Z.cell 1 _ rfl; have Zlt := Z.lt
  have HV := Lib.hid (topV_yes hv)
  clear hv
  go_wp2_with fail
  refine (top_any A n c A' n' c' e _ hn hn' (HU.out _ hb)).mono ?_; rintro r w2 ⟨rfl, hb2⟩
  (replace hb := hb.trans (hb2.mono hb.size)); clear hb2
  go_wp2_with fail
  go_ret2
  exact ⟨by rw [HV.out]; rfl, hb⟩
set_option maxRecDepth 100000 in
set_option maxHeartbeats 2000000 in
theorem number_any (A : Option Addr) (n c : Nat) (A' : Option Addr) (n' c' : Nat) (e : Ed) (key : Int) (w : World) (hn : n ≤ 1000000) (hn' : n' ≤ 1000000) (hS : EdS w A n A' n' e) :
    Calls Tryz.prog 21 #[.agg #[.slice A n c, .slice A' n' c'], .int .i64 key] w fun r w' => r = .returned (numV e key) ∧ Below w.heap.size w w' := by
  have HU : Hid (∀ W, Below w.heap.size w W → EdS W A n A' n' e) := fun W hW => hS.up hW
  clear hS
  go_enter Tryz.func21, Tryz.ntmps21
  go_wp2_with fail
  refine (valid_any A n c A' n' c' e _ hn hn' (HU.out _ (one_alloc _ _))).mono ?_; rintro r w1 ⟨rfl, hb1⟩
  obtain ⟨_, hb, Z⟩ := step1 (Below.refl _ w) hb1
  clear hb1
  by_cases hv : ¬ validE e
  · have HV := Lib.hid (numV_no hv key)
    rw [decide_eq_false hv]
    clear hv
    go_wp2_with fail
    go_ret2
    exact ⟨by rw [HV.out]; rfl, hb⟩
  replace hv := Classical.not_not.1 hv
  rw [decide_eq_true hv]
  have Z0 := Z.cell 0 _ rfl; have Z1 := Z.cell 1 _ rfl; have Zlt := Z.lt
  cases hf : findE e key with
  | none =>
    have HV := Lib.hid (numV_none hv hf)
    have HZ := Lib.hid (findV_none hf)
    clear hv hf
    go_wp2_with fail
    refine (find_any A n c A' n' c' e key _ hn (HU.out _ hb)).mono ?_; rintro r w2 ⟨rfl, hb2⟩
    (replace hb := hb.trans (hb2.mono hb.size)); clear hb2
    rw [HZ.out]
    go_wp2_with fail
    go_ret2
    exact ⟨by rw [HV.out]; rfl, hb⟩
  | some m =>
    have HV := Lib.hid (numV_yes hv hf)
    have HZ := Lib.hid (findV_some hf)
    clear hv hf
    go_wp2_with fail
    refine (find_any A n c A' n' c' e key _ hn (HU.out _ hb)).mono ?_; rintro r w2 ⟨rfl, hb2⟩
    (replace hb := hb.trans (hb2.mono hb.size)); clear hb2
    rw [HZ.out]
    go_wp2_with fail
    go_ret2
    exact ⟨by rw [HV.out]; rfl, hb⟩
set_option maxRecDepth 100000 in
set_option maxHeartbeats 2000000 in
theorem key_any (A : Option Addr) (n c : Nat) (A' : Option Addr) (n' c' : Nat) (e : Ed) (num : Int) (w : World) (hn : n ≤ 1000000) (hn' : n' ≤ 1000000) (hS : EdS w A n A' n' e) :
    Calls Tryz.prog 19 #[.agg #[.slice A n c, .slice A' n' c'], .int .i64 num] w fun r w' => r = .returned (keyV e num) ∧ Below w.heap.size w w' := by
  have HL := Lib.hid hS.ents.len
  have HU : Hid (∀ W, Below w.heap.size w W → EdS W A n A' n' e) := fun W hW => hS.up hW
  clear hS
  go_enter Tryz.func19, Tryz.ntmps19
  go_wp2_with fail
  refine (valid_any A n c A' n' c' e _ hn hn' (HU.out _ (one_alloc _ _))).mono ?_; rintro r w1 ⟨rfl, hb1⟩
  obtain ⟨_, hb, Z⟩ := step1 (Below.refl _ w) hb1
  clear hb1
  by_cases hv : ¬ validE e
  · have HV := Lib.hid (keyV_no hv num)
    rw [decide_eq_false hv]
    clear hv
    go_wp2_with fail
    go_ret2
    exact ⟨by rw [HV.out]; rfl, hb⟩
  replace hv := Classical.not_not.1 hv
  rw [decide_eq_true hv]
  have HVE := Lib.hid hv; clear hv
  have Z0 := Z.cell 0 _ rfl; have Z1 := Z.cell 1 _ rfl; have Zlt := Z.lt
  go_wp2_with fail
  go_loopw [14] (fun s wr => ∃ k : Nat, k ≤ n ∧ s = .int .i64 (k : Int) ∧ (∀ y ∈ e.ents.take k, (y.2 == num) = false) ∧ Below w.heap.size w wr) (fun s _ => n - (intOf s).toNat)
  case atStart => exact ⟨0, by omega, rfl, by simp, hb⟩
  case round =>
    clear hb Z Z0 Z1 Zlt
    obtain ⟨k, hk, rfl, hnn, hb⟩ := hrel
    have HN := Lib.hid hnn; clear hnn
    by_cases hlt : k < n
    · obtain ⟨b, off, x, rfl, hbb, hx, c0, c1⟩ := (HU.out _ hb).ents.en hlt
      have HX := Lib.hid hx; clear hx
      cases he : (x.2 == num)
      · have HE := Lib.hid he
        go_wp2_with fail
        go_roundw
        case rel => exact ⟨k + 1, by omega, by go_num, all_take HX.out HN.out HE.out, hb.alloc hb.size _⟩
        case measure => simp [intOf]; omega
      · have HV := Lib.hid (keyV_yes HVE.out (own0_hit HX.out HN.out he))
        go_wp2_with fail
        go_ret2
        exact ⟨by rw [HV.out]; rfl, hb.alloc hb.size _⟩
    · obtain rfl : k = n := by omega
      have HV : Hid (keyV e num = .tuple #[.int .i64 0, .int .i64 7]) := by
        show _ = _
        have h := HN.out
        rw [List.take_of_length_le (by have := HL.out; omega)] at h
        exact keyV_none HVE.out (own0_miss h)
      go_wp2_with fail
      go_ret2
      exact ⟨by rw [HV.out]; rfl, hb⟩
end Go.Proofs.YtfanjghfilkhmaaGreatDoor
set_option linter.unusedSimpArgs false
set_option linter.unusedVariables false
namespace Go.Proofs.YtfanjghfilkhmaaGreatDoor
open Go.RowKit

set_option maxRecDepth 100000 in
set_option maxHeartbeats 1000000 in
theorem indexW_any (Bs : Nat) (A : Option Addr) (len cap : Nat) (xs : List Int) (p : Int → Bool) (w : World) (hlen : len ≤ 1000000) (hS : Sl w 0 w.heap.size 1 encI A len xs)
    (HP : ∀ x, Calls Tryz.prog 49 #[.int .i64 x, .pointer (some ⟨Bs, 0, none⟩)] w fun e w' => e = .returned (.bool (p x)) ∧ w = w') :
    Calls Tryz.prog 69 #[.slice A len cap, .func (.func 49) #[] #[.pointer (some ⟨Bs, 0, none⟩)]] w fun e w' => (∃ k : Int, e = .returned (.int .i64 k) ∧ decide (0 ≤ k) = xs.any p) ∧ w = w' := by
  have HL := Lib.hid hS.len
  have HS := Lib.hid hS; clear hS
  have HQ := Lib.hid HP; clear HP
  go_enter Tryz.func69, Tryz.ntmps69
  go_wp2_with fail
  go_loop [8] (fun s => ∃ k : Nat, k ≤ len ∧ s = .int .i64 k ∧ (xs.take k).any p = false) (fun s => len - (intOf s).toNat)
  case atStart => exact ⟨0, by omega, rfl, by simp⟩
  case round =>
    obtain ⟨k, hk, rfl, hn⟩ := hrel
    have HN := Lib.hid hn; clear hn
    by_cases hlt : k < len
    · obtain ⟨b, off, x, rfl, hbb, hx, c0⟩ := HS.out.in_ hlt
      have HX := Lib.hid hx; clear hx
      have HC := Lib.hid (HQ.out x)
      cases hp : p x
      · have HP := Lib.hid hp
        rw [hp] at HC
        clear hp
        go_wp2_with fail
        go_fit HC.out
        rintro e w1 ⟨rfl, rfl⟩
        go_wp2_with fail
        go_round
        case rel => exact ⟨k + 1, by omega, by go_num, any_takeB HX.out HN.out HP.out⟩
        case measure => simp [intOf]; omega
      · have HP := Lib.hid hp
        rw [hp] at HC
        clear hp
        go_wp2_with fail
        go_fit HC.out
        rintro e w1 ⟨rfl, rfl⟩
        go_wp2_with fail
        go_ret
        exact ⟨⟨_, rfl, by rw [any_ofB HX.out HP.out]; simp⟩, rfl⟩
    · obtain rfl : k = len := by omega
      have HD : Hid (xs.any p = false) := by
        have hn := HN.out
        rw [List.take_of_length_le (by have := HL.out; omega)] at hn
        exact hn
      go_wp2_with fail
      go_ret
      exact ⟨⟨-1, rfl, by rw [HD.out]; rfl⟩, rfl⟩
set_option maxHeartbeats 1000000 in
theorem containsW_any (Bs : Nat) (A : Option Addr) (len cap : Nat) (xs : List Int) (p : Int → Bool) (w : World) (hlen : len ≤ 1000000) (hS : Sl w 0 w.heap.size 1 encI A len xs)
    (HP : ∀ x, Calls Tryz.prog 49 #[.int .i64 x, .pointer (some ⟨Bs, 0, none⟩)] w fun e w' => e = .returned (.bool (p x)) ∧ w = w') :
    Calls Tryz.prog 45 #[.slice A len cap, .func (.func 49) #[] #[.pointer (some ⟨Bs, 0, none⟩)]] w fun e w' => e = .returned (.bool (xs.any p)) ∧ w = w' := by
  have H := Lib.hid (indexW_any Bs A len cap xs p w hlen hS HP)
  clear hS HP
  go_enter Tryz.func45, Tryz.ntmps45
  go_wp2_with fail
  refine H.out.mono ?_
  rintro e w1 ⟨⟨r, rfl, hr⟩, rfl⟩
  have HR := Lib.hid hr; clear hr
  go_wp2_with fail
  go_ret
  exact ⟨by rw [← HR.out]; rfl, rfl⟩
set_option maxHeartbeats 1000000 in
/-- The closure of Follows: the number is not among those retired of the captured edition. -/
theorem follows1_any (Bs : Nat) (B : Option Addr) (m d : Nat) (A : Option Addr) (n c : Nat) (xs : List Int) (x : Int) (w : World) (hn : n ≤ 1000000) (hc : Bx w Bs [.slice B m d, .slice A n c]) (hS : Sl w 0 w.heap.size 1 encI A n xs) :
    Calls Tryz.prog 49 #[.int .i64 x, .pointer (some ⟨Bs, 0, none⟩)] w fun e w' => e = .returned (.bool (!decide (x ∈ xs))) ∧ w = w' := by
  have HC := Lib.hid (contains_any A n c xs x w hn hS)
  clear hS
  go_enter Tryz.func49, Tryz.ntmps49
  have hc0 := hc.cell 0 _ rfl; have hc1 := hc.cell 1 _ rfl; have hclt := hc.lt
  go_wp2_with fail
  refine HC.out.mono ?_
  rintro e w1 ⟨rfl, rfl⟩
  go_wp2_with fail
  go_ret
  exact ⟨rfl, rfl⟩

theorem folP {e f : Ed} (he : validE e) (hf : validE f) : followsE e f ↔ (∀ x ∈ e.ents, match findE f x.1 with | some n => n = x.2 | none => x.2 ∈ f.ret) ∧ ∀ r ∈ e.ret, r ∈ f.ret := by
  unfold followsE
  exact ⟨fun h => ⟨h.2.2.1, h.2.2.2⟩, fun h => ⟨he, hf, h.1, h.2⟩⟩
def okY (f : Ed) (x : Int × Int) : Prop := match findE f x.1 with | some n => n = x.2 | none => x.2 ∈ f.ret
theorem folY_ent {e f : Ed} {k : Nat} {x : Int × Int} (hx : e.ents[k]? = some x) (h : ¬ okY f x) : folB e f = false :=
  decide_eq_false fun h' => h (h'.2.2.1 x (List.mem_of_getElem? hx))
theorem folY_fin {e f : Ed} (he : validE e) (hf : validE f) (h1 : ∀ x ∈ e.ents, okY f x) : folB e f = !(e.ret.any fun x => !decide (x ∈ f.ret)) := by
  unfold folB
  rw [Bool.eq_iff_iff, decide_eq_true_iff, folP he hf]
  simp only [Bool.not_eq_true', List.any_eq_false, Bool.not_eq_eq_eq_not, Bool.not_true, Bool.not_eq_false, decide_eq_true_iff, Bool.not_eq_true, decide_eq_false_iff_not, Classical.not_not]
  exact ⟨fun h => h.2, fun h => ⟨h1, h⟩⟩
set_option maxRecDepth 100000 in
set_option maxHeartbeats 4000000 in
theorem pfollows_any (A : Option Addr) (n c : Nat) (A' : Option Addr) (n' c' : Nat) (e : Ed) (B : Option Addr) (m d : Nat) (B' : Option Addr) (m' d' : Nat) (f : Ed) (w : World) (hn : n ≤ 1000000) (hn' : n' ≤ 1000000) (hm : m ≤ 1000000) (hm' : m' ≤ 1000000) (hS : EdS w A n A' n' e) (hT : EdS w B m B' m' f) :
    Calls Tryz.prog 18 #[.agg #[.slice A n c, .slice A' n' c'], .agg #[.slice B m d, .slice B' m' d']] w fun r w' => r = .returned (.bool (folB e f)) ∧ Below w.heap.size w w' := by
  have HL := Lib.hid hS.ents.len
  have HL' := Lib.hid hS.ret.len
  have HU : Hid (∀ W, Below w.heap.size w W → EdS W A n A' n' e) := fun W hW => hS.up hW
  have HT : Hid (∀ W, Below w.heap.size w W → EdS W B m B' m' f) := fun W hW => hT.up hW
  clear hS hT
  go_enter Tryz.func18, Tryz.ntmps18
  go_wp2_with fail
  refine (valid_any A n c A' n' c' e _ hn hn' (HU.out _ (by (repeat (first | exact Below.refl _ _ | assumption | refine Below.alloc ?_ (by first | omega | (simp only [World.size_alloc]; omega) | (simp; done) | (simp; omega)) _ | refine Below.setCell ?_ (by first | omega | (simp only [World.size_alloc]; omega) | (simp; done) | (simp; omega)) _ | refine Below.drew ?_ | refine below_drewN ?_ _))))).mono ?_; rintro r w1 ⟨rfl, hb1⟩
  obtain ⟨_, hb, Z, Y⟩ := step2 (Below.refl _ w) hb1
  clear hb1
  by_cases hv : ¬ validE e
  · have HV := Lib.hid (folB_no1 (f := f) hv)
    rw [decide_eq_false hv]
    clear hv
    go_wp2_with fail
    go_ret
    exact ⟨by rw [HV.out]; rfl, hb⟩
  replace hv := Classical.not_not.1 hv
  rw [decide_eq_true hv]
  have HV := Lib.hid hv; clear hv
  have Z0 := Z.cell 0 _ rfl; have Z1 := Z.cell 1 _ rfl; have Zlt := Z.lt
  have Y0 := Y.cell 0 _ rfl; have Y1 := Y.cell 1 _ rfl; have Ylt := Y.lt
  go_wp2_with fail
  refine (valid_any B m d B' m' d' f _ hm hm' (HT.out _ hb)).mono ?_; rintro r w2 ⟨rfl, hb2⟩
  (replace hb := hb.trans (hb2.mono hb.size)); replace Z := Z.up hb2; replace Y := Y.up hb2; clear hb2; (try clear Z0); (try clear Z1); (try clear Zlt); (try clear Y0); (try clear Y1); (try clear Ylt)
  by_cases hv : ¬ validE f
  · have HV := Lib.hid (folB_no2 (e := e) hv)
    rw [decide_eq_false hv]
    clear hv
    go_wp2_with fail
    go_ret
    exact ⟨by rw [HV.out]; rfl, hb⟩
  replace hv := Classical.not_not.1 hv
  rw [decide_eq_true hv]
  have HVF := Lib.hid hv; clear hv
  have Z0 := Z.cell 0 _ rfl; have Z1 := Z.cell 1 _ rfl; have Zlt := Z.lt
  have Y0 := Y.cell 0 _ rfl; have Y1 := Y.cell 1 _ rfl; have Ylt := Y.lt
  go_wp2_with fail
  go_loopw [20] (fun s wr => ∃ k : Nat, k ≤ n ∧ s = .int .i64 (k : Int) ∧ (∀ x ∈ e.ents.take k, okY f x) ∧ Bx wr w.heap.size [.slice A n c, .slice A' n' c'] ∧ Bx wr (w.heap.size + 1) [.slice B m d, .slice B' m' d'] ∧ Below w.heap.size w wr) (fun s _ => n - (intOf s).toNat)
  case atStart => exact ⟨0, by omega, rfl, by simp, Z, Y, hb⟩
  case round =>
    clear hb Z Y Z0 Z1 Zlt Y0 Y1 Ylt
    obtain ⟨k, hk, rfl, hok, Z, Y, hb⟩ := hrel
    have HOK := Lib.hid hok; clear hok
    have Z0 := Z.cell 0 _ rfl; have Z1 := Z.cell 1 _ rfl; have Zlt := Z.lt
    have Y0 := Y.cell 0 _ rfl; have Y1 := Y.cell 1 _ rfl; have Ylt := Y.lt
    by_cases hlt : k < n
    · obtain ⟨b, off, x, hA, hbb, hx, c0, c1⟩ := (HU.out _ hb).ents.en hlt
      subst hA
      have HX := Lib.hid hx; clear hx
      have HF : Hid (∀ W, Below w.heap.size w W → Calls Tryz.prog 36 #[.agg #[.slice B m d, .slice B' m' d'], .int .i64 x.1] W fun r w' => r = .returned (findV f x.1) ∧ Below W.heap.size W w') := fun W hW => find_any B m d B' m' d' f x.1 W hm (HT.out _ hW)
      have HR : Hid (∀ W, Below w.heap.size w W → Calls Tryz.prog 33 #[.slice B' m' d', .int .i64 x.2] W fun r w' => r = .returned (.bool (decide (x.2 ∈ f.ret))) ∧ W = w') := fun W hW => contains_any B' m' d' _ _ _ hm' (HT.out _ hW).ret
      go_wp2_with fail
      refine (HF.out _ (by (repeat (first | exact Below.refl _ _ | assumption | refine Below.alloc ?_ (by first | omega | (simp only [World.size_alloc]; omega) | (simp; done) | (simp; omega)) _ | refine Below.setCell ?_ (by first | omega | (simp only [World.size_alloc]; omega) | (simp; done) | (simp; omega)) _ | refine Below.drew ?_ | refine below_drewN ?_ _)))).mono ?_; rintro r w3 ⟨rfl, hb3⟩
      obtain ⟨hs3, hb', X⟩ := step1 hb hb3
      replace Z := Z.up hs3
      replace Y := Y.up hs3
      clear hb hb3 Z0 Z1 Zlt Y0 Y1 Ylt c0 c1 hs3
      generalize wr.heap.size = bx at *
      have hb := hb'; clear hb'
      have X0 := X.cell 0 _ rfl; have X1 := X.cell 1 _ rfl; have Xlt := X.lt
      have Y0 := Y.cell 0 _ rfl; have Y1 := Y.cell 1 _ rfl; have Ylt := Y.lt
      cases hf : findE f x.1 with
      | none =>
        have HZ := Lib.hid (findV_none hf)
        rw [HZ.out]
        by_cases hm : x.2 ∈ f.ret
        · have HD : Hid (decide (x.2 ∈ f.ret) = true) := decide_eq_true hm
          have HY : Hid (okY f x) := by show okY f x; unfold okY; rw [hf]; exact hm
          clear hf hm
          go_wp2_with fail
          refine (HR.out _ hb).mono ?_; rintro r w4 ⟨rfl, rfl⟩
          rw [HD.out]
          go_wp2_with fail
          go_roundw
          case rel => exact ⟨k + 1, by omega, by go_num, all_take HX.out HOK.out HY.out, Z, Y, hb⟩
          case measure => simp [intOf]; omega
        · have HD : Hid (decide (x.2 ∈ f.ret) = false) := decide_eq_false hm
          have HV : Hid (folB e f = false) := folY_ent HX.out (by unfold okY; rw [hf]; exact hm)
          clear hf hm
          go_wp2_with fail
          refine (HR.out _ hb).mono ?_; rintro r w4 ⟨rfl, rfl⟩
          rw [HD.out]
          go_wp2_with fail
          go_ret
          exact ⟨by rw [HV.out]; rfl, hb⟩
      | some q =>
        have HZ := Lib.hid (findV_some hf)
        rw [HZ.out]
        by_cases hq : q = x.2
        · have HY : Hid (okY f x) := by show okY f x; unfold okY; rw [hf]; exact hq
          clear hf
          subst hq
          go_wp2_with fail
          go_roundw
          case rel => exact ⟨k + 1, by omega, by go_num, all_take HX.out HOK.out HY.out, Z, Y, hb⟩
          case measure => simp [intOf]; omega
        · have HV : Hid (folB e f = false) := folY_ent HX.out (by unfold okY; rw [hf]; exact hq)
          clear hf
          go_wp2_with fail
          go_ret
          exact ⟨by rw [HV.out]; rfl, hb⟩
    · obtain rfl : k = n := by omega
      have HV : Hid (folB e f = !(e.ret.any fun x => !decide (x ∈ f.ret))) := by
        show _ = _
        have h := HOK.out
        rw [List.take_of_length_le (by have := HL.out; omega)] at h
        exact folY_fin HV.out HVF.out h
      have HC := Lib.hid (containsW_any (w.heap.size + 1) A' n' c' e.ret (fun x => !decide (x ∈ f.ret)) wr hn' (HU.out _ hb).ret (fun x => follows1_any (w.heap.size + 1) B m d B' m' d' _ x wr hm' Y (HT.out _ hb).ret))
      go_wp2_with fail
      go_fit HC.out
      rintro r w3 ⟨rfl, rfl⟩
      go_wp2_with fail
      go_ret
      exact ⟨by rw [HV.out]; rfl, hb⟩
end Go.Proofs.YtfanjghfilkhmaaGreatDoor
