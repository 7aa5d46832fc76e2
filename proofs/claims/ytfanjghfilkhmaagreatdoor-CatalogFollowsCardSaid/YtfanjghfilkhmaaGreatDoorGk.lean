/- The text of an edition: the reference's (chapter 47). -/
import Derived.Test.YtfanjghfilkhmaaGreatDoorGg
import Derived.Test.YtfanjghfilkhmaaGreatDoorDecL
import Derived.Deep.RegionHeld3
set_option linter.unusedSimpArgs false
set_option linter.unusedVariables false
namespace Go.Proofs.YtfanjghfilkhmaaGreatDoor
open Go.RowKit

theorem numAt_any (n : Nat) (w : World) (hn : n < 18446744073709551616) :
    Calls Tryz.prog 84 #[.int .u64 n] w fun e w1 => ∃ A' m c', e = .returned (.agg #[.slice A' m c']) ∧ Below w.heap.size w w1 ∧
      ∀ W, Below w1.heap.size w1 W → Calls Tryz.prog 83 #[.agg #[.slice A' m c']] W fun e w2 => e = .returned (.string ⟨(Lib.decDigits n).toArray⟩) ∧ Below W.heap.size W w2 := by
  refine (of_any n hn w).mono ?_
  rintro e w1 ⟨A', m, c', rfl, hS, hb⟩
  refine ⟨A', m, c', rfl, hb, fun W hW => ?_⟩
  have h := natText_of n hn
  refine (text_any _ (fun x hx => of_lt n hn x (mem_trim hx)) ?_ A' m c' W ((hS.up hW (Nat.le_refl _) (Nat.le_refl _)).any)).mono ?_
  · exact Nat.le_trans (trim_le _) (by simp)
  · rintro e w2 ⟨rfl, hb2⟩
    exact ⟨by rw [h], hb2⟩
theorem rdec_any (n : Int) (w : World) (h1 : 0 ≤ n) (h2 : n ≤ 1000000) :
    Calls Tryz.prog 65 #[.int .i64 n] w fun e w' => e = .returned (.string ⟨(Lib.itoa n).toArray⟩) ∧ Below w.heap.size w w' := by
  have HF := Lib.hid (itoa_nat n h1)
  obtain ⟨k, rfl⟩ := Int.eq_ofNat_of_zero_le h1
  rw [HF.out, Int.toNat_natCast]
  clear HF
  go_enter Tryz.func65, Tryz.ntmps65
  go_wp2_with fail
  refine (numAt_any k _ (by omega)).mono ?_
  rintro e w1 ⟨A', m, c', rfl, hb1, hT⟩
  have HT := Lib.hid hT; clear hT
  go_wp2_with fail
  refine (HT.out _ (Below.refl _ _)).mono ?_
  rintro e w2 ⟨rfl, hb2⟩
  go_wp2_with fail
  go_ret
  exact ⟨rfl, hb1.trans (hb2.mono hb1.size)⟩

/-- The lines of the numbers up to k. -/
def refT (e : Ed) (k : Nat) : List UInt8 := (((List.range k).map (fun (k : Nat) => (k : Int) + 1)).filterMap (fun n => (ownE e n).map (fun key => (key, n)))).flatMap lineE
theorem refT_all {e : Ed} (h : validE e) : refT e 999 = (byNum e).flatMap lineE := by unfold refT; rw [byNum_eq h]
theorem refT_yes {e : Ed} {k : Nat} {key : Int} (h : ownE e ((k : Int) + 1) = some key) : refT e (k + 1) = refT e k ++ (Lib.itoa ((k : Int) + 1) ++ ([32, 61, 32] ++ (Lib.itoa key ++ [10]))) := by
  unfold refT
  rw [List.range_succ, List.map_append, List.filterMap_append, List.flatMap_append]
  congr 1
  simp [h, lineE]
theorem refT_no {e : Ed} {k : Nat} (h : ownE e ((k : Int) + 1) = none) : refT e (k + 1) = refT e k := by
  unfold refT
  rw [List.range_succ, List.map_append, List.filterMap_append, List.flatMap_append]
  simp [h]
theorem itoa_len {n : Int} (h : 0 ≤ n) (h2 : n ≤ 9999) : (Lib.itoa n).length ≤ 4 := by rw [itoa_nat _ h]; exact decDigits_le 3 _ (by omega)
theorem refT_len {e : Ed} (h : validE e) : ∀ k, k ≤ 999 → (refT e k).length ≤ 12 * k
  | 0, _ => by simp [refT]
  | k + 1, hk => by
    have ih := refT_len h k (by omega)
    cases ho : ownE e ((k : Int) + 1) with
    | none => rw [refT_no ho]; omega
    | some key =>
      have h1 := own_pos h ho
      have h2 := itoa_len (n := key) (by omega) (by omega)
      have h3 := itoa_len (n := (k : Int) + 1) (by omega) (by omega)
      rw [refT_yes ho]
      simp only [List.length_append, List.length_cons, List.length_nil]
      omega
def retTk (l : List Int) (j : Nat) : List UInt8 := [114, 101, 116, 105, 114, 101, 100] ++ (l.take j).flatMap (fun n => 32 :: Lib.itoa n)
theorem retTk_step {l : List Int} {j : Nat} {x : Int} (h : l[j]? = some x) : retTk l (j + 1) = retTk l j ++ [32] ++ Lib.itoa x := by
  unfold retTk; rw [take_snocS h, List.flatMap_append]; simp
theorem retTk_len {l : List Int} (h : ∀ x ∈ l, 1 ≤ x ∧ x ≤ 999) : ∀ j, (retTk l j).length ≤ 7 + 5 * j
  | 0 => by simp [retTk]
  | j + 1 => by
    have ih := retTk_len h j
    rcases Nat.lt_or_ge j l.length with hj | hj
    · have hx := h _ (List.getElem_mem hj)
      have := itoa_len (n := l[j]) (by omega) (by omega)
      rw [retTk_step (List.getElem?_eq_getElem hj)]
      simp only [List.length_append, List.length_cons, List.length_nil]
      omega
    · have : retTk l (j + 1) = retTk l j := by unfold retTk; rw [List.take_of_length_le (by omega), List.take_of_length_le hj]
      rw [this]; omega
theorem retT_eq {l : List Int} (h : l ≠ []) : retT l = retTk l l.length ++ [10] := by
  unfold retT retTk
  rw [if_neg h, List.take_length, List.append_assoc]
theorem keepB2 {w0 w w1 : World} {p : Nat} {a0 a1 : Value} (hp : p < w0.heap.size)
    (H : w.cell? ⟨p, 0, none⟩ = some a0 ∧ w.cell? ⟨p, 1, none⟩ = some a1 ∧ Below w0.heap.size w0 w) (hb : Below w.heap.size w w1) :
    w1.cell? ⟨p, 0, none⟩ = some a0 ∧ w1.cell? ⟨p, 1, none⟩ = some a1 ∧ Below w0.heap.size w0 w1 := by
  obtain ⟨x0, x1, xb⟩ := H
  have hs := xb.size
  have g : ∀ b o v, b < w0.heap.size → w.cell? ⟨b, o, none⟩ = some v → w1.cell? ⟨b, o, none⟩ = some v := fun b o v hlt h => (hb.cell (p := ⟨b, o, none⟩) (by show b < _; omega)).trans h
  exact ⟨g _ _ _ hp x0, g _ _ _ hp x1, xb.trans (hb.mono hs)⟩
theorem last3 {a b z : Prop} (h : a ∧ b ∧ z) : z := h.2.2
theorem line_lists {P : Program} (s d k : List UInt8) (h : s.length + d.length + k.length ≤ 100000) :
    (∀ W, (Op.stringOp .add ⟨s.toArray⟩ ⟨d.toArray⟩).run P W = .ok (.string ⟨(s ++ d).toArray⟩) W) ∧
    (∀ W, (Op.stringOp .add ⟨(s ++ d).toArray⟩ ⟨#[32, 61, 32]⟩).run P W = .ok (.string ⟨(s ++ (d ++ [32, 61, 32])).toArray⟩) W) ∧
    (∀ W, (Op.stringOp .add ⟨(s ++ (d ++ [32, 61, 32])).toArray⟩ ⟨k.toArray⟩).run P W = .ok (.string ⟨(s ++ (d ++ 32 :: 61 :: 32 :: k)).toArray⟩) W) ∧
    (∀ W, (Op.stringOp .add ⟨(s ++ (d ++ 32 :: 61 :: 32 :: k)).toArray⟩ ⟨#[10]⟩).run P W = .ok (.string ⟨(s ++ (d ++ 32 :: 61 :: 32 :: (k ++ [10]))).toArray⟩) W) := by
  have h1 := add_lists (P := P) s d (by omega)
  have h2 := add_lists (P := P) (s ++ d) [32, 61, 32] (by simp; omega)
  have h3 := add_lists (P := P) (s ++ (d ++ [32, 61, 32])) k (by simp; omega)
  have h4 := add_lists (P := P) (s ++ (d ++ 32 :: 61 :: 32 :: k)) [10] (by simp; omega)
  exact ⟨h1, fun W => by rw [h2 W]; simp, fun W => by rw [h3 W]; simp, fun W => by rw [h4 W]; simp⟩

set_option maxRecDepth 100000 in
set_option maxHeartbeats 4000000 in
theorem rtext_any (A : Option Addr) (n c : Nat) (A' : Option Addr) (n' c' : Nat) (e : Ed) (w : World) (hn : n ≤ 1000000) (hn' : n' ≤ 1000000) (hS : EdS w A n A' n' e) :
    Calls Tryz.prog 28 #[.agg #[.slice A n c, .slice A' n' c']] w fun r w' => r = .returned (.string ⟨(textE e).toArray⟩) ∧ Below w.heap.size w w' := by
  have HL' := Lib.hid hS.ret.len
  have HU : Hid (∀ W, Below w.heap.size w W → EdS W A n A' n' e) := fun W hW => hS.up hW
  clear hS
  go_enter Tryz.func28, Tryz.ntmps28
  go_wp2_with fail
  refine (rvalid_any A n c A' n' c' e _ hn hn' (HU.out _ (one_alloc _ _))).mono ?_; rintro r w1 ⟨rfl, hb1⟩
  obtain ⟨_, hb, Z⟩ := step1 (Below.refl _ w) hb1
  clear hb1
  by_cases hv : ¬ validE e
  · have HV := Lib.hid (text_bad hv)
    rw [decide_eq_false hv]
    clear hv
    go_wp2_with fail
    go_ret
    exact ⟨by rw [HV.out]; rfl, hb⟩
  replace hv := Classical.not_not.1 hv
  rw [decide_eq_true hv]
  have HV : Hid (textE e = refT e 999 ++ retT e.ret) := by show _ = _; unfold textE; rw [if_pos hv, refT_all hv]
  have HVE := Lib.hid hv; clear hv
  go_wp2_with fail
  go_loopw [3, 4] (fun t s wr => ∃ k : Nat, k ≤ 999 ∧ s = .int .i64 ((k : Int) + 1) ∧ t = .string ⟨(refT e k).toArray⟩ ∧ Bx wr w.heap.size [.slice A n c, .slice A' n' c'] ∧ Below w.heap.size w wr) (fun _ s _ => 1000 - (intOf s).toNat)
  case atStart => exact ⟨0, by omega, rfl, rfl, Z, hb⟩
  case round =>
    clear hb Z
    obtain ⟨k, hk, rfl, rfl, Z, hb⟩ := hrel
    have hrl := refT_len HVE.out k hk
    have Z0 := Z.cell 0 _ rfl; have Z1 := Z.cell 1 _ rfl; have Zlt := Z.lt
    have HOW : Hid (∀ W, Below w.heap.size w W → Calls Tryz.prog 38 #[.agg #[.slice A n c, .slice A' n' c'], .int .i64 ((k : Int) + 1)] W fun r w' => r = .returned (.int .i64 (own0 e ((k : Int) + 1))) ∧ Below W.heap.size W w') := fun W hW => rowner_any _ n c _ n' c' _ _ _ hn (HU.out _ hW)
    by_cases hlt : k < 999
    · cases ho : ownE e ((k : Int) + 1) with
      | none =>
        have HN := Lib.hid (refT_no ho)
        have HO := Lib.hid (own0_of ho)
        clear ho
        go_wp2_with fail
        refine (HOW.out _ hb).mono ?_; rintro r w2 ⟨rfl, hb2⟩
        rw [HO.out]
        dsimp only [Option.getD]
        (replace hb := hb.trans (hb2.mono hb.size)); replace Z := Z.up hb2; clear hb2; (try clear Z0); (try clear Z1); (try clear Zlt)
        go_wp2_with fail
        go_roundw
        case rel => exact ⟨k + 1, by omega, by go_num, by rw [HN.out], Z, hb⟩
        case measure => simp [intOf]; omega
      | some key =>
        have HY := Lib.hid (refT_yes ho)
        have HO : Hid (own0 e ((k : Int) + 1) = key) := own0_of ho
        have hkp := own_pos HVE.out ho
        clear ho
        obtain ⟨hk1, hk2⟩ := hkp
        have hl1 := itoa_len (n := key) (by omega) (by omega)
        have hl2 := itoa_len (n := (k : Int) + 1) (by omega) (by omega)
        rw [HO.out] at HOW
        go_wp2_with fail
        refine (HOW.out _ hb).mono ?_; rintro r w2 ⟨rfl, hb2⟩
        (replace hb := hb.trans (hb2.mono hb.size)); replace Z := Z.up hb2; clear hb2; (try clear Z0); (try clear Z1); (try clear Zlt)
        have Z0 := Z.cell 0 _ rfl; have Z1 := Z.cell 1 _ rfl; have Zlt := Z.lt
        have hbR := hb
        go_wp2_with fail
        obtain ⟨q1, q2, q3, q4⟩ := line_lists (P := Tryz.prog) (refT e k) (Lib.itoa ((k : Int) + 1)) (Lib.itoa key) (by omega)
        have i1 : 0 ≤ (k : Int) + 1 := by omega
        have i2 : (k : Int) + 1 ≤ 1000000 := by omega
        have i3 : 0 ≤ key := by omega
        have i4 : key ≤ 1000000 := by omega
        go_region_held3 (fun V => V.cell? ⟨w.heap.size, 0, none⟩ = some (.slice A n c) ∧ V.cell? ⟨w.heap.size, 1, none⟩ = some (.slice A' n' c') ∧ Below w2.heap.size w2 V)
          (first | exact ⟨Z0, Z1, Below.drew (Below.refl _ _)⟩ | exact keepB2 Zlt (by assumption) (by assumption) | go_keep)
          (first
            | (go_at_call 65; ((with_reducible refine (rdec_any ((k : Int) + 1) _ i1 i2).mono ?_); rintro r w3 ⟨rfl, hb3⟩))
            | (go_at_call 65; ((with_reducible refine (rdec_any key _ i3 i4).mono ?_); rintro r w3 ⟨rfl, hb3⟩))
            | (go_at_call 38; refine (HOW.out _ (below_keep' hbR (last3 (by assumption)))).mono ?_; rintro r w3 ⟨rfl, hb3⟩))
        rename_i hH
        have hb5 := last3 hH
        clear hH hbR
        (replace hb := hb.trans (hb5.mono hb.size)); replace Z := Z.up hb5; clear hb5; (try clear Z0); (try clear Z1); (try clear Zlt)
        go_wp2_with fail
        go_roundw
        case rel => exact ⟨k + 1, by omega, by go_num, by rw [HY.out]; simp, Z, hb⟩
        case measure => simp [intOf]; omega
    · obtain rfl : k = 999 := by omega
      rw [show ((999 : Nat) : Int) + 1 = 1000 from rfl]
      have hrb : ∀ x ∈ e.ret, 1 ≤ x ∧ x ≤ 999 := HVE.out.2.2.1.2.1
      have hrn : e.ret.length ≤ 64 := HVE.out.2.2.1.2.2
      have HRT : Hid (∀ j, (retTk e.ret j).length ≤ 7 + 5 * j) := retTk_len hrb
      have HRB := Lib.hid hrb; clear hrb HOW
      have hn64 : n' ≤ 64 := by have := HL'.out; omega
      generalize refT e 999 = rt at *
      by_cases h0 : n' = 0
      · have hne : e.ret = [] := List.eq_nil_of_length_eq_zero (by have := HL'.out; omega)
        have HV2 : Hid (textE e = rt) := by show _ = _; rw [HV.out, hne]; simp [retT]
        have h0' : ((n' : Int) == 0) = true := by simp; omega
        clear hne h0
        have Z0 := Z.cell 0 _ rfl; have Z1 := Z.cell 1 _ rfl; have Zlt := Z.lt
        go_wp2_with fail
        go_ret
        exact ⟨by rw [HV2.out]; rfl, hb⟩
      · have hne : e.ret ≠ [] := fun h => by have := HL'.out; rw [h] at this; exact h0 this.symm
        have HV2 : Hid (textE e = rt ++ (retTk e.ret n' ++ [10])) := by show _ = _; rw [HV.out, retT_eq hne, HL'.out]
        clear hne hrn
        have h0' : ((n' : Int) == 0) = false := by simp; omega
        have q1 := add_lists (P := Tryz.prog) rt [114, 101, 116, 105, 114, 101, 100] (by simp; omega)
        go_wp2_with fail
        go_loopw [3, 5] (fun t s wr => ∃ j : Nat, j ≤ n' ∧ s = .int .i64 (j : Int) ∧ t = .string ⟨(rt ++ retTk e.ret j).toArray⟩ ∧ Bx wr w.heap.size [.slice A n c, .slice A' n' c'] ∧ Below w.heap.size w wr) (fun _ s _ => n' - (intOf s).toNat)
        case atStart => exact ⟨0, by omega, rfl, by simp [retTk], Z, hb⟩
        case round =>
          clear hb Z Z0 Z1 Zlt q1
          obtain ⟨j, hj, rfl, rfl, Z, hb⟩ := hrel
          have hjl := HRT.out j
          have Z0 := Z.cell 0 _ rfl; have Z1 := Z.cell 1 _ rfl; have Zlt := Z.lt
          by_cases hlt2 : j < n'
          · obtain ⟨b, off, x, hA, hbb, hx, c0⟩ := (HU.out _ hb).ret.in_ hlt2
            subst hA
            have hxb := HRB.out x (List.mem_of_getElem? hx)
            have HX := Lib.hid (retTk_step hx); clear hx
            obtain ⟨hx1, hx2⟩ := hxb
            have hxl := itoa_len (n := x) (by omega) (by omega)
            have HX2 : Hid (rt ++ retTk e.ret (j + 1) = (rt ++ retTk e.ret j) ++ [32] ++ Lib.itoa x) := by show _ = _; rw [HX.out]; simp
            have htl : (rt ++ retTk e.ret j).length ≤ 13000 := by rw [List.length_append]; omega
            generalize rt ++ retTk e.ret j = ts at *
            have q1 := add_lists (P := Tryz.prog) ts [32] (by simp; omega)
            have q2 := add_lists (P := Tryz.prog) (ts ++ [32]) (Lib.itoa x) (by simp; omega)
            go_wp2_with fail
            refine (rdec_any x _ (by omega) (by omega)).mono ?_; rintro r w2 ⟨rfl, hb2⟩
            (replace hb := hb.trans (hb2.mono hb.size)); replace Z := Z.up hb2; clear hb2; (try clear Z0); (try clear Z1); (try clear Zlt)
            go_wp2_with fail
            go_roundw
            case rel => exact ⟨j + 1, by omega, by go_num, by rw [HX2.out]; simp, Z, hb⟩
            case measure => simp [intOf]; omega
          · obtain rfl : j = n' := by omega
            have q1 := add_lists (P := Tryz.prog) (rt ++ retTk e.ret j) [10] (by simp; omega)
            go_wp2_with fail
            go_ret
            exact ⟨by rw [HV2.out]; simp, hb⟩
end Go.Proofs.YtfanjghfilkhmaaGreatDoor
