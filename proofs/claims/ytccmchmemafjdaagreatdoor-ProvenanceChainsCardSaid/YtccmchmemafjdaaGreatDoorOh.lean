/- Chapter 46: the text of a listing, the reference's. -/
import Derived.Test.YtccmchmemafjdaaGreatDoorOg
import Derived.Test.YtccmchmemafjdaaGreatDoorDecL
set_option linter.unusedSimpArgs false
set_option linter.unusedVariables false
namespace Go.Proofs.YtccmchmemafjdaaGreatDoor
open Go.RowKit

theorem numAt_any (n : Nat) (w : World) (hn : n < 18446744073709551616) :
    Calls Tryz.prog 75 #[.int .u64 n] w fun e w1 => ∃ A' m c', e = .returned (.agg #[.slice A' m c']) ∧ Below w.heap.size w w1 ∧
      ∀ W, Below w1.heap.size w1 W → Calls Tryz.prog 74 #[.agg #[.slice A' m c']] W fun e w2 => e = .returned (.string ⟨(Lib.decDigits n).toArray⟩) ∧ Below W.heap.size W w2 := by
  refine (of_any n hn w).mono ?_
  rintro e w1 ⟨A', m, c', rfl, hS, hb⟩
  refine ⟨A', m, c', rfl, hb, fun W hW => ?_⟩
  have h := natText_of n hn
  refine (text_any _ (fun x hx => of_lt n hn x (mem_trim hx)) ?_ A' m c' W ((hS.up hW (Nat.le_refl _) (Nat.le_refl _)).any)).mono ?_
  · exact Nat.le_trans (trim_le _) (by simp)
  · rintro e w2 ⟨rfl, hb2⟩
    exact ⟨by rw [h], hb2⟩
theorem rdec_any (n : Int) (w : World) (h1 : 0 ≤ n) (h2 : n ≤ 1000000) :
    Calls Tryz.prog 43 #[.int .i64 n] w fun e w' => e = .returned (.string ⟨(Lib.itoa n).toArray⟩) ∧ Below w.heap.size w w' := by
  have HF := Lib.hid (itoa_nat n h1)
  obtain ⟨k, rfl⟩ := Int.eq_ofNat_of_zero_le h1
  rw [HF.out, Int.toNat_natCast]
  clear HF
  go_enter Tryz.func43, Tryz.ntmps43
  go_wp2_with fail
  refine (numAt_any k _ (by omega)).mono ?_
  rintro e w1 ⟨A', m, c', rfl, hb1, hT⟩
  have HT := Lib.hid hT; clear hT
  go_wp2_with fail
  refine (HT.out _ (Below.refl _ _)).mono ?_
  rintro e w2 ⟨rfl, hb2⟩
  go_wp2_with fail
  go_ret
  exact ⟨rfl, hb1.trans (hb2.mono hb1.size)⟩
theorem join_snoc : ∀ (l : List (List UInt8)) (x : List UInt8), l ≠ [] → Lib.join (l ++ [x]) [59] = Lib.join l [59] ++ 59 :: x
  | [], x, h => absurd rfl h
  | [y], x, _ => by
    rw [List.singleton_append, join_cons2, Lib.join_one, Lib.join_one]
  | y :: z :: l, x, _ => by
    rw [List.cons_append, List.cons_append, join_cons2, ← List.cons_append, join_snoc (z :: l) x (by simp), join_cons2]
    simp
/-- The text so far: the Id and the first k sales. -/
def preT (id : Int) (xs : List Sal) (k : Nat) : List UInt8 := Lib.itoa id ++ 58 :: Lib.join ((xs.take k).map saleT) [59]
theorem preT_zero (id : Int) (xs : List Sal) : preT id xs 0 = Lib.itoa id ++ [58] := by
  unfold preT
  rw [List.take_zero, List.map_nil, Lib.join_nil]
theorem preT_one {id : Int} {xs : List Sal} {x : Sal} (h : xs[0]? = some x) : preT id xs 1 = preT id xs 0 ++ saleT x := by
  unfold preT
  rw [take_snocS (k := 0) h, List.take_zero, List.nil_append, List.map_nil, List.map_cons, List.map_nil, Lib.join_nil, Lib.join_one]
  simp
theorem preT_succ {id : Int} {xs : List Sal} {m : Nat} {x : Sal} (h : xs[m + 1]? = some x) : preT id xs (m + 1 + 1) = preT id xs (m + 1) ++ 59 :: saleT x := by
  have hl := (List.getElem?_eq_some_iff.1 h).1
  unfold preT
  rw [take_snocS h, List.map_append, List.map_cons, List.map_nil, join_snoc _ _ (by
    intro h2
    have := congrArg List.length h2
    rw [List.length_map, List.length_take, List.length_nil] at this
    omega)]
  simp
theorem preT_len {id : Int} {xs : List Sal} (hid : 1 ≤ id ∧ id ≤ 9999) (hok : ∀ x ∈ xs, okSal x) (h8 : xs.length ≤ 8) (k : Nat) : (preT id xs k).length ≤ 200 := by
  have h1 := join_len (xs.take k) (fun s hs => hok s (List.mem_of_mem_take hs))
  have h2 : (xs.take k).length ≤ 8 := by rw [List.length_take]; omega
  have a1 := decDigits_le 3 id.toNat (by omega)
  unfold preT
  rw [itoa_nat _ (by omega)]
  simp only [List.length_append, List.length_cons]
  omega
theorem itoa_len {n : Int} (h : 0 ≤ n) (h2 : n ≤ 9999) : (Lib.itoa n).length ≤ 4 := by rw [itoa_nat _ h]; exact decDigits_le 3 _ (by omega)
/-- A sale behind a text, sum by sum. -/
theorem sale_lists {P : Program} (p y h l : List UInt8) (hl : p.length + y.length + h.length + l.length ≤ 100000) :
    (∀ W, (Op.stringOp .add ⟨p.toArray⟩ ⟨#[32]⟩).run P W = .ok (.string ⟨(p ++ [32]).toArray⟩) W) ∧
    (∀ W, (Op.stringOp .add ⟨(p ++ [32]).toArray⟩ ⟨y.toArray⟩).run P W = .ok (.string ⟨(p ++ 32 :: y).toArray⟩) W) ∧
    (∀ W, (Op.stringOp .add ⟨(p ++ 32 :: y).toArray⟩ ⟨#[32, 72]⟩).run P W = .ok (.string ⟨(p ++ 32 :: (y ++ [32, 72])).toArray⟩) W) ∧
    (∀ W, (Op.stringOp .add ⟨(p ++ 32 :: (y ++ [32, 72])).toArray⟩ ⟨h.toArray⟩).run P W = .ok (.string ⟨(p ++ 32 :: (y ++ 32 :: 72 :: h)).toArray⟩) W) ∧
    (∀ W, (Op.stringOp .add ⟨(p ++ 32 :: (y ++ 32 :: 72 :: h)).toArray⟩ ⟨#[32, 76]⟩).run P W = .ok (.string ⟨(p ++ 32 :: (y ++ 32 :: 72 :: (h ++ [32, 76]))).toArray⟩) W) ∧
    (∀ W, (Op.stringOp .add ⟨(p ++ 32 :: (y ++ 32 :: 72 :: (h ++ [32, 76]))).toArray⟩ ⟨l.toArray⟩).run P W = .ok (.string ⟨(p ++ 32 :: (y ++ 32 :: 72 :: (h ++ 32 :: 76 :: l))).toArray⟩) W) := by
  have h1 := add_lists (P := P) p [32] (by simp; omega)
  have h2 := add_lists (P := P) (p ++ [32]) y (by simp; omega)
  have h3 := add_lists (P := P) (p ++ 32 :: y) [32, 72] (by simp; omega)
  have h4 := add_lists (P := P) (p ++ 32 :: (y ++ [32, 72])) h (by simp; omega)
  have h5 := add_lists (P := P) (p ++ 32 :: (y ++ 32 :: 72 :: h)) [32, 76] (by simp; omega)
  have h6 := add_lists (P := P) (p ++ 32 :: (y ++ 32 :: 72 :: (h ++ [32, 76]))) l (by simp; omega)
  exact ⟨h1, fun W => by rw [h2 W]; simp, fun W => by rw [h3 W]; simp, fun W => by rw [h4 W]; simp, fun W => by rw [h5 W]; simp, fun W => by rw [h6 W]; simp⟩
theorem validB_of {id : Int} {xs : List Sal} (h : validB id xs = true) : validL ⟨id, xs⟩ := of_decide_eq_true h
theorem textB_no {id : Int} {xs : List Sal} (h : validB id xs = false) : textL ⟨id, xs⟩ = [] := by
  unfold textL
  rw [if_neg (of_decide_eq_false h)]
theorem textB_yes {id : Int} {xs : List Sal} (h : validB id xs = true) {n : Nat} (hn : xs.length = n) : textL ⟨id, xs⟩ = preT id xs n := by
  rw [textL_ok (validB_of h)]
  unfold preT
  rw [take_all hn]

set_option maxRecDepth 100000 in
set_option maxHeartbeats 4000000 in
theorem rtext_any (id : Int) (A : Option Addr) (n c : Nat) (xs : List Sal) (w : World) (hn : n ≤ maxLen) (hS : SaS w A n xs) :
    Calls Tryz.prog 14 #[.agg #[.int .i64 id, .slice A n c]] w fun e w' => e = .returned (.string ⟨(textL ⟨id, xs⟩).toArray⟩) ∧ Below w.heap.size w w' := by
  have HL := Lib.hid (Sl.len hS)
  have HU : Hid (∀ W, Below w.heap.size w W → SaS W A n xs) := fun W hW => hS.up hW
  have HVA := Lib.hid (rvalid_any id A n c xs (w.alloc (.cells #[.int .i64 id, .slice A n c] 24)) hn (HU.out _ (one_alloc _ _)))
  clear hS hn
  go_enter Tryz.func14, Tryz.ntmps14
  go_wp2_with fail
  refine HVA.out.mono ?_; rintro r w1 ⟨rfl, hb1⟩
  obtain ⟨_, hb, Z⟩ := step1 (Below.refl _ w) hb1
  clear hb1 HVA
  cases hv : validB id xs
  · have HV := Lib.hid (textB_no hv)
    clear hv
    go_wp2_with fail
    go_ret
    exact ⟨by rw [HV.out]; rfl, hb⟩
  have HV := Lib.hid (textB_yes hv HL.out)
  have HVL := Lib.hid (validB_of hv)
  clear hv
  have hid1 := HVL.out.1
  have hn8 : n ≤ 8 := by have := HVL.out.2.1; have := HL.out; simp only at *; omega
  simp only at hid1
  obtain ⟨hid1, hid2⟩ := hid1
  have HOK : Hid (∀ x ∈ xs, okSal x) := HVL.out.2.2.1
  have HPL : Hid (∀ k, (preT id xs k).length ≤ 200) := preT_len ⟨hid1, hid2⟩ HOK.out (by have := HL.out; omega)
  have hi1 : 0 ≤ id := by omega
  have hi2 : id ≤ 1000000 := by omega
  have hil := itoa_len hi1 (by omega)
  have Z0 := Z.cell 0 _ rfl; have Z1 := Z.cell 1 _ rfl; have Zlt := Z.lt
  go_wp2_with fail
  refine (rdec_any id _ hi1 hi2).mono ?_; rintro r w2 ⟨rfl, hb2⟩
  have q0 := add_lists (P := Tryz.prog) (Lib.itoa id) [58] (by simp; omega)
  (replace hb := hb.trans (hb2.mono hb.size)); replace Z := Z.up hb2; clear hb2; (try clear Z0); (try clear Z1); (try clear Zlt)
  go_wp2_with fail
  rw [← preT_zero id xs]
  clear q0 hil
  go_loopw [3, 4] (fun t s wr => ∃ k : Nat, k ≤ n ∧ s = .int .i64 (k : Int) ∧ t = .string ⟨(preT id xs k).toArray⟩ ∧ Bx wr w.heap.size [.int .i64 id, .slice A n c] ∧ Below w.heap.size w wr) (fun _ s _ => n - (intOf s).toNat)
  case atStart => exact ⟨0, by omega, rfl, rfl, Z, hb⟩
  case round =>
    clear hb Z
    obtain ⟨k, hk, rfl, rfl, Z, hb⟩ := hrel
    have hpl := HPL.out k
    by_cases hlt : k < n
    · obtain ⟨b, off, x, rfl, hbb, hx, c0, c1, c2⟩ := Sl.sa (HU.out _ hb) hlt
      obtain ⟨o1, o2, o3⟩ := HOK.out x (List.mem_of_getElem? hx)
      have HX := Lib.hid hx; clear hx
      have i1 : 0 ≤ x.y := by omega
      have i2 : x.y ≤ 1000000 := by omega
      have i3 : 0 ≤ x.h := by omega
      have i4 : x.h ≤ 1000000 := by omega
      have i5 : 0 ≤ x.l := by omega
      have i6 : x.l ≤ 1000000 := by omega
      have l1 := itoa_len (n := x.y) (by omega) (by omega)
      have l2 := itoa_len (n := x.h) (by omega) (by omega)
      have l3 := itoa_len (n := x.l) (by omega) (by omega)
      have hkn : (k : Int) < (n : Int) := by omega
      have hk0 : (0 : Int) ≤ (k : Int) := by omega
      have Z0 := Z.cell 0 _ rfl; have Z1 := Z.cell 1 _ rfl; have Zlt := Z.lt
      clear o1 o2 o3
      rcases Nat.eq_zero_or_pos k with rfl | hp
      · have HP := Lib.hid (preT_one (id := id) HX.out)
        obtain ⟨q1, q2, q3, q4, q5, q6⟩ := sale_lists (P := Tryz.prog) (preT id xs 0) (Lib.itoa x.y) (Lib.itoa x.h) (Lib.itoa x.l) (by omega)
        simp only [Int.ofNat_zero, Int.natCast_zero]
        simp only [Nat.zero_mul, Nat.add_zero] at c0 c1 c2
        go_wp2_with fail
        go_region_held3 (fun U => U.cell? ⟨w.heap.size, 1, none⟩ = some (.slice (some ⟨b, off, none⟩) n c) ∧ U.cell? ⟨b, off, none⟩ = some (.int .i64 x.y) ∧ U.cell? ⟨b, off + 1, none⟩ = some (.int .i64 x.h) ∧ U.cell? ⟨b, off + 2, none⟩ = some (.int .i64 x.l) ∧ Below wr.heap.size wr U)
          (first | exact ⟨Z1, c0, c1, c2, Below.drew (Below.refl _ _)⟩ | exact keep4 Zlt hbb (by assumption) (by assumption) | go_keep)
          (first
            | (go_at_call 43; ((with_reducible refine (rdec_any x.y _ i1 i2).mono ?_); rintro r w3 ⟨rfl, hb3⟩))
            | (go_at_call 43; ((with_reducible refine (rdec_any x.h _ i3 i4).mono ?_); rintro r w3 ⟨rfl, hb3⟩))
            | (go_at_call 43; ((with_reducible refine (rdec_any x.l _ i5 i6).mono ?_); rintro r w3 ⟨rfl, hb3⟩)))
        all_goals
          rename_i hH
          have hb5 := last5 hH
          clear hH
          go_wp2_with fail
          go_roundw
          case rel => exact ⟨1, by omega, by go_num, by rw [HP.out]; rfl, Z.up hb5, below_keep' hb hb5⟩
          case measure => simp [intOf]; omega
      · obtain ⟨m, rfl⟩ : ∃ m, k = m + 1 := ⟨k - 1, by omega⟩
        have HP := Lib.hid (preT_succ (id := id) HX.out)
        have q0 := add_lists (P := Tryz.prog) (preT id xs (m + 1)) [59] (by simp; omega)
        obtain ⟨q1, q2, q3, q4, q5, q6⟩ := sale_lists (P := Tryz.prog) (preT id xs (m + 1) ++ [59]) (Lib.itoa x.y) (Lib.itoa x.h) (Lib.itoa x.l) (by simp; omega)
        have hm1 : (0 : Int) < (m : Int) + 1 := by omega
        have hm2 : (0 : Int) ≤ (m : Int) + 1 := by omega
        have hm3 : (m : Int) + 1 < (n : Int) := by omega
        simp only [List.append_assoc, List.singleton_append] at q1 q2 q3 q4 q5 q6
        go_wp2_with fail
        go_region_held3 (fun U => U.cell? ⟨w.heap.size, 1, none⟩ = some (.slice (some ⟨b, off, none⟩) n c) ∧ U.cell? ⟨b, off + (m + 1) * 3, none⟩ = some (.int .i64 x.y) ∧ U.cell? ⟨b, off + (m + 1) * 3 + 1, none⟩ = some (.int .i64 x.h) ∧ U.cell? ⟨b, off + (m + 1) * 3 + 2, none⟩ = some (.int .i64 x.l) ∧ Below wr.heap.size wr U)
          (first | exact ⟨Z1, c0, c1, c2, Below.drew (Below.refl _ _)⟩ | exact keep4 Zlt hbb (by assumption) (by assumption) | go_keep)
          (first
            | (go_at_call 43; ((with_reducible refine (rdec_any x.y _ i1 i2).mono ?_); rintro r w3 ⟨rfl, hb3⟩))
            | (go_at_call 43; ((with_reducible refine (rdec_any x.h _ i3 i4).mono ?_); rintro r w3 ⟨rfl, hb3⟩))
            | (go_at_call 43; ((with_reducible refine (rdec_any x.l _ i5 i6).mono ?_); rintro r w3 ⟨rfl, hb3⟩)))
        all_goals
          rename_i hH
          have hb5 := last5 hH
          clear hH
          go_wp2_with fail
          go_roundw
          case rel => exact ⟨m + 1 + 1, by omega, by go_num, by rw [HP.out]; rfl, Z.up hb5, below_keep' hb hb5⟩
          case measure => simp [intOf]; omega
    · obtain rfl : k = n := by omega
      have Z0 := Z.cell 0 _ rfl; have Z1 := Z.cell 1 _ rfl; have Zlt := Z.lt
      go_wp2_with fail
      go_ret
      exact ⟨by rw [HV.out]; rfl, hb⟩
end Go.Proofs.YtccmchmemafjdaaGreatDoor
