/- Parse: the reference's. -/
import Derived.Test.YthbckkjihijekaaDoorYp
import Derived.Deep.DeepFit
set_option linter.unusedSimpArgs false
set_option linter.unusedVariables false
namespace Go.Proofs.YthbckkjihijekaaDoor
open Go.RowKit

def digN : Nat → Nat → List UInt8 → Nat × List UInt8
  | 0, n, l => (n, l)
  | _ + 1, n, [] => (n, [])
  | f + 1, n, c :: l => if 48 ≤ c.toNat ∧ c.toNat ≤ 57 then digN f (10 * n + (c.toNat - 48)) l else (n, c :: l)
theorem digN_le : ∀ (f n : Nat) (l : List UInt8), n * 10 ^ f ≤ (digN f n l).1 * 10 ^ f ∧ (digN f n l).1 < (n + 1) * 10 ^ f ∧ (digN f n l).2.length ≤ l.length
  | 0, n, l => by simp [digN]
  | f + 1, n, [] => by
    have := Nat.pow_pos (n := f + 1) (show 0 < 10 by omega)
    simp only [digN]
    refine ⟨Nat.le_refl _, ?_, Nat.le_refl _⟩
    calc n < n + 1 := by omega
      _ = (n + 1) * 1 := by omega
      _ ≤ _ := Nat.mul_le_mul_left _ this
  | f + 1, n, c :: l => by
    have hp := Nat.pow_pos (n := f + 1) (show 0 < 10 by omega)
    unfold digN
    split
    · rename_i h
      have ih := digN_le f (10 * n + (c.toNat - 48)) l
      refine ⟨?_, ?_, by have := ih.2.2; simp; omega⟩
      · have h1 := ih.1
        have hq := Nat.pow_pos (n := f) (show 0 < 10 by omega)
        have : 10 * n + (c.toNat - 48) ≤ (digN f (10 * n + (c.toNat - 48)) l).1 := Nat.le_of_mul_le_mul_right h1 hq
        exact Nat.mul_le_mul_right _ (by omega)
      · refine Nat.lt_of_lt_of_le ih.2.1 ?_
        rw [Nat.pow_succ, Nat.mul_comm (10 ^ f) 10, ← Nat.mul_assoc]
        exact Nat.mul_le_mul_right _ (by omega)
    · refine ⟨Nat.le_refl _, ?_, Nat.le_refl _⟩
      calc n < n + 1 := by omega
        _ = (n + 1) * 1 := by omega
        _ ≤ _ := Nat.mul_le_mul_left _ hp

theorem dig_step {k m d : Nat} (hm : m < 10 ^ k) (hk : k < 5) (hd : d ≤ 9) : 10 * m + d < 10 ^ (k + 1) ∧ 10 * m + d ≤ 99999 := by
  have h1 : 10 * m + d < 10 ^ (k + 1) := by rw [Nat.pow_succ]; omega
  have h2 : 10 ^ (k + 1) ≤ 10 ^ 5 := Nat.pow_le_pow_right (by omega) (by omega)
  exact ⟨h1, by simp at h2; omega⟩
set_option maxRecDepth 100000 in
set_option maxHeartbeats 1000000 in
theorem digits_any (l : List UInt8) (w : World) (hs : l.length ≤ 1000) :
    Calls Tryd.prog 40 #[.string ⟨l.toArray⟩] w fun e w' => e = .returned (.tuple #[.int .i64 ((digN 5 0 l).1 : Int), .string ⟨(digN 5 0 l).2.toArray⟩]) ∧ Below w.heap.size w w' := by
  go_enter Tryd.func40, Tryd.ntmps40
  go_wp2_with fail
  go_loop [4, 5] (fun n i => ∃ k m : Nat, k ≤ 5 ∧ k ≤ l.length ∧ m ≤ 99999 ∧ m < 10 ^ k ∧ n = .int .i64 (m : Int) ∧ i = .int .i64 (k : Int) ∧ digN 5 0 l = digN (5 - k) m (l.drop k)) (fun _ i => 5 - (intOf i).toNat)
  case atStart => exact ⟨0, 0, by omega, by omega, by omega, by simp, rfl, rfl, rfl⟩
  case round =>
    obtain ⟨k, m, hk, hkl, hm, hm5, rfl, rfl, hd⟩ := hrel
    have HD := Lib.hid hd; clear hd
    have HM := Lib.hid hm5; clear hm5
    have hfin : ∀ r, digN (5 - k) m (l.drop k) = r → digN 5 0 l = r := fun r h => by rw [HD.out, h]
    have HFIN := Lib.hid hfin; clear hfin
    by_cases hlt : k < l.length
    · obtain ⟨c, hc⟩ : ∃ c, l[k]? = some c := ⟨l[k], List.getElem?_eq_getElem hlt⟩
      have h0 : ∀ h, (ByteArray.mk l.toArray)[k]'h = c := fun h => by
        have := (List.getElem?_eq_some_iff.1 hc).2
        exact this
      have hdr : l.drop k = c :: l.drop (k + 1) := by
        obtain ⟨h1, h2⟩ := List.getElem?_eq_some_iff.1 hc
        rw [List.drop_eq_getElem_cons h1, h2]
      have HDR := Lib.hid hdr; clear hdr
      have HC := Lib.hid hc; clear hc
      by_cases hk5 : k < 5
      · by_cases hlo : 48 ≤ c.toNat
        · by_cases hhi : c.toNat ≤ 57
          · go_wp2_with fail
            go_round
            case rel =>
              have h := dig_step HM.out hk5 (show c.toNat - 48 ≤ 9 by omega)
              refine ⟨k + 1, 10 * m + (c.toNat - 48), by omega, by omega, h.2, h.1, by go_num, by go_num, ?_⟩
              rw [HD.out, HDR.out, show 5 - k = (5 - (k + 1)) + 1 from by omega, digN, if_pos ⟨hlo, hhi⟩]
            case measure => simp [intOf]; omega
          · have hr : digN 5 0 l = (m, l.drop k) := HFIN.out _ (by rw [HDR.out, show 5 - k = (5 - (k + 1)) + 1 from by omega, digN, if_neg (by omega)])
            have HR := Lib.hid hr; clear hr
            go_wp2_with fail
            go_quiet (fail)
            go_wp2_with fail
            go_ret2
            exact ⟨by rw [HR.out, ByteArray.extract_mk, List.take_of_length_le (by simp)]; rfl, by (repeat (first | exact Below.refl _ _ | assumption | refine Below.alloc ?_ (by first | omega | (simp only [World.size_alloc]; omega) | (simp; done) | (simp; omega)) _ | refine Below.setCell ?_ (by first | omega | (simp only [World.size_alloc]; omega) | (simp; done) | (simp; omega)) _ | refine Below.drew ?_ | refine below_drewN ?_ _))⟩
        · have hr : digN 5 0 l = (m, l.drop k) := HFIN.out _ (by rw [HDR.out, show 5 - k = (5 - (k + 1)) + 1 from by omega, digN, if_neg (by omega)])
          have HR := Lib.hid hr; clear hr
          go_wp2_with fail
          go_quiet (fail)
          go_wp2_with fail
          go_ret2
          exact ⟨by rw [HR.out, ByteArray.extract_mk, List.take_of_length_le (by simp)]; rfl, by (repeat (first | exact Below.refl _ _ | assumption | refine Below.alloc ?_ (by first | omega | (simp only [World.size_alloc]; omega) | (simp; done) | (simp; omega)) _ | refine Below.setCell ?_ (by first | omega | (simp only [World.size_alloc]; omega) | (simp; done) | (simp; omega)) _ | refine Below.drew ?_ | refine below_drewN ?_ _))⟩
      · have hr : digN 5 0 l = (m, l.drop k) := HFIN.out _ (by rw [show 5 - k = 0 from by omega, digN])
        have HR := Lib.hid hr; clear hr
        go_wp2_with fail
        go_quiet (fail)
        go_wp2_with fail
        go_ret2
        exact ⟨by rw [HR.out, ByteArray.extract_mk, List.take_of_length_le (by simp)]; rfl, by (repeat (first | exact Below.refl _ _ | assumption | refine Below.alloc ?_ (by first | omega | (simp only [World.size_alloc]; omega) | (simp; done) | (simp; omega)) _ | refine Below.setCell ?_ (by first | omega | (simp only [World.size_alloc]; omega) | (simp; done) | (simp; omega)) _ | refine Below.drew ?_ | refine below_drewN ?_ _))⟩
    · have hr : digN 5 0 l = (m, l.drop k) := HFIN.out _ (by rw [List.drop_eq_nil_of_le (by omega)]; cases (5 - k) <;> rfl)
      have HR := Lib.hid hr; clear hr
      go_wp2_with fail
      go_quiet (fail)
      go_wp2_with fail
      go_ret2
      exact ⟨by rw [HR.out, ByteArray.extract_mk, List.take_of_length_le (by simp)]; rfl, by (repeat (first | exact Below.refl _ _ | assumption | refine Below.alloc ?_ (by first | omega | (simp only [World.size_alloc]; omega) | (simp; done) | (simp; omega)) _ | refine Below.setCell ?_ (by first | omega | (simp only [World.size_alloc]; omega) | (simp; done) | (simp; omega)) _ | refine Below.drew ?_ | refine below_drewN ?_ _))⟩

def qA (l : List UInt8) : Nat := (digN 5 0 l).1
def qR0 (l : List UInt8) : List UInt8 := (digN 5 0 l).2
def qEra (r : List UInt8) : Bool := decide (3 ≤ r.length) && (r.take 3 == sBC || r.take 3 == sAD)
def qR1 (l : List UInt8) : List UInt8 := if qEra (qR0 l) then (qR0 l).drop 3 else qR0 l
def qDash (r : List UInt8) : Bool := match r with | [] => false | c :: _ => c == 45
def qB (l : List UInt8) : Nat := if qDash (qR1 l) then (digN 5 0 (qR1 l).tail).1 else qA l
def okC (l : List UInt8) (p : Int × Int) : Bool := validB p.1 p.2 && textS p.1 p.2 == l
def cands (l : List UInt8) : List (Int × Int) := [((qA l : Int), (qB l : Int)), ((qA l : Int), 1 - (qB l : Int)), (1 - (qA l : Int), (qB l : Int)), (1 - (qA l : Int), 1 - (qB l : Int))]
def rparseV (l : List UInt8) : Value := match (cands l).find? (okC l) with
  | some p => .tuple #[.agg #[.int .i64 p.1, .int .i64 p.2], .int .i64 0]
  | none => .tuple #[.agg #[.int .i64 0, .int .i64 0], .int .i64 3]

def candF (l : List UInt8) (i : Nat) : Int := if i = 0 then (qA l : Int) else 1 - (qA l : Int)
def candT (l : List UInt8) (k : Nat) : Int := if k = 0 then (qB l : Int) else 1 - (qB l : Int)
def noneBefore (l : List UInt8) (i k : Nat) : Prop := ∀ i' k', i' < 2 → k' < 2 → (i' < i ∨ (i' = i ∧ k' < k)) → okC l (candF l i', candT l k') = false
theorem rparse_found {l : List UInt8} {i k : Nat} (hi : i < 2) (hk : k < 2) (hn : noneBefore l i k) (h : okC l (candF l i, candT l k) = true) : rparseV l = .tuple #[.agg #[.int .i64 (candF l i), .int .i64 (candT l k)], .int .i64 0] := by
  have h00 := hn 0 0 (by omega) (by omega)
  have h01 := hn 0 1 (by omega) (by omega)
  have h10 := hn 1 0 (by omega) (by omega)
  unfold rparseV cands
  rcases (by omega : i = 0 ∨ i = 1) with rfl | rfl <;> rcases (by omega : k = 0 ∨ k = 1) with rfl | rfl <;>
    simp only [candF, candT, if_true, Nat.lt_irrefl, false_or, true_and, Nat.zero_lt_one, true_or, forall_const, Nat.one_ne_zero, if_false, Nat.not_lt_zero, and_false, or_false, false_and] at h h00 h01 h10 ⊢ <;>
    simp [List.find?, *]
theorem rparse_none {l : List UInt8} (hn : noneBefore l 2 0) : rparseV l = .tuple #[.agg #[.int .i64 0, .int .i64 0], .int .i64 3] := by
  have h00 := hn 0 0 (by omega) (by omega) (by omega)
  have h01 := hn 0 1 (by omega) (by omega) (by omega)
  have h10 := hn 1 0 (by omega) (by omega) (by omega)
  have h11 := hn 1 1 (by omega) (by omega) (by omega)
  unfold rparseV cands
  simp only [candF, candT, if_true, Nat.one_ne_zero, if_false] at h00 h01 h10 h11
  simp [List.find?, *]
theorem digN_lt (l : List UInt8) : (digN 5 0 l).1 ≤ 99999 := by
  have := (digN_le 5 0 l).2.1
  omega
set_option maxRecDepth 100000 in
set_option maxHeartbeats 2000000 in
theorem rparse_any (l : List UInt8) (w : World) (hs : l.length ≤ 1000) :
    Calls Tryd.prog 24 #[.string ⟨l.toArray⟩] w fun e w' => e = .returned (rparseV l) ∧ Below w.heap.size w w' := by
  have hA : qA l ≤ 99999 := digN_lt l
  have hR0 : (qR0 l).length ≤ 1000 := Nat.le_trans (digN_le 5 0 l).2.2 hs
  have hR1 : (qR1 l).length ≤ 1000 := by
    unfold qR1
    split
    · rw [List.length_drop]; omega
    · exact hR0
  have hB : qB l ≤ 99999 := by unfold qB; split; exact digN_lt _; exact hA
  have HR1 : Hid (qR1 l = if qEra (qR0 l) then (qR0 l).drop 3 else qR0 l) := rfl
  have HQB : Hid (qB l = if qDash (qR1 l) then (digN 5 0 (qR1 l).tail).1 else qA l) := rfl
  have HE : Hid (qEra (qR0 l) = (decide (3 ≤ (qR0 l).length) && ((qR0 l).take 3 == sBC || (qR0 l).take 3 == sAD))) := rfl
  go_enter Tryd.func24, Tryd.ntmps24
  go_wp2_with fail
  refine (digits_any l _ hs).mono ?_
  rintro e w1 ⟨rfl, hb1⟩
  simp only [World.size_alloc] at hb1
  have c0 : w1.cell? ⟨w.heap.size, 0, none⟩ = some (.int .i64 0) := (hb1.cell (by first | (simp; done) | (simp; omega) | (show _ < _; omega))).trans (by simp); have fc0 : w1.frozen? ⟨w.heap.size, 0, none⟩ = false := (hb1.frozen (by first | (simp; done) | (simp; omega) | (show _ < _; omega))).trans (by simp)
  have c1 : w1.cell? ⟨w.heap.size, 1, none⟩ = some (.int .i64 0) := (hb1.cell (by first | (simp; done) | (simp; omega) | (show _ < _; omega))).trans (by simp); have fc1 : w1.frozen? ⟨w.heap.size, 1, none⟩ = false := (hb1.frozen (by first | (simp; done) | (simp; omega) | (show _ < _; omega))).trans (by simp)
  have hb1' : Below w.heap.size w w1 := Below.trans (by (repeat (first | exact Below.refl _ _ | assumption | refine Below.alloc ?_ (by first | omega | (simp only [World.size_alloc]; omega) | (simp; done) | (simp; omega)) _ | refine Below.setCell ?_ (by first | omega | (simp only [World.size_alloc]; omega) | (simp; done) | (simp; omega)) _ | refine Below.drew ?_ | refine below_drewN ?_ _))) (hb1.mono (by omega))
  have hz1 : w.heap.size < w1.heap.size := by have := hb1.size; simp at this; omega
  clear hb1
  rw [show (digN 5 0 l).1 = qA l from rfl, show (digN 5 0 l).2 = qR0 l from rfl]
  generalize hr0 : qR0 l = r0 at *
  have HR0 := Lib.hid hr0; clear hr0
  go_upto_region 2 with fail
  go_cut [29] (fun s29 wx => s29 = .bool (qEra r0) ∧ w1 = wx)
  case first =>
    have hx : (ByteArray.mk r0.toArray).extract 0 3 = ⟨(r0.take 3).toArray⟩ := by rw [ByteArray.extract_mk]; rfl
    by_cases h3 : 3 ≤ r0.length
    · go_wp2_with fail
      all_goals go_meet
      all_goals refine ⟨?_, rfl⟩
      all_goals rw [HE.out]
      all_goals simp [sBC, sAD, *]
    · go_wp2_with fail
      all_goals go_meet
      all_goals refine ⟨?_, rfl⟩
      all_goals rw [HE.out]
      all_goals simp [sBC, sAD, *]
  case rest =>
    obtain ⟨rfl, rfl⟩ := hcut
    go_upto_if 29 with fail
    go_cut [5] (fun s5 wx => s5 = .string ⟨(qR1 l).toArray⟩ ∧ w1 = wx)
    case first =>
      have hx3 : (ByteArray.mk r0.toArray).extract 3 r0.length = ⟨(r0.drop 3).toArray⟩ := by
        rw [ByteArray.extract_mk, List.take_of_length_le (by simp)]
      cases hq : qEra r0
      · have HQ := Lib.hid hq; clear hq
        go_wp2_with fail
        go_meet
        exact ⟨by rw [HR1.out, HQ.out]; rfl, rfl⟩
      · have h3 : 3 ≤ r0.length := by
          have := HE.out.symm.trans hq
          simp at this; omega
        have HQ := Lib.hid hq; clear hq
        go_wp2_with fail
        go_meet
        exact ⟨by rw [HR1.out, HQ.out]; rfl, rfl⟩
    case rest =>
      obtain ⟨rfl, rfl⟩ := hcut
      clear HR1 HE HR0 hR0
      generalize hr1 : qR1 l = r1 at *
      have HR1 := Lib.hid hr1; clear hr1
      go_upto_region 5 with fail
      go_cut [40] (fun s40 wx => s40 = .bool (qDash r1) ∧ w1 = wx)
      case first =>
        cases r1 with
        | nil =>
          go_wp2_with fail
          all_goals go_meet
          all_goals exact ⟨rfl, rfl⟩
        | cons ch r1' =>
          have h0 : ∀ h, (ByteArray.mk (ch :: r1').toArray)[0]'h = ch := fun _ => rfl
          have hch : ((ch.toNat : Int) == 45) = (ch == 45) := by
            by_cases h : ch = 45
            · subst h; rfl
            · have : ch.toNat ≠ 45 := fun e => h (UInt8.toNat_inj.1 e)
              have h2 : (ch == 45) = false := by simpa using h
              rw [h2]; simp; omega
          go_wp2_with fail
          all_goals go_meet
          all_goals exact ⟨rfl, rfl⟩
      case rest =>
        obtain ⟨rfl, rfl⟩ := hcut
        go_upto_if 40 with fail
        go_cut [6] (fun s6 wx => s6 = .int .i64 (qB l : Int) ∧ Below w1.heap.size w1 wx)
        case first =>
          cases hq : qDash r1
          · have hB' : qB l = qA l := by rw [HQB.out, hq]; rfl
            have HB := Lib.hid hB'; clear hB' hq
            go_wp2_with fail
            go_meet
            exact ⟨by rw [HB.out], Below.refl _ _⟩
          · have hB' : qB l = (digN 5 0 r1.tail).1 := by rw [HQB.out, hq]; rfl
            have hne : 0 < r1.length := by
              cases r1 with
              | nil => cases hq
              | cons _ _ => simp
            have HB := Lib.hid hB'; clear hB' hq
            have hx1 : (ByteArray.mk r1.toArray).extract 1 r1.length = ⟨r1.tail.toArray⟩ := by
              rw [ByteArray.extract_mk, List.take_of_length_le (by simp), List.drop_one]
            go_wp2_with fail
            go_fit (digits_any r1.tail _ (by simp; omega))
            rintro e w2 ⟨rfl, hb2⟩
            go_wp2_with fail
            go_meet
            exact ⟨by rw [HB.out], hb2⟩
        case rest =>
          obtain ⟨rfl, hb2⟩ := hcut
          have d0 := (hb2.cell (p := ⟨w.heap.size, 0, none⟩) hz1).trans c0
          have d1 := (hb2.cell (p := ⟨w.heap.size, 1, none⟩) hz1).trans c1
          have fd0 := (hb2.frozen (p := ⟨w.heap.size, 0, none⟩) hz1).trans fc0
          have fd1 := (hb2.frozen (p := ⟨w.heap.size, 1, none⟩) hz1).trans fc1
          have hb2' : Below w.heap.size w wc := hb1'.trans (hb2.mono (by omega))
          have hz2 : w.heap.size < wc.heap.size := by have := hb2.size; omega
          clear hb2 c0 c1 fc0 fc1 hz1 hb1'
          go_wp2_with fail
          generalize hW : (wc.alloc (.cells #[.int .i64 (qA l : Int), .int .i64 (1 - (qA l : Int))] 3)).alloc (.cells #[.int .i64 (qB l : Int), .int .i64 (1 - (qB l : Int))] 3) = W
          have hbW : Below wc.heap.size wc W := by subst hW; (repeat (first | exact Below.refl _ _ | assumption | refine Below.alloc ?_ (by first | omega | (simp only [World.size_alloc]; omega) | (simp; done) | (simp; omega)) _ | refine Below.setCell ?_ (by first | omega | (simp only [World.size_alloc]; omega) | (simp; done) | (simp; omega)) _ | refine Below.drew ?_ | refine below_drewN ?_ _))
          have hzW : wc.heap.size + 1 < W.heap.size := by subst hW; simp
          have hcF : ∀ i, i < 2 → W.cell? ⟨wc.heap.size, i, none⟩ = some (.int .i64 (candF l i)) := by
            subst hW
            intro i hi
            rcases (by omega : i = 0 ∨ i = 1) with rfl | rfl <;> simp [candF]
          have hcT : ∀ i, i < 2 → W.cell? ⟨wc.heap.size + 1, i, none⟩ = some (.int .i64 (candT l i)) := by
            subst hW
            intro i hi
            rcases (by omega : i = 0 ∨ i = 1) with rfl | rfl <;> simp [candT]
          clear hW
          have c0 := (hbW.cell (p := ⟨w.heap.size, 0, none⟩) hz2).trans d0
          have c1 := (hbW.cell (p := ⟨w.heap.size, 1, none⟩) hz2).trans d1
          have fc0 := (hbW.frozen (p := ⟨w.heap.size, 0, none⟩) hz2).trans fd0
          have fc1 := (hbW.frozen (p := ⟨w.heap.size, 1, none⟩) hz2).trans fd1
          have hbW' : Below w.heap.size w W := hb2'.trans (hbW.mono (by omega))
          clear hbW hb2' d0 d1 fd0 fd1
          have HCF := Lib.hid hcF; clear hcF
          have HCT := Lib.hid hcT; clear hcT
          go_loopw [9] (fun s9 wr => ∃ i : Nat, i ≤ 2 ∧ s9 = .int .i64 (i : Int) ∧ noneBefore l i 0 ∧ Below W.heap.size W wr) (fun s9 _ => 2 - (intOf s9).toNat)
          case atStart => exact ⟨0, by omega, rfl, fun i' k' _ _ h => by omega, Below.refl _ _⟩
          case round =>
            obtain ⟨i, hi, rfl, hn, hb⟩ := hrel
            have HN := Lib.hid hn; clear hn
            by_cases hi2 : i < 2
            · have i0 : (0 : Int) ≤ (i : Int) := by omega
              have i1 : (i : Int) < 2 := by omega
              go_wp2_with fail
              obtain ⟨wo, rfl⟩ : ∃ wo : World, wo = wr := ⟨_, rfl⟩
              go_loopw [10] (fun s10 wr => ∃ k : Nat, k ≤ 2 ∧ s10 = .int .i64 (k : Int) ∧ noneBefore l i k ∧ Below W.heap.size W wr) (fun s10 _ => 2 - (intOf s10).toNat)
              case atStart => exact ⟨0, by omega, rfl, HN.out, hb⟩
              case round =>
                obtain ⟨k, hk, rfl, hn, hbk⟩ := hrel
                clear HN hb
                have HN := Lib.hid hn; clear hn
                by_cases hk2 : k < 2
                · have e7 : wr.cell? ⟨wc.heap.size, i, none⟩ = some (.int .i64 (candF l i)) := (hbk.cell (by show wc.heap.size < _; omega)).trans (HCF.out i hi2)
                  have e8 : wr.cell? ⟨wc.heap.size + 1, k, none⟩ = some (.int .i64 (candT l k)) := (hbk.cell (by show wc.heap.size + 1 < _; omega)).trans (HCT.out k hk2)
                  have k0 : (0 : Int) ≤ (k : Int) := by omega
                  have k1 : (k : Int) < 2 := by omega
                  have hzr : wc.heap.size + 1 < wr.heap.size := by have := hbk.size; omega
                  have HOK : Hid (okC l (candF l i, candT l k) = (validB (candF l i) (candT l k) && textS (candF l i) (candT l k) == l)) := rfl
                  generalize hx : candF l i = x at *
                  generalize hy : candT l k = y at *
                  have HX := Lib.hid hx; clear hx
                  have HY := Lib.hid hy; clear hy
                  go_wp2_with fail
                  go_region_held3 (fun W' => W'.cell? ⟨wc.heap.size, i, none⟩ = some (.int .i64 x) ∧ W'.cell? ⟨wc.heap.size + 1, k, none⟩ = some (.int .i64 y)) (go_keep) (first | fail)
                  go_wp2_with fail
                  go_fit (rvalid_any _ _ _)
                  rintro e w5 ⟨rfl, hw5⟩
                  have hb5 : Below wr.heap.size wr w5 := by rw [← hw5]; (repeat (first | exact Below.refl _ _ | assumption | refine Below.alloc ?_ (by first | omega | (simp only [World.size_alloc]; omega) | (simp; done) | (simp; omega)) _ | refine Below.setCell ?_ (by first | omega | (simp only [World.size_alloc]; omega) | (simp; done) | (simp; omega)) _ | refine Below.drew ?_ | refine below_drewN ?_ _))
                  obtain ⟨e0, e1⟩ : w5.cell? ⟨wr.heap.size, 0, none⟩ = some (.int .i64 x) ∧ w5.cell? ⟨wr.heap.size, 1, none⟩ = some (.int .i64 y) := by
                    subst hw5; constructor <;> go_simp
                  have hz5 : wr.heap.size < w5.heap.size := by rw [← hw5]; simp; omega
                  clear hw5 e7 e8
                  cases hv : validB x y
                  · have hn' : noneBefore l i (k + 1) := by
                      intro i' k' hi' hk' h
                      by_cases he : i' = i ∧ k' = k
                      · obtain ⟨rfl, rfl⟩ := he
                        rw [HX.out, HY.out, HOK.out, hv]; rfl
                      · exact HN.out i' k' hi' hk' (by omega)
                    have HN' := Lib.hid hn'; clear hn'
                    have HV := Lib.hid hv; clear hv
                    go_wp2_with fail
                    go_roundw
                    case rel => exact ⟨k + 1, by omega, by go_num, HN'.out, hbk.trans (hb5.mono hbk.size)⟩
                    case measure => simp [intOf]; omega
                  · have HV := Lib.hid hv; clear hv
                    go_wp2_with fail
                    go_fit (rtext_years _ _ _)
                    rintro e w6 ⟨rfl, hb6⟩
                    have f0 := (hb6.cell (p := ⟨wr.heap.size, 0, none⟩) hz5).trans e0
                    have f1 := (hb6.cell (p := ⟨wr.heap.size, 1, none⟩) hz5).trans e1
                    have hb6' : Below W.heap.size W w6 := hbk.trans (hb5.trans (hb6.mono hb5.size) |>.mono hbk.size)
                    have hz6 : wr.heap.size < w6.heap.size := by have := hb6.size; omega
                    clear hb5 hb6 e0 e1 hz5
                    cases ht : (textS x y == l)
                    · have hn' : noneBefore l i (k + 1) := by
                        intro i' k' hi' hk' h
                        by_cases he : i' = i ∧ k' = k
                        · obtain ⟨rfl, rfl⟩ := he
                          rw [HX.out, HY.out, HOK.out, HV.out, ht]; rfl
                        · exact HN.out i' k' hi' hk' (by omega)
                      have HN' := Lib.hid hn'; clear hn'
                      go_wp2_with fail
                      go_roundw
                      case rel => exact ⟨k + 1, by omega, by go_num, HN'.out, hb6'⟩
                      case measure => simp [intOf]; omega
                    · have HP : Hid (rparseV l = .tuple #[.agg #[.int .i64 x, .int .i64 y], .int .i64 0]) := by
                        show rparseV l = _
                        rw [rparse_found hi2 hk2 HN.out (by rw [HX.out, HY.out, HOK.out, HV.out, ht]; rfl), HX.out, HY.out]
                      have g0 := (hb6'.cell (p := ⟨w.heap.size, 0, none⟩) (by show w.heap.size < _; omega)).trans c0
                      have g1 := (hb6'.cell (p := ⟨w.heap.size, 1, none⟩) (by show w.heap.size < _; omega)).trans c1
                      have fg0 := (hb6'.frozen (p := ⟨w.heap.size, 0, none⟩) (by show w.heap.size < _; omega)).trans fc0
                      have fg1 := (hb6'.frozen (p := ⟨w.heap.size, 1, none⟩) (by show w.heap.size < _; omega)).trans fc1
                      have hzw6 : w.heap.size < w6.heap.size := by omega
                      go_wp2_with fail
                      refine bodyPost_ret (v := rparseV l) (by rw [HP.out]; simp [results, Tryd.results24, go_sem, two_set0 g0 g1, two_set1 g0 g1]) rfl ⟨rfl, ?_⟩
                      exact ((hbW'.trans (hb6'.mono (by omega))).setCell (by simp) _).setCell (by simp) _
                · obtain rfl : k = 2 := by omega
                  go_wp2_with fail
                  go_roundw
                  case rel => exact ⟨i + 1, by omega, by go_num, fun i' k' hi' hk' h => HN.out i' k' hi' hk' (by omega), hbk⟩
                  case measure => simp [intOf]; omega
            · obtain rfl : i = 2 := by omega
              have HP : Hid (rparseV l = .tuple #[.agg #[.int .i64 0, .int .i64 0], .int .i64 3]) := rparse_none HN.out
              have g0 := (hb.cell (p := ⟨w.heap.size, 0, none⟩) (by show w.heap.size < _; omega)).trans c0
              have g1 := (hb.cell (p := ⟨w.heap.size, 1, none⟩) (by show w.heap.size < _; omega)).trans c1
              have fg0 := (hb.frozen (p := ⟨w.heap.size, 0, none⟩) (by show w.heap.size < _; omega)).trans fc0
              have fg1 := (hb.frozen (p := ⟨w.heap.size, 1, none⟩) (by show w.heap.size < _; omega)).trans fc1
              have hzw6 : w.heap.size < wr.heap.size := by have := hb.size; omega
              go_wp2_with fail
              refine bodyPost_ret (v := rparseV l) (by rw [HP.out]; simp [results, Tryd.results24, go_sem, two_set0 g0 g1, two_set1 g0 g1]) rfl ⟨rfl, ?_⟩
              exact ((hbW'.trans (hb.mono (by omega))).setCell (by simp) _).setCell (by simp) _
end Go.Proofs.YthbckkjihijekaaDoor
