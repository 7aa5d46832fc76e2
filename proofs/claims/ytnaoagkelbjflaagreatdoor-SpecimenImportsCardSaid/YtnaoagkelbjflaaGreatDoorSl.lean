/- Labels read: the reference's number and Parse. -/
import Derived.Test.YtnaoagkelbjflaaGreatDoorSe
import Derived.Test.YtnaoagkelbjflaaGreatDoorSg
import Derived.Deep.DeepCutAuto
set_option linter.unusedSimpArgs false
set_option linter.unusedVariables false
namespace Go.Proofs.YtnaoagkelbjflaaGreatDoor
open Go.RowKit

def dgN : Nat → Nat → List UInt8 → Nat
  | 0, n, _ => n
  | _ + 1, n, [] => n
  | f + 1, n, c :: l => if 48 ≤ c.toNat ∧ c.toNat ≤ 57 then dgN f (10 * n + (c.toNat - 48)) l else n
theorem dgN_dig : ∀ (d r : List UInt8) (f n v : Nat), (∀ c ∈ d, isDig c) → (∀ c, r.head? = some c → ¬ isDig c) → d.length ≤ f → Lib.decFrom n d = some v → dgN f n (d ++ r) = v
  | [], r, f, n, v, _, hr, _, hv => by
    simp only [Lib.decFrom, Option.some.injEq] at hv
    subst hv
    cases f with
    | zero => rfl
    | succ f =>
      cases r with
      | nil => rfl
      | cons c r =>
        have := hr c rfl
        unfold isDig at this
        rw [List.nil_append, dgN, if_neg this]
  | c :: d, r, f, n, v, hd, hr, hf, hv => by
    cases f with
    | zero => simp at hf
    | succ f =>
      have hc := hd c (List.mem_cons_self ..)
      unfold isDig at hc
      have hdv : Lib.digitVal c = some (c.toNat - 48) := by unfold Lib.digitVal; rw [if_pos (by omega)]
      simp only [Lib.decFrom, hdv] at hv
      rw [List.cons_append, dgN, if_pos hc]
      refine dgN_dig d r f _ v (fun x hx => hd x (List.mem_cons_of_mem _ hx)) hr (by simp at hf; omega) ?_
      rw [← hv]; congr 1; omega
theorem dig_step3 {k m d : Nat} (hm : m < 10 ^ k) (hk : k < 3) (hd : d ≤ 9) : 10 * m + d < 10 ^ (k + 1) ∧ 10 * m + d ≤ 999 := by
  have h1 : 10 * m + d < 10 ^ (k + 1) := by rw [Nat.pow_succ]; omega
  have h2 : 10 ^ (k + 1) ≤ 10 ^ 3 := Nat.pow_le_pow_right (by omega) (by omega)
  exact ⟨h1, by simp at h2; omega⟩
set_option maxRecDepth 100000 in
set_option maxHeartbeats 1000000 in
theorem rnum5_any (l : List UInt8) (w : World) (hs : l.length ≤ 5000) :
    Calls Tryz.prog 100 #[.string ⟨l.toArray⟩] w fun e w' => e = .returned (.int .i64 (dgN 3 0 l : Int)) ∧ w = w' := by
  go_enter Tryz.func100, Tryz.ntmps100
  go_wp2_with fail
  go_loop [3, 4] (fun n i => ∃ k m : Nat, k ≤ 3 ∧ k ≤ l.length ∧ m ≤ 999 ∧ m < 10 ^ k ∧ n = .int .i64 (m : Int) ∧ i = .int .i64 (k : Int) ∧ dgN 3 0 l = dgN (3 - k) m (l.drop k)) (fun _ i => 3 - (intOf i).toNat)
  case atStart => exact ⟨0, 0, by omega, by omega, by omega, by simp, rfl, rfl, rfl⟩
  case round =>
    obtain ⟨k, m, hk, hkl, hm, hm5, rfl, rfl, hd⟩ := hrel
    have HD := Lib.hid hd; clear hd
    have HM := Lib.hid hm5; clear hm5
    have hfin : ∀ r, dgN (3 - k) m (l.drop k) = r → dgN 3 0 l = r := fun r h => by rw [HD.out, h]
    have HFIN := Lib.hid hfin; clear hfin
    by_cases hlt : k < l.length
    · obtain ⟨c, hc⟩ : ∃ c, l[k]? = some c := ⟨l[k], List.getElem?_eq_getElem hlt⟩
      have h0 : ∀ h, (ByteArray.mk l.toArray)[k]'h = c := fun h => by
        have := (List.getElem?_eq_some_iff.1 hc).2
        exact this
      have hdr : l.drop k = c :: l.drop (k + 1) := by
        obtain ⟨h1, h2⟩ := List.getElem?_eq_some_iff.1 hc
        rw [List.drop_eq_getElem_cons h1, h2]
      have HDR := Lib.hid hdr; clear hdr
      have HC := Lib.hid hc; clear hc
      by_cases hk5 : k < 3
      · by_cases hlo : 48 ≤ c.toNat
        · by_cases hhi : c.toNat ≤ 57
          · go_wp2_with fail
            go_round
            case rel =>
              have h := dig_step3 HM.out hk5 (show c.toNat - 48 ≤ 9 by omega)
              refine ⟨k + 1, 10 * m + (c.toNat - 48), by omega, by omega, h.2, h.1, by go_num, by go_num, ?_⟩
              rw [HD.out, HDR.out, show 3 - k = (3 - (k + 1)) + 1 from by omega, dgN, if_pos ⟨hlo, hhi⟩]
            case measure => simp [intOf]; omega
          · have hr : dgN 3 0 l = m := HFIN.out _ (by rw [HDR.out, show 3 - k = (3 - (k + 1)) + 1 from by omega, dgN, if_neg (by omega)])
            have HR := Lib.hid hr; clear hr
            go_wp2_with fail
            go_ret
            exact ⟨by rw [HR.out]; rfl, rfl⟩
        · have hr : dgN 3 0 l = m := HFIN.out _ (by rw [HDR.out, show 3 - k = (3 - (k + 1)) + 1 from by omega, dgN, if_neg (by omega)])
          have HR := Lib.hid hr; clear hr
          go_wp2_with fail
          go_ret
          exact ⟨by rw [HR.out]; rfl, rfl⟩
      · have hr : dgN 3 0 l = m := HFIN.out _ (by rw [show 3 - k = 0 from by omega, dgN])
        have HR := Lib.hid hr; clear hr
        go_wp2_with fail
        go_ret
        exact ⟨by rw [HR.out]; rfl, rfl⟩
    · have hr : dgN 3 0 l = m := HFIN.out _ (by rw [List.drop_eq_nil_of_le (by omega)]; cases (3 - k) <;> rfl)
      have HR := Lib.hid hr; clear hr
      go_wp2_with fail
      go_ret
      exact ⟨by rw [HR.out]; rfl, rfl⟩

def candL (l : List UInt8) (i j : Nat) : Lab := ⟨(i : Int), (dgN 3 0 l.tail : Int), (j : Int)⟩
def hitL (l : List UInt8) (x : Lab) : Bool := okLab x && labS x == l
def noHit (l : List UInt8) (i j : Nat) : Prop := ∀ i' j' : Nat, i' < 2 → j' ≤ 9 → (i' < i ∨ (i' = i ∧ j' < j)) → hitL l (candL l i' j') = false
theorem candL_text (x : Lab) (h : okLab x = true) : candL (labS x) x.side.toNat x.st.toNat = x := by
  obtain ⟨hs, ⟨h1, h2⟩, h3, h4⟩ := (okLab_iff x).1 h
  have hsl : (sideS x.side).length = 1 := by unfold sideS; split <;> rfl
  have ht : (labS x).tail = Lib.itoa x.num ++ stS x.st := by
    rw [labS_ok h]
    unfold sideS
    split <;> rfl
  have hd : dgN 3 0 (labS x).tail = x.num.toNat := by
    rw [ht]
    refine dgN_dig _ _ 3 0 _ (itoa_dig _ (by omega)) ?_ (itoa3 _ h1 h2) ?_
    · intro c hc
      unfold stS at hc
      split at hc
      · simp only [List.head?_cons, Option.some.injEq] at hc
        subst hc
        unfold isDig
        rw [letter_toNat _ (by omega)]; omega
      · cases hc
    · rw [itoa_nat _ (by omega)]; exact decFrom_dec _
  unfold candL
  rw [hd]
  obtain ⟨a, b, c⟩ := x
  simp only at hs h1 h3 ⊢
  have e1 : ((a.toNat : Nat) : Int) = a := by omega
  have e2 : ((b.toNat : Nat) : Int) = b := by omega
  have e3 : ((c.toNat : Nat) : Int) = c := by omega
  rw [e1, e2, e3]
theorem rp_hit {l : List UInt8} {x : Lab} (h : hitL l x = true) : parseLab l = some x := by
  unfold hitL at h
  simp only [Bool.and_eq_true, beq_iff_eq] at h
  rw [← h.2]; exact parseLab_text x h.1
theorem rp_none {l : List UInt8} (h : noHit l 2 0) : parseLab l = none := by
  cases hp : parseLab l with
  | none => rfl
  | some x =>
    obtain ⟨h1, h2⟩ := parseLab_some hp
    obtain ⟨hs, _, h3, h4⟩ := (okLab_iff x).1 h1
    have := h x.side.toNat x.st.toNat (by omega) (by omega) (.inl (by omega))
    rw [← h2, candL_text x h1] at this
    unfold hitL at this
    rw [h1] at this
    simp at this
theorem noHit_next {l : List UInt8} {i j : Nat} (h : noHit l i j) (hh : hitL l (candL l i j) = false) : noHit l i (j + 1) := by
  intro i' j' h1 h2 h3
  by_cases he : i' = i ∧ j' = j
  · rw [he.1, he.2]; exact hh
  · exact h i' j' h1 h2 (by omega)
theorem noHit_row {l : List UInt8} {i : Nat} (h : noHit l i 10) : noHit l (i + 1) 0 := by
  intro i' j' h1 h2 h3
  exact h i' j' h1 h2 (by omega)

set_option maxRecDepth 100000 in
set_option maxHeartbeats 2000000 in
theorem rlparse_any (l : List UInt8) (w : World) (hs : l.length ≤ 5000) :
    Calls Tryz.prog 78 #[.string ⟨l.toArray⟩] w fun e w' => e = .returned (parseLabV l) ∧ Below w.heap.size w w' := by
  cases l with
  | nil =>
    have HV := Lib.hid (parseLabV_none parseLab_nil)
    go_enter Tryz.func78, Tryz.ntmps78
    go_wp2_with fail
    go_loopw [4] (fun s4 wr => s4 = .int .i64 0 ∧ wr = w.alloc (.cells #[.int .i64 0, .int .i64 0, .int .i64 0] 55)) (fun _ _ => 0)
    case atStart => exact ⟨rfl, rfl⟩
    case round =>
      obtain ⟨rfl, rfl⟩ := hrel
      go_wp2_with fail
      refine bodyPost_ret (v := parseLabV []) (by rw [HV.out]; simp [results, Tryz.results78, go_sem]) rfl ⟨rfl, by (repeat (first | exact Below.refl _ _ | assumption | refine Below.alloc ?_ (by first | omega | (simp only [World.size_alloc]; omega) | (simp; done) | (simp; omega)) _ | refine Below.setCell ?_ (by first | omega | (simp only [World.size_alloc]; omega) | (simp; done) | (simp; omega)) _ | refine Below.drew ?_ | refine below_drewN ?_ _))⟩
  | cons c r =>
    simp only [List.length_cons] at hs
    have hx1 : (ByteArray.mk (c :: r).toArray).extract 1 (r.length + 1) = ⟨r.toArray⟩ := by
      rw [ByteArray.extract_mk, List.take_of_length_le (by simp)]; rfl
    go_enter Tryz.func78, Tryz.ntmps78
    go_wp2_with fail
    go_loopw [4] (fun s4 wr => ∃ i : Nat, i ≤ 2 ∧ s4 = .int .i64 (i : Int) ∧ noHit (c :: r) i 0 ∧ Bx wr w.heap.size [.int .i64 0, .int .i64 0, .int .i64 0] ∧ Below w.heap.size w wr) (fun s4 _ => 2 - (intOf s4).toNat)
    case atStart => exact ⟨0, by omega, rfl, fun i' j' _ _ h => by omega, Bx.new _ _ _, by (repeat (first | exact Below.refl _ _ | assumption | refine Below.alloc ?_ (by first | omega | (simp only [World.size_alloc]; omega) | (simp; done) | (simp; omega)) _ | refine Below.setCell ?_ (by first | omega | (simp only [World.size_alloc]; omega) | (simp; done) | (simp; omega)) _ | refine Below.drew ?_ | refine below_drewN ?_ _))⟩
    case round =>
      obtain ⟨i, hi, rfl, hno, Z, hb⟩ := hrel
      have HNO := Lib.hid hno; clear hno
      by_cases hi2 : i < 2
      · go_wp2_with fail
        go_loopw [5] (fun s5 wq => ∃ j : Nat, j ≤ 10 ∧ s5 = .int .i64 (j : Int) ∧ noHit (c :: r) i j ∧ Bx wq w.heap.size [.int .i64 0, .int .i64 0, .int .i64 0] ∧ Below w.heap.size w wq) (fun s5 _ => 10 - (intOf s5).toNat)
        case atStart => exact ⟨0, by omega, rfl, HNO.out, Z, hb⟩
        case round =>
          obtain ⟨j, hj, rfl, hno, Z2, hb2⟩ := hrel
          clear Z hb HNO
          have HNO := Lib.hid hno; clear hno
          by_cases hj2 : j ≤ 9
          · go_wp2_with fail
            refine (rnum5_any r _ (by omega)).mono ?_; rintro e w1 ⟨rfl, rfl⟩
            have hcand : Hid (candL (c :: r) i j = ⟨(i : Int), (dgN 3 0 r : Int), (j : Int)⟩) := rfl
            generalize (dgN 3 0 r : Int) = nn at *
            go_wp2_with fail
            refine (rlvalidb_any ⟨(i : Int), nn, (j : Int)⟩ _).mono ?_; rintro e w2 ⟨rfl, hb3⟩
            obtain ⟨hw3, hb4, P⟩ := step1 hb2 hb3
            replace Z2 := Z2.up hw3
            clear hb2 hb3 hw3
            cases hok : okLab ⟨(i : Int), nn, (j : Int)⟩
            · have HH : Hid (hitL (c :: r) (candL (c :: r) i j) = false) := by show _ = _; rw [hcand.out]; unfold hitL; rw [hok]; rfl
              clear hok
              go_wp2_with fail
              go_roundw
              case rel => exact ⟨j + 1, by omega, by go_num, noHit_next HNO.out HH.out, Z2, hb4⟩
              case measure => simp [intOf]; omega
            · have HOK := Lib.hid hok; clear hok
              have P0 := P.cell 0 _ rfl; have P1 := P.cell 1 _ rfl; have P2 := P.cell 2 _ rfl; have Plt := P.lt
              go_wp2_with fail
              refine (rltext_any ⟨(i : Int), nn, (j : Int)⟩ _).mono ?_; rintro e w3 ⟨rfl, hb5⟩
              (replace hb4 := hb4.trans (hb5.mono hb4.size)); replace P := P.up hb5; replace Z2 := Z2.up hb5; clear hb5; (try clear P0); (try clear P1); (try clear P2); (try clear Pf0); (try clear Pf1); (try clear Pf2); (try clear Plt); (try clear Z20); (try clear Z21); (try clear Z22); (try clear Z2f0); (try clear Z2f1); (try clear Z2f2); (try clear Z2lt)
              have P0 := P.cell 0 _ rfl; have Pf0 := P.frz 0; have P1 := P.cell 1 _ rfl; have Pf1 := P.frz 1; have P2 := P.cell 2 _ rfl; have Pf2 := P.frz 2; have Plt := P.lt
              have Z20 := Z2.cell 0 _ rfl; have Z2f0 := Z2.frz 0; have Z21 := Z2.cell 1 _ rfl; have Z2f1 := Z2.frz 1; have Z22 := Z2.cell 2 _ rfl; have Z2f2 := Z2.frz 2; have Z2lt := Z2.lt
              cases ht : (labS ⟨(i : Int), nn, (j : Int)⟩ == c :: r)
              · have HH : Hid (hitL (c :: r) (candL (c :: r) i j) = false) := by show _ = _; rw [hcand.out]; unfold hitL; rw [ht]; simp
                go_wp2_with fail
                go_roundw
                case rel => exact ⟨j + 1, by omega, by go_num, noHit_next HNO.out HH.out, Z2, hb4⟩
                case measure => simp [intOf]; omega
              · have HV : Hid (parseLabV (c :: r) = .tuple #[.agg #[.int .i64 (i : Int), .int .i64 nn, .int .i64 (j : Int)], .int .i64 0]) := by
                  show _ = _
                  have : hitL (c :: r) ⟨(i : Int), nn, (j : Int)⟩ = true := by unfold hitL; rw [HOK.out, ht]; rfl
                  rw [parseLabV_some (rp_hit this)]
                go_wp2_with fail
                refine bodyPost_ret (v := parseLabV (c :: r)) (by rw [HV.out]; simp [results, Tryz.results78, go_sem, (Z2.all3 (.int .i64 (i : Int)) (.int .i64 nn) (.int .i64 (j : Int))).cell 0 _ rfl, (Z2.all3 (.int .i64 (i : Int)) (.int .i64 nn) (.int .i64 (j : Int))).cell 1 _ rfl, (Z2.all3 (.int .i64 (i : Int)) (.int .i64 nn) (.int .i64 (j : Int))).cell 2 _ rfl]) rfl ⟨rfl, ?_⟩
                exact ((hb4.setCell (by simp) _).setCell (by simp) _).setCell (by simp) _
          · obtain rfl : j = 10 := by omega
            go_wp2_with fail
            go_roundw
            case rel => exact ⟨i + 1, by omega, by go_num, noHit_row HNO.out, Z2, hb2⟩
            case measure => simp [intOf]; omega
      · obtain rfl : i = 2 := by omega
        have HV := Lib.hid (parseLabV_none (rp_none HNO.out))
        have Z0 := Z.cell 0 _ rfl; have Zf0 := Z.frz 0; have Z1 := Z.cell 1 _ rfl; have Zf1 := Z.frz 1; have Z2 := Z.cell 2 _ rfl; have Zf2 := Z.frz 2; have Zlt := Z.lt
        go_wp2_with fail
        refine bodyPost_ret (v := parseLabV (c :: r)) (by rw [HV.out]; simp [results, Tryz.results78, go_sem, (Z.all3 (.int .i64 0) (.int .i64 0) (.int .i64 0)).cell 0 _ rfl, (Z.all3 (.int .i64 0) (.int .i64 0) (.int .i64 0)).cell 1 _ rfl, (Z.all3 (.int .i64 0) (.int .i64 0) (.int .i64 0)).cell 2 _ rfl]) rfl ⟨rfl, ?_⟩
        exact ((hb.setCell (by simp) _).setCell (by simp) _).setCell (by simp) _
end Go.Proofs.YtnaoagkelbjflaaGreatDoor
