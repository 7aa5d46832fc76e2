/- Words and numbers: the reference's. -/
import Derived.Test.YtnaoagkelbjflaaGreatDoorSn0
import Derived.Test.YtnaoagkelbjflaaGreatDoorSl
import Derived.StillTailTactics
import Derived.Laws.OwnMore
import Derived.Maps.AppendAt
import Derived.RangeFuncBox
set_option linter.unusedSimpArgs false
set_option linter.unusedVariables false
namespace Go.Proofs.YtnaoagkelbjflaaGreatDoor
open Go.RowKit

theorem Tryz.infoStr : (Tryz.prog.info? 9).map (fun i => (i.zero, i.size, i.bytes)) = some (some (.string ⟨#[]⟩), 1, 16) := by kernel_rfl
theorem flat_setS (o : List (List UInt8)) (z u : List UInt8) : ((o ++ [z]).flatMap encStr).set o.length (.string ⟨u.toArray⟩) = (o ++ [u]).flatMap encStr := by
  have h : (o.flatMap encStr).length = o.length := by rw [flat_len encStr_len, Nat.mul_one]
  rw [List.flatMap_append, List.flatMap_append]
  have : o.length = (o.flatMap encStr).length + 0 := by omega
  conv => lhs; arg 2; rw [this]
  rw [List.set_append_right _ _ (by omega)]
  simp [encStr]
theorem wordStep_snoc (c x : UInt8) (o : List (List UInt8)) (z : List UInt8) : wordStep c (o ++ [z]) x = if x = c then o ++ [z] ++ [[]] else o ++ [z ++ [x]] := by
  unfold wordStep
  split
  · rfl
  · simp
def strLenB (c : UInt8) : Nat := c.toNat
set_option maxRecDepth 100000 in
set_option maxHeartbeats 1000000 in
theorem words_any (l : List UInt8) (w : World) (hs : l.length ≤ 5000) :
    Calls Tryz.prog 50 #[.string ⟨l.toArray⟩] w fun e w' => ∃ A cap, e = .returned (.slice A (wordsL 32 l).length cap) ∧ Sl w' w.heap.size w'.heap.size 1 encStr A (wordsL 32 l).length (wordsL 32 l) ∧ Below w.heap.size w w' := by
  obtain ⟨i0, hi0, hz0, hz1, hz2⟩ := info_parts Tryz.infoStr
  have hown0 : (w.alloc (.cells #[.string ⟨#[]⟩] 9)).ownsRow w.heap.size 9 1 (.slice (some ⟨w.heap.size, 0, none⟩) 1 1) 1 [.string ⟨#[]⟩] := World.ownsRow_lit w #[.string ⟨#[]⟩] 1 (Nat.le_refl _) (by unfold maxLen; omega) rfl
  have HO := Lib.hid hown0; clear hown0
  go_enter Tryz.func50, Tryz.ntmps50
  go_wp2_with fail
  go_loopw [3, 4] (fun v i wr => ∃ k : Nat, k ≤ l.length ∧ i = .int .i64 (k : Int) ∧ wr.ownsRow w.heap.size 9 1 v (wordsL 32 (l.take k)).length ((wordsL 32 (l.take k)).flatMap encStr) ∧ (wordsL 32 (l.take k)).length ≤ k + 1 ∧ (∀ x ∈ wordsL 32 (l.take k), x.length ≤ k) ∧ Below w.heap.size w wr) (fun _ i _ => l.length - (intOf i).toNat)
  case atStart => exact ⟨0, by omega, rfl, HO.out, by simp [wordsL], by simp [wordsL], by (repeat (first | exact Below.refl _ _ | assumption | refine Below.alloc ?_ (by first | omega | (simp only [World.size_alloc]; omega) | (simp; done) | (simp; omega)) _ | refine Below.setCell ?_ (by first | omega | (simp only [World.size_alloc]; omega) | (simp; done) | (simp; omega)) _ | refine Below.drew ?_ | refine below_drewN ?_ _))⟩
  case round =>
    obtain ⟨k, hk, rfl, hown, hlen, hall, hb⟩ := hrel
    clear HO
    by_cases hlt : k < l.length
    · obtain ⟨c, hc⟩ : ∃ c, l[k]? = some c := ⟨l[k], List.getElem?_eq_getElem hlt⟩
      have h0 : ∀ h, (ByteArray.mk l.toArray)[k]'h = c := fun h => by
        have := (List.getElem?_eq_some_iff.1 hc).2
        exact this
      have hx1 : (ByteArray.mk l.toArray).extract k (k + 1) = ⟨[c].toArray⟩ := by
        rw [ByteArray.extract_mk]
        have : (l.drop k).take 1 = [c] := by
          obtain ⟨h1, h2⟩ := List.getElem?_eq_some_iff.1 hc
          rw [List.drop_eq_getElem_cons h1, h2]; rfl
        simp [this]
      have hsn : wordsL 32 (l.take (k + 1)) = wordStep 32 (wordsL 32 (l.take k)) c := by rw [take_snoc' hc, wordsL_snoc]
      have hne := wordsL_ne 32 (l.take k)
      generalize wordsL 32 (l.take k) = out at *
      obtain ⟨o, z, rfl⟩ : ∃ o z, out = o ++ [z] := by
        rcases List.eq_nil_or_concat out with h | ⟨o, z, h⟩
        · exact absurd h hne
        · exact ⟨o, z, by rw [h, List.concat_eq_append]⟩
      rw [wordStep_snoc] at hsn
      have HSN := Lib.hid hsn; clear hsn hne
      have HC := Lib.hid hc; clear hc
      have hzl : z.length ≤ k := hall z (by simp)
      have hol : ∀ x ∈ o, x.length ≤ k := fun x hx => hall x (by simp [hx])
      have HOL := Lib.hid hol; clear hol hall
      have hlen' : (o ++ [z]).length = o.length + 1 := by simp
      rw [hlen'] at hown hlen
      clear hlen'
      obtain ⟨g, cq, hv⟩ := ownsRow_succ hown
      subst hv
      have hzr : w.heap.size ≤ wr.heap.size := hb.size
      by_cases h32 : c = 32
      · subst h32
        have HS2 : Hid (wordsL 32 (l.take (k + 1)) = o ++ [z] ++ [[]]) := by show _ = _; rw [HSN.out, if_pos rfl]
        clear HSN
        go_wp2_with (at_builtin; refine wpList_append_own _ rfl _ _ 58 rfl w.heap.size 9 i0 (.string ⟨#[]⟩) 1 16 Tryz.underlying58 hi0 hz0 hz1 hz2 rfl (by decide) _ _ _ rfl (hown.alloc _) ⟨wr.heap.size, 0, none⟩ 1 1 [.string ⟨#[]⟩] rfl rfl ?c1 ?c2 ?c3 ?c4 ?c5 ?_)
        case c1 => exact one_cell_new _ _ _
        case c2 => simp [Value.oneCell']
        case c3 => unfold maxLen; omega
        case c4 => omega
        case c5 => simp; omega
        · intro v' w4 hown' hgrow _
          have hb4 : Below w.heap.size w w4 := Below.grown (hb.alloc hzr _) hgrow (by simp; omega) (fun g hg => (hown.lt g hg).1)
          clear hgrow hown hb
          go_wp2_with fail
          go_roundw
          case rel =>
            refine ⟨k + 1, by omega, by go_num, ?_, ?_, ?_, hb4⟩
            · rw [HS2.out]
              simpa [List.flatMap_append, encStr] using hown'
            · rw [HS2.out]; simp; omega
            · rw [HS2.out]
              intro x hx
              simp only [List.mem_append, List.mem_singleton] at hx
              rcases hx with (hx | rfl) | rfl
              · have := HOL.out x hx; omega
              · omega
              · simp
          case measure => simp [intOf]; omega
      · have hne : ((c.toNat : Int) == 32) = false := by
          have : c.toNat ≠ 32 := fun e => h32 (UInt8.toNat_inj.1 e)
          simp; omega
        have HS2 : Hid (wordsL 32 (l.take (k + 1)) = o ++ [z ++ [c]]) := by show _ = _; rw [HSN.out, if_neg h32]
        clear HSN
        have hf : ((o ++ [z]).flatMap encStr)[o.length]? = some (.string ⟨z.toArray⟩) := by
          have := flat_at encStr_len (o ++ [z]) o.length z 0 _ (by simp) rfl
          rwa [Nat.mul_one, Nat.add_zero] at this
        have hcz : wr.cell? ⟨g, o.length, none⟩ = some (.string ⟨z.toArray⟩) := (hown.cellAt _ (by omega)).trans hf
        have hfz : wr.frozen? ⟨g, o.length, none⟩ = false := hown.frozenAt _
        clear hf
        have hgl := hown.lt g rfl
        have hst := hown.stored o.length (.string ⟨(z ++ [c]).toArray⟩)
        rw [flat_setS] at hst
        have HST := Lib.hid hst.1; clear hst
        have i0' : (0 : Int) ≤ (o.length : Int) := by omega
        have i1' : (o.length : Int) < (o.length : Int) + 1 := by omega
        have k1 : IntKind.i64.wrap ((k : Int) + 1) = (k : Int) + 1 := IntWalk.i64_in _ (by omega)
        have k2 : IntKind.i64.wrap ((o.length : Int) + 1 - 1) = (o.length : Int) := by rw [show (o.length : Int) + 1 - 1 = (o.length : Int) by omega]; exact IntWalk.i64_in _ (by omega)
        have k3 : IntKind.i64.wrap (o.length : Int) = (o.length : Int) := IntWalk.i64_in _ (by omega)
        have p0 : (0 : Int) ≤ (k : Int) := by omega
        have p1 : (k : Int) ≤ (k : Int) + 1 := by omega
        have p2 : (k : Int) + 1 ≤ (l.length : Int) := by omega
        have p3 : ((k : Int) + 1).toNat = k + 1 := by omega
        have p4 : (0 : Int) ≤ (k : Int) + 1 := by omega
        have hq := add_lists (P := Tryz.prog) z [c] (by simp; omega)
        clear hown
        go_wp2_with fail
        go_still_tail 17, (by kernel_rfl)
        change wpList _ _ _ _ _ wr.drew
        go_wp2_with fail
        go_roundw
        case rel =>
          refine ⟨k + 1, by omega, by go_num, ?_, ?_, ?_, Below.drew (hb.setCell hgl.1 _)⟩
          · rw [HS2.out]
            have h2 := HST.out
            simp at h2 ⊢
            exact h2
          · rw [HS2.out]; simp; omega
          · rw [HS2.out]
            intro x hx
            simp only [List.mem_append, List.mem_singleton] at hx
            rcases hx with hx | rfl
            · have := HOL.out x hx; omega
            · simp; omega
        case measure => simp [intOf]; omega
    · obtain rfl : k = l.length := by omega
      rw [List.take_length] at hown
      obtain ⟨A0, c0, rfl, _⟩ := own_form hown
      have hSo := Sl.of_own (enc := encStr) encStr_len hown rfl
      clear hown
      go_wp2_with fail
      go_ret
      exact ⟨A0, c0, rfl, hSo, hb⟩

def digB (c : UInt8) : Bool := decide (48 ≤ c.toNat ∧ c.toNat ≤ 57)
def numA (l : List UInt8) : Nat := dgN 7 0 (l.filter digB)
theorem digB_iff (c : UInt8) : digB c = true ↔ isDig c := by unfold digB isDig; simp
theorem dgN_cons (f n : Nat) (c : UInt8) (l : List UInt8) (h : digB c = true) : dgN (f + 1) n (c :: l) = dgN f (10 * n + (c.toNat - 48)) l := by
  have := (digB_iff c).1 h
  unfold isDig at this
  rw [dgN, if_pos this]
theorem dig_step7 {k m d : Nat} (hm : m < 10 ^ k) (hk : k < 7) (hd : d ≤ 9) : 10 * m + d < 10 ^ (k + 1) ∧ 10 * m + d ≤ 9999999 := by
  have h1 : 10 * m + d < 10 ^ (k + 1) := by rw [Nat.pow_succ]; omega
  have h2 : 10 ^ (k + 1) ≤ 10 ^ 7 := Nat.pow_le_pow_right (by omega) (by omega)
  exact ⟨h1, by simp at h2; omega⟩
set_option maxRecDepth 100000 in
set_option maxHeartbeats 1000000 in
theorem rnum9_any (l : List UInt8) (w : World) (hs : l.length ≤ 5000) :
    Calls Tryz.prog 52 #[.string ⟨l.toArray⟩] w fun e w' => e = .returned (.int .i64 (numA l : Int)) ∧ w = w' := by
  have HNA : Hid (numA l = dgN 7 0 (l.filter digB)) := rfl
  go_enter Tryz.func52, Tryz.ntmps52
  go_wp2_with fail
  go_loop [3, 4, 5] (fun n q i => ∃ k m d : Nat, k ≤ l.length ∧ d ≤ 7 ∧ m ≤ 9999999 ∧ m < 10 ^ d ∧ n = .int .i64 (m : Int) ∧ q = .int .i64 (d : Int) ∧ i = .int .i64 (k : Int) ∧ numA l = dgN (7 - d) m ((l.drop k).filter digB)) (fun _ _ i => l.length - (intOf i).toNat)
  case atStart => exact ⟨0, 0, 0, by omega, by omega, by omega, by simp, rfl, rfl, rfl, rfl⟩
  case round =>
    obtain ⟨k, m, d, hk, hd, hm, hm7, rfl, rfl, rfl, hn⟩ := hrel
    clear HNA
    have HN := Lib.hid hn; clear hn
    have HM := Lib.hid hm7; clear hm7
    by_cases hlt : k < l.length
    · obtain ⟨c, hc⟩ : ∃ c, l[k]? = some c := ⟨l[k], List.getElem?_eq_getElem hlt⟩
      have h0 : ∀ h, (ByteArray.mk l.toArray)[k]'h = c := fun h => by
        have := (List.getElem?_eq_some_iff.1 hc).2
        exact this
      have hdr : l.drop k = c :: l.drop (k + 1) := by
        obtain ⟨h1, h2⟩ := List.getElem?_eq_some_iff.1 hc
        rw [List.drop_eq_getElem_cons h1, h2]
      have HDR := Lib.hid hdr; clear hdr
      clear hc
      by_cases hd7 : d < 7
      · by_cases hlo : 48 ≤ c.toNat
        · by_cases hhi : c.toNat ≤ 57
          · go_wp2_with fail
            go_round
            case rel =>
              have h := dig_step7 HM.out hd7 (show c.toNat - 48 ≤ 9 by omega)
              have hb : digB c = true := (digB_iff c).2 ⟨hlo, hhi⟩
              refine ⟨k + 1, 10 * m + (c.toNat - 48), d + 1, by omega, by omega, h.2, h.1, by go_num, by go_num, by go_num, ?_⟩
              rw [HN.out, HDR.out, List.filter_cons_of_pos hb, show 7 - d = (7 - (d + 1)) + 1 from by omega, dgN_cons _ _ _ _ hb]
            case measure => simp [intOf]; omega
          · have hb : Hid (digB c = false) := by show _ = _; unfold digB; simp; omega
            go_wp2_with fail
            go_round
            case rel => exact ⟨k + 1, m, d, by omega, by omega, hm, HM.out, rfl, rfl, by go_num, by rw [HN.out, HDR.out, List.filter_cons_of_neg (by rw [hb.out]; decide)]⟩
            case measure => simp [intOf]; omega
        · have hb : Hid (digB c = false) := by show _ = _; unfold digB; simp; omega
          go_wp2_with fail
          go_round
          case rel => exact ⟨k + 1, m, d, by omega, by omega, hm, HM.out, rfl, rfl, by go_num, by rw [HN.out, HDR.out, List.filter_cons_of_neg (by rw [hb.out]; decide)]⟩
          case measure => simp [intOf]; omega
      · have hr : numA l = m := by rw [HN.out, show 7 - d = 0 from by omega, dgN]
        have HR := Lib.hid hr; clear hr
        go_wp2_with fail
        go_ret
        exact ⟨by rw [HR.out]; rfl, rfl⟩
    · have hr : numA l = m := by rw [HN.out, List.drop_eq_nil_of_le (by omega)]; cases (7 - d) <;> rfl
      have HR := Lib.hid hr; clear hr
      go_wp2_with fail
      go_ret
      exact ⟨by rw [HR.out]; rfl, rfl⟩
theorem numA_le (l : List UInt8) : numA l ≤ 9999999 := by
  have key : ∀ (f n : Nat) (l : List UInt8), dgN f n l < (n + 1) * 10 ^ f := by
    intro f
    induction f with
    | zero => intro n l; simp [dgN]
    | succ f ih =>
      intro n l
      have hp : 0 < 10 ^ f := Nat.pow_pos (by omega)
      cases l with
      | nil =>
        show n < _
        rw [Nat.pow_succ]
        calc n < (n + 1) * 1 := by omega
          _ ≤ (n + 1) * (10 ^ f * 10) := Nat.mul_le_mul_left _ (by omega)
      | cons c l =>
        unfold dgN
        split
        · rename_i h
          refine Nat.lt_of_lt_of_le (ih _ _) ?_
          rw [Nat.pow_succ, Nat.mul_comm (10 ^ f) 10, ← Nat.mul_assoc]
          exact Nat.mul_le_mul_right _ (by omega)
        · rw [Nat.pow_succ]
          calc n < (n + 1) * 1 := by omega
            _ ≤ (n + 1) * (10 ^ f * 10) := Nat.mul_le_mul_left _ (by omega)
  have := key 7 0 (l.filter digB)
  unfold numA
  omega
theorem numA_of {l d : List UInt8} {v : Nat} (hf : l.filter digB = d) (hd : ∀ c ∈ d, isDig c) (hl : d.length ≤ 7) (hv : Lib.decFrom 0 d = some v) : numA l = v := by
  unfold numA
  rw [hf]
  have := dgN_dig d [] 7 0 v hd (fun c h => by cases h) hl hv
  rwa [List.append_nil] at this
theorem filter_dig {d : List UInt8} (h : ∀ c ∈ d, isDig c) : d.filter digB = d := List.filter_eq_self.2 fun c hc => (digB_iff c).2 (h c hc)
theorem numA_itoa (n : Int) (h1 : 0 ≤ n) (h2 : n ≤ 9999999) : (numA (Lib.itoa n) : Int) = n := by
  have := numA_of (filter_dig (itoa_dig n h1)) (itoa_dig n h1) (by rw [itoa_nat n h1]; exact decDigits_le 6 _ (by omega)) (v := n.toNat) (by rw [itoa_nat n h1]; exact decFrom_dec _)
  rw [this]; omega
theorem numA_hour (n : Int) (h1 : 0 ≤ n) (h2 : n ≤ 9999999) : (numA (Lib.itoa n ++ [104]) : Int) = n := by
  have := numA_of (l := Lib.itoa n ++ [104]) (d := Lib.itoa n) (by rw [List.filter_append, filter_dig (itoa_dig n h1)]; simp [digB]) (itoa_dig n h1) (by rw [itoa_nat n h1]; exact decDigits_le 6 _ (by omega)) (v := n.toNat) (by rw [itoa_nat n h1]; exact decFrom_dec _)
  rw [this]; omega
theorem numA_gram (k : Nat) (h : k ≤ 200000) : numA (gramS k) = k := by
  have hd : ∀ c ∈ Lib.decDigits (k / 1000) ++ pad3 (k % 1000), isDig c := fun c hc => by
    rcases List.mem_append.1 hc with hc | hc
    · exact dec_digits _ c hc
    · exact pad3_dig _ (by omega) c hc
  refine numA_of (d := Lib.decDigits (k / 1000) ++ pad3 (k % 1000)) ?_ hd ?_ ?_
  · unfold gramS
    rw [List.filter_append, List.filter_cons_of_neg (by simp [digB]), filter_dig (dec_digits _), filter_dig (pad3_dig _ (by omega))]
  · have := decDigits_le 2 (k / 1000) (by omega)
    simp [pad3]; omega
  · rw [decFrom_append, decFrom_dec]
    show Lib.decFrom (k / 1000) (pad3 (k % 1000)) = _
    rw [decFrom_pad3 _ _ (by omega)]
    congr 1; omega
end Go.Proofs.YtnaoagkelbjflaaGreatDoor
