/- Chapter 46: reading a listing, the reference's. -/
import Derived.Test.YtccmchmemafjdaaGreatDoorOk
import Derived.StillTailTactics
set_option linter.unusedSimpArgs false
set_option linter.unusedVariables false
namespace Go.Proofs.YtccmchmemafjdaaGreatDoor
open Go.RowKit

def mnI (a b : Int) : Int := if b < a then b else a
theorem mnI_eq (a b : Int) : mnI a b = min a b := by unfold mnI; split <;> omega
theorem run_mnI {P : Program} (ts : Array TypeId) (t : TypeId) (k k' : IntKind) (x y : Int) (w : World) : (Builtin.min_ ts t #[.int k x, .int k' y]).run P w = .ok (.int k (mnI x y)) w := by
  unfold mnI
  first
    | (simp [go_sem]; done)
    | (simp [go_sem]; rw [Int.min_def]; split <;> split <;> omega)
theorem addDig_mn (n : Int) (c : UInt8) : addDig n c = mnI (10 * n + ((c.toNat : Int) - 48)) 100000 := by rw [mnI_eq]; rfl
theorem addDig_bound {n : Int} (h0 : 0 ≤ n) {c : UInt8} (hc : isDigB c = true) : 0 ≤ addDig n c ∧ addDig n c ≤ 100000 := by
  have := (isDigB_iff c).1 hc
  unfold isDig at this
  unfold addDig
  omega
theorem flat_setI (o : List Int) (z u : Int) : ((o ++ [z]).flatMap encI).set o.length (.int .i64 u) = (o ++ [u]).flatMap encI := by
  have hf : (o.flatMap encI).length = o.length := by have := flat_len encI_len o; omega
  rw [List.flatMap_append, List.flatMap_append, List.set_append, if_neg (by rw [hf]; omega), hf, Nat.sub_self]
  rfl

/-- Is the byte ahead a digit? -/
def prevD (s : List UInt8) (i : Nat) : Bool := match i with
  | 0 => false
  | j + 1 => match s[j]? with | some d => isDigB d | none => false
theorem prevD_succ {s : List UInt8} {j : Nat} {d : UInt8} (h : s[j]? = some d) : prevD s (j + 1) = isDigB d := by
  show (match s[j]? with | some d => isDigB d | none => false) = _
  rw [h]
theorem numsG_cons (pd : Bool) (acc : List Int) (c : UInt8) (r : List UInt8) : numsG pd acc (c :: r) = if 30 < acc.length then acc else numsG (isDigB c) (numStep pd acc c) r := rfl
theorem drop_at {s : List UInt8} {i : Nat} {c : UInt8} (h : s[i]? = some c) : s.drop i = c :: s.drop (i + 1) := by
  obtain ⟨h1, h2⟩ := List.getElem?_eq_some_iff.1 h
  rw [List.drop_eq_getElem_cons h1, h2]
/-- The numbers so far. -/
structure PS (s : List UInt8) (i : Nat) (line : List Int) : Prop where
  run : numsG (prevD s i) line (s.drop i) = numsG false [] s
  bnd : ∀ x ∈ line, 0 ≤ x ∧ x ≤ 100000
  len : line.length ≤ 31
  ne : prevD s i = true → line ≠ []
theorem PS.start (s : List UInt8) : PS s 0 [] := ⟨rfl, fun x h => (by cases h), by simp, fun h => (by cases h)⟩
theorem PS.step {s : List UInt8} {i : Nat} {line : List Int} {c : UInt8} (h : PS s i line) (hc : s[i]? = some c) (h30 : line.length ≤ 30) (hl : numStep (prevD s i) line c ≠ [] ∨ isDigB c = false) (hb : ∀ x ∈ numStep (prevD s i) line c, 0 ≤ x ∧ x ≤ 100000) (hn : (numStep (prevD s i) line c).length ≤ 31) :
    PS s (i + 1) (numStep (prevD s i) line c) := by
  have hr := h.run
  rw [drop_at hc, numsG_cons, if_neg (by omega)] at hr
  refine ⟨by rw [prevD_succ hc]; exact hr, hb, hn, fun h2 => ?_⟩
  rw [prevD_succ hc] at h2
  rcases hl with hl | hl
  · exact hl
  · rw [hl] at h2; cases h2
theorem PS.skip {s : List UInt8} {i : Nat} {line : List Int} {c : UInt8} (h : PS s i line) (hc : s[i]? = some c) (h30 : line.length ≤ 30) (hd : isDigB c = false) : PS s (i + 1) line := by
  have e : numStep (prevD s i) line c = line := by unfold numStep; rw [hd]; rfl
  have := h.step hc h30 (.inr hd) (by rw [e]; exact h.bnd) (by rw [e]; exact h.len)
  rwa [e] at this
theorem PS.fresh {s : List UInt8} {i : Nat} {line : List Int} {c : UInt8} (h : PS s i line) (hc : s[i]? = some c) (h30 : line.length ≤ 30) (hd : isDigB c = true) (hp : prevD s i = false) : PS s (i + 1) (line ++ [addDig 0 c]) := by
  have e : numStep (prevD s i) line c = line ++ [addDig 0 c] := by unfold numStep; rw [hd, hp]; rfl
  have := h.step hc h30 (.inl (by rw [e]; simp)) (by
    rw [e]
    intro x hx
    rcases List.mem_append.1 hx with hx | hx
    · exact h.bnd x hx
    · rw [List.mem_singleton] at hx; subst hx; exact addDig_bound (Int.le_refl _) hd) (by rw [e]; simp; omega)
  rwa [e] at this
theorem PS.more {s : List UInt8} {i : Nat} {o : List Int} {z : Int} {c : UInt8} (h : PS s i (o ++ [z])) (hc : s[i]? = some c) (h30 : (o ++ [z]).length ≤ 30) (hd : isDigB c = true) (hp : prevD s i = true) : PS s (i + 1) (o ++ [addDig z c]) := by
  have e : numStep (prevD s i) (o ++ [z]) c = o ++ [addDig z c] := by unfold numStep; rw [hd, hp]; simp
  have hz := h.bnd z (by simp)
  have := h.step hc h30 (.inl (by rw [e]; simp)) (by
    rw [e]
    intro x hx
    rcases List.mem_append.1 hx with hx | hx
    · exact h.bnd x (by simp [hx])
    · rw [List.mem_singleton] at hx; subst hx; exact addDig_bound hz.1 hd) (by rw [e]; simp at h30 ⊢; omega)
  rwa [e] at this
theorem PS.fin1 {s : List UInt8} {line : List Int} (h : PS s s.length line) : line = numsG false [] s := by
  have hr := h.run
  rw [List.drop_length] at hr
  rw [← hr]
  unfold numsG
  rfl
theorem PS.fin2 {s : List UInt8} {i : Nat} {line : List Int} {c : UInt8} (h : PS s i line) (hc : s[i]? = some c) (h30 : 30 < line.length) : line = numsG false [] s := by
  have hr := h.run
  rw [drop_at hc, numsG_cons, if_pos h30] at hr
  exact hr
theorem triples_len : ∀ (K : Nat) (l : List Int), l.length = 3 * K → (triples l).length = K
  | 0, l, h => by
    have : l = [] := List.eq_nil_of_length_eq_zero (by omega)
    subst this; rfl
  | K + 1, l, h => by
    match l, h with
    | a :: b :: c :: r, h =>
      have := triples_len K r (by simp at h; omega)
      show (⟨a, b, c⟩ :: triples r).length = K + 1
      rw [List.length_cons, this]
theorem triples_get : ∀ (k : Nat) (l : List Int) (a b c : Int), l[3 * k]? = some a → l[3 * k + 1]? = some b → l[3 * k + 2]? = some c → (triples l)[k]? = some ⟨a, b, c⟩
  | 0, l, a, b, c, h0, h1, h2 => by
    match l, h0, h1, h2 with
    | x :: y :: z :: r, h0, h1, h2 =>
      simp at h0 h1 h2
      subst h0
      subst h1
      subst h2
      rfl
  | k + 1, l, a, b, c, h0, h1, h2 => by
    match l, h0, h1, h2 with
    | x :: y :: z :: r, h0, h1, h2 =>
      rw [show 3 * (k + 1) = 3 * k + 1 + 1 + 1 from by omega] at h0
      rw [show 3 * (k + 1) + 1 = 3 * k + 1 + 1 + 1 + 1 from by omega] at h1
      rw [show 3 * (k + 1) + 2 = 3 * k + 2 + 1 + 1 + 1 from by omega] at h2
      simp only [List.getElem?_cons_succ] at h0 h1 h2
      have := triples_get k r a b c h0 h1 h2
      show (⟨x, y, z⟩ :: triples r)[k + 1]? = _
      simpa using this
theorem triples_at {line : List Int} {k : Nat} {a b c : Int} (h0 : line[1 + 3 * k]? = some a) (h1 : line[1 + 3 * k + 1]? = some b) (h2 : line[1 + 3 * k + 2]? = some c) : (triples line.tail)[k]? = some ⟨a, b, c⟩ := by
  refine triples_get k _ a b c ?_ ?_ ?_
  · rw [List.getElem?_tail, ← h0]; congr 1; omega
  · rw [List.getElem?_tail, ← h1]; congr 1; omega
  · rw [List.getElem?_tail, ← h2]; congr 1; omega
theorem resR_no {s : List UInt8} (h : ¬ (numsG false [] s).length % 3 = 1) : resL 3 s = (lstZero, 3) := by rw [← resR_eq]; unfold resR; rw [if_neg h]
theorem resR_bad {s : List UInt8} {x : Lst} (hx : candR (numsG false [] s) = x) (h : ¬ (validL x ∧ textL x = s)) : resL 3 s = (lstZero, 3) := by
  rw [← resR_eq]
  unfold resR
  rw [hx, if_neg h]
  split <;> rfl
theorem resR_ok {s : List UInt8} {x : Lst} (h3 : (numsG false [] s).length % 3 = 1) (hx : candR (numsG false [] s) = x) (h : validL x ∧ textL x = s) : resL 3 s = (x, 0) := by
  rw [← resR_eq]
  unfold resR
  rw [hx, if_pos h3, if_pos h]

set_option maxRecDepth 100000 in
set_option maxHeartbeats 20000000 in
theorem rparse_any (s : List UInt8) (w : World) (hs : s.length ≤ 1000000) :
    Calls Tryz.prog 13 #[.string ⟨s.toArray⟩] w fun r w' => PaOut (resL 3 s).1 (resL 3 s).2 r w' ∧ Below w.heap.size w w' := by
  obtain ⟨i0, hi, hz0, hz1, hz2⟩ := info_parts Tryz.infoI
  obtain ⟨i1, hi1, hy0, hy1, hy2⟩ := info_parts Tryz.infoSa
  have hmn := @run_mnI Tryz.prog
  go_enter Tryz.func13, Tryz.ntmps13
  go_wp2_with fail
  have R0 := Bx.new w [.int .i64 0, .slice none 0 0] 24
  have hb0 := one_alloc w (.cells #[.int .i64 0, .slice none 0 0] 24)
  have hB0 : w.heap.size + 1 = (w.alloc (.cells #[.int .i64 0, .slice none 0 0] 24)).heap.size := by simp
  generalize w.alloc (.cells #[.int .i64 0, .slice none 0 0] 24) = W0 at *
  have hB0' : w.heap.size + 1 ≤ W0.heap.size := by omega
  clear hB0
  go_loopw [4, 5] (fun v t wr => ∃ (i : Nat) (line : List Int), i ≤ s.length ∧ t = .int .i64 (i : Int) ∧ PS s i line ∧ wr.ownsRow (w.heap.size + 1) 3 1 v line.length (line.flatMap encI) ∧ Bx wr w.heap.size [.int .i64 0, .slice none 0 0] ∧ Below w.heap.size w wr ∧ w.heap.size + 1 ≤ wr.heap.size) (fun _ t _ => s.length - (intOf t).toNat)
  case atStart => exact ⟨0, [], by omega, rfl, PS.start s, World.ownsRow_nil _ _ _ _, R0, hb0, hB0'⟩
  case round =>
    clear R0 hb0 hB0'
    obtain ⟨i, line, hik, rfl, hps, hown, R, hb, hBl⟩ := hrel
    have hll := hps.len
    obtain ⟨Av, cv, rfl, hcv⟩ := own_form hown
    by_cases hlt : i < s.length
    · obtain ⟨c, hc⟩ : ∃ c, s[i]? = some c := ⟨s[i], List.getElem?_eq_getElem hlt⟩
      have h0 : ∀ h, (ByteArray.mk s.toArray)[i]'h = c := fun h => (List.getElem?_eq_some_iff.1 hc).2
      by_cases h30 : line.length ≤ 30
      · have h30i : (line.length : Int) ≤ 30 := by omega
        cases hd : isDigB c
        · have hnd : ¬ (48 ≤ c.toNat ∧ c.toNat ≤ 57) := fun h' => by have := (isDigB_iff c).2 h'; rw [hd] at this; cases this
          have HPS := Lib.hid (hps.skip hc h30 hd)
          clear hps hc hd
          by_cases h48 : (48 : Int) ≤ c.toNat
          · have h57 : (57 : Int) < c.toNat := by omega
            clear hnd
            go_wp2_with fail
            go_roundw
            case rel => exact ⟨i + 1, line, by omega, by go_num, HPS.out, hown, R, hb, hBl⟩
            case measure => simp [intOf]; omega
          · clear hnd
            go_wp2_with fail
            go_roundw
            case rel => exact ⟨i + 1, line, by omega, by go_num, HPS.out, hown, R, hb, hBl⟩
            case measure => simp [intOf]; omega
        · obtain ⟨d1, d2⟩ := (isDigB_iff c).1 hd
          have d1' : (48 : Int) ≤ c.toNat := by omega
          have d2' : (c.toNat : Int) ≤ 57 := by omega
          cases hpd : prevD s i
          · -- a number begins
            have HPS := Lib.hid (hps.fresh hc h30 hd hpd)
            have hprev : i = 0 ∨ ∃ j d, i = j + 1 ∧ s[j]? = some d ∧ ¬ (48 ≤ d.toNat ∧ d.toNat ≤ 57) := by
              rcases Nat.eq_zero_or_pos i with h0 | h0
              · exact .inl h0
              · obtain ⟨j, rfl⟩ : ∃ j, i = j + 1 := ⟨i - 1, by omega⟩
                have hj : j < s.length := by omega
                refine .inr ⟨j, s[j], rfl, List.getElem?_eq_getElem hj, fun h' => ?_⟩
                rw [prevD_succ (List.getElem?_eq_getElem hj)] at hpd
                have h2 := (isDigB_iff s[j]).2 h'
                rw [h2] at hpd; cases hpd
            clear hps hc hd hpd
            obtain ⟨o, ho⟩ : ∃ o, o = line := ⟨_, rfl⟩
            subst ho
            rcases hprev with rfl | ⟨j, d, rfl, hdj, hnd⟩
            · simp only [Int.ofNat_zero, Int.natCast_zero]
              go_wp2_with (at_builtin; refine wpList_append_own _ rfl _ _ 40 rfl (w.heap.size + 1) 3 i0 (.int .i64 0) 1 8 Tryz.underlying40 hi hz0 hz1 hz2 rfl (by decide) _ _ _ rfl (hown.alloc _) ⟨wr.heap.size, 0, none⟩ 1 1 [.int .i64 0] rfl rfl (cell_list_at rfl _ _) (by simp [Value.oneCell']) (by unfold maxLen; omega) (by omega) (by simp; omega) ?_)
              · intro v' w4 hown' hgrow _
                have hb4 : Below (w.heap.size + 1) wr w4 := Below.grown ((one_alloc wr _).mono hBl) hgrow (by simp; omega) (fun g hg => (hown.lt g hg).1)
                clear hgrow hown
                replace hb := hb.trans (hb4.mono (by omega))
                replace R := R.keepD hb4 (by omega)
                have hB4 : w.heap.size + 1 ≤ w4.heap.size := Nat.le_trans hBl hb4.size
                clear hb4 hBl hcv
                have hown : w4.ownsRow (w.heap.size + 1) 3 1 v' (o.length + 1) ((o ++ [0]).flatMap encI) := by rw [List.flatMap_append]; exact hown'
                clear hown'
                obtain ⟨g, cq, hv⟩ := ownsRow_succ hown
                subst hv
                have hf : ((o ++ [0]).flatMap encI)[o.length]? = some (.int .i64 0) := by
                  have := flat_at encI_len (o ++ [0]) o.length 0 0 _ (by simp) rfl
                  rwa [Nat.mul_one, Nat.add_zero] at this
                have hcz : w4.cell? ⟨g, o.length, none⟩ = some (.int .i64 0) := (hown.cellAt _ (by omega)).trans hf
                have hfz : w4.frozen? ⟨g, o.length, none⟩ = false := hown.frozenAt _
                clear hf
                have hgl := hown.lt g rfl
                have hst := hown.stored o.length (.int .i64 (mnI (10 * 0 + ((c.toNat : Int) - 48)) 100000))
                rw [flat_setI] at hst
                have HST := Lib.hid hst.1; clear hst
                have i0' : (0 : Int) ≤ (o.length : Int) := by omega
                have i1' : (o.length : Int) < (o.length : Int) + 1 := by omega
                have k2 : IntKind.i64.wrap ((o.length : Int) + 1 - 1) = (o.length : Int) := by rw [show (o.length : Int) + 1 - 1 = (o.length : Int) by omega]; exact IntWalk.i64_in _ (by omega)
                have k3 : IntKind.i64.wrap (o.length : Int) = (o.length : Int) := IntWalk.i64_in _ (by omega)
                have k4 : IntKind.i64.wrap (10 * 0) = 10 * 0 := IntWalk.i64_in _ (by omega)
                have k5 : IntKind.i64.wrap ((c.toNat : Int) - 48) = (c.toNat : Int) - 48 := IntWalk.i64_in _ (by omega)
                have k6 : IntKind.i64.wrap (10 * 0 + ((c.toNat : Int) - 48)) = 10 * 0 + ((c.toNat : Int) - 48) := IntWalk.i64_in _ (by omega)
                clear hown
                go_wp2_with fail
                go_still_tail 19, (by kernel_rfl)
                change wpList _ _ _ _ _ w4.drew
                go_wp2_with fail
                go_roundw
                case rel => exact ⟨0 + 1, o ++ [addDig 0 c], by omega, by go_num, HPS.out, by have h2 := HST.out; rw [addDig_mn]; simp at h2 ⊢; exact h2, (R.far (by simp; omega) _).up (Below.drew (Below.refl _ _)), Below.drew (hb.setCell (by simp; omega) _), by show w.heap.size + 1 ≤ (World.setCell w4 _ _).heap.size; rw [size_set]; omega⟩
                case measure => simp [intOf]; omega
            · have hd0 : ∀ h, (ByteArray.mk s.toArray)[j]'h = d := fun h => (List.getElem?_eq_some_iff.1 hdj).2
              have hj : j < s.length := by omega
              clear hdj
              have hj0 : ((j : Int) + 1 == 0) = false := by simp; omega
              have p0 : (0 : Int) ≤ (j : Int) + 1 := by omega
              have p1 : (j : Int) + 1 < (s.length : Int) := by omega
              have p3 : ((j : Int) + 1).toNat = j + 1 := by omega
              by_cases h48 : (48 : Int) ≤ d.toNat
              · have h57 : (57 : Int) < d.toNat := by omega
                have t1 : decide ((d.toNat : Int) < 48) = false := decide_eq_false (by omega)
                have t2 : decide ((57 : Int) < d.toNat) = true := decide_eq_true h57
                clear hnd
                go_wp2_with (at_builtin; refine wpList_append_own _ rfl _ _ 40 rfl (w.heap.size + 1) 3 i0 (.int .i64 0) 1 8 Tryz.underlying40 hi hz0 hz1 hz2 rfl (by decide) _ _ _ rfl (hown.alloc _) ⟨wr.heap.size, 0, none⟩ 1 1 [.int .i64 0] rfl rfl (cell_list_at rfl _ _) (by simp [Value.oneCell']) (by unfold maxLen; omega) (by omega) (by simp; omega) ?_)
                · intro v' w4 hown' hgrow _
                  have hb4 : Below (w.heap.size + 1) wr w4 := Below.grown ((one_alloc wr _).mono hBl) hgrow (by simp; omega) (fun g hg => (hown.lt g hg).1)
                  clear hgrow hown
                  replace hb := hb.trans (hb4.mono (by omega))
                  replace R := R.keepD hb4 (by omega)
                  have hB4 : w.heap.size + 1 ≤ w4.heap.size := Nat.le_trans hBl hb4.size
                  clear hb4 hBl hcv
                  have hown : w4.ownsRow (w.heap.size + 1) 3 1 v' (o.length + 1) ((o ++ [0]).flatMap encI) := by rw [List.flatMap_append]; exact hown'
                  clear hown'
                  obtain ⟨g, cq, hv⟩ := ownsRow_succ hown
                  subst hv
                  have hf : ((o ++ [0]).flatMap encI)[o.length]? = some (.int .i64 0) := by
                    have := flat_at encI_len (o ++ [0]) o.length 0 0 _ (by simp) rfl
                    rwa [Nat.mul_one, Nat.add_zero] at this
                  have hcz : w4.cell? ⟨g, o.length, none⟩ = some (.int .i64 0) := (hown.cellAt _ (by omega)).trans hf
                  have hfz : w4.frozen? ⟨g, o.length, none⟩ = false := hown.frozenAt _
                  clear hf
                  have hgl := hown.lt g rfl
                  have hst := hown.stored o.length (.int .i64 (mnI (10 * 0 + ((c.toNat : Int) - 48)) 100000))
                  rw [flat_setI] at hst
                  have HST := Lib.hid hst.1; clear hst
                  have i0' : (0 : Int) ≤ (o.length : Int) := by omega
                  have i1' : (o.length : Int) < (o.length : Int) + 1 := by omega
                  have k2 : IntKind.i64.wrap ((o.length : Int) + 1 - 1) = (o.length : Int) := by rw [show (o.length : Int) + 1 - 1 = (o.length : Int) by omega]; exact IntWalk.i64_in _ (by omega)
                  have k3 : IntKind.i64.wrap (o.length : Int) = (o.length : Int) := IntWalk.i64_in _ (by omega)
                  have k4 : IntKind.i64.wrap (10 * 0) = 10 * 0 := IntWalk.i64_in _ (by omega)
                  have k5 : IntKind.i64.wrap ((c.toNat : Int) - 48) = (c.toNat : Int) - 48 := IntWalk.i64_in _ (by omega)
                  have k6 : IntKind.i64.wrap (10 * 0 + ((c.toNat : Int) - 48)) = 10 * 0 + ((c.toNat : Int) - 48) := IntWalk.i64_in _ (by omega)
                  clear hown
                  go_wp2_with fail
                  go_still_tail 19, (by kernel_rfl)
                  change wpList _ _ _ _ _ w4.drew
                  go_wp2_with fail
                  go_roundw
                  case rel => exact ⟨(j + 1) + 1, o ++ [addDig 0 c], by omega, by go_num, HPS.out, by have h2 := HST.out; rw [addDig_mn]; simp at h2 ⊢; exact h2, (R.far (by simp; omega) _).up (Below.drew (Below.refl _ _)), Below.drew (hb.setCell (by simp; omega) _), by show w.heap.size + 1 ≤ (World.setCell w4 _ _).heap.size; rw [size_set]; omega⟩
                  case measure => simp [intOf]; omega
              · have t1 : decide ((d.toNat : Int) < 48) = true := decide_eq_true (by omega)
                clear hnd
                go_wp2_with (at_builtin; refine wpList_append_own _ rfl _ _ 40 rfl (w.heap.size + 1) 3 i0 (.int .i64 0) 1 8 Tryz.underlying40 hi hz0 hz1 hz2 rfl (by decide) _ _ _ rfl (hown.alloc _) ⟨wr.heap.size, 0, none⟩ 1 1 [.int .i64 0] rfl rfl (cell_list_at rfl _ _) (by simp [Value.oneCell']) (by unfold maxLen; omega) (by omega) (by simp; omega) ?_)
                · intro v' w4 hown' hgrow _
                  have hb4 : Below (w.heap.size + 1) wr w4 := Below.grown ((one_alloc wr _).mono hBl) hgrow (by simp; omega) (fun g hg => (hown.lt g hg).1)
                  clear hgrow hown
                  replace hb := hb.trans (hb4.mono (by omega))
                  replace R := R.keepD hb4 (by omega)
                  have hB4 : w.heap.size + 1 ≤ w4.heap.size := Nat.le_trans hBl hb4.size
                  clear hb4 hBl hcv
                  have hown : w4.ownsRow (w.heap.size + 1) 3 1 v' (o.length + 1) ((o ++ [0]).flatMap encI) := by rw [List.flatMap_append]; exact hown'
                  clear hown'
                  obtain ⟨g, cq, hv⟩ := ownsRow_succ hown
                  subst hv
                  have hf : ((o ++ [0]).flatMap encI)[o.length]? = some (.int .i64 0) := by
                    have := flat_at encI_len (o ++ [0]) o.length 0 0 _ (by simp) rfl
                    rwa [Nat.mul_one, Nat.add_zero] at this
                  have hcz : w4.cell? ⟨g, o.length, none⟩ = some (.int .i64 0) := (hown.cellAt _ (by omega)).trans hf
                  have hfz : w4.frozen? ⟨g, o.length, none⟩ = false := hown.frozenAt _
                  clear hf
                  have hgl := hown.lt g rfl
                  have hst := hown.stored o.length (.int .i64 (mnI (10 * 0 + ((c.toNat : Int) - 48)) 100000))
                  rw [flat_setI] at hst
                  have HST := Lib.hid hst.1; clear hst
                  have i0' : (0 : Int) ≤ (o.length : Int) := by omega
                  have i1' : (o.length : Int) < (o.length : Int) + 1 := by omega
                  have k2 : IntKind.i64.wrap ((o.length : Int) + 1 - 1) = (o.length : Int) := by rw [show (o.length : Int) + 1 - 1 = (o.length : Int) by omega]; exact IntWalk.i64_in _ (by omega)
                  have k3 : IntKind.i64.wrap (o.length : Int) = (o.length : Int) := IntWalk.i64_in _ (by omega)
                  have k4 : IntKind.i64.wrap (10 * 0) = 10 * 0 := IntWalk.i64_in _ (by omega)
                  have k5 : IntKind.i64.wrap ((c.toNat : Int) - 48) = (c.toNat : Int) - 48 := IntWalk.i64_in _ (by omega)
                  have k6 : IntKind.i64.wrap (10 * 0 + ((c.toNat : Int) - 48)) = 10 * 0 + ((c.toNat : Int) - 48) := IntWalk.i64_in _ (by omega)
                  clear hown
                  go_wp2_with fail
                  go_still_tail 19, (by kernel_rfl)
                  change wpList _ _ _ _ _ w4.drew
                  go_wp2_with fail
                  go_roundw
                  case rel => exact ⟨(j + 1) + 1, o ++ [addDig 0 c], by omega, by go_num, HPS.out, by have h2 := HST.out; rw [addDig_mn]; simp at h2 ⊢; exact h2, (R.far (by simp; omega) _).up (Below.drew (Below.refl _ _)), Below.drew (hb.setCell (by simp; omega) _), by show w.heap.size + 1 ≤ (World.setCell w4 _ _).heap.size; rw [size_set]; omega⟩
                  case measure => simp [intOf]; omega
          · have hne := hps.ne hpd
            obtain ⟨o, z, rfl⟩ : ∃ o z, line = o ++ [z] := by
              rcases List.eq_nil_or_concat line with h | ⟨o, z, h⟩
              · exact absurd h hne
              · exact ⟨o, z, by rw [h, List.concat_eq_append]⟩
            have HPS := Lib.hid (hps.more hc h30 hd hpd)
            have hz := hps.bnd z (by simp)
            obtain ⟨j, rfl⟩ : ∃ j, i = j + 1 := ⟨i - 1, by
              rcases Nat.eq_zero_or_pos i with h0 | h0
              · subst h0; cases hpd
              · omega⟩
            have hj : j < s.length := by omega
            obtain ⟨d, hdj⟩ : ∃ d, s[j]? = some d := ⟨s[j], List.getElem?_eq_getElem hj⟩
            rw [prevD_succ hdj] at hpd
            obtain ⟨d3, d4⟩ := (isDigB_iff d).1 hpd
            have d3' : (48 : Int) ≤ d.toNat := by omega
            have d4' : (d.toNat : Int) ≤ 57 := by omega
            have hd0 : ∀ h, (ByteArray.mk s.toArray)[j]'h = d := fun h => (List.getElem?_eq_some_iff.1 hdj).2
            have hlen' : (o ++ [z]).length = o.length + 1 := by simp
            rw [hlen'] at hown hll h30 h30i
            clear hps hc hd hpd hdj hne
            obtain ⟨g, cq, hv⟩ := ownsRow_succ hown
            injection hv with hv1 hv2 hv3
            subst hv1
            subst hv3
            obtain ⟨hz1', hz2'⟩ := hz
            have hj0 : ((j : Int) + 1 == 0) = false := by simp; omega
            have p0 : (0 : Int) ≤ (j : Int) + 1 := by omega
            have p1 : (j : Int) + 1 < (s.length : Int) := by omega
            have p3 : ((j : Int) + 1).toNat = j + 1 := by omega
            have t1 : decide ((d.toNat : Int) < 48) = false := decide_eq_false (by omega)
            have t2 : decide ((57 : Int) < d.toNat) = false := decide_eq_false (by omega)
            have hf : ((o ++ [z]).flatMap encI)[o.length]? = some (.int .i64 z) := by
              have := flat_at encI_len (o ++ [z]) o.length z 0 _ (by simp) rfl
              rwa [Nat.mul_one, Nat.add_zero] at this
            have hcz : wr.cell? ⟨g, o.length, none⟩ = some (.int .i64 z) := (hown.cellAt _ (by omega)).trans hf
            have hfz : wr.frozen? ⟨g, o.length, none⟩ = false := hown.frozenAt _
            clear hf
            have hgl := hown.lt g rfl
            have hst := hown.stored o.length (.int .i64 (mnI (10 * z + ((c.toNat : Int) - 48)) 100000))
            rw [flat_setI] at hst
            have HST := Lib.hid hst.1; clear hst
            have i0' : (0 : Int) ≤ (o.length : Int) := by omega
            have i1' : (o.length : Int) < (o.length : Int) + 1 := by omega
            have k2 : IntKind.i64.wrap ((o.length : Int) + 1 - 1) = (o.length : Int) := by rw [show (o.length : Int) + 1 - 1 = (o.length : Int) by omega]; exact IntWalk.i64_in _ (by omega)
            have k3 : IntKind.i64.wrap (o.length : Int) = (o.length : Int) := IntWalk.i64_in _ (by omega)
            have k4 : IntKind.i64.wrap (10 * z) = 10 * z := IntWalk.i64_in _ (by omega)
            have k5 : IntKind.i64.wrap ((c.toNat : Int) - 48) = (c.toNat : Int) - 48 := IntWalk.i64_in _ (by omega)
            have k6 : IntKind.i64.wrap (10 * z + ((c.toNat : Int) - 48)) = 10 * z + ((c.toNat : Int) - 48) := IntWalk.i64_in _ (by omega)
            clear hown
            go_wp2_with fail
            go_still_tail 19, (by kernel_rfl)
            change wpList _ _ _ _ _ wr.drew
            go_wp2_with fail
            go_roundw
            case rel => exact ⟨(j + 1) + 1, o ++ [addDig z c], by omega, by go_num, HPS.out, by have h2 := HST.out; rw [addDig_mn]; simp at h2 ⊢; exact h2, (R.far (by simp; omega) _).up (Below.drew (Below.refl _ _)), Below.drew (hb.setCell (by simp; omega) _), by show w.heap.size + 1 ≤ (World.setCell wr _ _).heap.size; rw [size_set]; omega⟩
            case measure => simp [intOf]; omega
      · have h30i : ¬ ((line.length : Int) ≤ 30) := by omega
        have HLN := Lib.hid (hps.fin2 hc (by omega))
        clear hc hps h0
        have HSn0 := Sl.of_own (enc := encI) encI_len hown rfl
        have hrm : (line.length : Int).tmod 3 = ((line.length % 3 : Nat) : Int) := by rw [Int.tmod_eq_emod_of_nonneg (by omega)]; omega
        by_cases h3 : line.length % 3 = 1
        rotate_left 1
        · first
          | (exfalso; omega)
          | (have HR := Lib.hid (resR_no (s := s) (by rw [← HLN.out]; exact h3))
             have h3i : (((line.length % 3 : Nat) : Int) != 1) = true := by simp; omega
             have R0 := R.cell 0 _ rfl; have Rf0 := R.frz 0; have R1 := R.cell 1 _ rfl; have Rf1 := R.frz 1; have Rlt := R.lt
             clear h3
             go_wp2_with fail
             refine bodyPost_ret (v := .tuple #[.agg #[.int .i64 0, .slice none 0 0], .int .i64 3]) (by simp [results, Tryz.results13, go_sem, (R.all2 _ _).cell 0 _ rfl, (R.all2 _ _).cell 1 _ rfl]) rfl ?_
             rw [HR.out]
             exact ⟨⟨_, _, _, rfl, by omega, SaS.nil⟩, below_set2 hb (Nat.le_refl _) _ _⟩)
        have h3i : (((line.length % 3 : Nat) : Int) != 1) = false := by simp; omega
        have h3j : ((line.length : Int) % 3 != 1) = false := by simp; omega
        obtain ⟨K, hK3⟩ : ∃ K, line.length = 3 * K + 1 := ⟨line.length / 3, by omega⟩
        obtain ⟨g, offn, a, hA, hgr, ha, hca⟩ := HSn0.in_ (i := 0) (by omega)
        subst hA
        have HL3 := Lib.hid h3
        have HHD : Hid (line.headD 0 = a) := by
          show _ = _
          cases line with
          | nil => cases ha
          | cons y r => simpa using ha
        clear ha h3
        rw [Nat.add_zero] at hca
        have hlp : (0 : Int) < (line.length : Int) := by omega
        have HK3 := Lib.hid hK3
        clear hown hK3
        go_wp2_with fail
        have O := Bx.new wr [.int .i64 a, .slice none 0 0] 24
        have hRl := R.lt
        replace R := R.alloc (.cells #[.int .i64 a, .slice none 0 0] 24)
        replace hb := hb.alloc hb.size (.cells #[.int .i64 a, .slice none 0 0] 24)
        have HSn := HSn0.below (one_alloc wr (.cells #[.int .i64 a, .slice none 0 0] 24)) (Nat.le_refl _)
        have hzA : wr.heap.size + 1 ≤ (wr.alloc (.cells #[.int .i64 a, .slice none 0 0] 24)).heap.size := by simp
        clear HSn0 hca
        generalize wr.alloc (.cells #[.int .i64 a, .slice none 0 0] 24) = W1 at *
        generalize wr.heap.size = bx at *
        go_loopw [7] (fun t wr => ∃ (k : Nat) (ys : List Sal) (vv : Value), k ≤ K ∧ t = .int .i64 ((1 + 3 * k : Nat) : Int) ∧ ys.length = k ∧ ys = (triples line.tail).take k ∧ wr.ownsRow (bx + 1) 57 3 vv k (ys.flatMap encS) ∧ vv.ownBlock ≠ some bx ∧ Bx wr bx [.int .i64 a, vv] ∧ Bx wr w.heap.size [.int .i64 0, .slice none 0 0] ∧ Sl wr (w.heap.size + 1) bx 1 encI (some ⟨g, offn, none⟩) line.length line ∧ Below w.heap.size w wr ∧ bx + 1 ≤ wr.heap.size) (fun t _ => line.length - (intOf t).toNat)
        case atStart => exact ⟨0, [], .slice none 0 0, by omega, rfl, rfl, rfl, World.ownsRow_nil _ _ _ _, by simp [Value.ownBlock], O, R, HSn, hb, hzA⟩
        case round =>
          clear hb R O HSn hzA
          obtain ⟨k, ys, vv, hk, rfl, hyl, hyt, hown2, hne2, O, R, HSn, hb, hzB⟩ := hrel
          obtain ⟨Av2, cv2, rfl, _⟩ := own_form hown2
          obtain ⟨i, hie⟩ : ∃ i, i = 1 + 3 * k := ⟨_, rfl⟩
          rw [← hie]
          have hK3 := HK3.out
          by_cases hlt : i < line.length
          · obtain ⟨b1, o1, v0, hA1, hb1', hv0, n0⟩ := HSn.in_ (i := i) hlt
            obtain ⟨b2, o2, v1, hA2, hb2', hv1, n1⟩ := HSn.in_ (i := i + 1) (by omega)
            obtain ⟨b3, o3, v2, hA3, hb3', hv2, n2⟩ := HSn.in_ (i := i + 2) (by omega)
            cases hA1
            cases hA2
            cases hA3
            have HTR : Hid ((triples line.tail)[k]? = some ⟨v0, v1, v2⟩) := triples_at (by rw [← hie]; exact hv0) (by rw [← hie]; exact hv1) (by rw [← hie]; exact hv2)
            clear hv0 hv1 hv2 hb2' hb3'
            replace n0 : wr.drew.cell? ⟨g, offn + i, none⟩ = some (.int .i64 v0) := n0
            replace n1 : wr.drew.cell? ⟨g, offn + (i + 1), none⟩ = some (.int .i64 v1) := n1
            replace n2 : wr.drew.cell? ⟨g, offn + (i + 2), none⟩ = some (.int .i64 v2) := n2
            have hRlt := R.lt
            have hgn : g < wr.drew.heap.size := by show g < wr.heap.size; omega
            have hnx : g ≠ bx := by omega
            replace O : Bx wr.drew bx [.int .i64 a, .slice Av2 k cv2] := O.up (Below.drew (Below.refl _ _))
            replace hown2 := own_below' hown2 (Below.drew (Below.refl wr.heap.size wr))
            have hb4 : Below w.heap.size w wr.drew := Below.drew hb
            replace R : Bx wr.drew w.heap.size [.int .i64 0, .slice none 0 0] := R.up (Below.drew (Below.refl _ _))
            have HSn4 : Sl wr.drew (w.heap.size + 1) bx 1 encI (some ⟨g, offn, none⟩) line.length line := HSn
            have hzB4 : bx + 1 ≤ wr.drew.heap.size := hzB
            have O0 := O.cell 0 _ rfl
            have O1 := O.cell 1 _ rfl
            have Olt := O.lt
            have i31 : i ≤ 31 := by omega
            have x0 : (0 : Int) ≤ (i : Int) := by omega
            have x1 : (i : Int) < (line.length : Int) := by omega
            have x2 : (0 : Int) ≤ (i : Int) + 1 := by omega
            have x3 : (i : Int) + 1 < (line.length : Int) := by omega
            have x4 : (0 : Int) ≤ (i : Int) + 2 := by omega
            have x5 : (i : Int) + 2 < (line.length : Int) := by omega
            have x6 : IntKind.i64.wrap ((i : Int) + 1) = (i : Int) + 1 := IntWalk.i64_in _ (by omega)
            have x7 : IntKind.i64.wrap ((i : Int) + 2) = (i : Int) + 2 := IntWalk.i64_in _ (by omega)
            have x8 : ((i : Int) + 1).toNat = i + 1 := by omega
            have x9 : ((i : Int) + 2).toNat = i + 2 := by omega
            have HIE := Lib.hid hie
            have hk31 : k ≤ 31 := by omega
            have HKL : Hid (k + 1 ≤ K) := by show _ ≤ _; omega
            clear hb HSn hie hK3 hk hrm h3i h3j hlp
            go_wp2_with fail
            refine wp_region_noPanic ?_
            refine wp_region_held_drew (S := fun U => U.cell? ⟨g, offn + i, none⟩ = some (.int .i64 v0) ∧ U.cell? ⟨g, offn + (i + 1), none⟩ = some (.int .i64 v1) ∧ U.cell? ⟨g, offn + (i + 2), none⟩ = some (.int .i64 v2)) (by kernel_rfl) ⟨n0, n1, n2⟩ (fun hHeld => ?_)
            refine' takeW 0 ?_ ?_ ?_ (by kernel_rfl) (by kernel_rfl) (by kernel_rfl) (fun _ _ _ h => h) hHeld ?_
            rotate_left 2
            · (simp only [List.getElem?_toArray, List.getElem?_cons_succ, List.getElem?_cons_zero]; rfl)
            · rfl
            · (intro w hSw; (try dsimp only at hSw); go_simp; first | done | with_reducible rfl)
            (try simp only [Act.put, List.setIfInBounds_toArray, List.set_cons_zero, List.set_cons_succ])
            refine' takeW 2 ?_ ?_ ?_ (by kernel_rfl) (by kernel_rfl) (by kernel_rfl) (fun _ _ _ h => h) hHeld ?_
            rotate_left 2
            · (simp only [List.getElem?_toArray, List.getElem?_cons_succ, List.getElem?_cons_zero]; rfl)
            · rfl
            · (intro w hSw; (try dsimp only at hSw); go_simp; first | done | with_reducible rfl)
            (try simp only [Act.put, List.setIfInBounds_toArray, List.set_cons_zero, List.set_cons_succ])
            refine' takeW 3 ?_ ?_ ?_ (by kernel_rfl) (by kernel_rfl) (by kernel_rfl) (fun _ _ _ h => h) hHeld ?_
            rotate_left 2
            · (simp only [List.getElem?_toArray, List.getElem?_cons_succ, List.getElem?_cons_zero]; rfl)
            · rfl
            · (intro w hSw; (try dsimp only at hSw); go_simp; first | done | with_reducible rfl)
            (try simp only [Act.put, List.setIfInBounds_toArray, List.set_cons_zero, List.set_cons_succ])
            refine' takeW 4 ?_ ?_ ?_ (by kernel_rfl) (by kernel_rfl) (by kernel_rfl) (fun _ _ _ h => h) hHeld ?_
            rotate_left 2
            · (simp only [List.getElem?_toArray, List.getElem?_cons_succ, List.getElem?_cons_zero]; rfl)
            · rfl
            · (intro w hSw; (try dsimp only at hSw); go_simp; first | done | with_reducible rfl)
            (try simp only [Act.put, List.setIfInBounds_toArray, List.set_cons_zero, List.set_cons_succ])
            refine' takeW 5 ?_ ?_ ?_ (by kernel_rfl) (by kernel_rfl) (by kernel_rfl) (fun _ _ _ h => h) hHeld ?_
            rotate_left 2
            · (simp only [List.getElem?_toArray, List.getElem?_cons_succ, List.getElem?_cons_zero]; rfl)
            · rfl
            · (intro w hSw; (try dsimp only at hSw); go_simp; first | done | with_reducible rfl)
            (try simp only [Act.put, List.setIfInBounds_toArray, List.set_cons_zero, List.set_cons_succ])
            refine' takeW 6 ?_ ?_ ?_ (by kernel_rfl) (by kernel_rfl) (by kernel_rfl) (fun _ _ _ h => h) hHeld ?_
            rotate_left 2
            · (simp only [List.getElem?_toArray, List.getElem?_cons_succ, List.getElem?_cons_zero]; rfl)
            · rfl
            · (intro w hSw; (try dsimp only at hSw); go_simp; first | done | with_reducible rfl)
            (try simp only [Act.put, List.setIfInBounds_toArray, List.set_cons_zero, List.set_cons_succ])
            refine' takeW 7 ?_ ?_ ?_ (by kernel_rfl) (by kernel_rfl) (by kernel_rfl) (fun _ _ _ h => h) hHeld ?_
            rotate_left 2
            · (simp only [List.getElem?_toArray, List.getElem?_cons_succ, List.getElem?_cons_zero]; rfl)
            · rfl
            · (intro w hSw; (try dsimp only at hSw); go_simp; first | done | with_reducible rfl)
            (try simp only [Act.put, List.setIfInBounds_toArray, List.set_cons_zero, List.set_cons_succ])
            refine' takeW 8 ?_ ?_ ?_ (by kernel_rfl) (by kernel_rfl) (by kernel_rfl) (fun _ _ _ h => h) hHeld ?_
            rotate_left 2
            · (simp only [List.getElem?_toArray, List.getElem?_cons_succ, List.getElem?_cons_zero]; rfl)
            · rfl
            · (intro w hSw; (try dsimp only at hSw); go_simp; first | done | with_reducible rfl)
            (try simp only [Act.put, List.setIfInBounds_toArray, List.set_cons_zero, List.set_cons_succ])
            refine' takeW 9 ?_ ?_ ?_ (by kernel_rfl) (by kernel_rfl) (by kernel_rfl) (fun _ _ _ h => h) hHeld ?_
            rotate_left 2
            · (simp only [List.getElem?_toArray, List.getElem?_cons_succ, List.getElem?_cons_zero]; rfl)
            · rfl
            · (intro w hSw; (try dsimp only at hSw); go_simp; first | done | with_reducible rfl)
            (try simp only [Act.put, List.setIfInBounds_toArray, List.set_cons_zero, List.set_cons_succ])
            refine' takeW 10 ?_ ?_ ?_ (by kernel_rfl) (by kernel_rfl) (by kernel_rfl) (fun _ _ _ h => h) hHeld ?_
            rotate_left 2
            · (simp only [List.getElem?_toArray, List.getElem?_cons_succ, List.getElem?_cons_zero]; rfl)
            · rfl
            · (intro w hSw; (try dsimp only at hSw); go_simp; first | done | with_reducible rfl)
            (try simp only [Act.put, List.setIfInBounds_toArray, List.set_cons_zero, List.set_cons_succ])
            refine' takeW 11 ?_ ?_ ?_ (by kernel_rfl) (by kernel_rfl) (by kernel_rfl) (fun _ _ _ h => h) hHeld ?_
            rotate_left 2
            · (simp only [List.getElem?_toArray, List.getElem?_cons_succ, List.getElem?_cons_zero]; rfl)
            · rfl
            · (intro w hSw; (try dsimp only at hSw); go_simp; first | done | with_reducible rfl)
            (try simp only [Act.put, List.setIfInBounds_toArray, List.set_cons_zero, List.set_cons_succ])
            refine' takeW 12 ?_ ?_ ?_ (by kernel_rfl) (by kernel_rfl) (by kernel_rfl) (fun _ _ _ h => h) hHeld ?_
            rotate_left 2
            · (simp only [List.getElem?_toArray, List.getElem?_cons_succ, List.getElem?_cons_zero]; rfl)
            · rfl
            · (intro w hSw; (try dsimp only at hSw); go_simp; first | done | with_reducible rfl)
            (try simp only [Act.put, List.setIfInBounds_toArray, List.set_cons_zero, List.set_cons_succ])
            refine' takeW 13 ?_ ?_ ?_ (by kernel_rfl) (by kernel_rfl) (by kernel_rfl) (fun _ _ _ h => h) hHeld ?_
            rotate_left 2
            · (simp only [List.getElem?_toArray, List.getElem?_cons_succ, List.getElem?_cons_zero]; rfl)
            · rfl
            · (intro w hSw; (try dsimp only at hSw); go_simp; first | done | with_reducible rfl)
            (try simp only [Act.put, List.setIfInBounds_toArray, List.set_cons_zero, List.set_cons_succ])
            refine' takeW 14 ?_ ?_ ?_ (by kernel_rfl) (by kernel_rfl) (by kernel_rfl) (fun _ _ _ h => h) hHeld ?_
            rotate_left 2
            · (simp only [List.getElem?_toArray, List.getElem?_cons_succ, List.getElem?_cons_zero]; rfl)
            · rfl
            · (intro w hSw; (try dsimp only at hSw); go_simp; first | done | with_reducible rfl)
            (try simp only [Act.put, List.setIfInBounds_toArray, List.set_cons_zero, List.set_cons_succ])
            refine' takeW 15 ?_ ?_ ?_ (by kernel_rfl) (by kernel_rfl) (by kernel_rfl) (fun _ _ _ h => h) hHeld ?_
            rotate_left 2
            · (simp only [List.getElem?_toArray, List.getElem?_cons_succ, List.getElem?_cons_zero]; rfl)
            · rfl
            · (intro w hSw; (try dsimp only at hSw); go_simp; first | done | with_reducible rfl)
            (try simp only [Act.put, List.setIfInBounds_toArray, List.set_cons_zero, List.set_cons_succ])
            refine' takeW 16 ?_ ?_ ?_ (by kernel_rfl) (by kernel_rfl) (by kernel_rfl) (fun _ _ _ h => h) hHeld ?_
            rotate_left 2
            · (simp only [List.getElem?_toArray, List.getElem?_cons_succ, List.getElem?_cons_zero]; rfl)
            · rfl
            · (intro w hSw; (try dsimp only at hSw); go_simp; first | done | with_reducible rfl)
            (try simp only [Act.put, List.setIfInBounds_toArray, List.set_cons_zero, List.set_cons_succ])
            refine wpAnyH_ready (rs := [1, 17]) (by kernel_rfl) (by simp) ?_
            refine AllReadyH.cons (o := ?o1_16_1) ?h1_16_1 (fun K hK => ?s1_16_1) (AllReadyH.cons (o := ?o1_16_17) ?h1_16_17 (fun K hK => ?s1_16_17) AllReadyH.nil)
            case h1_16_1 => (simp only [List.getElem?_toArray, List.getElem?_cons_succ, List.getElem?_cons_zero]; rfl)
            case h1_16_17 => (simp only [List.getElem?_toArray, List.getElem?_cons_succ, List.getElem?_cons_zero]; rfl)
            case s1_16_1 =>
              (try have O1b : (wr.alloc (.cells #[.int .i64 v0, .int .i64 v1, .int .i64 v2] 57)).drew.cell? ⟨bx, 1, none⟩ = some (.slice Av2 k cv2) := O.cell 1 _ rfl)
              (try go_simp)
              refine hK.out _ _ hHeld (fun hHeld => ?_)
              clear hK K
              (try simp only [Act.put, List.setIfInBounds_toArray, List.set_cons_zero, List.set_cons_succ])
              refine wpAnyH_ready (rs := [17]) (by kernel_rfl) (by simp) ?_
              refine' AllReadyH.cons ?_ (fun K hK => ?_) AllReadyH.nil
              rotate_left 1
              · (simp only [List.getElem?_toArray, List.getElem?_cons_succ, List.getElem?_cons_zero]; rfl)
              (try go_simp)
              replace hown2 := hown2.alloc (.cells #[.int .i64 v0, .int .i64 v1, .int .i64 v2] 57)
              replace O := O.alloc (.cells #[.int .i64 v0, .int .i64 v1, .int .i64 v2] 57)
              have hb5 := one_alloc wr.drew (.cells #[.int .i64 v0, .int .i64 v1, .int .i64 v2] 57)
              refine hK.out _ _ ⟨(hb5.cell (p := ⟨g, offn + i, none⟩) hgn).trans n0, (hb5.cell (p := ⟨g, offn + (i + 1), none⟩) hgn).trans n1, (hb5.cell (p := ⟨g, offn + (i + 2), none⟩) hgn).trans n2⟩ (fun hHeld => ?_)
              clear hK K
              (try simp only [Act.put, List.setIfInBounds_toArray, List.set_cons_zero, List.set_cons_succ])
              refine wpAnyH_ready (rs := [18]) (by kernel_rfl) (by simp) ?_
              refine' AllReadyH.cons ?_ (fun K hK => ?_) AllReadyH.nil
              rotate_left 1
              · (simp only [List.getElem?_toArray, List.getElem?_cons_succ, List.getElem?_cons_zero]; rfl)
              refine step_append_lies _ rfl (.tmp 83) (.tmp 99) 22 rfl (bx + 1) 57 i1 (.agg #[.int .i64 0, .int .i64 0, .int .i64 0]) 3 24 Tryz.underlying22 hi1 hy0 hy1 hy2 rfl (by decide) _ _ _ rfl hown2 _ 1 1 [.int .i64 v0, .int .i64 v1, .int .i64 v2] rfl rfl (cell_list_at rfl _ _) (by simp [Value.oneCell']) (by decide) (by unfold maxLen; omega) (by omega) (by simp; omega) _ rfl ?_
              intro g2 cap w6 hown' hgrow hat hlt6
              have O6 := O.grown hgrow hne2
              have hb6 := Below.grown ((Below.refl (bx + 1) wr.drew).alloc hzB4 _) hgrow (by simp; omega) (fun g hg => (hown2.lt g hg).1)
              have hcn : ∀ o, w6.cell? ⟨g, o, none⟩ = wr.drew.cell? ⟨g, o, none⟩ := fun o => hb6.cell (p := ⟨g, o, none⟩) (by show g < bx + 1; omega)
              have hgo : g2 ≠ bx := by rcases hat with h | h; exact fun h' => hne2 (h.trans (by rw [h'])); (rw [h]; simp; omega)
              have O60 := O6.cell 0 _ rfl
              have O61 := O6.cell 1 _ rfl
              have O6f0 := O6.frz 0
              have O6f1 := O6.frz 1
              have O6lt := O6.lt
              refine hK.out _ _ ⟨(hcn _).trans n0, (hcn _).trans n1, (hcn _).trans n2⟩ (fun hHeld => ?_)
              clear hK K
              (try simp only [Act.put, List.setIfInBounds_toArray, List.set_cons_zero, List.set_cons_succ])
              refine' takeW 19 ?_ ?_ ?_ (by kernel_rfl) (by kernel_rfl) (by kernel_rfl) (fun _ _ _ h => h) hHeld ?_
              rotate_left 2
              · (simp only [List.getElem?_toArray, List.getElem?_cons_succ, List.getElem?_cons_zero]; rfl)
              · rfl
              · (intro w hSw; (try dsimp only at hSw); go_simp; first | done | with_reducible rfl)
              (try simp only [Act.put, List.setIfInBounds_toArray, List.set_cons_zero, List.set_cons_succ])
              refine wpAnyH_ready (rs := [20]) (by kernel_rfl) (by simp) ?_
              refine' AllReadyH.cons ?_ (fun K hK => ?_) AllReadyH.nil
              rotate_left 1
              · (simp only [List.getElem?_toArray, List.getElem?_cons_succ, List.getElem?_cons_zero]; rfl)
              (try go_simp)
              have hcx : ∀ o, (w6.setCell ⟨bx, 1, none⟩ (.slice (some ⟨g2, 0, none⟩) (k + 1) cap)).cell? ⟨g, o, none⟩ = w6.cell? ⟨g, o, none⟩ := fun o => World.cell?_setCell_other _ _ _ _ (fun e => hnx (by cases e; rfl))
              refine hK.out _ _ ⟨(hcx _).trans hHeld.1, (hcx _).trans hHeld.2.1, (hcx _).trans hHeld.2.2⟩ (fun hHeld => ?_)
              clear hK K
              (try simp only [Act.put, List.setIfInBounds_toArray, List.set_cons_zero, List.set_cons_succ])
              refine wpAnyH_done (by kernel_rfl) ?_ _
              refine NoPanic.normal ?_
              have hz6 := hb6.size
              go_wp2_with fail
              go_roundw
              case rel => exact ⟨k + 1, ys ++ [⟨v0, v1, v2⟩], _, by have := HKL.out; omega, by rw [show 1 + 3 * (k + 1) = i + 3 from by have := HIE.out; omega]; go_num, by simp [hyl], by rw [hyt, take_snocS HTR.out], by rw [List.flatMap_append]; exact ownsRow_setCell_other hown' (by simpa [Value.ownBlock] using hgo) _, by simpa [Value.ownBlock] using hgo, O6.set (i := 1) (by simp) _, (R.keepD hb6 (by omega)).far (by simp; omega) _, (HSn4.below hb6 (by omega)).set_hi (by simp) _, (hb4.trans (hb6.mono (by omega))).setCell (by simp; omega) _, by rw [size_set]; omega⟩
              case measure => simp [intOf]; omega
            case s1_16_17 =>
              (try go_simp)
              replace hown2 := hown2.alloc (.cells #[.int .i64 v0, .int .i64 v1, .int .i64 v2] 57)
              replace O := O.alloc (.cells #[.int .i64 v0, .int .i64 v1, .int .i64 v2] 57)
              have hb5 := one_alloc wr.drew (.cells #[.int .i64 v0, .int .i64 v1, .int .i64 v2] 57)
              refine hK.out _ _ ⟨(hb5.cell (p := ⟨g, offn + i, none⟩) hgn).trans n0, (hb5.cell (p := ⟨g, offn + (i + 1), none⟩) hgn).trans n1, (hb5.cell (p := ⟨g, offn + (i + 2), none⟩) hgn).trans n2⟩ (fun hHeld => ?_)
              clear hK K
              (try simp only [Act.put, List.setIfInBounds_toArray, List.set_cons_zero, List.set_cons_succ])
              refine wpAnyH_ready (rs := [1]) (by kernel_rfl) (by simp) ?_
              refine' AllReadyH.cons ?_ (fun K hK => ?_) AllReadyH.nil
              rotate_left 1
              · (simp only [List.getElem?_toArray, List.getElem?_cons_succ, List.getElem?_cons_zero]; rfl)
              (try have O1b : (wr.alloc (.cells #[.int .i64 v0, .int .i64 v1, .int .i64 v2] 57)).drew.cell? ⟨bx, 1, none⟩ = some (.slice Av2 k cv2) := O.cell 1 _ rfl)
              (try go_simp)
              refine hK.out _ _ hHeld (fun hHeld => ?_)
              clear hK K
              (try simp only [Act.put, List.setIfInBounds_toArray, List.set_cons_zero, List.set_cons_succ])
              refine wpAnyH_ready (rs := [18]) (by kernel_rfl) (by simp) ?_
              refine' AllReadyH.cons ?_ (fun K hK => ?_) AllReadyH.nil
              rotate_left 1
              · (simp only [List.getElem?_toArray, List.getElem?_cons_succ, List.getElem?_cons_zero]; rfl)
              refine step_append_lies _ rfl (.tmp 83) (.tmp 99) 22 rfl (bx + 1) 57 i1 (.agg #[.int .i64 0, .int .i64 0, .int .i64 0]) 3 24 Tryz.underlying22 hi1 hy0 hy1 hy2 rfl (by decide) _ _ _ rfl hown2 _ 1 1 [.int .i64 v0, .int .i64 v1, .int .i64 v2] rfl rfl (cell_list_at rfl _ _) (by simp [Value.oneCell']) (by decide) (by unfold maxLen; omega) (by omega) (by simp; omega) _ rfl ?_
              intro g2 cap w6 hown' hgrow hat hlt6
              have O6 := O.grown hgrow hne2
              have hb6 := Below.grown ((Below.refl (bx + 1) wr.drew).alloc hzB4 _) hgrow (by simp; omega) (fun g hg => (hown2.lt g hg).1)
              have hcn : ∀ o, w6.cell? ⟨g, o, none⟩ = wr.drew.cell? ⟨g, o, none⟩ := fun o => hb6.cell (p := ⟨g, o, none⟩) (by show g < bx + 1; omega)
              have hgo : g2 ≠ bx := by rcases hat with h | h; exact fun h' => hne2 (h.trans (by rw [h'])); (rw [h]; simp; omega)
              have O60 := O6.cell 0 _ rfl
              have O61 := O6.cell 1 _ rfl
              have O6f0 := O6.frz 0
              have O6f1 := O6.frz 1
              have O6lt := O6.lt
              refine hK.out _ _ ⟨(hcn _).trans n0, (hcn _).trans n1, (hcn _).trans n2⟩ (fun hHeld => ?_)
              clear hK K
              (try simp only [Act.put, List.setIfInBounds_toArray, List.set_cons_zero, List.set_cons_succ])
              refine' takeW 19 ?_ ?_ ?_ (by kernel_rfl) (by kernel_rfl) (by kernel_rfl) (fun _ _ _ h => h) hHeld ?_
              rotate_left 2
              · (simp only [List.getElem?_toArray, List.getElem?_cons_succ, List.getElem?_cons_zero]; rfl)
              · rfl
              · (intro w hSw; (try dsimp only at hSw); go_simp; first | done | with_reducible rfl)
              (try simp only [Act.put, List.setIfInBounds_toArray, List.set_cons_zero, List.set_cons_succ])
              refine wpAnyH_ready (rs := [20]) (by kernel_rfl) (by simp) ?_
              refine' AllReadyH.cons ?_ (fun K hK => ?_) AllReadyH.nil
              rotate_left 1
              · (simp only [List.getElem?_toArray, List.getElem?_cons_succ, List.getElem?_cons_zero]; rfl)
              (try go_simp)
              have hcx : ∀ o, (w6.setCell ⟨bx, 1, none⟩ (.slice (some ⟨g2, 0, none⟩) (k + 1) cap)).cell? ⟨g, o, none⟩ = w6.cell? ⟨g, o, none⟩ := fun o => World.cell?_setCell_other _ _ _ _ (fun e => hnx (by cases e; rfl))
              refine hK.out _ _ ⟨(hcx _).trans hHeld.1, (hcx _).trans hHeld.2.1, (hcx _).trans hHeld.2.2⟩ (fun hHeld => ?_)
              clear hK K
              (try simp only [Act.put, List.setIfInBounds_toArray, List.set_cons_zero, List.set_cons_succ])
              refine wpAnyH_done (by kernel_rfl) ?_ _
              refine NoPanic.normal ?_
              have hz6 := hb6.size
              go_wp2_with fail
              go_roundw
              case rel => exact ⟨k + 1, ys ++ [⟨v0, v1, v2⟩], _, by have := HKL.out; omega, by rw [show 1 + 3 * (k + 1) = i + 3 from by have := HIE.out; omega]; go_num, by simp [hyl], by rw [hyt, take_snocS HTR.out], by rw [List.flatMap_append]; exact ownsRow_setCell_other hown' (by simpa [Value.ownBlock] using hgo) _, by simpa [Value.ownBlock] using hgo, O6.set (i := 1) (by simp) _, (R.keepD hb6 (by omega)).far (by simp; omega) _, (HSn4.below hb6 (by omega)).set_hi (by simp) _, (hb4.trans (hb6.mono (by omega))).setCell (by simp; omega) _, by rw [size_set]; omega⟩
              case measure => simp [intOf]; omega
          · have hkK : k = K := by omega
            have hSx := Sl.of_own (enc := encS) encS_len hown2 hyl
            have HC : Hid (candR (numsG false [] s) = ⟨a, ys⟩) := by
              show _ = _
              rw [← HLN.out]
              unfold candR
              rw [HHD.out, hyt, hkK, take_all (triples_len K _ (by rw [List.length_tail]; omega))]
            have HL3' : Hid ((numsG false [] s).length % 3 = 1) := by
              show _ = _
              rw [← HLN.out]
              exact HL3.out
            have hRlt := R.lt
            have hRb : w.heap.size < bx := by omega
            have hk31 : k ≤ 31 := by omega
            have hml : k ≤ maxLen := by unfold maxLen; omega
            have hli : ¬ ((i : Int) < (line.length : Int)) := by omega
            clear hyt hown2 HSn hlt hie hkK hK3 hk hrm h3i h3j hlp hll hgr hne2
            clear hcv hik hs
            have O0 := O.cell 0 _ rfl; have O1 := O.cell 1 _ rfl; have Olt := O.lt
            go_wp2_with fail
            refine (rvalid_any a Av2 k cv2 ys _ hml hSx.any).mono ?_; rintro r w4 ⟨rfl, hb4⟩
            replace R := R.up hb4
            replace O := O.up hb4
            replace hSx := hSx.up hb4 (Nat.le_refl _) (Nat.le_refl _)
            replace hb := below_keep' hb hb4
            clear hb4 O0 O1 Olt
            cases hv : validB a ys
            · have HR := Lib.hid (resR_bad HC.out (fun h => of_decide_eq_false hv h.1))
              have R0 := R.cell 0 _ rfl; have Rf0 := R.frz 0; have R1 := R.cell 1 _ rfl; have Rf1 := R.frz 1; have Rlt := R.lt
              go_wp2_with fail
              refine bodyPost_ret (v := .tuple #[.agg #[.int .i64 0, .slice none 0 0], .int .i64 3]) (by simp [results, Tryz.results13, go_sem, (R.all2 _ _).cell 0 _ rfl, (R.all2 _ _).cell 1 _ rfl]) rfl ?_
              rw [HR.out]
              exact ⟨⟨_, _, _, rfl, by omega, SaS.nil⟩, below_set2 hb (Nat.le_refl _) _ _⟩
            have HVA := Lib.hid (validB_of hv)
            have O0 := O.cell 0 _ rfl; have O1 := O.cell 1 _ rfl; have Olt := O.lt
            go_wp2_with fail
            refine (rtext_any a Av2 k cv2 ys _ hml hSx.any).mono ?_; rintro r w5 ⟨rfl, hb5⟩
            replace R := R.up hb5
            replace O := O.up hb5
            replace hSx := hSx.up hb5 (Nat.le_refl _) (Nat.le_refl _)
            replace hb := below_keep' hb hb5
            clear hb5 O0 O1 Olt
            cases ht : (textL ⟨a, ys⟩ == s)
            · have HR := Lib.hid (resR_bad HC.out (fun h => by rw [h.2] at ht; simp at ht))
              have R0 := R.cell 0 _ rfl; have Rf0 := R.frz 0; have R1 := R.cell 1 _ rfl; have Rf1 := R.frz 1; have Rlt := R.lt
              go_wp2_with fail
              refine bodyPost_ret (v := .tuple #[.agg #[.int .i64 0, .slice none 0 0], .int .i64 3]) (by simp [results, Tryz.results13, go_sem, (R.all2 _ _).cell 0 _ rfl, (R.all2 _ _).cell 1 _ rfl]) rfl ?_
              rw [HR.out]
              exact ⟨⟨_, _, _, rfl, by omega, SaS.nil⟩, below_set2 hb (Nat.le_refl _) _ _⟩
            · have HR := Lib.hid (resR_ok HL3'.out HC.out ⟨HVA.out, by simpa using ht⟩)
              have R0 := R.cell 0 _ rfl; have Rf0 := R.frz 0; have R1 := R.cell 1 _ rfl; have Rf1 := R.frz 1; have Rlt := R.lt
              have O0 := O.cell 0 _ rfl; have O1 := O.cell 1 _ rfl; have Olt := O.lt
              go_wp2_with fail
              refine bodyPost_ret (v := .tuple #[.agg #[.int .i64 a, .slice Av2 k cv2], .int .i64 0]) (by simp [results, Tryz.results13, go_sem, (R.all2 _ _).cell 0 _ rfl, (R.all2 _ _).cell 1 _ rfl]) rfl ?_
              rw [HR.out]
              exact ⟨⟨_, _, _, rfl, by omega, ((hSx.set_ (by simp; omega) _).set_ (by simp; omega) _).any.more (by simp [size_set])⟩, below_set2 hb (Nat.le_refl _) _ _⟩
    · obtain rfl : i = s.length := by omega
      have HLN := Lib.hid hps.fin1
      clear hps
      have HSn0 := Sl.of_own (enc := encI) encI_len hown rfl
      have hrm : (line.length : Int).tmod 3 = ((line.length % 3 : Nat) : Int) := by rw [Int.tmod_eq_emod_of_nonneg (by omega)]; omega
      by_cases h3 : line.length % 3 = 1
      rotate_left 1
      · first
        | (exfalso; omega)
        | (have HR := Lib.hid (resR_no (s := s) (by rw [← HLN.out]; exact h3))
           have h3i : (((line.length % 3 : Nat) : Int) != 1) = true := by simp; omega
           have R0 := R.cell 0 _ rfl; have Rf0 := R.frz 0; have R1 := R.cell 1 _ rfl; have Rf1 := R.frz 1; have Rlt := R.lt
           clear h3
           go_wp2_with fail
           refine bodyPost_ret (v := .tuple #[.agg #[.int .i64 0, .slice none 0 0], .int .i64 3]) (by simp [results, Tryz.results13, go_sem, (R.all2 _ _).cell 0 _ rfl, (R.all2 _ _).cell 1 _ rfl]) rfl ?_
           rw [HR.out]
           exact ⟨⟨_, _, _, rfl, by omega, SaS.nil⟩, below_set2 hb (Nat.le_refl _) _ _⟩)
      have h3i : (((line.length % 3 : Nat) : Int) != 1) = false := by simp; omega
      have h3j : ((line.length : Int) % 3 != 1) = false := by simp; omega
      obtain ⟨K, hK3⟩ : ∃ K, line.length = 3 * K + 1 := ⟨line.length / 3, by omega⟩
      obtain ⟨g, offn, a, hA, hgr, ha, hca⟩ := HSn0.in_ (i := 0) (by omega)
      subst hA
      have HL3 := Lib.hid h3
      have HHD : Hid (line.headD 0 = a) := by
        show _ = _
        cases line with
        | nil => cases ha
        | cons y r => simpa using ha
      clear ha h3
      rw [Nat.add_zero] at hca
      have hlp : (0 : Int) < (line.length : Int) := by omega
      have HK3 := Lib.hid hK3
      clear hown hK3
      go_wp2_with fail
      have O := Bx.new wr [.int .i64 a, .slice none 0 0] 24
      have hRl := R.lt
      replace R := R.alloc (.cells #[.int .i64 a, .slice none 0 0] 24)
      replace hb := hb.alloc hb.size (.cells #[.int .i64 a, .slice none 0 0] 24)
      have HSn := HSn0.below (one_alloc wr (.cells #[.int .i64 a, .slice none 0 0] 24)) (Nat.le_refl _)
      have hzA : wr.heap.size + 1 ≤ (wr.alloc (.cells #[.int .i64 a, .slice none 0 0] 24)).heap.size := by simp
      clear HSn0 hca
      generalize wr.alloc (.cells #[.int .i64 a, .slice none 0 0] 24) = W1 at *
      generalize wr.heap.size = bx at *
      go_loopw [7] (fun t wr => ∃ (k : Nat) (ys : List Sal) (vv : Value), k ≤ K ∧ t = .int .i64 ((1 + 3 * k : Nat) : Int) ∧ ys.length = k ∧ ys = (triples line.tail).take k ∧ wr.ownsRow (bx + 1) 57 3 vv k (ys.flatMap encS) ∧ vv.ownBlock ≠ some bx ∧ Bx wr bx [.int .i64 a, vv] ∧ Bx wr w.heap.size [.int .i64 0, .slice none 0 0] ∧ Sl wr (w.heap.size + 1) bx 1 encI (some ⟨g, offn, none⟩) line.length line ∧ Below w.heap.size w wr ∧ bx + 1 ≤ wr.heap.size) (fun t _ => line.length - (intOf t).toNat)
      case atStart => exact ⟨0, [], .slice none 0 0, by omega, rfl, rfl, rfl, World.ownsRow_nil _ _ _ _, by simp [Value.ownBlock], O, R, HSn, hb, hzA⟩
      case round =>
        clear hb R O HSn hzA
        obtain ⟨k, ys, vv, hk, rfl, hyl, hyt, hown2, hne2, O, R, HSn, hb, hzB⟩ := hrel
        obtain ⟨Av2, cv2, rfl, _⟩ := own_form hown2
        obtain ⟨i, hie⟩ : ∃ i, i = 1 + 3 * k := ⟨_, rfl⟩
        rw [← hie]
        have hK3 := HK3.out
        by_cases hlt : i < line.length
        · obtain ⟨b1, o1, v0, hA1, hb1', hv0, n0⟩ := HSn.in_ (i := i) hlt
          obtain ⟨b2, o2, v1, hA2, hb2', hv1, n1⟩ := HSn.in_ (i := i + 1) (by omega)
          obtain ⟨b3, o3, v2, hA3, hb3', hv2, n2⟩ := HSn.in_ (i := i + 2) (by omega)
          cases hA1
          cases hA2
          cases hA3
          have HTR : Hid ((triples line.tail)[k]? = some ⟨v0, v1, v2⟩) := triples_at (by rw [← hie]; exact hv0) (by rw [← hie]; exact hv1) (by rw [← hie]; exact hv2)
          clear hv0 hv1 hv2 hb2' hb3'
          replace n0 : wr.drew.cell? ⟨g, offn + i, none⟩ = some (.int .i64 v0) := n0
          replace n1 : wr.drew.cell? ⟨g, offn + (i + 1), none⟩ = some (.int .i64 v1) := n1
          replace n2 : wr.drew.cell? ⟨g, offn + (i + 2), none⟩ = some (.int .i64 v2) := n2
          have hRlt := R.lt
          have hgn : g < wr.drew.heap.size := by show g < wr.heap.size; omega
          have hnx : g ≠ bx := by omega
          replace O : Bx wr.drew bx [.int .i64 a, .slice Av2 k cv2] := O.up (Below.drew (Below.refl _ _))
          replace hown2 := own_below' hown2 (Below.drew (Below.refl wr.heap.size wr))
          have hb4 : Below w.heap.size w wr.drew := Below.drew hb
          replace R : Bx wr.drew w.heap.size [.int .i64 0, .slice none 0 0] := R.up (Below.drew (Below.refl _ _))
          have HSn4 : Sl wr.drew (w.heap.size + 1) bx 1 encI (some ⟨g, offn, none⟩) line.length line := HSn
          have hzB4 : bx + 1 ≤ wr.drew.heap.size := hzB
          have O0 := O.cell 0 _ rfl
          have O1 := O.cell 1 _ rfl
          have Olt := O.lt
          have i31 : i ≤ 31 := by omega
          have x0 : (0 : Int) ≤ (i : Int) := by omega
          have x1 : (i : Int) < (line.length : Int) := by omega
          have x2 : (0 : Int) ≤ (i : Int) + 1 := by omega
          have x3 : (i : Int) + 1 < (line.length : Int) := by omega
          have x4 : (0 : Int) ≤ (i : Int) + 2 := by omega
          have x5 : (i : Int) + 2 < (line.length : Int) := by omega
          have x6 : IntKind.i64.wrap ((i : Int) + 1) = (i : Int) + 1 := IntWalk.i64_in _ (by omega)
          have x7 : IntKind.i64.wrap ((i : Int) + 2) = (i : Int) + 2 := IntWalk.i64_in _ (by omega)
          have x8 : ((i : Int) + 1).toNat = i + 1 := by omega
          have x9 : ((i : Int) + 2).toNat = i + 2 := by omega
          have HIE := Lib.hid hie
          have hk31 : k ≤ 31 := by omega
          have HKL : Hid (k + 1 ≤ K) := by show _ ≤ _; omega
          clear hb HSn hie hK3 hk hrm h3i h3j hlp
          go_wp2_with fail
          refine wp_region_noPanic ?_
          refine wp_region_held_drew (S := fun U => U.cell? ⟨g, offn + i, none⟩ = some (.int .i64 v0) ∧ U.cell? ⟨g, offn + (i + 1), none⟩ = some (.int .i64 v1) ∧ U.cell? ⟨g, offn + (i + 2), none⟩ = some (.int .i64 v2)) (by kernel_rfl) ⟨n0, n1, n2⟩ (fun hHeld => ?_)
          refine' takeW 0 ?_ ?_ ?_ (by kernel_rfl) (by kernel_rfl) (by kernel_rfl) (fun _ _ _ h => h) hHeld ?_
          rotate_left 2
          · (simp only [List.getElem?_toArray, List.getElem?_cons_succ, List.getElem?_cons_zero]; rfl)
          · rfl
          · (intro w hSw; (try dsimp only at hSw); go_simp; first | done | with_reducible rfl)
          (try simp only [Act.put, List.setIfInBounds_toArray, List.set_cons_zero, List.set_cons_succ])
          refine' takeW 2 ?_ ?_ ?_ (by kernel_rfl) (by kernel_rfl) (by kernel_rfl) (fun _ _ _ h => h) hHeld ?_
          rotate_left 2
          · (simp only [List.getElem?_toArray, List.getElem?_cons_succ, List.getElem?_cons_zero]; rfl)
          · rfl
          · (intro w hSw; (try dsimp only at hSw); go_simp; first | done | with_reducible rfl)
          (try simp only [Act.put, List.setIfInBounds_toArray, List.set_cons_zero, List.set_cons_succ])
          refine' takeW 3 ?_ ?_ ?_ (by kernel_rfl) (by kernel_rfl) (by kernel_rfl) (fun _ _ _ h => h) hHeld ?_
          rotate_left 2
          · (simp only [List.getElem?_toArray, List.getElem?_cons_succ, List.getElem?_cons_zero]; rfl)
          · rfl
          · (intro w hSw; (try dsimp only at hSw); go_simp; first | done | with_reducible rfl)
          (try simp only [Act.put, List.setIfInBounds_toArray, List.set_cons_zero, List.set_cons_succ])
          refine' takeW 4 ?_ ?_ ?_ (by kernel_rfl) (by kernel_rfl) (by kernel_rfl) (fun _ _ _ h => h) hHeld ?_
          rotate_left 2
          · (simp only [List.getElem?_toArray, List.getElem?_cons_succ, List.getElem?_cons_zero]; rfl)
          · rfl
          · (intro w hSw; (try dsimp only at hSw); go_simp; first | done | with_reducible rfl)
          (try simp only [Act.put, List.setIfInBounds_toArray, List.set_cons_zero, List.set_cons_succ])
          refine' takeW 5 ?_ ?_ ?_ (by kernel_rfl) (by kernel_rfl) (by kernel_rfl) (fun _ _ _ h => h) hHeld ?_
          rotate_left 2
          · (simp only [List.getElem?_toArray, List.getElem?_cons_succ, List.getElem?_cons_zero]; rfl)
          · rfl
          · (intro w hSw; (try dsimp only at hSw); go_simp; first | done | with_reducible rfl)
          (try simp only [Act.put, List.setIfInBounds_toArray, List.set_cons_zero, List.set_cons_succ])
          refine' takeW 6 ?_ ?_ ?_ (by kernel_rfl) (by kernel_rfl) (by kernel_rfl) (fun _ _ _ h => h) hHeld ?_
          rotate_left 2
          · (simp only [List.getElem?_toArray, List.getElem?_cons_succ, List.getElem?_cons_zero]; rfl)
          · rfl
          · (intro w hSw; (try dsimp only at hSw); go_simp; first | done | with_reducible rfl)
          (try simp only [Act.put, List.setIfInBounds_toArray, List.set_cons_zero, List.set_cons_succ])
          refine' takeW 7 ?_ ?_ ?_ (by kernel_rfl) (by kernel_rfl) (by kernel_rfl) (fun _ _ _ h => h) hHeld ?_
          rotate_left 2
          · (simp only [List.getElem?_toArray, List.getElem?_cons_succ, List.getElem?_cons_zero]; rfl)
          · rfl
          · (intro w hSw; (try dsimp only at hSw); go_simp; first | done | with_reducible rfl)
          (try simp only [Act.put, List.setIfInBounds_toArray, List.set_cons_zero, List.set_cons_succ])
          refine' takeW 8 ?_ ?_ ?_ (by kernel_rfl) (by kernel_rfl) (by kernel_rfl) (fun _ _ _ h => h) hHeld ?_
          rotate_left 2
          · (simp only [List.getElem?_toArray, List.getElem?_cons_succ, List.getElem?_cons_zero]; rfl)
          · rfl
          · (intro w hSw; (try dsimp only at hSw); go_simp; first | done | with_reducible rfl)
          (try simp only [Act.put, List.setIfInBounds_toArray, List.set_cons_zero, List.set_cons_succ])
          refine' takeW 9 ?_ ?_ ?_ (by kernel_rfl) (by kernel_rfl) (by kernel_rfl) (fun _ _ _ h => h) hHeld ?_
          rotate_left 2
          · (simp only [List.getElem?_toArray, List.getElem?_cons_succ, List.getElem?_cons_zero]; rfl)
          · rfl
          · (intro w hSw; (try dsimp only at hSw); go_simp; first | done | with_reducible rfl)
          (try simp only [Act.put, List.setIfInBounds_toArray, List.set_cons_zero, List.set_cons_succ])
          refine' takeW 10 ?_ ?_ ?_ (by kernel_rfl) (by kernel_rfl) (by kernel_rfl) (fun _ _ _ h => h) hHeld ?_
          rotate_left 2
          · (simp only [List.getElem?_toArray, List.getElem?_cons_succ, List.getElem?_cons_zero]; rfl)
          · rfl
          · (intro w hSw; (try dsimp only at hSw); go_simp; first | done | with_reducible rfl)
          (try simp only [Act.put, List.setIfInBounds_toArray, List.set_cons_zero, List.set_cons_succ])
          refine' takeW 11 ?_ ?_ ?_ (by kernel_rfl) (by kernel_rfl) (by kernel_rfl) (fun _ _ _ h => h) hHeld ?_
          rotate_left 2
          · (simp only [List.getElem?_toArray, List.getElem?_cons_succ, List.getElem?_cons_zero]; rfl)
          · rfl
          · (intro w hSw; (try dsimp only at hSw); go_simp; first | done | with_reducible rfl)
          (try simp only [Act.put, List.setIfInBounds_toArray, List.set_cons_zero, List.set_cons_succ])
          refine' takeW 12 ?_ ?_ ?_ (by kernel_rfl) (by kernel_rfl) (by kernel_rfl) (fun _ _ _ h => h) hHeld ?_
          rotate_left 2
          · (simp only [List.getElem?_toArray, List.getElem?_cons_succ, List.getElem?_cons_zero]; rfl)
          · rfl
          · (intro w hSw; (try dsimp only at hSw); go_simp; first | done | with_reducible rfl)
          (try simp only [Act.put, List.setIfInBounds_toArray, List.set_cons_zero, List.set_cons_succ])
          refine' takeW 13 ?_ ?_ ?_ (by kernel_rfl) (by kernel_rfl) (by kernel_rfl) (fun _ _ _ h => h) hHeld ?_
          rotate_left 2
          · (simp only [List.getElem?_toArray, List.getElem?_cons_succ, List.getElem?_cons_zero]; rfl)
          · rfl
          · (intro w hSw; (try dsimp only at hSw); go_simp; first | done | with_reducible rfl)
          (try simp only [Act.put, List.setIfInBounds_toArray, List.set_cons_zero, List.set_cons_succ])
          refine' takeW 14 ?_ ?_ ?_ (by kernel_rfl) (by kernel_rfl) (by kernel_rfl) (fun _ _ _ h => h) hHeld ?_
          rotate_left 2
          · (simp only [List.getElem?_toArray, List.getElem?_cons_succ, List.getElem?_cons_zero]; rfl)
          · rfl
          · (intro w hSw; (try dsimp only at hSw); go_simp; first | done | with_reducible rfl)
          (try simp only [Act.put, List.setIfInBounds_toArray, List.set_cons_zero, List.set_cons_succ])
          refine' takeW 15 ?_ ?_ ?_ (by kernel_rfl) (by kernel_rfl) (by kernel_rfl) (fun _ _ _ h => h) hHeld ?_
          rotate_left 2
          · (simp only [List.getElem?_toArray, List.getElem?_cons_succ, List.getElem?_cons_zero]; rfl)
          · rfl
          · (intro w hSw; (try dsimp only at hSw); go_simp; first | done | with_reducible rfl)
          (try simp only [Act.put, List.setIfInBounds_toArray, List.set_cons_zero, List.set_cons_succ])
          refine' takeW 16 ?_ ?_ ?_ (by kernel_rfl) (by kernel_rfl) (by kernel_rfl) (fun _ _ _ h => h) hHeld ?_
          rotate_left 2
          · (simp only [List.getElem?_toArray, List.getElem?_cons_succ, List.getElem?_cons_zero]; rfl)
          · rfl
          · (intro w hSw; (try dsimp only at hSw); go_simp; first | done | with_reducible rfl)
          (try simp only [Act.put, List.setIfInBounds_toArray, List.set_cons_zero, List.set_cons_succ])
          refine wpAnyH_ready (rs := [1, 17]) (by kernel_rfl) (by simp) ?_
          refine AllReadyH.cons (o := ?o2_16_1) ?h2_16_1 (fun K hK => ?s2_16_1) (AllReadyH.cons (o := ?o2_16_17) ?h2_16_17 (fun K hK => ?s2_16_17) AllReadyH.nil)
          case h2_16_1 => (simp only [List.getElem?_toArray, List.getElem?_cons_succ, List.getElem?_cons_zero]; rfl)
          case h2_16_17 => (simp only [List.getElem?_toArray, List.getElem?_cons_succ, List.getElem?_cons_zero]; rfl)
          case s2_16_1 =>
            (try have O1b : (wr.alloc (.cells #[.int .i64 v0, .int .i64 v1, .int .i64 v2] 57)).drew.cell? ⟨bx, 1, none⟩ = some (.slice Av2 k cv2) := O.cell 1 _ rfl)
            (try go_simp)
            refine hK.out _ _ hHeld (fun hHeld => ?_)
            clear hK K
            (try simp only [Act.put, List.setIfInBounds_toArray, List.set_cons_zero, List.set_cons_succ])
            refine wpAnyH_ready (rs := [17]) (by kernel_rfl) (by simp) ?_
            refine' AllReadyH.cons ?_ (fun K hK => ?_) AllReadyH.nil
            rotate_left 1
            · (simp only [List.getElem?_toArray, List.getElem?_cons_succ, List.getElem?_cons_zero]; rfl)
            (try go_simp)
            replace hown2 := hown2.alloc (.cells #[.int .i64 v0, .int .i64 v1, .int .i64 v2] 57)
            replace O := O.alloc (.cells #[.int .i64 v0, .int .i64 v1, .int .i64 v2] 57)
            have hb5 := one_alloc wr.drew (.cells #[.int .i64 v0, .int .i64 v1, .int .i64 v2] 57)
            refine hK.out _ _ ⟨(hb5.cell (p := ⟨g, offn + i, none⟩) hgn).trans n0, (hb5.cell (p := ⟨g, offn + (i + 1), none⟩) hgn).trans n1, (hb5.cell (p := ⟨g, offn + (i + 2), none⟩) hgn).trans n2⟩ (fun hHeld => ?_)
            clear hK K
            (try simp only [Act.put, List.setIfInBounds_toArray, List.set_cons_zero, List.set_cons_succ])
            refine wpAnyH_ready (rs := [18]) (by kernel_rfl) (by simp) ?_
            refine' AllReadyH.cons ?_ (fun K hK => ?_) AllReadyH.nil
            rotate_left 1
            · (simp only [List.getElem?_toArray, List.getElem?_cons_succ, List.getElem?_cons_zero]; rfl)
            refine step_append_lies _ rfl (.tmp 83) (.tmp 99) 22 rfl (bx + 1) 57 i1 (.agg #[.int .i64 0, .int .i64 0, .int .i64 0]) 3 24 Tryz.underlying22 hi1 hy0 hy1 hy2 rfl (by decide) _ _ _ rfl hown2 _ 1 1 [.int .i64 v0, .int .i64 v1, .int .i64 v2] rfl rfl (cell_list_at rfl _ _) (by simp [Value.oneCell']) (by decide) (by unfold maxLen; omega) (by omega) (by simp; omega) _ rfl ?_
            intro g2 cap w6 hown' hgrow hat hlt6
            have O6 := O.grown hgrow hne2
            have hb6 := Below.grown ((Below.refl (bx + 1) wr.drew).alloc hzB4 _) hgrow (by simp; omega) (fun g hg => (hown2.lt g hg).1)
            have hcn : ∀ o, w6.cell? ⟨g, o, none⟩ = wr.drew.cell? ⟨g, o, none⟩ := fun o => hb6.cell (p := ⟨g, o, none⟩) (by show g < bx + 1; omega)
            have hgo : g2 ≠ bx := by rcases hat with h | h; exact fun h' => hne2 (h.trans (by rw [h'])); (rw [h]; simp; omega)
            have O60 := O6.cell 0 _ rfl
            have O61 := O6.cell 1 _ rfl
            have O6f0 := O6.frz 0
            have O6f1 := O6.frz 1
            have O6lt := O6.lt
            refine hK.out _ _ ⟨(hcn _).trans n0, (hcn _).trans n1, (hcn _).trans n2⟩ (fun hHeld => ?_)
            clear hK K
            (try simp only [Act.put, List.setIfInBounds_toArray, List.set_cons_zero, List.set_cons_succ])
            refine' takeW 19 ?_ ?_ ?_ (by kernel_rfl) (by kernel_rfl) (by kernel_rfl) (fun _ _ _ h => h) hHeld ?_
            rotate_left 2
            · (simp only [List.getElem?_toArray, List.getElem?_cons_succ, List.getElem?_cons_zero]; rfl)
            · rfl
            · (intro w hSw; (try dsimp only at hSw); go_simp; first | done | with_reducible rfl)
            (try simp only [Act.put, List.setIfInBounds_toArray, List.set_cons_zero, List.set_cons_succ])
            refine wpAnyH_ready (rs := [20]) (by kernel_rfl) (by simp) ?_
            refine' AllReadyH.cons ?_ (fun K hK => ?_) AllReadyH.nil
            rotate_left 1
            · (simp only [List.getElem?_toArray, List.getElem?_cons_succ, List.getElem?_cons_zero]; rfl)
            (try go_simp)
            have hcx : ∀ o, (w6.setCell ⟨bx, 1, none⟩ (.slice (some ⟨g2, 0, none⟩) (k + 1) cap)).cell? ⟨g, o, none⟩ = w6.cell? ⟨g, o, none⟩ := fun o => World.cell?_setCell_other _ _ _ _ (fun e => hnx (by cases e; rfl))
            refine hK.out _ _ ⟨(hcx _).trans hHeld.1, (hcx _).trans hHeld.2.1, (hcx _).trans hHeld.2.2⟩ (fun hHeld => ?_)
            clear hK K
            (try simp only [Act.put, List.setIfInBounds_toArray, List.set_cons_zero, List.set_cons_succ])
            refine wpAnyH_done (by kernel_rfl) ?_ _
            refine NoPanic.normal ?_
            have hz6 := hb6.size
            go_wp2_with fail
            go_roundw
            case rel => exact ⟨k + 1, ys ++ [⟨v0, v1, v2⟩], _, by have := HKL.out; omega, by rw [show 1 + 3 * (k + 1) = i + 3 from by have := HIE.out; omega]; go_num, by simp [hyl], by rw [hyt, take_snocS HTR.out], by rw [List.flatMap_append]; exact ownsRow_setCell_other hown' (by simpa [Value.ownBlock] using hgo) _, by simpa [Value.ownBlock] using hgo, O6.set (i := 1) (by simp) _, (R.keepD hb6 (by omega)).far (by simp; omega) _, (HSn4.below hb6 (by omega)).set_hi (by simp) _, (hb4.trans (hb6.mono (by omega))).setCell (by simp; omega) _, by rw [size_set]; omega⟩
            case measure => simp [intOf]; omega
          case s2_16_17 =>
            (try go_simp)
            replace hown2 := hown2.alloc (.cells #[.int .i64 v0, .int .i64 v1, .int .i64 v2] 57)
            replace O := O.alloc (.cells #[.int .i64 v0, .int .i64 v1, .int .i64 v2] 57)
            have hb5 := one_alloc wr.drew (.cells #[.int .i64 v0, .int .i64 v1, .int .i64 v2] 57)
            refine hK.out _ _ ⟨(hb5.cell (p := ⟨g, offn + i, none⟩) hgn).trans n0, (hb5.cell (p := ⟨g, offn + (i + 1), none⟩) hgn).trans n1, (hb5.cell (p := ⟨g, offn + (i + 2), none⟩) hgn).trans n2⟩ (fun hHeld => ?_)
            clear hK K
            (try simp only [Act.put, List.setIfInBounds_toArray, List.set_cons_zero, List.set_cons_succ])
            refine wpAnyH_ready (rs := [1]) (by kernel_rfl) (by simp) ?_
            refine' AllReadyH.cons ?_ (fun K hK => ?_) AllReadyH.nil
            rotate_left 1
            · (simp only [List.getElem?_toArray, List.getElem?_cons_succ, List.getElem?_cons_zero]; rfl)
            (try have O1b : (wr.alloc (.cells #[.int .i64 v0, .int .i64 v1, .int .i64 v2] 57)).drew.cell? ⟨bx, 1, none⟩ = some (.slice Av2 k cv2) := O.cell 1 _ rfl)
            (try go_simp)
            refine hK.out _ _ hHeld (fun hHeld => ?_)
            clear hK K
            (try simp only [Act.put, List.setIfInBounds_toArray, List.set_cons_zero, List.set_cons_succ])
            refine wpAnyH_ready (rs := [18]) (by kernel_rfl) (by simp) ?_
            refine' AllReadyH.cons ?_ (fun K hK => ?_) AllReadyH.nil
            rotate_left 1
            · (simp only [List.getElem?_toArray, List.getElem?_cons_succ, List.getElem?_cons_zero]; rfl)
            refine step_append_lies _ rfl (.tmp 83) (.tmp 99) 22 rfl (bx + 1) 57 i1 (.agg #[.int .i64 0, .int .i64 0, .int .i64 0]) 3 24 Tryz.underlying22 hi1 hy0 hy1 hy2 rfl (by decide) _ _ _ rfl hown2 _ 1 1 [.int .i64 v0, .int .i64 v1, .int .i64 v2] rfl rfl (cell_list_at rfl _ _) (by simp [Value.oneCell']) (by decide) (by unfold maxLen; omega) (by omega) (by simp; omega) _ rfl ?_
            intro g2 cap w6 hown' hgrow hat hlt6
            have O6 := O.grown hgrow hne2
            have hb6 := Below.grown ((Below.refl (bx + 1) wr.drew).alloc hzB4 _) hgrow (by simp; omega) (fun g hg => (hown2.lt g hg).1)
            have hcn : ∀ o, w6.cell? ⟨g, o, none⟩ = wr.drew.cell? ⟨g, o, none⟩ := fun o => hb6.cell (p := ⟨g, o, none⟩) (by show g < bx + 1; omega)
            have hgo : g2 ≠ bx := by rcases hat with h | h; exact fun h' => hne2 (h.trans (by rw [h'])); (rw [h]; simp; omega)
            have O60 := O6.cell 0 _ rfl
            have O61 := O6.cell 1 _ rfl
            have O6f0 := O6.frz 0
            have O6f1 := O6.frz 1
            have O6lt := O6.lt
            refine hK.out _ _ ⟨(hcn _).trans n0, (hcn _).trans n1, (hcn _).trans n2⟩ (fun hHeld => ?_)
            clear hK K
            (try simp only [Act.put, List.setIfInBounds_toArray, List.set_cons_zero, List.set_cons_succ])
            refine' takeW 19 ?_ ?_ ?_ (by kernel_rfl) (by kernel_rfl) (by kernel_rfl) (fun _ _ _ h => h) hHeld ?_
            rotate_left 2
            · (simp only [List.getElem?_toArray, List.getElem?_cons_succ, List.getElem?_cons_zero]; rfl)
            · rfl
            · (intro w hSw; (try dsimp only at hSw); go_simp; first | done | with_reducible rfl)
            (try simp only [Act.put, List.setIfInBounds_toArray, List.set_cons_zero, List.set_cons_succ])
            refine wpAnyH_ready (rs := [20]) (by kernel_rfl) (by simp) ?_
            refine' AllReadyH.cons ?_ (fun K hK => ?_) AllReadyH.nil
            rotate_left 1
            · (simp only [List.getElem?_toArray, List.getElem?_cons_succ, List.getElem?_cons_zero]; rfl)
            (try go_simp)
            have hcx : ∀ o, (w6.setCell ⟨bx, 1, none⟩ (.slice (some ⟨g2, 0, none⟩) (k + 1) cap)).cell? ⟨g, o, none⟩ = w6.cell? ⟨g, o, none⟩ := fun o => World.cell?_setCell_other _ _ _ _ (fun e => hnx (by cases e; rfl))
            refine hK.out _ _ ⟨(hcx _).trans hHeld.1, (hcx _).trans hHeld.2.1, (hcx _).trans hHeld.2.2⟩ (fun hHeld => ?_)
            clear hK K
            (try simp only [Act.put, List.setIfInBounds_toArray, List.set_cons_zero, List.set_cons_succ])
            refine wpAnyH_done (by kernel_rfl) ?_ _
            refine NoPanic.normal ?_
            have hz6 := hb6.size
            go_wp2_with fail
            go_roundw
            case rel => exact ⟨k + 1, ys ++ [⟨v0, v1, v2⟩], _, by have := HKL.out; omega, by rw [show 1 + 3 * (k + 1) = i + 3 from by have := HIE.out; omega]; go_num, by simp [hyl], by rw [hyt, take_snocS HTR.out], by rw [List.flatMap_append]; exact ownsRow_setCell_other hown' (by simpa [Value.ownBlock] using hgo) _, by simpa [Value.ownBlock] using hgo, O6.set (i := 1) (by simp) _, (R.keepD hb6 (by omega)).far (by simp; omega) _, (HSn4.below hb6 (by omega)).set_hi (by simp) _, (hb4.trans (hb6.mono (by omega))).setCell (by simp; omega) _, by rw [size_set]; omega⟩
            case measure => simp [intOf]; omega
        · have hkK : k = K := by omega
          have hSx := Sl.of_own (enc := encS) encS_len hown2 hyl
          have HC : Hid (candR (numsG false [] s) = ⟨a, ys⟩) := by
            show _ = _
            rw [← HLN.out]
            unfold candR
            rw [HHD.out, hyt, hkK, take_all (triples_len K _ (by rw [List.length_tail]; omega))]
          have HL3' : Hid ((numsG false [] s).length % 3 = 1) := by
            show _ = _
            rw [← HLN.out]
            exact HL3.out
          have hRlt := R.lt
          have hRb : w.heap.size < bx := by omega
          have hk31 : k ≤ 31 := by omega
          have hml : k ≤ maxLen := by unfold maxLen; omega
          have hli : ¬ ((i : Int) < (line.length : Int)) := by omega
          clear hyt hown2 HSn hlt hie hkK hK3 hk hrm h3i h3j hlp hll hgr hne2
          clear hcv hik hs
          have O0 := O.cell 0 _ rfl; have O1 := O.cell 1 _ rfl; have Olt := O.lt
          go_wp2_with fail
          refine (rvalid_any a Av2 k cv2 ys _ hml hSx.any).mono ?_; rintro r w4 ⟨rfl, hb4⟩
          replace R := R.up hb4
          replace O := O.up hb4
          replace hSx := hSx.up hb4 (Nat.le_refl _) (Nat.le_refl _)
          replace hb := below_keep' hb hb4
          clear hb4 O0 O1 Olt
          cases hv : validB a ys
          · have HR := Lib.hid (resR_bad HC.out (fun h => of_decide_eq_false hv h.1))
            have R0 := R.cell 0 _ rfl; have Rf0 := R.frz 0; have R1 := R.cell 1 _ rfl; have Rf1 := R.frz 1; have Rlt := R.lt
            go_wp2_with fail
            refine bodyPost_ret (v := .tuple #[.agg #[.int .i64 0, .slice none 0 0], .int .i64 3]) (by simp [results, Tryz.results13, go_sem, (R.all2 _ _).cell 0 _ rfl, (R.all2 _ _).cell 1 _ rfl]) rfl ?_
            rw [HR.out]
            exact ⟨⟨_, _, _, rfl, by omega, SaS.nil⟩, below_set2 hb (Nat.le_refl _) _ _⟩
          have HVA := Lib.hid (validB_of hv)
          have O0 := O.cell 0 _ rfl; have O1 := O.cell 1 _ rfl; have Olt := O.lt
          go_wp2_with fail
          refine (rtext_any a Av2 k cv2 ys _ hml hSx.any).mono ?_; rintro r w5 ⟨rfl, hb5⟩
          replace R := R.up hb5
          replace O := O.up hb5
          replace hSx := hSx.up hb5 (Nat.le_refl _) (Nat.le_refl _)
          replace hb := below_keep' hb hb5
          clear hb5 O0 O1 Olt
          cases ht : (textL ⟨a, ys⟩ == s)
          · have HR := Lib.hid (resR_bad HC.out (fun h => by rw [h.2] at ht; simp at ht))
            have R0 := R.cell 0 _ rfl; have Rf0 := R.frz 0; have R1 := R.cell 1 _ rfl; have Rf1 := R.frz 1; have Rlt := R.lt
            go_wp2_with fail
            refine bodyPost_ret (v := .tuple #[.agg #[.int .i64 0, .slice none 0 0], .int .i64 3]) (by simp [results, Tryz.results13, go_sem, (R.all2 _ _).cell 0 _ rfl, (R.all2 _ _).cell 1 _ rfl]) rfl ?_
            rw [HR.out]
            exact ⟨⟨_, _, _, rfl, by omega, SaS.nil⟩, below_set2 hb (Nat.le_refl _) _ _⟩
          · have HR := Lib.hid (resR_ok HL3'.out HC.out ⟨HVA.out, by simpa using ht⟩)
            have R0 := R.cell 0 _ rfl; have Rf0 := R.frz 0; have R1 := R.cell 1 _ rfl; have Rf1 := R.frz 1; have Rlt := R.lt
            have O0 := O.cell 0 _ rfl; have O1 := O.cell 1 _ rfl; have Olt := O.lt
            go_wp2_with fail
            refine bodyPost_ret (v := .tuple #[.agg #[.int .i64 a, .slice Av2 k cv2], .int .i64 0]) (by simp [results, Tryz.results13, go_sem, (R.all2 _ _).cell 0 _ rfl, (R.all2 _ _).cell 1 _ rfl]) rfl ?_
            rw [HR.out]
            exact ⟨⟨_, _, _, rfl, by omega, ((hSx.set_ (by simp; omega) _).set_ (by simp; omega) _).any.more (by simp [size_set])⟩, below_set2 hb (Nat.le_refl _) _ _⟩
end Go.Proofs.YtccmchmemafjdaaGreatDoor
