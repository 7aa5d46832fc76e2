/- Reading an edition: the reference's (chapter 47). -/
import Derived.Test.YtfanjghfilkhmaaGreatDoorGl
import Derived.Test.YtfanjghfilkhmaaGreatDoorGk
import Derived.Test.YtfanjghfilkhmaaGreatDoorGh
import Derived.Test.YtfanjghfilkhmaaGreatDoorAp
import Derived.StillTailTactics
import Derived.Deep.CutBlock
import Derived.Deep.DeepCutAuto
set_option linter.unusedSimpArgs false
set_option linter.unusedVariables false
namespace Go.Proofs.YtfanjghfilkhmaaGreatDoor
open Go.RowKit

def mnI (a b : Int) : Int := if b < a then b else a
theorem mnI_eq (a b : Int) : mnI a b = min a b := by unfold mnI; split <;> omega
theorem run_mnI {P : Program} (ts : Array TypeId) (t : TypeId) (k k' : IntKind) (x y : Int) (w : World) : (Builtin.min_ ts t #[.int k x, .int k' y]).run P w = .ok (.int k (mnI x y)) w := by
  unfold mnI; simp [go_sem]
def parCode (s : List UInt8) : Int := if 4096 < s.length then 6 else 3
def ParOk (s : List UInt8) (e : Ed) : Prop := IsText s e ∧ s.length ≤ 4096
/-- What a text read as an edition hands back. -/
def ParOut (w : World) (s : List UInt8) (r : Ending) (w' : World) : Prop :=
  ((∃ e, ParOk s e ∧ ∃ A n c A' n' c', r = .returned (.tuple #[.agg #[.slice A n c, .slice A' n' c'], .int .i64 0]) ∧ EdS w' A n A' n' e) ∨ ((∀ e, ¬ ParOk s e) ∧ r = .returned (.tuple #[.agg #[.slice none 0 0, .slice none 0 0], .int .i64 (parCode s)]))) ∧ Below w.heap.size w w'
theorem addDig_mn (n : Int) (c : UInt8) : addDig n c = mnI (10 * n + ((c.toNat : Int) - 48)) 100000 := by rw [mnI_eq]; rfl
theorem addDig_bound {n : Int} (h0 : 0 ≤ n) {c : UInt8} (hc : isDigB c = true) : 0 ≤ addDig n c ∧ addDig n c ≤ 100000 := by
  have := (isDigB_iff c).1 hc
  unfold isDig at this
  unfold addDig
  omega
theorem flat_setI (o : List Int) (z u : Int) : ((o ++ [z]).flatMap encI).set o.length (.int .i64 u) = (o ++ [u]).flatMap encI := by
  have hf : (o.flatMap encI).length = o.length := by have := flat_len encI_len o; omega
  rw [List.flatMap_append, List.flatMap_append, List.set_append, if_neg (by rw [hf]; omega), hf, Nat.sub_self]
  rfl

theorem own_cap {w : World} {base : Nat} {e : TypeId} {k : Nat} {A : Option Addr} {n c : Nat} {xs : List Value} (h : w.ownsRow base e k (.slice A n c) n xs) : A = none → c = 0 := fun hA => by
  rcases h.2 with ⟨hv, _⟩ | ⟨g, cap, cur, hv, _⟩
  · injection hv
  · injection hv with h1; rw [hA] at h1; cases h1
theorem Sl.drop_none {α : Type} {w : World} {L B K n k : Nat} {enc : α → List Value} {A A2 : Option Addr} {xs : List α} (h : Sl w L B K enc A n xs) (hk : n ≤ k) : Sl w L B K enc A2 (n - k) (xs.drop k) :=
  ⟨by rw [List.length_drop, h.1], fun h' => absurd h' (by omega)⟩
theorem Sl.drop_at {α : Type} {w : World} {L B K n k : Nat} {enc : α → List Value} {b off : Nat} {xs : List α} (h : Sl w L B K enc (some ⟨b, off, none⟩) n xs) (hk : k ≤ n) : Sl w L B K enc (some ⟨b, off + k * K, none⟩) (n - k) (xs.drop k) := by
  refine ⟨by rw [List.length_drop, h.1], fun hn => ?_⟩
  obtain ⟨b', off', e, ha, hb, hc⟩ := h.2 (by omega)
  cases e
  refine ⟨b, off + k * K, rfl, ha, hb, fun i x hx j u hu => ?_⟩
  rw [List.getElem?_drop] at hx
  have := hc (k + i) x hx j u hu
  rw [Nat.add_mul] at this
  rw [show off + k * K + i * K + j = off + (k * K + i * K) + j from by omega]
  exact this
theorem nums_ne {cur : List UInt8} (h : pdOf cur = true) : numsF false [] cur ≠ [] := by
  rcases List.eq_nil_or_concat cur with rfl | ⟨o, z, rfl⟩
  · cases h
  · rw [List.concat_eq_append] at *
    have hz : isDigB z = true := by simpa [pdOf] using h
    rw [nums_snoc]
    unfold numStep
    rw [if_pos hz]
    split <;> simp
theorem Sl.set_up {α : Type} {w : World} {k n L B : Nat} {enc : α → List Value} {A : Option Addr} {xs : List α} (h : Sl w L B k enc A n xs) {p : Addr} (hp : B ≤ p.block) (u : Value) : Sl (w.setCell p u).drew L B k enc A n xs :=
  (h.keep fun b o _ hb => World.cell?_setCell_other w p ⟨b, o, none⟩ u (fun e => by subst e; simp at hp; omega)).below (Below.drew (Below.refl _ _)) (Nat.le_refl _)
set_option maxRecDepth 100000 in
set_option maxHeartbeats 20000000 in
theorem rparse_any (s : List UInt8) (w : World) (hs : s.length ≤ 1000000) :
    Calls Tryz.prog 29 #[.string ⟨s.toArray⟩] w (ParOut w s) := by
  by_cases hlong : 4096 < s.length
  · have HO : Hid (∀ e, ¬ ParOk s e) := fun e he => by have := he.2; omega
    have HC : Hid (parCode s = 6) := by show _ = _; unfold parCode; rw [if_pos hlong]
    have R0 := Bx.new w [.slice none 0 0, .slice none 0 0] 25
    have hb0 := one_alloc w (.cells #[.slice none 0 0, .slice none 0 0] 25)
    go_enter Tryz.func29, Tryz.ntmps29
    go_wp2_with fail
    refine bodyPost_ret (v := .tuple #[.agg #[.slice none 0 0, .slice none 0 0], .int .i64 6]) (by simp [results, Tryz.results29, go_sem, (R0.all2 _ _).cell 0 _ rfl, (R0.all2 _ _).cell 1 _ rfl]) rfl ?_
    exact ⟨.inr ⟨HO.out, by rw [HC.out]⟩, hb0⟩
  have hl : s.length ≤ 4096 := by omega
  have HC : Hid (parCode s = 3) := by show _ = _; unfold parCode; rw [if_neg hlong]
  clear hlong hs
  obtain ⟨i0, hi, hz0, hz1, hz2⟩ := info_parts Tryz.infoI
  obtain ⟨i1, hi1, hy0, hy1, hy2⟩ := info_parts Tryz.infoE
  obtain ⟨hb0, R, O⟩ : Below w.heap.size w ((w.alloc (.cells #[.slice none 0 0, .slice none 0 0] 25)).alloc (.cells #[.slice none 0 0, .slice none 0 0] 25)) ∧ Bx ((w.alloc (.cells #[.slice none 0 0, .slice none 0 0] 25)).alloc (.cells #[.slice none 0 0, .slice none 0 0] 25)) w.heap.size [.slice none 0 0, .slice none 0 0] ∧ Bx ((w.alloc (.cells #[.slice none 0 0, .slice none 0 0] 25)).alloc (.cells #[.slice none 0 0, .slice none 0 0] 25)) (w.heap.size + 1) [.slice none 0 0, .slice none 0 0] := by
    refine ⟨(one_alloc w _).alloc (by simp) _, (Bx.new w [.slice none 0 0, .slice none 0 0] 25).alloc _, ?_⟩
    have := Bx.new (w.alloc (.cells #[.slice none 0 0, .slice none 0 0] 25)) [.slice none 0 0, .slice none 0 0] 25
    rwa [World.size_alloc] at this
  have hmn := @run_mnI Tryz.prog
  go_enter Tryz.func29, Tryz.ntmps29
  go_wp2_with fail
  have hz2' : ((w.alloc (.cells #[.slice none 0 0, .slice none 0 0] 25)).alloc (.cells #[.slice none 0 0, .slice none 0 0] 25)).heap.size = w.heap.size + 2 := by simp
  generalize (w.alloc (.cells #[.slice none 0 0, .slice none 0 0] 25)).alloc (.cells #[.slice none 0 0, .slice none 0 0] 25) = W0 at *
  have hz2'' : w.heap.size + 2 ≤ W0.heap.size := by omega
  have HZ := Lib.hid hz2'; clear hz2'
  go_loopw [5, 6] (fun v t wr => ∃ (i : Nat) (dn : List (List UInt8)) (cur : List UInt8) (e : Ed) (line : List Int) (Bl : Nat) (Ae : Option Addr) (ce : Nat) (Ar : Option Addr) (cr : Nat), i ≤ s.length ∧ t = .int .i64 (i : Int) ∧ RS s i dn cur e line ∧ (∀ x ∈ line, 0 ≤ x ∧ x ≤ 100000) ∧ line.length ≤ i ∧ e.ents.length ≤ i ∧ e.ret.length ≤ i ∧
    wr.ownsRow Bl 3 1 v line.length (line.flatMap encI) ∧ w.heap.size + 2 ≤ Bl ∧ Bl ≤ wr.heap.size ∧ Sl wr (w.heap.size + 2) Bl 2 encE Ae e.ents.length e.ents ∧ Sl wr (w.heap.size + 2) Bl 1 encI Ar e.ret.length e.ret ∧ (e.ents.length ≤ ce ∧ (Ae = none → ce = 0)) ∧
    Bx wr w.heap.size [.slice none 0 0, .slice none 0 0] ∧ Bx wr (w.heap.size + 1) [.slice Ae e.ents.length ce, .slice Ar e.ret.length cr] ∧ Below w.heap.size w wr) (fun _ t _ => s.length - (intOf t).toNat)
  case atStart => exact ⟨0, [], [], edZero, [], w.heap.size + 2, none, 0, none, 0, by omega, rfl, RS.start s, by simp, by simp, by simp [edZero], by simp [edZero], World.ownsRow_nil _ _ _ _, by omega, by omega, Sl.nil, Sl.nil, ⟨by simp [edZero], fun _ => rfl⟩, R, O, hb0⟩
  case round =>
    clear hb0 R O hz2'' HZ
    obtain ⟨i, dn, cur, e, line, Bl, Ae, ce, Ar, cr, hik, rfl, hrs, hlb, hll, hel, hrl, hown, hB0, hBl, hSe, hSr, hcap, R, O, hb⟩ := hrel
    have HLB := Lib.hid hlb; clear hlb
    have HCAP := Lib.hid hcap; clear hcap
    have hOl := O.lt
    obtain ⟨Av, cv, rfl, hcv⟩ := own_form hown
    by_cases hlt : i < s.length
    · obtain ⟨c, hc⟩ : ∃ c, s[i]? = some c := ⟨s[i], List.getElem?_eq_getElem hlt⟩
      have h0 : ∀ h, (ByteArray.mk s.toArray)[i]'h = c := fun h => (List.getElem?_eq_some_iff.1 hc).2
      cases hd : isDigB c
      · have hnd : ¬ (48 ≤ c.toNat ∧ c.toNat ≤ 57) := fun h' => by have := (isDigB_iff c).2 h'; rw [hd] at this; cases this
        by_cases h114 : c = 114
        · subst h114
          have HRS := Lib.hid (hrs.r hc)
          clear hrs hc hd hnd
          have O0 := O.cell 0 _ rfl; have Of0 := O.frz 0; have O1 := O.cell 1 _ rfl; have Of1 := O.frz 1; have Olt := O.lt
          have hown' : ∀ u, (wr.setCell ⟨w.heap.size + 1, 1, none⟩ u).ownsRow Bl 3 1 (.slice Av line.length cv) line.length (line.flatMap encI) := fun u => ownsRow_setCell_below hown (by simp; omega) u
          go_wp2_with fail
          go_roundw
          case rel => exact ⟨i + 1, dn, cur ++ [114], ⟨e.ents, []⟩, line, Bl, Ae, ce, none, 0, by omega, by go_num, HRS.out, HLB.out, by omega, by simp; omega, by simp, hown' _, hB0, by rw [size_set]; exact hBl, hSe.set_ (by simp) _, Sl.nil, HCAP.out, R.far (by simp) _, O.set (i := 1) (by simp) _, hb.setCell (by simp) _⟩
          case measure => simp [intOf]; omega
        · by_cases h10 : c = 10
          · subst h10
            have hnoq := Lib.hid hrs
            clear hd hnd h114
            have HC0 := Lib.hid hc; clear hc
            have HRS0 := Lib.hid hrs; clear hrs hnoq
            go_upto_block 2 with (fail)
            go_cut [7] (fun q wx => q = .bool (eqOf dn cur) ∧ wr = wx)
            case first =>
              go_wp2_with fail
              go_loop [7, 8] (fun q t => ∃ k : Nat, k ≤ i ∧ t = .int .i64 (k : Int) ∧ q = .bool (eqB s k i) ∧ ∀ j, k < j → j < i → s[j]? ≠ some 10) (fun _ t => (intOf t).toNat)
              case atStart => exact ⟨i, Nat.le_refl _, rfl, by rw [eqB_start], fun j h1 h2 => by omega⟩
              case round =>
                obtain ⟨k, hk, rfl, rfl, hno⟩ := hrel
                rcases Nat.eq_zero_or_pos k with rfl | hk0
                · have HE := Lib.hid (HRS0.out.eq_end HC0.out hk hno (.inl rfl))
                  clear hno
                  simp only [Int.ofNat_zero, Int.natCast_zero]
                  go_wp2_with fail
                  go_meet
                  exact ⟨by rw [HE.out], rfl⟩
                · obtain ⟨m, rfl⟩ : ∃ m, k = m + 1 := ⟨k - 1, by omega⟩
                  obtain ⟨d, hdm⟩ : ∃ d, s[m + 1]? = some d := ⟨s[m + 1], List.getElem?_eq_getElem (by omega)⟩
                  have hd0 : ∀ h, (ByteArray.mk s.toArray)[m + 1]'h = d := fun h => (List.getElem?_eq_some_iff.1 hdm).2
                  have HST := Lib.hid (eqB_step hk hdm)
                  have p0 : (0 : Int) ≤ (m : Int) + 1 := by omega
                  have p1 : (m : Int) + 1 < (s.length : Int) := by omega
                  have p3 : ((m : Int) + 1).toNat = m + 1 := by omega
                  have h61 : Hid ((d == 61) = ((d.toNat : Int) == 61)) := by
                    show _ = _
                    rw [Bool.eq_iff_iff, beq_iff_eq, beq_iff_eq]
                    exact ⟨fun h => by rw [h]; rfl, fun h => UInt8.toNat_inj.1 (by show d.toNat = 61; omega)⟩
                  by_cases hmi : m + 1 = i
                  · have hmi' : ((m : Int) + 1 == (i : Int)) = true := by simp; omega
                    have HNO : Hid (∀ j, m < j → j < i → s[j]? ≠ some 10) := fun j h1 h2 => by omega
                    have HMI := Lib.hid hmi; clear hmi
                    clear hno hdm
                    cases hq : eqB s (m + 1) i
                    · rw [hq] at HST
                      cases hd61 : ((d.toNat : Int) == 61)
                      · rw [h61.out, hd61] at HST
                        go_wp2_with fail
                        go_round
                        case rel => exact ⟨m, by omega, by go_num, by rw [HST.out]; rfl, HNO.out⟩
                        case measure => simp [intOf]
                      · rw [h61.out, hd61] at HST
                        go_wp2_with fail
                        go_round
                        case rel => exact ⟨m, by omega, by go_num, by rw [HST.out]; rfl, HNO.out⟩
                        case measure => simp [intOf]
                    · rw [hq] at HST
                      go_wp2_with fail
                      go_round
                      case rel => exact ⟨m, by omega, by go_num, by rw [HST.out]; rfl, HNO.out⟩
                      case measure => simp [intOf]
                  · have hmi' : ((m : Int) + 1 == (i : Int)) = false := by simp; omega
                    by_cases hd10 : d = 10
                    · have HE := Lib.hid (HRS0.out.eq_end HC0.out hk hno (.inr ⟨hmi, by rw [hdm, hd10]⟩))
                      have t10 : ((d.toNat : Int) != 10) = false := by rw [hd10]; rfl
                      clear hno hdm hd10
                      go_wp2_with fail
                      go_meet
                      exact ⟨by rw [HE.out], rfl⟩
                    · have t10 : ((d.toNat : Int) != 10) = true := by
                        have : d.toNat ≠ 10 := fun e => hd10 (UInt8.toNat_inj.1 e)
                        simp; omega
                      have HNO : Hid (∀ j, m < j → j < i → s[j]? ≠ some 10) := fun j h1 h2 => by
                        by_cases hj : j = m + 1
                        · subst hj; rw [hdm]; intro h; exact hd10 (Option.some.inj h)
                        · exact hno j (by omega) h2
                      clear hno hdm hd10
                      cases hq : eqB s (m + 1) i
                      · rw [hq] at HST
                        cases hd61 : ((d.toNat : Int) == 61)
                        · rw [h61.out, hd61] at HST
                          go_wp2_with fail
                          go_round
                          case rel => exact ⟨m, by omega, by go_num, by rw [HST.out]; rfl, HNO.out⟩
                          case measure => simp [intOf]
                        · rw [h61.out, hd61] at HST
                          go_wp2_with fail
                          go_round
                          case rel => exact ⟨m, by omega, by go_num, by rw [HST.out]; rfl, HNO.out⟩
                          case measure => simp [intOf]
                      · rw [hq] at HST
                        go_wp2_with fail
                        go_round
                        case rel => exact ⟨m, by omega, by go_num, by rw [HST.out]; rfl, HNO.out⟩
                        case measure => simp [intOf]
            case rest =>
              obtain ⟨rfl, rfl⟩ := hcut
              by_cases hyes : eqOf dn cur = true ∧ line.length = 2
              · obtain ⟨hye, hy2⟩ := hyes
                obtain ⟨a, b, rfl⟩ : ∃ a b, line = [a, b] := by
                  match line, hy2 with
                  | [a, b], _ => exact ⟨a, b, rfl⟩
                clear hy2
                have HRS := Lib.hid (HRS0.out.nl_eq HC0.out hye rfl)
                rw [hye]
                clear hye
                simp only [List.length_cons, List.length_nil, Nat.zero_add, Nat.reduceAdd] at hown hll hcv ⊢
                obtain ⟨g, cq, hv⟩ := ownsRow_succ hown
                injection hv with hv1 hv2 hv3
                subst hv1
                subst hv3
                have hgl := hown.lt g rfl
                have la : wr.cell? ⟨g, 0, none⟩ = some (.int .i64 a) := (hown.cellAt 0 (by omega)).trans rfl
                have lb : wr.cell? ⟨g, 1, none⟩ = some (.int .i64 b) := (hown.cellAt 1 (by omega)).trans rfl
                clear hown
                have hg2 : g < wr.heap.size := hgl.2
                clear hgl
                obtain ⟨wo, rfl⟩ : ∃ wo : World, wo = wr := ⟨_, rfl⟩
                go_upto_block 4 with (fail)
                go_cut [9] (fun t wx => ∃ k : Nat, k ≤ e.ents.length ∧ t = .int .i64 (k : Int) ∧ insK (b, a) e.ents = e.ents.take k ++ (b, a) :: e.ents.drop k ∧ Below wo.heap.size wo wx)
                case first =>
                  go_wp2_with fail
                  go_loopw [9] (fun t wr => ∃ k : Nat, k ≤ e.ents.length ∧ t = .int .i64 (k : Int) ∧ (∀ y ∈ e.ents.take k, y.1 < b) ∧ Below wo.heap.size wo wr) (fun t _ => e.ents.length - (intOf t).toNat)
                  case atStart => exact ⟨0, by omega, rfl, by simp, Below.refl _ _⟩
                  case round =>
                    obtain ⟨k, hk, rfl, hlow, hbq⟩ := hrel
                    have HLOW := Lib.hid hlow; clear hlow
                    have la' : wr.cell? ⟨g, 0, none⟩ = some (.int .i64 a) := (hbq.cell (p := ⟨g, 0, none⟩) hg2).trans la
                    have lb' : wr.cell? ⟨g, 1, none⟩ = some (.int .i64 b) := (hbq.cell (p := ⟨g, 1, none⟩) hg2).trans lb
                    have hgq : g < wr.heap.size := Nat.lt_of_lt_of_le hg2 hbq.size
                    have hSq := hSe.below hbq hBl
                    have Oq := O.up hbq
                    have Rq := R.up hbq
                    have Oq0 := Oq.cell 0 _ rfl; have Oq1 := Oq.cell 1 _ rfl; have Oqlt := Oq.lt
                    by_cases hkn : k < e.ents.length
                    · obtain ⟨be, off, y, rfl, hbe, hy, c0, c1⟩ := hSq.en hkn
                      have HY := Lib.hid hy; clear hy
                      have q0 : (0 : Int) ≤ (k : Int) := by omega
                      have q1 : (k : Int) < (e.ents.length : Int) := by omega
                      have q2 : decide ((k : Int) < (e.ents.length : Int)) = true := decide_eq_true q1
                      by_cases hyb : y.1 < b
                      · have q3 : decide (y.1 < b) = true := decide_eq_true hyb
                        have HYB := Lib.hid hyb; clear hyb
                        go_wp2_with fail
                        go_quiet (fail)
                        go_wp2_with fail
                        go_roundw
                        case rel => exact ⟨k + 1, by omega, by go_num, all_take HY.out HLOW.out HYB.out, below_drewN hbq _⟩
                        case measure => simp [intOf]; omega
                      · have q3 : decide (y.1 < b) = false := decide_eq_false hyb
                        have HINS : Hid (insK (b, a) e.ents = e.ents.take k ++ (b, a) :: e.ents.drop k) := ins_at HLOW.out (.inr ⟨y, HY.out, hyb⟩)
                        clear hyb
                        go_wp2_with fail
                        go_quiet (fail)
                        go_wp2_with fail
                        go_meet
                        exact ⟨k, hk, rfl, HINS.out, below_drewN hbq _⟩
                    · obtain rfl : k = e.ents.length := by omega
                      have q2 : decide ((e.ents.length : Int) < (e.ents.length : Int)) = false := decide_eq_false (by omega)
                      have HINS : Hid (insK (b, a) e.ents = e.ents.take e.ents.length ++ (b, a) :: e.ents.drop e.ents.length) := ins_at HLOW.out (.inl rfl)
                      go_wp2_with fail
                      go_quiet (fail)
                      go_wp2_with fail
                      go_meet
                      exact ⟨e.ents.length, Nat.le_refl _, rfl, HINS.out, below_drewN hbq _⟩
                case rest =>
                  obtain ⟨k, hk, rfl, hins, hbq⟩ := hcut
                  have HINS := Lib.hid hins; clear hins
                  have la' : wc.cell? ⟨g, 0, none⟩ = some (.int .i64 a) := (hbq.cell (p := ⟨g, 0, none⟩) hg2).trans la
                  have lb' : wc.cell? ⟨g, 1, none⟩ = some (.int .i64 b) := (hbq.cell (p := ⟨g, 1, none⟩) hg2).trans lb
                  have hg3 : g < wc.heap.size := Nat.lt_of_lt_of_le hg2 hbq.size
                  have hBc : Bl ≤ wc.heap.size := Nat.le_trans hBl hbq.size
                  replace hSe := hSe.below hbq hBl
                  replace hSr := hSr.below hbq hBl
                  replace R := R.up hbq
                  replace O := O.up hbq
                  replace hb := hb.trans (hbq.mono (by omega))
                  clear la lb hg2 hBl hOl hbq hv2 wo
                  obtain ⟨hce, hnone⟩ := HCAP.out
                  have HNONE := Lib.hid hnone; clear hnone
                  have hOl := O.lt
                  have O0 := O.cell 0 _ rfl; have O1 := O.cell 1 _ rfl; have Olt := O.lt
                  have HO : Hid ((wc.alloc (.cells #[] 36)).ownsRow wc.heap.size 36 2 (.slice (some ⟨wc.heap.size, 0, none⟩) 0 0) 0 []) := World.ownsRow_lit wc #[] 0 (Nat.le_refl _) (by unfold maxLen; omega) rfl
                  have q0 : (0 : Int) ≤ (k : Int) := by omega
                  have q1 : (k : Int) ≤ (ce : Int) := by omega
                  have q2 : (k : Int) ≤ (e.ents.length : Int) := by omega
                  have hinl : (insK (b, a) e.ents).length = e.ents.length + 1 := by have := (insK_perm (b, a) e.ents).length_eq; simpa using this
                  have HINL := Lib.hid hinl; clear hinl
                  rcases Nat.eq_zero_or_pos e.ents.length with hn0 | hn0
                  · have HS1 : Hid (∀ A : Option Addr, Sl (wc.alloc (.cells #[] 36)) (w.heap.size + 2) Bl 2 encE A k (e.ents.take k)) := fun A => ⟨by rw [List.length_take]; omega, fun h => absurd h (by omega)⟩
                    have HN0 := Lib.hid hn0
                    have hn0' : e.ents.length ≤ 0 := by omega
                    clear hn0
                    go_wp2_with (at_builtin; refine wpList_append_sl (ys := e.ents.take k) (L := w.heap.size + 2) (B := Bl) _ rfl _ _ 22 rfl wc.heap.size 36 i1 (.agg #[.int .i64 0, .int .i64 0]) 2 16 encE_len encE_one Tryz.underlying22 hi1 hy0 hy1 hy2 rfl (by decide) _ _ _ rfl HO.out _ rfl (HS1.out _) (by unfold maxLen; omega) (by omega) (by simp) ?_)
                    intro v5 w5 hown5 hgrow5
                    have hb5 : Below wc.heap.size wc w5 := Below.grown (one_alloc wc _) hgrow5 (by simp) (fun g hg => by simp [Value.ownBlock] at hg; omega)
                    obtain ⟨A5, c5, rfl, _⟩ := own_form hown5
                    have la5 : w5.cell? ⟨g, 0, none⟩ = some (.int .i64 a) := (hb5.cell (p := ⟨g, 0, none⟩) hg3).trans la'
                    have lb5 : w5.cell? ⟨g, 1, none⟩ = some (.int .i64 b) := (hb5.cell (p := ⟨g, 1, none⟩) hg3).trans lb'
                    have hz5 := hb5.size
                    have hg5 : g < w5.heap.size := by omega
                    have HSE : Hid (∀ W, Below wc.heap.size w5 W → Sl W (w.heap.size + 2) Bl 2 encE Ae e.ents.length e.ents ∧ Sl W (w.heap.size + 2) Bl 1 encI Ar e.ret.length e.ret ∧ Bx W w.heap.size [.slice none 0 0, .slice none 0 0] ∧ Bx W (w.heap.size + 1) [.slice Ae e.ents.length ce, .slice Ar e.ret.length cr]) := fun W hW =>
                      ⟨(hSe.below hb5 hBc).below hW hBc, (hSr.below hb5 hBc).below hW hBc, (R.up hb5).keepD hW (by omega), (O.up hb5).keepD hW hOl⟩
                    replace hb := hb.trans (hb5.mono (by omega))
                    clear hb5 hgrow5 la' lb' hg3 HO HS1 O0 O1 Olt O R hSr hSe
                    go_wp2_with fail
                    go_region_law (first | (refine step_append_lies _ rfl (.tmp 133) (.tmp 141) 22 rfl wc.heap.size 36 i1 (.agg #[.int .i64 0, .int .i64 0]) 2 16 Tryz.underlying22 hi1 hy0 hy1 hy2 rfl (by decide) _ _ _ rfl (hown5.alloc _) ⟨w5.heap.size, 0, none⟩ 1 1 [.int .i64 b, .int .i64 a] rfl rfl (cell_list_at rfl _ _) (by simp [Value.oneCell']) (by decide) (by unfold maxLen; omega) (by omega) (by simp; omega) _ rfl ?_; intro g6 cap6 w6 hown6 hgrow6 hat6 hlt6; have hb6 : Below wc.heap.size w5 w6 := Below.grown (by (repeat (first | exact Below.refl _ _ | assumption | refine Below.alloc ?_ (by first | omega | (simp only [World.size_alloc]; omega) | (simp; done) | (simp; omega)) _ | refine Below.setCell ?_ (by first | omega | (simp only [World.size_alloc]; omega) | (simp; done) | (simp; omega)) _ | refine Below.drew ?_ | refine below_drewN ?_ _))) hgrow6 (by simp; omega) (fun g hg => (hown5.lt g hg).1)))
                    all_goals
                      obtain ⟨hSe, hSr, R, O⟩ := HSE.out _ hb6
                      have hz6 := hb6.size
                      replace hb := hb.trans (hb6.mono (by omega))
                      have HB6 := Lib.hid hb6
                      clear hb6 hgrow6 hat6 hown5 la5 lb5 hg5
                      have O0 := O.cell 0 _ rfl; have O1 := O.cell 1 _ rfl; have Olt := O.lt
                      by_cases hck : k = ce
                      · subst hck
                        have HS7 : Hid (∀ A : Option Addr, Sl w6 (w.heap.size + 2) Bl 2 encE A 0 (e.ents.drop k)) := fun A => by have h := hSe.drop_none (A2 := A) (k := k) (by omega); rwa [Nat.sub_eq_zero_of_le (by omega)] at h
                        go_wp2_with (at_builtin; refine wpList_append_sl (ys := e.ents.drop k) (L := w.heap.size + 2) (B := Bl) _ rfl _ _ 22 rfl wc.heap.size 36 i1 (.agg #[.int .i64 0, .int .i64 0]) 2 16 encE_len encE_one Tryz.underlying22 hi1 hy0 hy1 hy2 rfl (by decide) _ _ _ rfl hown6 _ rfl (HS7.out _) (by unfold maxLen; omega) (by omega) (by omega) ?_)
                        intro v7 w7 hown7 hgrow7
                        have hb7 : Below wc.heap.size w6 w7 := Below.grown (Below.refl _ _) hgrow7 (by omega) (fun g hg => (hown6.lt g hg).1)
                        have hN : ∀ (N : Nat) (xs : List Value), w7.ownsRow wc.heap.size 36 2 v7 N xs → N = (insK (b, a) e.ents).length → w7.ownsRow wc.heap.size 36 2 v7 (insK (b, a) e.ents).length xs := fun N xs h e => e ▸ h
                        have hfl : (insK (b, a) e.ents).flatMap encE = (e.ents.take k).flatMap encE ++ (.int .i64 b :: .int .i64 a :: (e.ents.drop k).flatMap encE) := by rw [HINS.out]; simp [List.flatMap_append, encE]
                        replace hown7 : w7.ownsRow wc.heap.size 36 2 v7 (insK (b, a) e.ents).length ((insK (b, a) e.ents).flatMap encE) := by rw [hfl]; simpa using hN _ _ hown7 (by rw [HINL.out]; omega)
                        obtain ⟨A7, c7, rfl, hc7⟩ := own_form hown7
                        have HC7 := Lib.hid (own_cap hown7)
                        have hS7 := Sl.of_own (enc := encE) encE_len hown7 rfl
                        obtain ⟨hSe', hSr', R', O'⟩ := HSE.out _ (HB6.out.trans hb7)
                        have hz7 := hb7.size
                        replace hb := hb.trans (hb7.mono (by omega))
                        clear hb7 hgrow7 hown7 hown6 O0 O1 Olt O R hSr hSe HS7 HB6 HSE hN hfl
                        have hOl7 := O'.lt
                        have O'0 := O'.cell 0 _ rfl; have O'f0 := O'.frz 0; have O'1 := O'.cell 1 _ rfl; have O'f1 := O'.frz 1; have O'lt := O'.lt
                        go_wp2_with fail
                        go_roundw
                        case rel => exact ⟨i + 1, dn ++ [cur], [], ⟨insK (b, a) e.ents, e.ret⟩, [], w7.heap.size, A7, c7, Ar, cr, by omega, by go_num, HRS.out, by simp, by simp, by show (insK (b, a) e.ents).length ≤ _; rw [HINL.out]; omega, by show e.ret.length ≤ _; omega, World.ownsRow_nil _ _ _ _, by omega, by rw [size_set]; exact Nat.le_refl _, ((hS7.less (by omega)).set_ (by simp) _), ((hSr'.more (by omega)).set_ (by simp) _), ⟨hc7, HC7.out⟩, R'.far (by simp) _, O'.set (i := 0) (by simp) _, hb.setCell (by simp) _⟩
                        case measure => simp [intOf]; omega
                      · have hck2 : ¬ ce = k := fun h => hck h.symm
                        have HS7 : Hid (∀ A : Option Addr, Sl w6 (w.heap.size + 2) Bl 2 encE A (e.ents.length - k) (e.ents.drop k)) := fun A => hSe.drop_none (by omega)
                        go_wp2_with (at_builtin; refine wpList_append_sl (ys := e.ents.drop k) (L := w.heap.size + 2) (B := Bl) _ rfl _ _ 22 rfl wc.heap.size 36 i1 (.agg #[.int .i64 0, .int .i64 0]) 2 16 encE_len encE_one Tryz.underlying22 hi1 hy0 hy1 hy2 rfl (by decide) _ _ _ rfl hown6 _ rfl (HS7.out _) (by unfold maxLen; omega) (by omega) (by omega) ?_)
                        intro v7 w7 hown7 hgrow7
                        have hb7 : Below wc.heap.size w6 w7 := Below.grown (Below.refl _ _) hgrow7 (by omega) (fun g hg => (hown6.lt g hg).1)
                        have hN : ∀ (N : Nat) (xs : List Value), w7.ownsRow wc.heap.size 36 2 v7 N xs → N = (insK (b, a) e.ents).length → w7.ownsRow wc.heap.size 36 2 v7 (insK (b, a) e.ents).length xs := fun N xs h e => e ▸ h
                        have hfl : (insK (b, a) e.ents).flatMap encE = (e.ents.take k).flatMap encE ++ (.int .i64 b :: .int .i64 a :: (e.ents.drop k).flatMap encE) := by rw [HINS.out]; simp [List.flatMap_append, encE]
                        replace hown7 : w7.ownsRow wc.heap.size 36 2 v7 (insK (b, a) e.ents).length ((insK (b, a) e.ents).flatMap encE) := by rw [hfl]; simpa using hN _ _ hown7 (by rw [HINL.out]; omega)
                        obtain ⟨A7, c7, rfl, hc7⟩ := own_form hown7
                        have HC7 := Lib.hid (own_cap hown7)
                        have hS7 := Sl.of_own (enc := encE) encE_len hown7 rfl
                        obtain ⟨hSe', hSr', R', O'⟩ := HSE.out _ (HB6.out.trans hb7)
                        have hz7 := hb7.size
                        replace hb := hb.trans (hb7.mono (by omega))
                        clear hb7 hgrow7 hown7 hown6 O0 O1 Olt O R hSr hSe HS7 HB6 HSE hN hfl
                        have hOl7 := O'.lt
                        have O'0 := O'.cell 0 _ rfl; have O'f0 := O'.frz 0; have O'1 := O'.cell 1 _ rfl; have O'f1 := O'.frz 1; have O'lt := O'.lt
                        go_wp2_with fail
                        go_roundw
                        case rel => exact ⟨i + 1, dn ++ [cur], [], ⟨insK (b, a) e.ents, e.ret⟩, [], w7.heap.size, A7, c7, Ar, cr, by omega, by go_num, HRS.out, by simp, by simp, by show (insK (b, a) e.ents).length ≤ _; rw [HINL.out]; omega, by show e.ret.length ≤ _; omega, World.ownsRow_nil _ _ _ _, by omega, by rw [size_set]; exact Nat.le_refl _, ((hS7.less (by omega)).set_ (by simp) _), ((hSr'.more (by omega)).set_ (by simp) _), ⟨hc7, HC7.out⟩, R'.far (by simp) _, O'.set (i := 0) (by simp) _, hb.setCell (by simp) _⟩
                        case measure => simp [intOf]; omega
                  · obtain ⟨be, off, _, rfl, _, hbe, _, _⟩ := hSe.en hn0
                    have HS1 : Hid (Sl (wc.alloc (.cells #[] 36)) (w.heap.size + 2) Bl 2 encE (some ⟨be, off, none⟩) k (e.ents.take k)) := (hSe.cut k hk).below (one_alloc _ _) (by omega)
                    have hc0 : ¬ ce = 0 := by omega
                    go_wp2_with (at_builtin; refine wpList_append_sl (ys := e.ents.take k) (L := w.heap.size + 2) (B := Bl) _ rfl _ _ 22 rfl wc.heap.size 36 i1 (.agg #[.int .i64 0, .int .i64 0]) 2 16 encE_len encE_one Tryz.underlying22 hi1 hy0 hy1 hy2 rfl (by decide) _ _ _ rfl HO.out _ rfl HS1.out (by unfold maxLen; omega) (by omega) (by simp) ?_)
                    intro v5 w5 hown5 hgrow5
                    have hb5 : Below wc.heap.size wc w5 := Below.grown (one_alloc wc _) hgrow5 (by simp) (fun g hg => by simp [Value.ownBlock] at hg; omega)
                    obtain ⟨A5, c5, rfl, _⟩ := own_form hown5
                    have la5 : w5.cell? ⟨g, 0, none⟩ = some (.int .i64 a) := (hb5.cell (p := ⟨g, 0, none⟩) hg3).trans la'
                    have lb5 : w5.cell? ⟨g, 1, none⟩ = some (.int .i64 b) := (hb5.cell (p := ⟨g, 1, none⟩) hg3).trans lb'
                    have hz5 := hb5.size
                    have hg5 : g < w5.heap.size := by omega
                    have HSE : Hid (∀ W, Below wc.heap.size w5 W → Sl W (w.heap.size + 2) Bl 2 encE (some ⟨be, off, none⟩) e.ents.length e.ents ∧ Sl W (w.heap.size + 2) Bl 1 encI Ar e.ret.length e.ret ∧ Bx W w.heap.size [.slice none 0 0, .slice none 0 0] ∧ Bx W (w.heap.size + 1) [.slice (some ⟨be, off, none⟩) e.ents.length ce, .slice Ar e.ret.length cr]) := fun W hW =>
                      ⟨(hSe.below hb5 hBc).below hW hBc, (hSr.below hb5 hBc).below hW hBc, (R.up hb5).keepD hW (by omega), (O.up hb5).keepD hW hOl⟩
                    replace hb := hb.trans (hb5.mono (by omega))
                    clear hb5 hgrow5 la' lb' hg3 HO HS1 O0 O1 Olt O R hSr hSe
                    go_wp2_with fail
                    go_region_law (first | (refine step_append_lies _ rfl (.tmp 133) (.tmp 141) 22 rfl wc.heap.size 36 i1 (.agg #[.int .i64 0, .int .i64 0]) 2 16 Tryz.underlying22 hi1 hy0 hy1 hy2 rfl (by decide) _ _ _ rfl (hown5.alloc _) ⟨w5.heap.size, 0, none⟩ 1 1 [.int .i64 b, .int .i64 a] rfl rfl (cell_list_at rfl _ _) (by simp [Value.oneCell']) (by decide) (by unfold maxLen; omega) (by omega) (by simp; omega) _ rfl ?_; intro g6 cap6 w6 hown6 hgrow6 hat6 hlt6; have hb6 : Below wc.heap.size w5 w6 := Below.grown (by (repeat (first | exact Below.refl _ _ | assumption | refine Below.alloc ?_ (by first | omega | (simp only [World.size_alloc]; omega) | (simp; done) | (simp; omega)) _ | refine Below.setCell ?_ (by first | omega | (simp only [World.size_alloc]; omega) | (simp; done) | (simp; omega)) _ | refine Below.drew ?_ | refine below_drewN ?_ _))) hgrow6 (by simp; omega) (fun g hg => (hown5.lt g hg).1)))
                    all_goals
                      obtain ⟨hSe, hSr, R, O⟩ := HSE.out _ hb6
                      have hz6 := hb6.size
                      replace hb := hb.trans (hb6.mono (by omega))
                      have HB6 := Lib.hid hb6
                      clear hb6 hgrow6 hat6 hown5 la5 lb5 hg5
                      have O0 := O.cell 0 _ rfl; have O1 := O.cell 1 _ rfl; have Olt := O.lt
                      by_cases hck : k = ce
                      · subst hck
                        have HS7 : Hid (Sl w6 (w.heap.size + 2) Bl 2 encE (some ⟨be, off, none⟩) 0 (e.ents.drop k)) := (by have h := hSe.drop_none (A2 := some ⟨be, off, none⟩) hce; rwa [Nat.sub_eq_zero_of_le hce] at h)
                        go_wp2_with (at_builtin; refine wpList_append_sl (ys := e.ents.drop k) (L := w.heap.size + 2) (B := Bl) _ rfl _ _ 22 rfl wc.heap.size 36 i1 (.agg #[.int .i64 0, .int .i64 0]) 2 16 encE_len encE_one Tryz.underlying22 hi1 hy0 hy1 hy2 rfl (by decide) _ _ _ rfl hown6 _ rfl HS7.out (by unfold maxLen; omega) (by omega) (by omega) ?_)
                        intro v7 w7 hown7 hgrow7
                        have hb7 : Below wc.heap.size w6 w7 := Below.grown (Below.refl _ _) hgrow7 (by omega) (fun g hg => (hown6.lt g hg).1)
                        have hN : ∀ (N : Nat) (xs : List Value), w7.ownsRow wc.heap.size 36 2 v7 N xs → N = (insK (b, a) e.ents).length → w7.ownsRow wc.heap.size 36 2 v7 (insK (b, a) e.ents).length xs := fun N xs h e => e ▸ h
                        have hfl : (insK (b, a) e.ents).flatMap encE = (e.ents.take k).flatMap encE ++ (.int .i64 b :: .int .i64 a :: (e.ents.drop k).flatMap encE) := by rw [HINS.out]; simp [List.flatMap_append, encE]
                        replace hown7 : w7.ownsRow wc.heap.size 36 2 v7 (insK (b, a) e.ents).length ((insK (b, a) e.ents).flatMap encE) := by rw [hfl]; simpa using hN _ _ hown7 (by rw [HINL.out]; omega)
                        obtain ⟨A7, c7, rfl, hc7⟩ := own_form hown7
                        have HC7 := Lib.hid (own_cap hown7)
                        have hS7 := Sl.of_own (enc := encE) encE_len hown7 rfl
                        obtain ⟨hSe', hSr', R', O'⟩ := HSE.out _ (HB6.out.trans hb7)
                        have hz7 := hb7.size
                        replace hb := hb.trans (hb7.mono (by omega))
                        clear hb7 hgrow7 hown7 hown6 O0 O1 Olt O R hSr hSe HS7 HB6 HSE hN hfl
                        have hOl7 := O'.lt
                        have O'0 := O'.cell 0 _ rfl; have O'f0 := O'.frz 0; have O'1 := O'.cell 1 _ rfl; have O'f1 := O'.frz 1; have O'lt := O'.lt
                        go_wp2_with fail
                        go_roundw
                        case rel => exact ⟨i + 1, dn ++ [cur], [], ⟨insK (b, a) e.ents, e.ret⟩, [], w7.heap.size, A7, c7, Ar, cr, by omega, by go_num, HRS.out, by simp, by simp, by show (insK (b, a) e.ents).length ≤ _; rw [HINL.out]; omega, by show e.ret.length ≤ _; omega, World.ownsRow_nil _ _ _ _, by omega, by rw [size_set]; exact Nat.le_refl _, ((hS7.less (by omega)).set_ (by simp) _), ((hSr'.more (by omega)).set_ (by simp) _), ⟨hc7, HC7.out⟩, R'.far (by simp) _, O'.set (i := 0) (by simp) _, hb.setCell (by simp) _⟩
                        case measure => simp [intOf]; omega
                      · have hck2 : ¬ ce = k := fun h => hck h.symm
                        have HS7 : Hid (Sl w6 (w.heap.size + 2) Bl 2 encE (some ⟨be, off + k * 2, none⟩) (e.ents.length - k) (e.ents.drop k)) := hSe.drop_at hk
                        go_wp2_with (at_builtin; refine wpList_append_sl (ys := e.ents.drop k) (L := w.heap.size + 2) (B := Bl) _ rfl _ _ 22 rfl wc.heap.size 36 i1 (.agg #[.int .i64 0, .int .i64 0]) 2 16 encE_len encE_one Tryz.underlying22 hi1 hy0 hy1 hy2 rfl (by decide) _ _ _ rfl hown6 _ rfl HS7.out (by unfold maxLen; omega) (by omega) (by omega) ?_)
                        intro v7 w7 hown7 hgrow7
                        have hb7 : Below wc.heap.size w6 w7 := Below.grown (Below.refl _ _) hgrow7 (by omega) (fun g hg => (hown6.lt g hg).1)
                        have hN : ∀ (N : Nat) (xs : List Value), w7.ownsRow wc.heap.size 36 2 v7 N xs → N = (insK (b, a) e.ents).length → w7.ownsRow wc.heap.size 36 2 v7 (insK (b, a) e.ents).length xs := fun N xs h e => e ▸ h
                        have hfl : (insK (b, a) e.ents).flatMap encE = (e.ents.take k).flatMap encE ++ (.int .i64 b :: .int .i64 a :: (e.ents.drop k).flatMap encE) := by rw [HINS.out]; simp [List.flatMap_append, encE]
                        replace hown7 : w7.ownsRow wc.heap.size 36 2 v7 (insK (b, a) e.ents).length ((insK (b, a) e.ents).flatMap encE) := by rw [hfl]; simpa using hN _ _ hown7 (by rw [HINL.out]; omega)
                        obtain ⟨A7, c7, rfl, hc7⟩ := own_form hown7
                        have HC7 := Lib.hid (own_cap hown7)
                        have hS7 := Sl.of_own (enc := encE) encE_len hown7 rfl
                        obtain ⟨hSe', hSr', R', O'⟩ := HSE.out _ (HB6.out.trans hb7)
                        have hz7 := hb7.size
                        replace hb := hb.trans (hb7.mono (by omega))
                        clear hb7 hgrow7 hown7 hown6 O0 O1 Olt O R hSr hSe HS7 HB6 HSE hN hfl
                        have hOl7 := O'.lt
                        have O'0 := O'.cell 0 _ rfl; have O'f0 := O'.frz 0; have O'1 := O'.cell 1 _ rfl; have O'f1 := O'.frz 1; have O'lt := O'.lt
                        go_wp2_with fail
                        go_roundw
                        case rel => exact ⟨i + 1, dn ++ [cur], [], ⟨insK (b, a) e.ents, e.ret⟩, [], w7.heap.size, A7, c7, Ar, cr, by omega, by go_num, HRS.out, by simp, by simp, by show (insK (b, a) e.ents).length ≤ _; rw [HINL.out]; omega, by show e.ret.length ≤ _; omega, World.ownsRow_nil _ _ _ _, by omega, by rw [size_set]; exact Nat.le_refl _, ((hS7.less (by omega)).set_ (by simp) _), ((hSr'.more (by omega)).set_ (by simp) _), ⟨hc7, HC7.out⟩, R'.far (by simp) _, O'.set (i := 0) (by simp) _, hb.setCell (by simp) _⟩
                        case measure => simp [intOf]; omega
              · have HRS := Lib.hid (HRS0.out.nl_ret HC0.out hyes)
                have hSl := Sl.of_own (enc := encI) encI_len hown rfl
                have hb1 := one_alloc wr (.cells #[] 3)
                have HO : Hid ((wr.alloc (.cells #[] 3)).ownsRow wr.heap.size 3 1 (.slice (some ⟨wr.heap.size, 0, none⟩) 0 0) 0 []) := World.ownsRow_lit wr #[] 0 (Nat.le_refl _) (by unfold maxLen; omega) rfl
                have HSL : Hid (Sl (wr.alloc (.cells #[] 3)) Bl wr.heap.size 1 encI Av line.length line) := hSl.below hb1 (Nat.le_refl _)
                clear hSl
                have hq : (eqOf dn cur && ((line.length : Int) == 2)) = false := by
                  rw [← Bool.not_eq_true, Bool.and_eq_true]
                  intro h; exact hyes ⟨h.1, by have := h.2; simp at this; omega⟩
                clear hyes
                cases hqe : eqOf dn cur
                · clear hq
                  go_wp2_with (at_builtin; refine wpList_append_sl _ rfl _ _ 23 rfl wr.heap.size 3 i0 (.int .i64 0) 1 8 encI_len encI_one Tryz.underlying23 hi hz0 hz1 hz2 rfl (by decide) _ _ _ rfl HO.out _ rfl HSL.out (by unfold maxLen; omega) (by omega) (by simp) ?_)
                  intro v4 w4 hown4 hgrow4
                  have hb4 : Below wr.heap.size wr w4 := Below.grown (one_alloc wr _) hgrow4 (by simp) (fun g hg => by simp [Value.ownBlock] at hg; omega)
                  try simp only [Nat.zero_add, List.nil_append] at hown4
                  obtain ⟨A4, c4, rfl, hc4⟩ := own_form hown4
                  have hS4 := Sl.of_own (enc := encI) encI_len hown4 rfl
                  have hz4 := hb4.size
                  replace hSe := hSe.below hb4 hBl
                  replace R := R.up hb4
                  replace O := O.up hb4
                  replace hb := hb.trans (hb4.mono (by omega))
                  clear hb4 hgrow4 hown4 hown HO HSL hSr hOl
                  have hOl := O.lt
                  have O0 := O.cell 0 _ rfl; have Of0 := O.frz 0; have O1 := O.cell 1 _ rfl; have Of1 := O.frz 1; have Olt := O.lt
                  go_wp2_with fail
                  go_roundw
                  case rel => exact ⟨i + 1, dn ++ [cur], [], ⟨e.ents, line⟩, [], w4.heap.size, Ae, ce, A4, c4, by omega, by go_num, HRS.out, by simp, by simp, by show e.ents.length ≤ _; omega, by show line.length ≤ _; omega, World.ownsRow_nil _ _ _ _, by omega, by rw [size_set]; exact Nat.le_refl _, ((hSe.more (by omega)).set_ (by simp) _), ((hS4.less (by omega)).set_ (by simp) _), HCAP.out, R.far (by simp) _, O.set (i := 1) (by simp) _, hb.setCell (by simp) _⟩
                  case measure => simp [intOf]; omega
                · rw [hqe, Bool.true_and] at hq
                  go_wp2_with (at_builtin; refine wpList_append_sl _ rfl _ _ 23 rfl wr.heap.size 3 i0 (.int .i64 0) 1 8 encI_len encI_one Tryz.underlying23 hi hz0 hz1 hz2 rfl (by decide) _ _ _ rfl HO.out _ rfl HSL.out (by unfold maxLen; omega) (by omega) (by simp) ?_)
                  intro v4 w4 hown4 hgrow4
                  have hb4 : Below wr.heap.size wr w4 := Below.grown (one_alloc wr _) hgrow4 (by simp) (fun g hg => by simp [Value.ownBlock] at hg; omega)
                  try simp only [Nat.zero_add, List.nil_append] at hown4
                  obtain ⟨A4, c4, rfl, hc4⟩ := own_form hown4
                  have hS4 := Sl.of_own (enc := encI) encI_len hown4 rfl
                  have hz4 := hb4.size
                  replace hSe := hSe.below hb4 hBl
                  replace R := R.up hb4
                  replace O := O.up hb4
                  replace hb := hb.trans (hb4.mono (by omega))
                  clear hb4 hgrow4 hown4 hown HO HSL hSr hOl
                  have hOl := O.lt
                  have O0 := O.cell 0 _ rfl; have Of0 := O.frz 0; have O1 := O.cell 1 _ rfl; have Of1 := O.frz 1; have Olt := O.lt
                  go_wp2_with fail
                  go_roundw
                  case rel => exact ⟨i + 1, dn ++ [cur], [], ⟨e.ents, line⟩, [], w4.heap.size, Ae, ce, A4, c4, by omega, by go_num, HRS.out, by simp, by simp, by show e.ents.length ≤ _; omega, by show line.length ≤ _; omega, World.ownsRow_nil _ _ _ _, by omega, by rw [size_set]; exact Nat.le_refl _, ((hSe.more (by omega)).set_ (by simp) _), ((hS4.less (by omega)).set_ (by simp) _), HCAP.out, R.far (by simp) _, O.set (i := 1) (by simp) _, hb.setCell (by simp) _⟩
                  case measure => simp [intOf]; omega
          · have HRS := Lib.hid (hrs.other hc hd h114 h10)
            have e1 : ((c.toNat : Int) == 114) = false := by
              have : c.toNat ≠ 114 := fun e => h114 (UInt8.toNat_inj.1 e)
              simp; omega
            have e2 : ((c.toNat : Int) != 10) = true := by
              have : c.toNat ≠ 10 := fun e => h10 (UInt8.toNat_inj.1 e)
              simp; omega
            clear hrs hc hd h114 h10
            by_cases h48 : (48 : Int) ≤ c.toNat
            · have h57 : (57 : Int) < c.toNat := by omega
              clear hnd
              go_wp2_with fail
              go_roundw
              case rel => exact ⟨i + 1, dn, cur ++ [c], e, line, Bl, Ae, ce, Ar, cr, by omega, by go_num, HRS.out, HLB.out, by omega, by omega, by omega, hown, hB0, hBl, hSe, hSr, HCAP.out, R, O, hb⟩
              case measure => simp [intOf]; omega
            · clear hnd
              go_wp2_with fail
              go_roundw
              case rel => exact ⟨i + 1, dn, cur ++ [c], e, line, Bl, Ae, ce, Ar, cr, by omega, by go_num, HRS.out, HLB.out, by omega, by omega, by omega, hown, hB0, hBl, hSe, hSr, HCAP.out, R, O, hb⟩
              case measure => simp [intOf]; omega
      · obtain ⟨d1, d2⟩ := (isDigB_iff c).1 hd
        have d1' : (48 : Int) ≤ c.toNat := by omega
        have d2' : (c.toNat : Int) ≤ 57 := by omega
        have e1 : ((c.toNat : Int) == 114) = false := by simp; omega
        have e2 : ((c.toNat : Int) != 10) = true := by simp; omega
        cases hpd : pdOf cur
        · -- a number begins
          have HRS : Hid (RS s (i + 1) dn (cur ++ [c]) e (line ++ [addDig 0 c])) := hrs.digit_new hc hd hpd
          have HLB' : Hid (∀ x ∈ line ++ [addDig 0 c], 0 ≤ x ∧ x ≤ 100000) := fun x hx => by
            rcases List.mem_append.1 hx with h | h
            · exact HLB.out x h
            · simp at h; subst h; exact addDig_bound (Int.le_refl _) hd
          obtain ⟨W1, hW1⟩ : ∃ W1, W1 = wr := ⟨_, rfl⟩
          have hprev : i = 0 ∨ ∃ j d, i = j + 1 ∧ s[j]? = some d ∧ ¬ (48 ≤ d.toNat ∧ d.toNat ≤ 57) := by
            rcases Nat.eq_zero_or_pos i with h0 | h0
            · exact .inl h0
            · obtain ⟨j, rfl⟩ : ∃ j, i = j + 1 := ⟨i - 1, by omega⟩
              have hj : j < s.length := by omega
              refine .inr ⟨j, s[j], rfl, List.getElem?_eq_getElem hj, fun h' => ?_⟩
              have := hrs.pd (List.getElem?_eq_getElem hj)
              rw [hpd] at this
              have h2 := (isDigB_iff s[j]).2 h'
              rw [h2] at this; cases this
          clear hW1 W1 hrs hc hd hpd
          rcases hprev with rfl | ⟨j, d, rfl, hdj, hnd⟩
          · obtain ⟨o, ho⟩ : ∃ o, o = line := ⟨_, rfl⟩
            subst ho
            simp only [Int.ofNat_zero, Int.natCast_zero]
            go_wp2_with (at_builtin; refine wpList_append_own _ rfl _ _ 23 rfl Bl 3 i0 (.int .i64 0) 1 8 Tryz.underlying23 hi hz0 hz1 hz2 rfl (by decide) _ _ _ rfl (hown.alloc _) ⟨wr.heap.size, 0, none⟩ 1 1 [.int .i64 0] rfl rfl (cell_list_at rfl _ _) (by simp [Value.oneCell']) (by unfold maxLen; omega) (by omega) (by simp; omega) ?_)
            · intro v' w4 hown' hgrow _
              have hb4 : Below Bl wr w4 := Below.grown ((one_alloc wr _).mono hBl) hgrow (by simp; omega) (fun g hg => (hown.lt g hg).1)
              clear hgrow hown
              replace hb := hb.trans (hb4.mono (by omega))
              replace O := O.keepD hb4 (by omega)
              replace R := R.keepD hb4 (by omega)
              replace hSe := hSe.below hb4 (Nat.le_refl _)
              replace hSr := hSr.below hb4 (Nat.le_refl _)
              have hB4 : Bl ≤ w4.heap.size := Nat.le_trans hBl hb4.size
              clear hb4 hBl hOl hcv
              have hown : w4.ownsRow Bl 3 1 v' (o.length + 1) ((o ++ [0]).flatMap encI) := by rw [List.flatMap_append]; exact hown'
              clear hown'
              obtain ⟨g, cq, hv⟩ := ownsRow_succ hown
              subst hv
              have hf : ((o ++ [0]).flatMap encI)[o.length]? = some (.int .i64 0) := by
                have := flat_at encI_len (o ++ [0]) o.length 0 0 _ (by simp) rfl
                rwa [Nat.mul_one, Nat.add_zero] at this
              have hcz : w4.cell? ⟨g, o.length, none⟩ = some (.int .i64 0) := (hown.cellAt _ (by omega)).trans hf
              have hfz : w4.frozen? ⟨g, o.length, none⟩ = false := hown.frozenAt _
              clear hf
              have hgl := hown.lt g rfl
              have hst := hown.stored o.length (.int .i64 (mnI (10 * 0 + ((c.toNat : Int) - 48)) 100000))
              rw [flat_setI] at hst
              have HST := Lib.hid hst.1; clear hst
              have i0' : (0 : Int) ≤ (o.length : Int) := by omega
              have i1' : (o.length : Int) < (o.length : Int) + 1 := by omega
              have k2 : IntKind.i64.wrap ((o.length : Int) + 1 - 1) = (o.length : Int) := by rw [show (o.length : Int) + 1 - 1 = (o.length : Int) by omega]; exact IntWalk.i64_in _ (by omega)
              have k3 : IntKind.i64.wrap (o.length : Int) = (o.length : Int) := IntWalk.i64_in _ (by omega)
              have k4 : IntKind.i64.wrap (10 * 0) = 10 * 0 := IntWalk.i64_in _ (by omega)
              have k5 : IntKind.i64.wrap ((c.toNat : Int) - 48) = (c.toNat : Int) - 48 := IntWalk.i64_in _ (by omega)
              have k6 : IntKind.i64.wrap (10 * 0 + ((c.toNat : Int) - 48)) = 10 * 0 + ((c.toNat : Int) - 48) := IntWalk.i64_in _ (by omega)
              clear hown
              go_wp2_with fail
              go_still_tail 19, (by kernel_rfl)
              change wpList _ _ _ _ _ w4.drew
              go_wp2_with fail
              go_roundw
              case rel => exact ⟨0 + 1, dn, cur ++ [c], e, o ++ [addDig 0 c], Bl, Ae, ce, Ar, cr, by omega, by go_num, HRS.out, HLB'.out, by rw [List.length_append]; simp only [List.length_cons, List.length_nil]; omega, by omega, by omega, by have h2 := HST.out; rw [addDig_mn]; simp at h2 ⊢; exact h2, hB0, by show Bl ≤ (World.setCell w4 _ _).heap.size; rw [size_set]; omega, hSe.set_up hgl.1 _, hSr.set_up hgl.1 _, HCAP.out, (R.far (by simp; omega) _).up (Below.drew (Below.refl _ _)), (O.far (by simp; omega) _).up (Below.drew (Below.refl _ _)), Below.drew (hb.setCell (by simp; omega) _)⟩
              case measure => simp [intOf]; omega
          · obtain ⟨o, ho⟩ : ∃ o, o = line := ⟨_, rfl⟩
            subst ho
            have hd0 : ∀ h, (ByteArray.mk s.toArray)[j]'h = d := fun h => (List.getElem?_eq_some_iff.1 hdj).2
            have hj : j < s.length := by omega
            clear hdj
            have hj0 : ((j : Int) + 1 == 0) = false := by simp; omega
            have p0 : (0 : Int) ≤ (j : Int) + 1 := by omega
            have p1 : (j : Int) + 1 < (s.length : Int) := by omega
            have p3 : ((j : Int) + 1).toNat = j + 1 := by omega
            by_cases h48 : (48 : Int) ≤ d.toNat
            · have h57 : (57 : Int) < d.toNat := by omega
              have t1 : decide ((d.toNat : Int) < 48) = false := decide_eq_false (by omega)
              have t2 : decide ((57 : Int) < d.toNat) = true := decide_eq_true h57
              clear hnd
              go_wp2_with (at_builtin; refine wpList_append_own _ rfl _ _ 23 rfl Bl 3 i0 (.int .i64 0) 1 8 Tryz.underlying23 hi hz0 hz1 hz2 rfl (by decide) _ _ _ rfl (hown.alloc _) ⟨wr.heap.size, 0, none⟩ 1 1 [.int .i64 0] rfl rfl (cell_list_at rfl _ _) (by simp [Value.oneCell']) (by unfold maxLen; omega) (by omega) (by simp; omega) ?_)
              · intro v' w4 hown' hgrow _
                have hb4 : Below Bl wr w4 := Below.grown ((one_alloc wr _).mono hBl) hgrow (by simp; omega) (fun g hg => (hown.lt g hg).1)
                clear hgrow hown
                replace hb := hb.trans (hb4.mono (by omega))
                replace O := O.keepD hb4 (by omega)
                replace R := R.keepD hb4 (by omega)
                replace hSe := hSe.below hb4 (Nat.le_refl _)
                replace hSr := hSr.below hb4 (Nat.le_refl _)
                have hB4 : Bl ≤ w4.heap.size := Nat.le_trans hBl hb4.size
                clear hb4 hBl hOl hcv
                have hown : w4.ownsRow Bl 3 1 v' (o.length + 1) ((o ++ [0]).flatMap encI) := by rw [List.flatMap_append]; exact hown'
                clear hown'
                obtain ⟨g, cq, hv⟩ := ownsRow_succ hown
                subst hv
                have hf : ((o ++ [0]).flatMap encI)[o.length]? = some (.int .i64 0) := by
                  have := flat_at encI_len (o ++ [0]) o.length 0 0 _ (by simp) rfl
                  rwa [Nat.mul_one, Nat.add_zero] at this
                have hcz : w4.cell? ⟨g, o.length, none⟩ = some (.int .i64 0) := (hown.cellAt _ (by omega)).trans hf
                have hfz : w4.frozen? ⟨g, o.length, none⟩ = false := hown.frozenAt _
                clear hf
                have hgl := hown.lt g rfl
                have hst := hown.stored o.length (.int .i64 (mnI (10 * 0 + ((c.toNat : Int) - 48)) 100000))
                rw [flat_setI] at hst
                have HST := Lib.hid hst.1; clear hst
                have i0' : (0 : Int) ≤ (o.length : Int) := by omega
                have i1' : (o.length : Int) < (o.length : Int) + 1 := by omega
                have k2 : IntKind.i64.wrap ((o.length : Int) + 1 - 1) = (o.length : Int) := by rw [show (o.length : Int) + 1 - 1 = (o.length : Int) by omega]; exact IntWalk.i64_in _ (by omega)
                have k3 : IntKind.i64.wrap (o.length : Int) = (o.length : Int) := IntWalk.i64_in _ (by omega)
                have k4 : IntKind.i64.wrap (10 * 0) = 10 * 0 := IntWalk.i64_in _ (by omega)
                have k5 : IntKind.i64.wrap ((c.toNat : Int) - 48) = (c.toNat : Int) - 48 := IntWalk.i64_in _ (by omega)
                have k6 : IntKind.i64.wrap (10 * 0 + ((c.toNat : Int) - 48)) = 10 * 0 + ((c.toNat : Int) - 48) := IntWalk.i64_in _ (by omega)
                clear hown
                go_wp2_with fail
                go_still_tail 19, (by kernel_rfl)
                change wpList _ _ _ _ _ w4.drew
                go_wp2_with fail
                go_roundw
                case rel => exact ⟨(j + 1) + 1, dn, cur ++ [c], e, o ++ [addDig 0 c], Bl, Ae, ce, Ar, cr, by omega, by go_num, HRS.out, HLB'.out, by rw [List.length_append]; simp only [List.length_cons, List.length_nil]; omega, by omega, by omega, by have h2 := HST.out; rw [addDig_mn]; simp at h2 ⊢; exact h2, hB0, by show Bl ≤ (World.setCell w4 _ _).heap.size; rw [size_set]; omega, hSe.set_up hgl.1 _, hSr.set_up hgl.1 _, HCAP.out, (R.far (by simp; omega) _).up (Below.drew (Below.refl _ _)), (O.far (by simp; omega) _).up (Below.drew (Below.refl _ _)), Below.drew (hb.setCell (by simp; omega) _)⟩
                case measure => simp [intOf]; omega
            · have t1 : decide ((d.toNat : Int) < 48) = true := decide_eq_true (by omega)
              clear hnd
              go_wp2_with (at_builtin; refine wpList_append_own _ rfl _ _ 23 rfl Bl 3 i0 (.int .i64 0) 1 8 Tryz.underlying23 hi hz0 hz1 hz2 rfl (by decide) _ _ _ rfl (hown.alloc _) ⟨wr.heap.size, 0, none⟩ 1 1 [.int .i64 0] rfl rfl (cell_list_at rfl _ _) (by simp [Value.oneCell']) (by unfold maxLen; omega) (by omega) (by simp; omega) ?_)
              · intro v' w4 hown' hgrow _
                have hb4 : Below Bl wr w4 := Below.grown ((one_alloc wr _).mono hBl) hgrow (by simp; omega) (fun g hg => (hown.lt g hg).1)
                clear hgrow hown
                replace hb := hb.trans (hb4.mono (by omega))
                replace O := O.keepD hb4 (by omega)
                replace R := R.keepD hb4 (by omega)
                replace hSe := hSe.below hb4 (Nat.le_refl _)
                replace hSr := hSr.below hb4 (Nat.le_refl _)
                have hB4 : Bl ≤ w4.heap.size := Nat.le_trans hBl hb4.size
                clear hb4 hBl hOl hcv
                have hown : w4.ownsRow Bl 3 1 v' (o.length + 1) ((o ++ [0]).flatMap encI) := by rw [List.flatMap_append]; exact hown'
                clear hown'
                obtain ⟨g, cq, hv⟩ := ownsRow_succ hown
                subst hv
                have hf : ((o ++ [0]).flatMap encI)[o.length]? = some (.int .i64 0) := by
                  have := flat_at encI_len (o ++ [0]) o.length 0 0 _ (by simp) rfl
                  rwa [Nat.mul_one, Nat.add_zero] at this
                have hcz : w4.cell? ⟨g, o.length, none⟩ = some (.int .i64 0) := (hown.cellAt _ (by omega)).trans hf
                have hfz : w4.frozen? ⟨g, o.length, none⟩ = false := hown.frozenAt _
                clear hf
                have hgl := hown.lt g rfl
                have hst := hown.stored o.length (.int .i64 (mnI (10 * 0 + ((c.toNat : Int) - 48)) 100000))
                rw [flat_setI] at hst
                have HST := Lib.hid hst.1; clear hst
                have i0' : (0 : Int) ≤ (o.length : Int) := by omega
                have i1' : (o.length : Int) < (o.length : Int) + 1 := by omega
                have k2 : IntKind.i64.wrap ((o.length : Int) + 1 - 1) = (o.length : Int) := by rw [show (o.length : Int) + 1 - 1 = (o.length : Int) by omega]; exact IntWalk.i64_in _ (by omega)
                have k3 : IntKind.i64.wrap (o.length : Int) = (o.length : Int) := IntWalk.i64_in _ (by omega)
                have k4 : IntKind.i64.wrap (10 * 0) = 10 * 0 := IntWalk.i64_in _ (by omega)
                have k5 : IntKind.i64.wrap ((c.toNat : Int) - 48) = (c.toNat : Int) - 48 := IntWalk.i64_in _ (by omega)
                have k6 : IntKind.i64.wrap (10 * 0 + ((c.toNat : Int) - 48)) = 10 * 0 + ((c.toNat : Int) - 48) := IntWalk.i64_in _ (by omega)
                clear hown
                go_wp2_with fail
                go_still_tail 19, (by kernel_rfl)
                change wpList _ _ _ _ _ w4.drew
                go_wp2_with fail
                go_roundw
                case rel => exact ⟨(j + 1) + 1, dn, cur ++ [c], e, o ++ [addDig 0 c], Bl, Ae, ce, Ar, cr, by omega, by go_num, HRS.out, HLB'.out, by rw [List.length_append]; simp only [List.length_cons, List.length_nil]; omega, by omega, by omega, by have h2 := HST.out; rw [addDig_mn]; simp at h2 ⊢; exact h2, hB0, by show Bl ≤ (World.setCell w4 _ _).heap.size; rw [size_set]; omega, hSe.set_up hgl.1 _, hSr.set_up hgl.1 _, HCAP.out, (R.far (by simp; omega) _).up (Below.drew (Below.refl _ _)), (O.far (by simp; omega) _).up (Below.drew (Below.refl _ _)), Below.drew (hb.setCell (by simp; omega) _)⟩
                case measure => simp [intOf]; omega
        · -- a number goes on
          have hne := nums_ne hpd
          rw [← hrs.nums] at hne
          obtain ⟨o, z, rfl⟩ : ∃ o z, line = o ++ [z] := by
            rcases List.eq_nil_or_concat line with h | ⟨o, z, h⟩
            · exact absurd h hne
            · exact ⟨o, z, by rw [h, List.concat_eq_append]⟩
          have HRS : Hid (RS s (i + 1) dn (cur ++ [c]) e (o ++ [addDig z c])) := by show RS _ _ _ _ _ _; have := hrs.digit_more hc hd hpd; simpa using this
          have hz := HLB.out z (by simp)
          have HLB' : Hid (∀ x ∈ o ++ [addDig z c], 0 ≤ x ∧ x ≤ 100000) := fun x hx => by
            rcases List.mem_append.1 hx with h | h
            · exact HLB.out x (by simp [h])
            · simp at h; subst h; exact addDig_bound hz.1 hd
          obtain ⟨j, rfl⟩ : ∃ j, i = j + 1 := ⟨i - 1, by
            rcases Nat.eq_zero_or_pos i with h0 | h0
            · subst h0; rw [hrs.pd0] at hpd; cases hpd
            · omega⟩
          have hj : j < s.length := by omega
          obtain ⟨d, hdj⟩ : ∃ d, s[j]? = some d := ⟨s[j], List.getElem?_eq_getElem hj⟩
          have hdd := hrs.pd hdj
          rw [hpd] at hdd
          obtain ⟨d3, d4⟩ := (isDigB_iff d).1 hdd.symm
          have d3' : (48 : Int) ≤ d.toNat := by omega
          have d4' : (d.toNat : Int) ≤ 57 := by omega
          have hd0 : ∀ h, (ByteArray.mk s.toArray)[j]'h = d := fun h => (List.getElem?_eq_some_iff.1 hdj).2
          have hlen' : (o ++ [z]).length = o.length + 1 := by simp
          rw [hlen'] at hown hll
          clear hrs hc hd hpd hdd hdj hne
          obtain ⟨g, cq, hv⟩ := ownsRow_succ hown
          injection hv with hv1 hv2 hv3
          subst hv1
          subst hv3
          obtain ⟨hz1', hz2'⟩ := hz
          have hj0 : ((j : Int) + 1 == 0) = false := by simp; omega
          have p0 : (0 : Int) ≤ (j : Int) + 1 := by omega
          have p1 : (j : Int) + 1 < (s.length : Int) := by omega
          have p3 : ((j : Int) + 1).toNat = j + 1 := by omega
          have t1 : decide ((d.toNat : Int) < 48) = false := decide_eq_false (by omega)
          have t2 : decide ((57 : Int) < d.toNat) = false := decide_eq_false (by omega)
          have hf : ((o ++ [z]).flatMap encI)[o.length]? = some (.int .i64 z) := by
            have := flat_at encI_len (o ++ [z]) o.length z 0 _ (by simp) rfl
            rwa [Nat.mul_one, Nat.add_zero] at this
          have hcz : wr.cell? ⟨g, o.length, none⟩ = some (.int .i64 z) := (hown.cellAt _ (by omega)).trans hf
          have hfz : wr.frozen? ⟨g, o.length, none⟩ = false := hown.frozenAt _
          clear hf
          have hgl := hown.lt g rfl
          have hst := hown.stored o.length (.int .i64 (mnI (10 * z + ((c.toNat : Int) - 48)) 100000))
          rw [flat_setI] at hst
          have HST := Lib.hid hst.1; clear hst
          have i0' : (0 : Int) ≤ (o.length : Int) := by omega
          have i1' : (o.length : Int) < (o.length : Int) + 1 := by omega
          have k2 : IntKind.i64.wrap ((o.length : Int) + 1 - 1) = (o.length : Int) := by rw [show (o.length : Int) + 1 - 1 = (o.length : Int) by omega]; exact IntWalk.i64_in _ (by omega)
          have k3 : IntKind.i64.wrap (o.length : Int) = (o.length : Int) := IntWalk.i64_in _ (by omega)
          have k4 : IntKind.i64.wrap (10 * z) = 10 * z := IntWalk.i64_in _ (by omega)
          have k5 : IntKind.i64.wrap ((c.toNat : Int) - 48) = (c.toNat : Int) - 48 := IntWalk.i64_in _ (by omega)
          have k6 : IntKind.i64.wrap (10 * z + ((c.toNat : Int) - 48)) = 10 * z + ((c.toNat : Int) - 48) := IntWalk.i64_in _ (by omega)
          clear hown
          go_wp2_with fail
          go_still_tail 19, (by kernel_rfl)
          change wpList _ _ _ _ _ wr.drew
          go_wp2_with fail
          go_roundw
          case rel => exact ⟨(j + 1) + 1, dn, cur ++ [c], e, o ++ [addDig z c], Bl, Ae, ce, Ar, cr, by omega, by go_num, HRS.out, HLB'.out, by rw [List.length_append]; simp only [List.length_cons, List.length_nil]; omega, by omega, by omega, by have h2 := HST.out; rw [addDig_mn]; simp at h2 ⊢; exact h2, hB0, by show Bl ≤ (World.setCell wr _ _).heap.size; rw [size_set]; omega, hSe.set_up hgl.1 _, hSr.set_up hgl.1 _, HCAP.out, (R.far (by simp; omega) _).up (Below.drew (Below.refl _ _)), (O.far (by simp; omega) _).up (Below.drew (Below.refl _ _)), Below.drew (hb.setCell (by simp; omega) _)⟩
          case measure => simp [intOf]; omega
    · obtain rfl : i = s.length := by omega
      have hf := hrs.fin
      have HT : Hid ((IsText s e ∧ ∀ e', IsText s e' → e' = e) ∨ ((∀ e', ¬ IsText s e') ∧ ¬ IsText s e)) := by show _ ∨ _; rw [← hf]; exact ref_parse s
      have hUE : ∀ W, Below wr.heap.size wr W → EdS W Ae e.ents.length Ar e.ret.length e := fun W hW => ⟨(hSe.below hW hBl).any.more (Nat.le_trans hBl hW.size), (hSr.below hW hBl).any.more (Nat.le_trans hBl hW.size)⟩
      have HUE := Lib.hid hUE; clear hUE
      have hn1 : e.ents.length ≤ 1000000 := by omega
      have hn2 : e.ret.length ≤ 1000000 := by omega
      clear hf hrs
      have O0 := O.cell 0 _ rfl; have O1 := O.cell 1 _ rfl; have Olt := O.lt
      go_wp2_with fail
      refine (rvalid_any Ae _ ce Ar _ cr e _ hn1 hn2 (HUE.out _ (Below.refl _ _))).mono ?_; rintro r w2 ⟨rfl, hb2⟩
      have hbw2 : Below wr.heap.size wr w2 := hb2
      (replace hb := hb.trans (hb2.mono hb.size)); replace R := R.up hb2; replace O := O.up hb2; clear hb2; (try clear R0); (try clear R1); (try clear Rf0); (try clear Rf1); (try clear Rlt); (try clear O0); (try clear O1); (try clear Of0); (try clear Of1); (try clear Olt)
      by_cases hv : ¬ validE e
      · have HN : Hid (∀ e', ¬ ParOk s e') := fun e' he' => by
          rcases HT.out with ⟨h1, _⟩ | ⟨h1, _⟩
          · exact hv h1.1
          · exact h1 e' he'.1
        rw [decide_eq_false hv]
        clear hv
        have R0 := R.cell 0 _ rfl; have Rf0 := R.frz 0; have R1 := R.cell 1 _ rfl; have Rf1 := R.frz 1; have Rlt := R.lt
        go_wp2_with fail
        refine bodyPost_ret (v := .tuple #[.agg #[.slice none 0 0, .slice none 0 0], .int .i64 3]) (by simp [results, Tryz.results29, go_sem, (R.all2 _ _).cell 0 _ rfl, (R.all2 _ _).cell 1 _ rfl]) rfl ?_
        exact ⟨.inr ⟨HN.out, by rw [HC.out]⟩, below_set2 hb (Nat.le_refl _) _ _⟩
      replace hv := Classical.not_not.1 hv
      rw [decide_eq_true hv]
      have HV := Lib.hid hv; clear hv
      have O0 := O.cell 0 _ rfl; have O1 := O.cell 1 _ rfl; have Olt := O.lt
      go_wp2_with fail
      refine (rtext_any Ae _ ce Ar _ cr e _ hn1 hn2 (HUE.out _ hbw2)).mono ?_; rintro r w3 ⟨rfl, hb3⟩
      have hbw3 : Below wr.heap.size wr w3 := hbw2.trans (hb3.mono hbw2.size)
      (replace hb := hb.trans (hb3.mono hb.size)); replace R := R.up hb3; replace O := O.up hb3; clear hb3; (try clear R0); (try clear R1); (try clear Rf0); (try clear Rf1); (try clear Rlt); (try clear O0); (try clear O1); (try clear Of0); (try clear Of1); (try clear Olt)
      clear hbw2
      cases ht : (textE e == s)
      · have HN : Hid (∀ e', ¬ ParOk s e') := fun e' he' => by
          rcases HT.out with ⟨h1, _⟩ | ⟨h1, _⟩
          · have h2 := h1.2
            rw [h2] at ht
            simp at ht
          · exact h1 e' he'.1
        have R0 := R.cell 0 _ rfl; have Rf0 := R.frz 0; have R1 := R.cell 1 _ rfl; have Rf1 := R.frz 1; have Rlt := R.lt
        go_wp2_with fail
        refine bodyPost_ret (v := .tuple #[.agg #[.slice none 0 0, .slice none 0 0], .int .i64 3]) (by simp [results, Tryz.results29, go_sem, (R.all2 _ _).cell 0 _ rfl, (R.all2 _ _).cell 1 _ rfl]) rfl ?_
        exact ⟨.inr ⟨HN.out, by rw [HC.out]⟩, below_set2 hb (Nat.le_refl _) _ _⟩
      · have HY : Hid (ParOk s e) := ⟨⟨HV.out, by simpa using ht⟩, hl⟩
        have R0 := R.cell 0 _ rfl; have Rf0 := R.frz 0; have R1 := R.cell 1 _ rfl; have Rf1 := R.frz 1; have Rlt := R.lt
        have O0 := O.cell 0 _ rfl; have O1 := O.cell 1 _ rfl; have Olt := O.lt
        go_wp2_with fail
        refine bodyPost_ret (v := .tuple #[.agg #[.slice Ae e.ents.length ce, .slice Ar e.ret.length cr], .int .i64 0]) (by simp [results, Tryz.results29, go_sem, (R.all2 _ _).cell 0 _ rfl, (R.all2 _ _).cell 1 _ rfl]) rfl ?_
        refine ⟨.inl ⟨e, HY.out, _, _, _, _, _, _, rfl, ?_, ?_⟩, below_set2 hb (Nat.le_refl _) _ _⟩
        · exact (((hSe.below hbw3 hBl).set_ (by simp) _).set_ (by simp) _).any.more (by simp only [size_set]; exact Nat.le_trans hBl hbw3.size)
        · exact (((hSr.below hbw3 hBl).set_ (by simp) _).set_ (by simp) _).any.more (by simp only [size_set]; exact Nat.le_trans hBl hbw3.size)
end Go.Proofs.YtfanjghfilkhmaaGreatDoor
