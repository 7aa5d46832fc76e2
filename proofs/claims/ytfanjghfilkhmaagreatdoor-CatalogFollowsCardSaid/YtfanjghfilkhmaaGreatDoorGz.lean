/- The iterator of strings.Lines: it writes its own cell between the rounds (chapter 47). -/
import Derived.Test.YtfanjghfilkhmaaGreatDoorGv
import Derived.Test.YtfanjghfilkhmaaGreatDoorEj
import Derived.OrdersIn
import Derived.Orders
import Derived.Deep.RegionHeld
import Derived.Test.YtfanjghfilkhmaaGreatDoorEl
import Derived.Lib.SplitLaws
import Derived.IntWalk
import Derived.StillTailTactics
import Derived.RegionTactic
set_option linter.unusedSimpArgs false
set_option linter.unusedVariables false
namespace Go.Proofs.YtfanjghfilkhmaaGreatDoor
open Go.RowKit

section
variable {P : Program} {ops : Array Oper} {Q : Exit → Act → World → Prop} {l n : Nat}
/-- A contract serves within a round too. -/
theorem callsR {f : FuncId} {args : Array Value} {w : World} {R : Ending → World → Prop} (h : Calls P f args w R) : CallsIn (Fence.wide.inRound l) n P f args w R := callsIn_wide.2 h
theorem rowsR {row : String} {args : Array Value} {w : World} {R : Value → World → Prop} (h : Rows P row args w R) : RowsIn (Fence.wide.inRound l) n P row args w R :=
  fun c cs _ => let ⟨v, w', r, s⟩ := h c cs; ⟨v, w', r, stepsIn_wide.2 s⟩
theorem opR {o : Oper} {a : Act} {w : World} {K K' : Act → World → Prop} (hd : ∀ c, o.op ≠ .defer c) (hK : ∀ a w, K a w → K' a w) (h : o.wp P a w K Q) : o.wpIn (Fence.wide.inRound l) n P a w K' Q := by
  refine ⟨fun _ _ => trivial, ?_⟩
  rw [Oper.semAt_eq _ _ _ hd]
  have h' := h
  unfold Oper.wp at h'
  generalize (execOp a.eval o).run P w = r at *
  cases r with
  | ok x w' =>
    cases x <;> simp only [Oper.upon, Oper.uponIn] at h' ⊢ <;>
      first
        | exact hK _ _ h'
        | exact ⟨fun hh => absurd hh (by simp [Fence.wide, Fence.inRound]), callsR (Calls.mono h' (fun e w'' he => by cases e <;> first | exact hK _ _ he | exact he))⟩
        | exact ⟨fun hh => absurd hh (by simp [Fence.wide, Fence.inRound]), rowsR (Rows.mono h' (fun _ _ he => hK _ _ he))⟩
        | exact h'.elim
  | halt x w' => cases x <;> simp only [Oper.upon, Oper.uponIn] at h' ⊢ <;> exact h'
theorem opsR {i : Nat} {a : Act} {w : World} {K K' : Act → World → Prop} (hd : ∀ (j : Nat) (o : Oper), ops[j]? = some o → ∀ c : Call, o.op ≠ Op.defer c) (hQ : ¬ LetsOut Q) (hK : ∀ a w, K a w → K' a w) (h : wpOp P ops Q i K a w) : wpOpIn (Fence.wide.inRound l) n P ops Q i K' a w := by
  unfold wpOp at h
  unfold wpOpIn
  cases ho : ops[i]? with
  | none => rw [ho] at h; exact hK _ _ h
  | some o =>
    rw [ho] at h
    simp only at h ⊢
    split
    · rename_i hw
      rw [if_pos hw] at h
      rcases h with h | h
      · exact opR (hd i o ho) hK h
      · exact absurd h.2 hQ
    · rename_i hw
      rw [if_neg hw] at h
      exact ⟨fun _ _ => trivial, hK _ _ h⟩
theorem anyR {md : Region.Mode} (hd : ∀ (j : Nat) (o : Oper), ops[j]? = some o → ∀ c : Call, o.op ≠ Op.defer c) (hQ : ¬ LetsOut Q) : ∀ (fuel : Nat) (listed : Array Bool) (a : Act) (w : World), wpAny P md ops Q fuel listed a w → wpAnyIn (Fence.wide.inRound l) n P md ops Q fuel listed a w
  | 0, _, _, _, h => h
  | fuel + 1, _, _, _, h => ⟨h.1, fun i hi => opsR hd hQ (fun a' w' h' => anyR hd hQ fuel _ a' w' h') (h.2 i hi)⟩
/-- A region that draws its order, within a round. -/
theorem regionR {id : Nat} {a : Act} {w : World} (hm : P.follows .mixedOrders = true) (hd : ∀ (j : Nat) (o : Oper), ops[j]? = some o → ∀ c : Call, o.op ≠ Op.defer c) (hQ : ¬ LetsOut Q)
    (h : wpAny P .any ops Q ops.size (Array.replicate ops.size false) a w.drew) : (Code.region id ops true).wpIn (Fence.wide.inRound l) n P Q a w :=
  wpIn_region_any hm (anyR hd hQ _ _ _ _ h)
end

/-! ### number -/
end Go.Proofs.YtfanjghfilkhmaaGreatDoor
set_option linter.unusedSimpArgs false
set_option linter.unusedVariables false
namespace Go.Proofs.YtfanjghfilkhmaaGreatDoor
open Go.RowKit

theorem pnum_any (l : List UInt8) (w : World) (hs : l.length ≤ 100000) (hE : Env w) :
    Calls Tryz.prog 61 #[.string ⟨l.toArray⟩] w fun e w' => e = .returned (.int .i64 (numL l)) ∧ Below w.heap.size w w' := by
  by_cases hv : ∃ v, Lib.atoiAll l = .ok v
  · obtain ⟨v, hv⟩ := hv
    have HN := Lib.hid (numL_ok hv)
    have HV := Lib.hid hv; clear hv
    rw [HN.out]
    go_enter Tryz.func61, Tryz.ntmps61
    go_wp2_with (go_at_call 80; refine (atoi_ok ⟨l.toArray⟩ v _ (by rw [size_mk']; omega) HV.out).mono ?_; rintro e w' ⟨rfl, hb⟩)
    go_ret
    exact ⟨rfl, hb⟩
  · have hv' : ∀ v, Lib.atoiAll l ≠ .ok v := fun v h => hv ⟨v, h⟩
    have hn0 : numL l = 0 := by
      unfold numL
      cases h : Lib.atoiAll l
      · exact absurd h (hv' _)
      · rfl
      · rfl
    have HN := Lib.hid hn0; clear hn0
    have HV := Lib.hid hv'; clear hv' hv
    rw [HN.out]
    go_enter Tryz.func61, Tryz.ntmps61
    go_wp2_with fail
    refine (atoi_err ⟨l.toArray⟩ _ (by rw [size_mk']; omega) HV.out hE).mono ?_
    rintro e w1 ⟨⟨k, te, pv, rfl⟩, hb⟩
    go_wp2_with fail
    go_ret
    exact ⟨rfl, hb⟩

def encStr (x : List UInt8) : List Value := [.string ⟨x.toArray⟩]
theorem encStr_len (x : List UInt8) : (encStr x).length = 1 := rfl
theorem splitB_words (c : UInt8) (l : List UInt8) : (Lib.splitB ⟨#[c]⟩ 0 (Lib.countB ⟨l.toArray⟩ ⟨#[c]⟩) ⟨l.toArray⟩).map (fun b => b.data.toList) = wordsL c l := by
  rw [Lib.splitB_data]
  exact split_one c l
theorem split_map (c : UInt8) (l : List UInt8) : (Lib.splitB ⟨#[c]⟩ 0 (Lib.countB ⟨l.toArray⟩ ⟨#[c]⟩) ⟨l.toArray⟩).map Value.string = (wordsL c l).flatMap encStr := by
  rw [← splitB_words c l]
  generalize Lib.splitB ⟨#[c]⟩ 0 (Lib.countB ⟨l.toArray⟩ ⟨#[c]⟩) ⟨l.toArray⟩ = L
  induction L with
  | nil => rfl
  | cons b L ih => simp [encStr, ih]
theorem split_any (c : UInt8) (l : List UInt8) (w : World) (hs : l.length ≤ 1000000) (hE : Env w) :
    Calls Tryz.prog 60 #[.string ⟨l.toArray⟩, .string ⟨#[c]⟩] w fun e w' => ∃ A cap, e = .returned (.slice A (wordsL c l).length cap) ∧ Sl w' w.heap.size w'.heap.size 1 encStr A (wordsL c l).length (wordsL c l) ∧ Below w.heap.size w w' := by
  obtain ⟨m, hm⟩ := hE.maxlen
  have hlen : Lib.countB ⟨l.toArray⟩ ⟨#[c]⟩ + 1 = (wordsL c l).length := by
    rw [← splitB_words c l, List.length_map, Lib.splitB_all ⟨#[c]⟩ (Nat.le_refl 1) 0 _ _ rfl]
  refine (Tryz.strings_Split ⟨l.toArray⟩ ⟨#[c]⟩ m w (by rw [size_mk']; omega) hm (Nat.le_refl 1)).mono ?_
  rintro e w' ⟨rfl, rfl⟩
  rw [hlen, split_map c l]
  refine ⟨_, _, rfl, ?_, (Below.refl _ _).alloc (Nat.le_refl _) _⟩
  refine ⟨rfl, fun _ => ⟨w.heap.size, 0, rfl, Nat.le_refl _, by simp, fun i x hx j u hu => ?_⟩⟩
  rw [World.cell?_alloc_new, Nat.zero_add]
  have := flat_at encStr_len (wordsL c l) i x j u hx hu
  simpa using this
theorem trims_any (l p : List UInt8) (w : World) (hs : l.length ≤ 1000000) :
    Calls Tryz.prog 58 #[.string ⟨l.toArray⟩, .string ⟨p.toArray⟩] w fun e w' => e = .returned (.string ⟨(Lib.trimSuffix l p).toArray⟩) ∧ w = w' :=
  (Tryz.strings_TrimSuffix ⟨l.toArray⟩ ⟨p.toArray⟩ w (by rw [size_mk']; omega)).mono fun e w' ⟨h1, h2⟩ => ⟨h1, h2.symm⟩
theorem trimS_len (l p : List UInt8) : (Lib.trimSuffix l p).length ≤ l.length := by
  unfold Lib.trimSuffix; split
  · rw [List.length_take]; omega
  · exact Nat.le_refl _
theorem wordsL_len (c : UInt8) : ∀ (l : List UInt8) (x : List UInt8), x ∈ wordsL c l → x.length ≤ l.length
  | [], x, h => by simp [wordsL] at h; subst h; simp
  | y :: l, x, h => by
    unfold wordsL at h
    have hn := wordsL_ne c l
    split at h
    · rcases List.mem_cons.1 h with rfl | h
      · simp
      · have := wordsL_len c l x h; simp; omega
    · split at h
      · rename_i h0; exact absurd h0 hn
      · rename_i z zs h0
        rcases List.mem_cons.1 h with rfl | h
        · have := wordsL_len c l z (by rw [h0]; simp); simp; omega
        · have := wordsL_len c l x (by rw [h0]; simp [h]); simp; omega
theorem cutPre_any (l p : List UInt8) (w : World) :
    Calls Tryz.prog 59 #[.string ⟨l.toArray⟩, .string ⟨p.toArray⟩] w fun e w' => e = .returned (.tuple #[.string ⟨(Lib.trimPrefix l p).toArray⟩, .bool (Lib.hasPrefix l p)]) ∧ w = w' :=
  (Tryz.strings_CutPrefix ⟨l.toArray⟩ ⟨p.toArray⟩ w).mono fun e w' ⟨h1, h2⟩ => ⟨h1, h2.symm⟩
theorem ibyte_any (l : List UInt8) (w : World) :
    Calls Tryz.prog 76 #[.string ⟨l.toArray⟩, .int .u8 10] w fun e w' => e = .returned (.int .i64 (Lib.indexByte l 10)) ∧ w = w' :=
  (Tryz.strings_IndexByte ⟨l.toArray⟩ 10 w).mono fun e w' ⟨h1, h2⟩ => ⟨h1, h2.symm⟩
set_option maxHeartbeats 1000000 in
theorem lines_any (s : List UInt8) (w : World) :
    Calls Tryz.prog 57 #[.string ⟨s.toArray⟩] w fun e w' => e = .returned (.func (.func 75) #[] #[.pointer (some ⟨w.heap.size, 0, none⟩)]) ∧ w' = w.alloc (.cells #[.string ⟨s.toArray⟩] 9) := by
  go_enter Tryz.func57, Tryz.ntmps57
  go_wp2_with fail
  go_ret
  exact ⟨rfl, rfl⟩
end Go.Proofs.YtfanjghfilkhmaaGreatDoor
set_option linter.unusedSimpArgs false
set_option linter.unusedVariables false
namespace Go.Proofs.YtfanjghfilkhmaaGreatDoor
open Go.RowKit Go.Shelf
attribute [local go_sem] Oper.semAt_some

theorem ibyte_no {r : List UInt8} (h : (10 : UInt8) ∉ r) : Lib.indexByte r 10 = -1 := by
  induction r with
  | nil => rfl
  | cons b r ih =>
    have hb : (b == 10) = false := by rw [beq_eq_false_iff_ne]; intro e; exact h (by rw [e]; simp)
    rw [Lib.indexByte, hb, ih (fun h' => h (by simp [h']))]
    rfl
theorem ibyte_cut (d r : List UInt8) (h : (10 : UInt8) ∉ d) : Lib.indexByte (d ++ 10 :: r) 10 = d.length := by
  induction d with
  | nil => rfl
  | cons b d ih =>
    have hb : (b == 10) = false := by rw [beq_eq_false_iff_ne]; intro e; exact h (by rw [e]; simp)
    rw [List.cons_append, Lib.indexByte, hb, ih (fun h' => h (by simp [h']))]
    have hne : ((d.length : Int) == -1) = false := by rw [beq_eq_false_iff_ne]; omega
    rw [hne]
    simp
theorem cut_at10 : ∀ {q : List UInt8}, (10 : UInt8) ∈ q → ∃ d r, q = d ++ 10 :: r ∧ (10 : UInt8) ∉ d
  | b :: q, h => by
    by_cases hb : b = 10
    · exact ⟨[], q, by rw [hb]; rfl, by simp⟩
    · obtain ⟨d, r, h1, h2⟩ := cut_at10 (q := q) (by
        rcases List.mem_cons.1 h with h | h
        · exact absurd h.symm hb
        · exact h)
      exact ⟨b :: d, r, by rw [h1]; rfl, by
        intro h'
        rcases List.mem_cons.1 h' with h' | h'
        · exact hb h'.symm
        · exact h2 h'⟩
/-- How much of the text is left. -/
def leftAt (Bs : Nat) (W : World) : Nat := match W.cell? ⟨Bs, 0, none⟩ with | some (.string b) => b.size | _ => 0
set_option maxRecDepth 100000 in
set_option maxHeartbeats 4000000 in
theorem lines1_in (n l Bs : Nat) (hn : 1 ≤ n) (s : List UInt8) (J : List (List UInt8) → World → Prop) (W : World) (hlen : s.length ≤ 100000)
    (hset : ∀ pre W v, J pre W → J pre (W.setCell ⟨Bs, 0, none⟩ v)) (hdrew : ∀ pre W, J pre W → J pre W.drew)
    (hY : ∀ pre x W q, (∃ r, linesT s = pre ++ x :: r) → J pre W → x.length ≤ s.length → W.cell? ⟨Bs, 0, none⟩ = some q → W.frozen? ⟨Bs, 0, none⟩ = false → YieldAt Fence.wide (n - 1) Tryz.prog l #[.string ⟨x.toArray⟩] W fun e W' =>
      e = .returned (.bool true) ∧ J (pre ++ [x]) W' ∧ W'.cell? ⟨Bs, 0, none⟩ = some q ∧ W'.frozen? ⟨Bs, 0, none⟩ = false)
    (hBs : W.cell? ⟨Bs, 0, none⟩ = some (.string ⟨s.toArray⟩)) (hfz : W.frozen? ⟨Bs, 0, none⟩ = false) (h0 : J [] W) :
    CallsIn Fence.wide n Tryz.prog 75 #[.func (.yield l) #[] #[], .pointer (some ⟨Bs, 0, none⟩)] W fun e W' => (∃ v, e = .returned v) ∧ J (linesT s) W' := by
  refine callsIn_of_wp Tryz.func75 rfl trivial ?_ rfl
  simp only [Tryz.ntmps75, List.size_toArray, List.length_cons, List.length_nil, Nat.reduceAdd, Nat.reduceSub, Array.replicate_succ, Array.replicate_zero, List.push_toArray, List.append_toArray, List.nil_append, List.cons_append]
  have HS := Lib.hid hset; clear hset
  have HD := Lib.hid hdrew; clear hdrew
  have HY := Lib.hid hY; clear hY
  gi_wp2
  gi_loopw [3] (fun i wr => ∃ (q : List UInt8) (pre : List (List UInt8)), linesT s = pre ++ linesT q ∧ wr.cell? ⟨Bs, 0, none⟩ = some (.string ⟨q.toArray⟩) ∧ wr.frozen? ⟨Bs, 0, none⟩ = false ∧ J pre wr ∧ q.length ≤ s.length)
    (fun _ wr => leftAt Bs wr)
  case atStart => exact ⟨s, [], rfl, hBs, hfz, h0, Nat.le_refl _⟩
  case round =>
    clear h0 hBs hfz
    obtain ⟨q, pre, hL, hc, hf, hJ, hql⟩ := hrel
    have HL := Lib.hid hL; clear hL
    have HJ := Lib.hid hJ; clear hJ
    rcases Nat.eq_zero_or_pos q.length with hq0 | hq0
    · have hqn : q = [] := List.eq_nil_of_length_eq_zero hq0
      subst hqn
      gi_wp2
      go_end0
      refine ⟨⟨_, rfl⟩, ?_⟩
      rw [HL.out, linesT_nil, List.append_nil]
      exact HJ.out
    · by_cases hm : (10 : UInt8) ∈ q
      · obtain ⟨d, r, hqd, hd⟩ := cut_at10 hm
        have HI : Hid (Lib.indexByte q 10 = (d.length : Int)) := by show _ = _; rw [hqd]; exact ibyte_cut d r hd
        have hdl : d.length + 1 + r.length = q.length := by rw [hqd]; simp; omega
        have hx1 : (ByteArray.mk q.toArray).extract 0 (d.length + 1) = ⟨(d ++ [10]).toArray⟩ := by
          rw [ByteArray.extract_mk, hqd, show d ++ 10 :: r = (d ++ [10]) ++ r from by simp, List.drop_zero, List.take_left' (by simp)]
        have hx2 : (ByteArray.mk q.toArray).extract (d.length + 1) q.length = ⟨r.toArray⟩ := by
          rw [ByteArray.extract_mk, hqd, show d ++ 10 :: r = (d ++ [10]) ++ r from by simp, List.drop_left' (by simp), List.take_of_length_le (by simp; omega)]
        have HN : Hid (linesT s = (pre ++ [d ++ [10]]) ++ linesT r) := by show _ = _; rw [HL.out, hqd, linesT_cut d r hd]; simp
        clear hqd hd hm HL
        gi_wp2
        refine ⟨trivial, CallsIn.mono (callsIn_wide.2 (ibyte_any q _)) ?_⟩
        rintro e w' ⟨rfl, rfl⟩
        rw [HI.out]
        gi_wp2
        refine wpIn_wide.2 ?_
        go_region
        have hc2 : (wr.setCell ⟨Bs, 0, none⟩ (.string ⟨r.toArray⟩)).drew.cell? ⟨Bs, 0, none⟩ = some (.string ⟨r.toArray⟩) := World.cell?_setCell_same' _ _ _ (by rw [hc]; rfl)
        have hf2 : (wr.setCell ⟨Bs, 0, none⟩ (.string ⟨r.toArray⟩)).drew.frozen? ⟨Bs, 0, none⟩ = false := (World.frozen?_setCell _ _ _ _).trans hf
        obtain ⟨fn, tmps, assign, body, hy, hR⟩ := HY.out pre (d ++ [10]) _ _ ⟨linesT r, by rw [HN.out]; simp⟩ (HD.out _ _ (HS.out _ _ _ HJ.out)) (by simp; omega) hc2 hf2
        gi_wp2
        refine hR.mono ?_
        rintro e W3 ⟨rfl, hJ3, hc3, hf3⟩
        have HJ3 := Lib.hid hJ3; clear hJ3
        gi_wp2
        go_roundw
        case rel => exact ⟨r, pre ++ [d ++ [10]], HN.out, hc3, hf3, HJ3.out, by omega⟩
        case measure => simp [leftAt, hc3, hc, ByteArray.size]; omega
      · have HI : Hid (Lib.indexByte q 10 = -1) := ibyte_no hm
        have hqn : q ≠ [] := fun h => by rw [h] at hq0; simp at hq0
        have HN : Hid (linesT s = (pre ++ [q]) ++ linesT []) := by show _ = _; rw [HL.out, linesT_last hm hqn, linesT_nil]; simp
        clear hm HL hqn
        gi_wp2
        refine ⟨trivial, CallsIn.mono (callsIn_wide.2 (ibyte_any q _)) ?_⟩
        rintro e w' ⟨rfl, rfl⟩
        rw [HI.out]
        have hc2 : (wr.setCell ⟨Bs, 0, none⟩ (.string ⟨#[]⟩)).cell? ⟨Bs, 0, none⟩ = some (.string ⟨#[]⟩) := World.cell?_setCell_same' _ _ _ (by rw [hc]; rfl)
        have hf2 : (wr.setCell ⟨Bs, 0, none⟩ (.string ⟨#[]⟩)).frozen? ⟨Bs, 0, none⟩ = false := (World.frozen?_setCell _ _ _ _).trans hf
        obtain ⟨fn, tmps, assign, body, hy, hR⟩ := HY.out pre q _ _ ⟨linesT [], by rw [HN.out]; simp⟩ (HS.out _ _ _ HJ.out) (by omega) hc2 hf2
        gi_wp2
        refine hR.mono ?_
        rintro e W3 ⟨rfl, hJ3, hc3, hf3⟩
        have HJ3 := Lib.hid hJ3; clear hJ3
        gi_wp2
        go_roundw
        case rel => exact ⟨[], pre ++ [q], HN.out, hc3, hf3, HJ3.out, Nat.zero_le _⟩
        case measure => simp [leftAt, hc3, hc, ByteArray.size]; omega
end Go.Proofs.YtfanjghfilkhmaaGreatDoor
