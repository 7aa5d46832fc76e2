/- Chapter 46: a list's error: the program's and the reference's. -/
import Derived.Test.YtccmchmemafjdaaGreatDoorOg
import Derived.Test.YtccmchmemafjdaaGreatDoorOh
import Derived.Maps.OwnSet
import Derived.Maps.OwnOps
set_option linter.unusedSimpArgs false
set_option linter.unusedVariables false
namespace Go.Proofs.YtccmchmemafjdaaGreatDoor
open Go.RowKit Go.Maps

def in64 (i : Int) : Prop := -9223372036854775808 ≤ i ∧ i ≤ 9223372036854775807
theorem wf64 {i : Int} (h : in64 i) : (Lit.int .i64 i).wf = true := by
  unfold in64 at h
  simp only [Lit.wf, Bool.and_eq_true, decide_eq_true_eq]
  simpa [IntKind.min, IntKind.max, IntKind.bits, IntKind.signed] using h
/-- How keys are read. -/
structure Kys (k : TypeId) (κ : Type) where
  kv : κ → Value
  kl : κ → Lit
  ok : κ → Prop
  keyed : Keyed Tryz.prog k
  key : ∀ i, ok i → keyOf Tryz.prog k (kv i) = some (kl i)
  inj : ∀ i j, ok i → ok j → kl i = kl j → i = j
  lit : ∀ i, ok i → WideAt.IsKeyLit (kl i)
/-- How values are read. -/
structure Vls (H : Type) (e : TypeId) (ν : Type) where
  R : Value → Option (DataW H × List MemPlace)
  d : ν → DataW H
  vv : ν → Value
  ok : ν → Prop
  zero : ν
  put : ∀ x, ok x → R (vv x) = some (d x, [])
  inv : ∀ v x ps, R v = some (d x, ps) → v = vv x
  okz : ok zero
  zrun : ∀ w, (zeroValue e).run Tryz.prog w = .ok (vv zero) w

section
variable {H : Type} {k e : TypeId} {κ ν : Type} (K : Kys k κ) (V : Vls H e ν)
def readAt (V : Vls H e ν) (D : DataW H) (l : Lit) : Option ν → Prop
  | none => has D l = false
  | some x => V.ok x ∧ has D l = true ∧ ∀ z, D.atKey l z = V.d x
/-- Block b is a map of n entries; at key i it holds f i. -/
def MapF (w : World) (b n : Nat) (f : κ → Option ν) : Prop :=
  ∃ D, w.ownsMap Tryz.prog k V.R b n D ∧ size D = n ∧ ∀ i, K.ok i → readAt V D (K.kl i) (f i)
theorem MapF.made (w : World) : MapF K V (w.alloc (.map #[] 0)) w.heap.size 0 (fun _ => none) := ⟨.map [], World.ownsMap_made _ _ _ _, rfl, fun i _ => rfl⟩
variable {K V}
theorem MapF.kept {w w' : World} {b n : Nat} {f : κ → Option ν} {row : Option Nat} (h : MapF K V w b n f) (hg : w.grownBy w' row) (hne : some b ≠ row) : MapF K V w' b n f := by
  obtain ⟨D, h1, h2⟩ := h
  exact ⟨D, h1.kept hg hne, h2⟩
theorem MapF.lt {w : World} {b n : Nat} {f : κ → Option ν} (h : MapF K V w b n f) : b < w.heap.size := by obtain ⟨D, h1, _⟩ := h; exact h1.lt
theorem grown_of_below {a w : World} (h : Below a.heap.size a w) : a.grownBy w none := ⟨h.os, h.tape, h.output, h.size, fun i hi _ => h.block i hi⟩
theorem MapF.up {w w' : World} {b n : Nat} {f : κ → Option ν} (h : MapF K V w b n f) (hb : Below w.heap.size w w') : MapF K V w' b n f := h.kept (grown_of_below hb) (by simp)
theorem readAt.get {D : DataW H} {l : Lit} {o : Option ν} (h : readAt V D l o) : has D l = o.isSome ∧ D.atKey l (V.d V.zero) = V.d (o.getD V.zero) := by
  cases o with
  | none => exact ⟨h, atKey_of_not_has h _⟩
  | some x => exact ⟨h.2.1, h.2.2 _⟩
theorem MapF.look {t : TypeId} (ht : Tryz.prog.underlying t = some (.map k e)) {w : World} {b n : Nat} {f : κ → Option ν} (h : MapF K V w b n f) {i : κ} (hi : K.ok i) : (Instr.lookup t (.map (some b)) (K.kv i) false).run Tryz.prog w = .ok (V.vv ((f i).getD V.zero)) w := by
  obtain ⟨D, h1, h2, h3⟩ := h
  obtain ⟨v, ps, hrun, hv⟩ := h1.lookup K.keyed ht (V.zrun w) (V.put _ V.okz) (K.key i hi)
  rw [(h3 i hi).get.2] at hv
  rw [hrun, V.inv _ _ _ hv]
theorem MapF.lookOk {t : TypeId} (ht : Tryz.prog.underlying t = some (.map k e)) {w : World} {b n : Nat} {f : κ → Option ν} (h : MapF K V w b n f) {i : κ} (hi : K.ok i) : (Instr.lookup t (.map (some b)) (K.kv i) true).run Tryz.prog w = .ok (.tuple #[V.vv ((f i).getD V.zero), .bool (f i).isSome]) w := by
  obtain ⟨D, h1, h2, h3⟩ := h
  obtain ⟨v, ps, hrun, hv⟩ := h1.look_ok K.keyed ht (V.zrun w) (V.put _ V.okz) (K.key i hi)
  rw [(h3 i hi).get.2] at hv
  rw [hrun, V.inv _ _ _ hv, (h3 i hi).get.1]
theorem MapF.lenRun {t : TypeId} (ht : Tryz.prog.underlying t = some (.map k e)) {w : World} {b n : Nat} {f : κ → Option ν} (h : MapF K V w b n f) (ty : TypeId) : (Builtin.len_ #[t] ty #[.map (some b)]).run Tryz.prog w = .ok (.int .i64 n) w := by
  obtain ⟨D, h1, h2, h3⟩ := h
  rw [h1.len ht ty, h2]
theorem own_le {w : World} {b n : Nat} {D : DataW H} (h : w.ownsMap Tryz.prog k V.R b n D) : w.ownsMap Tryz.prog k V.R b (size D) D := by
  obtain ⟨es, clock, hb, F, hs, rfl⟩ := h
  refine ⟨es, clock, hb, F, ?_, rfl⟩
  simp [size, length_sorted]
theorem wpList_mapF [DecidableEq κ] {t : TypeId} (ht : Tryz.prog.underlying t = some (.map k e)) {w : World} {ops : Array Oper} {rest : List Oper} {o : Oper} {a : Act} {Q : Exit → Act → World → Prop}
    (hg : o.guard = none) (m x v : Operand) (hop : o.op = Op.mapUpdate t m x v) (b n : Nat) (f : κ → Option ν) (hm : a.eval m = .map (some b)) (h : MapF K V w b n f) (hn : n < maxLen) (i : κ) (hi : K.ok i) (y : ν) (hy : V.ok y)
    (hx : a.eval x = K.kv i) (hv : a.eval v = V.vv y)
    (hK : ∀ w', MapF K V w' b (if (f i).isSome then n else n + 1) (fun j => if j = i then some y else f j) → w.grownBy w' (some b) → wpList Tryz.prog ops Q rest (a.put o.dst undef) w') :
    wpList Tryz.prog ops Q (o :: rest) a w := by
  obtain ⟨D, h1, h2, h3⟩ := h
  refine wpList_mapUpdate_own w hg m x v t hop k e K.keyed ht _ b n D hm h1 hn _ _ (K.kl i) hx hv (K.key i hi) (V.d y) [] (V.put y hy) ?_
  intro w' h4 hgr
  have hs : size (D.put (K.kl i) (V.d y)) = if (f i).isSome then n else n + 1 := by rw [size_put (h1.tidy K.keyed), h2, (h3 i hi).get.1]
  refine hK w' ⟨_, ?_, hs, fun j hj => ?_⟩ hgr
  · have := own_le h4
    rwa [hs] at this
  · show readAt V _ (K.kl j) (if j = i then some y else f j)
    by_cases ej : j = i
    · subst ej
      rw [if_pos rfl]
      exact ⟨hy, has_put_same h1.isMap (K.lit j hj) _, fun z => atKey_put_same h1.isMap (K.lit j hj) _ z⟩
    · rw [if_neg ej]
      have hne : K.kl j ≠ K.kl i := fun e' => ej (K.inj j i hj hi e')
      have := h3 j hj
      cases hf : f j with
      | none => rw [hf] at this; exact (has_put_other hne _).trans this
      | some x => rw [hf] at this; exact ⟨this.1, (has_put_other hne _).trans this.2.1, fun z => (atKey_put_other hne _ z).trans (this.2.2 z)⟩
end
theorem below_of_map {B : Nat} {a w w' : World} {b : Nat} (h : Below B a w) (hg : w.grownBy w' (some b)) (hb : B ≤ b) (hB : B ≤ a.heap.size) : Below B a w' := by
  refine ⟨hg.os.trans h.os, hg.tape.trans h.tape, hg.output.trans h.output, Nat.le_trans h.size hg.size, fun k hk => ?_⟩
  have hz := h.size
  rw [hg.block k (by omega) (fun e => by injection e with e; omega)]
  exact h.block k hk
/-- Number keys. -/
noncomputable def KI : Kys 3 Int where
  kv i := .int .i64 i
  kl i := .int .i64 i
  ok := in64
  keyed := int_keyed Tryz.underlying3
  key i hi := keyOf_int_mk Tryz.underlying3 (wf64 hi)
  inj i j _ _ e := by injection e
  lit i _ := by trivial
theorem plainB_gen {P : Program} {t : TypeId} (he : P.underlying t = some .bool) {v : Value} {b : Bool} {ps : List MemPlace} (h : plainElem (H := Unit) P t v = some (.lit (.bool b), ps)) : v = .bool b := by
  unfold plainElem at h
  rw [he] at h
  cases v <;> simp at h
  rw [h.1]
theorem zeroB (w : World) : (zeroValue 4).run Tryz.prog w = .ok (.bool false) w := by kernel_rfl
theorem zeroI (w : World) : (zeroValue 3).run Tryz.prog w = .ok (.int .i64 0) w := by kernel_rfl
theorem plainI_gen {P : Program} {t : TypeId} (he : P.underlying t = some (.int .i64)) {v : Value} {b : Int} {ps : List MemPlace} (h : plainElem (H := Unit) P t v = some (.lit (.int .i64 b), ps)) : v = .int .i64 b := by
  obtain ⟨a, rfl, hz, _⟩ := plainElem_int_inv he h
  injection hz with h1 h2
  injection h1 with h1
  injection h1 with _ h1
  rw [h1]
/-- Truth values. -/
noncomputable def VB : Vls Unit 4 Bool where
  R := plainElem Tryz.prog 4
  d x := .lit (.bool x)
  vv x := .bool x
  ok _ := True
  zero := false
  put x _ := plainElem_bool Tryz.underlying4 x
  inv v x ps h := plainB_gen Tryz.underlying4 h
  okz := trivial
  zrun w := zeroB w
/-- Numbers. -/
noncomputable def VI : Vls Unit 3 Int where
  R := plainElem Tryz.prog 3
  d x := .lit (.int .i64 x)
  vv x := .int .i64 x
  ok := in64
  zero := 0
  put x hx := plainElem_int Tryz.underlying3 (wf64 hx)
  inv v x ps h := plainI_gen Tryz.underlying3 h
  okz := by unfold in64; omega
  zrun w := zeroI w
end Go.Proofs.YtccmchmemafjdaaGreatDoor
set_option linter.unusedSimpArgs false
set_option linter.unusedVariables false
namespace Go.Proofs.YtccmchmemafjdaaGreatDoor
open Go.RowKit Go.Maps

/-- A list's error. -/
def chkL (l : List Lst) : Int := if 64 < l.length then 6 else if ∀ x ∈ l, validL x then (if (idsL l).Nodup then 0 else 8) else 1
theorem chkL_full {l : List Lst} (h : 64 < l.length) : chkL l = 6 := by unfold chkL; rw [if_pos h]
theorem chkL_bad {l : List Lst} (h : l.length ≤ 64) {x : Lst} (hx : x ∈ l) (hv : validB x.id x.sales = false) : chkL l = 1 := by
  unfold chkL
  rw [if_neg (by omega), if_neg]
  intro h2
  exact of_decide_eq_false hv (h2 x hx)
theorem chkL_dup {l : List Lst} (h : l.length ≤ 64) (hv : ∀ x ∈ l, validL x) (hn : ¬ (idsL l).Nodup) : chkL l = 8 := by
  unfold chkL
  rw [if_neg (by omega), if_pos hv, if_neg hn]
theorem chkL_ok {l : List Lst} (h : l.length ≤ 64) (hv : ∀ x ∈ l, validL x) (hn : (idsL l).Nodup) : chkL l = 0 := by
  unfold chkL
  rw [if_neg (by omega), if_pos hv, if_pos hn]
theorem chkL_zero {l : List Lst} (h : chkL l = 0) : l.length ≤ 64 ∧ (∀ x ∈ l, validL x) ∧ (idsL l).Nodup := by
  unfold chkL at h
  split at h
  · omega
  · split at h
    · rename_i h1 h2
      split at h
      · rename_i h3; exact ⟨by omega, h2, h3⟩
      · omega
    · omega
theorem idsL_snoc {xs : List Lst} {k : Nat} {x : Lst} (h : xs[k]? = some x) : (idsL (xs.take (k + 1))).Nodup ↔ (idsL (xs.take k)).Nodup ∧ x.id ∉ idsL (xs.take k) := by
  rw [take_snocS h]
  unfold idsL
  rw [List.map_append, List.nodup_append]
  constructor
  · rintro ⟨h1, _, h3⟩
    exact ⟨h1, fun hm => h3 x.id hm x.id (by simp) rfl⟩
  · rintro ⟨h1, h2⟩
    refine ⟨h1, by simp, fun a ha b hb e => ?_⟩
    simp only [List.map_cons, List.map_nil, List.mem_singleton] at hb
    exact h2 (by rw [← hb, ← e]; exact ha)
theorem nodup_takeL {xs : List Lst} {k : Nat} (h : ¬ (idsL (xs.take k)).Nodup) : ¬ (idsL xs).Nodup := fun h2 => h (by
  unfold idsL at *
  rw [List.map_take]
  exact h2.sublist (List.take_sublist _ _))
/-- The map of the Ids met so far. -/
def seenF (l : List Lst) (k : Nat) (i : Int) : Option Bool := if i ∈ idsL (l.take k) then some true else none
theorem seenF_zero (l : List Lst) : seenF l 0 = fun _ => none := by funext i; simp [seenF, idsL]
theorem mem_ids_snoc {l : List Lst} {k : Nat} {x : Lst} (h : l[k]? = some x) (i : Int) : i ∈ idsL (l.take (k + 1)) ↔ i = x.id ∨ i ∈ idsL (l.take k) := by
  rw [take_snocS h]; unfold idsL; simp [or_comm]
theorem seenF_snoc {l : List Lst} {k : Nat} {x : Lst} (h : l[k]? = some x) : seenF l (k + 1) = fun i => if i = x.id then some true else seenF l k i := by
  funext i
  unfold seenF
  by_cases e : i = x.id
  · rw [if_pos ((mem_ids_snoc h i).2 (.inl e)), if_pos e]
  · rw [if_neg e]
    by_cases hm : i ∈ idsL (l.take k)
    · rw [if_pos hm, if_pos ((mem_ids_snoc h i).2 (.inr hm))]
    · rw [if_neg hm, if_neg]
      intro h2
      rcases (mem_ids_snoc h i).1 h2 with h2 | h2
      · exact e h2
      · exact hm h2
/-- m keys stand among the first k Ids. -/
def CntI (l : List Lst) (k m : Nat) : Prop := m ≤ k ∧ (m = k ↔ (idsL (l.take k)).Nodup)
theorem CntI.zero (l : List Lst) : CntI l 0 0 := ⟨by omega, by simp [idsL]⟩
theorem CntI.snoc {l : List Lst} {k m : Nat} {x : Lst} (h : CntI l k m) (hx : l[k]? = some x) : CntI l (k + 1) (if (seenF l k x.id).isSome then m else m + 1) := by
  obtain ⟨h1, h2⟩ := h
  unfold CntI
  rw [idsL_snoc hx]
  unfold seenF
  by_cases hm : x.id ∈ idsL (l.take k)
  · rw [if_pos hm]
    simp only [Option.isSome_some, if_true]
    exact ⟨by omega, fun e => by omega, fun e => absurd hm e.2⟩
  · rw [if_neg hm]
    simp only [Option.isSome_none, Bool.false_eq_true, if_false]
    refine ⟨by omega, ?_⟩
    rw [← h2]
    exact ⟨fun e => ⟨by omega, hm⟩, fun e => by have := e.1; omega⟩
theorem valid_in64 {x : Lst} (h : validL x) : in64 x.id := by
  obtain ⟨⟨h1, h2⟩, _⟩ := h
  unfold in64; omega

set_option maxRecDepth 100000 in
set_option maxHeartbeats 2000000 in
theorem pcheck_any (A : Option Addr) (n c : Nat) (ls : List Lst) (w : World) (hn : n ≤ 1000000) (hS : LsS w A n ls) :
    Calls Tryz.prog 49 #[.slice A n c] w fun e w' => e = .returned (.int .i64 (chkL ls)) ∧ Below w.heap.size w w' := by
  have hl := hS.len
  by_cases h64 : 64 < n
  · have HV := Lib.hid (chkL_full (l := ls) (by omega))
    clear hS hl
    go_enter Tryz.func49, Tryz.ntmps49
    go_wp2_with fail
    go_ret
    exact ⟨by rw [HV.out]; rfl, Below.refl _ _⟩
  · have HL := Lib.hid hl; clear hl
    have HS := Lib.hid hS; clear hS
    have hmm := @run_makeMap Tryz.prog
    go_enter Tryz.func49, Tryz.ntmps49
    go_wp2_with fail
    clear hmm
    go_loopw [12] (fun i wr => ∃ k m : Nat, k ≤ n ∧ i = .int .i64 (k : Int) ∧ (∀ x ∈ ls.take k, validL x) ∧ CntI ls k m ∧ MapF KI VB wr w.heap.size m (seenF ls k) ∧ Below w.heap.size w wr) (fun i _ => n - (intOf i).toNat)
    case atStart => exact ⟨0, 0, by omega, rfl, by simp, CntI.zero ls, by rw [seenF_zero]; exact MapF.made _ _ w, by (repeat (first | exact Below.refl _ _ | assumption | refine Below.alloc ?_ (by first | omega | (simp only [World.size_alloc]; omega) | (simp; done) | (simp; omega)) _ | refine Below.setCell ?_ (by first | omega | (simp only [World.size_alloc]; omega) | (simp; done) | (simp; omega)) _ | refine Below.drew ?_ | refine below_drewN ?_ _))⟩
    case round =>
      obtain ⟨k, m, hk, rfl, hv, hcn, hM, hb⟩ := hrel
      have HV := Lib.hid hv; clear hv
      have HN := Lib.hid hcn; clear hcn
      by_cases hlt : k < n
      · obtain ⟨b, off, x, a, m', c', rfl, hbb, hx, c0, c1, hm, hSx⟩ := (HS.out.up hb).at_ hlt
        have HX := Lib.hid hx; clear hx
        have HM := Lib.hid hM; clear hM
        have HC := Lib.hid (pvalid_any x.id a m' c' x.sales _ hm (hSx.up (one_alloc wr (.cells #[.int .i64 x.id, .slice a m' c'] 24))))
        clear hSx hm
        go_wp2_with fail
        go_fit HC.out
        rintro e w1 ⟨rfl, hb1⟩
        have hbs : Below wr.heap.size wr w1 := (one_alloc wr _).trans (hb1.mono (by simp))
        have P := (Bx.new wr [.int .i64 x.id, .slice a m' c'] 24).up hb1
        have hM1 := HM.out.up hbs
        have hb1' := below_keep' hb hbs
        clear hb hb1 c0 c1 hbs HM HC
        cases hxv : validB x.id x.sales
        · have HC : Hid (chkL ls = 1) := by show _ = _; exact chkL_bad (by have := HL.out; omega) (List.mem_of_getElem? HX.out) hxv
          go_wp2_with fail
          go_ret
          exact ⟨by rw [HC.out]; rfl, hb1'⟩
        · have HXV := Lib.hid (validB_of hxv); clear hxv
          have HK : Hid (in64 x.id) := valid_in64 HXV.out
          have P0 := P.cell 0 _ rfl; have P1 := P.cell 1 _ rfl; have Plt := P.lt
          have hml : m < maxLen := by
            have := HN.out.1
            have h2 : k < n := hlt
            unfold maxLen
            omega
          have HML := Lib.hid hml; clear hml
          have hva : ∀ y ∈ ls.take (k + 1), validL y := all_take (p := fun y => validL y) HX.out HV.out HXV.out
          have HVA := Lib.hid hva; clear hva
          have HM1 := Lib.hid hM1; clear hM1
          go_wp2_with (at_mapUpdate; refine wpList_mapF Tryz.underlying103 rfl _ _ _ rfl w.heap.size m _ rfl HM1.out HML.out x.id HK.out true trivial rfl rfl ?_; intro w2 hM2 hgr)
          rw [← seenF_snoc HX.out] at hM2
          have hb3 := below_of_map hb1' hgr (Nat.le_refl _) (Nat.le_refl _)
          clear hgr hb1'
          go_wp2_with fail
          go_roundw
          case rel => exact ⟨k + 1, _, by omega, by go_num, HVA.out, HN.out.snoc HX.out, hM2, hb3⟩
          case measure => simp [intOf]; omega
      · obtain rfl : k = n := by omega
        have hva := HV.out
        rw [take_all HL.out] at hva
        have HVA := Lib.hid hva; clear hva HV
        have hcc := HN.out
        unfold CntI at hcc
        rw [take_all HL.out] at hcc
        have HCC := Lib.hid hcc; clear hcc
        have hlen := fun ty => hM.lenRun Tryz.underlying103 ty
        by_cases hd : m = k
        · have HC : Hid (chkL ls = 0) := chkL_ok (by have := HL.out; omega) HVA.out (HCC.out.2.1 hd)
          have hlt' : ¬ (m < k) := by omega
          clear hd
          go_wp2_with fail
          go_ret
          exact ⟨by rw [HC.out]; rfl, hb⟩
        · have HC : Hid (chkL ls = 8) := chkL_dup (by have := HL.out; omega) HVA.out (fun h => hd (HCC.out.2.2 h))
          have hlt' : m < k := by have := HCC.out.1; omega
          clear hd
          go_wp2_with fail
          go_ret
          exact ⟨by rw [HC.out]; rfl, hb⟩
end Go.Proofs.YtccmchmemafjdaaGreatDoor
