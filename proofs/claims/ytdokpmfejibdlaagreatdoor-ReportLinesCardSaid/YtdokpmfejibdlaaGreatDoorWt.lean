/- Chapter 54: component.Parts. -/
import Derived.Test.YtdokpmfejibdlaaGreatDoorWr
import Derived.Maps.RangeWalk
set_option linter.unusedSimpArgs false
set_option linter.unusedVariables false
namespace Go.Proofs.YtdokpmfejibdlaaGreatDoor
open Go.RowKit Go.Maps

set_option maxRecDepth 100000 in
/-- What reads as a die's key is a die. -/
theorem keyDie_inv {v : Value} {kl : Lit} (h : keyOf Tryz.prog 72 v = some kl) : ∃ s : DieP, v = .agg #[.int .i64 s.side, .int .i64 s.num] ∧ kl = KD.kl s ∧ in64D s := by
  have h0 := h
  obtain ⟨xs, L, rfl, hL, rfl⟩ := keyOf_top (by rw [Tryz.underlying72]) h
  obtain ⟨m, hm⟩ := types_pos
  have u3 := Tryz.underlying3
  have u1 := Tryz.underlying72
  have h64 : ∀ z : Int, (Lit.int .i64 z).wf = true → in64 z := fun z hw => by
    simp only [Lit.wf, Bool.and_eq_true, decide_eq_true_eq] at hw
    simpa [in64, IntKind.min, IntKind.max, IntKind.bits, IntKind.signed] using hw
  rw [hm] at hL
  have hlen : xs.toList.length = 2 := by
    by_cases hc : xs.toList.length = 2
    · exact hc
    · exfalso
      simp only [Program.keyLits, u1, cellsDie, hc, false_and, if_false] at hL
      cases hL
  obtain ⟨a, b, rfl⟩ : ∃ a b, xs = #[a, b] := by
    obtain ⟨l⟩ := xs
    match l, hlen with
    | [a, b], _ => exact ⟨a, b, rfl⟩
  have hq : ∃ n1 n2, a = .int .i64 n1 ∧ b = .int .i64 n2 ∧ in64 n1 ∧ in64 n2 := by
    have hlit : ∀ (v : Value) (q : Nat), (∃ l, Program.keyLits Tryz.prog (q + 1) 3 [v] = some l) → ∃ z, v = .int .i64 z ∧ in64 z := fun v q ⟨l, hl⟩ => by
      cases v <;> simp [Program.keyLits, u3] at hl
      obtain ⟨⟨rfl, h⟩, _⟩ := hl
      exact ⟨_, rfl, h64 _ h⟩
    have hab : (∃ l, Program.keyLits Tryz.prog (m + 1) 3 [a] = some l) ∧ ∃ l, Program.keyLits Tryz.prog (m + 1) 3 [b] = some l := by
      unfold Program.keyLits at hL
      simp only [u1, cellsDie] at hL
      simp [cellsInt] at hL
      cases ha : Program.keyLits Tryz.prog (m + 1) 3 [a] with
      | none => simp [ha] at hL
      | some l1 =>
        cases hb : Program.keyLits Tryz.prog (m + 1) 3 [b] with
        | none => simp [ha, hb] at hL
        | some l2 => exact ⟨⟨_, rfl⟩, ⟨_, rfl⟩⟩
    obtain ⟨n1, rfl, h1⟩ := hlit a m hab.1
    obtain ⟨n2, rfl, h2⟩ := hlit b m hab.2
    exact ⟨n1, n2, rfl, rfl, h1, h2⟩
  obtain ⟨n1, n2, rfl, rfl, h1, h2⟩ := hq
  refine ⟨⟨n1, n2⟩, rfl, ?_, h1, h2⟩
  have := keyDie (s := ⟨n1, n2⟩) ⟨h1, h2⟩
  rw [h0] at this
  exact Option.some.inj this
theorem sameKey_D {r s : DieP} (hr : in64D r) (hs : in64D s) : (KD.kl r).sameKey (KD.kl s) = decide (r = s) := by
  by_cases e : r = s
  · subst e
    simp [Lit.sameKey, KD]
  · rw [decide_eq_false e]
    cases h : (KD.kl r).sameKey (KD.kl s)
    · rfl
    · exact absurd (KD.inj r s hr hs (WideAt.sameKey_eq h)) e
/-- The range over a map of steps: ks are done. -/
structure RgD (w : World) (b r n : Nat) (D : DataW Unit) (f : DieP → Option Int) (ks : List DieP) (left : Lit → Bool) (cnt : Nat) : Prop where
  rg : w.ranges Tryz.prog 72 VI.R b r n D left cnt
  lf : ∀ s, in64D s → (left (KD.kl s) = true ↔ (f s).isSome = true ∧ s ∉ ks)
  mem : ∀ s ∈ ks, (f s).isSome = true
section
variable {w w' : World} {b r n cnt cnt' : Nat} {D : DataW Unit} {f : DieP → Option Int} {ks : List DieP} {left : Lit → Bool}
theorem RgD.start {o : DieP → Option Int} (hrg : w.ranges Tryz.prog 72 VI.R b r n D (Maps.has D) cnt) (hD : ∀ i, in64D i → readAt VI D (KD.kl i) (o i)) : RgD w b r n D o [] (Maps.has D) cnt :=
  ⟨hrg, fun s hs => by rw [(hD s hs).get.1]; simp, fun s h => by cases h⟩
theorem RgD.kept {row : Option Nat} (h : RgD w b r n D f ks left cnt) (hg : w.grownBy w' row) (hb : some b ≠ row) (hr : some r ≠ row) : RgD w' b r n D f ks left cnt := ⟨h.rg.kept hg hb hr, h.lf, h.mem⟩
theorem RgD.come {x : Value} {kl : Lit} (h : RgD w b r n D f ks left cnt) (hkey : keyOf Tryz.prog 72 x = some kl) (hl : left kl = true) : ∃ s : DieP, x = .agg #[.int .i64 s.side, .int .i64 s.num] ∧ kl = KD.kl s ∧ in64D s ∧ (f s).isSome = true ∧ s ∉ ks := by
  obtain ⟨s, rfl, rfl, hs⟩ := keyDie_inv hkey
  exact ⟨s, rfl, rfl, hs, (h.lf s hs).1 hl⟩
theorem RgD.next {s : DieP} (h : RgD w b r n D f ks left cnt) (hs : in64D s) (hf : (f s).isSome = true) (hrg : w'.ranges Tryz.prog 72 VI.R b r n D (fun z => left z && !z.sameKey (KD.kl s)) cnt') : RgD w' b r n D f (ks ++ [s]) (fun z => left z && !z.sameKey (KD.kl s)) cnt' := by
  refine ⟨hrg, fun q hq => ?_, fun q hq => ?_⟩
  · have h1 := h.lf q hq
    show (left (KD.kl q) && !(KD.kl q).sameKey (KD.kl s)) = true ↔ _
    rw [sameKey_D hq hs]
    by_cases e : q = s
    · simp [e]
    · simp [e, h1]
  · rcases List.mem_append.1 hq with hq | hq
    · exact h.mem q hq
    · rw [List.mem_singleton] at hq
      subst hq
      exact hf
theorem RgD.all (h : RgD w b r n D f ks left cnt) (h0 : ∀ kl, left kl = false) (s : DieP) (hs : in64D s) : (f s).isSome = true ↔ s ∈ ks := by
  have h1 := h.lf s hs
  rw [h0] at h1
  constructor
  · intro h2
    by_cases hm : s ∈ ks
    · exact hm
    · exact absurd (h1.2 ⟨h2, hm⟩) (by simp)
  · exact h.mem s
end
/-! ### What is numbered. -/
structure NumF (g : Gr) (i : Nat) (f : DieP → Option Int) : Prop where
  yes : ∀ k d, (diesG g)[k]? = some d → KnownI g i k → f d = some (partI g k : Int)
  no : ∀ k d, (diesG g)[k]? = some d → ¬ KnownI g i k → f d = none
def putF (f : DieP → Option Int) (ks : List DieP) (p : Int) (d : DieP) : Option Int := if d ∈ ks then some p else f d
theorem putF_nil (f : DieP → Option Int) (p : Int) : putF f [] p = f := by funext d; simp [putF]
theorem putF_snoc (f : DieP → Option Int) (ks : List DieP) (p : Int) (s : DieP) : (fun j => if j = s then some p else putF f ks p j) = putF f (ks ++ [s]) p := by
  funext d
  unfold putF
  by_cases e : d = s
  · simp [e]
  · simp [e]
section
variable {g : Gr} {i : Nat} {f : DieP → Option Int} {d : DieP}
theorem NumF.start (g : Gr) : NumF g 0 (fun _ => none) := ⟨fun k d _ ⟨j, hj, _⟩ => absurd hj (Nat.not_lt_zero _), fun k d _ _ => rfl⟩
theorem NumF.known (h : NumF g i f) (hd : (diesG g)[i]? = some d) : (f d).isSome = true ↔ KnownI g i i := by
  by_cases hk : KnownI g i i
  · rw [h.yes i d hd hk]; simp [hk]
  · rw [h.no i d hd hk]; simp [hk]
theorem NumF.skip (h : NumF g i f) (hd : (diesG g)[i]? = some d) (hs : (f d).isSome = true) : NumF g (i + 1) f ∧ f d = some (partI g i : Int) ∧ cntF g (i + 1) = cntF g i := by
  have hi : i < (diesG g).length := (List.getElem?_eq_some_iff.1 hd).1
  have hk := (h.known hd).1 hs
  refine ⟨⟨fun k e he hkn => h.yes k e he ((known_skip hi hk).1 hkn), fun k e he hkn => h.no k e he (fun h' => hkn ((known_skip hi hk).2 h'))⟩, h.yes i d hd hk, ?_⟩
  rw [cntF_succ, if_neg]
  · rfl
  · rw [isFirst_iff, ← known_first]; exact fun h' => h' hk
theorem NumF.new (hg : GrOk g) (h : NumF g i f) (hd : (diesG g)[i]? = some d) (hs : (f d).isSome = false) {ks : List DieP} (hks : ∀ s ∈ diesG g, s ∈ ks ↔ Reach g d s) :
    NumF g (i + 1) (putF f ks (cntF g i : Int)) ∧ putF f ks (cntF g i : Int) d = some (partI g i : Int) ∧ cntF g (i + 1) = cntF g i + 1 := by
  have hi : i < (diesG g).length := (List.getElem?_eq_some_iff.1 hd).1
  have hk : ¬ KnownI g i i := fun hk => by rw [(h.known hd).2 hk] at hs; cases hs
  have hF := known_first.1 hk
  have hp := partI_first hi hF
  have hr : ∀ k e, (diesG g)[k]? = some e → (e ∈ ks ↔ ReachI g i k) := fun k e he => by
    rw [hks e (List.mem_of_getElem? he)]
    constructor
    · intro hr; exact ⟨d, e, hd, he, hr⟩
    · rintro ⟨a, b, h1, h2, h3⟩
      rw [hd] at h1
      rw [he] at h2
      cases h1; cases h2
      exact h3
  refine ⟨⟨fun k e he hkn => ?_, fun k e he hkn => ?_⟩, ?_, ?_⟩
  · unfold putF
    by_cases hm : e ∈ ks
    · rw [if_pos hm, ← hp, partI_congr ((hr k e he).1 hm)]
    · rw [if_neg hm]
      rcases known_succ.1 hkn with h1 | h1
      · exact h.yes k e he h1
      · exact absurd ((hr k e he).2 h1) hm
  · unfold putF
    rw [known_succ] at hkn
    rw [if_neg (fun hm => hkn (.inr ((hr k e he).1 hm)))]
    exact h.no k e he (fun h1 => hkn (.inl h1))
  · unfold putF
    rw [if_pos ((hr i d hd).2 (.refl hi)), hp]
  · rw [cntF_succ, if_pos (isFirst_iff.2 hF)]
/-- The numbers of the parts, up to i. -/
noncomputable def partsT (g : Gr) (i : Nat) : List Int := (List.range i).map (fun k => (partI g k : Int))
theorem partsT_succ (g : Gr) (i : Nat) : partsT g (i + 1) = partsT g i ++ [(partI g i : Int)] := by unfold partsT; rw [List.range_succ, List.map_append]; rfl
theorem partsT_all (g : Gr) : partsT g (diesG g).length = partsG g := rfl
end
end Go.Proofs.YtdokpmfejibdlaaGreatDoor
set_option linter.unusedSimpArgs false
set_option linter.unusedVariables false
namespace Go.Proofs.YtdokpmfejibdlaaGreatDoor
open Go.RowKit Go.Maps

/-- What Parts carries through its loop. -/
structure PaM (w0 w1 w : World) (bN j : Nat) (g : Gr) (v : Value) (f : DieP → Option Int) (nn : Nat) (gv : List Value) : Prop where
  own : w.ownsRow (bN + 1) 3 1 v j ((partsT g j).flatMap encI)
  mp : MapF KD VI w bN nn f
  b0 : Below w0.heap.size w0 w
  b1 : Below w1.heap.size w1 w
  bx : Bx w w0.heap.size gv
theorem PaM.up {w0 w1 w w' : World} {bN j : Nat} {g : Gr} {v : Value} {f : DieP → Option Int} {nn : Nat} {gv : List Value} (h : PaM w0 w1 w bN j g v f nn gv) (hb : Below w.heap.size w w') : PaM w0 w1 w' bN j g v f nn gv :=
  ⟨own_below' h.own hb, h.mp.up hb, below_keep' h.b0 hb, below_keep' h.b1 hb, h.bx.up hb⟩
/-- A new entry. -/
theorem PaM.put {w0 w1 w w' : World} {bN j : Nat} {g : Gr} {v : Value} {f f' : DieP → Option Int} {nn nn' : Nat} {gv : List Value} (h : PaM w0 w1 w bN j g v f nn gv) (hM : MapF KD VI w' bN nn' f') (hg : w.grownBy w' (some bN)) (h0 : w0.heap.size < bN) (h1 : w1.heap.size ≤ bN) : PaM w0 w1 w' bN j g v f' nn' gv :=
  ⟨h.own.kept hg (by
    by_cases e : v.ownBlock = none
    · exact .inl e
    · refine .inr fun e2 => ?_
      have := (h.own.lt bN e2).1
      omega), hM, below_of_map h.b0 hg (by omega) (Nat.le_refl _), below_of_map h.b1 hg h1 (Nat.le_refl _), h.bx.grown hg (by intro e; injection e with e; omega)⟩
/-- Another block is turned. -/
theorem PaM.other {w0 w1 w w' : World} {bN j Ri : Nat} {g : Gr} {v : Value} {f : DieP → Option Int} {nn : Nat} {gv : List Value} (h : PaM w0 w1 w bN j g v f nn gv) (hg : w.grownBy w' (some Ri)) (hR : bN < Ri) (hv : v.ownBlock ≠ some Ri) (hx : w0.heap.size < Ri) (h1 : w1.heap.size ≤ bN := by omega) : PaM w0 w1 w' bN j g v f nn gv :=
  ⟨h.own.kept hg (.inr hv), h.mp.kept hg (by intro e; injection e with e; omega), below_of_map h.b0 hg (by omega) (Nat.le_refl _), below_of_map h.b1 hg (by omega) (Nat.le_refl _), h.bx.grown hg (by intro e; injection e with e; omega)⟩
/-- One more number. -/
theorem PaM.push {w0 w1 w w' : World} {bN j : Nat} {g : Gr} {v v' : Value} {f : DieP → Option Int} {nn : Nat} {gv : List Value} (h : PaM w0 w1 w bN j g v f nn gv) (o : Obj) (hown' : w'.ownsRow (bN + 1) 3 1 v' (j + 1) ((partsT g j).flatMap encI ++ [.int .i64 (partI g j : Nat)])) (hg : (w.alloc o).grownBy w' v.ownBlock)
    (h0 : w0.heap.size < bN) (h1 : w1.heap.size ≤ bN) : PaM w0 w1 w' bN (j + 1) g v' f nn gv :=
  ⟨by rw [partsT_succ, List.flatMap_append]; exact hown', (h.mp.up (one_alloc w o)).kept hg (fun e => by have := (h.own.lt bN e.symm).1; omega),
   Below.grown (h.b0.alloc h.b0.size _) hg (by have := h.b0.size; simp; omega) (fun q hq => by have := (h.own.lt q hq).1; omega),
   Below.grown (h.b1.alloc h.b1.size _) hg (by have := h.b1.size; simp; omega) (fun q hq => by have := (h.own.lt q hq).1; omega),
   (h.bx.alloc o).grown hg (fun e => by have := (h.own.lt _ e).1; omega)⟩
set_option maxRecDepth 100000 in
set_option maxHeartbeats 4000000 in
theorem lparts_any (A : Option Addr) (n c : Nat) (B : Option Addr) (m d : Nat) (C : Option Addr) (k l : Nat) (g : Gr) (w : World) (hG : GrM w A n B m C k g) (hg : GrOk g) :
    Calls Tryz.prog 76 #[.agg #[.slice A n c, .slice B m d, .slice C k l]] w (NumsW w (partsG g) 0) := by
  have HD : Hid (∀ W, Below w.heap.size w W → Calls Tryz.prog 77 #[.agg #[.slice A n c, .slice B m d, .slice C k l]] W (DiesW W (diesG g) 0)) := fun W hW => ldies_any A n c B m d C k l g W (hG.up hW) hg
  have HS : Hid (∀ a ∈ diesG g, ∀ W, Below w.heap.size w W → Calls Tryz.prog 121 #[.agg #[.slice A n c, .slice B m d, .slice C k l], .agg #[.int .i64 a.side, .int .i64 a.num]] W fun e w' => (∃ bm nm f, e = .returned (.map (some bm)) ∧ nm ≤ 64 ∧ W.heap.size ≤ bm ∧ MapF KD VI w' bm nm f ∧ ∀ d, (f d).isSome = true ↔ Reach g a d) ∧ Below W.heap.size W w') := fun a ha W hW => steps_any A n c B m d C k l g a W (hG.up hW) hg ha
  have HG := Lib.hid hg
  have hN : (diesG g).length ≤ 64 := by rw [diesG_len]; have := hg.lo; have := hg.lr; omega
  have HDI : Hid (∀ d ∈ diesG g, in64D d) := fun d hd => in64D_of hg hd
  clear hG hg
  obtain ⟨i0, hi, hz0, hz1, hz2⟩ := info_parts Tryz.infoI
  have hmm := @run_makeMap Tryz.prog
  go_enter Tryz.func76, Tryz.ntmps76
  go_wp2_with fail
  refine (HD.out _ (by (repeat (first | exact Below.refl _ _ | assumption | refine Below.alloc ?_ (by first | omega | (simp only [World.size_alloc]; omega) | (simp; done) | (simp; omega)) _ | refine Below.setCell ?_ (by first | omega | (simp only [World.size_alloc]; omega) | (simp; done) | (simp; omega)) _ | refine Below.drew ?_ | refine below_drewN ?_ _)))).mono ?_; rintro e w1 ⟨⟨A1, n1, c1, rfl, hn1, hc1, hS1⟩, hb1⟩
  obtain ⟨_, hb, D2⟩ := step1 (vs := [.slice A n c, .slice B m d, .slice C k l]) (Below.refl _ w) hb1
  clear hb1
  have HSL : Hid (∀ W, Below w1.heap.size w1 W → Sl W 0 W.heap.size 2 encD A1 n1 (diesG g)) := fun W hW => hS1.up hW (Nat.le_refl _) (Nat.le_refl _)
  have HLN : Hid ((diesG g).length = n1) := hS1.len
  have hn64 : n1 ≤ 64 := by have := HLN.out; omega
  have hw1 := D2.lt
  clear hS1 hN
  have HP0 : PaM w w1 (w1.alloc (.map #[] 0)) w1.heap.size 0 g (.slice none 0 0) (fun _ => none) 0 [.slice A n c, .slice B m d, .slice C k l] :=
    ⟨World.ownsRow_nil _ _ _ _, MapF.made KD VI w1, hb.alloc hb.size _, one_alloc _ _, D2.alloc _⟩
  have hN0 := NumF.start g
  go_wp2_with fail
  clear hmm hb D2
  generalize hbN : w1.heap.size = bN at *
  go_loopw [7, 8, 25] (fun v p i wr => ∃ (j : Nat) (f : DieP → Option Int) (nn : Nat), j ≤ n1 ∧ i = .int .i64 (j : Int) ∧ p = .int .i64 (cntF g j : Nat) ∧ nn ≤ 64 * j ∧ NumF g j f ∧ PaM w w1 wr bN j g v f nn [.slice A n c, .slice B m d, .slice C k l]) (fun _ _ i _ => n1 - (intOf i).toNat)
  case atStart => exact ⟨0, _, 0, by omega, rfl, rfl, by omega, hN0, HP0⟩
  case round =>
    clear HP0 hN0
    obtain ⟨j, f, nn, hj, rfl, rfl, hnn, hNum, hP⟩ := hrel
    by_cases hlt : j < n1
    · obtain ⟨b, off, x, rfl, hbb, hx, x0, x1⟩ := (HSL.out wr (by rw [← hbN]; exact hP.b1)).di hlt
      have HX := Lib.hid hx; clear hx
      have HXM := Lib.hid (List.mem_of_getElem? HX.out)
      have hcf := cntF_le g j
      have HNum := Lib.hid hNum; clear hNum
      have hP1 := hP.up (one_alloc wr (.cells #[.int .i64 x.side, .int .i64 x.num] 72))
      have hlk : (Instr.lookup 145 (.map (some bN)) (.agg #[.int .i64 x.side, .int .i64 x.num]) true).run Tryz.prog (wr.alloc (.cells #[.int .i64 x.side, .int .i64 x.num] 72)) = .ok (.tuple #[.int .i64 ((f x).getD 0), .bool (f x).isSome]) (wr.alloc (.cells #[.int .i64 x.side, .int .i64 x.num] 72)) := hP1.mp.lookOk Tryz.underlying145 (HDI.out x HXM.out)
      have X10 := Bx.new wr [.int .i64 x.side, .int .i64 x.num] 72
      have hbr := hP.bx.lt
      have hbNr : bN < wr.heap.size := hP.mp.lt
      cases hfs : (f x).isSome with
      | true =>
        obtain ⟨hNn, hfx, hcn⟩ := HNum.out.skip HX.out hfs
        have hlk2 : (Instr.lookup 145 (.map (some bN)) (.agg #[.int .i64 x.side, .int .i64 x.num]) false).run Tryz.prog (wr.alloc (.cells #[.int .i64 x.side, .int .i64 x.num] 72)) = .ok (.int .i64 (partI g j : Nat)) (wr.alloc (.cells #[.int .i64 x.side, .int .i64 x.num] 72)) := by
          have := hP1.mp.look Tryz.underlying145 (HDI.out x HXM.out)
          rw [hfx] at this
          exact this
        have HNN := Lib.hid hNn
        have HCN := Lib.hid hcn
        rw [hfs] at hlk
        clear hNn hcn hfx X10
        go_wp2_with (at_builtin; refine wpList_append_own _ rfl _ _ 36 rfl (bN + 1) 3 i0 (.int .i64 0) 1 8 Tryz.underlying36 hi hz0 hz1 hz2 rfl (by decide) _ _ _ rfl (hP1.own.alloc _) ⟨wr.heap.size + 1, 0, none⟩ 1 1 [.int .i64 (partI g j : Nat)] rfl rfl ?c1 ?c2 ?c3 ?c4 ?c5 ?_)
        case c1 => exact cell_list_at (by simp) _ _
        case c2 => exact encI_one (partI g j : Nat)
        case c3 => unfold maxLen; omega
        case c4 => omega
        case c5 => simp; omega
        intro v' w6 hown6 hgrow _
        have hPP := hP1.push _ hown6 hgrow (by omega) (by omega)
        clear hown6 hgrow
        go_wp2_with fail
        exact ⟨⟨j + 1, f, nn, by omega, by go_num, by rw [HCN.out], by omega, HNN.out, hPP⟩, by simp [intOf]; omega⟩
      | false =>
        rw [hfs] at hlk
        have HFS := Lib.hid hfs
        have q0 := hP.bx.cell 0 _ rfl
        have q1 := hP.bx.cell 1 _ rfl
        have q2 := hP.bx.cell 2 _ rfl
        go_wp2_with fail
        refine (HS.out x HXM.out _ hP1.b0).mono ?_; rintro e w4 ⟨⟨bm, nm, fS, rfl, hnm, hbm, hM4, hre⟩, hb4⟩
        rw [World.size_alloc] at hbm
        have hP4 := hP1.up hb4
        have X4 : Bx w4 wr.heap.size [.int .i64 x.side, .int .i64 x.num] := X10.up hb4
        generalize wr.heap.size = b10 at *
        obtain ⟨D, hD1, hD2, hD3⟩ := hM4
        have HRE := Lib.hid hre
        clear hb4 hlk q0 q1 q2 X10 hP1 hP x0 x1 hre hfs
        go_wp2_with (first | (at_range; refine wpList_range_own _ rfl _ 145 rfl 72 3 keyedDie Tryz.underlying145 VI.R bm nm D rfl hD1 ?_; intro w5 hrg0 hg0 hs0) | go_in)
        go_frame
        have hb05 : Below w4.heap.size w4 w5 := ⟨hg0.os, hg0.tape, hg0.output, hg0.size, fun k hk => hg0.block k hk (by simp)⟩
        have hPF : PaM w w1 w5 bN j g u7 (putF f [] (cntF g j : Nat)) nn [.slice A n c, .slice B m d, .slice C k l] := by rw [putF_nil]; exact hP4.up hb05
        have X5 := X4.up hb05
        have hRg0 := RgD.start hrg0 hD3
        have hD1lt := hD1.lt
        have HOW : Hid (∀ q, u7.ownBlock = some q → q < w4.heap.size) := fun q hq => (hP4.own.lt q hq).2
        generalize hRi : w4.heap.size = Ri at *
        have hsd : Maps.size D ≤ 64 := by omega
        generalize Maps.size D = cn0 at *
        generalize Maps.has D = lf0 at *
        clear hrg0 hg0 hs0 hb05 hP4 X4 hD1 hD3
        go_loopg [] cn0 (fun cnt wl => ∃ (ks : List DieP) (left : Lit → Bool) (nn' : Nat), RgD wl bm Ri nm D fS ks left cnt ∧ PaM w w1 wl bN j g u7 (putF f ks (cntF g j : Nat)) nn' [.slice A n c, .slice B m d, .slice C k l] ∧ nn' + cnt ≤ 64 * j + 64 ∧ Bx wl b10 [.int .i64 x.side, .int .i64 x.num])
        case atStart => exact ⟨[], lf0, nn, hRg0, hPF, by omega, X5⟩
        case round =>
          clear hRg0 hPF X5
          obtain ⟨ks, left, nn', hRg, hPk, hcnt, X⟩ := hrel
          obtain ⟨cnt, rfl⟩ : ∃ cnt, cnt = gk := ⟨_, rfl⟩
          rename World => wl
          have HRg := Lib.hid hRg; clear hRg
          go_wp2_with (at_next; refine wpList_next_ranges _ rfl _ rfl 72 keyedDie VI.R (fun v : Value => v) (fun v : Value => v) (fun key kl _ => ⟨key, rfl⟩) (fun v y _ => ⟨v, rfl⟩) bm Ri nm D left cnt rfl HRg.out.rg ?_ ?_)
          · intro hc0 hl0
            have hks : ∀ s ∈ diesG g, s ∈ ks ↔ Reach g x s := fun s hs => by rw [← HRE.out s]; exact (HRg.out.all hl0 s (HDI.out s hs)).symm
            obtain ⟨hNn, hfx, hcn⟩ := HNum.out.new HG.out HX.out HFS.out hks
            have hlk2 : (Instr.lookup 145 (.map (some bN)) (.agg #[.int .i64 x.side, .int .i64 x.num]) false).run Tryz.prog wl = .ok (.int .i64 (partI g j : Nat)) wl := by
              have := hPk.mp.look Tryz.underlying145 (HDI.out x HXM.out)
              rw [hfx] at this
              exact this
            have HNN := Lib.hid hNn
            have HCN := Lib.hid hcn
            have p0 := X.cell 0 _ rfl
            have p1 := X.cell 1 _ rfl
            have pl := X.lt
            have hbNl := hPk.mp.lt
            clear hNn hcn hfx hks hc0 hl0
            go_wp2_with (at_builtin; refine wpList_append_own _ rfl _ _ 36 rfl (bN + 1) 3 i0 (.int .i64 0) 1 8 Tryz.underlying36 hi hz0 hz1 hz2 rfl (by decide) _ _ _ rfl (hPk.own.alloc _) ⟨wl.heap.size, 0, none⟩ 1 1 [.int .i64 (partI g j : Nat)] rfl rfl ?c1 ?c2 ?c3 ?c4 ?c5 ?_)
            case c1 => exact cell_list_at (by simp) _ _
            case c2 => exact encI_one (partI g j : Nat)
            case c3 => unfold maxLen; omega
            case c4 => omega
            case c5 => simp; omega
            intro v' w6 hown6 hgrow _
            have hPP := hPk.push _ hown6 hgrow (by omega) (by omega)
            clear hown6 hgrow
            go_wp2_with fail
            exact ⟨⟨j + 1, _, nn', by omega, by go_num, by rw [HCN.out]; go_num, by omega, HNN.out, hPP⟩, by simp [intOf]; omega⟩
          · intro x2 c2 kl y ps w' cnt' hkey hlk hRc hat hrg' hlt' hg' hs' hen
            obtain ⟨s, rfl, rfl, hs64, hfS, hsk⟩ := HRg.out.come hkey hlk
            have HRN := Lib.hid (HRg.out.next hs64 hfS hrg')
            have hb2 : Ri < wl.heap.size := HRg.out.rg.lt
            have hPw : PaM w w1 w' bN j g u7 (putF f ks (cntF g j : Nat)) nn' [.slice A n c, .slice B m d, .slice C k l] := hPk.other hg' (by omega) (fun e => by have := HOW.out Ri e; omega) (by have := hPk.bx.lt; omega)
            have HPA := Lib.hid (hPw.up (one_alloc w' (.cells #[.int .i64 s.side, .int .i64 s.num] 72)))
            have XA := (X.grown hg' (by intro e; injection e with e; omega)).alloc (.cells #[.int .i64 s.side, .int .i64 s.num] 72)
            have HS64 := Lib.hid hs64
            have HLT := Lib.hid hlt'
            clear hkey hlk hRc hat hrg' hg' hPk hPw X hs64 hfS hsk hlt'
            go_wp2_with (at_mapUpdate; refine wpList_mapF Tryz.underlying145 rfl _ _ _ (.inl rfl) bN nn' _ rfl HPA.out.mp (by unfold maxLen; omega) s HS64.out ((cntF g j : Nat) : Int) (by show in64 _; unfold in64; omega) rfl rfl ?_; intro w7 hM7 hg7)
            rw [putF_snoc] at hM7
            have hP7 := HPA.out.put hM7 hg7 (by omega) (by omega)
            have X7 := XA.grown hg7 (by intro e; injection e with e; omega)
            have hR7 := (HRN.out.kept (World.grownBy_alloc w' (.cells #[.int .i64 s.side, .int .i64 s.num] 72) none) (by simp) (by simp)).kept hg7 (by intro e; injection e with e; omega) (by intro e; injection e with e; omega)
            have hl7 := HLT.out
            go_roundg cnt'
            case measure => exact hl7
            case rel => exact ⟨ks ++ [s], _, _, hR7, hP7, by split <;> omega, X7⟩
    · obtain rfl : j = n1 := by omega
      obtain ⟨A0, c0, rfl, hc0⟩ := own_form hP.own
      have hown := hP.own
      have hb9 := hP.b0
      have HSP : Hid (Sl wr 0 wr.heap.size 1 encI A0 j (partsG g)) := by
        have h := hown
        rw [← HLN.out, partsT_all] at h
        rw [← HLN.out]
        exact (Sl.of_own (k := 1) (enc := encI) (fun _ => rfl) h (by show (partsT g _).length = _; unfold partsT; simp)).any
      clear hP hown hNum
      go_wp2_with fail
      go_ret2
      exact ⟨⟨A0, j, c0, by go_num, by omega, HSP.out⟩, hb9⟩
end Go.Proofs.YtdokpmfejibdlaaGreatDoor
