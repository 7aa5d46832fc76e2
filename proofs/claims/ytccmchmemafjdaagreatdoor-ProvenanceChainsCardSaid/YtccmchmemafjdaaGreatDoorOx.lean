/- Chapter 46: the groups sorted by their first. -/
import Derived.Test.YtccmchmemafjdaaGreatDoorOs
import Derived.Maps.AppendAt
import Derived.Test.YtccmchmemafjdaaGreatDoorStd
import Derived.Sort.OwnSortedInts
import Derived.Maps.RangeWalk
import Derived.Test.YtccmchmemafjdaaGreatDoorOe
import Derived.Shelf.SlSortCmp.NoneTotal
set_option linter.unusedSimpArgs false
set_option linter.unusedVariables false
namespace Go.Proofs.YtccmchmemafjdaaGreatDoor
open Go.RowKit Go.Maps

theorem GrS.off {w0 w w' : World} {Bf Br Bm n B : Nat} {ids : List Int} {f : Int → Int} {row : Option Nat} (h : GrS w0 w Bf Br Bm n ids f) (hg : w.grownBy w' row) (hrow : ∀ g, row = some g → B ≤ g) (h1 : Bm < B) (h2 : Br < B) (h3 : Bf < B) (h4 : w0.heap.size ≤ B) : GrS w0 w' Bf Br Bm n ids f := by
  cases row with
  | none => exact h.up ⟨hg.os, hg.tape, hg.output, hg.size, fun k hk => hg.block k hk (by simp)⟩
  | some g =>
    have := hrow g rfl
    exact h.other hg (by omega) (by omega) (by omega) (by omega)
structure PtR (w : World) (Bp : Nat) (zs : Int → List Int) (f : Int → Option Value) : Prop where
  none_ : ∀ r, in64 r → (f r = none ↔ zs r = [])
  row : ∀ r v, in64 r → f r = some v → w.ownsRow (Bp + 1) 3 1 v (zs r).length ((zs r).map (Value.int .i64))
  apart : ∀ r r' v v', in64 r → in64 r' → r ≠ r' → f r = some v → f r' = some v' → v.ownBlock ≠ v'.ownBlock
theorem PtR.up {w w' : World} {Bp : Nat} {zs : Int → List Int} {f : Int → Option Value} (h : PtR w Bp zs f) (hb : Below w.heap.size w w') : PtR w' Bp zs f :=
  ⟨h.none_, fun r v hr hv => own_below' (h.row r v hr hv) hb, h.apart⟩
theorem PtR.start (w : World) (Bp : Nat) : PtR w Bp (fun _ => []) (fun _ => none) := ⟨fun r _ => (by simp), fun r v _ h => (by cases h), fun r r' v v' _ _ _ h => (by cases h)⟩
theorem PtR.own {w : World} {Bp : Nat} {zs : Int → List Int} {f : Int → Option Value} (h : PtR w Bp zs f) {r : Int} (hr : in64 r) : w.ownsRow (Bp + 1) 3 1 ((f r).getD (.slice none 0 0)) (zs r).length ((zs r).map (Value.int .i64)) := by
  cases hf : f r with
  | none =>
    rw [(h.none_ r hr).1 hf]
    exact World.ownsRow_nil _ _ _ _
  | some v => exact h.row r v hr hf
theorem own_some {w : World} {B e : Nat} {v : Value} {n : Nat} {xs : List Value} (h : w.ownsRow B e 1 v n xs) (hn : 0 < n) : ∃ g, v.ownBlock = some g ∧ B ≤ g ∧ g < w.heap.size := by
  rcases h.2 with ⟨_, h0⟩ | ⟨g, cap, cur, rfl, hg, hh, _⟩
  · omega
  · exact ⟨g, rfl, hg, (Array.getElem?_eq_some_iff.1 hh).1⟩
def putL (zs : Int → List Int) (r x : Int) (r' : Int) : List Int := if r' = r then zs r ++ [x] else zs r'
def putV (f : Int → Option Value) (r : Int) (v : Value) (r' : Int) : Option Value := if r' = r then some v else f r'
theorem PtR.pos {w : World} {Bp : Nat} {zs : Int → List Int} {f : Int → Option Value} (h : PtR w Bp zs f) {r : Int} (hr : in64 r) {v : Value} (hv : f r = some v) : 0 < (zs r).length := by
  rcases Nat.eq_zero_or_pos (zs r).length with h0 | h0
  · have := (h.none_ r hr).2 (List.length_eq_zero_iff.1 h0)
    rw [hv] at this; cases this
  · exact h0
theorem PtR.step {w w1 w2 : World} {Bp : Nat} {zs : Int → List Int} {f : Int → Option Value} (h : PtR w Bp zs f) {r x : Int} (hr : in64 r) {v' : Value} (hg : w.grownBy w1 ((f r).getD (.slice none 0 0)).ownBlock)
    (hown : w1.ownsRow (Bp + 1) 3 1 v' ((zs r).length + 1) ((zs r).map (Value.int .i64) ++ [.int .i64 x])) (hat : v'.ownBlock = ((f r).getD (.slice none 0 0)).ownBlock ∨ v'.ownBlock = some w.heap.size) (hg2 : w1.grownBy w2 (some Bp)) :
    PtR w2 Bp (putL zs r x) (putV f r v') := by
  obtain ⟨g', hg', hB', _⟩ := own_some hown (by omega)
  have hne2 : ∀ {v : Value} {n : Nat} {xs : List Value} {W : World}, W.ownsRow (Bp + 1) 3 1 v n xs → v.ownBlock = none ∨ v.ownBlock ≠ some Bp := fun {v n xs W} ho => by
    cases hv : v.ownBlock with
    | none => exact .inl rfl
    | some g =>
      refine .inr fun e => ?_
      have := (ho.lt g hv).1
      injection e with e
      omega
  have hne1 : ∀ r' v, in64 r' → r' ≠ r → f r' = some v → v.ownBlock = none ∨ v.ownBlock ≠ ((f r).getD (.slice none 0 0)).ownBlock := fun r' v hr' hne hv => by
    cases hf : f r with
    | none =>
      obtain ⟨g, hg, _⟩ := own_some (h.row r' v hr' hv) (h.pos hr' hv)
      exact .inr (by rw [hg]; simp [Value.ownBlock])
    | some v0 => exact .inr (h.apart r' r v v0 hr' hr hne hv hf)
  have hap : ∀ r' v, in64 r' → r' ≠ r → f r' = some v → v.ownBlock ≠ v'.ownBlock := fun r' v hr' hne hv e => by
    obtain ⟨g, hgv, _, hlt⟩ := own_some (h.row r' v hr' hv) (h.pos hr' hv)
    rcases hat with h1 | h1
    · rcases hne1 r' v hr' hne hv with h2 | h2
      · rw [hgv] at h2; cases h2
      · exact h2 (e.trans h1)
    · rw [hgv, h1] at e
      injection e with e
      omega
  refine ⟨fun r' hr' => ?_, fun r' v hr' hv => ?_, fun r1 r2 v1 v2 h1 h2 hne e1 e2 => ?_⟩
  · unfold putV putL
    by_cases e : r' = r
    · rw [if_pos e, if_pos e]; simp
    · rw [if_neg e, if_neg e]; exact h.none_ r' hr'
  · unfold putV at hv
    unfold putL
    by_cases e : r' = r
    · rw [if_pos e] at hv ⊢
      injection hv with hv
      subst hv
      have h1 := hown.kept hg2 (hne2 hown)
      simpa using h1
    · rw [if_neg e] at hv ⊢
      have h1 := (h.row r' v hr' hv).kept hg (hne1 r' v hr' e hv)
      exact h1.kept hg2 (hne2 h1)
  · unfold putV at e1 e2
    by_cases k1 : r1 = r
    · by_cases k2 : r2 = r
      · exact absurd (k1.trans k2.symm) hne
      · rw [if_pos k1] at e1
        rw [if_neg k2] at e2
        injection e1 with e1
        subst e1
        exact fun e => hap r2 v2 h2 k2 e2 e.symm
    · rw [if_neg k1] at e1
      by_cases k2 : r2 = r
      · rw [if_pos k2] at e2
        injection e2 with e2
        subst e2
        exact hap r1 v1 h1 k1 e1
      · rw [if_neg k2] at e2
        exact h.apart r1 r2 v1 v2 h1 h2 hne e1 e2
/-- What stands in each part behind the first q listings. -/
def zsK (g : Int → Int) (ls : List Lst) (q : Nat) (r : Int) : List Int := (idsL (ls.take q)).filter (fun a => decide (g a = r))
theorem zsK_zero (g : Int → Int) (ls : List Lst) : zsK g ls 0 = fun _ => [] := by funext r; simp [zsK, idsL]
theorem zsK_snoc {g : Int → Int} {ls : List Lst} {q : Nat} {x : Lst} (h : ls[q]? = some x) : zsK g ls (q + 1) = putL (zsK g ls q) (g x.id) x.id := by
  funext r
  unfold putL zsK
  rw [idsL_take_snoc h, List.filter_append]
  by_cases e : r = g x.id
  · rw [if_pos e, e]; simp
  · rw [if_neg e]
    have : g x.id ≠ r := fun h => e h.symm
    simp [this]
theorem zsK_len {g : Int → Int} {ls : List Lst} {q : Nat} (r : Int) : (zsK g ls q r).length ≤ q := by
  unfold zsK
  refine Nat.le_trans (List.length_filter_le _ _) ?_
  unfold idsL
  rw [List.length_map, List.length_take]
  omega
theorem parts_look {w : World} {b n : Nat} {f : Int → Option Value} (h : MapF KI VS w b n f) {r : Int} (hr : in64 r) {v : Value} (hv : (f r).getD (.slice none 0 0) = v) :
    (Instr.lookup 109 (.map (some b)) (.int .i64 r) false).run Tryz.prog w = .ok v w := by
  subst hv
  exact h.look Tryz.underlying109 (i := r) hr
end Go.Proofs.YtccmchmemafjdaaGreatDoor
set_option linter.unusedSimpArgs false
set_option linter.unusedVariables false
namespace Go.Proofs.YtccmchmemafjdaaGreatDoor
open Go.RowKit Go.Maps

theorem psort_any (B : Nat) (v : Value) (zs : List Int) (w : World) (hz : zs.length ≤ 1000000) (h0 : 0 < zs.length) (hown : w.ownsRow B 3 1 v zs.length (zs.map (Value.int .i64))) :
    Calls Tryz.prog 79 #[v] w fun e w' => e = .returned (.tuple #[]) ∧ w.grownBy w' v.ownBlock ∧ w'.ownsRow B 3 1 v zs.length ((sortI zs).map (Value.int .i64)) := by
  rcases hown.2 with ⟨_, h⟩ | ⟨g, cap, cur, rfl, hg, hh, hn, hcap, hsz, ht⟩
  · omega
  · rw [Nat.mul_one] at ht
    have hblk : g < w.heap.size := (Array.getElem?_eq_some_iff.1 hh).1
    refine (Tryz.slices_Sort_int g 0 cap zs w (holds_of_blockI hh ht) hblk (by omega)).mono ?_
    rintro e w' ⟨rfl, n, os, rfl⟩
    refine ⟨rfl, grownBy_sortedI _, ?_⟩
    have := ownsRow_sortedI (base := B) (w := w) (g := g) (cap := cap) (n := n) (e := 3) (os := os) (cur := cur) (ss := zs) (ts := sortI zs) (by unfold sortI; simp) hg hh hn hcap hsz
    exact this
/-- The parts, those of ks sorted. -/
def curS (zs : Int → List Int) (ks : List Int) (r : Int) : List Int := if r ∈ ks then sortI (zs r) else zs r
theorem sortI_length (l : List Int) : (sortI l).length = l.length := by unfold sortI; simp
theorem curS_nil (zs : Int → List Int) : curS zs [] = zs := by funext r; simp [curS]
theorem curS_not {zs : Int → List Int} {ks : List Int} {r : Int} (h : r ∉ ks) : curS zs ks r = zs r := by unfold curS; rw [if_neg h]
/-- Another block turned: the parts stand. -/
theorem PtR.other {w w' : World} {Bp : Nat} {zs : Int → List Int} {f : Int → Option Value} {row : Option Nat} (h : PtR w Bp zs f) (hg : w.grownBy w' row) (hne : ∀ r v, in64 r → f r = some v → v.ownBlock ≠ row) : PtR w' Bp zs f :=
  ⟨h.none_, fun r v hr hv => (h.row r v hr hv).kept hg (.inr (hne r v hr hv)), h.apart⟩
theorem PtR.sorted {w w' : World} {Bp : Nat} {zs : Int → List Int} {ks : List Int} {f : Int → Option Value} {r : Int} {v : Value} (h : PtR w Bp (curS zs ks) f) (hr : in64 r) (hv : f r = some v) (hk : r ∉ ks) (hg : w.grownBy w' v.ownBlock)
    (hown : w'.ownsRow (Bp + 1) 3 1 v (zs r).length ((sortI (zs r)).map (Value.int .i64))) : PtR w' Bp (curS zs (ks ++ [r])) f := by
  have hlen : ∀ r', (curS zs (ks ++ [r]) r').length = (curS zs ks r').length := fun r' => by
    unfold curS
    split <;> split <;> simp [sortI_length]
  refine ⟨fun r' hr' => ?_, fun r' v' hr' hv' => ?_, h.apart⟩
  · rw [h.none_ r' hr', ← List.length_eq_zero_iff, ← List.length_eq_zero_iff, hlen]
  · by_cases e : r' = r
    · subst e
      rw [hv] at hv'
      injection hv' with hv'
      subst hv'
      have : curS zs (ks ++ [r']) r' = sortI (zs r') := by unfold curS; rw [if_pos (by simp)]
      rw [this, sortI_length]
      exact hown
    · have : curS zs (ks ++ [r]) r' = curS zs ks r' := by
        unfold curS
        by_cases hm : r' ∈ ks
        · rw [if_pos hm, if_pos (by simp [hm])]
        · rw [if_neg hm, if_neg (by simp [hm, e])]
      rw [this]
      exact (h.row r' v' hr' hv').kept hg (.inr (h.apart r' r v' v hr' hr e hv' hv))
end Go.Proofs.YtccmchmemafjdaaGreatDoor
set_option linter.unusedSimpArgs false
set_option linter.unusedVariables false
namespace Go.Proofs.YtccmchmemafjdaaGreatDoor
open Go.RowKit Go.Maps

/-- The range's state: ks are done (sorted); the rest is still to come. -/
structure RgS (w : World) (Bp Ri m : Nat) (D : DataW Value) (f : Int → Option Value) (zs : Int → List Int) (ks : List Int) (left : Lit → Bool) (cnt : Nat) : Prop where
  rg : w.ranges Tryz.prog 3 VS.R Bp Ri m D left cnt
  lf : ∀ r, in64 r → (left (.int .i64 r) = true ↔ (f r).isSome = true ∧ r ∉ ks)
  nd : ks.Nodup
  mem : ∀ r ∈ ks, in64 r ∧ (f r).isSome = true
  rows : PtR w Bp (curS zs ks) f
/-- What the map holds, and where its rows lie. -/
structure MpS (D : DataW Value) (Bp Ri : Nat) (f : Int → Option Value) (zs : Int → List Int) : Prop where
  rd : ∀ r, in64 r → readAt VS D (.int .i64 r) (f r)
  lo : ∀ r v g, in64 r → f r = some v → v.ownBlock = some g → Bp < g ∧ g < Ri
  lt : Bp < Ri
theorem MpS.ne_map {D : DataW Value} {Bp Ri : Nat} {f : Int → Option Value} {zs : Int → List Int} (h : MpS D Bp Ri f zs) {r : Int} {v : Value} (hr : in64 r) (hv : f r = some v) : some Bp ≠ v.ownBlock := fun e => by
  have := (h.lo r v Bp hr hv e.symm).1
  omega
theorem MpS.ne_it {D : DataW Value} {Bp Ri : Nat} {f : Int → Option Value} {zs : Int → List Int} (h : MpS D Bp Ri f zs) {r : Int} {v : Value} (hr : in64 r) (hv : f r = some v) : some Ri ≠ v.ownBlock := fun e => by
  have := (h.lo r v Ri hr hv e.symm).2
  omega
theorem VS_R (c : Value) : VS.R c = some (.held c, []) := rfl
theorem VS_d (c : Value) : VS.d c = .held c := rfl
theorem held_inj {a b : Value} (h : (DataW.held a : DataW Value) = .held b) : a = b := by injection h
/-- What comes out of the map. -/
theorem RgS.come {w : World} {Bp Ri m : Nat} {D : DataW Value} {f : Int → Option Value} {zs : Int → List Int} {ks : List Int} {left : Lit → Bool} {cnt : Nat} (h : RgS w Bp Ri m D f zs ks left cnt) (hM : MpS D Bp Ri f zs) {x : Int} {c : Value} {kl : Lit} {y : DataW Value × List MemPlace}
    (hkey : keyOf Tryz.prog 3 (.int .i64 x) = some kl) (hl : left kl = true) (hR : VS.R c = some y) (hat : ∀ zd, D.atKey kl zd = y.1) : kl = .int .i64 x ∧ in64 x ∧ f x = some c ∧ x ∉ ks := by
  obtain ⟨x', e1, rfl, hw⟩ := Maps.keyOf_int_inv Tryz.underlying3 hkey
  injection e1 with _ e1
  subst e1
  have h64 : in64 x := by
    simp only [Lit.wf, Bool.and_eq_true, decide_eq_true_eq] at hw
    simpa [in64, IntKind.min, IntKind.max, IntKind.bits, IntKind.signed] using hw
  obtain ⟨h1, h2⟩ := (h.lf x h64).1 hl
  refine ⟨rfl, h64, ?_, h2⟩
  have h3 := hM.rd x h64
  cases hf : f x with
  | none => rw [hf] at h1; cases h1
  | some v =>
    rw [hf] at h3
    have h4 := h3.2.2 .nil
    rw [hat, VS_d] at h4
    rw [VS_R] at hR
    have h5 := Option.some.inj hR
    rw [← h5] at h4
    rw [held_inj h4]
/-- One entry comes out. -/
theorem RgS.took {w w' : World} {Bp Ri m : Nat} {D : DataW Value} {f : Int → Option Value} {zs : Int → List Int} {ks : List Int} {left : Lit → Bool} {cnt cnt' : Nat} (h : RgS w Bp Ri m D f zs ks left cnt) (hM : MpS D Bp Ri f zs) (hg : w.grownBy w' (some Ri)) :
    PtR w' Bp (curS zs ks) f := h.rows.other hg fun r v hr hv e => hM.ne_it hr hv e.symm
/-- .. and is sorted. -/
theorem RgS.next {w w' w1 : World} {Bp Ri m : Nat} {D : DataW Value} {f : Int → Option Value} {zs : Int → List Int} {ks : List Int} {left : Lit → Bool} {cnt cnt' : Nat} (h : RgS w Bp Ri m D f zs ks left cnt) (hM : MpS D Bp Ri f zs) {x : Int} {v : Value} (hx : in64 x) (hv : f x = some v) (hk : x ∉ ks)
    (hg : w.grownBy w' (some Ri)) (hrg : w'.ranges Tryz.prog 3 VS.R Bp Ri m D (fun z => left z && !z.sameKey (.int .i64 x)) cnt') (hg1 : w'.grownBy w1 v.ownBlock) (hown : w1.ownsRow (Bp + 1) 3 1 v (zs x).length ((sortI (zs x)).map (Value.int .i64))) :
    RgS w1 Bp Ri m D f zs (ks ++ [x]) (fun z => left z && !z.sameKey (.int .i64 x)) cnt' := by
  refine ⟨hrg.kept hg1 (hM.ne_map hx hv) (hM.ne_it hx hv), fun r hr => ?_, ?_, fun r hr => ?_, (h.took hM hg (cnt' := cnt')).sorted hx hv hk hg1 hown⟩
  · have h1 := h.lf r hr
    have h2 : (Lit.int .i64 r).sameKey (.int .i64 x) = decide (r = x) := by simp [Lit.sameKey]
    show (left (.int .i64 r) && !(Lit.int .i64 r).sameKey (.int .i64 x)) = true ↔ _
    rw [h2]
    by_cases e : r = x
    · simp [e]
    · simp [e, h1]
  · rw [List.nodup_append]
    refine ⟨h.nd, by simp, fun a ha b hb e => ?_⟩
    rw [List.mem_singleton] at hb
    exact hk (by rw [← hb, ← e]; exact ha)
  · rcases List.mem_append.1 hr with hr | hr
    · exact h.mem r hr
    · rw [List.mem_singleton] at hr
      subst hr
      exact ⟨hx, by rw [hv]; rfl⟩
/-- Another block turned. -/
theorem RgS.off {w w' : World} {Bp Ri m : Nat} {D : DataW Value} {f : Int → Option Value} {zs : Int → List Int} {ks : List Int} {left : Lit → Bool} {cnt : Nat} {row : Option Nat} (h : RgS w Bp Ri m D f zs ks left cnt) (hM : MpS D Bp Ri f zs) (hg : w.grownBy w' row) (hrow : ∀ g, row = some g → Ri < g) :
    RgS w' Bp Ri m D f zs ks left cnt := by
  have hlt := hM.lt
  refine ⟨h.rg.kept hg (fun e => by have := hrow Bp e.symm; omega) (fun e => by have := hrow Ri e.symm; omega), h.lf, h.nd, h.mem, ?_⟩
  refine h.rows.other hg fun r v hr hv e => ?_
  cases row with
  | none =>
    obtain ⟨g, hg', _⟩ := own_some (h.rows.row r v hr hv) (h.rows.pos hr hv)
    rw [hg'] at e; cases e
  | some g =>
    have h1 := hrow g rfl
    have h2 := (hM.lo r v g hr hv e).2
    omega
end Go.Proofs.YtccmchmemafjdaaGreatDoor
set_option linter.unusedSimpArgs false
set_option linter.unusedVariables false
namespace Go.Proofs.YtccmchmemafjdaaGreatDoor
open Go.RowKit Go.Maps Go.Sort Go.Lib

theorem grownBy_sortW {α : Type} [Inhabited α] (enc : α → Value) {w : World} {g n : Nat} {os : Array Obj} (d : Array α) : w.grownBy (sortWorld enc w g 0 n d os) (some g) := by
  unfold sortWorld
  refine ⟨rfl, rfl, rfl, by simp, fun k hk hne => ?_⟩
  rw [heap_grow_old _ _ (by simpa using hk)]
  have : g ≠ k := fun e => hne (by rw [e])
  simp [putRow, mapBlock, Sort.ahead, Array.getElem?_modify, this]
set_option maxHeartbeats 1000000 in
theorem grp3_any (ga na ca gb nb cb : Nat) (a b : Int) (w : World) (h0 : 0 < na) (h1 : 0 < nb) (hc : w.cell? ⟨ga, 0, none⟩ = some (.int .i64 a)) (hd : w.cell? ⟨gb, 0, none⟩ = some (.int .i64 b)) (hga : ga < w.heap.size) (hgb : gb < w.heap.size) :
    Calls Tryz.prog 81 #[.slice (some ⟨ga, 0, none⟩) na ca, .slice (some ⟨gb, 0, none⟩) nb cb] w fun e w' => e = .returned (.int .i64 (cmpI a b)) ∧ ∃ q, w' = w.drewN q := by
  have HC := Lib.hid (fun W => compare_any a b W)
  have h0' : (0 : Int) < (na : Int) := by omega
  have h1' : (0 : Int) < (nb : Int) := by omega
  go_enter Tryz.func81, Tryz.ntmps81
  go_wp2_with fail
  go_quiet ((go_at_call 62; with_reducible refine Calls.quiet_of_same (HC.out _)))
  go_wp2_with fail
  go_ret
  exact ⟨rfl, _, rfl⟩
def cfG (ks : List Int) (x y : {r : Int // r ∈ ks}) : Int := cmpI x.1 y.1
theorem ltCfG {ks : List Int} (x y : {r : Int // r ∈ ks}) : ltOf (cfG ks) x y = decide (x.1 < y.1) := by
  unfold ltOf cfG
  rcases cmpI_cases x.1 y.1 with ⟨h, e⟩ | ⟨h, e⟩ | ⟨h, e⟩
  · rw [e]; simp [h]
  · rw [e, h]; simp
  · rw [e]
    have : ¬ x.1 < y.1 := by omega
    simp [this]
theorem swoG (ks : List Int) : SWO (ltOf (cfG ks)) where
  irrefl x := by rw [ltCfG]; simp
  trans x y z := by rw [ltCfG, ltCfG, ltCfG]; simp; omega
  ntrans x y z := by rw [ltCfG, ltCfG, ltCfG]; simp; omega
theorem holds_of_blockG {α : Type} [Inhabited α] (enc : α → Value) {w : World} {g : Nat} {cur : Array Value} {e : TypeId} {xs : List α} (hb : w.heap[g]? = some (.cells cur e (0, 0))) (ht : cur.toList.take xs.length = xs.map enc) : Holds enc w g 0 xs.toArray := by
  intro j hj
  have hj' : j < xs.length := by simpa using hj
  refine ⟨?_, by simp [World.frozen?, hb]⟩
  have h1 : (cur.toList.take xs.length)[j]? = (xs.map enc)[j]? := by rw [ht]
  rw [List.getElem?_take_of_lt hj'] at h1
  simp only [World.cell?, hb, Nat.zero_add]
  simp only [Option.isSome_none, Bool.false_eq_true, if_false]
  rw [← Array.getElem?_toList, h1]
  simp [hj']
theorem heap_sortedG {α : Type} [Inhabited α] (enc : α → Value) {w : World} {g n : Nat} {os : Array Obj} {cur : Array Value} {e : TypeId} {fr : Nat × Nat} (d : Array α) (hb : w.heap[g]? = some (.cells cur e fr)) :
    (sortWorld enc w g 0 n d os).heap[g]? = some (.cells (putCells enc 0 d cur) e fr) := by
  unfold sortWorld
  have hg : g < w.heap.size := (Array.getElem?_eq_some_iff.1 hb).1
  rw [heap_grow_old _ _ (by simpa using hg)]
  simp [putRow, mapBlock, Sort.ahead, Array.getElem?_modify, hb, onCells]
theorem take_putCellsG {α : Type} [Inhabited α] (enc : α → Value) (cur : Array Value) (ts : List α) (h : ts.length ≤ cur.size) : (putCells enc 0 ts.toArray cur).toList.take ts.length = ts.map enc := by
  apply List.ext_getElem?
  intro j
  by_cases hj : j < ts.length
  · rw [List.getElem?_take_of_lt hj, Array.getElem?_toList]
    simp [putCells, hj, show j < cur.size by omega]
  · rw [List.getElem?_take_eq_none (by omega), List.getElem?_eq_none (by simp; omega)]
theorem sortedIn_pairwise {α : Type} [Inhabited α] {lt : α → α → Bool} {R : α → α → Prop} {d : Array α} (h : SortedIn lt 0 d.size d) (hR : ∀ x y, lt y x = false → R x y) : d.toList.Pairwise R := by
  rw [List.pairwise_iff_getElem]
  intro i j hi hj hij
  have := h i j (Nat.zero_le _) hij (by simpa using hj)
  rw [getElem!_pos _ _ (by simpa using hj), getElem!_pos _ _ (by simpa using hi)] at this
  exact hR _ _ (by simpa using this)
def encG (f : Int → Option Value) (r : Int) : Value := (f r).getD (.slice none 0 0)
set_option maxHeartbeats 1000000 in
theorem sortG_any (Bp Bo : Nat) (v : Value) (ks : List Int) (f : Int → Option Value) (zs : Int → List Int) (w : World) (hkl : ks.length ≤ 64) (hout : w.ownsRow Bo 40 1 v ks.length (ks.map (encG f))) (hR : PtR w Bp (curS zs ks) f)
    (hmem : ∀ r ∈ ks, in64 r ∧ (f r).isSome = true) (hhd : ∀ r ∈ ks, (sortI (zs r))[0]? = some r) (hlow : ∀ r u g, in64 r → f r = some u → u.ownBlock = some g → g < Bo) :
    Calls Tryz.prog 80 #[v, .func (.func 81) #[] #[]] w fun e w' => e = .returned (.tuple #[]) ∧ ∃ ks' : List Int, ks'.Perm ks ∧ ks'.Pairwise (fun a b => a ≤ b) ∧ w.grownBy w' v.ownBlock ∧
      w'.ownsRow Bo 40 1 v ks.length (ks'.map (encG f)) ∧ PtR w' Bp (curS zs ks) f := by
  have hout0 := hout
  obtain ⟨Ao, co, rfl, _⟩ := own_form hout
  by_cases hk : ks = []
  · subst hk
    refine (AnyF.slices_SortFunc_none { Tryz.laysSlF6_f80 with } Ao co (.func (.func 81) #[] #[]) w).mono ?_
    rintro e w' ⟨he, rfl⟩
    exact ⟨he, [], List.Perm.refl _, List.Pairwise.nil, ⟨rfl, rfl, rfl, Nat.le_refl _, fun k _ _ => rfl⟩, hout0, hR⟩
  · have hpos : 0 < ks.length := List.length_pos_iff.2 hk
    rcases hout.2 with ⟨_, h0⟩ | ⟨g, cap, cur, hv, hg, hh, hn, hcap, hsz, ht⟩
    · omega
    · simp only [Value.slice.injEq, true_and] at hv
      obtain ⟨rfl, rfl⟩ := hv
      obtain ⟨k0, hk0⟩ := List.exists_mem_of_ne_nil ks hk
      haveI : Inhabited {r : Int // r ∈ ks} := ⟨⟨k0, hk0⟩⟩
      rw [Nat.mul_one] at ht
      have hgl : g < w.heap.size := (Array.getElem?_eq_some_iff.1 hh).1
      have eg : ∀ args w, (callFunc 81 args).run Tryz.prog w = .ok (.enter 81 args) w := enters_of Tryz.func81 (by kernel_rfl) rfl
      have hH := holds_of_blockG (fun r : {r : Int // r ∈ ks} => encG f r.1) (xs := ks.attach) hh (by simpa using ht)
      have hone : OneCell (fun r : {r : Int // r ∈ ks} => encG f r.1) := fun r => by
        obtain ⟨h64, hs⟩ := hmem r.1 r.2
        obtain ⟨u, hu⟩ := Option.isSome_iff_exists.1 hs
        obtain ⟨Au, cu, hue, _⟩ := own_form (hR.row r.1 u h64 hu)
        show (encG f r.1).oneCell' = true
        unfold encG
        rw [hu, hue]; rfl
      have hrd : ∀ (W : World), w.grownBy W (some g) → ∀ r : {r : Int // r ∈ ks}, ∃ gr nr cr, encG f r.1 = .slice (some ⟨gr, 0, none⟩) nr cr ∧ 0 < nr ∧ gr < W.heap.size ∧ W.cell? ⟨gr, 0, none⟩ = some (.int .i64 r.1) := fun W hW r => by
        obtain ⟨h64, hs⟩ := hmem r.1 r.2
        obtain ⟨u, hu⟩ := Option.isSome_iff_exists.1 hs
        have hrow := hR.row r.1 u h64 hu
        have hcur : curS zs ks r.1 = sortI (zs r.1) := by unfold curS; rw [if_pos r.2]
        have hfst := hhd r.1 r.2
        rw [hcur] at hrow
        have hne : u.ownBlock = none ∨ u.ownBlock ≠ some g := by
          refine .inr fun e => ?_
          have := hlow r.1 u g h64 hu e
          omega
        have hrW := hrow.kept hW hne
        have hp0 : 0 < (sortI (zs r.1)).length := (List.getElem?_eq_some_iff.1 hfst).1
        rcases hrW.2 with ⟨_, h0⟩ | ⟨gr, cr, cu, rfl, _, hh', _⟩
        · omega
        · refine ⟨gr, _, cr, by unfold encG; rw [hu]; rfl, hp0, (Array.getElem?_eq_some_iff.1 hh').1, ?_⟩
          have := hrW.cells (g := gr) rfl 0 (.int .i64 r.1) (by rw [List.getElem?_map, hfst]; rfl)
          simpa [Addr.add] using this
      have hcmp : CmpLays1 Tryz.prog 81 #[] (fun r : {r : Int // r ∈ ks} => encG f r.1) (cfG ks) g 0 ks.attach.toArray.size w := fun m os dk hsk x y => by
        have hW := grownBy_sortW (fun r : {r : Int // r ∈ ks} => encG f r.1) (w := w) (g := g) (n := m) (os := os) dk
        obtain ⟨ga, na, ca, e1, p1, l1, c1⟩ := hrd _ hW x
        obtain ⟨gb, nb, cb, e2, p2, l2, c2⟩ := hrd _ hW y
        simp only [e1, e2]
        refine (grp3_any ga na ca gb nb cb x.1 y.1 _ p1 p2 c1 c2 l1 l2).mono ?_
        rintro e w' ⟨rfl, q, rfl⟩
        exact ⟨rfl, q, #[], by rw [grow_empty]⟩
      have hcon := Tryz.slices_SortFunc (fun r : {r : Int // r ∈ ks} => encG f r.1) hone (cfG ks) (swoG ks) 81 #[] g 0 co ks.attach.toArray w eg hcmp hH hgl (by simp; omega)
      rw [List.size_toArray, List.length_attach] at hcon
      refine hcon.mono ?_
      rintro e w' ⟨he, d', q, os, hp, hs, rfl⟩
      have hdz : d'.size = ks.length := by rw [hp.1]; simp
      have hgr := grownBy_sortW (fun r : {r : Int // r ∈ ks} => encG f r.1) (w := w) (g := g) (n := q) (os := os) d'
      refine ⟨he, d'.toList.map (fun r => r.1), ?_, ?_, hgr, ?_, ?_⟩
      · have := hp.2.2
        rw [show d'.extract 0 ks.length = d' from by rw [← hdz]; simp, show ks.attach.toArray.extract 0 ks.length = ks.attach.toArray from by
          simp
          exact List.take_of_length_le (by simp)] at this
        have h2 := this.map (fun r : {r : Int // r ∈ ks} => r.1)
        simpa using h2
      · rw [← hdz] at hs
        rw [List.pairwise_map]
        refine sortedIn_pairwise hs ?_
        intro x y hxy
        rw [ltCfG] at hxy
        simpa using hxy
      · refine ⟨by simp [hdz], .inr ⟨g, co, _, rfl, hg, heap_sortedG _ d' hh, hn, hcap, by simp [putCells, hsz], ?_⟩⟩
        have h3 := take_putCellsG (fun r : {r : Int // r ∈ ks} => encG f r.1) cur d'.toList (by simp [hdz]; omega)
        rw [Nat.mul_one, ← hdz]
        simpa using h3
      · refine hR.other hgr fun r u hr hu e => ?_
        have := hlow r u g hr hu e
        omega
end Go.Proofs.YtccmchmemafjdaaGreatDoor
