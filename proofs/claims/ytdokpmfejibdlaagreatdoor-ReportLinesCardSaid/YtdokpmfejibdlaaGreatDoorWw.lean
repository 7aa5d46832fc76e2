/- Chapter 54: linkage.Matrix. -/
import Derived.Test.YtdokpmfejibdlaaGreatDoorWv
set_option linter.unnecessarySimpa false
set_option linter.unusedSimpArgs false
set_option linter.unusedVariables false
namespace Go.Proofs.YtdokpmfejibdlaaGreatDoor
open Go.RowKit Go.Maps

theorem Tryz.infoRI : (Tryz.prog.info? 36).map (fun i => (i.zero, i.size, i.bytes)) = some (some (.slice none 0 0), 1, 24) := by kernel_rfl
/-! ### The matrix, link by link. -/
def cntT (g : Gr) (j : Nat) (o r : Int) : Int := ((g.links.take j).countP (fun x => x.obv == o && x.rev == r) : Nat)
def rowT (g : Gr) (j : Nat) (o : Int) : List Int := g.rev.map (fun r => cntT g j o r)
def matT (g : Gr) (j : Nat) : List (List Int) := g.obv.map (fun o => rowT g j o)
theorem matT_all (g : Gr) (j : Nat) (h : g.links.length = j) : matT g j = matrixG g := by
  subst h
  unfold matT rowT cntT matrixG cntL
  rw [List.take_length]
theorem matT_zero (g : Gr) : matT g 0 = List.replicate g.obv.length (List.replicate g.rev.length 0) := by
  unfold matT rowT cntT
  simp [List.map_const']
theorem asc_find {l : List Int} (ha : l.Pairwise (· < ·)) {t : Int} (ht : t ∈ l) {i : Nat} (h1 : ∀ x ∈ l.take i, x < t) (h2 : ∀ x ∈ l.drop i, t ≤ x) : l[i]? = some t := by
  obtain ⟨k, hk⟩ := List.getElem?_of_mem ht
  have hkl := (List.getElem?_eq_some_iff.1 hk).1
  rcases Nat.lt_trichotomy k i with h | h | h
  · have : t ∈ l.take i := List.mem_of_getElem? (i := k) (by rw [List.getElem?_take_of_lt h]; exact hk)
    have := h1 t this
    omega
  · rw [← h]; exact hk
  · have hil : i < l.length := by omega
    have h3 : t ≤ l[i] := h2 _ (List.mem_of_getElem? (i := 0) (by rw [List.getElem?_drop]; simpa using List.getElem?_eq_getElem hil))
    have h4 : l[i] < t := by
      have := List.pairwise_iff_getElem.1 ha i k hil hkl h
      rw [List.getElem?_eq_getElem hkl] at hk
      injection hk with hk
      omega
    omega
theorem matT_get {g : Gr} {j i : Nat} {o : Int} (h : g.obv[i]? = some o) : (matT g j)[i]? = some (rowT g j o) := by unfold matT; rw [List.getElem?_map, h]; rfl
theorem rowT_get {g : Gr} {j k : Nat} {o r : Int} (h : g.rev[k]? = some r) : (rowT g j o)[k]? = some (cntT g j o r) := by unfold rowT; rw [List.getElem?_map, h]; rfl
theorem matT_len (g : Gr) (j : Nat) : (matT g j).length = g.obv.length := by unfold matT; simp
theorem rowT_len (g : Gr) (j : Nat) (o : Int) : (rowT g j o).length = g.rev.length := by unfold rowT; simp
theorem cntT_le (g : Gr) (j : Nat) (o r : Int) : 0 ≤ cntT g j o r ∧ cntT g j o r ≤ (j : Int) := by
  unfold cntT
  have h1 := List.countP_le_length (p := fun x : Lnk => x.obv == o && x.rev == r) (l := g.links.take j)
  rw [List.length_take] at h1
  omega
theorem asc_inj {l : List Int} (ha : l.Pairwise (· < ·)) {i k : Nat} {t : Int} (h1 : l[i]? = some t) (h2 : l[k]? = some t) : i = k := by
  have hn : l.Nodup := ha.imp (fun h e => by subst e; omega)
  have hil := (List.getElem?_eq_some_iff.1 h1).1
  exact (List.getElem?_inj hil hn).1 (h1.trans h2.symm)
theorem matT_step {g : Gr} (hg : GrOk g) {j i k : Nat} {x : Lnk} (hx : g.links[j]? = some x) (hi : g.obv[i]? = some x.obv) (hk : g.rev[k]? = some x.rev) :
    matT g (j + 1) = (matT g j).set i ((rowT g j x.obv).set k (cntT g j x.obv x.rev + 1)) := by
  have hil := (List.getElem?_eq_some_iff.1 hi).1
  have hkl := (List.getElem?_eq_some_iff.1 hk).1
  have hcn : ∀ o r, cntT g (j + 1) o r = cntT g j o r + (if o = x.obv ∧ r = x.rev then 1 else 0) := fun o r => by
    unfold cntT
    rw [countP_snocW hx]
    by_cases h1 : o = x.obv
    · by_cases h2 : r = x.rev
      · simp [h1, h2]
      · have : (x.rev == r) = false := by simpa using fun e => h2 e.symm
        simp [h2, this]
    · have : (x.obv == o) = false := by simpa using fun e => h1 e.symm
      simp [h1, this]
  refine List.ext_getElem? fun a => ?_
  by_cases ha : a < g.obv.length
  · obtain ⟨o, ho⟩ : ∃ o, g.obv[a]? = some o := ⟨_, List.getElem?_eq_getElem ha⟩
    rw [matT_get ho]
    by_cases e : i = a
    · subst e
      rw [ho] at hi
      injection hi with hi
      subst hi
      rw [List.getElem?_set_self (by rw [matT_len]; exact hil)]
      congr 1
      refine List.ext_getElem? fun b => ?_
      by_cases hb : b < g.rev.length
      · obtain ⟨r, hr⟩ : ∃ r, g.rev[b]? = some r := ⟨_, List.getElem?_eq_getElem hb⟩
        rw [rowT_get hr, hcn]
        by_cases e2 : k = b
        · subst e2
          rw [hr] at hk
          injection hk with hk
          subst hk
          rw [List.getElem?_set_self (by rw [rowT_len]; exact hkl)]
          simp
        · rw [List.getElem?_set_ne e2, rowT_get hr, if_neg (by rintro ⟨_, e9⟩; exact e2 (asc_inj hg.ar hk (e9 ▸ hr))), Int.add_zero]
      · rw [List.getElem?_eq_none (by rw [rowT_len]; omega), List.getElem?_eq_none (by rw [List.length_set, rowT_len]; omega)]
    · rw [List.getElem?_set_ne e, matT_get ho]
      congr 1
      unfold rowT
      refine List.map_congr_left fun r _ => ?_
      rw [hcn, if_neg (by rintro ⟨e9, _⟩; exact e (asc_inj hg.ao hi (e9 ▸ ho))), Int.add_zero]
  · rw [List.getElem?_eq_none (by rw [matT_len]; omega), List.getElem?_eq_none (by rw [List.length_set, matT_len]; omega)]
theorem encI_flat (xs : List Int) : xs.flatMap encI = xs.map (Value.int .i64) := by
  induction xs with
  | nil => rfl
  | cons x xs ih => rw [List.flatMap_cons, ih]; rfl
/-- A cell of a row is written. -/
theorem RoR.poke {w : World} {base : Nat} {eo e : TypeId} {v : Value} {vs : List Value} {css : List (List Int)} {gr n cap i k : Nat} {cs : List Int} (h : RoR w base eo e 1 encI v vs css) (hne : e ≠ eo) (hu : vs[i]? = some (.slice (some ⟨gr, 0, none⟩) n cap)) (hcs : css[i]? = some cs) (x : Int) :
    RoR (w.setCell ⟨gr, k, none⟩ (.int .i64 x)) base eo e 1 encI v vs (css.set i (cs.set k x)) := by
  have hrow := h.row i _ cs hu hcs
  have hn : n = cs.length := by
    rcases hrow.2 with ⟨h', h0⟩ | ⟨g', cap', cur, h', _⟩
    · simp at h'
    · simp only [Value.slice.injEq] at h'
      exact h'.2.1
  subst hn
  obtain ⟨hst, hgs⟩ := hrow.stored k (.int .i64 x)
  have hil : i < css.length := (List.getElem?_eq_some_iff.1 hcs).1
  have hno : v.ownBlock = none ∨ v.ownBlock ≠ some gr := by
    rcases h.row_out hne hu with h3 | h3
    · cases h3
    · exact .inr (fun e1 => h3 e1.symm)
  refine ⟨by simp [h.len], by rw [List.length_set]; exact h.out.kept hgs hno, fun j u ds h1 h2 => ?_, h.apart⟩
  · by_cases ej : j = i
    · subst ej
      rw [hu] at h1
      injection h1 with h1
      subst h1
      rw [List.getElem?_set_self hil] at h2
      injection h2 with h2
      subst h2
      rw [List.length_set, encI_flat, List.map_set, ← encI_flat]
      exact hst
    · rw [List.getElem?_set_ne (fun e1 => ej e1.symm)] at h2
      exact (h.row j u ds h1 h2).kept hgs (h.apart j i u _ ej h1 hu)
theorem RoR.lt {α : Type} {w : World} {base : Nat} {eo e : TypeId} {sz : Nat} {enc : α → List Value} {v : Value} {vs : List Value} {css : List (List α)} (h : RoR w base eo e sz enc v vs css) {k : Nat} {u : Value} (hu : vs[k]? = some u) {b : Nat} (hb : u.ownBlock = some b) : base ≤ b ∧ b < w.heap.size := by
  have hk := (List.getElem?_eq_some_iff.1 hu).1
  rw [h.len] at hk
  exact (h.row k u _ hu (List.getElem?_eq_getElem hk)).lt b hb
theorem own_some' {w : World} {base : Nat} {e : TypeId} {sz n : Nat} {v : Value} {xs : List Value} (h : w.ownsRow base e sz v n xs) (hn : 0 < n) : ∃ q c, v = .slice (some ⟨q, 0, none⟩) n c := by
  rcases h.2 with ⟨_, h0⟩ | ⟨g', cap', cur, h', _⟩
  · omega
  · exact ⟨g', cap', h'⟩
def MatW (w : World) (css : List (List Int)) (code : Int) (e : Ending) (w' : World) : Prop :=
  (∃ A n c vs, e = .returned (.tuple #[.slice A n c, .int .i64 code]) ∧ n ≤ 64 ∧ n = css.length ∧ RoR w' w.heap.size 36 3 1 encI (.slice A n c) vs css) ∧ Below w.heap.size w w'
set_option maxRecDepth 100000 in
set_option maxHeartbeats 4000000 in
theorem lmatrix_any (A : Option Addr) (n c : Nat) (B : Option Addr) (m d : Nat) (C : Option Addr) (k l : Nat) (g : Gr) (w : World) (hG : GrM w A n B m C k g) (hg : GrOk g) :
    Calls Tryz.prog 46 #[.agg #[.slice A n c, .slice B m d, .slice C k l]] w (MatW w (matrixG g) 0) := by
  have hn : n ≤ 32 := by have := hG.obv.len; have := hg.lo; omega
  have hm : m ≤ 32 := by have := hG.rev.len; have := hg.lr; omega
  have hk : k ≤ 64 := by have := hG.links.len; have := hg.ll; omega
  have HV : Hid (∀ W, Below w.heap.size w W → Calls Tryz.prog 70 #[.agg #[.slice A n c, .slice B m d, .slice C k l]] W fun e w' => e = .returned (.bool true) ∧ Below W.heap.size W w') := fun W hW => lvalid_yes A n c B m d C k l g W (hG.up hW) hg
  have HLO := Lib.hid hG.obv.len
  have HLR := Lib.hid hG.rev.len
  have HLN := Lib.hid hG.links.len
  have HG := Lib.hid hg
  have HL : Hid (∀ W, Below w.heap.size w W → Sl W 0 W.heap.size 3 encL C k g.links) := fun W hW => hG.links.up hW (Nat.le_refl _) (Nat.le_refl _)
  have HBO : Hid (∀ t ∈ g.obv, ∀ W, Below w.heap.size w W → Calls Tryz.prog 87 #[.slice A n c, .int .i64 t] W fun e w' => (∃ i : Nat, e = .returned (.tuple #[.int .i64 (i : Int), .bool true]) ∧ i ≤ n ∧ g.obv[i]? = some t) ∧ w' = W) := fun t ht W hW =>
    (bsearch_any A n c g.obv t W (by omega) (hG.obv.up hW (Nat.le_refl _) (Nat.le_refl _)) hg.ao).mono fun e w' ⟨⟨i, h1, h2, h3, h4⟩, h5⟩ => ⟨⟨i, by rw [h1, decide_eq_true ht], h2, asc_find hg.ao ht h3 h4⟩, h5⟩
  have HBR : Hid (∀ t ∈ g.rev, ∀ W, Below w.heap.size w W → Calls Tryz.prog 87 #[.slice B m d, .int .i64 t] W fun e w' => (∃ i : Nat, e = .returned (.tuple #[.int .i64 (i : Int), .bool true]) ∧ i ≤ m ∧ g.rev[i]? = some t) ∧ w' = W) := fun t ht W hW =>
    (bsearch_any B m d g.rev t W (by omega) (hG.rev.up hW (Nat.le_refl _) (Nat.le_refl _)) hg.ar).mono fun e w' ⟨⟨i, h1, h2, h3, h4⟩, h5⟩ => ⟨⟨i, by rw [h1, decide_eq_true ht], h2, asc_find hg.ar ht h3 h4⟩, h5⟩
  clear hG hg
  obtain ⟨i0, hi, hz0, hz1, hz2⟩ := info_parts Tryz.infoI
  obtain ⟨i1, hj', hy0, hy1, hy2⟩ := info_parts Tryz.infoRI
  go_enter Tryz.func46, Tryz.ntmps46
  go_wp2_with fail
  refine (HV.out _ (by (repeat (first | exact Below.refl _ _ | assumption | refine Below.alloc ?_ (by first | omega | (simp only [World.size_alloc]; omega) | (simp; done) | (simp; omega)) _ | refine Below.setCell ?_ (by first | omega | (simp only [World.size_alloc]; omega) | (simp; done) | (simp; omega)) _ | refine Below.drew ?_ | refine below_drewN ?_ _)))).mono ?_; rintro e w1 ⟨rfl, hb1⟩
  obtain ⟨_, hb, D2⟩ := step1 (vs := [.slice A n c, .slice B m d, .slice C k l]) (Below.refl _ w) hb1
  clear hb1
  have q0 := D2.cell 0 _ rfl
  go_wp2_with fail
  clear q0
  go_loopw [4, 17] (fun v i wr => ∃ (j : Nat) (vs : List Value), j ≤ n ∧ i = .int .i64 (j : Int) ∧ RoR wr (w.heap.size + 1) 36 3 1 encI v vs (List.replicate j (List.replicate m 0)) ∧ Below w.heap.size w wr ∧ Bx wr w.heap.size [.slice A n c, .slice B m d, .slice C k l]) (fun _ i _ => n - (intOf i).toNat)
  case atStart => exact ⟨0, [], by omega, rfl, RoR.nil _ _, hb, D2⟩
  case round =>
    clear hb D2
    obtain ⟨j, vs, hj, rfl, hR, hbr, D2⟩ := hrel
    have hout := hR.out
    rw [List.length_replicate] at hout
    obtain ⟨Ao, co, rfl, hco⟩ := own_form hout
    have hd2 := D2.lt
    by_cases hlt : j < n
    · have q1 := D2.cell 1 _ rfl
      go_wp2_with (first | (refine wpList_make_full _ rfl _ _ 36 rfl (w.heap.size + 1) 3 i0 (.int .i64 0) 1 Tryz.underlying36 hi hz0 hz1 .i64 .i64 _ _ m rfl rfl rfl rfl (by rw [hz2]; omega) (by unfold maxLen; omega) (by omega) ?_; intro w3 hown3 hg3; have hb3 : Below wr.heap.size wr w3 := (⟨hg3.os, hg3.tape, hg3.output, hg3.size, fun k hk => hg3.block k hk (by simp)⟩ : Below wr.heap.size wr w3); have hz3 := (hown3.lt _ rfl).2) | (at_builtin; refine wpList_append_own _ rfl _ _ 75 rfl (w.heap.size + 1) 36 i1 (.slice none 0 0) 1 24 Tryz.underlying75 hj' hy0 hy1 hy2 rfl (by decide) _ _ _ rfl ((own_below' hout hb3).alloc _) ⟨w3.heap.size, 0, none⟩ 1 1 [.slice (some ⟨wr.heap.size, 0, none⟩) m m] rfl rfl ?c1 ?c2 ?c3 ?c4 ?c5 ?_))
      case c2 => simp [Value.oneCell']
      case c3 => unfold maxLen; omega
      case c4 => omega
      case c5 => first | omega | (simp; omega)
      intro v' w6 hown6 hgrow _
      have hrow3 : w3.ownsRow (w.heap.size + 1) 3 1 (.slice (some ⟨wr.heap.size, 0, none⟩) m m) (List.replicate m (0 : Int)).length ((List.replicate m (0 : Int)).flatMap encI) := by
        rw [encI_flat, List.map_replicate, List.length_replicate]
        have h := hown3
        rw [show (Value.int .i64 0).cells = #[Value.int .i64 0] from rfl, Nat.mul_one, toList_madeCells_one] at h
        exact h
      have hR3 := hR.up hb3
      have hR6 := (hR3.up (one_alloc w3 (.cells #[.slice (some ⟨wr.heap.size, 0, none⟩) m m] 36))).push (u := .slice (some ⟨wr.heap.size, 0, none⟩) m m) (cs := List.replicate m 0) (by decide) (by rw [List.length_replicate]; exact hown6) hgrow (hrow3.alloc _)
        (.inr (fun e => by have := (hout.lt wr.heap.size e.symm).2; omega)) (fun q u' hq => .inr (fun e => by have := (hR.lt (b := wr.heap.size) hq e.symm).2; omega))
      rw [← List.replicate_succ'] at hR6
      have hb6 := below_row ((below_keep' hbr hb3).alloc (by have := hbr.size; omega) (.cells #[.slice (some ⟨wr.heap.size, 0, none⟩) m m] 36)) ((own_below' hout hb3).alloc _) hgrow (Nat.le_succ _) (Nat.le_refl _)
      have D6 := ((D2.up hb3).alloc (.cells #[.slice (some ⟨wr.heap.size, 0, none⟩) m m] 36)).grown hgrow (fun e => by have := (hout.lt _ e).1; omega)
      clear hgrow hown6 hR3 hrow3 hown3 hg3 hb3
      go_wp2_with fail
      exact ⟨⟨j + 1, _, by omega, by go_num, hR6, hb6, D6⟩, by simp [intOf]; omega⟩
    · obtain rfl : j = n := by omega
      have hM0 : matT g 0 = List.replicate j (List.replicate m 0) := by rw [matT_zero, HLO.out, HLR.out]
      rw [← hM0] at hR
      have q2 := D2.cell 2 _ rfl
      clear hM0 hout
      go_wp2_with fail
      clear q2
      go_loopw [30] (fun i wq => ∃ q : Nat, q ≤ k ∧ i = .int .i64 (q : Int) ∧ RoR wq (w.heap.size + 1) 36 3 1 encI (.slice Ao j co) vs (matT g q) ∧ Below w.heap.size w wq ∧ Bx wq w.heap.size [.slice A j c, .slice B m d, .slice C k l]) (fun i _ => k - (intOf i).toNat)
      case atStart => exact ⟨0, by omega, rfl, hR, hbr, D2⟩
      case round =>
        clear hR hbr D2 hd2
        obtain ⟨q, hq, rfl, hR, hbq, D2⟩ := hrel
        rename World => wq
        by_cases hlt2 : q < k
        · obtain ⟨bl, ol, x, rfl, hbb, hx, x0, x1, x2⟩ := (HL.out _ hbq).ln hlt2
          have HX := Lib.hid hx; clear hx
          have hxo : x.obv ∈ g.obv := (HG.out.eo _).2 ⟨x, List.mem_of_getElem? HX.out, rfl⟩
          have hxr : x.rev ∈ g.rev := (HG.out.er _).2 ⟨x, List.mem_of_getElem? HX.out, rfl⟩
          have hb7 := below_keep' hbq (one_alloc wq (.cells #[.int .i64 x.id, .int .i64 x.obv, .int .i64 x.rev] 96))
          have HSO := Lib.hid (HBO.out _ hxo _ hb7)
          have HSR := Lib.hid (HBR.out _ hxr _ hb7)
          have q0 := D2.cell 0 _ rfl
          have q1 := D2.cell 1 _ rfl
          have hd2 := D2.lt
          clear hxo hxr
          go_wp2_with fail
          go_fit HSO.out
          rintro e w4 ⟨⟨io, rfl, hio, hio2⟩, rfl⟩
          have HIO := Lib.hid hio2; clear hio2
          go_wp2_with fail
          go_fit HSR.out
          rintro e w4 ⟨⟨ir, rfl, hir, hir2⟩, rfl⟩
          have HIR := Lib.hid hir2; clear hir2 HSO HSR
          have hil : io < j := by have := (List.getElem?_eq_some_iff.1 HIO.out).1; rw [HLO.out] at this; exact this
          have hrl : ir < m := by have := (List.getElem?_eq_some_iff.1 HIR.out).1; rw [HLR.out] at this; exact this
          have HMT := Lib.hid (matT_step HG.out HX.out HIO.out HIR.out)
          have hcnt := cntT_le g q x.obv x.rev
          have hR7 := hR.up (one_alloc wq (.cells #[.int .i64 x.id, .int .i64 x.obv, .int .i64 x.rev] 96))
          have hml : (matT g q).length = j := by rw [matT_len, HLO.out]
          have hout7 := hR7.out
          rw [hml] at hout7
          obtain ⟨go, co', hgo⟩ := own_some' hout7 (by omega)
          injection hgo with hgo1 _ hgo2
          subst hgo1 hgo2
          obtain ⟨u, hu⟩ : ∃ u, vs[io]? = some u := ⟨_, List.getElem?_eq_getElem (by rw [hR.len, hml]; exact hil)⟩
          have hrow := hR7.row io u _ hu (matT_get HIO.out)
          rw [rowT_len, HLR.out] at hrow
          obtain ⟨gr, cr, rfl⟩ := own_some' hrow (by omega)
          have r0 := (hout7.cellAt io (by omega)).trans hu
          have r1 : (wq.alloc (.cells #[.int .i64 x.id, .int .i64 x.obv, .int .i64 x.rev] 96)).cell? ⟨gr, ir, none⟩ = some (.int .i64 (cntT g q x.obv x.rev)) := by
            rw [hrow.cellAt ir (by omega), encI_flat, List.getElem?_map, rowT_get HIR.out]; rfl
          have f1 := hrow.frozenAt ir
          have rl0 := (hout7.lt go rfl).2
          have rl1 := hrow.lt gr rfl
          have hRP := hR7.poke (k := ir) (by decide) hu (matT_get HIO.out) (cntT g q x.obv x.rev + 1)
          rw [← HMT.out] at hRP
          have hbP := hb7.setCell (p := ⟨gr, ir, none⟩) (by have := rl1.1; show w.heap.size ≤ gr; omega) (.int .i64 (cntT g q x.obv x.rev + 1))
          have DP := (D2.alloc (.cells #[.int .i64 x.id, .int .i64 x.obv, .int .i64 x.rev] 96)).far (p := ⟨gr, ir, none⟩) (by have := rl1.1; show gr ≠ w.heap.size; omega) (.int .i64 (cntT g q x.obv x.rev + 1))
          generalize cntT g q x.obv x.rev = cc at *
          clear hrow hout7 hR7 hR hu hb7 D2
          go_wp2_with fail
          exact ⟨⟨q + 1, by omega, by go_num, hRP, hbP, DP⟩, by simp [intOf]; omega⟩
        · obtain rfl : q = k := by omega
          have HMA := Lib.hid (matT_all g q HLN.out)
          have HML : Hid (j = (matrixG g).length) := by show _ = _; rw [← HMA.out, matT_len, HLO.out]
          rw [HMA.out] at hR
          go_wp2_with fail
          go_ret2
          exact ⟨⟨Ao, j, co, vs, by go_num, by omega, HML.out, hR.mono (Nat.le_succ _)⟩, hbq⟩
end Go.Proofs.YtdokpmfejibdlaaGreatDoor
