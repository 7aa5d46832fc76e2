/- CatalogFollows: the law's walk (chapter 47): UNFINISHED. -/
import Derived.Test.YtfanjghfilkhmaaGreatDoorIj
import Derived.Deep.AppendLies
import Derived.Deep.RegionWith
import Derived.IntWalk
set_option linter.unusedSimpArgs false
set_option linter.unusedVariables false
namespace Go.Proofs.YtfanjghfilkhmaaGreatDoor
open Go.RowKit

theorem keepG {w0 w w1 : World} {g o1 o2 o3 o4 : Nat} {a1 a2 a3 a4 : Value} (hg : g < w0.heap.size)
    (h : w.cell? ⟨g, o1, none⟩ = some a1 ∧ w.cell? ⟨g, o2, none⟩ = some a2 ∧ w.cell? ⟨g, o3, none⟩ = some a3 ∧ w.cell? ⟨g, o4, none⟩ = some a4 ∧ Below w0.heap.size w0 w) (hb : Below w.heap.size w w1) :
    w1.cell? ⟨g, o1, none⟩ = some a1 ∧ w1.cell? ⟨g, o2, none⟩ = some a2 ∧ w1.cell? ⟨g, o3, none⟩ = some a3 ∧ w1.cell? ⟨g, o4, none⟩ = some a4 ∧ Below w0.heap.size w0 w1 := by
  obtain ⟨h1, h2, h3, h4, h5⟩ := h
  have hlt : g < w.heap.size := Nat.lt_of_lt_of_le hg h5.size
  exact ⟨(hb.cell (p := ⟨g, o1, none⟩) hlt).trans h1, (hb.cell (p := ⟨g, o2, none⟩) hlt).trans h2, (hb.cell (p := ⟨g, o3, none⟩) hlt).trans h3, (hb.cell (p := ⟨g, o4, none⟩) hlt).trans h4, below_keep' h5 hb⟩
def OffV (g : Nat) (v : Value) : Prop := ∀ b off n c, v = .slice (some ⟨b, off, none⟩) n c → 0 < n → b ≠ g
theorem Sl.grownOff {α : Type} {w w' : World} {k n g : Nat} {enc : α → List Value} {A : Option Addr} {xs : List α} (h : Sl w 0 w.heap.size k enc A n xs) (hg : w.grownBy w' (some g)) (ho : ∀ b off, 0 < n → A = some ⟨b, off, none⟩ → b ≠ g) : Sl w' 0 w'.heap.size k enc A n xs := by
  refine ⟨h.1, fun hn => ?_⟩
  obtain ⟨b, off, e, ha, hb, hc⟩ := h.2 hn
  have hbk := hg.block b hb (fun e2 => ho b off hn e (Option.some.inj e2))
  exact ⟨b, off, e, ha, Nat.lt_of_lt_of_le hb hg.size, fun i x hx j u hu => (World.cell?_of_block (w := w) (a := ⟨b, off + i * k + j, none⟩) hbk).trans (hc i x hx j u hu)⟩
theorem EdS.grownOff {w w' : World} {g n c n' c' : Nat} {A A' : Option Addr} {e : Ed} (h : EdS w A n A' n' e) (hg : w.grownBy w' (some g)) (h1 : OffV g (.slice A n c)) (h2 : OffV g (.slice A' n' c')) : EdS w' A n A' n' e :=
  ⟨Sl.grownOff h.ents hg (fun b off hn e => h1 b off n c (by rw [e]) hn), Sl.grownOff h.ret hg (fun b off hn e => h2 b off n' c' (by rw [e]) hn)⟩
/-- None of the slices lies in block g. -/
def OffL (g : Nat) (vs : List (Value × Value)) : Prop := ∀ q ∈ vs, OffV g q.1 ∧ OffV g q.2
theorem EdL.grownOff {w w' : World} {g : Nat} {vs : List (Value × Value)} {es : List Ed} (h : EdL w vs es) (hg : w.grownBy w' (some g)) (ho : OffL g vs) : EdL w' vs es := by
  refine ⟨h.len, fun i q e hq he => ?_⟩
  obtain ⟨A, n, c, A', n', c', h1, h2, h3, h4, h5⟩ := (h.each i q e hq he).ex
  obtain ⟨o1, o2⟩ := ho q (List.mem_of_getElem? hq)
  rw [h1] at o1
  rw [h2] at o2
  exact ⟨A, n, c, A', n', c', h1, h2, h3, h4, h5.grownOff hg o1 o2⟩
/-- A new block is none of theirs. -/
theorem EdL.offNew {w : World} {vs : List (Value × Value)} {es : List Ed} (h : EdL w vs es) {g : Nat} (hg : w.heap.size ≤ g) : OffL g vs := by
  intro q hq
  obtain ⟨i, hi⟩ := List.getElem?_of_mem hq
  have hl := (List.getElem?_eq_some_iff.1 hi).1
  obtain ⟨A, n, c, A', n', c', h1, h2, h3, h4, h5⟩ := (h.each i q (es[i]'(by rw [← h.len]; exact hl)) hi (List.getElem?_eq_getElem (by rw [← h.len]; exact hl))).ex
  constructor
  · intro b off m d e hm
    rw [h1] at e
    injection e with e1 e2 e3
    subst e2
    obtain ⟨b', off', k1, k2, k3, _⟩ := h5.ents.2 hm
    rw [e1] at k1
    injection k1 with k1
    injection k1 with k4
    omega
  · intro b off m d e hm
    rw [h2] at e
    injection e with e1 e2 e3
    subst e2
    obtain ⟨b', off', k1, k2, k3, _⟩ := h5.ret.2 hm
    rw [e1] at k1
    injection k1 with k1
    injection k1 with k4
    omega
theorem keepJ {w0 w w1 : World} {g b o1 o2 o3 : Nat} {a1 a2 a3 : Value} (hg : g < w0.heap.size) (hb' : b < w0.heap.size)
    (h : w.cell? ⟨g, o1, none⟩ = some a1 ∧ w.cell? ⟨g, o2, none⟩ = some a2 ∧ w.cell? ⟨b, o3, none⟩ = some a3 ∧ Below w0.heap.size w0 w) (hb : Below w.heap.size w w1) :
    w1.cell? ⟨g, o1, none⟩ = some a1 ∧ w1.cell? ⟨g, o2, none⟩ = some a2 ∧ w1.cell? ⟨b, o3, none⟩ = some a3 ∧ Below w0.heap.size w0 w1 := by
  obtain ⟨h1, h2, h3, h5⟩ := h
  have hlt : g < w.heap.size := Nat.lt_of_lt_of_le hg h5.size
  have hlb : b < w.heap.size := Nat.lt_of_lt_of_le hb' h5.size
  exact ⟨(hb.cell (p := ⟨g, o1, none⟩) hlt).trans h1, (hb.cell (p := ⟨g, o2, none⟩) hlt).trans h2, (hb.cell (p := ⟨b, o3, none⟩) hlb).trans h3, below_keep' h5 hb⟩
theorem size_of {w0 w1 : World} {z : Nat} (hz : z ≤ w0.heap.size) (hb : Below w0.heap.size w0 w1) : z ≤ w1.heap.size := Nat.le_trans hz hb.size
theorem offV_range {w : World} {α : Type} {k n c L g : Nat} {enc : α → List Value} {A : Option Addr} {xs : List α} (h : Sl w L w.heap.size k enc A n xs) (hg : g < L ∨ w.heap.size ≤ g) : OffV g (.slice A n c) := by
  intro b off m d e hm
  injection e with e1 e2 e3
  subst e2
  obtain ⟨b', off', k1, k2, k3, _⟩ := h.2 hm
  rw [e1] at k1
  injection k1 with k1
  injection k1 with k4
  omega
set_option maxRecDepth 100000 in
set_option maxHeartbeats 8000000 in
theorem follows_law (A : Option Addr) (n c : Nat) (A' : Option Addr) (n' c' : Nat) (e : Ed) (K : Option Addr) (nk ck : Nat) (ks : List Value) (w : World) (hE : Env w) (hS : EdS w A n A' n' e) (hK : Sl w 0 w.heap.size 1 (fun v => [v]) K nk ks)
    (hKs : ∀ v ∈ ks, ∃ (a' : Option Addr) (l' cc : Nat) (zs : List Int), v = .slice a' l' cc ∧ Sl w 0 w.heap.size 1 encI a' l' zs ∧ l' ≤ maxLen) :
    Calls Tryz.prog 4 #[.agg #[.slice A n c, .slice A' n' c'], .slice K nk ck] w fun r w' => r = .returned (.bool true) ∧ Below w.heap.size w w' := by
  have HLK := Lib.hid hK.len
  have HEN : Hid (∀ W, Below w.heap.size w W → Env W) := fun W hW => hE.step hW
  have HU : Hid (∀ W, Below w.heap.size w W → EdS W A n A' n' e) := fun W hW => hS.up hW
  have HKU : Hid (∀ W, Below w.heap.size w W → Sl W 0 W.heap.size 1 (fun v => [v]) K nk ks) := fun W hW => hK.up hW (Nat.le_refl _) (Nat.le_refl _)
  have HKS : Hid (∀ W, Below w.heap.size w W → ∀ v ∈ ks, ∃ (a' : Option Addr) (l' cc : Nat) (zs : List Int), v = .slice a' l' cc ∧ Sl W 0 W.heap.size 1 encI a' l' zs ∧ l' ≤ maxLen) := fun W hW v hv => by
    obtain ⟨a', l', cc, zs, h1, h2, h3⟩ := hKs v hv
    exact ⟨a', l', cc, zs, h1, h2.up hW (Nat.le_refl _) (Nat.le_refl _), h3⟩
  clear hE hS hK hKs
  obtain ⟨i0, hi, hz0, hz1, hz2⟩ := info_parts Tryz.infoD
  go_enter Tryz.func4, Tryz.ntmps4
  go_wp2_with fail
  refine (awake_any _ (HEN.out _ (by (repeat (first | exact Below.refl _ _ | assumption | refine Below.alloc ?_ (by first | omega | (simp only [World.size_alloc]; omega) | (simp; done) | (simp; omega)) _ | refine Below.setCell ?_ (by first | omega | (simp only [World.size_alloc]; omega) | (simp; done) | (simp; omega)) _ | refine Below.drew ?_ | refine below_drewN ?_ _))))).mono ?_; rintro r w1 ⟨rfl, hb1⟩
  obtain ⟨_, hb, Z⟩ := step1 (Below.refl _ w) hb1
  clear hb1
  have Z0 := Z.cell 0 _ rfl; have Z1 := Z.cell 1 _ rfl; have Zlt := Z.lt
  go_wp2_with fail
  refine (few_any A n c A' n' c' _).mono ?_; rintro r w2 ⟨rfl, hb2⟩
  (replace hb := hb.trans (hb2.mono hb.size)); replace Z := Z.up hb2; clear hb2; (try clear Z0); (try clear Z1); (try clear Zlt)
  cases h1 : (decide (n ≤ 100) && decide (n' ≤ 100))
  · clear h1
    go_wp2_with fail
    refine (awake_any _ (HEN.out _ hb)).mono ?_; rintro r w3 ⟨rfl, hb3⟩
    (replace hb := hb.trans (hb3.mono hb.size)); clear hb3
    go_wp2_with fail
    go_ret
    exact ⟨rfl, hb⟩
  by_cases hk6 : 6 < nk
  · clear h1
    go_wp2_with fail
    refine (awake_any _ (HEN.out _ hb)).mono ?_; rintro r w3 ⟨rfl, hb3⟩
    (replace hb := hb.trans (hb3.mono hb.size)); clear hb3
    go_wp2_with fail
    go_ret
    exact ⟨rfl, hb⟩
  rw [Bool.and_eq_true, decide_eq_true_iff, decide_eq_true_iff] at h1
  have hn : n ≤ 1000000 := by omega
  have hn' : n' ≤ 1000000 := by omega
  clear h1
  have hLE : EdL w2 [(.slice A n c, .slice A' n' c')] [e] := EdL.one ⟨⟨A, n, c, A', n', c', rfl, rfl, hn, hn', HU.out _ hb⟩⟩
  have hO : (w2.alloc (.cells #[.slice A n c, .slice A' n' c'] 25)).ownsRow w2.heap.size 25 2 (.slice (some ⟨w2.heap.size, 0, none⟩) 1 1) 1 [.slice A n c, .slice A' n' c'] := World.ownsRow_lit w2 #[.slice A n c, .slice A' n' c'] 1 (Nat.le_refl _) (by unfold maxLen; omega) rfl
  have Z0 := Z.cell 0 _ rfl; have Z1 := Z.cell 1 _ rfl; have Zlt := Z.lt
  go_wp2_with fail
  have hb0 : Below w.heap.size w (w2.alloc (.cells #[.slice A n c, .slice A' n' c'] 25)) := hb.alloc hb.size _
  have hz0' : w2.heap.size ≤ (w2.alloc (.cells #[.slice A n c, .slice A' n' c'] 25)).heap.size := by simp
  have hOF : ∀ g, (Value.slice (some ⟨w2.heap.size, 0, none⟩) 1 1).ownBlock = some g → OffL g [(.slice A n c, .slice A' n' c')] := fun g hg => by
    cases hg
    exact hLE.offNew (Nat.le_refl _)
  replace hLE := hLE.up (one_alloc w2 (.cells #[.slice A n c, .slice A' n' c'] 25))
  generalize w2.alloc (.cells #[.slice A n c, .slice A' n' c'] 25) = W0 at *
  go_loopw [5, 6] (fun v s wr => ∃ (k : Nat) (vs : List (Value × Value)) (es : List Ed), k ≤ nk ∧ s = .int .i64 (k : Int) ∧ vs.length ≤ k + 1 ∧ wr.ownsRow w2.heap.size 25 2 v vs.length (vs.flatMap encP) ∧ EdL wr vs es ∧ Chain es ∧ (∀ g, v.ownBlock = some g → OffL g vs) ∧ Below w.heap.size w wr ∧ w2.heap.size ≤ wr.heap.size) (fun _ s _ => nk - (intOf s).toNat)
  case atStart => exact ⟨0, [(.slice A n c, .slice A' n' c')], [e], by omega, rfl, by simp, hO, hLE, Chain.one e, hOF, hb0, hz0'⟩
  case round =>
    clear hb hb0 hLE hO hOF hz0' Z Z0 Z1
    obtain ⟨k, vs, es, hk, rfl, hvl, hown, hLE, hCH, hOF, hb, hz⟩ := hrel
    by_cases hlt : k < nk
    · obtain ⟨bk, offk, v, hKA, _, hbk, hv, d0⟩ := Sl.one_ (enc := fun v => v) (HKU.out _ hb) hlt
      subst hKA
      obtain ⟨ak, lk, ck', zs, rfl, hSz, hlm⟩ := HKS.out _ hb v (List.mem_of_getElem? hv)
      clear hv
      by_cases hl100 : 100 < lk
      · go_wp2_with fail
        go_ret
        exact ⟨rfl, hb⟩
      have hlk : lk ≤ 1000000 := by omega
      have hvp : 0 < vs.length := by rw [hLE.len]; exact List.length_pos_iff.2 hCH.ne
      obtain ⟨m, hm⟩ : ∃ m, vs.length = m + 1 := ⟨vs.length - 1, by omega⟩
      rw [hm] at hown
      obtain ⟨g, cl, rfl⟩ := ownsRow_succ hown
      obtain ⟨b2, off2, q, hA2, _, hb2, hq, hcq⟩ := (Sl.of_own (enc := encP) encP_len hown hm).at_ (i := m) (by omega)
      cases hA2
      obtain ⟨el, hel⟩ : ∃ el, es[m]? = some el := ⟨es[m]'(by have := hLE.len; omega), List.getElem?_eq_getElem (by have := hLE.len; omega)⟩
      obtain ⟨A1, n1, c1, A2, n2, c2, hq1, hq2, hn1, hn2, hE1⟩ := (hLE.each m q el hq hel).ex
      have e0 := hcq 0 _ rfl
      have e1 := hcq 1 _ rfl
      rw [hq1] at e0
      rw [hq2] at e1
      clear hcq
      have hbg := hb2
      simp only [Nat.zero_add, Nat.add_zero] at e0 e1
      have hm8 : m < 8 := by omega
      have hm9 : (m : Int) < (m : Int) + 1 := by omega
      have hm0 : (0 : Int) ≤ (m : Int) := by omega
      have hmw : IntKind.i64.wrap (m : Int) = (m : Int) := IntWalk.i64_in _ (by omega)
      have HSZ := Lib.hid hSz; clear hSz
      have HNW : Hid (∀ V, Below wr.heap.size wr V → Calls Tryz.prog 13 #[.agg #[.slice A1 n1 c1, .slice A2 n2 c2], .slice ak lk ck'] V (EdNew V (nextE 1 6 2 el zs).1 (nextE 1 6 2 el zs).2)) := fun V hV =>
        pnext_new A1 n1 c1 A2 n2 c2 el ak lk ck' zs V hn1 hn2 hlk (hE1.up hV) (HSZ.out.up hV (Nat.le_refl _) (Nat.le_refl _))
      have e0d : wr.drew.cell? ⟨g, m * 2, none⟩ = some (.slice A1 n1 c1) := e0
      have e1d : wr.drew.cell? ⟨g, m * 2 + 1, none⟩ = some (.slice A2 n2 c2) := e1
      have d0d : wr.drew.cell? ⟨bk, offk + k, none⟩ = some (.slice ak lk ck') := d0
      have hbkw : bk < wr.heap.size := hbk
      by_cases hok : NextOk el zs
      · have HNX : Hid (∀ V, Below wr.heap.size wr V → Calls Tryz.prog 13 #[.agg #[.slice A1 n1 c1, .slice A2 n2 c2], .slice ak lk ck'] V (EdNew V (nextOf el zs) 0)) := fun V hV => by
          have h := HNW.out V hV
          rwa [nextE_ok hok] at h
        clear HNW
        have HOK := Lib.hid hok; clear hok
        have HEL := Lib.hid hel; clear hel
        have HC2 : Hid (Chain (es ++ [nextOf el zs])) := hCH.snoc (by rw [show es.length - 1 = m from by have := hLE.len; omega]; exact HEL.out) HOK.out
        have hlens := valid_lens (next_valid HOK.out)
        generalize nextOf el zs = X at *
        clear HOK HEL HSZ hE1 hCH
        go_wp2_with fail
        go_region_with (go_at_call 13; refine (HNX.out _ (by (repeat (first | exact Below.refl _ _ | assumption | refine Below.alloc ?_ (by first | omega | (simp only [World.size_alloc]; omega) | (simp; done) | (simp; omega)) _ | refine Below.setCell ?_ (by first | omega | (simp only [World.size_alloc]; omega) | (simp; done) | (simp; omega)) _ | refine Below.drew ?_ | refine below_drewN ?_ _)))).mono ?_; rintro r w4 ⟨⟨P, p, q', P', p', q'', rfl, hP, hP1, hP2⟩, hb4⟩; have hb5 : Below wr.heap.size wr w4 := below_keep' (by (repeat (first | exact Below.refl _ _ | assumption | refine Below.alloc ?_ (by first | omega | (simp only [World.size_alloc]; omega) | (simp; done) | (simp; omega)) _ | refine Below.setCell ?_ (by first | omega | (simp only [World.size_alloc]; omega) | (simp; done) | (simp; omega)) _ | refine Below.drew ?_ | refine below_drewN ?_ _))) hb4; have hs5 := hb5.size; (first | (have Zb : Bx w4 wr.heap.size [.slice none 0 0, .slice none 0 0] := ((Bx.new wr [.slice none 0 0, .slice none 0 0] 25).up (Below.drew (Below.refl _ _))).up hb4; have Zb0 := Zb.cell 0 _ rfl; have Zb1 := Zb.cell 1 _ rfl; have Zf0 := Zb.frz 0; have Zf1 := Zb.frz 1; have Zlt := Zb.lt) | skip))
        all_goals
          have pl : p ≤ 1000000 := by have := hP.ents.len; omega
          have pl' : p' ≤ 1000000 := by have := hP.ret.len; omega
          have o1 : OffV g (.slice P p q') := offV_range hP1 (.inl (by first | (simp; omega) | (simp; done)))
          have o2 : OffV g (.slice P' p' q'') := offV_range hP2 (.inl (by first | (simp; omega) | (simp; done)))
          first
            | (have b5 : Below wr.heap.size wr ((w4.setCell ⟨wr.heap.size, 0, none⟩ (.slice P p q')).setCell ⟨wr.heap.size, 1, none⟩ (.slice P' p' q'')) := by (repeat (first | exact Below.refl _ _ | assumption | refine Below.alloc ?_ (by first | omega | (simp only [World.size_alloc]; omega) | (simp; done) | (simp; omega)) _ | refine Below.setCell ?_ (by first | omega | (simp only [World.size_alloc]; omega) | (simp; done) | (simp; omega)) _ | refine Below.drew ?_ | refine below_drewN ?_ _))
               have Z5 := Zb.all2 (.slice P p q') (.slice P' p' q'')
               have S5 : EdS ((w4.setCell ⟨wr.heap.size, 0, none⟩ (.slice P p q')).setCell ⟨wr.heap.size, 1, none⟩ (.slice P' p' q'')) P p P' p' X := ⟨((hP1.set_ (by simp) _).set_ (by simp) _).any.more (by simp [size_set]), ((hP2.set_ (by simp) _).set_ (by simp) _).any.more (by simp [size_set])⟩
               clear Zb Zb0 Zb1 Zf0 Zf1 Zlt
               generalize ((w4.setCell ⟨wr.heap.size, 0, none⟩ (.slice P p q')).setCell ⟨wr.heap.size, 1, none⟩ (.slice P' p' q'')) = W5 at *
               generalize hbx : wr.heap.size = bx at Z5 ⊢
               clear hbx)
            | (have b5 : Below wr.heap.size wr (w4.alloc (.cells #[.slice P p q', .slice P' p' q''] 25)) := by (repeat (first | exact Below.refl _ _ | assumption | refine Below.alloc ?_ (by first | omega | (simp only [World.size_alloc]; omega) | (simp; done) | (simp; omega)) _ | refine Below.setCell ?_ (by first | omega | (simp only [World.size_alloc]; omega) | (simp; done) | (simp; omega)) _ | refine Below.drew ?_ | refine below_drewN ?_ _))
               have Z5 := Bx.new w4 [.slice P p q', .slice P' p' q''] 25
               have S5 : EdS (w4.alloc (.cells #[.slice P p q', .slice P' p' q''] 25)) P p P' p' X := hP.up (one_alloc w4 (.cells #[.slice P p q', .slice P' p' q''] 25))
               generalize w4.alloc (.cells #[.slice P p q', .slice P' p' q''] 25) = W5 at *
               generalize hbx : w4.heap.size = bx at Z5 ⊢
               clear hbx)
          clear hb4 hb5 hs5 hP hP1 hP2
          have hown5 := own_below' hown b5
          have hLE5 := hLE.up b5
          have z5 := b5.size
          have hgl5 : g < W5.heap.size := (hown5.lt g rfl).2
          have HOF5 : Hid (OffL g vs) := hOF g rfl
          clear hown hLE hOF
          have Z50 := Z5.cell 0 _ rfl; have Z51 := Z5.cell 1 _ rfl; have Z5lt := Z5.lt
          go_wp2_with (at_builtin; refine wpList_append_lies _ rfl _ _ 34 rfl w2.heap.size 25 i0 (.agg #[.slice none 0 0, .slice none 0 0]) 2 48 Tryz.underlying34 hi hz0 hz1 hz2 rfl (by decide) _ _ _ rfl (hown5.alloc _) ⟨W5.heap.size, 0, none⟩ 1 1 [.slice P p q', .slice P' p' q''] rfl rfl ?c1 ?c2 ?c6 ?c3 ?c4 ?c5 _ rfl ?_)
          case c1 => exact cell_list_at rfl _ _
          case c2 => simp [Value.oneCell']
          case c6 => omega
          case c3 => unfold maxLen; omega
          case c4 => omega
          case c5 => simp; omega
          · intro g' cap w6 hown6 hgrow hat hlt6
            have hE6 : EdL w6 vs es := (hLE5.up (one_alloc _ _)).grownOff hgrow HOF5.out
            have S6 : EdS w6 P p P' p' X := (S5.up (one_alloc _ _)).grownOff hgrow o1 o2
            have hb6 : Below w2.heap.size wr w6 := Below.grown ((b5.mono hz).alloc (by omega) _) hgrow (by simp; omega) (fun g hg => (hown5.lt g hg).1)
            have hof6 : OffL g' (vs ++ [(.slice P p q', .slice P' p' q'')]) := by
              intro qq hqq
              rcases hat with hat | hat
              · have hgg : g = g' := by injection hat
                rw [← hgg]
                rcases List.mem_append.1 hqq with h | h
                · exact HOF5.out qq h
                · rw [List.mem_singleton] at h
                  rw [h]
                  exact ⟨o1, o2⟩
              · have hle : W5.heap.size ≤ g' := by rw [hat]; simp
                rcases List.mem_append.1 hqq with h | h
                · exact hLE5.offNew hle qq h
                · rw [List.mem_singleton] at h
                  rw [h]
                  exact ⟨offV_range S5.ents (.inr hle), offV_range S5.ret (.inr hle)⟩
            have hz6 := hb6.size
            have hbw : Below w.heap.size w w6 := hb.trans (hb6.mono (by omega))
            clear hb6 hgrow hat hLE5 S5 Z50 Z51 Z5lt
            go_wp2_with fail
            go_roundw
            case rel => exact ⟨k + 1, vs ++ [(.slice P p q', .slice P' p' q'')], es ++ [X], by omega, by go_num, by simp; omega, by rw [List.flatMap_append, List.length_append, hm]; exact hown6, hE6.snoc (q := (.slice P p q', .slice P' p' q'')) ⟨⟨P, p, q', P', p', q'', rfl, rfl, pl, pl', S6⟩⟩, HC2.out, fun gg hgg => by cases hgg; exact hof6, hbw, by omega⟩
            case measure => simp [intOf]; omega
      · have hx0 := nextE_zero (cArg := 1) (cFull := 6) (cRange := 2) hok
        have hx1 : (nextE 1 6 2 el zs).2 ≠ 0 := fun h => hok ((nextE_not (by decide) (by decide) (by decide)).1 h)
        have HNX : Hid (∀ V, Below wr.heap.size wr V → Calls Tryz.prog 13 #[.agg #[.slice A1 n1 c1, .slice A2 n2 c2], .slice ak lk ck'] V (EdNew V edZero (nextE 1 6 2 el zs).2)) := fun V hV => by
          have h := HNW.out V hV
          rwa [hx0] at h
        clear HNW
        generalize (nextE 1 6 2 el zs).2 = cd at *
        have hd : (cd == 0) = false := by simpa using hx1
        clear hok hx0 hx1
        go_wp2_with fail
        go_region_with (go_at_call 13; refine (HNX.out _ (by (repeat (first | exact Below.refl _ _ | assumption | refine Below.alloc ?_ (by first | omega | (simp only [World.size_alloc]; omega) | (simp; done) | (simp; omega)) _ | refine Below.setCell ?_ (by first | omega | (simp only [World.size_alloc]; omega) | (simp; done) | (simp; omega)) _ | refine Below.drew ?_ | refine below_drewN ?_ _)))).mono ?_; rintro r w4 ⟨⟨P, p, q', P', p', q'', rfl, hP, hP1, hP2⟩, hb4⟩; have hb5 : Below wr.heap.size wr w4 := below_keep' (by (repeat (first | exact Below.refl _ _ | assumption | refine Below.alloc ?_ (by first | omega | (simp only [World.size_alloc]; omega) | (simp; done) | (simp; omega)) _ | refine Below.setCell ?_ (by first | omega | (simp only [World.size_alloc]; omega) | (simp; done) | (simp; omega)) _ | refine Below.drew ?_ | refine below_drewN ?_ _))) hb4; have hs5 := hb5.size; (first | (have Zb : Bx w4 wr.heap.size [.slice none 0 0, .slice none 0 0] := ((Bx.new wr [.slice none 0 0, .slice none 0 0] 25).up (Below.drew (Below.refl _ _))).up hb4; have Zb0 := Zb.cell 0 _ rfl; have Zb1 := Zb.cell 1 _ rfl; have Zf0 := Zb.frz 0; have Zf1 := Zb.frz 1; have Zlt := Zb.lt) | skip))
        all_goals
          go_wp2_with fail
          go_roundw
          case rel => exact ⟨k + 1, vs, es, by omega, by go_num, by omega, by rw [hm]; exact own_below' hown (by (repeat (first | exact Below.refl _ _ | assumption | refine Below.alloc ?_ (by first | omega | (simp only [World.size_alloc]; omega) | (simp; done) | (simp; omega)) _ | refine Below.setCell ?_ (by first | omega | (simp only [World.size_alloc]; omega) | (simp; done) | (simp; omega)) _ | refine Below.drew ?_ | refine below_drewN ?_ _))), hLE.up (by (repeat (first | exact Below.refl _ _ | assumption | refine Below.alloc ?_ (by first | omega | (simp only [World.size_alloc]; omega) | (simp; done) | (simp; omega)) _ | refine Below.setCell ?_ (by first | omega | (simp only [World.size_alloc]; omega) | (simp; done) | (simp; omega)) _ | refine Below.drew ?_ | refine below_drewN ?_ _))), hCH, hOF, hb.trans (Below.mono (by (repeat (first | exact Below.refl _ _ | assumption | refine Below.alloc ?_ (by first | omega | (simp only [World.size_alloc]; omega) | (simp; done) | (simp; omega)) _ | refine Below.setCell ?_ (by first | omega | (simp only [World.size_alloc]; omega) | (simp; done) | (simp; omega)) _ | refine Below.drew ?_ | refine below_drewN ?_ _))) hb.size), size_of hz (by (repeat (first | exact Below.refl _ _ | assumption | refine Below.alloc ?_ (by first | omega | (simp only [World.size_alloc]; omega) | (simp; done) | (simp; omega)) _ | refine Below.setCell ?_ (by first | omega | (simp only [World.size_alloc]; omega) | (simp; done) | (simp; omega)) _ | refine Below.drew ?_ | refine below_drewN ?_ _)))⟩
          case measure => simp [intOf]; omega
    · obtain rfl : k = nk := by omega
      have hvp : 0 < vs.length := by rw [hLE.len]; exact List.length_pos_iff.2 hCH.ne
      obtain ⟨m, hm⟩ : ∃ m, vs.length = m + 1 := ⟨vs.length - 1, by omega⟩
      have hm7 : m ≤ 6 := by omega
      rw [hm] at hown
      obtain ⟨g, cl, rfl⟩ := ownsRow_succ hown
      have hSL := Sl.of_own (enc := encP) encP_len hown hm
      have hgl : g < wr.heap.size := (hown.lt g rfl).2
      obtain ⟨WF, rfl⟩ : ∃ W, W = wr := ⟨wr, rfl⟩
      have HAT : Hid (∀ i < m + 1, ∃ (A1 : Option Addr) (n1 c1 : Nat) (A2 : Option Addr) (n2 c2 : Nat) (e1 : Ed), es[i]? = some e1 ∧ WF.cell? ⟨g, i * 2, none⟩ = some (.slice A1 n1 c1) ∧ WF.cell? ⟨g, i * 2 + 1, none⟩ = some (.slice A2 n2 c2) ∧ n1 ≤ 1000000 ∧ n2 ≤ 1000000 ∧ EdS WF A1 n1 A2 n2 e1) := fun i hi => by
        obtain ⟨b2, off2, q, hA2, _, hb2, hq, hcq⟩ := hSL.at_ hi
        cases hA2
        obtain ⟨el, hel⟩ : ∃ el, es[i]? = some el := ⟨es[i]'(by have := hLE.len; omega), List.getElem?_eq_getElem (by have := hLE.len; omega)⟩
        obtain ⟨A1, n1, c1, A2, n2, c2, hq1, hq2, hn1, hn2, hE1⟩ := (hLE.each i q el hq hel).ex
        have e0 := hcq 0 _ rfl
        have e1 := hcq 1 _ rfl
        rw [hq1] at e0
        rw [hq2] at e1
        simp only [Nat.zero_add, Nat.add_zero] at e0 e1
        exact ⟨A1, n1, c1, A2, n2, c2, el, hel, e0, e1, hn1, hn2, hE1⟩
      have HFOL : Hid (∀ (i : Nat) (a b : Ed), es[i]? = some a → es[i + 1]? = some b → folB a b = true) := fun i a b h1 h2 => decide_eq_true (hCH.fol i a b h1 h2)
      have HKEY : Hid (∀ (i d : Nat) (a b : Ed), es[i]? = some a → es[i + d]? = some b → 1 ≤ d → validE b ∧ ∀ x ∈ a.ents, ∀ key, ownE b x.2 = some key → key = x.1) := fun i d a b h1 h2 hd => by
        have hl := (List.getElem?_eq_some_iff.1 h2).1
        have hv := hCH.val (by omega)
        exact ⟨hv b (List.mem_of_getElem? h2), fun x hx key hk => chain_own hCH.fol hv h1 h2 hx hk⟩
      clear hown hLE hCH hSL hm hOF
      have hbF := hb; clear hb
      go_wp2_with fail
      go_loopw [9] (fun s wr => ∃ i : Nat, i ≤ m + 1 ∧ s = .int .i64 (i : Int) ∧ Below WF.heap.size WF wr) (fun s _ => m + 1 - (intOf s).toNat)
      case atStart => exact ⟨0, by omega, rfl, Below.refl _ _⟩
      case round =>
        obtain ⟨i, hi, rfl, hbi⟩ := hrel
        by_cases hli : i < m + 1
        · obtain ⟨A1, n1, c1, A2, n2, c2, e1, he1, x0, x1, hn1, hn2, hE1⟩ := HAT.out i hli
          have HE1 : Hid (∀ V, Below WF.heap.size WF V → EdS V A1 n1 A2 n2 e1) := fun V hV => hE1.up hV
          have HI1 := Lib.hid he1; clear he1 hE1
          have hib : (i : Int) < (m : Int) + 1 := by omega
          go_wp2_with fail
          go_loopw [10] (fun s wr => ∃ k : Nat, i + 1 ≤ k ∧ k ≤ m + 1 ∧ s = .int .i64 (k : Int) ∧ Below WF.heap.size WF wr) (fun s _ => m + 1 - (intOf s).toNat)
          case atStart => exact ⟨i + 1, by omega, by omega, by go_num, hbi⟩
          case round =>
            clear hbi
            obtain ⟨k, hk1, hk2, rfl, hbk⟩ := hrel
            by_cases hlk : k < m + 1
            · obtain ⟨B1, p1, d1, B2, p2, d2, e2, he2, y0, y1, hp1, hp2, hE2⟩ := HAT.out k hlk
              have HE2 : Hid (∀ V, Below WF.heap.size WF V → EdS V B1 p1 B2 p2 e2) := fun V hV => hE2.up hV
              have HOWN : Hid (validE e2 ∧ ∀ x ∈ e1.ents, ∀ key, ownE e2 x.2 = some key → key = x.1) := HKEY.out i (k - i) e1 e2 HI1.out (by rw [show i + (k - i) = k from by omega]; exact he2) (by omega)
              have HF1 : Hid (k = i + 1 → ∀ V, Below WF.heap.size WF V → Calls Tryz.prog 18 #[.agg #[.slice A1 n1 c1, .slice A2 n2 c2], .agg #[.slice B1 p1 d1, .slice B2 p2 d2]] V fun r w' => r = .returned (.bool true) ∧ Below V.heap.size V w') := fun hki V hV => by
                have h := pfollows_any A1 n1 c1 A2 n2 c2 e1 B1 p1 d1 B2 p2 d2 e2 V hn1 hn2 hp1 hp2 (HE1.out V hV) (HE2.out V hV)
                rwa [HFOL.out i e1 e2 HI1.out (by rw [← hki]; exact he2)] at h
              have HK1 : Hid (∀ (num : Int) V, Below WF.heap.size WF V → Calls Tryz.prog 19 #[.agg #[.slice B1 p1 d1, .slice B2 p2 d2], .int .i64 num] V fun r w' => r = .returned (keyV e2 num) ∧ Below V.heap.size V w') := fun num V hV => key_any B1 p1 d1 B2 p2 d2 e2 num V hp1 hp2 (HE2.out V hV)
              clear he2 hE2
              have z0 : wr.cell? ⟨g, i * 2, none⟩ = some (.slice A1 n1 c1) := (hbk.cell (p := ⟨g, i * 2, none⟩) hgl).trans x0
              have z1 : wr.cell? ⟨g, i * 2 + 1, none⟩ = some (.slice A2 n2 c2) := (hbk.cell (p := ⟨g, i * 2 + 1, none⟩) hgl).trans x1
              have u0 : wr.cell? ⟨g, k * 2, none⟩ = some (.slice B1 p1 d1) := (hbk.cell (p := ⟨g, k * 2, none⟩) hgl).trans y0
              have u1 : wr.cell? ⟨g, k * 2 + 1, none⟩ = some (.slice B2 p2 d2) := (hbk.cell (p := ⟨g, k * 2 + 1, none⟩) hgl).trans y1
              have hgw : g < wr.heap.size := Nat.lt_of_lt_of_le hgl hbk.size
              have hw1 : IntKind.i64.wrap ((i : Int) + 1) = (i : Int) + 1 := IntWalk.i64_in _ (by omega)
              have hkb : (k : Int) < (m : Int) + 1 := by omega
              have hk0 : (0 : Int) ≤ (k : Int) := by omega
              have hi0 : (0 : Int) ≤ (i : Int) := by omega
              by_cases hki : k = i + 1
              · have hke : ((k : Int) == (i : Int) + 1) = true := by rw [beq_iff_eq]; omega
                have HF2 := Lib.hid (HF1.out hki)
                clear HF1 hki
                go_wp2_with fail
                go_region_held3 (fun U => U.cell? ⟨g, i * 2, none⟩ = some (.slice A1 n1 c1) ∧ U.cell? ⟨g, i * 2 + 1, none⟩ = some (.slice A2 n2 c2) ∧ U.cell? ⟨g, k * 2, none⟩ = some (.slice B1 p1 d1) ∧ U.cell? ⟨g, k * 2 + 1, none⟩ = some (.slice B2 p2 d2) ∧ Below wr.heap.size wr U)
                  (first | exact ⟨z0, z1, u0, u1, Below.drew (Below.refl _ _)⟩ | exact keepG hgw (by assumption) (by assumption) | go_keep)
                  ((go_at_call 18; refine (HF2.out _ (below_keep' hbk (last5 (by assumption)))).mono ?_; rintro r W3 ⟨rfl, hb6⟩))
                rename_i hH
                have hb3 : Below WF.heap.size WF W3 := below_keep' hbk (last5 hH)
                clear hH hb6 hke HF2
                clear z0 z1 u0 u1
                go_wp2_with fail
                go_loopw [11] (fun s wr => ∃ j : Nat, j ≤ n1 ∧ s = .int .i64 (j : Int) ∧ Below WF.heap.size WF wr) (fun s _ => n1 - (intOf s).toNat)
                case atStart => exact ⟨0, by omega, rfl, hb3⟩
                case round =>
                  clear hb3
                  obtain ⟨j, hj, rfl, hbj⟩ := hrel
                  have z0 : wr.cell? ⟨g, i * 2, none⟩ = some (.slice A1 n1 c1) := (hbj.cell (p := ⟨g, i * 2, none⟩) hgl).trans x0
                  by_cases hlj : j < n1
                  · obtain ⟨b, off, x, hA, hbb, hx, c0, c1'⟩ := (HE1.out _ hbj).ents.en hlj
                    subst hA
                    obtain ⟨hv2, hkey⟩ := HOWN.out
                    have HKY := Lib.hid (hkey x (List.mem_of_getElem? hx))
                    have HV2 := Lib.hid hv2
                    clear hx hkey hv2
                    have V := Bx.new wr [.int .i64 x.1, .int .i64 x.2] 36
                    have hbW : Below WF.heap.size WF (wr.alloc (.cells #[.int .i64 x.1, .int .i64 x.2] 36)) := hbj.alloc hbj.size _
                    have hkb : (k : Int) < (m : Int) + 1 := by omega
                    have hk0 : (0 : Int) ≤ (k : Int) := by omega
                    have HRET : Hid (∃ a cd, keyV e2 x.2 = .tuple #[.int .i64 a, .int .i64 cd] ∧ ((cd = 0 ∧ a = x.1) ∨ (cd = 7))) := by
                      cases hf : ownE e2 x.2 with
                      | none => exact ⟨0, 7, keyV_none HV2.out hf, .inr rfl⟩
                      | some key => exact ⟨key, 0, keyV_yes HV2.out hf, .inl ⟨rfl, HKY.out key hf⟩⟩
                    have HKC := Lib.hid (HK1.out x.2)
                    obtain ⟨ra, rc, hre, hrr⟩ := HRET.out
                    rw [hre] at HKC
                    clear hre HRET
                    go_wp2_with fail
                    generalize wr.alloc (.cells #[.int .i64 x.1, .int .i64 x.2] 36) = W0 at *
                    generalize wr.heap.size = bz at *
                    clear z0 c0 c1' hbb hbj
                    have u0 : W0.cell? ⟨g, k * 2, none⟩ = some (.slice B1 p1 d1) := (hbW.cell (p := ⟨g, k * 2, none⟩) hgl).trans y0
                    have u1 : W0.cell? ⟨g, k * 2 + 1, none⟩ = some (.slice B2 p2 d2) := (hbW.cell (p := ⟨g, k * 2 + 1, none⟩) hgl).trans y1
                    have hgW : g < W0.heap.size := Nat.lt_of_lt_of_le hgl hbW.size
                    have V0 := V.cell 0 _ rfl; have V1 := V.cell 1 _ rfl; have Vlt := V.lt
                    go_region_held3 (fun U => U.cell? ⟨g, k * 2, none⟩ = some (.slice B1 p1 d1) ∧ U.cell? ⟨g, k * 2 + 1, none⟩ = some (.slice B2 p2 d2) ∧ U.cell? ⟨bz, 1, none⟩ = some (.int .i64 x.2) ∧ Below W0.heap.size W0 U)
                      (first | exact ⟨u0, u1, V1, Below.drew (Below.refl _ _)⟩ | exact keepJ hgW Vlt (by assumption) (by assumption) | go_keep)
                      ((go_at_call 19; refine (HKC.out _ (below_keep' hbW (last4 (by assumption)))).mono ?_; rintro r w7 ⟨rfl, hb7⟩))
                    rename_i hH
                    have hb8 := last4 hH
                    clear hH hb7
                    replace V := V.up hb8
                    have hb9 : Below WF.heap.size WF w7 := below_keep' hbW hb8
                    clear V0 V1 Vlt u0 u1 hgW
                    have V0 := V.cell 0 _ rfl; have V1 := V.cell 1 _ rfl; have Vlt := V.lt
                    rcases hrr with ⟨rfl, rfl⟩ | rfl
                    · have hnn : (x.1 != x.1) = false := by simp
                      go_wp2_with fail
                      go_roundw
                      case rel => exact ⟨j + 1, by omega, by go_num, hb9⟩
                      case measure => simp [intOf]; omega
                    · go_wp2_with fail
                      go_roundw
                      case rel => exact ⟨j + 1, by omega, by go_num, hb9⟩
                      case measure => simp [intOf]; omega
                  · obtain rfl : j = n1 := by omega
                    go_wp2_with fail
                    go_roundw
                    case rel => exact ⟨k + 1, by omega, by omega, by go_num, hbj⟩
                    case measure => simp [intOf]; omega
              · have hke : ((k : Int) == (i : Int) + 1) = false := by rw [beq_eq_false_iff_ne]; omega
                have hke2 : ¬ ((k : Int) = (i : Int) + 1) := by omega
                clear HF1
                go_wp2_with fail
                go_quiet (fail)
                clear hke hke2
                clear z0 z1 u0 u1
                go_wp2_with fail
                go_loopw [11] (fun s wr => ∃ j : Nat, j ≤ n1 ∧ s = .int .i64 (j : Int) ∧ Below WF.heap.size WF wr) (fun s _ => n1 - (intOf s).toNat)
                case atStart => exact ⟨0, by omega, rfl, below_drewN hbk _⟩
                case round =>
                  obtain ⟨j, hj, rfl, hbj⟩ := hrel
                  have z0 : wr.cell? ⟨g, i * 2, none⟩ = some (.slice A1 n1 c1) := (hbj.cell (p := ⟨g, i * 2, none⟩) hgl).trans x0
                  by_cases hlj : j < n1
                  · obtain ⟨b, off, x, hA, hbb, hx, c0, c1'⟩ := (HE1.out _ hbj).ents.en hlj
                    subst hA
                    obtain ⟨hv2, hkey⟩ := HOWN.out
                    have HKY := Lib.hid (hkey x (List.mem_of_getElem? hx))
                    have HV2 := Lib.hid hv2
                    clear hx hkey hv2
                    have V := Bx.new wr [.int .i64 x.1, .int .i64 x.2] 36
                    have hbW : Below WF.heap.size WF (wr.alloc (.cells #[.int .i64 x.1, .int .i64 x.2] 36)) := hbj.alloc hbj.size _
                    have hkb : (k : Int) < (m : Int) + 1 := by omega
                    have hk0 : (0 : Int) ≤ (k : Int) := by omega
                    have HRET : Hid (∃ a cd, keyV e2 x.2 = .tuple #[.int .i64 a, .int .i64 cd] ∧ ((cd = 0 ∧ a = x.1) ∨ (cd = 7))) := by
                      cases hf : ownE e2 x.2 with
                      | none => exact ⟨0, 7, keyV_none HV2.out hf, .inr rfl⟩
                      | some key => exact ⟨key, 0, keyV_yes HV2.out hf, .inl ⟨rfl, HKY.out key hf⟩⟩
                    have HKC := Lib.hid (HK1.out x.2)
                    obtain ⟨ra, rc, hre, hrr⟩ := HRET.out
                    rw [hre] at HKC
                    clear hre HRET
                    go_wp2_with fail
                    generalize wr.alloc (.cells #[.int .i64 x.1, .int .i64 x.2] 36) = W0 at *
                    generalize wr.heap.size = bz at *
                    clear z0 c0 c1' hbb hbj
                    have u0 : W0.cell? ⟨g, k * 2, none⟩ = some (.slice B1 p1 d1) := (hbW.cell (p := ⟨g, k * 2, none⟩) hgl).trans y0
                    have u1 : W0.cell? ⟨g, k * 2 + 1, none⟩ = some (.slice B2 p2 d2) := (hbW.cell (p := ⟨g, k * 2 + 1, none⟩) hgl).trans y1
                    have hgW : g < W0.heap.size := Nat.lt_of_lt_of_le hgl hbW.size
                    have V0 := V.cell 0 _ rfl; have V1 := V.cell 1 _ rfl; have Vlt := V.lt
                    go_region_held3 (fun U => U.cell? ⟨g, k * 2, none⟩ = some (.slice B1 p1 d1) ∧ U.cell? ⟨g, k * 2 + 1, none⟩ = some (.slice B2 p2 d2) ∧ U.cell? ⟨bz, 1, none⟩ = some (.int .i64 x.2) ∧ Below W0.heap.size W0 U)
                      (first | exact ⟨u0, u1, V1, Below.drew (Below.refl _ _)⟩ | exact keepJ hgW Vlt (by assumption) (by assumption) | go_keep)
                      ((go_at_call 19; refine (HKC.out _ (below_keep' hbW (last4 (by assumption)))).mono ?_; rintro r w7 ⟨rfl, hb7⟩))
                    rename_i hH
                    have hb8 := last4 hH
                    clear hH hb7
                    replace V := V.up hb8
                    have hb9 : Below WF.heap.size WF w7 := below_keep' hbW hb8
                    clear V0 V1 Vlt u0 u1 hgW
                    have V0 := V.cell 0 _ rfl; have V1 := V.cell 1 _ rfl; have Vlt := V.lt
                    rcases hrr with ⟨rfl, rfl⟩ | rfl
                    · have hnn : (x.1 != x.1) = false := by simp
                      go_wp2_with fail
                      go_roundw
                      case rel => exact ⟨j + 1, by omega, by go_num, hb9⟩
                      case measure => simp [intOf]; omega
                    · go_wp2_with fail
                      go_roundw
                      case rel => exact ⟨j + 1, by omega, by go_num, hb9⟩
                      case measure => simp [intOf]; omega
                  · obtain rfl : j = n1 := by omega
                    go_wp2_with fail
                    go_roundw
                    case rel => exact ⟨k + 1, by omega, by omega, by go_num, hbj⟩
                    case measure => simp [intOf]; omega
            · obtain rfl : k = m + 1 := by omega
              go_wp2_with fail
              go_roundw
              case rel => exact ⟨i + 1, by omega, by go_num, hbk⟩
              case measure => simp [intOf]; omega
        · obtain rfl : i = m + 1 := by omega
          go_wp2_with fail
          go_ret
          exact ⟨rfl, hbF.trans (hbi.mono hbF.size)⟩
end Go.Proofs.YtfanjghfilkhmaaGreatDoor
