/- Chapter 46: Reduced, the program's. -/
import Derived.Test.YtccmchmemafjdaaGreatDoorPe
import Derived.Maps.AppendAt
set_option linter.unusedSimpArgs false
set_option linter.unusedVariables false
namespace Go.Proofs.YtccmchmemafjdaaGreatDoor
open Go.RowKit

/-- The groups of a list that is without fault. -/
def grpsL (ls : List Lst) : List (List Int) := groupsOf (idsL ls) (nmU ls [])
theorem grpsL_in {ls : List Lst} {z : List Int} (hz : z ∈ grpsL ls) : ∀ a ∈ z, a ∈ idsL ls := fun a ha => by
  unfold grpsL groupsOf at hz
  obtain ⟨r, _, rfl⟩ := List.mem_map.1 hz
  unfold grpOf at ha
  exact (sortI_mem _ _).1 (List.mem_filter.1 ha).1
theorem grpsL_len {ls : List Lst} {z : List Int} (hz : z ∈ grpsL ls) : z.length ≤ ls.length := by
  unfold grpsL groupsOf at hz
  obtain ⟨r, _, rfl⟩ := List.mem_map.1 hz
  unfold grpOf
  refine Nat.le_trans (List.length_filter_le _ _) ?_
  rw [sortI_len]
  unfold idsL
  rw [List.length_map]
  exact Nat.le_refl _
theorem grpsL_count (ls : List Lst) : (grpsL ls).length ≤ ls.length := by
  unfold grpsL groupsOf
  rw [List.length_map]
  refine Nat.le_trans (List.length_filter_le _ _) ?_
  rw [sortI_len]
  unfold idsL
  rw [List.length_map]
  exact Nat.le_refl _
theorem contains_any (A : Option Addr) (n c : Nat) (zs : List Int) (x : Int) (w : World) (hn : n ≤ 1000000) (hS : Sl w 0 w.heap.size 1 encI A n zs) :
    Calls Tryz.prog 55 #[.slice A n c, .int .i64 x] w fun e w' => e = .returned (.bool (zs.contains x)) ∧ w' = w := by
  have hl := Sl.len hS
  rcases Nat.eq_zero_or_pos n with rfl | h0
  · rw [List.length_eq_zero_iff.1 hl]
    exact Tryz.slices_Contains_int_empty A c x w
  · obtain ⟨b, off, z, rfl, _⟩ := hS.in_ h0
    have := Tryz.slices_Contains_int b off n c zs x w (by omega) (by omega) (fun j hj => by
      obtain ⟨b', off', z', hA, _, hz, hc⟩ := hS.in_ (i := j) (by omega)
      cases hA
      rw [hc, List.getD_eq_getElem?_getD, hz]
      rfl)
    rwa [take_all hl] at this
/-- What Pedigree answers. -/
def pedE (ls : List Lst) (id : Int) : Int := if chkL ls = 0 then (if (grpsL ls).any (fun z => z.contains id) then 0 else 7) else chkL ls
def pedS (ls : List Lst) (id : Int) : List Sal := if chkL ls = 0 then (match (grpsL ls).find? (fun z => z.contains id) with | some z => salesOf ls z | none => []) else []
def SalesOut (xs : List Sal) (err : Int) (e : Ending) (w' : World) : Prop :=
  ∃ A2 n2 c2, e = .returned (.tuple #[.slice A2 n2 c2, .int .i64 err]) ∧ n2 ≤ 1000000 ∧ SaS w' A2 n2 xs ∧ (err ≠ 0 → A2 = none ∧ n2 = 0 ∧ c2 = 0)
theorem find_hit {α : Type} {p : α → Bool} {xs : List α} {k : Nat} {x : α} (hx : xs[k]? = some x) (hn : ∀ y ∈ xs.take k, p y = false) (h : p x = true) : xs.find? p = some x := by
  have e : xs = xs.take k ++ x :: xs.drop (k + 1) := by
    obtain ⟨hk, rfl⟩ := List.getElem?_eq_some_iff.1 hx
    rw [← List.drop_eq_getElem_cons hk, List.take_append_drop]
  rw [e, List.find?_append, List.find?_eq_none.2 (fun y hy => by rw [hn y hy]; decide)]
  simp [h]
theorem find_miss {α : Type} {p : α → Bool} {xs : List α} (hn : ∀ y ∈ xs, p y = false) : xs.find? p = none := List.find?_eq_none.2 (fun y hy => by rw [hn y hy]; decide)
set_option maxRecDepth 100000 in
set_option maxHeartbeats 2000000 in
theorem ppedigree_any (A : Option Addr) (n c : Nat) (ls : List Lst) (id : Int) (w : World) (hn : n ≤ 1000000) (hS : LsS w A n ls) :
    Calls Tryz.prog 27 #[.slice A n c, .int .i64 id] w fun e w' => SalesOut (pedS ls id) (pedE ls id) e w' ∧ Below w.heap.size w w' := by
  have HC := Lib.hid (pcheck_any A n c ls w hn hS)
  have HS := Lib.hid hS; clear hS
  go_enter Tryz.func27, Tryz.ntmps27
  go_wp2_with fail
  go_fit HC.out
  rintro e w1 ⟨rfl, hb1⟩
  by_cases h0 : chkL ls = 0
  · obtain ⟨h64, hv, hnd⟩ := chkL_zero h0
    have HG := Lib.hid (groups_any A n c ls none 0 0 [] w1 (by rw [HS.out.len] at h64; exact h64) (by omega) (HS.out.up hb1) Sl.nil hv hnd (inIds_of hv (by simp)))
    have HV := Lib.hid hv
    have HND := Lib.hid hnd
    have H64 := Lib.hid h64
    have hb0 : (chkL ls == 0) = true := by simpa using h0
    have HZ := Lib.hid h0
    rw [h0] at hb0 ⊢
    clear h0 h64 hv hnd HC
    go_wp2_with fail
    go_fit HG.out
    rintro e w2 ⟨A2, n2, c2, rfl, hn2, hL2, hb2⟩
    have hb3 := below_keep' hb1 hb2
    have HL2 := Lib.hid (show LoS w2 A2 n2 (grpsL ls) from hL2)
    clear hL2 HG hb1 hb2
    go_wp2_with fail
    go_loopw [17] (fun i wr => ∃ k : Nat, k ≤ n2 ∧ i = .int .i64 (k : Int) ∧ (∀ z ∈ (grpsL ls).take k, z.contains id = false) ∧ wr = w2) (fun i _ => n2 - (intOf i).toNat)
    case atStart => exact ⟨0, by omega, rfl, by simp, rfl⟩
    case round =>
      obtain ⟨k, hk, rfl, hno, rfl⟩ := hrel
      have HNO := Lib.hid hno; clear hno
      by_cases hlt : k < n2
      · obtain ⟨b, off, z, a, m, cz, rfl, hbb, hz, c0, hm, hSz⟩ := HL2.out.at_ hlt
        have HCO := Lib.hid (contains_any a m cz z id wr hm.1 hSz)
        have HZZ := Lib.hid hz
        have HZM := Lib.hid (List.mem_of_getElem? hz)
        have HSz := Lib.hid hSz
        have HZL := Lib.hid (Sl.len hSz)
        clear hz hSz
        cases hcz : z.contains id
        · rw [hcz] at HCO
          have HCZ := Lib.hid hcz; clear hcz
          go_wp2_with fail
          go_fit HCO.out
          rintro e w4 ⟨rfl, rfl⟩
          go_wp2_with fail
          exact ⟨⟨k + 1, by omega, by go_num, all_take (p := fun z => z.contains id = false) HZZ.out HNO.out HCZ.out, trivial⟩, by simp [intOf]; omega⟩
        · have HE : Hid (pedE ls id = 0) := by
            show _ = _
            unfold pedE
            rw [if_pos HZ.out, if_pos (any_hit HZZ.out hcz)]
          have HP : Hid (pedS ls id = salesOf ls z) := by
            show _ = _
            unfold pedS
            rw [if_pos HZ.out, find_hit HZZ.out HNO.out hcz]
          rw [hcz] at HCO
          have HPS := Lib.hid (psales_any A n c ls a m cz z wr (by rw [← HS.out.len]; exact H64.out) (by rw [← HZL.out]; exact Nat.le_trans (grpsL_len HZM.out) H64.out) (HS.out.up hb3) HSz.out HV.out HND.out (grpsL_in HZM.out))
          clear hcz
          go_wp2_with fail
          go_fit HCO.out
          rintro e w4 ⟨rfl, rfl⟩
          go_wp2_with fail
          go_fit HPS.out
          rintro e w5 ⟨A3, n3, c3, rfl, hn3, hS3, hb5⟩
          go_wp2_with fail
          refine bodyPost_ret (v := .tuple #[.slice A3 n3 c3, .int .i64 0]) (by simp [results, Tryz.results27, go_sem]) rfl ?_
          exact ⟨by rw [HE.out, HP.out]; exact ⟨A3, n3, c3, rfl, hn3, hS3.any, fun h => absurd rfl h⟩, below_keep' hb3 hb5⟩
      · obtain rfl : k = n2 := by omega
        have hno := HNO.out
        rw [take_all HL2.out.len] at hno
        have HE : Hid (pedE ls id = 7) := by
          show _ = _
          unfold pedE
          rw [if_pos HZ.out, if_neg (by rw [any_miss hno]; decide)]
        have HP : Hid (pedS ls id = []) := by
          show _ = _
          unfold pedS
          rw [if_pos HZ.out, find_miss hno]
        clear hno
        go_wp2_with fail
        refine bodyPost_ret (v := .tuple #[.slice none 0 0, .int .i64 7]) (by simp [results, Tryz.results27, go_sem]) rfl ?_
        exact ⟨by rw [HE.out, HP.out]; exact ⟨none, 0, 0, rfl, by omega, SaS.nil, fun _ => ⟨rfl, rfl, rfl⟩⟩, hb3⟩
  · have hb0 : (chkL ls == 0) = false := by simpa using h0
    have H0 := Lib.hid h0
    have HE : Hid (pedE ls id = chkL ls) := by show _ = _; unfold pedE; rw [if_neg h0]
    have HP : Hid (pedS ls id = []) := by show _ = _; unfold pedS; rw [if_neg h0]
    clear h0
    go_wp2_with fail
    refine bodyPost_ret (v := .tuple #[.slice none 0 0, .int .i64 (chkL ls)]) (by simp [results, Tryz.results27, go_sem]) rfl ?_
    exact ⟨by rw [HE.out, HP.out]; exact ⟨none, 0, 0, rfl, by omega, SaS.nil, fun _ => ⟨rfl, rfl, rfl⟩⟩, hb1⟩
end Go.Proofs.YtccmchmemafjdaaGreatDoor
set_option linter.unusedSimpArgs false
set_option linter.unusedVariables false
namespace Go.Proofs.YtccmchmemafjdaaGreatDoor
open Go.RowKit

theorem cell_grown {w w' : World} {row : Option Nat} (hg : w.grownBy w' row) {b o : Nat} (hb : b < w.heap.size) (hne : some b ≠ row) : w'.cell? ⟨b, o, none⟩ = w.cell? ⟨b, o, none⟩ := by
  have h : w'.heap[b]? = w.heap[b]? := hg.block b hb hne
  unfold World.cell?
  simp only [h]
theorem Sl.grownOff {α : Type} {w w' : World} {row : Option Nat} {k n : Nat} {enc : α → List Value} {A : Option Addr} {xs : List α} (h : Sl w 0 w.heap.size k enc A n xs) (hg : w.grownBy w' row) (ho : ∀ b off, A = some ⟨b, off, none⟩ → 0 < n → some b ≠ row) :
    Sl w' 0 w'.heap.size k enc A n xs :=
  ⟨h.1, fun hn => by
    obtain ⟨g, o, h1, h2, h3, h4⟩ := h.2 hn
    refine ⟨g, o, h1, h2, Nat.lt_of_lt_of_le h3 hg.size, fun i x hx j u hu => ?_⟩
    rw [cell_grown hg h3 (ho g o h1 hn)]
    exact h4 i x hx j u hu⟩
/-- The new listings' sales, off the row that is being written. -/
structure RdS (w : World) (row : Option Nat) (vs : List LV) (qs : List Lst) : Prop where
  len : vs.length = qs.length
  each : ∀ (i : Nat) (v : LV) (r : Lst), vs[i]? = some v → qs[i]? = some r → v.id = r.id ∧ v.n ≤ maxLen ∧ SaS w v.A v.n r.sales ∧ ∀ b off, v.A = some ⟨b, off, none⟩ → 0 < v.n → some b ≠ row
theorem RdS.start (w : World) (row : Option Nat) : RdS w row [] [] := ⟨rfl, fun i v r h => by simp at h⟩
theorem RdS.up {w w' : World} {row : Option Nat} {vs : List LV} {qs : List Lst} (h : RdS w row vs qs) (hb : Below w.heap.size w w') : RdS w' row vs qs :=
  ⟨h.len, fun i v r hv hr => by
    obtain ⟨h1, h2, h3, h4⟩ := h.each i v r hv hr
    exact ⟨h1, h2, h3.up hb, h4⟩⟩
theorem RdS.grown {w w' : World} {row row' : Option Nat} {vs : List LV} {qs : List Lst} (h : RdS w row vs qs) (hg : w.grownBy w' row) (hr : row' = row ∨ row' = some w.heap.size) : RdS w' row' vs qs :=
  ⟨h.len, fun i v r hv hrr => by
    obtain ⟨h1, h2, h3, h4⟩ := h.each i v r hv hrr
    refine ⟨h1, h2, Sl.grownOff h3 hg h4, fun b off hA hn => ?_⟩
    rcases hr with rfl | rfl
    · exact h4 b off hA hn
    · obtain ⟨g, o, e1, _, e3, _⟩ := h3.2 hn
      rw [hA] at e1
      cases e1
      intro e
      injection e with e
      omega⟩
theorem RdS.snoc {w : World} {row : Option Nat} {vs : List LV} {qs : List Lst} (h : RdS w row vs qs) {v : LV} {r : Lst} (h1 : v.id = r.id) (h2 : v.n ≤ maxLen) (h3 : SaS w v.A v.n r.sales) (h4 : ∀ b off, v.A = some ⟨b, off, none⟩ → 0 < v.n → some b ≠ row) : RdS w row (vs ++ [v]) (qs ++ [r]) := by
  refine ⟨by simp [h.len], fun i v' r' hv hr => ?_⟩
  rcases Nat.lt_or_ge i vs.length with hi | hi
  · rw [List.getElem?_append_left hi] at hv
    rw [List.getElem?_append_left (by rw [← h.len]; exact hi)] at hr
    exact h.each i v' r' hv hr
  · rw [List.getElem?_append_right hi] at hv
    rw [List.getElem?_append_right (by rw [← h.len]; exact hi), ← h.len] at hr
    have hlt := (List.getElem?_eq_some_iff.1 hv).1
    simp only [List.length_singleton] at hlt
    have h0 : i - vs.length = 0 := by omega
    rw [h0] at hv hr
    simp only [List.getElem?_cons_zero, Option.some.injEq] at hv hr
    subst hv hr
    exact ⟨h1, h2, h3, h4⟩
/-- What Reduced answers. -/
def redL (ls : List Lst) (z : List Int) : Lst := ⟨z.headD 0, salesOf ls z⟩
def redE (ls : List Lst) : Int := if chkL ls = 0 then (if (grpsL ls).any (fun z => decide (8 < (salesOf ls z).length)) then 6 else 0) else chkL ls
def redS (ls : List Lst) : List Lst := if redE ls = 0 then (grpsL ls).map (redL ls) else []
def ListsOut (xs : List Lst) (err : Int) (e : Ending) (w' : World) : Prop :=
  ∃ A2 n2 c2, e = .returned (.tuple #[.slice A2 n2 c2, .int .i64 err]) ∧ n2 ≤ 1000000 ∧ LsS w' A2 n2 xs ∧ (err ≠ 0 → A2 = none ∧ n2 = 0 ∧ c2 = 0)
theorem Tryz.infoLst : (Tryz.prog.info? 24).map (fun i => (i.zero, i.size, i.bytes)) = some (some (.agg #[.int .i64 0, .slice none 0 0]), 2, 32) := by kernel_rfl
end Go.Proofs.YtccmchmemafjdaaGreatDoor
