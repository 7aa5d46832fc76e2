/- Chapter 46: Joined, the program's. -/
import Derived.Test.YtccmchmemafjdaaGreatDoorOt
import Derived.Test.YtccmchmemafjdaaGreatDoorOn
set_option linter.unusedSimpArgs false
set_option linter.unusedVariables false
namespace Go.Proofs.YtccmchmemafjdaaGreatDoor
open Go.RowKit Go.Maps

theorem inIds_of {ls : List Lst} (hv : ∀ x ∈ ls, validL x) {P : List (Int × Int)} (hP : ∀ p ∈ P, p.1 ∈ idsL ls ∧ p.2 ∈ idsL ls) : InIds (idsL ls) (holdsL ls) P where
  pos a ha := by
    unfold idsL at ha
    obtain ⟨x, hx, rfl⟩ := List.mem_map.1 ha
    exact (hv x hx).1.1
  hold p hp := by
    obtain ⟨s, a⟩ := p
    obtain ⟨x, hx, h1, _⟩ := mem_holds.1 hp
    exact h1 ▸ List.mem_map_of_mem hx
  pair p hp := hP p hp
/-- What Groups hands back. -/
def GroupsOut (ls : List Lst) (P : List (Int × Int)) (err : Int) (e : Ending) (w' : World) : Prop :=
  ∃ A2 n2 c2, e = .returned (.tuple #[.slice A2 n2 c2, .int .i64 err]) ∧ n2 ≤ 1000000 ∧ LoS w' A2 n2 (if err = 0 then groupsOf (idsL ls) (nmU ls P) else []) ∧ (err ≠ 0 → A2 = none ∧ n2 = 0 ∧ c2 = 0)
theorem groupsOut_bad {ls : List Lst} {P : List (Int × Int)} {err : Int} (h : err ≠ 0) (w' : World) : GroupsOut ls P err (.returned (.tuple #[.slice none 0 0, .int .i64 err])) w' :=
  ⟨none, 0, 0, rfl, by omega, by rw [if_neg h]; exact LoS.nil, fun _ => ⟨rfl, rfl, rfl⟩⟩
theorem groupsOut_ok {ls : List Lst} {P : List (Int × Int)} {A2 : Option Addr} {n2 c2 : Nat} {w' : World} (hn : n2 ≤ 1000000) (h : LoS w' A2 n2 (groupsOf (idsL ls) (nmU ls P))) : GroupsOut ls P 0 (.returned (.tuple #[.slice A2 n2 c2, .int .i64 0])) w' :=
  ⟨A2, n2, c2, rfl, hn, by rw [if_pos rfl]; exact h, fun h => absurd rfl h⟩
set_option maxRecDepth 100000 in
set_option maxHeartbeats 2000000 in
theorem pgroups_any (A : Option Addr) (n c : Nat) (ls : List Lst) (w : World) (hn : n ≤ 1000000) (hS : LsS w A n ls) :
    Calls Tryz.prog 19 #[.slice A n c] w fun e w' => GroupsOut ls [] (chkL ls) e w' ∧ Below w.heap.size w w' := by
  have HC := Lib.hid (pcheck_any A n c ls w hn hS)
  have HS := Lib.hid hS; clear hS
  go_enter Tryz.func19, Tryz.ntmps19
  go_wp2_with fail
  go_fit HC.out
  rintro e w1 ⟨rfl, hb1⟩
  by_cases h0 : chkL ls = 0
  · obtain ⟨h64, hv, hnd⟩ := chkL_zero h0
    have HG := Lib.hid (groups_any A n c ls none 0 0 [] w1 (by rw [HS.out.len] at h64; exact h64) (by omega) (HS.out.up hb1) Sl.nil hv hnd (inIds_of hv (by simp)))
    have hb0 : (chkL ls == 0) = true := by simpa using h0
    have HV := Lib.hid h0
    rw [h0] at hb0 ⊢
    clear h0 h64 hv hnd HC
    go_wp2_with fail
    go_fit HG.out
    rintro e w2 ⟨A2, n2, c2, rfl, hn2, hL, hb2⟩
    go_wp2_with fail
    refine bodyPost_ret (v := .tuple #[.slice A2 n2 c2, .int .i64 0]) (by simp [results, Tryz.results19, go_sem]) rfl ?_
    exact ⟨by rw [HV.out]; exact groupsOut_ok hn2 hL, below_keep' hb1 hb2⟩
  · have hb0 : (chkL ls == 0) = false := by simpa using h0
    have H0 := Lib.hid h0
    clear h0
    go_wp2_with fail
    refine bodyPost_ret (v := .tuple #[.slice none 0 0, .int .i64 (chkL ls)]) (by simp [results, Tryz.results19, go_sem]) rfl ?_
    exact ⟨groupsOut_bad H0.out w1, hb1⟩
end Go.Proofs.YtccmchmemafjdaaGreatDoor
set_option linter.unusedSimpArgs false
set_option linter.unusedVariables false
namespace Go.Proofs.YtccmchmemafjdaaGreatDoor
open Go.RowKit Go.Maps

def lostP (ls : List Lst) (p : Int × Int) : Bool := decide (placeI ls p.1 < 0) || decide (placeI ls p.2 < 0)
def joinE (ls : List Lst) (P : List (Int × Int)) : Int := if chkL ls = 0 then (if 64 < P.length then 6 else if P.any (lostP ls) then 7 else 0) else chkL ls
theorem placeI_mem {ls : List Lst} {id : Int} (h : decide (placeI ls id < 0) = false) : id ∈ idsL ls := by
  have h' := of_decide_eq_false h
  unfold placeI at h'
  split at h'
  · rename_i k hk
    rw [List.findIdx?_eq_some_iff_getElem] at hk
    obtain ⟨h1, h2, _⟩ := hk
    have : ls[k].id = id := by simpa using h2
    rw [← this]
    exact List.mem_map_of_mem (List.getElem_mem h1)
  · omega
theorem lost_in {ls : List Lst} {P : List (Int × Int)} (h : ∀ p ∈ P, lostP ls p = false) : ∀ p ∈ P, p.1 ∈ idsL ls ∧ p.2 ∈ idsL ls := fun p hp => by
  have := h p hp
  unfold lostP at this
  rw [Bool.or_eq_false_iff] at this
  exact ⟨placeI_mem this.1, placeI_mem this.2⟩
set_option maxRecDepth 100000 in
set_option maxHeartbeats 2000000 in
theorem pjoined_any (A : Option Addr) (n c : Nat) (ls : List Lst) (A' : Option Addr) (n' c' : Nat) (P : List (Int × Int)) (w : World) (hn : n ≤ 1000000) (hn' : n' ≤ 1000000) (hS : LsS w A n ls) (hP : Sl w 0 w.heap.size 2 encE A' n' P) :
    Calls Tryz.prog 25 #[.slice A n c, .slice A' n' c'] w fun e w' => GroupsOut ls P (joinE ls P) e w' ∧ Below w.heap.size w w' := by
  have HC := Lib.hid (pcheck_any A n c ls w hn hS)
  have HS := Lib.hid hS; clear hS
  have HP := Lib.hid hP
  have HPL := Lib.hid (Sl.len hP); clear hP
  go_enter Tryz.func25, Tryz.ntmps25
  go_wp2_with fail
  go_fit HC.out
  rintro e w1 ⟨rfl, hb1⟩
  by_cases h0 : chkL ls = 0
  · obtain ⟨h64, hv, hnd⟩ := chkL_zero h0
    have HV0 := Lib.hid hv
    have HND := Lib.hid hnd
    have H64 := Lib.hid h64
    have hb0 : (chkL ls == 0) = true := by simpa using h0
    have HZ := Lib.hid h0
    rw [h0] at hb0 ⊢
    clear h0 h64 hv hnd HC
    by_cases hp64 : 64 < n'
    · have HJ : Hid (joinE ls P = 6) := by show _ = _; unfold joinE; rw [if_pos HZ.out, if_pos (by rw [HPL.out]; exact hp64)]
      go_wp2_with fail
      refine bodyPost_ret (v := .tuple #[.slice none 0 0, .int .i64 6]) (by simp [results, Tryz.results25, go_sem]) rfl ?_
      exact ⟨by rw [HJ.out]; exact groupsOut_bad (by decide) w1, hb1⟩
    · go_wp2_with fail
      go_loopw [19] (fun i wr => ∃ k : Nat, k ≤ n' ∧ i = .int .i64 (k : Int) ∧ (∀ p ∈ P.take k, lostP ls p = false) ∧ Below w.heap.size w wr) (fun i _ => n' - (intOf i).toNat)
      case atStart => exact ⟨0, by omega, rfl, by simp, hb1⟩
      case round =>
        clear hb1
        obtain ⟨k, hk, rfl, hl, hb⟩ := hrel
        have HLO := Lib.hid hl; clear hl
        by_cases hlt : k < n'
        · obtain ⟨bp, offp, p, rfl, hbp, hp, d0, d1⟩ := Sl.en (Sl.up HP.out hb (Nat.le_refl _) (Nat.le_refl _)) hlt
          have Hp := Lib.hid hp; clear hp
          have hbS := one_alloc wr (.cells #[.int .i64 p.1, .int .i64 p.2] 59)
          have hb2 := below_keep' hb hbS
          have HF := Lib.hid (pfind_any A n c ls p.1 _ hn (HS.out.up hb2))
          have hP0 := Bx.new wr [.int .i64 p.1, .int .i64 p.2] 59
          have HB2 := Lib.hid hb2
          clear hb2 hb hbS
          go_wp2_with fail
          go_fit HF.out
          rintro e w2 ⟨rfl, hb3⟩
          have hP1 := hP0.up hb3
          have hb4 := below_keep' HB2.out hb3
          clear hb3 hP0 HF d0 d1
          cases h1 : decide (placeI ls p.1 < 0)
          · have HG := Lib.hid (pfind_any A n c ls p.2 w2 hn (HS.out.up hb4))
            have hP10 := hP1.cell 0 _ rfl; have hP11 := hP1.cell 1 _ rfl; have hP1lt := hP1.lt
            go_wp2_with fail
            go_fit HG.out
            rintro e w3 ⟨rfl, hb5⟩
            have hb6 := below_keep' hb4 hb5
            clear hb4 hb5 HG
            cases h2 : decide (placeI ls p.2 < 0)
            · have HL : Hid (lostP ls p = false) := by show _ = _; unfold lostP; rw [h1, h2]; rfl
              go_wp2_with fail
              exact ⟨⟨k + 1, by omega, by go_num, all_take (p := fun p => lostP ls p = false) Hp.out HLO.out HL.out, hb6⟩, by simp [intOf]; omega⟩
            · have HJ : Hid (joinE ls P = 7) := by
                show _ = _
                unfold joinE
                rw [if_pos HZ.out, if_neg (by rw [HPL.out]; exact hp64), if_pos (any_hit Hp.out (by unfold lostP; rw [h1, h2]; rfl))]
              go_wp2_with fail
              refine bodyPost_ret (v := .tuple #[.slice none 0 0, .int .i64 7]) (by simp [results, Tryz.results25, go_sem]) rfl ?_
              exact ⟨by rw [HJ.out]; exact groupsOut_bad (by decide) _, hb6⟩
          · have HJ : Hid (joinE ls P = 7) := by
              show _ = _
              unfold joinE
              rw [if_pos HZ.out, if_neg (by rw [HPL.out]; exact hp64), if_pos (any_hit Hp.out (by unfold lostP; rw [h1]; rfl))]
            go_wp2_with fail
            refine bodyPost_ret (v := .tuple #[.slice none 0 0, .int .i64 7]) (by simp [results, Tryz.results25, go_sem]) rfl ?_
            exact ⟨by rw [HJ.out]; exact groupsOut_bad (by decide) _, hb4⟩
        · obtain rfl : k = n' := by omega
          have HL2 := HLO.out
          rw [take_all HPL.out] at HL2
          have HJ : Hid (joinE ls P = 0) := by
            show _ = _
            unfold joinE
            rw [if_pos HZ.out, if_neg (by rw [HPL.out]; exact hp64), if_neg (by rw [any_miss HL2]; decide)]
          have HG := Lib.hid (groups_any A n c ls A' k c' P wr (by rw [← HS.out.len]; exact H64.out) (by omega) (HS.out.up hb) (Sl.up HP.out hb (Nat.le_refl _) (Nat.le_refl _)) HV0.out HND.out (inIds_of HV0.out (lost_in HL2)))
          clear HL2
          go_wp2_with fail
          go_fit HG.out
          rintro e w2 ⟨A2, n2, c2, rfl, hn2, hL, hb2⟩
          go_wp2_with fail
          refine bodyPost_ret (v := .tuple #[.slice A2 n2 c2, .int .i64 0]) (by simp [results, Tryz.results25, go_sem]) rfl ?_
          exact ⟨by rw [HJ.out]; exact groupsOut_ok hn2 hL, below_keep' hb hb2⟩
  · have hb0 : (chkL ls == 0) = false := by simpa using h0
    have H0 := Lib.hid h0
    have HJ : Hid (joinE ls P = chkL ls) := by show _ = _; unfold joinE; rw [if_neg h0]
    clear h0
    go_wp2_with fail
    refine bodyPost_ret (v := .tuple #[.slice none 0 0, .int .i64 (chkL ls)]) (by simp [results, Tryz.results25, go_sem]) rfl ?_
    exact ⟨by rw [HJ.out]; exact groupsOut_bad H0.out w1, hb1⟩
end Go.Proofs.YtccmchmemafjdaaGreatDoor
