/- ProvenanceGroups: the law's walk (chapter 46). -/
import Derived.Test.YtccmchmemafjdaaGreatDoorQc
import Derived.Test.YtccmchmemafjdaaGreatDoorPs
import Derived.StillTailTactics
set_option linter.unusedSimpArgs false
set_option linter.unusedVariables false
namespace Go.Proofs.YtccmchmemafjdaaGreatDoor
open Go.RowKit

theorem edge_perm {l l' : List Lst} (hp : l'.Perm l) {a b : Int} : Edge (holdsL l') [] a b ↔ Edge (holdsL l) [] a b := by
  have hm : ∀ x, x ∈ holdsL l' ↔ x ∈ holdsL l := fun x => by
    obtain ⟨s, i⟩ := x
    rw [mem_holds, mem_holds]
    constructor
    · rintro ⟨y, h1, h2⟩; exact ⟨y, hp.mem_iff.1 h1, h2⟩
    · rintro ⟨y, h1, h2⟩; exact ⟨y, hp.mem_iff.2 h1, h2⟩
  unfold Edge
  simp only [hm]
theorem ids_perm {l l' : List Lst} (hp : l'.Perm l) : (idsL l').Perm (idsL l) := by unfold idsL; exact hp.map _
theorem chk_perm {l l' : List Lst} (hp : l'.Perm l) : chkL l' = chkL l := by
  by_cases h64 : 64 < l.length
  · rw [chkL_full h64, chkL_full (by rw [hp.length_eq]; exact h64)]
  · by_cases hv : ∀ x ∈ l, validL x
    · by_cases hn : (idsL l).Nodup
      · rw [chkL_ok (by omega) hv hn, chkL_ok (by rw [hp.length_eq]; omega) (fun x hx => hv x (hp.mem_iff.1 hx)) ((ids_perm hp).nodup_iff.2 hn)]
      · rw [chkL_dup (by omega) hv hn, chkL_dup (by rw [hp.length_eq]; omega) (fun x hx => hv x (hp.mem_iff.1 hx)) (fun h => hn ((ids_perm hp).nodup_iff.1 h))]
    · obtain ⟨x, hx⟩ := Classical.not_forall.1 hv
      obtain ⟨hx1, hx2⟩ := Classical.not_imp.1 hx
      have hb : validB x.id x.sales = false := decide_eq_false hx2
      rw [chkL_bad (by omega) hx1 hb, chkL_bad (by rw [hp.length_eq]; omega) (hp.mem_iff.2 hx1) hb]
theorem grps_perm {l l' : List Lst} (hp : l'.Perm l) (hv : ∀ x ∈ l, validL x) (hnd : (idsL l).Nodup) : grpsL l' = grpsL l := by
  have hv' : ∀ x ∈ l', validL x := fun x hx => hv x (hp.mem_iff.1 hx)
  have h1 := nmU_nm (inIds_of hv (P := []) (by simp))
  have h2 := nmU_nm (inIds_of hv' (P := []) (by simp))
  have hi := ids_perm hp
  have h3 : Nm (idsL l) (holdsL l) [] (nmU l' []) :=
    ⟨fun a ha => hi.mem_iff.1 (h2.mem a (hi.mem_iff.2 ha)), fun a ha => h2.le a (hi.mem_iff.2 ha), fun a ha => (h2.conn a (hi.mem_iff.2 ha)).imp (fun a b he => (edge_perm hp).1 he), fun a b he => h2.same a b ((edge_perm hp).2 he)⟩
  have hs : sortI (idsL l') = sortI (idsL l) := asc_unique (sortI_lt (hi.nodup_iff.2 hnd)) (sortI_lt hnd) fun x => by rw [sortI_mem, sortI_mem, hi.mem_iff]
  unfold grpsL
  rw [← groups_congr (h3.unique h1)]
  unfold groupsOf grpOf
  rw [hs]
set_option maxRecDepth 100000 in
set_option maxHeartbeats 8000000 in
theorem groups_law (A : Option Addr) (n c : Nat) (ls : List Lst) (w : World) (hE : Env w) (hS : LsS w A n ls) :
    Calls Tryz.prog 4 #[.slice A n c] w fun r w' => r = .returned (.bool true) ∧ Below w.heap.size w w' := by
  obtain ⟨i0, hi, hz0, hz1, hz2⟩ := info_parts Tryz.infoLst
  have HEN : Hid (∀ W, Below w.heap.size w W → Env W) := fun W hW => hE.step hW
  have HU : Hid (∀ W, Below w.heap.size w W → LsS W A n ls) := fun W hW => hS.up hW
  have HL := Lib.hid hS.len
  clear hE hS
  go_enter Tryz.func4, Tryz.ntmps4
  go_wp2_with fail
  refine (awake_any _ (HEN.out _ (Below.refl _ _))).mono ?_; rintro r w1 ⟨rfl, hb⟩
  go_wp2_with fail
  refine (few_any A n c _).mono ?_; rintro r w2 ⟨rfl, hw2⟩
  subst w2
  by_cases hf : n ≤ 12 ∨ n = 65
  rotate_left 1
  · rw [decide_eq_false hf]
    clear hf
    go_wp2_with fail
    refine (awake_any _ (HEN.out _ hb)).mono ?_; rintro r w3 ⟨rfl, hb3⟩
    (replace hb := hb.trans (hb3.mono hb.size)); clear hb3
    go_wp2_with fail
    go_ret
    exact ⟨rfl, hb⟩
  rw [decide_eq_true hf]
  have hn65 : n ≤ 65 := by omega
  clear hf
  have HG1 : Hid (∀ W, Below w.heap.size w W → Calls Tryz.prog 19 #[.slice A n c] W fun e w' => GroupsOut ls [] (chkL ls) e w' ∧ Below W.heap.size W w') := fun W hW => pgroups_any A n c ls W (by omega) (HU.out W hW)
  have HG2 : Hid (∀ W, Below w.heap.size w W → Calls Tryz.prog 20 #[.slice A n c] W fun e w' => GroupsOut ls [] (chkL ls) e w' ∧ Below W.heap.size W w') := fun W hW => rgroups_any A n c ls W (by omega) (HU.out W hW)
  have HG3 : Hid (∀ B d W, LsS W B n ls.reverse → Calls Tryz.prog 19 #[.slice B n d] W fun e w' => GroupsOut ls [] (chkL ls) e w' ∧ Below W.heap.size W w') := fun B d W hW => by
    have h := pgroups_any B n d ls.reverse W (by omega) hW
    have hp : ls.reverse.Perm ls := List.reverse_perm ls
    rw [chk_perm hp] at h
    refine h.mono ?_
    rintro e w' ⟨⟨A2, n2, c2, h1, h2, h3, h5⟩, h4⟩
    refine ⟨⟨A2, n2, c2, h1, h2, ?_, h5⟩, h4⟩
    by_cases h0 : chkL ls = 0
    · obtain ⟨_, hv, hnd⟩ := chkL_zero h0
      rw [if_pos h0] at h3 ⊢
      have e : groupsOf (idsL ls.reverse) (nmU ls.reverse []) = groupsOf (idsL ls) (nmU ls []) := grps_perm hp hv hnd
      rwa [e] at h3
    · rw [if_neg h0] at h3 ⊢
      exact h3
  unfold GroupsOut at HG1 HG2 HG3
  generalize chkL ls = ce at *
  generalize (if ce = 0 then groupsOf (idsL ls) (nmU ls []) else []) = gs at *
  go_wp2_with fail
  refine (HG1.out _ hb).mono ?_; rintro r w3 ⟨⟨A2, n2, c2, rfl, hn2, hL, _⟩, hb3⟩
  (replace hb := hb.trans (hb3.mono hb.size)); clear hb3
  go_wp2_with fail
  refine (HG2.out _ hb).mono ?_; rintro r w4 ⟨⟨A3, n3, c3, rfl, hn3, hL3, _⟩, hb4⟩
  (replace hb := hb.trans (hb4.mono hb.size)); replace hL := hL.up hb4; clear hb4
  have HL1 := Lib.hid hL
  have HL3 := Lib.hid hL3
  have HB := Lib.hid hb
  clear hL hL3 hb HG1 HG2
  have hw1 : IntKind.i64.wrap ((n : Int) - 1) = (n : Int) - 1 := by rw [IntKind.wrap_i64]; omega
  go_wp2_with fail
  go_loopw [7, 8] (fun o t wr => ∃ (k : Nat) (vs : List LV), k ≤ n ∧ t = .int .i64 ((n : Int) - 1 - (k : Int)) ∧ wr.ownsRow w4.heap.size 24 2 o k (vs.flatMap encLV) ∧ vs.length = k ∧ RdS wr o.ownBlock vs (ls.reverse.take k) ∧ Below w4.heap.size w4 wr) (fun _ t _ => (intOf t + 1).toNat)
  case atStart => exact ⟨0, [], by omega, by simp, World.ownsRow_nil _ _ _ _, rfl, by simpa using RdS.start w4 _, Below.refl _ _⟩
  case round =>
    obtain ⟨k, vs, hk, ht, hown, hvl, hrd, hb⟩ := hrel
    obtain ⟨Ao, co, rfl, _⟩ := own_form hown
    have HBW : Hid (Below w.heap.size w wr) := below_keep' HB.out hb
    by_cases hlt : k < n
    · obtain ⟨p, hp⟩ : ∃ p, p = n - 1 - k := ⟨_, rfl⟩
      have hpn : p < n := by omega
      have htp : (n : Int) - 1 - (k : Int) = (p : Int) := by omega
      rw [htp] at ht
      subst ht
      obtain ⟨b, off, x, a, m, c', rfl, hbb, hx, c0, c1, hm, hSx⟩ := (HU.out w4 HB.out).at_ hpn
      have d0 := (hb.cell (p := ⟨b, off + p * 2, none⟩) hbb).trans c0
      have d1 := (hb.cell (p := ⟨b, off + p * 2 + 1, none⟩) hbb).trans c1
      have hbr : b < wr.heap.size := Nat.lt_of_lt_of_le hbb hb.size
      have HX : Hid (ls.reverse[k]? = some x) := by
        show _ = _
        have hkl : k < ls.length := by rw [HL.out]; exact hlt
        rw [List.getElem?_reverse hkl, HL.out, ← hp]
        exact hx
      have HSX := Lib.hid hSx
      have HM := Lib.hid hm
      have hpi : (p : Int) < (n : Int) := by omega
      have hp0 : (0 : Int) ≤ (p : Int) := by omega
      have hw2 : IntKind.i64.wrap ((p : Int) - 1) = (p : Int) - 1 := by rw [IntKind.wrap_i64]; omega
      have hs := hb.size
      have HRD := Lib.hid hrd
      clear hx hSx hm c0 c1 hbb hrd
      have HRDD := HRD
      have hpk : (p : Int) - 1 = (n : Int) - 1 - ((k : Int) + 1) := by omega
      have HPK := Lib.hid hpk
      clear hp htp hpk
      go_wp2_with (at_builtin; refine wpList_append_own_at _ rfl _ _ 33 rfl w4.heap.size 24 i0 (.agg #[.int .i64 0, .slice none 0 0]) 2 32 Tryz.underlying33 hi hz0 hz1 hz2 rfl (by decide) _ _ _ rfl (hown.alloc _) ⟨wr.heap.size, 0, none⟩ 1 1 [.int .i64 x.id, .slice a m c'] rfl rfl ?c1 ?c2 ?c3 ?c4 ?c5 ?_)
      case c1 => exact cell_list_at rfl _ _
      case c2 => simp [Value.oneCell']
      case c3 => unfold maxLen; omega
      case c4 => omega
      case c5 => simp; omega
      intro v' w6 hown6 hgrow _ hat
      have hb6 : Below w4.heap.size w4 w6 := Below.grown (hb.alloc hs _) hgrow (by simp; omega) (fun g hg => (hown.lt g hg).1)
      have hrd6 := ((HRDD.out.up (one_alloc wr (.cells #[.int .i64 x.id, .slice a m c'] 24))).snoc (v := ⟨x.id, a, m, c'⟩) (r := x) rfl HM.out (SaS.up (SaS.up HSX.out hb) (one_alloc wr _)) (fun b off hA h0 e => by
        obtain ⟨g, o, f1, _, f2, _⟩ := HSX.out.2 h0
        change a = _ at hA
        rw [hA] at f1
        cases f1
        have := (hown.lt b e.symm).1
        omega)).grown (row' := v'.ownBlock) hgrow (by rw [World.size_alloc]; exact hat)
      have HRD6 := Lib.hid hrd6
      clear hrd6 hat hgrow
      go_wp2_with fail
      refine ⟨⟨k + 1, vs ++ [⟨x.id, a, m, c'⟩], by omega, by have := HPK.out; congr 1, ?_, by simp [hvl], ?_, hb6⟩, by simp [intOf]⟩
      · rw [List.flatMap_append]; exact hown6
      · rw [take_snocS HX.out]; exact HRD6.out
    · obtain rfl : k = n := by omega
      rw [show (k : Int) - 1 - (k : Int) = -1 by omega] at ht
      subst ht
      have HLS : Hid (LsS wr Ao k ls.reverse) := by
        rw [take_all (by rw [List.length_reverse]; exact HL.out)] at hrd
        refine ⟨vs, (Sl.of_own encLV_len hown hvl).any, hrd.len, fun i v x hv hx => ?_⟩
        obtain ⟨k1, k2, k3, _⟩ := hrd.each i v x hv hx
        exact ⟨k1, k2, k3⟩
      have HL1' := Lib.hid (HL1.out.up hb)
      have HL3' := Lib.hid (HL3.out.up hb)
      clear hown hrd hb
      go_wp2_with fail
      refine (HG3.out Ao co wr HLS.out).mono ?_; rintro r w5 ⟨⟨A5, n5, c5, rfl, hn5, hL5, _⟩, hb5⟩
      have hbw5 := below_keep' HBW.out hb5
      have hL1 := HL1'.out.up hb5
      have hL3 := HL3'.out.up hb5
      go_wp2_with fail
      refine (lists_any A2 n2 c2 gs A3 n3 c3 gs _ hn2 hn3 hL1 hL3).mono ?_; rintro r w6 ⟨rfl, hb6⟩
      rw [decide_eq_true (rfl : gs = gs)]
      replace hL1 := hL1.up hb6
      replace hL5 := hL5.up hb6
      have hbw6 := below_keep' hbw5 hb6
      clear hL3
      go_wp2_with fail
      refine (lists_any A5 n5 c5 gs A2 n2 c2 gs _ hn5 hn2 hL5 hL1).mono ?_; rintro r w7 ⟨rfl, hb7⟩
      rw [decide_eq_true (rfl : gs = gs)]
      go_wp2_with fail
      go_ret
      exact ⟨by simp, below_keep' hbw6 hb7⟩
end Go.Proofs.YtccmchmemafjdaaGreatDoor
