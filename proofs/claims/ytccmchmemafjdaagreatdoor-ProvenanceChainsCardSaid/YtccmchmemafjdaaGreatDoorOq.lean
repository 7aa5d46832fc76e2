/- Chapter 46: the roots in memory: find and join. -/
import Derived.Test.YtccmchmemafjdaaGreatDoorOo
set_option linter.unusedSimpArgs false
set_option linter.unusedVariables false
namespace Go.Proofs.YtccmchmemafjdaaGreatDoor
open Go.RowKit Go.Maps

theorem Bx.kept {w w' : World} {b m : Nat} {vs : List Value} (h : Bx w b vs) (hg : w.grownBy w' (some m)) (hne : b ≠ m) : Bx w' b vs := by
  have hb : w'.heap[b]? = w.heap[b]? := hg.block b h.lt (fun e => hne (by injection e))
  refine ⟨Nat.lt_of_lt_of_le h.lt hg.size, fun j u hu => ?_, fun j => ?_⟩
  · have := h.cell j u hu
    unfold World.cell? at this ⊢
    simp only [hb]
    exact this
  · have := h.frz j
    unfold World.frozen? at this ⊢
    simp only [hb]
    exact this
/-- What the roots' map holds. -/
def rtF (ids : List Int) (f : Int → Int) (i : Int) : Option Int := if i ∈ ids then some (f i) else none
/-- The roots in memory: the variable's cell and its map. -/
structure RtS (w : World) (Br Bm n : Nat) (ids : List Int) (f : Int → Int) : Prop where
  box : Bx w Br [.map (some Bm)]
  map : MapF KI VI w Bm n (rtF ids f)
  ne : Br ≠ Bm
theorem RtS.up {w w' : World} {Br Bm n : Nat} {ids : List Int} {f : Int → Int} (h : RtS w Br Bm n ids f) (hb : Below w.heap.size w w') : RtS w' Br Bm n ids f := ⟨h.box.up hb, h.map.up hb, h.ne⟩
theorem rtF_mem {ids : List Int} {f : Int → Int} {i : Int} (h : i ∈ ids) : rtF ids f i = some (f i) := by unfold rtF; rw [if_pos h]
theorem rtF_set {ids : List Int} {f : Int → Int} {k : Int} (h : k ∈ ids) (v : Int) : rtF ids (setF f k v) = fun j => if j = k then some v else rtF ids f j := by
  funext j
  unfold rtF setF
  by_cases e : j = k
  · subst e
    rw [if_pos h, if_pos rfl, if_pos rfl]
  · rw [if_neg e, if_neg e]
theorem RtS.look {w : World} {Br Bm n : Nat} {ids : List Int} {f : Int → Int} (h : RtS w Br Bm n ids f) {i : Int} (hi : i ∈ ids) (h64 : in64 i) : (Instr.lookup 104 (.map (some Bm)) (.int .i64 i) false).run Tryz.prog w = .ok (.int .i64 (f i)) w := by
  have := h.map.look Tryz.underlying104 (i := i) h64
  rw [rtF_mem hi] at this
  exact this
def AllIn (ids : List Int) : Prop := ∀ a ∈ ids, in64 a

set_option maxRecDepth 100000 in
set_option maxHeartbeats 1000000 in
theorem pfindr_any (Br Bm n : Nat) (ids : List Int) (f : Int → Int) (a : Int) (w : World) (hd : Down ids f) (h64 : AllIn ids) (ha : a ∈ ids) (hR : RtS w Br Bm n ids f) :
    Calls Tryz.prog 77 #[.int .i64 a, .pointer (some ⟨Br, 0, none⟩)] w fun e w' => e = .returned (.int .i64 (rootF f a)) ∧ w' = w := by
  have HD := Lib.hid hd
  have H64 := Lib.hid h64
  have HR := Lib.hid hR
  have hc := hR.box.cell 0 _ rfl
  have hlt := hR.box.lt
  have hfz := hR.box.frz 0
  clear hd h64 hR
  go_enter Tryz.func77, Tryz.ntmps77
  go_wp2_with fail
  go_loop [0] (fun s => ∃ i : Int, s = .int .i64 i ∧ i ∈ ids ∧ rootF f i = rootF f a) (fun s => (intOf s).toNat)
  case atStart => exact ⟨a, rfl, ha, rfl⟩
  case round =>
    obtain ⟨i, rfl, hi, hr⟩ := hrel
    have hlook := HR.out.look hi (H64.out i hi)
    by_cases hfi : f i = i
    · have hne : (!(f i == i)) = false := by simpa using hfi
      have HV : Hid (rootF f a = i) := by show _ = _; rw [← hr]; exact HD.out.root_fix hfi hi
      clear hr
      go_wp2_with fail
      go_ret
      exact ⟨by rw [HV.out]; rfl, rfl⟩
    · have hne : (!(f i == i)) = true := by simpa using hfi
      have HS := Lib.hid (HD.out.step hi)
      have HM := Lib.hid (HD.out.mem i hi)
      have HL := Lib.hid (HD.out.le i hi)
      have HP := Lib.hid (HD.out.pos _ (HD.out.mem i hi))
      have HRR := Lib.hid hr; clear hr
      go_wp2_with fail
      go_round
      case rel => exact ⟨f i, rfl, HM.out, HS.out.trans HRR.out⟩
      case measure =>
        have h1 := HL.out
        have h2 := HP.out
        simp [intOf]; omega
theorem RtS.drewN {w : World} {Br Bm n : Nat} {ids : List Int} {f : Int → Int} (h : RtS w Br Bm n ids f) (q : Nat) : RtS (w.drewN q) Br Bm n ids f := h.up (below_drewN (Below.refl _ _) q)
theorem RtS.put {w w' : World} {Br Bm n : Nat} {ids : List Int} {f : Int → Int} {k v : Int} (h : RtS w Br Bm n ids f) (hk : k ∈ ids) (hg : w.grownBy w' (some Bm))
    (hM : MapF KI VI w' Bm (if (rtF ids f k).isSome then n else n + 1) (fun j => if j = k then some v else rtF ids f j)) : RtS w' Br Bm n ids (setF f k v) := by
  refine ⟨h.box.kept hg h.ne, ?_, h.ne⟩
  rw [rtF_mem hk] at hM
  rw [rtF_set hk]
  exact hM
set_option maxRecDepth 100000 in
set_option maxHeartbeats 1000000 in
theorem pjoin_any (Bf Br Bm n : Nat) (ids : List Int) (f : Int → Int) (a b : Int) (w : World) (hn : n < maxLen) (hd : Down ids f) (h64 : AllIn ids) (ha : a ∈ ids) (hb : b ∈ ids) (hR : RtS w Br Bm n ids f)
    (hF : Bx w Bf [.func (.func 77) #[] #[.pointer (some ⟨Br, 0, none⟩)]]) :
    Calls Tryz.prog 78 #[.int .i64 a, .int .i64 b, .pointer (some ⟨Bf, 0, none⟩), .pointer (some ⟨Br, 0, none⟩)] w fun e w' => e = .returned (.tuple #[]) ∧ RtS w' Br Bm n ids (joinF f a b) ∧ w.grownBy w' (some Bm) := by
  have HN := Lib.hid hn
  have HD := Lib.hid hd
  have H64 := Lib.hid h64
  have HR := Lib.hid hR
  have HA := Lib.hid ha
  have HB := Lib.hid hb
  have hc := hR.box.cell 0 _ rfl
  have hlt := hR.box.lt
  have hfz := hR.box.frz 0
  have hcf := hF.cell 0 _ rfl
  have hltf := hF.lt
  have hfzf := hF.frz 0
  have HF1 : Hid (∀ q, Calls Tryz.prog 77 #[.int .i64 a, .pointer (some ⟨Br, 0, none⟩)] (w.drewN q) fun e w' => e = .returned (.int .i64 (rootF f a)) ∧ w' = w.drewN q) := fun q => pfindr_any Br Bm n ids f a _ HD.out H64.out HA.out (HR.out.drewN q)
  have HF2 : Hid (∀ q, Calls Tryz.prog 77 #[.int .i64 b, .pointer (some ⟨Br, 0, none⟩)] (w.drewN q) fun e w' => e = .returned (.int .i64 (rootF f b)) ∧ w' = w.drewN q) := fun q => pfindr_any Br Bm n ids f b _ HD.out H64.out HB.out (HR.out.drewN q)
  have HM : Hid (max (rootF f a) (rootF f b) ∈ ids ∧ min (rootF f a) (rootF f b) ∈ ids) := by
    have m1 := (HD.out.root_mem (HD.out.root HA.out) HA.out).1
    have m2 := (HD.out.root_mem (HD.out.root HB.out) HB.out).1
    rcases Int.le_total (rootF f a) (rootF f b) with h1 | h1
    · exact ⟨by rw [Int.max_eq_right h1]; exact m2, by rw [Int.min_eq_left h1]; exact m1⟩
    · exact ⟨by rw [Int.max_eq_left h1]; exact m1, by rw [Int.min_eq_right h1]; exact m2⟩
  clear hn hd h64 hR ha hb hF
  go_enter Tryz.func78, Tryz.ntmps78
  go_wp2_with fail
  go_quiet (first
    | (go_at_call 77; with_reducible refine Calls.quiet_of_same (HF1.out _))
    | (go_at_call 77; with_reducible refine Calls.quiet_of_same (HF2.out _)))
  go_wp2_with (at_mapUpdate; refine wpList_mapF Tryz.underlying104 rfl _ _ _ rfl Bm n _ rfl (HR.out.drewN _).map HN.out (max (rootF f a) (rootF f b)) (H64.out _ HM.out.1) (min (rootF f a) (rootF f b)) (H64.out _ HM.out.2) rfl rfl ?_; intro w2 hM2 hgr)
  refine bodyPost_end (results_none rfl _ _ _) rfl ⟨rfl, (HR.out.drewN _).put HM.out.1 hgr hM2, ?_⟩
  exact ⟨hgr.os, hgr.tape, hgr.output, hgr.size, fun i hi hne => hgr.block i hi hne⟩
end Go.Proofs.YtccmchmemafjdaaGreatDoor
