/- Chapter 54: report.Summary. (Printed by hwt.py from Xf.txt.) -/
import Derived.Test.YtdokpmfejibdlaaGreatDoorXe
set_option linter.unusedSimpArgs false
set_option linter.unusedVariables false
namespace Go.Proofs.YtdokpmfejibdlaaGreatDoor
open Go.RowKit

/-- The numbers of a summary. -/
noncomputable def nsG (xs : List Spm) : List Int := [xs.length, (grOf xs).obv.length, (grOf xs).rev.length, (pairsG (grOf xs)).length, (chainsG (grOf xs)).length, loopsG (grOf xs)]
theorem cellW {W0 : World} {i : Nat} {wd : List UInt8} (h : sumW[i]? = some wd) (W : World) (hW : Below (W0.alloc (.cells #[.string ⟨#[115, 112, 101, 99, 105, 109, 101, 110, 115]⟩, .string ⟨#[111, 98, 118, 101, 114, 115, 101, 115]⟩, .string ⟨#[114, 101, 118, 101, 114, 115, 101, 115]⟩, .string ⟨#[112, 97, 105, 114, 115]⟩, .string ⟨#[99, 104, 97, 105, 110, 115]⟩, .string ⟨#[108, 111, 111, 112, 115]⟩] 9)).heap.size (W0.alloc (.cells #[.string ⟨#[115, 112, 101, 99, 105, 109, 101, 110, 115]⟩, .string ⟨#[111, 98, 118, 101, 114, 115, 101, 115]⟩, .string ⟨#[114, 101, 118, 101, 114, 115, 101, 115]⟩, .string ⟨#[112, 97, 105, 114, 115]⟩, .string ⟨#[99, 104, 97, 105, 110, 115]⟩, .string ⟨#[108, 111, 111, 112, 115]⟩] 9)) W) : W.cell? ⟨W0.heap.size, i, none⟩ = some (.string ⟨wd.toArray⟩) := by
  rw [hW.cell (p := ⟨W0.heap.size, i, none⟩) (by show W0.heap.size < _; simp), World.cell?_alloc_new]
  have e : (#[.string ⟨#[115, 112, 101, 99, 105, 109, 101, 110, 115]⟩, .string ⟨#[111, 98, 118, 101, 114, 115, 101, 115]⟩, .string ⟨#[114, 101, 118, 101, 114, 115, 101, 115]⟩, .string ⟨#[112, 97, 105, 114, 115]⟩, .string ⟨#[99, 104, 97, 105, 110, 115]⟩, .string ⟨#[108, 111, 111, 112, 115]⟩] : Array Value) = (sumW.map (fun s => Value.string ⟨s.toArray⟩)).toArray := rfl
  rw [e, List.getElem?_toArray, List.getElem?_map, h]
  rfl
theorem sumT_len (ns : List Int) (h : ∀ x ∈ ns, -1000000 ≤ x ∧ x ≤ 1000000) (i : Nat) : (sumT ns i).length ≤ 40 := by
  have h1 : (sumW.getD i []).length ≤ 9 := by
    rw [List.getD_eq_getElem?_getD]
    cases hc : sumW[i]? with
    | none => simp
    | some r =>
      have hr := List.mem_of_getElem? hc
      simp only [sumW, List.mem_cons, List.not_mem_nil, or_false] at hr
      rcases hr with rfl | rfl | rfl | rfl | rfl | rfl <;> decide
  have h2 : (Lib.itoa (ns.getD i 0)).length ≤ 21 := by
    rw [List.getD_eq_getElem?_getD]
    cases hc : ns[i]? with
    | none => exact Lib.itoa_length_le _ (by decide) (by decide)
    | some r =>
      have := h r (List.mem_of_getElem? hc)
      exact Lib.itoa_length_le r (by omega) (by omega)
  unfold sumT
  simp only [List.length_append, List.length_cons, List.length_nil]
  split <;> simp only [List.length_cons, List.length_nil] <;> omega
theorem cellS0 {w0 W : World} {b : Nat} {l : List UInt8} (hR : Rep w0 W b l) {i : Nat} {wd : List UInt8} (h : sumW[i]? = some wd) : ∀ W' : World, Below (W.alloc (.cells #[.string ⟨#[115, 112, 101, 99, 105, 109, 101, 110, 115]⟩, .string ⟨#[111, 98, 118, 101, 114, 115, 101, 115]⟩, .string ⟨#[114, 101, 118, 101, 114, 115, 101, 115]⟩, .string ⟨#[112, 97, 105, 114, 115]⟩, .string ⟨#[99, 104, 97, 105, 110, 115]⟩, .string ⟨#[108, 111, 111, 112, 115]⟩] 9)).heap.size (W.alloc (.cells #[.string ⟨#[115, 112, 101, 99, 105, 109, 101, 110, 115]⟩, .string ⟨#[111, 98, 118, 101, 114, 115, 101, 115]⟩, .string ⟨#[114, 101, 118, 101, 114, 115, 101, 115]⟩, .string ⟨#[112, 97, 105, 114, 115]⟩, .string ⟨#[99, 104, 97, 105, 110, 115]⟩, .string ⟨#[108, 111, 111, 112, 115]⟩] 9)) W' → W'.cell? ⟨W.heap.size, i, none⟩ = some (.string ⟨wd.toArray⟩) := fun W' hW => cellW h W' hW
theorem cellS1 {w0 W : World} {b : Nat} {l : List UInt8} (hR : Rep w0 W b l) : Below (W.alloc (.cells #[.string ⟨#[115, 112, 101, 99, 105, 109, 101, 110, 115]⟩, .string ⟨#[111, 98, 118, 101, 114, 115, 101, 115]⟩, .string ⟨#[114, 101, 118, 101, 114, 115, 101, 115]⟩, .string ⟨#[112, 97, 105, 114, 115]⟩, .string ⟨#[99, 104, 97, 105, 110, 115]⟩, .string ⟨#[108, 111, 111, 112, 115]⟩] 9)).heap.size (W.alloc (.cells #[.string ⟨#[115, 112, 101, 99, 105, 109, 101, 110, 115]⟩, .string ⟨#[111, 98, 118, 101, 114, 115, 101, 115]⟩, .string ⟨#[114, 101, 118, 101, 114, 115, 101, 115]⟩, .string ⟨#[112, 97, 105, 114, 115]⟩, .string ⟨#[99, 104, 97, 105, 110, 115]⟩, .string ⟨#[108, 111, 111, 112, 115]⟩] 9)) (W.alloc (.cells #[.string ⟨#[115, 112, 101, 99, 105, 109, 101, 110, 115]⟩, .string ⟨#[111, 98, 118, 101, 114, 115, 101, 115]⟩, .string ⟨#[114, 101, 118, 101, 114, 115, 101, 115]⟩, .string ⟨#[112, 97, 105, 114, 115]⟩, .string ⟨#[99, 104, 97, 105, 110, 115]⟩, .string ⟨#[108, 111, 111, 112, 115]⟩] 9)) := Below.refl _ _
theorem pairsG_le {g : Gr} (hg : GrOk g) : (pairsG g).length ≤ 1024 := by
  unfold pairsG
  rw [List.length_flatMap]
  have h : ∀ l : List Int, ((l.map fun o => ((g.rev.filter (fun r => decide (0 < cntL g o r))).map (fun r => (o, r))).length).sum) ≤ l.length * 32 := fun l => by
    induction l with
    | nil => simp
    | cons o l ih =>
      rw [List.map_cons, List.sum_cons, List.length_cons, Nat.succ_mul, List.length_map]
      have h1 : (g.rev.filter (fun r => decide (0 < cntL g o r))).length ≤ 32 := Nat.le_trans (List.length_filter_le _ _) hg.lr
      omega
  have := h g.obv
  have := hg.lo
  omega
theorem sumW_at {i : Nat} (h : i < 6) : ∃ wd : List UInt8, sumW[i]? = some wd ∧ wd.length ≤ 9 := by
  have h1 : i < sumW.length := h
  refine ⟨sumW[i], List.getElem?_eq_getElem h1, ?_⟩
  have hr := List.getElem_mem h1
  revert hr
  generalize sumW[i] = r
  intro hr
  simp only [sumW, List.mem_cons, List.not_mem_nil, or_false] at hr
  rcases hr with rfl | rfl | rfl | rfl | rfl | rfl <;> decide
set_option maxRecDepth 100000 in
set_option maxHeartbeats 4000000 in
theorem rsummary_any (A : Option Addr) (len cap : Nat) (xs : List Spm) (w : World) (hE : Env w) (hlen : len ≤ 1000000) (hS : Sl w 0 w.heap.size 7 encS A len xs) :
    Calls Tryz.prog 12 #[.slice A len cap] w (RepW w (repL xs (sumL (nsG xs))) (grE xs)) := by
  have HO := Lib.hid (lof_any A len cap xs w hlen hS)
  have hlx := hS.len
  clear hS
  go_enter Tryz.func12, Tryz.ntmps12
  go_wp2_with fail
  refine HO.out.mono ?_; rintro e w1 ⟨⟨A1, n1, c1, B1, m1, d1, C1, k1, l1, rfl, hn1, hm1, hk1, hG1⟩, hb1⟩
  by_cases he : ¬ grE xs = 0
  · have hd : (grE xs != 0) = true := by simpa using he
    have HT : Hid (repL xs (sumL (nsG xs)) = []) := if_neg he
    generalize grE xs = code at *
    clear he hG1
    go_wp2_with fail
    go_ret2
    exact ⟨by rw [HT.out]; rfl, hb1.alloc hb1.size _⟩
  replace he := Classical.not_not.1 he
  have HT : Hid (repL xs (sumL (nsG xs)) = sumL (nsG xs)) := if_pos he
  have HE := Lib.hid he
  have HK := Lib.hid (grOk_of he)
  rw [grR_ok he] at hG1
  rw [he]
  have hb2 := hb1.alloc hb1.size (.cells #[.slice A1 n1 c1, .slice B1 m1 d1, .slice C1 k1 l1] 52)
  have hG2 := hG1.up (one_alloc w1 (.cells #[.slice A1 n1 c1, .slice B1 m1 d1, .slice C1 k1 l1] 52))
  have HPa : Hid (∀ W, Below (w1.alloc (.cells #[.slice A1 n1 c1, .slice B1 m1 d1, .slice C1 k1 l1] 52)).heap.size (w1.alloc (.cells #[.slice A1 n1 c1, .slice B1 m1 d1, .slice C1 k1 l1] 52)) W → Calls Tryz.prog 32 #[.agg #[.slice A1 n1 c1, .slice B1 m1 d1, .slice C1 k1 l1]] W (PairsW W (pairsG (grOf xs)) 0)) := fun W hW => lpairs_any A1 n1 c1 B1 m1 d1 C1 k1 l1 (grOf xs) W (hG2.up hW) HK.out
  have HCh : Hid (∀ W, Below (w1.alloc (.cells #[.slice A1 n1 c1, .slice B1 m1 d1, .slice C1 k1 l1] 52)).heap.size (w1.alloc (.cells #[.slice A1 n1 c1, .slice B1 m1 d1, .slice C1 k1 l1] 52)) W → Calls Tryz.prog 33 #[.agg #[.slice A1 n1 c1, .slice B1 m1 d1, .slice C1 k1 l1]] W (ChainsW W (chainsG (grOf xs)) 0)) := fun W hW => lchains_any A1 n1 c1 B1 m1 d1 C1 k1 l1 (grOf xs) W (hG2.up hW) HK.out
  have HLo : Hid (∀ W, Below (w1.alloc (.cells #[.slice A1 n1 c1, .slice B1 m1 d1, .slice C1 k1 l1] 52)).heap.size (w1.alloc (.cells #[.slice A1 n1 c1, .slice B1 m1 d1, .slice C1 k1 l1] 52)) W → Calls Tryz.prog 34 #[.agg #[.slice A1 n1 c1, .slice B1 m1 d1, .slice C1 k1 l1]] W fun e w' => e = .returned (.tuple #[.int .i64 (loopsG (grOf xs)), .int .i64 0]) ∧ Below W.heap.size W w') := fun W hW => lloops_any A1 n1 c1 B1 m1 d1 C1 k1 l1 (grOf xs) W (hG2.up hW) HK.out
  have D4 := (Bx.new w1 [.slice A1 n1 c1, .slice B1 m1 d1, .slice C1 k1 l1] 52)
  have D4' : Bx (w1.alloc (.cells #[.slice A1 n1 c1, .slice B1 m1 d1, .slice C1 k1 l1] 52)) w1.heap.size [.slice A1 n1 c1, .slice B1 m1 d1, .slice C1 k1 l1] := D4
  clear D4
  have hl64 : len ≤ 64 := by have := (spm_ok he).1; omega
  have hpl := pairsG_le HK.out
  have hcl := (chainsG_row HK.out).1
  have hns : nsG xs = [(len : Int), n1, m1, (pairsG (grOf xs)).length, (chainsG (grOf xs)).length, loopsG (grOf xs)] := by unfold nsG; rw [hlx, hG1.obv.len, hG1.rev.len]
  have hlo : loopsG (grOf xs) = (k1 : Int) - n1 - m1 + (chainsG (grOf xs)).length := by unfold loopsG; rw [hG1.links.len, hG1.obv.len, hG1.rev.len]
  have hlob : -1000 ≤ loopsG (grOf xs) ∧ loopsG (grOf xs) ≤ 1000 := by omega
  clear hlo hlx
  generalize nsG xs = ns at *
  have HNSB : Hid (∀ x ∈ ns, -1000000 ≤ x ∧ x ≤ 1000000) := fun x hx => by
    rw [hns] at hx
    simp only [List.mem_cons, List.not_mem_nil, or_false] at hx
    rcases hx with rfl | rfl | rfl | rfl | rfl | rfl <;> omega
  generalize loopsG (grOf xs) = lps at *
  generalize hpg : pairsG (grOf xs) = pg at *
  generalize hcg : chainsG (grOf xs) = cg at *
  have HNS := Lib.hid hns
  clear he hG1 hG2 hb1 hns hpg hcg
  go_wp2_with fail
  refine (HPa.out _ (Below.refl _ _)).mono ?_; rintro e w4 ⟨⟨A4, n4, c4, rfl, hn4, hS4⟩, hb4⟩
  have HL4 := Lib.hid hS4.len
  have D5 := D4'.up hb4
  have q0 := D5.cell 0 _ rfl
  have q1 := D5.cell 1 _ rfl
  have q2 := D5.cell 2 _ rfl
  have ql := D5.lt
  clear D5 hS4
  go_wp2_with fail
  refine (HCh.out _ hb4).mono ?_; rintro e w5 ⟨⟨A5, n5, c5, vs5, rfl, hn5, hl5, _⟩, hb5⟩
  replace hb5 := below_keep' hb4 hb5
  have HL5 := Lib.hid hl5
  have D5 := D4'.up hb5
  clear hl5 q0 q1 q2 ql hb4
  have q0 := D5.cell 0 _ rfl
  have q1 := D5.cell 1 _ rfl
  have q2 := D5.cell 2 _ rfl
  have ql := D5.lt
  clear D5
  go_wp2_with fail
  refine (HLo.out _ hb5).mono ?_; rintro e w6 ⟨rfl, hb6⟩
  replace hb6 := below_keep' hb5 hb6
  have D6 := D4'.up hb6
  clear q0 q1 q2 ql hb5
  have q0 := D6.cell 0 _ rfl
  have q1 := D6.cell 1 _ rfl
  have ql := D6.lt
  clear D6 D4'
  have hb26 := below_keep' hb2 hb6
  clear hb6 hb2
  have hRep := (Rep.start w6).up (one_alloc _ (.cells #[.int .i64 len, .int .i64 n1, .int .i64 m1, .int .i64 n4, .int .i64 n5, .int .i64 lps] 3))
  have hN0 := World.ownsRow_lit (base := 0) (e := 3) (size := 1) (w6.alloc (.cells #[.pointer none, .slice none 0 0] 66)) #[.int .i64 len, .int .i64 n1, .int .i64 m1, .int .i64 n4, .int .i64 n5, .int .i64 lps] 6 (by omega) (by unfold maxLen; omega) rfl
  have hnse : #[Value.int .i64 (len : Int), .int .i64 n1, .int .i64 m1, .int .i64 n4, .int .i64 n5, .int .i64 lps].toList = ns.flatMap encI := by rw [HNS.out, ← HL4.out.symm, ← HL5.out]; rfl
  rw [hnse] at hN0
  clear hnse
  rw [World.size_alloc] at hN0
  go_wp2_with fail
  clear q0 q1 ql
  generalize ((w6.alloc (.cells #[.pointer none, .slice none 0 0] 66)).alloc (.cells #[.int .i64 len, .int .i64 n1, .int .i64 m1, .int .i64 n4, .int .i64 n5, .int .i64 lps] 3)) = w7 at *
  have HLN : Hid (ns.length = 6) := by show _ = _; rw [HNS.out]; rfl
  go_loopw [53] (fun i wr => ∃ j : Nat, j ≤ 6 ∧ i = .int .i64 (j : Int) ∧ Rep w6 wr w6.heap.size ((List.range j).flatMap (sumT ns)) ∧ wr.ownsRow 0 3 1 (.slice (some ⟨w6.heap.size + 1, 0, none⟩) 6 6) 6 (ns.flatMap encI)) (fun i _ => 6 - (intOf i).toNat)
  case atStart => exact ⟨0, by omega, rfl, by simpa using hRep, hN0⟩
  case round =>
    clear hRep hN0
    obtain ⟨j, hj, rfl, hR, hN⟩ := hrel
    by_cases hlt : j < 6
    · obtain ⟨wd, hwd, hwl⟩ := sumW_at hlt
      obtain ⟨x, hx⟩ : ∃ x, ns[j]? = some x := ⟨_, List.getElem?_eq_getElem (by rw [HLN.out]; exact hlt)⟩
      have hxb := HNSB.out x (List.mem_of_getElem? hx)
      have r0 : wr.cell? ⟨w6.heap.size + 1, j, none⟩ = some (.int .i64 x) := by
        rw [hN.cellAt j (by omega), encI_flat, List.getElem?_map, hx]; rfl
      have rl := (hN.lt (w6.heap.size + 1) rfl).2
      have HWD := Lib.hid hwd
      have hft := flatR_len (m := 40) (sumT ns) j (fun i hi => sumT_len ns HNSB.out i)
      have HFS := Lib.hid (flatR_succ (sumT ns) j)
      have HST : Hid (sumT ns j = (if 0 < j then [32] else []) ++ (wd ++ [32] ++ Lib.itoa x)) := by
        show _ = _; unfold sumT; rw [List.getD_eq_getElem?_getD, List.getD_eq_getElem?_getD, hwd, hx]; rfl
      generalize (List.range j).flatMap (sumT ns) = tj at *
      have hil := Lib.itoa_length_le x (by omega) (by omega)
      have HIT : Hid (∀ W, Below w6.heap.size w6 W → Calls Tryz.prog 37 #[.int .i64 x] W fun e w' => e = .returned (.string ⟨(Lib.itoa x).toArray⟩) ∧ Below W.heap.size W w') := fun W hW => itoa_any x W (by omega) (by omega) (hE.step (below_keep' hb26 hW))
      generalize Lib.itoa x = sx at *
      have ha1 := add_lists (P := Tryz.prog) wd [32] (by simp; omega)
      have ha2 := add_lists (P := Tryz.prog) (wd ++ [32]) sx (by simp; omega)
      simp only [List.append_assoc, List.cons_append, List.nil_append] at ha1 ha2
      clear hwd hx
      by_cases hj0 : 0 < j
      case' pos =>
        rw [if_pos hj0] at HST
        go_wp2_with fail
        refine (hR.wsp (by omega)).mono ?_; rintro e w9 ⟨rfl, hR9, hok9⟩
        have hN9 := own_others hN (by decide) (by decide) hR.cells hok9
        clear hok9 hR hN r0 rl
        go_wp2_with fail
        obtain ⟨l0, hl0⟩ : ∃ l0, l0 = tj ++ [32] := ⟨_, rfl⟩
        have HL1 : Hid (tj ++ sumT ns j = l0 ++ (wd ++ 32 :: sx)) := by show _ = _; rw [HST.out, hl0]; simp
        have hll : l0.length ≤ 400 := by rw [hl0]; simp only [List.length_append, List.length_cons, List.length_nil]; omega
        rw [← hl0] at hR9
        clear hl0
        generalize w9 = W5 at *
      case' neg =>
        rw [if_neg hj0] at HST
        have hR9 := hR
        have hN9 := hN
        clear hR hN
        go_wp2_with fail
        clear r0 rl
        obtain ⟨l0, hl0⟩ : ∃ l0, l0 = tj := ⟨_, rfl⟩
        have HL1 : Hid (tj ++ sumT ns j = l0 ++ (wd ++ 32 :: sx)) := by show _ = _; rw [HST.out, hl0]; simp
        have hll : l0.length ≤ 400 := by rw [hl0]; omega
        rw [← hl0] at hR9
        clear hl0
        generalize wr = W5 at *
      all_goals
        rw [← HFS.out] at HL1
        have hR := hR9.up (Below.drew (Below.refl _ _))
        have hN := own_below' hN9 (Below.drew (Below.refl _ _))
        clear hR9 hN9 hj0
        refine wp_region_noPanic ?_
        refine wp_region_held_drew (S := fun U => Below w6.heap.size w6 U) (by kernel_rfl) hR.base (fun hHeld => ?_)
        generalize W5.drew = Wx at *
        refine' takeW 1 ?_ ?_ ?_ (by kernel_rfl) (by kernel_rfl) (by kernel_rfl) (fun _ _ _ h => h) hHeld ?_
        rotate_left 2
        · (simp only [List.getElem?_toArray, List.getElem?_cons_succ, List.getElem?_cons_zero]; try rfl)
        · rfl
        · (intro w hSw; (try dsimp only at hSw); go_simp; first | done | with_reducible rfl)
        (try simp only [Act.put, List.setIfInBounds_toArray, List.set_cons_zero, List.set_cons_succ])
        refine' takeW 5 ?_ ?_ ?_ (by kernel_rfl) (by kernel_rfl) (by kernel_rfl) (fun _ _ _ h => h) hHeld ?_
        rotate_left 2
        · (simp only [List.getElem?_toArray, List.getElem?_cons_succ, List.getElem?_cons_zero]; try rfl)
        · rfl
        · (intro w hSw; (try dsimp only at hSw); go_simp; first | done | with_reducible rfl)
        (try simp only [Act.put, List.setIfInBounds_toArray, List.set_cons_zero, List.set_cons_succ])
        refine wpAnyH_ready (rs := [0, 6]) (by kernel_rfl) (by simp) ?_
        refine AllReadyH.cons (o := ?o1_2_0) ?h1_2_0 (fun K hK => ?s1_2_0) (AllReadyH.cons (o := ?o1_2_6) ?h1_2_6 (fun K hK => ?s1_2_6) AllReadyH.nil)
        case h1_2_0 => (simp only [List.getElem?_toArray, List.getElem?_cons_succ, List.getElem?_cons_zero]; try rfl)
        case h1_2_6 => (simp only [List.getElem?_toArray, List.getElem?_cons_succ, List.getElem?_cons_zero]; try rfl)
        case s1_2_0 =>
          (try go_simp)
          have HCW := Lib.hid (cellS0 hR HWD.out)
          have hBW := cellS1 hR
          replace hR := hR.up (one_alloc _ (.cells #[.string ⟨#[115, 112, 101, 99, 105, 109, 101, 110, 115]⟩, .string ⟨#[111, 98, 118, 101, 114, 115, 101, 115]⟩, .string ⟨#[114, 101, 118, 101, 114, 115, 101, 115]⟩, .string ⟨#[112, 97, 105, 114, 115]⟩, .string ⟨#[99, 104, 97, 105, 110, 115]⟩, .string ⟨#[108, 111, 111, 112, 115]⟩] 9))
          replace hN := own_below' hN (one_alloc _ (.cells #[.string ⟨#[115, 112, 101, 99, 105, 109, 101, 110, 115]⟩, .string ⟨#[111, 98, 118, 101, 114, 115, 101, 115]⟩, .string ⟨#[114, 101, 118, 101, 114, 115, 101, 115]⟩, .string ⟨#[112, 97, 105, 114, 115]⟩, .string ⟨#[99, 104, 97, 105, 110, 115]⟩, .string ⟨#[108, 111, 111, 112, 115]⟩] 9))
          refine hK.out _ _ hR.base (fun hHeld => ?_)
          clear hK K
          (try simp only [Act.put, List.setIfInBounds_toArray, List.set_cons_zero, List.set_cons_succ])
          refine' takeW 2 ?_ ?_ ?_ (by kernel_rfl) (by kernel_rfl) (by kernel_rfl) (fun _ _ _ h => h) hHeld ?_
          rotate_left 2
          · (simp only [List.getElem?_toArray, List.getElem?_cons_succ, List.getElem?_cons_zero]; try rfl)
          · rfl
          · (intro w hSw; (try dsimp only at hSw); go_simp; first | done | with_reducible rfl)
          (try simp only [Act.put, List.setIfInBounds_toArray, List.set_cons_zero, List.set_cons_succ])
          refine wpAnyH_ready (rs := [3, 6]) (by kernel_rfl) (by simp) ?_
          refine AllReadyH.cons (o := ?o1_4_3) ?h1_4_3 (fun K hK => ?s1_4_3) (AllReadyH.cons (o := ?o1_4_6) ?h1_4_6 (fun K hK => ?s1_4_6) AllReadyH.nil)
          case h1_4_3 => (simp only [List.getElem?_toArray, List.getElem?_cons_succ, List.getElem?_cons_zero]; try rfl)
          case h1_4_6 => (simp only [List.getElem?_toArray, List.getElem?_cons_succ, List.getElem?_cons_zero]; try rfl)
          case s1_4_3 =>
            have rW := HCW.out _ hBW
            have rWl := hR.lt
            (try go_simp)
            refine hK.out _ _ hHeld (fun hHeld => ?_)
            clear hK K rW rWl
            (try simp only [Act.put, List.setIfInBounds_toArray, List.set_cons_zero, List.set_cons_succ])
            refine' takeW 4 ?_ ?_ ?_ (by kernel_rfl) (by kernel_rfl) (by kernel_rfl) (fun _ _ _ h => h) hHeld ?_
            rotate_left 2
            · (simp only [List.getElem?_toArray, List.getElem?_cons_succ, List.getElem?_cons_zero]; try rfl)
            · rfl
            · (intro w hSw; (try dsimp only at hSw); go_simp; first | done | with_reducible rfl)
            (try simp only [Act.put, List.setIfInBounds_toArray, List.set_cons_zero, List.set_cons_succ])
            refine wpAnyH_ready (rs := [6]) (by kernel_rfl) (by simp) ?_
            refine' AllReadyH.cons ?_ (fun K hK => ?_) AllReadyH.nil
            rotate_left 1
            · (simp only [List.getElem?_toArray, List.getElem?_cons_succ, List.getElem?_cons_zero]; try rfl)
            (try go_simp)
            go_at_call 37
            refine (HIT.out _ hR.base).mono ?_
            rintro e wz ⟨rfl, hbz⟩
            (try go_simp)
            replace hR := hR.up hbz
            replace hN := own_below' hN hbz
            (try replace hBW := below_keep' hBW hbz)
            refine hK.out _ _ hR.base (fun hHeld => ?_)
            clear hK K hbz
            (try simp only [Act.put, List.setIfInBounds_toArray, List.set_cons_zero, List.set_cons_succ])
            refine' takeW 7 ?_ ?_ ?_ (by kernel_rfl) (by kernel_rfl) (by kernel_rfl) (fun _ _ _ h => h) hHeld ?_
            rotate_left 2
            · (simp only [List.getElem?_toArray, List.getElem?_cons_succ, List.getElem?_cons_zero]; try rfl)
            · rfl
            · (intro w hSw; (try dsimp only at hSw); go_simp; first | done | with_reducible rfl)
            (try simp only [Act.put, List.setIfInBounds_toArray, List.set_cons_zero, List.set_cons_succ])
            refine wpAnyH_ready (rs := [8]) (by kernel_rfl) (by simp) ?_
            refine' AllReadyH.cons ?_ (fun K hK => ?_) AllReadyH.nil
            rotate_left 1
            · (simp only [List.getElem?_toArray, List.getElem?_cons_succ, List.getElem?_cons_zero]; try rfl)
            (try go_simp)
            go_at_call 36
            refine (hR.wstr _ (by simp only [List.length_append, List.length_cons, List.length_nil]; omega)).mono ?_
            rintro e wy ⟨rfl, hR8, hok8⟩
            (try go_simp)
            replace hN := own_others hN (by decide) (by decide) hR.cells hok8
            refine hK.out _ _ hR8.base (fun hHeld => ?_)
            clear hK K hok8
            (try simp only [Act.put, List.setIfInBounds_toArray, List.set_cons_zero, List.set_cons_succ])
            refine wpAnyH_done (by kernel_rfl) ?_ _
            refine NoPanic.normal ?_
            clear hHeld
            rw [← HL1.out] at hR8
            go_wp2_with fail
            exact ⟨⟨j + 1, by omega, by go_num, hR8, hN⟩, by simp [intOf]; omega⟩
          case s1_4_6 =>
            (try go_simp)
            go_at_call 37
            refine (HIT.out _ hR.base).mono ?_
            rintro e wz ⟨rfl, hbz⟩
            (try go_simp)
            replace hR := hR.up hbz
            replace hN := own_below' hN hbz
            (try replace hBW := below_keep' hBW hbz)
            refine hK.out _ _ hR.base (fun hHeld => ?_)
            clear hK K hbz
            (try simp only [Act.put, List.setIfInBounds_toArray, List.set_cons_zero, List.set_cons_succ])
            refine wpAnyH_ready (rs := [3]) (by kernel_rfl) (by simp) ?_
            refine' AllReadyH.cons ?_ (fun K hK => ?_) AllReadyH.nil
            rotate_left 1
            · (simp only [List.getElem?_toArray, List.getElem?_cons_succ, List.getElem?_cons_zero]; try rfl)
            have rW := HCW.out _ hBW
            have rWl := hR.lt
            (try go_simp)
            refine hK.out _ _ hHeld (fun hHeld => ?_)
            clear hK K rW rWl
            (try simp only [Act.put, List.setIfInBounds_toArray, List.set_cons_zero, List.set_cons_succ])
            refine' takeW 4 ?_ ?_ ?_ (by kernel_rfl) (by kernel_rfl) (by kernel_rfl) (fun _ _ _ h => h) hHeld ?_
            rotate_left 2
            · (simp only [List.getElem?_toArray, List.getElem?_cons_succ, List.getElem?_cons_zero]; try rfl)
            · rfl
            · (intro w hSw; (try dsimp only at hSw); go_simp; first | done | with_reducible rfl)
            (try simp only [Act.put, List.setIfInBounds_toArray, List.set_cons_zero, List.set_cons_succ])
            refine' takeW 7 ?_ ?_ ?_ (by kernel_rfl) (by kernel_rfl) (by kernel_rfl) (fun _ _ _ h => h) hHeld ?_
            rotate_left 2
            · (simp only [List.getElem?_toArray, List.getElem?_cons_succ, List.getElem?_cons_zero]; try rfl)
            · rfl
            · (intro w hSw; (try dsimp only at hSw); go_simp; first | done | with_reducible rfl)
            (try simp only [Act.put, List.setIfInBounds_toArray, List.set_cons_zero, List.set_cons_succ])
            refine wpAnyH_ready (rs := [8]) (by kernel_rfl) (by simp) ?_
            refine' AllReadyH.cons ?_ (fun K hK => ?_) AllReadyH.nil
            rotate_left 1
            · (simp only [List.getElem?_toArray, List.getElem?_cons_succ, List.getElem?_cons_zero]; try rfl)
            (try go_simp)
            go_at_call 36
            refine (hR.wstr _ (by simp only [List.length_append, List.length_cons, List.length_nil]; omega)).mono ?_
            rintro e wy ⟨rfl, hR8, hok8⟩
            (try go_simp)
            replace hN := own_others hN (by decide) (by decide) hR.cells hok8
            refine hK.out _ _ hR8.base (fun hHeld => ?_)
            clear hK K hok8
            (try simp only [Act.put, List.setIfInBounds_toArray, List.set_cons_zero, List.set_cons_succ])
            refine wpAnyH_done (by kernel_rfl) ?_ _
            refine NoPanic.normal ?_
            clear hHeld
            rw [← HL1.out] at hR8
            go_wp2_with fail
            exact ⟨⟨j + 1, by omega, by go_num, hR8, hN⟩, by simp [intOf]; omega⟩
        case s1_2_6 =>
          (try go_simp)
          go_at_call 37
          refine (HIT.out _ hR.base).mono ?_
          rintro e wz ⟨rfl, hbz⟩
          (try go_simp)
          replace hR := hR.up hbz
          replace hN := own_below' hN hbz
          (try replace hBW := below_keep' hBW hbz)
          refine hK.out _ _ hR.base (fun hHeld => ?_)
          clear hK K hbz
          (try simp only [Act.put, List.setIfInBounds_toArray, List.set_cons_zero, List.set_cons_succ])
          refine wpAnyH_ready (rs := [0]) (by kernel_rfl) (by simp) ?_
          refine' AllReadyH.cons ?_ (fun K hK => ?_) AllReadyH.nil
          rotate_left 1
          · (simp only [List.getElem?_toArray, List.getElem?_cons_succ, List.getElem?_cons_zero]; try rfl)
          (try go_simp)
          have HCW := Lib.hid (cellS0 hR HWD.out)
          have hBW := cellS1 hR
          replace hR := hR.up (one_alloc _ (.cells #[.string ⟨#[115, 112, 101, 99, 105, 109, 101, 110, 115]⟩, .string ⟨#[111, 98, 118, 101, 114, 115, 101, 115]⟩, .string ⟨#[114, 101, 118, 101, 114, 115, 101, 115]⟩, .string ⟨#[112, 97, 105, 114, 115]⟩, .string ⟨#[99, 104, 97, 105, 110, 115]⟩, .string ⟨#[108, 111, 111, 112, 115]⟩] 9))
          replace hN := own_below' hN (one_alloc _ (.cells #[.string ⟨#[115, 112, 101, 99, 105, 109, 101, 110, 115]⟩, .string ⟨#[111, 98, 118, 101, 114, 115, 101, 115]⟩, .string ⟨#[114, 101, 118, 101, 114, 115, 101, 115]⟩, .string ⟨#[112, 97, 105, 114, 115]⟩, .string ⟨#[99, 104, 97, 105, 110, 115]⟩, .string ⟨#[108, 111, 111, 112, 115]⟩] 9))
          refine hK.out _ _ hR.base (fun hHeld => ?_)
          clear hK K
          (try simp only [Act.put, List.setIfInBounds_toArray, List.set_cons_zero, List.set_cons_succ])
          refine' takeW 2 ?_ ?_ ?_ (by kernel_rfl) (by kernel_rfl) (by kernel_rfl) (fun _ _ _ h => h) hHeld ?_
          rotate_left 2
          · (simp only [List.getElem?_toArray, List.getElem?_cons_succ, List.getElem?_cons_zero]; try rfl)
          · rfl
          · (intro w hSw; (try dsimp only at hSw); go_simp; first | done | with_reducible rfl)
          (try simp only [Act.put, List.setIfInBounds_toArray, List.set_cons_zero, List.set_cons_succ])
          refine wpAnyH_ready (rs := [3]) (by kernel_rfl) (by simp) ?_
          refine' AllReadyH.cons ?_ (fun K hK => ?_) AllReadyH.nil
          rotate_left 1
          · (simp only [List.getElem?_toArray, List.getElem?_cons_succ, List.getElem?_cons_zero]; try rfl)
          have rW := HCW.out _ hBW
          have rWl := hR.lt
          (try go_simp)
          refine hK.out _ _ hHeld (fun hHeld => ?_)
          clear hK K rW rWl
          (try simp only [Act.put, List.setIfInBounds_toArray, List.set_cons_zero, List.set_cons_succ])
          refine' takeW 4 ?_ ?_ ?_ (by kernel_rfl) (by kernel_rfl) (by kernel_rfl) (fun _ _ _ h => h) hHeld ?_
          rotate_left 2
          · (simp only [List.getElem?_toArray, List.getElem?_cons_succ, List.getElem?_cons_zero]; try rfl)
          · rfl
          · (intro w hSw; (try dsimp only at hSw); go_simp; first | done | with_reducible rfl)
          (try simp only [Act.put, List.setIfInBounds_toArray, List.set_cons_zero, List.set_cons_succ])
          refine' takeW 7 ?_ ?_ ?_ (by kernel_rfl) (by kernel_rfl) (by kernel_rfl) (fun _ _ _ h => h) hHeld ?_
          rotate_left 2
          · (simp only [List.getElem?_toArray, List.getElem?_cons_succ, List.getElem?_cons_zero]; try rfl)
          · rfl
          · (intro w hSw; (try dsimp only at hSw); go_simp; first | done | with_reducible rfl)
          (try simp only [Act.put, List.setIfInBounds_toArray, List.set_cons_zero, List.set_cons_succ])
          refine wpAnyH_ready (rs := [8]) (by kernel_rfl) (by simp) ?_
          refine' AllReadyH.cons ?_ (fun K hK => ?_) AllReadyH.nil
          rotate_left 1
          · (simp only [List.getElem?_toArray, List.getElem?_cons_succ, List.getElem?_cons_zero]; try rfl)
          (try go_simp)
          go_at_call 36
          refine (hR.wstr _ (by simp only [List.length_append, List.length_cons, List.length_nil]; omega)).mono ?_
          rintro e wy ⟨rfl, hR8, hok8⟩
          (try go_simp)
          replace hN := own_others hN (by decide) (by decide) hR.cells hok8
          refine hK.out _ _ hR8.base (fun hHeld => ?_)
          clear hK K hok8
          (try simp only [Act.put, List.setIfInBounds_toArray, List.set_cons_zero, List.set_cons_succ])
          refine wpAnyH_done (by kernel_rfl) ?_ _
          refine NoPanic.normal ?_
          clear hHeld
          rw [← HL1.out] at hR8
          go_wp2_with fail
          exact ⟨⟨j + 1, by omega, by go_num, hR8, hN⟩, by simp [intOf]; omega⟩
    · obtain rfl : j = 6 := by omega
      have HH : Hid (sumL ns = (List.range 6).flatMap (sumT ns) ++ [10]) := rfl
      have hft := flatR_len (m := 40) (sumT ns) 6 (fun i hi => sumT_len ns HNSB.out i)
      generalize (List.range 6).flatMap (sumT ns) = txt at *
      have ha1 := add_lists (P := Tryz.prog) txt [10] (by simp; omega)
      clear hN
      go_wp2_with fail
      refine hR.fin.mono ?_; rintro e w8 ⟨rfl, hb8⟩
      go_wp2_with fail
      go_ret2
      exact ⟨by rw [HT.out, HH.out, HE.out]; rfl, below_keep' hb26 hb8⟩
end Go.Proofs.YtdokpmfejibdlaaGreatDoor
