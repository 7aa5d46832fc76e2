/- Chapter 54: coinageref54.Dies. -/
import Derived.Test.YtdokpmfejibdlaaGreatDoorXq
set_option linter.unusedSimpArgs false
set_option linter.unusedVariables false
namespace Go.Proofs.YtdokpmfejibdlaaGreatDoor
open Go.RowKit

theorem letter_ex {q : Nat} (h : q < 9) : (ByteArray.mk #[97, 98, 99, 100, 101, 102, 103, 104, 105]).extract q (q + 1) = ⟨(letterT ((q : Int) + 1)).toArray⟩ := by
  rcases q with _ | _ | _ | _ | _ | _ | _ | _ | _ | q
  all_goals first | rfl | omega
set_option maxRecDepth 100000 in
set_option maxHeartbeats 8000000 in
theorem rdies54_any (A : Option Addr) (len cap : Nat) (xs : List Spm) (side : Int) (w : World) (hlen : len ≤ 1000000) (hS : Sl w 0 w.heap.size 7 encS A len xs) :
    Calls Tryz.prog 19 #[.slice A len cap, .int .i64 side] w (RepW w (dL xs side) (dE xs side)) := by
  have HO := Lib.hid (rof_any A len cap xs w hlen hS)
  have HS : Hid (∀ W, Below w.heap.size w W → Sl W 0 W.heap.size 7 encS A len xs) := fun W hW => hS.up hW (Nat.le_refl _) (Nat.le_refl _)
  have HL := Lib.hid hS.len
  clear hS
  go_enter Tryz.func19, Tryz.ntmps19
  go_wp2_with fail
  refine HO.out.mono ?_; rintro e w1 ⟨⟨A1, n1, c1, B1, m1, d1, C1, k1, l1, rfl, hn1, hm1, hk1, hG1⟩, hb1⟩
  by_cases he : ¬ grE xs = 0
  · have hd : (grE xs != 0) = true := by simpa using he
    have HE : Hid (dE xs side = grE xs) := if_neg he
    have HT : Hid (dL xs side = []) := if_neg (by rw [HE.out]; exact he)
    generalize grE xs = code at *
    clear he hG1
    go_wp2_with fail
    go_ret2
    exact ⟨by rw [HT.out, HE.out]; rfl, hb1.alloc hb1.size _⟩
  replace he := Classical.not_not.1 he
  have HE : Hid (dE xs side = if side = 0 ∨ side = 1 then 0 else 2) := if_pos he
  by_cases hsd : ¬ (side = 0 ∨ side = 1)
  · have HE2 : Hid (dE xs side = 2) := by show _ = _; rw [HE.out, if_neg hsd]
    have HT : Hid (dL xs side = []) := if_neg (by rw [HE2.out]; decide)
    have h0 : (side != 0) = true := by simp; omega
    have h1 : (side != 1) = true := by simp; omega
    rw [he]
    clear he hsd hG1
    go_wp2_with fail
    go_ret2
    exact ⟨by rw [HT.out, HE2.out]; rfl, hb1.alloc hb1.size _⟩
  replace hsd := Classical.not_not.1 hsd
  have HE2 : Hid (dE xs side = 0) := by show _ = _; rw [HE.out, if_pos hsd]
  have HT : Hid (dL xs side = (diesG (grOf xs)).flatMap (dsT xs (grOf xs) side)) := by
    show _ = _
    unfold dL
    rw [if_pos HE2.out, diesL_ref _ _ _ hsd]
  have hg := grOk_of he
  rw [grR_ok he] at hG1
  have h64 := (spm_ok he).1
  have hl64 : len ≤ 64 := by have := HL.out; omega
  have HDO : Hid (∀ n, (⟨side, n⟩ : DieP) ∈ diesG (grOf xs) → degG (grOf xs) ⟨side, n⟩ ≠ 0 ∧ statesS xs ⟨side, n⟩ ≠ [] ∧ partnersG (grOf xs) ⟨side, n⟩ ≠ []) := fun n hn => (die_ok he hn).2
  have HSA : Hid (∀ n, statT xs side n 9 = statesS xs ⟨side, n⟩) := fun n => statT_all he side n
  have HLL : Hid (∀ d ∈ diesG (grOf xs), (dsT xs (grOf xs) side d).length ≤ 720) := fun d hd => by
    unfold dsT
    split
    · exact dlineT_len hg h64 _ _
    · simp
  have HDL : Hid (∀ n, degG (grOf xs) ⟨side, n⟩ ≤ 64) := fun n => degG_le hg _
  have HPL : Hid (∀ n, (partnersG (grOf xs) ⟨side, n⟩).length ≤ 64) := fun n => partnersG_len hg _
  have HD8 : Hid ((diesG (grOf xs)).length ≤ 64) := by show _ ≤ _; rw [diesG_len]; have := hg.lo; have := hg.lr; omega
  have hG2 := hG1.up (one_alloc w1 (.cells #[.slice A1 n1 c1, .slice B1 m1 d1, .slice C1 k1 l1] 52))
  have hb2 := hb1.alloc hb1.size (.cells #[.slice A1 n1 c1, .slice B1 m1 d1, .slice C1 k1 l1] 52)
  have X0 := Bx.new w1 [.slice A1 n1 c1, .slice B1 m1 d1, .slice C1 k1 l1] 52
  have X : Bx (w1.alloc (.cells #[.slice A1 n1 c1, .slice B1 m1 d1, .slice C1 k1 l1] 52)) w1.heap.size [.slice A1 n1 c1, .slice B1 m1 d1, .slice C1 k1 l1] := X0
  have s0 : (side != 0) = true → (side != 1) = false := fun h => by rcases hsd with rfl | rfl <;> simp at *
  have hs2 : (side != 0) = false ∨ ((side != 0) = true ∧ (side != 1) = false) := by rcases hsd with rfl | rfl <;> decide
  have HQ1 : Hid (IntKind.i64.wrap (1 - side) = 1 - side) := by show _ = _; rcases hsd with rfl | rfl <;> rfl
  have HDG : Hid (∀ n W, Below (w1.alloc (.cells #[.slice A1 n1 c1, .slice B1 m1 d1, .slice C1 k1 l1] 52)).heap.size (w1.alloc (.cells #[.slice A1 n1 c1, .slice B1 m1 d1, .slice C1 k1 l1] 52)) W → Calls Tryz.prog 53 #[.agg #[.slice A1 n1 c1, .slice B1 m1 d1, .slice C1 k1 l1], .agg #[.int .i64 side, .int .i64 n]] W fun e w' => e = .returned (.int .i64 (degG (grOf xs) ⟨side, n⟩ : Nat)) ∧ Below W.heap.size W w') := fun n W hW => rdegree13_any _ _ _ _ _ _ _ _ _ _ _ _ _ (hG2.up hW) hg hsd
  have HPA : Hid (∀ n W, Below (w1.alloc (.cells #[.slice A1 n1 c1, .slice B1 m1 d1, .slice C1 k1 l1] 52)).heap.size (w1.alloc (.cells #[.slice A1 n1 c1, .slice B1 m1 d1, .slice C1 k1 l1] 52)) W → (⟨side, n⟩ : DieP) ∈ diesG (grOf xs) → Calls Tryz.prog 55 #[.agg #[.slice A1 n1 c1, .slice B1 m1 d1, .slice C1 k1 l1], .agg #[.int .i64 side, .int .i64 n]] W (NumsW W (partnersG (grOf xs) ⟨side, n⟩) 0)) := fun n W hW hn => rpartners13_yes _ _ _ _ _ _ _ _ _ _ _ _ _ (hG2.up hW) hg hn
  have HDI : Hid (∀ W, Below (w1.alloc (.cells #[.slice A1 n1 c1, .slice B1 m1 d1, .slice C1 k1 l1] 52)).heap.size (w1.alloc (.cells #[.slice A1 n1 c1, .slice B1 m1 d1, .slice C1 k1 l1] 52)) W → Calls Tryz.prog 52 #[.agg #[.slice A1 n1 c1, .slice B1 m1 d1, .slice C1 k1 l1]] W (DiesW W (diesG (grOf xs)) 0)) := fun W hW => rdies13_any _ _ _ _ _ _ _ _ _ _ _ (hG2.up hW) hg
  have HST : Hid (∀ n x W, Calls Tryz.prog 54 #[.agg #[.int .i64 x.id, .int .i64 x.obv, .int .i64 x.rev, .int .i64 x.os, .int .i64 x.rs, .int .i64 x.ax, .int .i64 x.wt], .agg #[.int .i64 side, .int .i64 n]] W fun e w' => e = .returned (.int .i64 (stV x side n)) ∧ Below W.heap.size W w') := fun n x W => state54_any x side n W hsd
  rw [he]
  clear he hG1 hG2 hg h64 hsd X0 s0
  generalize grOf xs = g at *
  rcases hs2 with e1 | ⟨e1, e2⟩
  all_goals
    go_wp2_with fail
    generalize w1.alloc (.cells #[.slice A1 n1 c1, .slice B1 m1 d1, .slice C1 k1 l1] 52) = w2 at *
    generalize w1.heap.size = bg at *
    refine (HDI.out _ (Below.refl _ _)).mono ?_; rintro e w3 ⟨⟨A8, n8, c8, rfl, hn8, hc8, hS8⟩, hb3⟩
    have HX : Hid (∀ W, Below w3.heap.size w3 W → W.cell? ⟨bg, 0, none⟩ = some (.slice A1 n1 c1) ∧ W.cell? ⟨bg, 1, none⟩ = some (.slice B1 m1 d1) ∧ W.cell? ⟨bg, 2, none⟩ = some (.slice C1 k1 l1)) := fun W hW => bx3 ((X.up hb3).up hW)
    have HUP : Hid (∀ W, Below w3.heap.size w3 W → Below w2.heap.size w2 W) := fun W hW => below_keep' hb3 hW
    have HUW : Hid (∀ W, Below w3.heap.size w3 W → Below w.heap.size w W) := fun W hW => below_keep' (below_keep' hb2 hb3) hW
    have HDS : Hid (∀ W, Below w3.heap.size w3 W → Sl W 0 W.heap.size 2 encD A8 n8 (diesG g)) := fun W hW => hS8.up hW (Nat.le_refl _) (Nat.le_refl _)
    have HN8 := Lib.hid hS8.len
    have hn64 : n8 ≤ 64 := by have := HN8.out; have := HD8.out; omega
    have hbg3 : bg < w3.heap.size := (X.up hb3).lt
    clear X hb2 hb3 hS8
    go_wp2_with fail
    go_loopw [10, 11] (fun s i wr => ∃ j : Nat, j ≤ n8 ∧ i = .int .i64 (j : Int) ∧ s = .string ⟨(((diesG g).take j).flatMap (dsT xs g side)).toArray⟩ ∧ Below w3.heap.size w3 wr) (fun _ i _ => n8 - (intOf i).toNat)
    case atStart => exact ⟨0, by omega, rfl, rfl, Below.refl _ _⟩
    case round =>
      obtain ⟨j, hj, rfl, rfl, hbr⟩ := hrel
      have hft := flatT_len (f := dsT xs g side) HLL.out j
      by_cases hlt : j < n8
      · obtain ⟨b, off, ⟨sd, num⟩, rfl, hbb, hx, x0, x1⟩ := (HDS.out _ hbr).di hlt
        have HFS := Lib.hid (flatT_succ (dsT xs g side) hx)
        have hmem := List.mem_of_getElem? hx
        have B0 := Bx.new wr [.int .i64 sd, .int .i64 num] 72
        have HBD : Hid (∀ W, Below (wr.alloc (.cells #[.int .i64 sd, .int .i64 num] 72)).heap.size (wr.alloc (.cells #[.int .i64 sd, .int .i64 num] 72)) W → W.cell? ⟨wr.heap.size, 0, none⟩ = some (.int .i64 sd) ∧ W.cell? ⟨wr.heap.size, 1, none⟩ = some (.int .i64 num)) := fun W hW => bx2c (B0.up hW)
        have hb4 := hbr.alloc hbr.size (.cells #[.int .i64 sd, .int .i64 num] 72)
        generalize ((diesG g).take j).flatMap (dsT xs g side) = txt at *
        clear hx B0
        simp only at x0 x1
        by_cases hsd : ¬ sd = side
        · have hsb : (sd != side) = true := by simpa using hsd
          have HQ : Hid (dsT xs g side ⟨sd, num⟩ = []) := if_neg hsd
          clear hsd hmem
          go_wp2_with fail
          go_roundw
          case rel => exact ⟨j + 1, by omega, by go_num, by rw [HFS.out, HQ.out, List.append_nil], hb4⟩
          case measure => simp [intOf]; omega
        have hsd' : side = sd := (Classical.not_not.1 hsd).symm
        clear hsd
        subst hsd'
        have hsb : (side != side) = false := by simp
        have HQ : Hid (dsT xs g side ⟨side, num⟩ = dlineT xs g side num) := if_pos rfl
        obtain ⟨hd0, hst, hpn⟩ := HDO.out num hmem
        have HDLR := Lib.hid (dline_ref hd0 hst hpn)
        have hdl := HDL.out num
        have HPN := Lib.hid (fun W hW => HPA.out num W hW hmem)
        obtain ⟨g0, g1, g2⟩ := HX.out _ hbr
        have hbgr := Nat.lt_of_lt_of_le hbg3 hbr.size
        go_wp2_with fail
        generalize wr.alloc (.cells #[.int .i64 side, .int .i64 num] 72) = wd at *
        generalize wr.heap.size = bd at *
        refine (HDG.out num _ (HUP.out _ hb4)).mono ?_; rintro e w4 ⟨rfl, hb5⟩
        clear g0 g1 g2 hbgr
        obtain ⟨z0, z1⟩ := HBD.out _ hb5
        have hnl := nameL_len side num
        have hil := itoa21 (degG g ⟨side, num⟩ : Nat) (by omega) (by omega)
        have hst9 := HSA.out num
        rw [← hst9] at HDLR
        clear hst9 hst hpn hd0
        have hpl2 := HPL.out num
        generalize degG g ⟨side, num⟩ = dg at *
        obtain ⟨pre, HPRE, hprl⟩ : ∃ pre, Hid (pre = txt ++ nameL side num ++ [58, 32] ++ Lib.itoa (dg : Nat) ++ [32, 115, 112, 101, 99, 105, 109, 101, 110] ++ (if 1 < dg then [115] else []) ++ [59, 32, 115, 116, 97, 116, 101, 115]) ∧ pre.length ≤ 46080 + 100 := by
          refine ⟨_, rfl, ?_⟩
          have : (if 1 < dg then [115] else ([] : List UInt8)).length ≤ 1 := by split <;> simp
          simp only [List.length_append, List.length_cons, List.length_nil]
          omega
        rw [HQ.out, ← HDLR.out] at HFS
        clear HQ HDLR
        have ha1 := add_lists (P := Tryz.prog) txt (nameL side num) (by omega)
        have ha2 := add_lists (P := Tryz.prog) (txt ++ nameL side num) [58, 32] (by simp; omega)
        have ha3 := add_lists (P := Tryz.prog) (txt ++ nameL side num ++ [58, 32]) (Lib.itoa (dg : Nat)) (by simp; omega)
        have ha4 := add_lists (P := Tryz.prog) (txt ++ nameL side num ++ [58, 32] ++ Lib.itoa (dg : Nat)) [32, 115, 112, 101, 99, 105, 109, 101, 110] (by simp; omega)
        have ha5 := add_lists (P := Tryz.prog) (txt ++ nameL side num ++ [58, 32] ++ Lib.itoa (dg : Nat) ++ [32, 115, 112, 101, 99, 105, 109, 101, 110]) [115] (by simp; omega)
        have ha6 := add_lists (P := Tryz.prog) (txt ++ nameL side num ++ [58, 32] ++ Lib.itoa (dg : Nat) ++ [32, 115, 112, 101, 99, 105, 109, 101, 110] ++ [115]) [59, 32, 115, 116, 97, 116, 101, 115] (by simp; omega)
        have ha7 := add_lists (P := Tryz.prog) (txt ++ nameL side num ++ [58, 32] ++ Lib.itoa (dg : Nat) ++ [32, 115, 112, 101, 99, 105, 109, 101, 110]) [59, 32, 115, 116, 97, 116, 101, 115] (by simp; omega)
        simp only [List.append_assoc, List.cons_append, List.nil_append] at ha1 ha2 ha3 ha4 ha5 ha6 ha7
        go_wp2_with fail
        refine (rname_any side num _).mono ?_; rintro e w5 ⟨rfl, hb6⟩
        replace hb6 := below_keep' hb5 hb6
        clear z0 z1
        go_wp2_with fail
        refine (rdec_any _ _ (by omega) (by omega)).mono ?_; rintro e w6 ⟨rfl, hb7⟩
        replace hb7 := below_keep' hb6 hb7
        have HW6 : Hid (∀ W, Below w6.heap.size w6 W → Below w3.heap.size w3 W) := fun W hW => below_keep' (below_keep' hb4 hb7) hW
        have HD6 : Hid (∀ W, Below w6.heap.size w6 W → W.cell? ⟨bd, 0, none⟩ = some (.int .i64 side) ∧ W.cell? ⟨bd, 1, none⟩ = some (.int .i64 num)) := fun W hW => HBD.out _ (below_keep' hb7 hW)
        clear hb6 hb5 HBD hb4
        have HST2 := Lib.hid (HST.out num)
        by_cases hdg : 1 < dg
        · have HP2 : Hid (pre = txt ++ nameL side num ++ [58, 32] ++ Lib.itoa (dg : Nat) ++ [32, 115, 112, 101, 99, 105, 109, 101, 110] ++ [115] ++ [59, 32, 115, 116, 97, 116, 101, 115]) := by show _ = _; rw [HPRE.out, if_pos hdg]
          have hdb : decide ((1 : Int) < (dg : Int)) = true := by simp; omega
          clear ha7 hdg
          go_wp2_with fail
          go_loopw [10, 14, 15] (fun s cm kk wq => ∃ q : Nat, q ≤ 9 ∧ kk = .int .i64 ((q : Int) + 1) ∧ s = .string ⟨(pre ++ sepJ ((statT xs side num q).map letterT)).toArray⟩ ∧ cm = .string ⟨(comJ ((statT xs side num q).map letterT)).toArray⟩ ∧ Below w6.heap.size w6 wq) (fun _ _ kk _ => 10 - (intOf kk).toNat)
          case atStart => exact ⟨0, by omega, rfl, by rw [HP2.out]; simp [sepJ, statT], by simp [comJ, statT], Below.refl _ _⟩
          case round =>
            clear hb7
            obtain ⟨q, hq, rfl, rfl, rfl, hbq⟩ := hrel
            rename World => wq
            by_cases hlq : q < 9
            · have hqb : decide ((q : Int) + 1 ≤ 9) = true := by simp; omega
              go_wp2_with fail
              go_loopw [16, 17] (fun f i wp => ∃ j : Nat, j ≤ len ∧ i = .int .i64 (j : Int) ∧ f = .bool ((xs.take j).any (fun s => (sideW s side).1 == num && (sideW s side).2 == (q : Int) + 1)) ∧ Below w6.heap.size w6 wp) (fun _ i _ => len - (intOf i).toNat)
              case atStart => exact ⟨0, by omega, rfl, rfl, hbq⟩
              case round =>
                obtain ⟨j, hj, rfl, rfl, hbp⟩ := hrel
                rename World => wp
                by_cases hlj : j < len
                · obtain ⟨b, off, x, rfl, hbb', hx, x0, x1, x2, x3, x4, x5, x6⟩ := (HS.out _ (HUW.out _ (HW6.out _ hbp))).sp hlj
                  have HAN := Lib.hid (any_snoc (p := fun s => (sideW s side).1 == num && (sideW s side).2 == (q : Int) + 1) hx)
                  have hbp' := hbp
                  have hbpd := hbp.drew
                  replace hbb' : b < wp.drew.heap.size := hbb'
                  have HBX : Hid (∀ W, Below wp.drew.heap.size wp.drew W → (W.cell? ⟨b, off + j * 7, none⟩ = some (.int .i64 x.id) ∧ W.cell? ⟨b, off + j * 7 + 1, none⟩ = some (.int .i64 x.obv) ∧ W.cell? ⟨b, off + j * 7 + 2, none⟩ = some (.int .i64 x.rev) ∧ W.cell? ⟨b, off + j * 7 + 3, none⟩ = some (.int .i64 x.os) ∧ W.cell? ⟨b, off + j * 7 + 4, none⟩ = some (.int .i64 x.rs) ∧ W.cell? ⟨b, off + j * 7 + 5, none⟩ = some (.int .i64 x.ax) ∧ W.cell? ⟨b, off + j * 7 + 6, none⟩ = some (.int .i64 x.wt)) ∧ (W.cell? ⟨bd, 0, none⟩ = some (.int .i64 side) ∧ W.cell? ⟨bd, 1, none⟩ = some (.int .i64 num))) := fun W hW => ⟨⟨(hW.cell (p := ⟨b, off + j * 7, none⟩) hbb').trans x0, (hW.cell (p := ⟨b, off + j * 7 + 1, none⟩) hbb').trans x1, (hW.cell (p := ⟨b, off + j * 7 + 2, none⟩) hbb').trans x2, (hW.cell (p := ⟨b, off + j * 7 + 3, none⟩) hbb').trans x3, (hW.cell (p := ⟨b, off + j * 7 + 4, none⟩) hbb').trans x4, (hW.cell (p := ⟨b, off + j * 7 + 5, none⟩) hbb').trans x5, (hW.cell (p := ⟨b, off + j * 7 + 6, none⟩) hbb').trans x6⟩, HD6.out _ (below_keep' hbp'.drew hW)⟩
                  have HSE : Hid ((stV x side num == (q : Int) + 1) = ((sideW x side).1 == num && (sideW x side).2 == (q : Int) + 1)) := stV_eq (by omega)
                  clear hx x0 x1 x2 x3 x4 x5 x6
                  cases hf : (xs.take j).any (fun s => (sideW s side).1 == num && (sideW s side).2 == (q : Int) + 1)
                  · rw [hf] at HAN
                    clear hf
                    generalize ((sideW x side).1 == num && (sideW x side).2 == (q : Int) + 1) = pb at *
                    go_wp2_with fail
                    refine wp_region_noPanic ?_
                    refine wp_region_held_drew (S := fun U => (U.cell? ⟨b, off + j * 7, none⟩ = some (.int .i64 x.id) ∧ U.cell? ⟨b, off + j * 7 + 1, none⟩ = some (.int .i64 x.obv) ∧ U.cell? ⟨b, off + j * 7 + 2, none⟩ = some (.int .i64 x.rev) ∧ U.cell? ⟨b, off + j * 7 + 3, none⟩ = some (.int .i64 x.os) ∧ U.cell? ⟨b, off + j * 7 + 4, none⟩ = some (.int .i64 x.rs) ∧ U.cell? ⟨b, off + j * 7 + 5, none⟩ = some (.int .i64 x.ax) ∧ U.cell? ⟨b, off + j * 7 + 6, none⟩ = some (.int .i64 x.wt)) ∧ (U.cell? ⟨bd, 0, none⟩ = some (.int .i64 side) ∧ U.cell? ⟨bd, 1, none⟩ = some (.int .i64 num))) (by kernel_rfl) (HBX.out _ (Below.refl _ _)) (fun hHeld => ?_)
                    generalize wp.drew = W6 at *
                    refine' takeW 0 ?_ ?_ ?_ (by kernel_rfl) (by kernel_rfl) (by kernel_rfl) (fun _ _ _ h => h) hHeld ?_
                    rotate_left 2
                    · (simp only [List.getElem?_toArray, List.getElem?_cons_succ, List.getElem?_cons_zero]; try rfl)
                    · rfl
                    · (intro w hSw; (try dsimp only at hSw); go_simp; first | done | with_reducible rfl)
                    (try simp only [Act.put, List.setIfInBounds_toArray, List.set_cons_zero, List.set_cons_succ])
                    refine' takeW 1 ?_ ?_ ?_ (by kernel_rfl) (by kernel_rfl) (by kernel_rfl) (fun _ _ _ h => h) hHeld ?_
                    rotate_left 2
                    · (simp only [List.getElem?_toArray, List.getElem?_cons_succ, List.getElem?_cons_zero]; try rfl)
                    · rfl
                    · (intro w hSw; (try dsimp only at hSw); go_simp; first | done | with_reducible rfl)
                    (try simp only [Act.put, List.setIfInBounds_toArray, List.set_cons_zero, List.set_cons_succ])
                    refine' takeW 2 ?_ ?_ ?_ (by kernel_rfl) (by kernel_rfl) (by kernel_rfl) (fun _ _ _ h => h) hHeld ?_
                    rotate_left 2
                    · (simp only [List.getElem?_toArray, List.getElem?_cons_succ, List.getElem?_cons_zero]; try rfl)
                    · rfl
                    · (intro w hSw; (try dsimp only at hSw); go_simp; first | done | with_reducible rfl)
                    (try simp only [Act.put, List.setIfInBounds_toArray, List.set_cons_zero, List.set_cons_succ])
                    refine' takeW 3 ?_ ?_ ?_ (by kernel_rfl) (by kernel_rfl) (by kernel_rfl) (fun _ _ _ h => h) hHeld ?_
                    rotate_left 2
                    · (simp only [List.getElem?_toArray, List.getElem?_cons_succ, List.getElem?_cons_zero]; try rfl)
                    · rfl
                    · (intro w hSw; (try dsimp only at hSw); go_simp; first | done | with_reducible rfl)
                    (try simp only [Act.put, List.setIfInBounds_toArray, List.set_cons_zero, List.set_cons_succ])
                    refine' takeW 4 ?_ ?_ ?_ (by kernel_rfl) (by kernel_rfl) (by kernel_rfl) (fun _ _ _ h => h) hHeld ?_
                    rotate_left 2
                    · (simp only [List.getElem?_toArray, List.getElem?_cons_succ, List.getElem?_cons_zero]; try rfl)
                    · rfl
                    · (intro w hSw; (try dsimp only at hSw); go_simp; first | done | with_reducible rfl)
                    (try simp only [Act.put, List.setIfInBounds_toArray, List.set_cons_zero, List.set_cons_succ])
                    refine' takeW 5 ?_ ?_ ?_ (by kernel_rfl) (by kernel_rfl) (by kernel_rfl) (fun _ _ _ h => h) hHeld ?_
                    rotate_left 2
                    · (simp only [List.getElem?_toArray, List.getElem?_cons_succ, List.getElem?_cons_zero]; try rfl)
                    · rfl
                    · (intro w hSw; (try dsimp only at hSw); go_simp; first | done | with_reducible rfl)
                    (try simp only [Act.put, List.setIfInBounds_toArray, List.set_cons_zero, List.set_cons_succ])
                    refine' takeW 6 ?_ ?_ ?_ (by kernel_rfl) (by kernel_rfl) (by kernel_rfl) (fun _ _ _ h => h) hHeld ?_
                    rotate_left 2
                    · (simp only [List.getElem?_toArray, List.getElem?_cons_succ, List.getElem?_cons_zero]; try rfl)
                    · rfl
                    · (intro w hSw; (try dsimp only at hSw); go_simp; first | done | with_reducible rfl)
                    (try simp only [Act.put, List.setIfInBounds_toArray, List.set_cons_zero, List.set_cons_succ])
                    refine' takeW 8 ?_ ?_ ?_ (by kernel_rfl) (by kernel_rfl) (by kernel_rfl) (fun _ _ _ h => h) hHeld ?_
                    rotate_left 2
                    · (simp only [List.getElem?_toArray, List.getElem?_cons_succ, List.getElem?_cons_zero]; try rfl)
                    · rfl
                    · (intro w hSw; (try dsimp only at hSw); go_simp; first | done | with_reducible rfl)
                    (try simp only [Act.put, List.setIfInBounds_toArray, List.set_cons_zero, List.set_cons_succ])
                    refine wpAnyH_ready (rs := [7]) (by kernel_rfl) (by simp) ?_
                    refine' AllReadyH.cons ?_ (fun K hK => ?_) AllReadyH.nil
                    rotate_left 1
                    · (simp only [List.getElem?_toArray, List.getElem?_cons_succ, List.getElem?_cons_zero]; try rfl)
                    (try go_simp)
                    go_at_call 54
                    refine (HST2.out x _).mono ?_
                    rintro e wz ⟨rfl, hbz⟩
                    (try go_simp)
                    refine hK.out _ _ ?_ (fun hHeld => ?_)
                    · exact HBX.out _ hbz
                    clear hK K
                    (try simp only [Act.put, List.setIfInBounds_toArray, List.set_cons_zero, List.set_cons_succ])
                    refine' takeW 9 ?_ ?_ ?_ (by kernel_rfl) (by kernel_rfl) (by kernel_rfl) (fun _ _ _ h => h) hHeld ?_
                    rotate_left 2
                    · (simp only [List.getElem?_toArray, List.getElem?_cons_succ, List.getElem?_cons_zero]; try rfl)
                    · rfl
                    · (intro w hSw; (try dsimp only at hSw); go_simp; first | done | with_reducible rfl)
                    (try simp only [Act.put, List.setIfInBounds_toArray, List.set_cons_zero, List.set_cons_succ])
                    refine' takeW 10 ?_ ?_ ?_ (by kernel_rfl) (by kernel_rfl) (by kernel_rfl) (fun _ _ _ h => h) hHeld ?_
                    rotate_left 2
                    · (simp only [List.getElem?_toArray, List.getElem?_cons_succ, List.getElem?_cons_zero]; try rfl)
                    · rfl
                    · (intro w hSw; (try dsimp only at hSw); go_simp; first | done | with_reducible rfl)
                    (try simp only [Act.put, List.setIfInBounds_toArray, List.set_cons_zero, List.set_cons_succ])
                    refine' takeW 11 ?_ ?_ ?_ (by kernel_rfl) (by kernel_rfl) (by kernel_rfl) (fun _ _ _ h => h) hHeld ?_
                    rotate_left 2
                    · (simp only [List.getElem?_toArray, List.getElem?_cons_succ, List.getElem?_cons_zero]; try rfl)
                    · rfl
                    · (intro w hSw; (try dsimp only at hSw); go_simp; first | done | with_reducible rfl)
                    (try simp only [Act.put, List.setIfInBounds_toArray, List.set_cons_zero, List.set_cons_succ])
                    refine wpAnyH_done (by kernel_rfl) ?_ _
                    refine NoPanic.normal ?_
                    clear hHeld
                    go_wp2_with fail
                    go_roundw
                    case rel => exact ⟨j + 1, by omega, by go_num, by rw [HAN.out, ← HSE.out]; simp, below_keep' hbpd hbz⟩
                    case measure => simp [intOf]; omega
                  · rw [hf] at HAN
                    clear hf
                    go_wp2_with fail
                    refine wp_region_noPanic ?_
                    refine wp_region_held_drew (S := fun U => (U.cell? ⟨b, off + j * 7, none⟩ = some (.int .i64 x.id) ∧ U.cell? ⟨b, off + j * 7 + 1, none⟩ = some (.int .i64 x.obv) ∧ U.cell? ⟨b, off + j * 7 + 2, none⟩ = some (.int .i64 x.rev) ∧ U.cell? ⟨b, off + j * 7 + 3, none⟩ = some (.int .i64 x.os) ∧ U.cell? ⟨b, off + j * 7 + 4, none⟩ = some (.int .i64 x.rs) ∧ U.cell? ⟨b, off + j * 7 + 5, none⟩ = some (.int .i64 x.ax) ∧ U.cell? ⟨b, off + j * 7 + 6, none⟩ = some (.int .i64 x.wt)) ∧ (U.cell? ⟨bd, 0, none⟩ = some (.int .i64 side) ∧ U.cell? ⟨bd, 1, none⟩ = some (.int .i64 num))) (by kernel_rfl) (HBX.out _ (Below.refl _ _)) (fun hHeld => ?_)
                    generalize wp.drew = W6 at *
                    refine' takeW 0 ?_ ?_ ?_ (by kernel_rfl) (by kernel_rfl) (by kernel_rfl) (fun _ _ _ h => h) hHeld ?_
                    rotate_left 2
                    · (simp only [List.getElem?_toArray, List.getElem?_cons_succ, List.getElem?_cons_zero]; try rfl)
                    · rfl
                    · (intro w hSw; (try dsimp only at hSw); go_simp; first | done | with_reducible rfl)
                    (try simp only [Act.put, List.setIfInBounds_toArray, List.set_cons_zero, List.set_cons_succ])
                    refine' takeW 1 ?_ ?_ ?_ (by kernel_rfl) (by kernel_rfl) (by kernel_rfl) (fun _ _ _ h => h) hHeld ?_
                    rotate_left 2
                    · (simp only [List.getElem?_toArray, List.getElem?_cons_succ, List.getElem?_cons_zero]; try rfl)
                    · rfl
                    · (intro w hSw; (try dsimp only at hSw); go_simp; first | done | with_reducible rfl)
                    (try simp only [Act.put, List.setIfInBounds_toArray, List.set_cons_zero, List.set_cons_succ])
                    refine' takeN 2 ?_ ?_ (by kernel_rfl) (by kernel_rfl) (by kernel_rfl) (fun _ _ _ h => h) hHeld ?_
                    rotate_left 1
                    · (simp only [List.getElem?_toArray, List.getElem?_cons_succ, List.getElem?_cons_zero]; try rfl)
                    · rfl
                    (try simp only [Act.put, List.setIfInBounds_toArray, List.set_cons_zero, List.set_cons_succ])
                    refine' takeN 3 ?_ ?_ (by kernel_rfl) (by kernel_rfl) (by kernel_rfl) (fun _ _ _ h => h) hHeld ?_
                    rotate_left 1
                    · (simp only [List.getElem?_toArray, List.getElem?_cons_succ, List.getElem?_cons_zero]; try rfl)
                    · rfl
                    (try simp only [Act.put, List.setIfInBounds_toArray, List.set_cons_zero, List.set_cons_succ])
                    refine' takeN 4 ?_ ?_ (by kernel_rfl) (by kernel_rfl) (by kernel_rfl) (fun _ _ _ h => h) hHeld ?_
                    rotate_left 1
                    · (simp only [List.getElem?_toArray, List.getElem?_cons_succ, List.getElem?_cons_zero]; try rfl)
                    · rfl
                    (try simp only [Act.put, List.setIfInBounds_toArray, List.set_cons_zero, List.set_cons_succ])
                    refine' takeN 5 ?_ ?_ (by kernel_rfl) (by kernel_rfl) (by kernel_rfl) (fun _ _ _ h => h) hHeld ?_
                    rotate_left 1
                    · (simp only [List.getElem?_toArray, List.getElem?_cons_succ, List.getElem?_cons_zero]; try rfl)
                    · rfl
                    (try simp only [Act.put, List.setIfInBounds_toArray, List.set_cons_zero, List.set_cons_succ])
                    refine' takeN 6 ?_ ?_ (by kernel_rfl) (by kernel_rfl) (by kernel_rfl) (fun _ _ _ h => h) hHeld ?_
                    rotate_left 1
                    · (simp only [List.getElem?_toArray, List.getElem?_cons_succ, List.getElem?_cons_zero]; try rfl)
                    · rfl
                    (try simp only [Act.put, List.setIfInBounds_toArray, List.set_cons_zero, List.set_cons_succ])
                    refine' takeN 7 ?_ ?_ (by kernel_rfl) (by kernel_rfl) (by kernel_rfl) (fun _ _ _ h => h) hHeld ?_
                    rotate_left 1
                    · (simp only [List.getElem?_toArray, List.getElem?_cons_succ, List.getElem?_cons_zero]; try rfl)
                    · rfl
                    (try simp only [Act.put, List.setIfInBounds_toArray, List.set_cons_zero, List.set_cons_succ])
                    refine' takeN 8 ?_ ?_ (by kernel_rfl) (by kernel_rfl) (by kernel_rfl) (fun _ _ _ h => h) hHeld ?_
                    rotate_left 1
                    · (simp only [List.getElem?_toArray, List.getElem?_cons_succ, List.getElem?_cons_zero]; try rfl)
                    · rfl
                    (try simp only [Act.put, List.setIfInBounds_toArray, List.set_cons_zero, List.set_cons_succ])
                    refine' takeN 9 ?_ ?_ (by kernel_rfl) (by kernel_rfl) (by kernel_rfl) (fun _ _ _ h => h) hHeld ?_
                    rotate_left 1
                    · (simp only [List.getElem?_toArray, List.getElem?_cons_succ, List.getElem?_cons_zero]; try rfl)
                    · rfl
                    (try simp only [Act.put, List.setIfInBounds_toArray, List.set_cons_zero, List.set_cons_succ])
                    refine' takeW 10 ?_ ?_ ?_ (by kernel_rfl) (by kernel_rfl) (by kernel_rfl) (fun _ _ _ h => h) hHeld ?_
                    rotate_left 2
                    · (simp only [List.getElem?_toArray, List.getElem?_cons_succ, List.getElem?_cons_zero]; try rfl)
                    · rfl
                    · (intro w hSw; (try dsimp only at hSw); go_simp; first | done | with_reducible rfl)
                    (try simp only [Act.put, List.setIfInBounds_toArray, List.set_cons_zero, List.set_cons_succ])
                    refine' takeW 11 ?_ ?_ ?_ (by kernel_rfl) (by kernel_rfl) (by kernel_rfl) (fun _ _ _ h => h) hHeld ?_
                    rotate_left 2
                    · (simp only [List.getElem?_toArray, List.getElem?_cons_succ, List.getElem?_cons_zero]; try rfl)
                    · rfl
                    · (intro w hSw; (try dsimp only at hSw); go_simp; first | done | with_reducible rfl)
                    (try simp only [Act.put, List.setIfInBounds_toArray, List.set_cons_zero, List.set_cons_succ])
                    refine wpAnyH_done (by kernel_rfl) ?_ _
                    refine NoPanic.normal ?_
                    clear hHeld
                    go_wp2_with fail
                    go_roundw
                    case rel => exact ⟨j + 1, by omega, by go_num, by rw [HAN.out]; rfl, hbpd⟩
                    case measure => simp [intOf]; omega
                · obtain rfl : j = len := by omega
                  rw [take_all HL.out]
                  have HSC := Lib.hid (statT_succ xs side num q)
                  have hsl := statT_len xs side num q
                  have hjl := join_st_len (statT xs side num q) (by omega)
                  have hsj := sepJ_len ((statT xs side num q).map letterT)
                  have hcj := comJ_len ((statT xs side num q).map letterT)
                  cases hf : xs.any (fun s => (sideW s side).1 == num && (sideW s side).2 == (q : Int) + 1)
                  · rw [hf, if_neg (by decide), List.append_nil] at HSC
                    clear hf
                    go_wp2_with fail
                    go_roundw
                    case rel => exact ⟨q + 1, by omega, by go_num, by rw [HSC.out], by rw [HSC.out], hbp⟩
                    case measure => simp [intOf]; omega
                  · rw [hf, if_pos rfl] at HSC
                    have HS2 : Hid (sepJ ((statT xs side num (q + 1)).map letterT) = sepJ ((statT xs side num q).map letterT) ++ comJ ((statT xs side num q).map letterT) ++ letterT ((q : Int) + 1) ∧ comJ ((statT xs side num (q + 1)).map letterT) = [44, 32]) := by
                      show _ ∧ _
                      rw [HSC.out, List.map_append]
                      exact ⟨sepJ_snoc _ _, comJ_snoc _ _⟩
                    clear hf HSC
                    generalize sepJ ((statT xs side num q).map letterT) = sj at *
                    generalize comJ ((statT xs side num q).map letterT) = cj at *
                    have hb1 := add_lists (P := Tryz.prog) (pre ++ sj) cj (by simp; omega)
                    have hb2 := add_lists (P := Tryz.prog) (pre ++ sj ++ cj) (letterT ((q : Int) + 1)) (by simp [letterT]; omega)
                    simp only [List.append_assoc, List.cons_append, List.nil_append] at hb1 hb2
                    have hx9 := letter_ex hlq
                    generalize hlt9 : letterT ((q : Int) + 1) = lt at *
                    clear hlt9
                    have hk1 : IntKind.i64.wrap ((q : Int) + 1 - 1) = (q : Int) := by rw [IntKind.wrap_i64]; omega
                    have hk2 : ((q : Int) + 1).toNat = q + 1 := by omega
                    have hk3 : (0 : Int) ≤ (q : Int) + 1 := by omega
                    have hk4 : (q : Int) + 1 ≤ 9 := by omega
                    go_wp2_with fail
                    go_roundw
                    case rel => exact ⟨q + 1, by omega, by go_num, by rw [HS2.out.1]; simp, by rw [HS2.out.2], hbp⟩
                    case measure => simp [intOf]; omega
            · obtain rfl : q = 9 := by omega
              obtain ⟨z0, z1⟩ := HD6.out _ hbq
              obtain ⟨g0, g1, g2⟩ := HX.out _ (HW6.out _ hbq)
              have hsl := statT_len xs side num 9
              have hjl := join_st_len (statT xs side num 9) (by omega)
              have hsj := sepJ_len ((statT xs side num 9).map letterT)
              generalize sepJ ((statT xs side num 9).map letterT) = sj at *
              generalize comJ ((statT xs side num 9).map letterT) = cj at *
              have hb1 := add_lists (P := Tryz.prog) (pre ++ sj) [59, 32, 119, 105, 116, 104] (by simp; omega)
              simp only [List.append_assoc, List.cons_append, List.nil_append] at hb1
              go_wp2_with fail
              refine (HPN.out _ (HUP.out _ (HW6.out _ hbq))).mono ?_; rintro e w8 ⟨⟨A9, n9, c9, rfl, hn9, hS9⟩, hb8⟩
              have HW8 : Hid (∀ W, Below w8.heap.size w8 W → Below w3.heap.size w3 W) := fun W hW => HW6.out _ (below_keep' (below_keep' hbq hb8) hW)
              have HS9 : Hid (∀ W, Below w8.heap.size w8 W → Sl W 0 W.heap.size 1 encI A9 n9 (partnersG g ⟨side, num⟩)) := fun W hW => hS9.up hW (Nat.le_refl _) (Nat.le_refl _)
              have HN9 := Lib.hid hS9.len
              have hn9' : n9 ≤ 64 := by have := HN9.out; omega
              clear hS9 z0 z1 g0 g1 g2 hb8 hbq
              have hpl3 : (pre ++ sj ++ [59, 32, 119, 105, 116, 104]).length ≤ 46080 + 400 := by simp only [List.length_append, List.length_cons, List.length_nil]; omega
              obtain ⟨pre2, HPR2, hprl2⟩ : ∃ p2, Hid (p2 = pre ++ sj ++ [59, 32, 119, 105, 116, 104]) ∧ p2.length ≤ 46080 + 400 := ⟨pre ++ sj ++ [59, 32, 119, 105, 116, 104], rfl, hpl3⟩
              clear hpl3
              go_wp2_with fail
              go_loopw [10, 14, 20] (fun s cm i wp => ∃ p : Nat, p ≤ n9 ∧ i = .int .i64 (p : Int) ∧ s = .string ⟨(pre2 ++ sepJ (((partnersG g ⟨side, num⟩).take p).map (nameL (1 - side)))).toArray⟩ ∧ cm = .string ⟨(comJ (((partnersG g ⟨side, num⟩).take p).map (nameL (1 - side)))).toArray⟩ ∧ Below w8.heap.size w8 wp) (fun _ _ i _ => n9 - (intOf i).toNat)
              case atStart => exact ⟨0, by omega, rfl, by rw [HPR2.out]; simp [sepJ], by simp [comJ], Below.refl _ _⟩
              case round =>
                obtain ⟨p, hp, rfl, rfl, rfl, hbp⟩ := hrel
                rename World => wp
                have hjl := join_nm_len ((partnersG g ⟨side, num⟩).take p) (1 - side) (by rw [List.length_take]; omega)
                have hsj := sepJ_len (((partnersG g ⟨side, num⟩).take p).map (nameL (1 - side)))
                have hcj := comJ_len (((partnersG g ⟨side, num⟩).take p).map (nameL (1 - side)))
                by_cases hlp : p < n9
                · obtain ⟨b, off, y, rfl, hbb, hy, y0⟩ := (HS9.out _ hbp).in_ hlp
                  have HS2 : Hid (sepJ (((partnersG g ⟨side, num⟩).take (p + 1)).map (nameL (1 - side))) = sepJ (((partnersG g ⟨side, num⟩).take p).map (nameL (1 - side))) ++ comJ (((partnersG g ⟨side, num⟩).take p).map (nameL (1 - side))) ++ nameL (1 - side) y ∧ comJ (((partnersG g ⟨side, num⟩).take (p + 1)).map (nameL (1 - side))) = [44, 32]) := by
                    show _ ∧ _
                    rw [takeSnocW hy, List.map_append]
                    exact ⟨sepJ_snoc _ _, comJ_snoc _ _⟩
                  clear hy
                  generalize sepJ (((partnersG g ⟨side, num⟩).take p).map (nameL (1 - side))) = sp at *
                  generalize comJ (((partnersG g ⟨side, num⟩).take p).map (nameL (1 - side))) = cp at *
                  have hnl2 := nameL_len (1 - side) y
                  have hd1 := add_lists (P := Tryz.prog) (pre2 ++ sp) cp (by simp; omega)
                  have hd2 := add_lists (P := Tryz.prog) (pre2 ++ sp ++ cp) (nameL (1 - side) y) (by simp; omega)
                  simp only [List.append_assoc, List.cons_append, List.nil_append] at hd1 hd2
                  have hq1 := HQ1.out
                  have HNA := Lib.hid (rname_any (1 - side) y)
                  go_wp2_with fail
                  refine (HNA.out _).mono ?_; rintro e w9 ⟨rfl, hb9⟩
                  go_wp2_with fail
                  exact ⟨⟨p + 1, by omega, by go_num, by rw [HS2.out.1]; simp, by rw [HS2.out.2], below_keep' hbp hb9⟩, by simp [intOf]; omega⟩
                · obtain rfl : p = n9 := by omega
                  rw [take_all HN9.out] at hjl hsj hcj ⊢
                  generalize sepJ ((partnersG g ⟨side, num⟩).map (nameL (1 - side))) = sp at *
                  have hd1 := add_lists (P := Tryz.prog) (pre2 ++ sp) [10] (by simp; omega)
                  simp only [List.append_assoc, List.cons_append, List.nil_append] at hd1
                  go_wp2_with fail
                  exact ⟨⟨j + 1, by omega, by go_num, by rw [HFS.out, HPR2.out, HPRE.out]; simp, HW8.out _ hbp⟩, by simp [intOf]; omega⟩
        · have HP2 : Hid (pre = txt ++ nameL side num ++ [58, 32] ++ Lib.itoa (dg : Nat) ++ [32, 115, 112, 101, 99, 105, 109, 101, 110] ++ [59, 32, 115, 116, 97, 116, 101, 115]) := by show _ = _; rw [HPRE.out, if_neg hdg]; simp
          have hdb : decide ((1 : Int) < (dg : Int)) = false := by simp; omega
          clear ha5 ha6 hdg
          go_wp2_with fail
          go_loopw [10, 14, 15] (fun s cm kk wq => ∃ q : Nat, q ≤ 9 ∧ kk = .int .i64 ((q : Int) + 1) ∧ s = .string ⟨(pre ++ sepJ ((statT xs side num q).map letterT)).toArray⟩ ∧ cm = .string ⟨(comJ ((statT xs side num q).map letterT)).toArray⟩ ∧ Below w6.heap.size w6 wq) (fun _ _ kk _ => 10 - (intOf kk).toNat)
          case atStart => exact ⟨0, by omega, rfl, by rw [HP2.out]; simp [sepJ, statT], by simp [comJ, statT], Below.refl _ _⟩
          case round =>
            clear hb7
            obtain ⟨q, hq, rfl, rfl, rfl, hbq⟩ := hrel
            rename World => wq
            by_cases hlq : q < 9
            · have hqb : decide ((q : Int) + 1 ≤ 9) = true := by simp; omega
              go_wp2_with fail
              go_loopw [16, 17] (fun f i wp => ∃ j : Nat, j ≤ len ∧ i = .int .i64 (j : Int) ∧ f = .bool ((xs.take j).any (fun s => (sideW s side).1 == num && (sideW s side).2 == (q : Int) + 1)) ∧ Below w6.heap.size w6 wp) (fun _ i _ => len - (intOf i).toNat)
              case atStart => exact ⟨0, by omega, rfl, rfl, hbq⟩
              case round =>
                obtain ⟨j, hj, rfl, rfl, hbp⟩ := hrel
                rename World => wp
                by_cases hlj : j < len
                · obtain ⟨b, off, x, rfl, hbb', hx, x0, x1, x2, x3, x4, x5, x6⟩ := (HS.out _ (HUW.out _ (HW6.out _ hbp))).sp hlj
                  have HAN := Lib.hid (any_snoc (p := fun s => (sideW s side).1 == num && (sideW s side).2 == (q : Int) + 1) hx)
                  have hbp' := hbp
                  have hbpd := hbp.drew
                  replace hbb' : b < wp.drew.heap.size := hbb'
                  have HBX : Hid (∀ W, Below wp.drew.heap.size wp.drew W → (W.cell? ⟨b, off + j * 7, none⟩ = some (.int .i64 x.id) ∧ W.cell? ⟨b, off + j * 7 + 1, none⟩ = some (.int .i64 x.obv) ∧ W.cell? ⟨b, off + j * 7 + 2, none⟩ = some (.int .i64 x.rev) ∧ W.cell? ⟨b, off + j * 7 + 3, none⟩ = some (.int .i64 x.os) ∧ W.cell? ⟨b, off + j * 7 + 4, none⟩ = some (.int .i64 x.rs) ∧ W.cell? ⟨b, off + j * 7 + 5, none⟩ = some (.int .i64 x.ax) ∧ W.cell? ⟨b, off + j * 7 + 6, none⟩ = some (.int .i64 x.wt)) ∧ (W.cell? ⟨bd, 0, none⟩ = some (.int .i64 side) ∧ W.cell? ⟨bd, 1, none⟩ = some (.int .i64 num))) := fun W hW => ⟨⟨(hW.cell (p := ⟨b, off + j * 7, none⟩) hbb').trans x0, (hW.cell (p := ⟨b, off + j * 7 + 1, none⟩) hbb').trans x1, (hW.cell (p := ⟨b, off + j * 7 + 2, none⟩) hbb').trans x2, (hW.cell (p := ⟨b, off + j * 7 + 3, none⟩) hbb').trans x3, (hW.cell (p := ⟨b, off + j * 7 + 4, none⟩) hbb').trans x4, (hW.cell (p := ⟨b, off + j * 7 + 5, none⟩) hbb').trans x5, (hW.cell (p := ⟨b, off + j * 7 + 6, none⟩) hbb').trans x6⟩, HD6.out _ (below_keep' hbp'.drew hW)⟩
                  have HSE : Hid ((stV x side num == (q : Int) + 1) = ((sideW x side).1 == num && (sideW x side).2 == (q : Int) + 1)) := stV_eq (by omega)
                  clear hx x0 x1 x2 x3 x4 x5 x6
                  cases hf : (xs.take j).any (fun s => (sideW s side).1 == num && (sideW s side).2 == (q : Int) + 1)
                  · rw [hf] at HAN
                    clear hf
                    generalize ((sideW x side).1 == num && (sideW x side).2 == (q : Int) + 1) = pb at *
                    go_wp2_with fail
                    refine wp_region_noPanic ?_
                    refine wp_region_held_drew (S := fun U => (U.cell? ⟨b, off + j * 7, none⟩ = some (.int .i64 x.id) ∧ U.cell? ⟨b, off + j * 7 + 1, none⟩ = some (.int .i64 x.obv) ∧ U.cell? ⟨b, off + j * 7 + 2, none⟩ = some (.int .i64 x.rev) ∧ U.cell? ⟨b, off + j * 7 + 3, none⟩ = some (.int .i64 x.os) ∧ U.cell? ⟨b, off + j * 7 + 4, none⟩ = some (.int .i64 x.rs) ∧ U.cell? ⟨b, off + j * 7 + 5, none⟩ = some (.int .i64 x.ax) ∧ U.cell? ⟨b, off + j * 7 + 6, none⟩ = some (.int .i64 x.wt)) ∧ (U.cell? ⟨bd, 0, none⟩ = some (.int .i64 side) ∧ U.cell? ⟨bd, 1, none⟩ = some (.int .i64 num))) (by kernel_rfl) (HBX.out _ (Below.refl _ _)) (fun hHeld => ?_)
                    generalize wp.drew = W6 at *
                    refine' takeW 0 ?_ ?_ ?_ (by kernel_rfl) (by kernel_rfl) (by kernel_rfl) (fun _ _ _ h => h) hHeld ?_
                    rotate_left 2
                    · (simp only [List.getElem?_toArray, List.getElem?_cons_succ, List.getElem?_cons_zero]; try rfl)
                    · rfl
                    · (intro w hSw; (try dsimp only at hSw); go_simp; first | done | with_reducible rfl)
                    (try simp only [Act.put, List.setIfInBounds_toArray, List.set_cons_zero, List.set_cons_succ])
                    refine' takeW 1 ?_ ?_ ?_ (by kernel_rfl) (by kernel_rfl) (by kernel_rfl) (fun _ _ _ h => h) hHeld ?_
                    rotate_left 2
                    · (simp only [List.getElem?_toArray, List.getElem?_cons_succ, List.getElem?_cons_zero]; try rfl)
                    · rfl
                    · (intro w hSw; (try dsimp only at hSw); go_simp; first | done | with_reducible rfl)
                    (try simp only [Act.put, List.setIfInBounds_toArray, List.set_cons_zero, List.set_cons_succ])
                    refine' takeW 2 ?_ ?_ ?_ (by kernel_rfl) (by kernel_rfl) (by kernel_rfl) (fun _ _ _ h => h) hHeld ?_
                    rotate_left 2
                    · (simp only [List.getElem?_toArray, List.getElem?_cons_succ, List.getElem?_cons_zero]; try rfl)
                    · rfl
                    · (intro w hSw; (try dsimp only at hSw); go_simp; first | done | with_reducible rfl)
                    (try simp only [Act.put, List.setIfInBounds_toArray, List.set_cons_zero, List.set_cons_succ])
                    refine' takeW 3 ?_ ?_ ?_ (by kernel_rfl) (by kernel_rfl) (by kernel_rfl) (fun _ _ _ h => h) hHeld ?_
                    rotate_left 2
                    · (simp only [List.getElem?_toArray, List.getElem?_cons_succ, List.getElem?_cons_zero]; try rfl)
                    · rfl
                    · (intro w hSw; (try dsimp only at hSw); go_simp; first | done | with_reducible rfl)
                    (try simp only [Act.put, List.setIfInBounds_toArray, List.set_cons_zero, List.set_cons_succ])
                    refine' takeW 4 ?_ ?_ ?_ (by kernel_rfl) (by kernel_rfl) (by kernel_rfl) (fun _ _ _ h => h) hHeld ?_
                    rotate_left 2
                    · (simp only [List.getElem?_toArray, List.getElem?_cons_succ, List.getElem?_cons_zero]; try rfl)
                    · rfl
                    · (intro w hSw; (try dsimp only at hSw); go_simp; first | done | with_reducible rfl)
                    (try simp only [Act.put, List.setIfInBounds_toArray, List.set_cons_zero, List.set_cons_succ])
                    refine' takeW 5 ?_ ?_ ?_ (by kernel_rfl) (by kernel_rfl) (by kernel_rfl) (fun _ _ _ h => h) hHeld ?_
                    rotate_left 2
                    · (simp only [List.getElem?_toArray, List.getElem?_cons_succ, List.getElem?_cons_zero]; try rfl)
                    · rfl
                    · (intro w hSw; (try dsimp only at hSw); go_simp; first | done | with_reducible rfl)
                    (try simp only [Act.put, List.setIfInBounds_toArray, List.set_cons_zero, List.set_cons_succ])
                    refine' takeW 6 ?_ ?_ ?_ (by kernel_rfl) (by kernel_rfl) (by kernel_rfl) (fun _ _ _ h => h) hHeld ?_
                    rotate_left 2
                    · (simp only [List.getElem?_toArray, List.getElem?_cons_succ, List.getElem?_cons_zero]; try rfl)
                    · rfl
                    · (intro w hSw; (try dsimp only at hSw); go_simp; first | done | with_reducible rfl)
                    (try simp only [Act.put, List.setIfInBounds_toArray, List.set_cons_zero, List.set_cons_succ])
                    refine' takeW 8 ?_ ?_ ?_ (by kernel_rfl) (by kernel_rfl) (by kernel_rfl) (fun _ _ _ h => h) hHeld ?_
                    rotate_left 2
                    · (simp only [List.getElem?_toArray, List.getElem?_cons_succ, List.getElem?_cons_zero]; try rfl)
                    · rfl
                    · (intro w hSw; (try dsimp only at hSw); go_simp; first | done | with_reducible rfl)
                    (try simp only [Act.put, List.setIfInBounds_toArray, List.set_cons_zero, List.set_cons_succ])
                    refine wpAnyH_ready (rs := [7]) (by kernel_rfl) (by simp) ?_
                    refine' AllReadyH.cons ?_ (fun K hK => ?_) AllReadyH.nil
                    rotate_left 1
                    · (simp only [List.getElem?_toArray, List.getElem?_cons_succ, List.getElem?_cons_zero]; try rfl)
                    (try go_simp)
                    go_at_call 54
                    refine (HST2.out x _).mono ?_
                    rintro e wz ⟨rfl, hbz⟩
                    (try go_simp)
                    refine hK.out _ _ ?_ (fun hHeld => ?_)
                    · exact HBX.out _ hbz
                    clear hK K
                    (try simp only [Act.put, List.setIfInBounds_toArray, List.set_cons_zero, List.set_cons_succ])
                    refine' takeW 9 ?_ ?_ ?_ (by kernel_rfl) (by kernel_rfl) (by kernel_rfl) (fun _ _ _ h => h) hHeld ?_
                    rotate_left 2
                    · (simp only [List.getElem?_toArray, List.getElem?_cons_succ, List.getElem?_cons_zero]; try rfl)
                    · rfl
                    · (intro w hSw; (try dsimp only at hSw); go_simp; first | done | with_reducible rfl)
                    (try simp only [Act.put, List.setIfInBounds_toArray, List.set_cons_zero, List.set_cons_succ])
                    refine' takeW 10 ?_ ?_ ?_ (by kernel_rfl) (by kernel_rfl) (by kernel_rfl) (fun _ _ _ h => h) hHeld ?_
                    rotate_left 2
                    · (simp only [List.getElem?_toArray, List.getElem?_cons_succ, List.getElem?_cons_zero]; try rfl)
                    · rfl
                    · (intro w hSw; (try dsimp only at hSw); go_simp; first | done | with_reducible rfl)
                    (try simp only [Act.put, List.setIfInBounds_toArray, List.set_cons_zero, List.set_cons_succ])
                    refine' takeW 11 ?_ ?_ ?_ (by kernel_rfl) (by kernel_rfl) (by kernel_rfl) (fun _ _ _ h => h) hHeld ?_
                    rotate_left 2
                    · (simp only [List.getElem?_toArray, List.getElem?_cons_succ, List.getElem?_cons_zero]; try rfl)
                    · rfl
                    · (intro w hSw; (try dsimp only at hSw); go_simp; first | done | with_reducible rfl)
                    (try simp only [Act.put, List.setIfInBounds_toArray, List.set_cons_zero, List.set_cons_succ])
                    refine wpAnyH_done (by kernel_rfl) ?_ _
                    refine NoPanic.normal ?_
                    clear hHeld
                    go_wp2_with fail
                    go_roundw
                    case rel => exact ⟨j + 1, by omega, by go_num, by rw [HAN.out, ← HSE.out]; simp, below_keep' hbpd hbz⟩
                    case measure => simp [intOf]; omega
                  · rw [hf] at HAN
                    clear hf
                    go_wp2_with fail
                    refine wp_region_noPanic ?_
                    refine wp_region_held_drew (S := fun U => (U.cell? ⟨b, off + j * 7, none⟩ = some (.int .i64 x.id) ∧ U.cell? ⟨b, off + j * 7 + 1, none⟩ = some (.int .i64 x.obv) ∧ U.cell? ⟨b, off + j * 7 + 2, none⟩ = some (.int .i64 x.rev) ∧ U.cell? ⟨b, off + j * 7 + 3, none⟩ = some (.int .i64 x.os) ∧ U.cell? ⟨b, off + j * 7 + 4, none⟩ = some (.int .i64 x.rs) ∧ U.cell? ⟨b, off + j * 7 + 5, none⟩ = some (.int .i64 x.ax) ∧ U.cell? ⟨b, off + j * 7 + 6, none⟩ = some (.int .i64 x.wt)) ∧ (U.cell? ⟨bd, 0, none⟩ = some (.int .i64 side) ∧ U.cell? ⟨bd, 1, none⟩ = some (.int .i64 num))) (by kernel_rfl) (HBX.out _ (Below.refl _ _)) (fun hHeld => ?_)
                    generalize wp.drew = W6 at *
                    refine' takeW 0 ?_ ?_ ?_ (by kernel_rfl) (by kernel_rfl) (by kernel_rfl) (fun _ _ _ h => h) hHeld ?_
                    rotate_left 2
                    · (simp only [List.getElem?_toArray, List.getElem?_cons_succ, List.getElem?_cons_zero]; try rfl)
                    · rfl
                    · (intro w hSw; (try dsimp only at hSw); go_simp; first | done | with_reducible rfl)
                    (try simp only [Act.put, List.setIfInBounds_toArray, List.set_cons_zero, List.set_cons_succ])
                    refine' takeW 1 ?_ ?_ ?_ (by kernel_rfl) (by kernel_rfl) (by kernel_rfl) (fun _ _ _ h => h) hHeld ?_
                    rotate_left 2
                    · (simp only [List.getElem?_toArray, List.getElem?_cons_succ, List.getElem?_cons_zero]; try rfl)
                    · rfl
                    · (intro w hSw; (try dsimp only at hSw); go_simp; first | done | with_reducible rfl)
                    (try simp only [Act.put, List.setIfInBounds_toArray, List.set_cons_zero, List.set_cons_succ])
                    refine' takeN 2 ?_ ?_ (by kernel_rfl) (by kernel_rfl) (by kernel_rfl) (fun _ _ _ h => h) hHeld ?_
                    rotate_left 1
                    · (simp only [List.getElem?_toArray, List.getElem?_cons_succ, List.getElem?_cons_zero]; try rfl)
                    · rfl
                    (try simp only [Act.put, List.setIfInBounds_toArray, List.set_cons_zero, List.set_cons_succ])
                    refine' takeN 3 ?_ ?_ (by kernel_rfl) (by kernel_rfl) (by kernel_rfl) (fun _ _ _ h => h) hHeld ?_
                    rotate_left 1
                    · (simp only [List.getElem?_toArray, List.getElem?_cons_succ, List.getElem?_cons_zero]; try rfl)
                    · rfl
                    (try simp only [Act.put, List.setIfInBounds_toArray, List.set_cons_zero, List.set_cons_succ])
                    refine' takeN 4 ?_ ?_ (by kernel_rfl) (by kernel_rfl) (by kernel_rfl) (fun _ _ _ h => h) hHeld ?_
                    rotate_left 1
                    · (simp only [List.getElem?_toArray, List.getElem?_cons_succ, List.getElem?_cons_zero]; try rfl)
                    · rfl
                    (try simp only [Act.put, List.setIfInBounds_toArray, List.set_cons_zero, List.set_cons_succ])
                    refine' takeN 5 ?_ ?_ (by kernel_rfl) (by kernel_rfl) (by kernel_rfl) (fun _ _ _ h => h) hHeld ?_
                    rotate_left 1
                    · (simp only [List.getElem?_toArray, List.getElem?_cons_succ, List.getElem?_cons_zero]; try rfl)
                    · rfl
                    (try simp only [Act.put, List.setIfInBounds_toArray, List.set_cons_zero, List.set_cons_succ])
                    refine' takeN 6 ?_ ?_ (by kernel_rfl) (by kernel_rfl) (by kernel_rfl) (fun _ _ _ h => h) hHeld ?_
                    rotate_left 1
                    · (simp only [List.getElem?_toArray, List.getElem?_cons_succ, List.getElem?_cons_zero]; try rfl)
                    · rfl
                    (try simp only [Act.put, List.setIfInBounds_toArray, List.set_cons_zero, List.set_cons_succ])
                    refine' takeN 7 ?_ ?_ (by kernel_rfl) (by kernel_rfl) (by kernel_rfl) (fun _ _ _ h => h) hHeld ?_
                    rotate_left 1
                    · (simp only [List.getElem?_toArray, List.getElem?_cons_succ, List.getElem?_cons_zero]; try rfl)
                    · rfl
                    (try simp only [Act.put, List.setIfInBounds_toArray, List.set_cons_zero, List.set_cons_succ])
                    refine' takeN 8 ?_ ?_ (by kernel_rfl) (by kernel_rfl) (by kernel_rfl) (fun _ _ _ h => h) hHeld ?_
                    rotate_left 1
                    · (simp only [List.getElem?_toArray, List.getElem?_cons_succ, List.getElem?_cons_zero]; try rfl)
                    · rfl
                    (try simp only [Act.put, List.setIfInBounds_toArray, List.set_cons_zero, List.set_cons_succ])
                    refine' takeN 9 ?_ ?_ (by kernel_rfl) (by kernel_rfl) (by kernel_rfl) (fun _ _ _ h => h) hHeld ?_
                    rotate_left 1
                    · (simp only [List.getElem?_toArray, List.getElem?_cons_succ, List.getElem?_cons_zero]; try rfl)
                    · rfl
                    (try simp only [Act.put, List.setIfInBounds_toArray, List.set_cons_zero, List.set_cons_succ])
                    refine' takeW 10 ?_ ?_ ?_ (by kernel_rfl) (by kernel_rfl) (by kernel_rfl) (fun _ _ _ h => h) hHeld ?_
                    rotate_left 2
                    · (simp only [List.getElem?_toArray, List.getElem?_cons_succ, List.getElem?_cons_zero]; try rfl)
                    · rfl
                    · (intro w hSw; (try dsimp only at hSw); go_simp; first | done | with_reducible rfl)
                    (try simp only [Act.put, List.setIfInBounds_toArray, List.set_cons_zero, List.set_cons_succ])
                    refine' takeW 11 ?_ ?_ ?_ (by kernel_rfl) (by kernel_rfl) (by kernel_rfl) (fun _ _ _ h => h) hHeld ?_
                    rotate_left 2
                    · (simp only [List.getElem?_toArray, List.getElem?_cons_succ, List.getElem?_cons_zero]; try rfl)
                    · rfl
                    · (intro w hSw; (try dsimp only at hSw); go_simp; first | done | with_reducible rfl)
                    (try simp only [Act.put, List.setIfInBounds_toArray, List.set_cons_zero, List.set_cons_succ])
                    refine wpAnyH_done (by kernel_rfl) ?_ _
                    refine NoPanic.normal ?_
                    clear hHeld
                    go_wp2_with fail
                    go_roundw
                    case rel => exact ⟨j + 1, by omega, by go_num, by rw [HAN.out]; rfl, hbpd⟩
                    case measure => simp [intOf]; omega
                · obtain rfl : j = len := by omega
                  rw [take_all HL.out]
                  have HSC := Lib.hid (statT_succ xs side num q)
                  have hsl := statT_len xs side num q
                  have hjl := join_st_len (statT xs side num q) (by omega)
                  have hsj := sepJ_len ((statT xs side num q).map letterT)
                  have hcj := comJ_len ((statT xs side num q).map letterT)
                  cases hf : xs.any (fun s => (sideW s side).1 == num && (sideW s side).2 == (q : Int) + 1)
                  · rw [hf, if_neg (by decide), List.append_nil] at HSC
                    clear hf
                    go_wp2_with fail
                    go_roundw
                    case rel => exact ⟨q + 1, by omega, by go_num, by rw [HSC.out], by rw [HSC.out], hbp⟩
                    case measure => simp [intOf]; omega
                  · rw [hf, if_pos rfl] at HSC
                    have HS2 : Hid (sepJ ((statT xs side num (q + 1)).map letterT) = sepJ ((statT xs side num q).map letterT) ++ comJ ((statT xs side num q).map letterT) ++ letterT ((q : Int) + 1) ∧ comJ ((statT xs side num (q + 1)).map letterT) = [44, 32]) := by
                      show _ ∧ _
                      rw [HSC.out, List.map_append]
                      exact ⟨sepJ_snoc _ _, comJ_snoc _ _⟩
                    clear hf HSC
                    generalize sepJ ((statT xs side num q).map letterT) = sj at *
                    generalize comJ ((statT xs side num q).map letterT) = cj at *
                    have hb1 := add_lists (P := Tryz.prog) (pre ++ sj) cj (by simp; omega)
                    have hb2 := add_lists (P := Tryz.prog) (pre ++ sj ++ cj) (letterT ((q : Int) + 1)) (by simp [letterT]; omega)
                    simp only [List.append_assoc, List.cons_append, List.nil_append] at hb1 hb2
                    have hx9 := letter_ex hlq
                    generalize hlt9 : letterT ((q : Int) + 1) = lt at *
                    clear hlt9
                    have hk1 : IntKind.i64.wrap ((q : Int) + 1 - 1) = (q : Int) := by rw [IntKind.wrap_i64]; omega
                    have hk2 : ((q : Int) + 1).toNat = q + 1 := by omega
                    have hk3 : (0 : Int) ≤ (q : Int) + 1 := by omega
                    have hk4 : (q : Int) + 1 ≤ 9 := by omega
                    go_wp2_with fail
                    go_roundw
                    case rel => exact ⟨q + 1, by omega, by go_num, by rw [HS2.out.1]; simp, by rw [HS2.out.2], hbp⟩
                    case measure => simp [intOf]; omega
            · obtain rfl : q = 9 := by omega
              obtain ⟨z0, z1⟩ := HD6.out _ hbq
              obtain ⟨g0, g1, g2⟩ := HX.out _ (HW6.out _ hbq)
              have hsl := statT_len xs side num 9
              have hjl := join_st_len (statT xs side num 9) (by omega)
              have hsj := sepJ_len ((statT xs side num 9).map letterT)
              generalize sepJ ((statT xs side num 9).map letterT) = sj at *
              generalize comJ ((statT xs side num 9).map letterT) = cj at *
              have hb1 := add_lists (P := Tryz.prog) (pre ++ sj) [59, 32, 119, 105, 116, 104] (by simp; omega)
              simp only [List.append_assoc, List.cons_append, List.nil_append] at hb1
              go_wp2_with fail
              refine (HPN.out _ (HUP.out _ (HW6.out _ hbq))).mono ?_; rintro e w8 ⟨⟨A9, n9, c9, rfl, hn9, hS9⟩, hb8⟩
              have HW8 : Hid (∀ W, Below w8.heap.size w8 W → Below w3.heap.size w3 W) := fun W hW => HW6.out _ (below_keep' (below_keep' hbq hb8) hW)
              have HS9 : Hid (∀ W, Below w8.heap.size w8 W → Sl W 0 W.heap.size 1 encI A9 n9 (partnersG g ⟨side, num⟩)) := fun W hW => hS9.up hW (Nat.le_refl _) (Nat.le_refl _)
              have HN9 := Lib.hid hS9.len
              have hn9' : n9 ≤ 64 := by have := HN9.out; omega
              clear hS9 z0 z1 g0 g1 g2 hb8 hbq
              have hpl3 : (pre ++ sj ++ [59, 32, 119, 105, 116, 104]).length ≤ 46080 + 400 := by simp only [List.length_append, List.length_cons, List.length_nil]; omega
              obtain ⟨pre2, HPR2, hprl2⟩ : ∃ p2, Hid (p2 = pre ++ sj ++ [59, 32, 119, 105, 116, 104]) ∧ p2.length ≤ 46080 + 400 := ⟨pre ++ sj ++ [59, 32, 119, 105, 116, 104], rfl, hpl3⟩
              clear hpl3
              go_wp2_with fail
              go_loopw [10, 14, 20] (fun s cm i wp => ∃ p : Nat, p ≤ n9 ∧ i = .int .i64 (p : Int) ∧ s = .string ⟨(pre2 ++ sepJ (((partnersG g ⟨side, num⟩).take p).map (nameL (1 - side)))).toArray⟩ ∧ cm = .string ⟨(comJ (((partnersG g ⟨side, num⟩).take p).map (nameL (1 - side)))).toArray⟩ ∧ Below w8.heap.size w8 wp) (fun _ _ i _ => n9 - (intOf i).toNat)
              case atStart => exact ⟨0, by omega, rfl, by rw [HPR2.out]; simp [sepJ], by simp [comJ], Below.refl _ _⟩
              case round =>
                obtain ⟨p, hp, rfl, rfl, rfl, hbp⟩ := hrel
                rename World => wp
                have hjl := join_nm_len ((partnersG g ⟨side, num⟩).take p) (1 - side) (by rw [List.length_take]; omega)
                have hsj := sepJ_len (((partnersG g ⟨side, num⟩).take p).map (nameL (1 - side)))
                have hcj := comJ_len (((partnersG g ⟨side, num⟩).take p).map (nameL (1 - side)))
                by_cases hlp : p < n9
                · obtain ⟨b, off, y, rfl, hbb, hy, y0⟩ := (HS9.out _ hbp).in_ hlp
                  have HS2 : Hid (sepJ (((partnersG g ⟨side, num⟩).take (p + 1)).map (nameL (1 - side))) = sepJ (((partnersG g ⟨side, num⟩).take p).map (nameL (1 - side))) ++ comJ (((partnersG g ⟨side, num⟩).take p).map (nameL (1 - side))) ++ nameL (1 - side) y ∧ comJ (((partnersG g ⟨side, num⟩).take (p + 1)).map (nameL (1 - side))) = [44, 32]) := by
                    show _ ∧ _
                    rw [takeSnocW hy, List.map_append]
                    exact ⟨sepJ_snoc _ _, comJ_snoc _ _⟩
                  clear hy
                  generalize sepJ (((partnersG g ⟨side, num⟩).take p).map (nameL (1 - side))) = sp at *
                  generalize comJ (((partnersG g ⟨side, num⟩).take p).map (nameL (1 - side))) = cp at *
                  have hnl2 := nameL_len (1 - side) y
                  have hd1 := add_lists (P := Tryz.prog) (pre2 ++ sp) cp (by simp; omega)
                  have hd2 := add_lists (P := Tryz.prog) (pre2 ++ sp ++ cp) (nameL (1 - side) y) (by simp; omega)
                  simp only [List.append_assoc, List.cons_append, List.nil_append] at hd1 hd2
                  have hq1 := HQ1.out
                  have HNA := Lib.hid (rname_any (1 - side) y)
                  go_wp2_with fail
                  refine (HNA.out _).mono ?_; rintro e w9 ⟨rfl, hb9⟩
                  go_wp2_with fail
                  exact ⟨⟨p + 1, by omega, by go_num, by rw [HS2.out.1]; simp, by rw [HS2.out.2], below_keep' hbp hb9⟩, by simp [intOf]; omega⟩
                · obtain rfl : p = n9 := by omega
                  rw [take_all HN9.out] at hjl hsj hcj ⊢
                  generalize sepJ ((partnersG g ⟨side, num⟩).map (nameL (1 - side))) = sp at *
                  have hd1 := add_lists (P := Tryz.prog) (pre2 ++ sp) [10] (by simp; omega)
                  simp only [List.append_assoc, List.cons_append, List.nil_append] at hd1
                  go_wp2_with fail
                  exact ⟨⟨j + 1, by omega, by go_num, by rw [HFS.out, HPR2.out, HPRE.out]; simp, HW8.out _ hbp⟩, by simp [intOf]; omega⟩
      · obtain rfl : j = n8 := by omega
        rw [take_all HN8.out]
        generalize (diesG g).flatMap (dsT xs g side) = txt at *
        go_wp2_with fail
        go_ret2
        exact ⟨by rw [HT.out, HE2.out]; rfl, HUW.out _ hbr⟩
end Go.Proofs.YtdokpmfejibdlaaGreatDoor
