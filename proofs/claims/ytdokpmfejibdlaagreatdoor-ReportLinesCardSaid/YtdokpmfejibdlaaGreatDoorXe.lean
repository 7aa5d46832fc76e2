/- Chapter 54: report.Dies. -/
import Derived.Test.YtdokpmfejibdlaaGreatDoorXd
set_option linter.unusedSimpArgs false
set_option linter.unusedVariables false
namespace Go.Proofs.YtdokpmfejibdlaaGreatDoor
open Go.RowKit

theorem Tryz.infoStr : (Tryz.prog.info? 9).map (fun i => (i.zero, i.size, i.bytes)) = some (some (.string ⟨#[]⟩), 1, 16) := by kernel_rfl
def dE (xs : List Spm) (side : Int) : Int := if grE xs = 0 then (if side = 0 ∨ side = 1 then 0 else 2) else grE xs
def dL (xs : List Spm) (side : Int) : List UInt8 := if dE xs side = 0 then diesL xs (grOf xs) side else []
def numsG (g : Gr) (side : Int) : List Int := if side = 0 then g.obv else g.rev
theorem nums_ok {g : Gr} (hg : GrOk g) {side n : Int} (hs : side = 0 ∨ side = 1) (hn : n ∈ numsG g side) : (1 ≤ n ∧ n ≤ 999) ∧ degG g ⟨side, n⟩ ≠ 0 := by
  have hp : ∀ d : DieP, (∃ x ∈ g.links, endL x d.side = d.num) → degG g d ≠ 0 := fun d ⟨x, hx, h⟩ => by
    unfold degG
    have : 0 < g.links.countP (touchL d) := List.countP_pos_iff.2 ⟨x, hx, by unfold touchL; simpa using h⟩
    omega
  rcases hs with rfl | rfl
  · have hn' : n ∈ g.obv := hn
    obtain ⟨x, hx, h⟩ := (hg.eo n).1 hn'
    exact ⟨hg.ro n hn', hp _ ⟨x, hx, h⟩⟩
  · have hn' : n ∈ g.rev := hn
    obtain ⟨x, hx, h⟩ := (hg.er n).1 hn'
    exact ⟨hg.rr n hn', hp _ ⟨x, hx, h⟩⟩
theorem part_pos {g : Gr} {d : DieP} (h : degG g d ≠ 0) : partL g d = partnersG g d ∧ partE g d = 0 := by unfold partL partE; rw [if_neg h, if_neg h]; exact ⟨rfl, rfl⟩
theorem statesS_len (xs : List Spm) (d : DieP) : (statesS xs d).length ≤ xs.length := by
  unfold statesS
  refine Nat.le_trans (uniqI_len _) ?_
  rw [List.length_map]
  exact List.length_filter_le _ _
theorem statesS_in {xs : List Spm} (h : grE xs = 0) (side n : Int) : ∀ s ∈ statesS xs ⟨side, n⟩, 1 ≤ s ∧ s ≤ 9 := by
  obtain ⟨_, hok⟩ := spm_ok h
  intro s hs
  unfold statesS at hs
  rw [uniqI_mem] at hs
  obtain ⟨x, hx, rfl⟩ := List.mem_map.1 hs
  have := hok x (List.mem_filter.1 hx).1
  unfold sideW
  split
  · exact this.2.2.1
  · exact this.2.2.2.1
theorem partnersG_len {g : Gr} (hg : GrOk g) (d : DieP) : (partnersG g d).length ≤ 64 := by
  unfold partnersG
  refine Nat.le_trans (uniqI_len _) ?_
  rw [List.length_map]
  exact Nat.le_trans (List.length_filter_le _ _) hg.ll
theorem degG_le {g : Gr} (hg : GrOk g) (d : DieP) : degG g d ≤ 64 := Nat.le_trans List.countP_le_length hg.ll
theorem join_st_len (l : List Int) (h : l.length ≤ 64) : (joinL [44, 32] (l.map letterT)).length ≤ 192 := by
  have := joinL_len (sep := [44, 32]) (m := 1) (ss := l.map letterT) (fun s hs => by obtain ⟨x, _, rfl⟩ := List.mem_map.1 hs; exact Nat.le_refl _)
  rw [List.length_map] at this
  simp only [List.length_cons, List.length_nil] at this
  omega
theorem join_nm_len (l : List Int) (side : Int) (h : l.length ≤ 64) : (joinL [44, 32] (l.map (nameL side))).length ≤ 448 := by
  have := joinL_len (sep := [44, 32]) (m := 5) (ss := l.map (nameL side)) (fun s hs => by obtain ⟨x, _, rfl⟩ := List.mem_map.1 hs; exact nameL_len _ _)
  rw [List.length_map] at this
  simp only [List.length_cons, List.length_nil] at this
  omega
theorem dlineT_len {xs : List Spm} {g : Gr} (hg : GrOk g) (hx : xs.length ≤ 64) (side n : Int) : (dlineT xs g side n).length ≤ 720 := by
  have h1 := nameL_len side n
  have h2 := degG_le hg ⟨side, n⟩
  have h3 := itoa21 (degG g ⟨side, n⟩ : Nat) (by omega) (by omega)
  have h4 := join_st_len (statesS xs ⟨side, n⟩) (Nat.le_trans (statesS_len _ _) hx)
  have h5 := join_nm_len (partnersG g ⟨side, n⟩) (1 - side) (partnersG_len hg _)
  have h6 : (if degG g ⟨side, n⟩ = 1 then [115, 112, 101, 99, 105, 109, 101, 110] else [115, 112, 101, 99, 105, 109, 101, 110, 115] : List UInt8).length ≤ 9 := by split <;> simp
  unfold dlineT
  simp only [List.length_append, List.length_cons, List.length_nil]
  omega
theorem letter_enc {s : Int} (h1 : 1 ≤ s) (h2 : s ≤ 9) : Value.string (Utf8.encode (97 + s - 1)) = .string ⟨(letterT s).toArray⟩ := by
  have h : s = 1 ∨ s = 2 ∨ s = 3 ∨ s = 4 ∨ s = 5 ∨ s = 6 ∨ s = 7 ∨ s = 8 ∨ s = 9 := by omega
  rcases h with rfl | rfl | rfl | rfl | rfl | rfl | rfl | rfl | rfl <;> rfl
set_option maxRecDepth 100000 in
set_option maxHeartbeats 4000000 in
theorem rdies_any (A : Option Addr) (len cap : Nat) (xs : List Spm) (side : Int) (w : World) (hE : Env w) (hlen : len ≤ 1000000) (hS : Sl w 0 w.heap.size 7 encS A len xs) :
    Calls Tryz.prog 18 #[.slice A len cap, .int .i64 side] w (RepW w (dL xs side) (dE xs side)) := by
  have HO := Lib.hid (lof_any A len cap xs w hlen hS)
  have HS : Hid (∀ W, Below w.heap.size w W → Sl W 0 W.heap.size 7 encS A len xs) := fun W hW => hS.up hW (Nat.le_refl _) (Nat.le_refl _)
  have HL := Lib.hid hS.len
  clear hS
  obtain ⟨i0, hi, hz0, hz1, hz2⟩ := info_parts Tryz.infoStr
  go_enter Tryz.func18, Tryz.ntmps18
  go_wp2_with fail
  refine HO.out.mono ?_; rintro e w1 ⟨⟨A1, n1, c1, B1, m1, d1, C1, k1, l1, rfl, hn1, hm1, hk1, hG1⟩, hb1⟩
  by_cases he : ¬ grE xs = 0
  · have hd : (grE xs != 0) = true := by simpa using he
    have HD : Hid (dE xs side = grE xs) := if_neg he
    have HT : Hid (dL xs side = []) := if_neg (by rw [HD.out]; exact he)
    generalize grE xs = code at *
    clear he hG1
    go_wp2_with fail
    go_ret2
    exact ⟨by rw [HT.out, HD.out]; rfl, hb1.alloc hb1.size _⟩
  replace he := Classical.not_not.1 he
  have HE := Lib.hid he
  have HK := Lib.hid (grOk_of he)
  rw [grR_ok he] at hG1
  rw [he]
  have hb2 := hb1.alloc hb1.size (.cells #[.slice A1 n1 c1, .slice B1 m1 d1, .slice C1 k1 l1] 52)
  have hG2 := hG1.up (one_alloc w1 (.cells #[.slice A1 n1 c1, .slice B1 m1 d1, .slice C1 k1 l1] 52))
  have D4 := (Bx.new w1 [.slice A1 n1 c1, .slice B1 m1 d1, .slice C1 k1 l1] 52)
  have D4' : Bx (w1.alloc (.cells #[.slice A1 n1 c1, .slice B1 m1 d1, .slice C1 k1 l1] 52)) w1.heap.size [.slice A1 n1 c1, .slice B1 m1 d1, .slice C1 k1 l1] := D4
  clear D4
  by_cases hs : ¬ (side = 0 ∨ side = 1)
  · have HD : Hid (dE xs side = 2) := by show _ = _; unfold dE; rw [if_pos HE.out, if_neg hs]
    have HT : Hid (dL xs side = []) := if_neg (by rw [HD.out]; decide)
    have e0 : (side == 0) = false := by simp; omega
    have e1 : (side == 1) = false := by simp; omega
    clear he hs hG1 hG2
    go_wp2_with fail
    go_ret2
    exact ⟨by rw [HT.out, HD.out]; rfl, hb2⟩
  replace hs := Classical.not_not.1 hs
  have HSD := Lib.hid hs
  have HD : Hid (dE xs side = 0) := by show _ = _; unfold dE; rw [if_pos HE.out, if_pos hs]
  have HT : Hid (dL xs side = (numsG (grOf xs) side).flatMap (dlineT xs (grOf xs) side)) := by show _ = _; unfold dL; rw [if_pos HD.out]; rfl
  have hl64 : len ≤ 64 := by have := (spm_ok he).1; have := HL.out; omega
  have HXL : Hid (xs.length ≤ 64) := (spm_ok he).1
  have HSI := Lib.hid (statesS_in he side)
  have HCK : Hid (chk xs = 0) := (grE_chk he).1
  generalize grOf xs = g at *
  have HNO : Hid (∀ n ∈ numsG g side, (1 ≤ n ∧ n ≤ 999) ∧ degG g ⟨side, n⟩ ≠ 0) := fun n hn => nums_ok HK.out HSD.out hn
  have hq1 : IntKind.i64.wrap (1 - side) = 1 - side := by rcases hs with rfl | rfl <;> rfl
  have hRep := Rep.start (w1.alloc (.cells #[.slice A1 n1 c1, .slice B1 m1 d1, .slice C1 k1 l1] 52))
  rw [World.size_alloc] at hRep
  have HDG : Hid (∀ n W, Below (w1.alloc (.cells #[.slice A1 n1 c1, .slice B1 m1 d1, .slice C1 k1 l1] 52)).heap.size (w1.alloc (.cells #[.slice A1 n1 c1, .slice B1 m1 d1, .slice C1 k1 l1] 52)) W → Calls Tryz.prog 48 #[.agg #[.slice A1 n1 c1, .slice B1 m1 d1, .slice C1 k1 l1], .agg #[.int .i64 side, .int .i64 n]] W fun e w' => e = .returned (.int .i64 (degG g ⟨side, n⟩ : Nat)) ∧ Below W.heap.size W w') := fun n W hW => ldegree_any A1 n1 c1 B1 m1 d1 C1 k1 l1 g side n W (hG2.up hW) HK.out HSD.out
  have HPT : Hid (∀ n W, degG g ⟨side, n⟩ ≠ 0 → Below (w1.alloc (.cells #[.slice A1 n1 c1, .slice B1 m1 d1, .slice C1 k1 l1] 52)).heap.size (w1.alloc (.cells #[.slice A1 n1 c1, .slice B1 m1 d1, .slice C1 k1 l1] 52)) W → Calls Tryz.prog 50 #[.agg #[.slice A1 n1 c1, .slice B1 m1 d1, .slice C1 k1 l1], .agg #[.int .i64 side, .int .i64 n]] W (NumsW W (partnersG g ⟨side, n⟩) 0)) := fun n W hn hW => by
    have := lpartners_any A1 n1 c1 B1 m1 d1 C1 k1 l1 g side n W (hG2.up hW) HK.out HSD.out
    rwa [(part_pos hn).1, (part_pos hn).2] at this
  have HSX : Hid (∀ n W, 1 ≤ n → n ≤ 999 → Below w.heap.size w W → Calls Tryz.prog 49 #[.slice A len cap, .agg #[.int .i64 side, .int .i64 n]] W (NumsW W (statesS xs ⟨side, n⟩) 0)) := fun n W h1 h2 hW => lstates_any A len cap xs side n W hl64 (HS.out _ hW) HCK.out HSD.out h1 h2
  have HNM : Hid (∀ sd n W, Below w.heap.size w W → Calls Tryz.prog 44 #[.int .i64 sd, .int .i64 n] W fun e w' => e = .returned (.string ⟨(nameL sd n).toArray⟩) ∧ Below W.heap.size W w') := fun sd n W hW => name_any sd n W (hE.step hW)
  have HDL : Hid (∀ n, (dlineT xs g side n).length ≤ 720) := fun n => dlineT_len HK.out HXL.out side n
  have HPL : Hid (∀ n, (partnersG g ⟨side, n⟩).length ≤ 64) := fun n => partnersG_len HK.out _
  have HGL : Hid (∀ n, degG g ⟨side, n⟩ ≤ 64) := fun n => degG_le HK.out _
  have hnnl : (numsG g side).length ≤ 32 := by
    unfold numsG
    split
    · exact HK.out.lo
    · exact HK.out.lr
  have hNS : (side = 0 ∧ numsG g side = g.obv) ∨ (side = 1 ∧ numsG g side = g.rev) := by
    rcases hs with rfl | rfl
    · exact .inl ⟨rfl, rfl⟩
    · exact .inr ⟨rfl, rfl⟩
  clear he hs hG1 hb1
  rcases hNS with ⟨h0, hnum⟩ | ⟨h0, hnum⟩
  case' inl =>
    have e0 : (side == 0) = true := by simp [h0]
    clear h0
    have hSN := hG2.obv
    rw [← hnum] at hSN
    clear hnum hG2
    go_wp2_with fail
    generalize (w1.alloc (.cells #[.slice A1 n1 c1, .slice B1 m1 d1, .slice C1 k1 l1] 52)).alloc (.cells #[.pointer none, .slice none 0 0] 66) = w3 at *
    generalize w1.alloc (.cells #[.slice A1 n1 c1, .slice B1 m1 d1, .slice C1 k1 l1] 52) = w2 at *
    generalize A1 = AN at *
    generalize n1 = nn at *
  case' inr =>
    have e0 : (side == 0) = false := by simp [h0]
    have e1 : (side == 1) = true := by simp [h0]
    clear h0
    have hSN := hG2.rev
    rw [← hnum] at hSN
    clear hnum hG2
    go_wp2_with fail
    generalize (w1.alloc (.cells #[.slice A1 n1 c1, .slice B1 m1 d1, .slice C1 k1 l1] 52)).alloc (.cells #[.pointer none, .slice none 0 0] 66) = w3 at *
    generalize w1.alloc (.cells #[.slice A1 n1 c1, .slice B1 m1 d1, .slice C1 k1 l1] 52) = w2 at *
    generalize B1 = AN at *
    generalize m1 = nn at *
  all_goals
    generalize w1.heap.size + 1 = bb at *
    generalize w1.heap.size = bg at *
    have HNU : Hid (∀ W, Below w2.heap.size w2 W → Sl W 0 W.heap.size 1 encI AN nn (numsG g side)) := fun W hW => hSN.up hW (Nat.le_refl _) (Nat.le_refl _)
    have HNL : Hid ((numsG g side).length = nn) := hSN.len
    have hnn32 : nn ≤ 32 := by have := HNL.out; omega
    clear hSN hnnl
    go_loopw [44] (fun i wr => ∃ j : Nat, j ≤ nn ∧ i = .int .i64 (j : Int) ∧ Rep w2 wr bb (((numsG g side).take j).flatMap (dlineT xs g side))) (fun i _ => nn - (intOf i).toNat)
    case atStart => exact ⟨0, by omega, rfl, hRep⟩
    case round =>
      clear hRep
      obtain ⟨j, hj, rfl, hRep⟩ := hrel
      have hrl := flatL_len (m := 720) (f := dlineT xs g side) (l := (numsG g side).take j) (fun r _ => HDL.out r)
      rw [List.length_take] at hrl
      by_cases hlt : j < nn
      · obtain ⟨b, off, n, rfl, hbb, hx, x0⟩ := (HNU.out _ hRep.base).in_ hlt
        have HFT := Lib.hid (flatT_snoc (f := dlineT xs g side) hx)
        obtain ⟨⟨hn1', hn2'⟩, hdg⟩ := HNO.out n (List.mem_of_getElem? hx)
        have hgl := HGL.out n
        have hpl := HPL.out n
        have hstl := statesS_len xs ⟨side, n⟩
        have hxl := HXL.out
        have HDT : Hid (dlineT xs g side n = nameL side n ++ [58, 32] ++ Lib.itoa (degG g ⟨side, n⟩ : Nat) ++ [32] ++ (if degG g ⟨side, n⟩ = 1 then [115, 112, 101, 99, 105, 109, 101, 110] else [115, 112, 101, 99, 105, 109, 101, 110, 115]) ++ [59, 32, 115, 116, 97, 116, 101, 115, 32] ++ joinL [44, 32] ((statesS xs ⟨side, n⟩).map letterT) ++ [59, 32, 119, 105, 116, 104, 32] ++ joinL [44, 32] ((partnersG g ⟨side, n⟩).map (nameL (1 - side))) ++ [10]) := rfl
        have HD1 := Lib.hid (HDG.out n)
        have HP1 := Lib.hid (fun W => HPT.out n W hdg)
        have HX1 := Lib.hid (fun W => HSX.out n W hn1' hn2')
        have HSI1 := Lib.hid (HSI.out n)
        have hi1 := itoa21 (degG g ⟨side, n⟩ : Nat) (by omega) (by omega)
        have hi2 := nameL_len side n
        have hj1 := join_st_len (statesS xs ⟨side, n⟩) (by omega)
        have hj2 := join_nm_len (partnersG g ⟨side, n⟩) (1 - side) (by omega)
        generalize ((numsG g side).take j).flatMap (dlineT xs g side) = tj at *
        generalize degG g ⟨side, n⟩ = dg at *
        generalize statesS xs ⟨side, n⟩ = sts at *
        generalize partnersG g ⟨side, n⟩ = pts at *
        have hbwr := below_keep' hb2 hRep.base
        have hRepD := hRep.up (one_alloc wr (.cells #[.int .i64 side, .int .i64 n] 72))
        have X12 : Bx (wr.alloc (.cells #[.int .i64 side, .int .i64 n] 72)) wr.heap.size [.int .i64 side, .int .i64 n] := Bx.new wr [.int .i64 side, .int .i64 n] 72
        have D5 := D4'.up hRep.base
        have q0 := D5.cell 0 _ rfl
        have q1 := D5.cell 1 _ rfl
        have q2 := D5.cell 2 _ rfl
        have ql := D5.lt
        clear hx hdg D5
        go_wp2_with fail
        generalize wr.alloc (.cells #[.int .i64 side, .int .i64 n] 72) = w5 at *
        generalize wr.heap.size = b12 at *
        refine (HD1.out _ hRepD.base).mono ?_; rintro e w6 ⟨rfl, hb6⟩
        have hRep6 := hRepD.up hb6
        have X6 := X12.up hb6
        have D6 := D4'.up hRep6.base
        clear hRepD X12 q0 q1 q2 ql hb6
        obtain ⟨wd, hwd, hwl⟩ : ∃ wd : List UInt8, (wd = if dg = 1 then [115, 112, 101, 99, 105, 109, 101, 110] else [115, 112, 101, 99, 105, 109, 101, 110, 115]) ∧ wd.length ≤ 9 := ⟨_, rfl, by split <;> simp⟩
        rw [← hwd] at HDT
        have p0 := X6.cell 0 _ rfl
        have p1 := X6.cell 1 _ rfl
        have pl := X6.lt
        have q0 := D6.cell 0 _ rfl
        have q1 := D6.cell 1 _ rfl
        have q2 := D6.cell 2 _ rfl
        have ql := D6.lt
        by_cases hd1 : dg = 1
        case' pos =>
          rw [if_pos hd1] at hwd
          have hb1' : (((dg : Nat) : Int) == 1) = true := by simp [hd1]
        case' neg =>
          rw [if_neg hd1] at hwd
          have hb1' : (((dg : Nat) : Int) == 1) = false := by simp; omega
        all_goals
          have HWD := Lib.hid hwd
          clear hd1 hwd
          go_wp2_with fail
          refine (HX1.out _ (below_keep' hb2 hRep6.base)).mono ?_; rintro e w7 ⟨⟨A7, n7, c7, rfl, hn7, hS7⟩, hb7⟩
          have hRep7 := hRep6.up hb7
          have X7 := X6.up hb7
          have HS7 : Hid (∀ W, Below w7.heap.size w7 W → Sl W 0 W.heap.size 1 encI A7 n7 sts) := fun W hW => hS7.up hW (Nat.le_refl _) (Nat.le_refl _)
          have HL7 : Hid (sts.length = n7) := hS7.len
          have hn7' : n7 ≤ 64 := by have := HL7.out; omega
          clear hb7 hS7 hn7 p0 p1 pl q0 q1 q2 ql hRep6 X6 D6
          go_wp2_with fail
          go_loopw [15, 64] (fun v i wq => ∃ q : Nat, q ≤ n7 ∧ i = .int .i64 (q : Int) ∧ wq.ownsRow w7.heap.size 9 1 v q (((sts.take q).map letterT).flatMap encT) ∧ Below w7.heap.size w7 wq) (fun _ i _ => n7 - (intOf i).toNat)
          case atStart => exact ⟨0, by omega, rfl, World.ownsRow_nil _ _ _ _, Below.refl _ _⟩
          case round =>
            obtain ⟨q, hq, rfl, hown, hbq⟩ := hrel
            rename World => wq
            have hzq := hbq.size
            by_cases hlt3 : q < n7
            · obtain ⟨bs, os, s, rfl, hbs, hxs, s0⟩ := (HS7.out _ hbq).in_ hlt3
              obtain ⟨hs1, hs2⟩ := HSI1.out s (List.mem_of_getElem? hxs)
              have HLT : Hid ((sts.take (q + 1)).map letterT = (sts.take q).map letterT ++ [letterT s]) := by show _ = _; rw [takeSnocW hxs, List.map_append]; rfl
              clear hxs
              generalize (sts.take q).map letterT = ls at *
              have HEN : Hid (Value.string (Utf8.encode (97 + s - 1)) = .string ⟨(letterT s).toArray⟩) := letter_enc hs1 hs2
              generalize letterT s = lt at *
              go_wp2_with (at_builtin; refine wpList_append_own _ rfl _ _ 42 rfl w7.heap.size 9 i0 (.string ⟨#[]⟩) 1 16 Tryz.underlying42 hi hz0 hz1 hz2 rfl (by decide) _ _ _ rfl (hown.alloc _) ⟨wq.heap.size, 0, none⟩ 1 1 [.string (Utf8.encode (97 + s - 1))] rfl rfl ?c1 ?c2 ?c3 ?c4 ?c5 ?_)
              case c1 => exact cell_list_at (by simp) _ _
              case c2 => simp [Value.oneCell']
              case c3 => unfold maxLen; omega
              case c4 => omega
              case c5 => simp; omega
              intro v' w8 hown8 hgrow _
              rw [HEN.out] at hown8
              have hb8 := below_row (hbq.alloc hbq.size (.cells #[.string (Utf8.encode (97 + s - 1))] 9)) (hown.alloc _) hgrow (Nat.le_refl _) (Nat.le_refl _)
              clear hgrow hown hbq s0
              go_wp2_with fail
              exact ⟨⟨q + 1, by omega, by go_num, by rw [HLT.out, List.flatMap_append]; exact hown8, hb8⟩, by simp [intOf]; omega⟩
            · obtain rfl : q = n7 := by omega
              rw [take_all HL7.out] at hown
              obtain ⟨A8, c8, rfl, hc8⟩ := own_form hown
              have hRep8 := hRep7.up hbq
              have X8 := X7.up hbq
              have D8 := D4'.up hRep8.base
              have p0 := X8.cell 0 _ rfl
              have p1 := X8.cell 1 _ rfl
              have pl := X8.lt
              have q0 := D8.cell 0 _ rfl
              have q1 := D8.cell 1 _ rfl
              have q2 := D8.cell 2 _ rfl
              have ql := D8.lt
              have HLL : Hid ((sts.map letterT).length = q) := by show _ = _; rw [List.length_map, HL7.out]
              generalize sts.map letterT = ls at *
              clear D8
              go_wp2_with fail
              refine (HP1.out _ hRep8.base).mono ?_; rintro e w9 ⟨⟨A9, n9, c9, rfl, hn9, hS9⟩, hb9⟩
              have hRep9 := hRep8.up hb9
              have own9 := own_below' hown hb9
              have HS9 : Hid (∀ W, Below w9.heap.size w9 W → Sl W 0 W.heap.size 1 encI A9 n9 pts) := fun W hW => hS9.up hW (Nat.le_refl _) (Nat.le_refl _)
              have HL9 : Hid (pts.length = n9) := hS9.len
              have hn9' : n9 ≤ 64 := by have := HL9.out; omega
              clear hb9 hS9 hn9 p0 p1 pl q0 q1 q2 ql hRep7 hRep8 X7 X8 hown hbq
              go_wp2_with fail
              go_loopw [16, 85] (fun v i wp => ∃ r : Nat, r ≤ n9 ∧ i = .int .i64 (r : Int) ∧ wp.ownsRow w9.heap.size 9 1 v r (((pts.take r).map (nameL (1 - side))).flatMap encT) ∧ Below w9.heap.size w9 wp) (fun _ i _ => n9 - (intOf i).toNat)
              case atStart => exact ⟨0, by omega, rfl, World.ownsRow_nil _ _ _ _, Below.refl _ _⟩
              case round =>
                obtain ⟨r, hr, rfl, hown, hbp⟩ := hrel
                rename World => wp
                have hzp := hbp.size
                have hRepP := hRep9.up hbp
                by_cases hlt4 : r < n9
                · obtain ⟨bs, os, s, rfl, hbs, hxs, s0⟩ := (HS9.out _ hbp).in_ hlt4
                  have HLT : Hid ((pts.take (r + 1)).map (nameL (1 - side)) = (pts.take r).map (nameL (1 - side)) ++ [nameL (1 - side) s]) := by show _ = _; rw [takeSnocW hxs, List.map_append]; rfl
                  have HN := Lib.hid (HNM.out (1 - side) s wp (below_keep' hb2 hRepP.base))
                  clear hxs
                  generalize (pts.take r).map (nameL (1 - side)) = ls2 at *
                  generalize nameL (1 - side) s = nm at *
                  go_wp2_with fail
                  refine HN.out.mono ?_; rintro e wz ⟨rfl, hbz⟩
                  have own5 := own_below' hown hbz
                  have hbp5 := below_keep' hbp hbz
                  have hzp5 := hbp5.size
                  clear hbz hown hbp HN s0
                  go_wp2_with (at_builtin; refine wpList_append_own _ rfl _ _ 42 rfl w9.heap.size 9 i0 (.string ⟨#[]⟩) 1 16 Tryz.underlying42 hi hz0 hz1 hz2 rfl (by decide) _ _ _ rfl (own5.alloc _) ⟨wz.heap.size, 0, none⟩ 1 1 [.string ⟨nm.toArray⟩] rfl rfl ?c1 ?c2 ?c3 ?c4 ?c5 ?_)
                  case c1 => exact cell_list_at (by simp) _ _
                  case c2 => simp [Value.oneCell']
                  case c3 => unfold maxLen; omega
                  case c4 => omega
                  case c5 => simp; omega
                  intro v' wy hown8 hgrow _
                  have hb8 := below_row (hbp5.alloc hbp5.size (.cells #[.string ⟨nm.toArray⟩] 9)) (own5.alloc _) hgrow (Nat.le_refl _) (Nat.le_refl _)
                  clear hgrow own5 hbp5
                  go_wp2_with fail
                  exact ⟨⟨r + 1, by omega, by go_num, by rw [HLT.out, List.flatMap_append]; exact hown8, hb8⟩, by simp [intOf]; omega⟩
                · obtain rfl : r = n9 := by omega
                  rw [take_all HL9.out] at hown
                  obtain ⟨A10, c10, rfl, hc10⟩ := own_form hown
                  have ownL := own_below' own9 hbp
                  have HLP : Hid ((pts.map (nameL (1 - side))).length = r) := by show _ = _; rw [List.length_map, HL9.out]
                  generalize pts.map (nameL (1 - side)) = ls2 at *
                  have HN := Lib.hid (HNM.out side n wp (below_keep' hb2 hRepP.base))
                  have HIT := Lib.hid (fun W hW => itoa_any ((dg : Nat) : Int) W (by omega) (by omega) (hE.step (below_keep' (below_keep' hb2 hRepP.base) hW)))
                  have HJ1 : Hid (∀ W, Below wp.heap.size wp W → Calls Tryz.prog 51 #[.slice A8 q c8, .string ⟨#[44, 32]⟩] W fun e w' => e = .returned (.string ⟨(joinL [44, 32] ls).toArray⟩) ∧ Below W.heap.size W w') := fun W hW => join_any A8 q c8 ls [44, 32] W _ (own_below' ownL hW) HLL.out (by omega) (by omega)
                  have HJ2 : Hid (∀ W, Below wp.heap.size wp W → Calls Tryz.prog 51 #[.slice A10 r c10, .string ⟨#[44, 32]⟩] W fun e w' => e = .returned (.string ⟨(joinL [44, 32] ls2).toArray⟩) ∧ Below W.heap.size W w') := fun W hW => join_any A10 r c10 ls2 [44, 32] W _ (own_below' hown hW) HLP.out (by omega) (by omega)
                  generalize joinL [44, 32] ls = j1 at *
                  generalize joinL [44, 32] ls2 = j2 at *
                  generalize nameL side n = nm at *
                  generalize hds : Lib.itoa ((dg : Nat) : Int) = ds at *
                  have ha1 := add_lists (P := Tryz.prog) nm [58, 32] (by simp; omega)
                  have ha2 := add_lists (P := Tryz.prog) (nm ++ [58, 32]) ds (by simp; omega)
                  have ha3 := add_lists (P := Tryz.prog) (nm ++ [58, 32] ++ ds) [32] (by simp; omega)
                  have ha4 := add_lists (P := Tryz.prog) (nm ++ [58, 32] ++ ds ++ [32]) wd (by simp; omega)
                  have ha5 := add_lists (P := Tryz.prog) (nm ++ [58, 32] ++ ds ++ [32] ++ wd) [59, 32, 115, 116, 97, 116, 101, 115, 32] (by simp; omega)
                  have ha6 := add_lists (P := Tryz.prog) (nm ++ [58, 32] ++ ds ++ [32] ++ wd ++ [59, 32, 115, 116, 97, 116, 101, 115, 32]) j1 (by simp; omega)
                  have ha7 := add_lists (P := Tryz.prog) (nm ++ [58, 32] ++ ds ++ [32] ++ wd ++ [59, 32, 115, 116, 97, 116, 101, 115, 32] ++ j1) [59, 32, 119, 105, 116, 104, 32] (by simp; omega)
                  have ha8 := add_lists (P := Tryz.prog) (nm ++ [58, 32] ++ ds ++ [32] ++ wd ++ [59, 32, 115, 116, 97, 116, 101, 115, 32] ++ j1 ++ [59, 32, 119, 105, 116, 104, 32]) j2 (by simp; omega)
                  have ha9 := add_lists (P := Tryz.prog) (nm ++ [58, 32] ++ ds ++ [32] ++ wd ++ [59, 32, 115, 116, 97, 116, 101, 115, 32] ++ j1 ++ [59, 32, 119, 105, 116, 104, 32] ++ j2) [10] (by simp; omega)
                  have hwd := HWD.out
                  have HWL : Hid (wd.length ≤ 9) := hwl
                  obtain ⟨full, hfull⟩ : ∃ full, full = nm ++ [58, 32] ++ ds ++ [32] ++ wd ++ [59, 32, 115, 116, 97, 116, 101, 115, 32] ++ j1 ++ [59, 32, 119, 105, 116, 104, 32] ++ j2 ++ [10] := ⟨_, rfl⟩
                  have hfl : full.length ≤ 720 := by rw [hfull]; simp only [List.length_append, List.length_cons, List.length_nil]; omega
                  rw [← hfull] at ha9 HDT
                  clear hfull HWL
                  subst hwd
                  simp only [List.append_assoc, List.cons_append, List.nil_append] at ha1 ha2 ha3 ha4 ha5 ha6 ha7 ha8 ha9
                  clear hwl HWD own9 hRep9 hown ownL hbp
                  go_wp2_with fail
                  refine HN.out.mono ?_; rintro e y1 ⟨rfl, hy1⟩
                  have hR1 := hRepP.up hy1
                  go_wp2_with fail
                  refine (HIT.out _ hy1).mono ?_; rintro e y2 ⟨rfl, hy2⟩
                  have hR2 := hR1.up hy2
                  have hy12 := below_keep' hy1 hy2
                  go_wp2_with fail
                  refine (HJ1.out _ hy12).mono ?_; rintro e y3 ⟨rfl, hy3⟩
                  have hR3 := hR2.up hy3
                  have hy13 := below_keep' hy12 hy3
                  go_wp2_with fail
                  refine (HJ2.out _ hy13).mono ?_; rintro e y4 ⟨rfl, hy4⟩
                  have hR4 := hR3.up hy4
                  clear hy1 hy2 hy3 hy4 hy12 hy13 hR1 hR2 hR3 hRepP
                  go_wp2_with fail
                  refine (hR4.wstr full (by omega)).mono ?_; rintro e y5 ⟨rfl, hR5, _⟩
                  go_wp2_with fail
                  exact ⟨⟨j + 1, by omega, by go_num, by rw [HFT.out, HDT.out]; exact hR5⟩, by simp [intOf]; omega⟩
      · obtain rfl : j = nn := by omega
        rw [take_all HNL.out] at hRep
        have HH := HT
        generalize (numsG g side).flatMap (dlineT xs g side) = txt at *
        go_wp2_with fail
        refine hRep.fin.mono ?_; rintro e w5 ⟨rfl, hb5⟩
        go_wp2_with fail
        go_ret2
        exact ⟨by rw [HT.out, HD.out]; rfl, below_keep' hb2 hb5⟩
end Go.Proofs.YtdokpmfejibdlaaGreatDoor
