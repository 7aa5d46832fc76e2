
/- The error of a list: the base's and the program's Check. -/
import Derived.Test.YtdokpmfejibdlaaGreatDoorSs
import Derived.Test.YtdokpmfejibdlaaGreatDoorS5d
import Derived.Test.YtdokpmfejibdlaaGreatDoorBx
import Derived.Test.YtdokpmfejibdlaaGreatDoorMb
import Derived.Deep.QuietTactic
import Derived.BigQuiet
set_option linter.unusedSimpArgs false
set_option linter.unusedVariables false
namespace Go.Proofs.YtdokpmfejibdlaaGreatDoor
open Go.RowKit

/-- A row's element, cell by cell. -/
theorem Sl.sp {w : World} {L B n : Nat} {A : Option Addr} {xs : List Spm} {i : Nat} (h : Sl w L B 7 encS A n xs) (hi : i < n) : ∃ b off x, A = some ⟨b, off, none⟩ ∧ b < B ∧ xs[i]? = some x ∧
    w.cell? ⟨b, off + i * 7, none⟩ = some (.int .i64 x.id) ∧ w.cell? ⟨b, off + i * 7 + 1, none⟩ = some (.int .i64 x.obv) ∧ w.cell? ⟨b, off + i * 7 + 2, none⟩ = some (.int .i64 x.rev) ∧ w.cell? ⟨b, off + i * 7 + 3, none⟩ = some (.int .i64 x.os) ∧
    w.cell? ⟨b, off + i * 7 + 4, none⟩ = some (.int .i64 x.rs) ∧ w.cell? ⟨b, off + i * 7 + 5, none⟩ = some (.int .i64 x.ax) ∧ w.cell? ⟨b, off + i * 7 + 6, none⟩ = some (.int .i64 x.wt) := by
  obtain ⟨b, off, x, h1, h0, h2, h3, h4⟩ := h.at_ hi
  exact ⟨b, off, x, h1, h2, h3, h4 0 _ rfl, h4 1 _ rfl, h4 2 _ rfl, h4 3 _ rfl, h4 4 _ rfl, h4 5 _ rfl, h4 6 _ rfl⟩
theorem below_keep' {w0 w w1 : World} (h : Below w0.heap.size w0 w) (hb : Below w.heap.size w w1) : Below w0.heap.size w0 w1 := h.trans (hb.mono h.size)
theorem chk_full {l : List Spm} (h : 64 < l.length) : chk l = 6 := by unfold chk; rw [if_pos h]
theorem chk_bad {l : List Spm} (h : l.length ≤ 64) {x : Spm} (hx : x ∈ l) (hv : validS x = false) : chk l = 1 := by
  unfold chk
  rw [if_neg (by omega), if_neg]
  intro h2
  rw [List.all_eq_true] at h2
  rw [h2 x hx] at hv; cases hv
theorem chk_dup {l : List Spm} (h : l.length ≤ 64) (hv : ∀ x ∈ l, validS x = true) (hn : ¬ (idsOf l).Nodup) : chk l = 8 := by
  unfold chk
  rw [if_neg (by omega), if_pos (List.all_eq_true.2 hv), if_neg hn]
theorem chk_ok {l : List Spm} (h : l.length ≤ 64) (hv : ∀ x ∈ l, validS x = true) (hn : (idsOf l).Nodup) : chk l = 0 := (chk_zero l).2 ⟨h, hv, hn⟩
theorem mem_take_snoc {α : Type} {xs : List α} {k : Nat} {x y : α} (h : xs[k]? = some x) : y ∈ xs.take (k + 1) ↔ y ∈ xs.take k ∨ y = x := by
  rw [take_snocS h, List.mem_append, List.mem_singleton]
theorem ids_snoc {xs : List Spm} {k : Nat} {x : Spm} (h : xs[k]? = some x) : (idsOf (xs.take (k + 1))).Nodup ↔ (idsOf (xs.take k)).Nodup ∧ ∀ y ∈ xs.take k, y.id ≠ x.id := by
  rw [take_snocS h]
  unfold idsOf
  rw [List.map_append, List.nodup_append]
  constructor
  · rintro ⟨h1, _, h3⟩
    exact ⟨h1, fun y hy e => h3 y.id (List.mem_map_of_mem hy) x.id (by simp) e⟩
  · rintro ⟨h1, h2⟩
    refine ⟨h1, by simp, fun a ha b hb e => ?_⟩
    obtain ⟨y, hy, rfl⟩ := List.mem_map.1 ha
    simp only [List.map_cons, List.map_nil, List.mem_singleton] at hb
    exact h2 y hy (by rw [e, hb])
theorem nodup_take {xs : List Spm} {k : Nat} (h : ¬ (idsOf (xs.take k)).Nodup) : ¬ (idsOf xs).Nodup := fun h2 => h (by
  unfold idsOf at *
  rw [List.map_take]
  exact h2.sublist (List.take_sublist _ _))

set_option maxRecDepth 100000 in
set_option maxHeartbeats 2000000 in
theorem bcheck_any (A : Option Addr) (len cap : Nat) (xs : List Spm) (w : World) (hlen : len ≤ 1000000) (hS : Sl w 0 w.heap.size 7 encS A len xs) :
    Calls Tryz.prog 24 #[.slice A len cap] w fun e w' => e = .returned (.int .i64 (chk xs)) ∧ Below w.heap.size w w' := by
  have hl := hS.len
  by_cases h64 : 64 < len
  · have HV := Lib.hid (chk_full (l := xs) (by omega))
    clear hS hl
    go_enter Tryz.func24, Tryz.ntmps24
    go_wp2_with fail
    go_ret
    exact ⟨by rw [HV.out]; rfl, Below.refl _ _⟩
  · have HL := Lib.hid hl; clear hl
    go_enter Tryz.func24, Tryz.ntmps24
    go_wp2_with fail
    go_loopw [3] (fun i wr => ∃ k : Nat, k ≤ len ∧ i = .int .i64 (k : Int) ∧ (∀ x ∈ xs.take k, validS x = true) ∧ Below w.heap.size w wr) (fun i _ => len - (intOf i).toNat)
    case atStart => exact ⟨0, by omega, rfl, by simp, Below.refl _ _⟩
    case round =>
      obtain ⟨k, hk, rfl, hv, hb⟩ := hrel
      have HV := Lib.hid hv; clear hv
      have hSr := hS.below hb (Nat.le_refl _)
      have HS := Lib.hid hS; clear hS
      by_cases hlt : k < len
      · obtain ⟨b, off, x, rfl, hbb, hx, c0, c1, c2, c3, c4, c5, c6⟩ := hSr.sp hlt
        clear hSr
        have HX := Lib.hid hx; clear hx
        go_wp2_with fail
        refine (bspecb_any x _).mono ?_; rintro e w1 ⟨rfl, hb1⟩
        have hb1' := below_keep' hb hb1
        clear hb hb1 c0 c1 c2 c3 c4 c5 c6
        cases hxv : validS x
        · have HC : Hid (chk xs = 1) := by show _ = _; exact chk_bad (by have := HL.out; omega) (List.mem_of_getElem? HX.out) hxv
          go_wp2_with fail
          go_ret
          exact ⟨by rw [HC.out]; rfl, hb1'⟩
        · have HXV := Lib.hid hxv; clear hxv
          go_wp2_with fail
          go_roundw
          case rel =>
            refine ⟨k + 1, by omega, by go_num, fun y hy => ?_, hb1'⟩
            rcases (mem_take_snoc HX.out).1 hy with h | rfl
            · exact HV.out y h
            · exact HXV.out
          case measure => simp [intOf]; omega
      · obtain rfl : k = len := by omega
        have hva := HV.out
        rw [List.take_of_length_le (by have := HL.out; omega)] at hva
        have HVA := Lib.hid hva; clear hva HV
        go_wp2_with fail
        clear hSr
        go_loopw [4] (fun s4 wq => ∃ i : Nat, i ≤ k ∧ s4 = .int .i64 (i : Int) ∧ (idsOf (xs.take i)).Nodup ∧ Below w.heap.size w wq) (fun s4 _ => k - (intOf s4).toNat)
        case atStart => exact ⟨0, by omega, rfl, by simp [idsOf], hb⟩
        case round =>
          obtain ⟨i, hi, rfl, hn, hbq⟩ := hrel
          clear hb
          have HN := Lib.hid hn; clear hn
          by_cases hlt2 : i < k
          · go_wp2_with fail
            go_loopw [5] (fun s5 wq => ∃ j : Nat, j ≤ i ∧ s5 = .int .i64 (j : Int) ∧ (∀ y ∈ xs.take j, ∀ x, xs[i]? = some x → y.id ≠ x.id) ∧ Below w.heap.size w wq) (fun s5 _ => i - (intOf s5).toNat)
            case atStart => exact ⟨0, by omega, rfl, by simp, hbq⟩
            case round =>
              obtain ⟨j, hj, rfl, hd, hb⟩ := hrel
              clear hbq
              have HD := Lib.hid hd; clear hd
              obtain ⟨b, off, x, hA, hbb, hx, c0, _⟩ := (HS.out.below hb (Nat.le_refl _)).sp hlt2
              by_cases hlt3 : j < i
              · obtain ⟨b', off', y, hA', hbb', hy, d0, _⟩ := (HS.out.below hb (Nat.le_refl _)).sp (show j < k by omega)
                subst hA
                simp only [Option.some.injEq, Addr.mk.injEq, and_true] at hA'
                obtain ⟨rfl, rfl⟩ := hA'
                have HX := Lib.hid hx; clear hx
                have HY := Lib.hid hy; clear hy
                by_cases he : x.id = y.id
                · have heq : (x.id == y.id) = true := by simpa using he
                  have HC : Hid (chk xs = 8) := by
                    show _ = _
                    refine chk_dup (by have := HL.out; omega) HVA.out (nodup_take (k := i + 1) ?_)
                    rw [ids_snoc HX.out]
                    rintro ⟨_, h2⟩
                    refine h2 y ?_ he.symm
                    rw [List.mem_take_iff_getElem]
                    obtain ⟨h1, h2⟩ := List.getElem?_eq_some_iff.1 HY.out
                    exact ⟨j, by omega, h2⟩
                  clear he
                  go_wp2_with fail
                  go_quiet (fail)
                  go_wp2_with fail
                  go_ret
                  exact ⟨by rw [HC.out]; rfl, below_drewN hb _⟩
                · have heq : (x.id == y.id) = false := by simpa using he
                  have HNE := Lib.hid he; clear he
                  go_wp2_with fail
                  go_quiet (fail)
                  go_wp2_with fail
                  go_roundw
                  case rel =>
                    refine ⟨j + 1, by omega, by go_num, fun z hz x' hx' => ?_, below_drewN hb _⟩
                    have : x' = x := Option.some.inj (hx'.symm.trans HX.out)
                    subst this
                    rcases (mem_take_snoc HY.out).1 hz with h | rfl
                    · exact HD.out z h x' hx'
                    · exact fun e => HNE.out e.symm
                  case measure => simp [intOf]; omega
              · obtain rfl : j = i := by omega
                have HX := Lib.hid hx; clear hx
                clear c0 hbb hA
                go_wp2_with fail
                go_roundw
                case rel => exact ⟨j + 1, by omega, by go_num, (ids_snoc HX.out).2 ⟨HN.out, fun y hy => HD.out y hy x HX.out⟩, hb⟩
                case measure => simp [intOf]; omega
          · obtain rfl : i = k := by omega
            have HC : Hid (chk xs = 0) := by
              show _ = _
              have hn := HN.out
              rw [List.take_of_length_le (by have := HL.out; omega)] at hn
              exact chk_ok (by have := HL.out; omega) HVA.out hn
            go_wp2_with fail
            go_ret
            exact ⟨by rw [HC.out]; rfl, hbq⟩
theorem valid_in64 {x : Spm} (h : validS x = true) : in64 x.id := by
  obtain ⟨_, _, _, _, h5, _⟩ := (validS_iff x).1 h
  unfold in64; omega
def idIn (xs : List Spm) (k : Nat) (i : Int) : Bool := (xs.take k).any (fun y => y.id == i)
theorem idIn_snoc {xs : List Spm} {k : Nat} {x : Spm} (h : xs[k]? = some x) : idIn xs (k + 1) = fun i => if i = x.id then true else idIn xs k i := by
  funext i
  unfold idIn
  rw [take_snocS h, List.any_append]
  by_cases e : i = x.id
  · rw [if_pos e]; simp [e]
  · rw [if_neg e]
    have : (x.id == i) = false := by simpa using fun h => e h.symm
    simp [this]
theorem idIn_dup {xs : List Spm} {k : Nat} {x : Spm} (h : xs[k]? = some x) : decide (¬ (idsOf (xs.take (k + 1))).Nodup) = (decide (¬ (idsOf (xs.take k)).Nodup) || idIn xs k x.id) := by
  rw [Bool.eq_iff_iff]
  simp only [decide_eq_true_eq, Bool.or_eq_true, ids_snoc h, Classical.not_and_iff_not_or_not]
  have : (¬ ∀ y ∈ xs.take k, y.id ≠ x.id) ↔ idIn xs k x.id = true := by
    unfold idIn
    rw [List.any_eq_true]
    constructor
    · intro h2
      simp only [ne_eq, Classical.not_forall, Classical.not_not] at h2
      obtain ⟨y, hy, e⟩ := h2
      exact ⟨y, hy, by simpa using e⟩
    · rintro ⟨y, hy, e⟩ h2
      exact h2 y hy (by simpa using e)
  rw [this]

set_option maxRecDepth 100000 in
set_option maxHeartbeats 2000000 in
theorem scheck_any (A : Option Addr) (len cap : Nat) (xs : List Spm) (w : World) (hlen : len ≤ 1000000) (hS : Sl w 0 w.heap.size 7 encS A len xs) :
    Calls Tryz.prog 90 #[.slice A len cap] w fun e w' => e = .returned (.int .i64 (chk xs)) ∧ Below w.heap.size w w' := by
  have hl := hS.len
  by_cases h64 : 64 < len
  · have HV := Lib.hid (chk_full (l := xs) (by omega))
    clear hS hl
    go_enter Tryz.func90, Tryz.ntmps90
    go_wp2_with fail
    go_ret
    exact ⟨by rw [HV.out]; rfl, Below.refl _ _⟩
  · have HL := Lib.hid hl; clear hl
    have hmm := @run_makeMap Tryz.prog
    go_enter Tryz.func90, Tryz.ntmps90
    go_wp2_with fail
    clear hmm
    go_loopw [4, 13] (fun s4 i wr => ∃ k : Nat, k ≤ len ∧ i = .int .i64 (k : Int) ∧ s4 = .bool (decide (¬ (idsOf (xs.take k)).Nodup)) ∧ (∀ x ∈ xs.take k, validS x = true) ∧ MapB wr w.heap.size k (idIn xs k) ∧ Below w.heap.size w wr) (fun _ i _ => len - (intOf i).toNat)
    case atStart => exact ⟨0, by omega, rfl, by simp [idsOf], by simp, MapB.made w, by (repeat (first | exact Below.refl _ _ | assumption | refine Below.alloc ?_ (by first | omega | (simp only [World.size_alloc]; omega) | (simp; done) | (simp; omega)) _ | refine Below.setCell ?_ (by first | omega | (simp only [World.size_alloc]; omega) | (simp; done) | (simp; omega)) _ | refine Below.drew ?_ | refine below_drewN ?_ _))⟩
    case round =>
      obtain ⟨k, hk, rfl, rfl, hv, hM, hb⟩ := hrel
      have HV := Lib.hid hv; clear hv
      by_cases hlt : k < len
      · obtain ⟨b, off, x, rfl, hbb, hx, c0, c1, c2, c3, c4, c5, c6⟩ := (hS.below hb (Nat.le_refl _)).sp hlt
        have HS := Lib.hid hS; clear hS
        have HX := Lib.hid hx; clear hx
        have HD := Lib.hid (idIn_dup HX.out)
        generalize decide (¬ (idsOf (xs.take k)).Nodup) = tw at *
        have HM := Lib.hid hM; clear hM
        go_wp2_with fail
        refine (svalidb_any x _).mono ?_; rintro e w1 ⟨rfl, hb1⟩
        have hbs : Below wr.heap.size wr w1 := (one_alloc wr _).trans (hb1.mono (by simp))
        have P := (Bx.new wr [.int .i64 x.id, .int .i64 x.obv, .int .i64 x.rev, .int .i64 x.os, .int .i64 x.rs, .int .i64 x.ax, .int .i64 x.wt] 34).up hb1
        have hM1 := HM.out.up hbs
        have hb1' := below_keep' hb hbs
        clear hb hb1 c0 c1 c2 c3 c4 c5 c6 hbs HM
        have hBw : ¬ wr.heap.size = w.heap.size ∨ True := .inr trivial
        clear hBw
        cases hxv : validS x
        · have HC : Hid (chk xs = 1) := by show _ = _; exact chk_bad (by have := HL.out; omega) (List.mem_of_getElem? HX.out) hxv
          go_wp2_with fail
          go_ret
          exact ⟨by rw [HC.out]; rfl, hb1'⟩
        · have HXV := Lib.hid hxv; clear hxv
          have h64x := valid_in64 HXV.out
          have hlook := hM1.look h64x
          have P0 := P.cell 0 _ rfl; have Plt := P.lt
          have hfin : ∀ w2, MapB w2 w.heap.size (k + 1) (fun j => if j = x.id then true else idIn xs k j) → w1.grownBy w2 (some w.heap.size) → MapB w2 w.heap.size (k + 1) (idIn xs (k + 1)) ∧ Below w.heap.size w w2 := fun w2 h1 h2 =>
            ⟨by rw [idIn_snoc HX.out]; exact h1, below_of_map hb1' h2 (Nat.le_refl _) (Nat.le_refl _)⟩
          have HF := Lib.hid hfin; clear hfin
          have hva : ∀ y ∈ xs.take (k + 1), validS y = true := fun y hy => by
            rcases (mem_take_snoc HX.out).1 hy with h | rfl
            · exact HV.out y h
            · exact HXV.out
          have HVA := Lib.hid hva; clear hva
          have HH64 := Lib.hid h64x; clear h64x
          have HM1 := Lib.hid hM1; clear hM1
          cases tw
          all_goals
            go_wp2_with (at_mapUpdate; refine wpList_mapB rfl _ _ _ rfl w.heap.size k _ rfl HM1.out (by unfold maxLen; omega) x.id HH64.out true rfl rfl ?_; intro w2 hM2 hgr)
            obtain ⟨hM3, hb3⟩ := HF.out w2 hM2 hgr
            clear hM2 hgr
            go_wp2_with fail
            go_roundw
            case rel => exact ⟨k + 1, by omega, by go_num, by rw [HD.out]; rfl, HVA.out, hM3, hb3⟩
            case measure => simp [intOf]; omega
      · obtain rfl : k = len := by omega
        have hva := HV.out
        rw [List.take_of_length_le (by have := HL.out; omega)] at hva
        have HVA := Lib.hid hva; clear hva HV
        rw [List.take_of_length_le (by have := HL.out; omega)]
        by_cases hn : (idsOf xs).Nodup
        · have HC : Hid (chk xs = 0) := by show _ = _; exact chk_ok (by have := HL.out; omega) HVA.out hn
          have hd : decide (¬ (idsOf xs).Nodup) = false := by simpa using hn
          rw [hd]
          clear hn hd
          go_wp2_with fail
          go_ret
          exact ⟨by rw [HC.out]; rfl, hb⟩
        · have HC : Hid (chk xs = 8) := by show _ = _; exact chk_dup (by have := HL.out; omega) HVA.out hn
          have hd : decide (¬ (idsOf xs).Nodup) = true := by simpa using hn
          rw [hd]
          clear hn hd
          go_wp2_with fail
          go_ret
          exact ⟨by rw [HC.out]; rfl, hb⟩
end Go.Proofs.YtdokpmfejibdlaaGreatDoor
