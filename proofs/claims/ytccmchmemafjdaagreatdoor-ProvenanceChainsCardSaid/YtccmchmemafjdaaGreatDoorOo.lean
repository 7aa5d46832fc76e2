/- Chapter 46: the reference's Check. -/
import Derived.Test.YtccmchmemafjdaaGreatDoorOn
set_option linter.unusedSimpArgs false
set_option linter.unusedVariables false
namespace Go.Proofs.YtccmchmemafjdaaGreatDoor
open Go.RowKit

theorem LsS.two {w : World} {A : Option Addr} {n : Nat} {ls : List Lst} {i j : Nat} (h : LsS w A n ls) (hi : i < n) (hj : j < n) : ∃ b off x y, A = some ⟨b, off, none⟩ ∧ b < w.heap.size ∧ ls[i]? = some x ∧ ls[j]? = some y ∧
    w.cell? ⟨b, off + i * 2, none⟩ = some (.int .i64 x.id) ∧ w.cell? ⟨b, off + j * 2, none⟩ = some (.int .i64 y.id) ∧ (∃ u, w.cell? ⟨b, off + i * 2 + 1, none⟩ = some u) ∧ (∃ u, w.cell? ⟨b, off + j * 2 + 1, none⟩ = some u) := by
  obtain ⟨b, off, x, a, m, c, hA, hb, hx, c0, c1, _⟩ := h.at_ hi
  obtain ⟨b', off', y, a', m', c', hA', hb', hy, d0, d1, _⟩ := h.at_ hj
  rw [hA] at hA'
  simp only [Option.some.injEq, Addr.mk.injEq, and_true] at hA'
  obtain ⟨rfl, rfl⟩ := hA'
  exact ⟨b, off, x, y, hA, hb, hx, hy, c0, d0, ⟨_, c1⟩, ⟨_, d1⟩⟩
set_option maxRecDepth 100000 in
set_option maxHeartbeats 2000000 in
theorem rcheck_any (A : Option Addr) (n c : Nat) (ls : List Lst) (w : World) (hn : n ≤ 1000000) (hS : LsS w A n ls) :
    Calls Tryz.prog 22 #[.slice A n c] w fun e w' => e = .returned (.int .i64 (chkL ls)) ∧ Below w.heap.size w w' := by
  have hl := hS.len
  by_cases h64 : 64 < n
  · have HV := Lib.hid (chkL_full (l := ls) (by omega))
    clear hS hl
    go_enter Tryz.func22, Tryz.ntmps22
    go_wp2_with fail
    go_ret
    exact ⟨by rw [HV.out]; rfl, Below.refl _ _⟩
  · have HL := Lib.hid hl; clear hl
    have HS := Lib.hid hS; clear hS
    go_enter Tryz.func22, Tryz.ntmps22
    go_wp2_with fail
    go_loopw [3] (fun i wr => ∃ k : Nat, k ≤ n ∧ i = .int .i64 (k : Int) ∧ (∀ x ∈ ls.take k, validL x) ∧ Below w.heap.size w wr) (fun i _ => n - (intOf i).toNat)
    case atStart => exact ⟨0, by omega, rfl, by simp, Below.refl _ _⟩
    case round =>
      obtain ⟨k, hk, rfl, hv, hb⟩ := hrel
      have HV := Lib.hid hv; clear hv
      by_cases hlt : k < n
      · obtain ⟨b, off, x, a, m', c', rfl, hbb, hx, c0, c1, hm, hSx⟩ := (HS.out.up hb).at_ hlt
        have HX := Lib.hid hx; clear hx
        have HC := Lib.hid (rvalid_any x.id a m' c' x.sales _ hm hSx)
        clear hSx hm
        go_wp2_with fail
        go_fit HC.out
        rintro e w1 ⟨rfl, hb1⟩
        have hb1' := below_keep' hb hb1
        clear hb hb1 c0 c1 HC
        cases hxv : validB x.id x.sales
        · have HC : Hid (chkL ls = 1) := by show _ = _; exact chkL_bad (by have := HL.out; omega) (List.mem_of_getElem? HX.out) hxv
          go_wp2_with fail
          go_ret
          exact ⟨by rw [HC.out]; rfl, hb1'⟩
        · have HXV := Lib.hid (validB_of hxv); clear hxv
          go_wp2_with fail
          go_roundw
          case rel => exact ⟨k + 1, by omega, by go_num, all_take (p := fun y => validL y) HX.out HV.out HXV.out, hb1'⟩
          case measure => simp [intOf]; omega
      · obtain rfl : k = n := by omega
        have hva := HV.out
        rw [take_all HL.out] at hva
        have HVA := Lib.hid hva; clear hva HV
        go_wp2_with fail
        go_loopw [4] (fun s4 wq => ∃ i : Nat, i ≤ k ∧ s4 = .int .i64 (i : Int) ∧ (idsL (ls.take i)).Nodup ∧ Below w.heap.size w wq) (fun s4 _ => k - (intOf s4).toNat)
        case atStart => exact ⟨0, by omega, rfl, by simp [idsL], hb⟩
        case round =>
          obtain ⟨i, hi, rfl, hnd, hbq⟩ := hrel
          clear hb
          have HN := Lib.hid hnd; clear hnd
          by_cases hlt2 : i < k
          · go_wp2_with fail
            go_loopw [5] (fun s5 wq => ∃ j : Nat, j ≤ i ∧ s5 = .int .i64 (j : Int) ∧ (∀ x, ls[i]? = some x → x.id ∉ idsL (ls.take j)) ∧ Below w.heap.size w wq) (fun s5 _ => i - (intOf s5).toNat)
            case atStart => exact ⟨0, by omega, rfl, by simp [idsL], hbq⟩
            case round =>
              obtain ⟨j, hj, rfl, hd, hb⟩ := hrel
              clear hbq
              have HD := Lib.hid hd; clear hd
              by_cases hlt3 : j < i
              · obtain ⟨b, off, x, y, rfl, hbb, hx, hy, c0, d0, ⟨u, c1⟩, ⟨u', d1⟩⟩ := (HS.out.up hb).two hlt2 (show j < k by omega)
                have HX := Lib.hid hx; clear hx
                have HY := Lib.hid hy; clear hy
                by_cases he : x.id = y.id
                · have heq : (x.id == y.id) = true := by simpa using he
                  have HC : Hid (chkL ls = 8) := by
                    show _ = _
                    refine chkL_dup (by have := HL.out; omega) HVA.out (nodup_takeL (k := i + 1) ?_)
                    rw [idsL_snoc HX.out]
                    rintro ⟨_, h2⟩
                    refine h2 ?_
                    rw [he]
                    unfold idsL
                    refine List.mem_map_of_mem ?_
                    rw [List.mem_take_iff_getElem]
                    obtain ⟨h1, h2⟩ := List.getElem?_eq_some_iff.1 HY.out
                    exact ⟨j, by omega, h2⟩
                  clear he
                  go_wp2_with fail
                  go_quiet (fail)
                  go_wp2_with fail
                  go_ret
                  exact ⟨by rw [HC.out]; rfl, below_drewN hb _⟩
                · have heq : (x.id == y.id) = false := by simpa using he
                  have HNE := Lib.hid he; clear he
                  go_wp2_with fail
                  go_quiet (fail)
                  go_wp2_with fail
                  go_roundw
                  case rel =>
                    refine ⟨j + 1, by omega, by go_num, fun x' hx' => ?_, below_drewN hb _⟩
                    have : x' = x := Option.some.inj (hx'.symm.trans HX.out)
                    subst this
                    rw [mem_ids_snoc HY.out]
                    rintro (h | h)
                    · exact HNE.out h
                    · exact HD.out x' hx' h
                  case measure => simp [intOf]; omega
              · obtain rfl : j = i := by omega
                obtain ⟨b, off, x, _, hA, hbb, hx, _⟩ := (HS.out.up hb).two hlt2 hlt2
                have HX := Lib.hid hx; clear hx
                clear hbb hA
                go_wp2_with fail
                go_roundw
                case rel => exact ⟨j + 1, by omega, by go_num, (idsL_snoc HX.out).2 ⟨HN.out, HD.out x HX.out⟩, hb⟩
                case measure => simp [intOf]; omega
          · obtain rfl : i = k := by omega
            have HC : Hid (chkL ls = 0) := by
              show _ = _
              have hn := HN.out
              rw [take_all HL.out] at hn
              exact chkL_ok (by have := HL.out; omega) HVA.out hn
            go_wp2_with fail
            go_ret
            exact ⟨by rw [HC.out]; rfl, hbq⟩
end Go.Proofs.YtccmchmemafjdaaGreatDoor
