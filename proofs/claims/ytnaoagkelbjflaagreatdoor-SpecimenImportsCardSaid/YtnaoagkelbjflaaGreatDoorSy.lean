/- Import: the program's. -/
import Derived.Test.YtnaoagkelbjflaaGreatDoorSx
import Derived.Test.YtnaoagkelbjflaaGreatDoorSn
set_option linter.unusedSimpArgs false
set_option linter.unusedVariables false
namespace Go.Proofs.YtnaoagkelbjflaaGreatDoor
open Go.RowKit

def lenV : Value → Nat | .string s => s.size | _ => 0
def impCode (s : List UInt8) : Int := if 4096 < s.length then 6 else 3
theorem cut_len10 {r d m : List UInt8} {b : Bool} (h : Lib.cut r [10] = (d, m, b)) : d.length ≤ r.length ∧ (b = true → m.length < r.length) := by
  rcases first_split 10 r with h' | ⟨d', r', rfl, hd⟩
  · rw [cut_none1 10 r h'] at h
    simp only [Prod.mk.injEq] at h
    rw [← h.1, ← h.2.2]; simp
  · rw [cut_hit1 10 d' r' hd] at h
    simp only [Prod.mk.injEq] at h
    rw [← h.1, ← h.2.1]; refine ⟨by simp, fun _ => by simp; omega⟩
/-- What a text read as a list hands back. -/
def ImpOut (w : World) (s : List UInt8) (e : Ending) (w' : World) : Prop :=
  ((∃ l, ImpOk s l ∧ ∃ A n c, e = .returned (.tuple #[.slice A n c, .int .i64 0]) ∧ Sl w' w.heap.size w'.heap.size 7 encS A n l) ∨ ((∀ l, ¬ ImpOk s l) ∧ e = .returned (.tuple #[.slice none 0 0, .int .i64 (impCode s)]))) ∧ Below w.heap.size w w'
theorem imp_long {s : List UInt8} (h : 4096 < s.length) : ∀ l, ¬ ImpOk s l := fun l hl => by have := hl.short; omega
theorem parse_of_text {x : Spm} {d m m' : List UInt8} {b : Bool} (hv : validS x = true) (h : (d, m, b) = (textSp x, m', true)) : parseSp d = some x ∧ b = true := by
  simp only [Prod.mk.injEq] at h
  exact ⟨by rw [h.1]; exact parseSp_text x hv, h.2.2⟩
theorem imp_no_parse {s r d m : List UInt8} {b : Bool} {out : List Spm} (ho : ∀ x ∈ out, validS x = true) (hs : s = texts out ++ r) (hr : r ≠ []) (hc : Lib.cut r [10] = (d, m, b)) (h : parseSp d = none ∨ b = false ∨ 64 ≤ out.length) : ∀ l, ¬ ImpOk s l := fun l hl => by
  obtain ⟨x, l', _, h2, h3, h4, _⟩ := imp_step ho hs hr hl
  rw [hc] at h2
  obtain ⟨h5, h6⟩ := parse_of_text h3 h2
  rcases h with h | h | h
  · rw [h] at h5; cases h5
  · rw [h] at h6; cases h6
  · omega
theorem imp_no_order {s r d m : List UInt8} {b : Bool} {out : List Spm} {x z : Spm} (ho : ∀ x ∈ out, validS x = true) (hs : s = texts out ++ r) (hr : r ≠ []) (hc : Lib.cut r [10] = (d, m, b)) (hp : parseSp d = some x) (hz : out.getLast? = some z) (h : x.id ≤ z.id) : ∀ l, ¬ ImpOk s l := fun l hl => by
  obtain ⟨y, l', _, h2, h3, _, h5⟩ := imp_step ho hs hr hl
  rw [hc] at h2
  obtain ⟨h6, _⟩ := parse_of_text h3 h2
  rw [hp] at h6
  cases h6
  have := h5 z hz
  omega
theorem imp_done {s : List UInt8} {out : List Spm} (hl : s.length ≤ 4096) (ho : ∀ x ∈ out, validS x = true) (hw : out.Pairwise ltS) (hn : out.length ≤ 64) (hs : s = texts out ++ []) : ImpOk s out :=
  ⟨hl, (chk_zero _).2 ⟨hn, ho, lt_nodup hw⟩, hw, by rw [hs, List.append_nil]⟩

set_option maxRecDepth 100000 in
set_option maxHeartbeats 4000000 in
theorem simport_any (s : List UInt8) (w : World) (hE : Env w) (hlen : s.length ≤ 1000000) :
    Calls Tryz.prog 31 #[.string ⟨s.toArray⟩] w (ImpOut w s) := by
  by_cases hlong : 4096 < s.length
  · have HO : Hid (∀ l, ¬ ImpOk s l) := imp_long hlong
    have HC : Hid (impCode s = 6) := by show _ = _; unfold impCode; rw [if_pos hlong]
    go_enter Tryz.func31, Tryz.ntmps31
    go_wp2_with fail
    go_ret2
    exact ⟨.inr ⟨HO.out, by rw [HC.out]; rfl⟩, Below.refl _ _⟩
  · have HC : Hid (impCode s = 3) := by show _ = _; unfold impCode; rw [if_neg hlong]
    have hl : s.length ≤ 4096 := by omega
    have hE' := Lib.hid hE; clear hE
    obtain ⟨i0, hi0, hz0, hz1, hz2⟩ := info_parts Tryz.infoS
    go_enter Tryz.func31, Tryz.ntmps31
    go_wp2_with fail
    go_loopw [4, 5] (fun v rv wr => ∃ (out : List Spm) (r : List UInt8), rv = .string ⟨r.toArray⟩ ∧ s = texts out ++ r ∧ (∀ x ∈ out, validS x = true) ∧ out.Pairwise ltS ∧ out.length ≤ 64 ∧ wr.ownsRow w.heap.size 23 7 v out.length (out.flatMap encS) ∧ Below w.heap.size w wr) (fun _ rv _ => lenV rv)
    case atStart => exact ⟨[], s, rfl, by simp [texts], by simp, List.Pairwise.nil, by simp, World.ownsRow_nil _ _ _ _, Below.refl _ _⟩
    case round =>
      obtain ⟨out, r, rfl, hs, hv, hpw, hol, hown, hb⟩ := hrel
      have HS := Lib.hid hs; have HV := Lib.hid hv; have HPW := Lib.hid hpw
      clear hs hv hpw
      have hzr : w.heap.size ≤ wr.heap.size := hb.size
      have hrl : r.length ≤ 4096 := by have := congrArg List.length HS.out; rw [List.length_append] at this; omega
      by_cases hr : r = []
      · subst hr
        have HI : Hid (ImpOk s out) := imp_done hl HV.out HPW.out hol HS.out
        obtain ⟨A0, c0, rfl, _⟩ := own_form hown
        have hSo := Sl.of_own (enc := encS) encS_len hown rfl
        clear hown
        go_wp2_with fail
        go_ret2
        exact ⟨.inl ⟨out, HI.out, A0, _, c0, rfl, hSo⟩, hb⟩
      · have hne : r.isEmpty = false := by simpa using hr
        have HR := Lib.hid hr; clear hr
        have HEW : Hid (Env wr) := hE'.out.step hb
        go_wp2_with fail
        refine (cutL r [10] wr (by omega) HEW.out).mono ?_; rintro e w1 ⟨rfl, hb1⟩
        obtain ⟨d, m, b, hcut⟩ : ∃ d m b, Lib.cut r [10] = (d, m, b) := ⟨_, _, _, rfl⟩
        rw [hcut]
        obtain ⟨hdl, hml⟩ := cut_len10 hcut
        have HCUT := Lib.hid hcut; clear hcut
        have HML := Lib.hid hml; clear hml
        have hown1 := own_below' hown hb1
        have hbw1 := hb.trans (hb1.mono hb.size)
        have HE1 : Hid (Env w1) := HEW.out.step hb1
        clear hown hb1 hb
        go_wp2_with fail
        refine (sparse_any d w1 (by omega) HE1.out).mono ?_; rintro e w2 ⟨rfl, hb2⟩
        have hown2 := own_below' hown1 hb2
        have hb := hbw1.trans (hb2.mono hbw1.size)
        clear hown1 hb2 hbw1
        have hz2' : w.heap.size ≤ w2.heap.size := hb.size
        cases hp : parseSp d with
        | none =>
          rw [parseSpV_none hp]
          have HN : Hid (∀ l, ¬ ImpOk s l) := imp_no_parse HV.out HS.out HR.out HCUT.out (.inl hp)
          clear hp
          go_wp2_with fail
          go_ret2
          exact ⟨.inr ⟨HN.out, by rw [HC.out]; rfl⟩, hb.alloc hz2' _⟩
        | some x =>
          rw [parseSpV_some hp]
          have HP := Lib.hid hp; clear hp
          cases b with
          | false =>
            have HN : Hid (∀ l, ¬ ImpOk s l) := imp_no_parse HV.out HS.out HR.out HCUT.out (.inr (.inl rfl))
            go_wp2_with fail
            go_ret2
            exact ⟨.inr ⟨HN.out, by rw [HC.out]; rfl⟩, hb.alloc hz2' _⟩
          | true =>
            by_cases h64 : 64 ≤ out.length
            · have HN : Hid (∀ l, ¬ ImpOk s l) := imp_no_parse HV.out HS.out HR.out HCUT.out (.inr (.inr h64))
              obtain ⟨A0, c0, rfl, _⟩ := own_form hown2
              have h6 : ((out.length : Int) == 64) = true := by simp; omega
              go_wp2_with fail
              go_ret2
              exact ⟨.inr ⟨HN.out, by rw [HC.out]; rfl⟩, hb.alloc hz2' _⟩
            · have h6 : ((out.length : Int) == 64) = false := by simp; omega
              have HXV : Hid (validS x = true) := (parseSp_some HP.out).1
              have hs' := imp_go HS.out HCUT.out HP.out
              have HS' := Lib.hid hs'; clear hs'
              rcases List.eq_nil_or_concat out with rfl | ⟨o, z, rfl⟩
              · obtain ⟨A0, c0, rfl, _⟩ := own_form hown2
                simp only [List.length_nil] at hown2 h6 ⊢
                go_wp2_with fail
                go_quiet (fail)
                go_wp2_with (at_builtin; refine wpList_append_own _ rfl _ _ 31 rfl w.heap.size 23 i0 (.agg #[.int .i64 0, .int .i64 0, .int .i64 0, .int .i64 0, .int .i64 0, .int .i64 0, .int .i64 0]) 7 56 Tryz.underlying31 hi0 hz0 hz1 hz2 rfl (by decide) _ _ _ rfl (ownsRow_drewN ((hown2.alloc _).alloc _) _) ⟨w2.heap.size + 1, 0, none⟩ 1 1 (encS x) rfl rfl ?c1 (encS_one x) ?c3 ?c4 ?c5 ?_)
                case c1 => exact cell_list_at (by simp) _ _
                case c3 => unfold maxLen; omega
                case c4 => omega
                case c5 => simp; omega
                · intro v' w4 hown' hgrow _
                  have hb4 : Below w.heap.size w w4 := Below.grown (Below.alloc (below_drewN (hb.alloc hz2' _) _) (by simp; omega) _) hgrow (by simp; omega) (fun g hg => (hown2.lt g hg).1)
                  clear hgrow hown2 hb
                  go_wp2_with fail
                  go_roundw
                  case rel =>
                    refine ⟨_, m, rfl, HS'.out, ?_, pairwise_snoc HPW.out ?_, ?_, ?_, hb4⟩
                    · intro y hy
                      rcases List.mem_append.1 hy with h | h
                      · exact HV.out y h
                      · rw [List.mem_singleton] at h; subst h; exact HXV.out
                    · intro y hy; simp at hy
                    · first | (simp; done) | (simp at h64 ⊢; omega)
                    · rw [List.flatMap_append, List.length_append]; simpa using hown'
                  case measure =>
                    have := HML.out (by trivial)
                    simp [lenV, ByteArray.size]; omega
              · rw [List.concat_eq_append] at *
                have hlen' : (o ++ [z]).length = o.length + 1 := by simp
                have hzl : (o ++ [z]).getLast? = some z := by simp
                have h64' : o.length + 1 < 64 := by rw [hlen'] at h64; omega
                rw [hlen'] at hown2 h6
                obtain ⟨g, cq, hv⟩ := ownsRow_succ hown2
                subst hv
                have hf : ((o ++ [z]).flatMap encS)[o.length * 7 + 0]? = some (.int .i64 z.id) := flat_at encS_len (o ++ [z]) o.length z 0 _ (by simp) rfl
                have hcz : w2.cell? ⟨g, o.length * 7, none⟩ = some (.int .i64 z.id) := (hown2.cellAt _ (by omega)).trans hf
                clear hf
                have hgl := hown2.lt g rfl
                have hgl2 : g < w2.heap.size := hgl.2
                have i0' : (0 : Int) ≤ (o.length : Int) := by omega
                have i1' : (o.length : Int) < (o.length : Int) + 1 := by omega
                by_cases hzx : x.id ≤ z.id
                · have HN : Hid (∀ l, ¬ ImpOk s l) := imp_no_order HV.out HS.out HR.out HCUT.out HP.out hzl hzx
                  go_wp2_with fail
                  go_quiet (fail)
                  go_wp2_with fail
                  go_ret2
                  exact ⟨.inr ⟨HN.out, by rw [HC.out]; rfl⟩, below_drewN (hb.alloc hz2' _) _⟩
                · have HLT : Hid (z.id < x.id) := by show _ < _; omega
                  go_wp2_with fail
                  go_quiet (fail)
                  go_wp2_with (at_builtin; refine wpList_append_own _ rfl _ _ 31 rfl w.heap.size 23 i0 (.agg #[.int .i64 0, .int .i64 0, .int .i64 0, .int .i64 0, .int .i64 0, .int .i64 0, .int .i64 0]) 7 56 Tryz.underlying31 hi0 hz0 hz1 hz2 rfl (by decide) _ _ _ rfl (ownsRow_drewN ((hown2.alloc _).alloc _) _) ⟨w2.heap.size + 1, 0, none⟩ 1 1 (encS x) rfl rfl ?c1 (encS_one x) ?c3 ?c4 ?c5 ?_)
                  case c1 => exact cell_list_at (by simp) _ _
                  case c3 => unfold maxLen; omega
                  case c4 => omega
                  case c5 => simp; omega
                  · intro v' w4 hown' hgrow _
                    have hb4 : Below w.heap.size w w4 := Below.grown (Below.alloc (below_drewN (hb.alloc hz2' _) _) (by simp; omega) _) hgrow (by simp; omega) (fun g hg => (hown2.lt g hg).1)
                    clear hgrow hown2 hb
                    go_wp2_with fail
                    go_roundw
                    case rel =>
                      refine ⟨_, m, rfl, HS'.out, ?_, pairwise_snoc HPW.out ?_, ?_, ?_, hb4⟩
                      · intro y hy
                        rcases List.mem_append.1 hy with h | h
                        · exact HV.out y h
                        · rw [List.mem_singleton] at h; subst h; exact HXV.out
                      · intro y hy; rw [hzl] at hy; cases hy; exact HLT.out
                      · first | (simp; done) | (simp at h64 ⊢; omega)
                      · rw [List.flatMap_append, List.length_append]; simpa using hown'
                    case measure =>
                      have := HML.out (by trivial)
                      simp [lenV, ByteArray.size]; omega
end Go.Proofs.YtnaoagkelbjflaaGreatDoor
