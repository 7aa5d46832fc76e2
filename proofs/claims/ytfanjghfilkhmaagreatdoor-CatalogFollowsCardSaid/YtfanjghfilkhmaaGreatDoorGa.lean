/- Editions in memory: entries, numbers; lists compared, numbers looked for (chapter 47). -/
import Derived.Test.YtfanjghfilkhmaaGreatDoorProg
import Derived.Test.YtfanjghfilkhmaaGreatDoorBx
import Derived.Test.YtfanjghfilkhmaaGreatDoorEk
import Derived.Deep.QuietTactic
import Derived.BigQuiet
import Derived.WalkSpells
set_option linter.unusedSimpArgs false
set_option linter.unusedVariables false
namespace Go.Proofs.YtfanjghfilkhmaaGreatDoor
open Go.RowKit

def encI (n : Int) : List Value := [.int .i64 n]
theorem encI_len (n : Int) : (encI n).length = 1 := rfl
theorem encI_one (n : Int) : ∀ v ∈ encI n, v.oneCell' = true := by intro v hv; simp only [encI, List.mem_singleton] at hv; subst hv; rfl
def encE (x : Int × Int) : List Value := [.int .i64 x.1, .int .i64 x.2]
theorem encE_len (x : Int × Int) : (encE x).length = 2 := rfl
theorem encE_one (x : Int × Int) : ∀ v ∈ encE x, v.oneCell' = true := by
  intro v hv
  simp only [encE, List.mem_cons, List.not_mem_nil, or_false] at hv
  rcases hv with rfl | rfl <;> rfl
theorem take_snocS {α : Type} {xs : List α} {k : Nat} {x : α} (h : xs[k]? = some x) : xs.take (k + 1) = xs.take k ++ [x] := by
  obtain ⟨hl, rfl⟩ := List.getElem?_eq_some_iff.1 h
  exact List.take_succ_eq_append_getElem hl
theorem mem_take_snoc {α : Type} {xs : List α} {k : Nat} {x y : α} (h : xs[k]? = some x) : y ∈ xs.take (k + 1) ↔ y ∈ xs.take k ∨ y = x := by
  rw [take_snocS h, List.mem_append, List.mem_singleton]
theorem eq_take_succ {α : Type} {xs ys : List α} {k : Nat} {x y : α} (hx : xs[k]? = some x) (hy : ys[k]? = some y) : xs.take (k + 1) = ys.take (k + 1) ↔ xs.take k = ys.take k ∧ x = y := by
  rw [take_snocS hx, take_snocS hy]
  constructor
  · intro h
    have := List.append_inj' h rfl
    exact ⟨this.1, by simpa using this.2⟩
  · rintro ⟨h, rfl⟩; rw [h]
/-- An entry's cells. -/
theorem Sl.en {w : World} {L B n : Nat} {A : Option Addr} {xs : List (Int × Int)} {i : Nat} (h : Sl w L B 2 encE A n xs) (hi : i < n) : ∃ b off x, A = some ⟨b, off, none⟩ ∧ b < B ∧ xs[i]? = some x ∧
    w.cell? ⟨b, off + i * 2, none⟩ = some (.int .i64 x.1) ∧ w.cell? ⟨b, off + i * 2 + 1, none⟩ = some (.int .i64 x.2) := by
  obtain ⟨b, off, x, h1, h0, h2, h3, h4⟩ := h.at_ hi
  exact ⟨b, off, x, h1, h2, h3, h4 0 _ rfl, h4 1 _ rfl⟩
theorem Sl.in_ {w : World} {L B n : Nat} {A : Option Addr} {xs : List Int} {i : Nat} (h : Sl w L B 1 encI A n xs) (hi : i < n) : ∃ b off x, A = some ⟨b, off, none⟩ ∧ b < B ∧ xs[i]? = some x ∧ w.cell? ⟨b, off + i, none⟩ = some (.int .i64 x) := by
  obtain ⟨b, off, x, h1, _, h2, h3, h4⟩ := Sl.one_ (enc := fun n => .int .i64 n) h hi
  exact ⟨b, off, x, h1, h2, h3, h4⟩
/-- An edition that lies in memory. -/
structure EdS (w : World) (A : Option Addr) (n : Nat) (A' : Option Addr) (n' : Nat) (e : Ed) : Prop where
  ents : Sl w 0 w.heap.size 2 encE A n e.ents
  ret : Sl w 0 w.heap.size 1 encI A' n' e.ret
theorem EdS.up {w w' : World} {A A' : Option Addr} {n n' : Nat} {e : Ed} (h : EdS w A n A' n' e) (hb : Below w.heap.size w w') : EdS w' A n A' n' e :=
  ⟨h.ents.up hb (Nat.le_refl _) (Nat.le_refl _), h.ret.up hb (Nat.le_refl _) (Nat.le_refl _)⟩
theorem EdS.none {w : World} : EdS w none 0 none 0 edZero := ⟨Sl.nil, Sl.nil⟩
theorem below_keep' {w0 w w1 : World} (h : Below w0.heap.size w0 w) (hb : Below w.heap.size w w1) : Below w0.heap.size w0 w1 := h.trans (hb.mono h.size)
theorem own_below' {w w' : World} {B e size n : Nat} {v : Value} {xs : List Value} (h : w.ownsRow B e size v n xs) (hb : Below w.heap.size w w') : w'.ownsRow B e size v n xs := by
  refine ⟨h.1, ?_⟩
  rcases h.2 with hn | ⟨g, cap, cur, rfl, hg, hgg, rest⟩
  · exact .inl hn
  · exact .inr ⟨g, cap, cur, rfl, hg, by rw [hb.block g (Array.getElem?_eq_some_iff.1 hgg).1]; exact hgg, rest⟩

theorem neEntry (x y : Int × Int) (w : World) : (binOp .neq 36 (.agg #[.int .i64 x.1, .int .i64 x.2]) (.agg #[.int .i64 y.1, .int .i64 y.2])).run Tryz.prog w = .ok (.bool (!decide (x = y))) w := by
  have u3 := Tryz.underlying3
  have hS : Tryz.prog.underlying 36 = some (.struct (Tryz.prog.fieldsOf 36)) := by kernel_rfl
  have hp : Tryz.prog.stoodInHeld 36 = false := by kernel_rfl
  have e : decide (x = y) = (x.1 == y.1 && x.2 == y.2) := by
    obtain ⟨a, b⟩ := x
    obtain ⟨c, d⟩ := y
    by_cases h1 : a = c <;> by_cases h2 : b = d <;> simp [h1, h2]
  rw [e, run_neq_struct, show (10000 : Nat) = 9999 + 1 from rfl, run_equalIn_agg w 9999 36 _ _ hS hp]
  simp only [Program.fieldsOf, Tryz.underlying36]
  go_simp
  by_cases h1 : x.1 = y.1 <;> by_cases h2 : x.2 = y.2 <;> simp [h1, h2]

set_option maxRecDepth 100000 in
set_option maxHeartbeats 1000000 in
theorem entries_any (A : Option Addr) (len cap : Nat) (xs : List (Int × Int)) (A' : Option Addr) (len' cap' : Nat) (ys : List (Int × Int)) (w : World) (hlen : len ≤ 1000000) (hlen' : len' ≤ 1000000) (hS : Sl w 0 w.heap.size 2 encE A len xs) (hS' : Sl w 0 w.heap.size 2 encE A' len' ys) :
    Calls Tryz.prog 41 #[.slice A len cap, .slice A' len' cap'] w fun e w' => e = .returned (.bool (decide (xs = ys))) ∧ Below w.heap.size w w' := by
  have hl := hS.len
  have hl' := hS'.len
  by_cases hll : len = len'
  · subst hll
    go_enter Tryz.func41, Tryz.ntmps41
    go_wp2_with fail
    go_loopw [5] (fun i wr => ∃ k : Nat, k ≤ len ∧ i = .int .i64 k ∧ xs.take k = ys.take k ∧ Below w.heap.size w wr) (fun i _ => len - (intOf i).toNat)
    case atStart => exact ⟨0, by omega, rfl, rfl, Below.refl _ _⟩
    case round =>
      obtain ⟨k, hk, rfl, hn, hb⟩ := hrel
      have HN := Lib.hid hn; clear hn
      by_cases hlt : k < len
      · obtain ⟨b, off, x, rfl, hbb, hx, c0, c1⟩ := (hS.below hb (Nat.le_refl _)).en hlt
        obtain ⟨b', off', y, rfl, hbb', hy, d0, d1⟩ := (hS'.below hb (Nat.le_refl _)).en hlt
        have HX := Lib.hid hx; clear hx
        have HY := Lib.hid hy; clear hy
        have hne := fun w => neEntry x y w
        have HS := Lib.hid hS; clear hS
        have HS' := Lib.hid hS'; clear hS'
        by_cases he : x = y
        · have hd : decide (x = y) = true := decide_eq_true he
          rw [hd] at hne
          have HE := Lib.hid he; clear he hd
          go_wp2_with fail
          go_quiet (fail)
          go_wp2_with fail
          go_roundw
          case rel => exact ⟨k + 1, by omega, by go_num, (eq_take_succ HX.out HY.out).2 ⟨HN.out, HE.out⟩, below_drewN hb _⟩
          case measure => simp [intOf]; omega
        · have hd : decide (x = y) = false := decide_eq_false he
          rw [hd] at hne
          have HE := Lib.hid he; clear he hd
          go_wp2_with fail
          go_quiet (fail)
          go_wp2_with fail
          go_ret
          refine ⟨?_, below_drewN hb _⟩
          have hxy : ¬ xs = ys := by
            rintro rfl
            exact HE.out (Option.some.inj (HX.out.symm.trans HY.out))
          simp [hxy]
      · obtain rfl : k = len := by omega
        have hn := HN.out
        rw [List.take_of_length_le (by omega), List.take_of_length_le (by omega)] at hn
        have HN2 := Lib.hid hn; clear hn HN
        go_wp2_with fail
        go_ret
        exact ⟨by simp [HN2.out], hb⟩
  · have hxy : Hid (¬ xs = ys) := by
      show ¬ xs = ys
      rintro rfl; omega
    go_enter Tryz.func41, Tryz.ntmps41
    go_wp2_with fail
    go_ret
    exact ⟨by simp [hxy.out], Below.refl _ _⟩
set_option maxRecDepth 100000 in
set_option maxHeartbeats 1000000 in
theorem ints_any (A : Option Addr) (len cap : Nat) (xs : List Int) (A' : Option Addr) (len' cap' : Nat) (ys : List Int) (w : World) (hlen : len ≤ 1000000) (hlen' : len' ≤ 1000000) (hS : Sl w 0 w.heap.size 1 encI A len xs) (hS' : Sl w 0 w.heap.size 1 encI A' len' ys) :
    Calls Tryz.prog 42 #[.slice A len cap, .slice A' len' cap'] w fun e w' => e = .returned (.bool (decide (xs = ys))) ∧ Below w.heap.size w w' := by
  have hl := hS.len
  have hl' := hS'.len
  by_cases hll : len = len'
  · subst hll
    go_enter Tryz.func42, Tryz.ntmps42
    go_wp2_with fail
    go_loopw [5] (fun i wr => ∃ k : Nat, k ≤ len ∧ i = .int .i64 k ∧ xs.take k = ys.take k ∧ Below w.heap.size w wr) (fun i _ => len - (intOf i).toNat)
    case atStart => exact ⟨0, by omega, rfl, rfl, Below.refl _ _⟩
    case round =>
      obtain ⟨k, hk, rfl, hn, hb⟩ := hrel
      have HN := Lib.hid hn; clear hn
      by_cases hlt : k < len
      · obtain ⟨b, off, x, rfl, hbb, hx, c0⟩ := (hS.below hb (Nat.le_refl _)).in_ hlt
        obtain ⟨b', off', y, rfl, hbb', hy, d0⟩ := (hS'.below hb (Nat.le_refl _)).in_ hlt
        have HX := Lib.hid hx; clear hx
        have HY := Lib.hid hy; clear hy
        have HS := Lib.hid hS; clear hS
        have HS' := Lib.hid hS'; clear hS'
        by_cases he : x = y
        · have hd : (x != y) = false := by simpa using he
          have HE := Lib.hid he; clear he
          go_wp2_with fail
          go_quiet (fail)
          go_wp2_with fail
          go_roundw
          case rel => exact ⟨k + 1, by omega, by go_num, (eq_take_succ HX.out HY.out).2 ⟨HN.out, HE.out⟩, below_drewN hb _⟩
          case measure => simp [intOf]; omega
        · have hd : (x != y) = true := by simpa using he
          have HE := Lib.hid he; clear he
          go_wp2_with fail
          go_quiet (fail)
          go_wp2_with fail
          go_ret
          refine ⟨?_, below_drewN hb _⟩
          have hxy : ¬ xs = ys := by
            rintro rfl
            exact HE.out (Option.some.inj (HX.out.symm.trans HY.out))
          simp [hxy]
      · obtain rfl : k = len := by omega
        have hn := HN.out
        rw [List.take_of_length_le (by omega), List.take_of_length_le (by omega)] at hn
        have HN2 := Lib.hid hn; clear hn HN
        go_wp2_with fail
        go_ret
        exact ⟨by simp [HN2.out], hb⟩
  · have hxy : Hid (¬ xs = ys) := by
      show ¬ xs = ys
      rintro rfl; omega
    go_enter Tryz.func42, Tryz.ntmps42
    go_wp2_with fail
    go_ret
    exact ⟨by simp [hxy.out], Below.refl _ _⟩
set_option maxRecDepth 100000 in
set_option maxHeartbeats 1000000 in
theorem has_any (A : Option Addr) (len cap : Nat) (xs : List Int) (i : Int) (w : World) (hlen : len ≤ 1000000) (hS : Sl w 0 w.heap.size 1 encI A len xs) :
    Calls Tryz.prog 39 #[.slice A len cap, .int .i64 i] w fun e w' => e = .returned (.bool (decide (i ∈ xs))) ∧ w = w' := by
  have hl := hS.len
  go_enter Tryz.func39, Tryz.ntmps39
  go_wp2_with fail
  go_loop [5] (fun s => ∃ k : Nat, k ≤ len ∧ s = .int .i64 k ∧ i ∉ xs.take k) (fun s => len - (intOf s).toNat)
  case atStart => exact ⟨0, by omega, rfl, by simp⟩
  case round =>
    obtain ⟨k, hk, rfl, hn⟩ := hrel
    have HN := Lib.hid hn; clear hn
    by_cases hlt : k < len
    · obtain ⟨b, off, x, rfl, hbb, hx, c0⟩ := hS.in_ hlt
      have HX := Lib.hid hx; clear hx
      by_cases he : x = i
      · have hd : (x == i) = true := by simpa using he
        have HD : Hid (decide (i ∈ xs) = true) := by show _ = _; rw [decide_eq_true_eq, ← he]; exact List.mem_of_getElem? HX.out
        clear he
        go_wp2_with fail
        go_ret
        exact ⟨by rw [HD.out]; rfl, rfl⟩
      · have hd : (x == i) = false := by simpa using he
        have HE := Lib.hid he; clear he
        go_wp2_with fail
        go_round
        case rel => exact ⟨k + 1, by omega, by go_num, fun h => by rcases (mem_take_snoc HX.out).1 h with h | h; exact HN.out h; exact HE.out h.symm⟩
        case measure => simp [intOf]; omega
    · obtain rfl : k = len := by omega
      have hn := HN.out
      rw [List.take_of_length_le (by omega)] at hn
      have HD : Hid (decide (i ∈ xs) = false) := decide_eq_false hn
      clear hn HN
      go_wp2_with fail
      go_ret
      exact ⟨by rw [HD.out]; rfl, rfl⟩
set_option maxRecDepth 100000 in
set_option maxHeartbeats 1000000 in
theorem editions_any (A : Option Addr) (n c : Nat) (A' : Option Addr) (n' c' : Nat) (e : Ed) (B : Option Addr) (m d : Nat) (B' : Option Addr) (m' d' : Nat) (f : Ed) (w : World) (hn : n ≤ 1000000) (hn' : n' ≤ 1000000) (hm : m ≤ 1000000) (hm' : m' ≤ 1000000) (hS : EdS w A n A' n' e) (hS' : EdS w B m B' m' f) :
    Calls Tryz.prog 15 #[.agg #[.slice A n c, .slice A' n' c'], .agg #[.slice B m d, .slice B' m' d']] w fun x w' => x = .returned (.bool (decide (e = f))) ∧ Below w.heap.size w w' := by
  have H : Hid (decide (e = f) = (decide (e.ents = f.ents) && decide (e.ret = f.ret))) := by
    show _ = _
    obtain ⟨a, b⟩ := e
    obtain ⟨c, d⟩ := f
    by_cases h1 : a = c <;> by_cases h2 : b = d <;> simp [h1, h2]
  obtain ⟨s1, s2⟩ := hS
  obtain ⟨t1, t2⟩ := hS'
  have HA : Hid (∀ W, Below w.heap.size w W → Calls Tryz.prog 41 #[.slice A n c, .slice B m d] W fun x w' => x = .returned (.bool (decide (e.ents = f.ents))) ∧ Below W.heap.size W w') := fun W hW => entries_any A n c _ B m d _ W hn hm (s1.up hW (Nat.le_refl _) (Nat.le_refl _)) (t1.up hW (Nat.le_refl _) (Nat.le_refl _))
  have HB : Hid (∀ W, Below w.heap.size w W → Calls Tryz.prog 42 #[.slice A' n' c', .slice B' m' d'] W fun x w' => x = .returned (.bool (decide (e.ret = f.ret))) ∧ Below W.heap.size W w') := fun W hW => ints_any A' n' c' _ B' m' d' _ W hn' hm' (s2.up hW (Nat.le_refl _) (Nat.le_refl _)) (t2.up hW (Nat.le_refl _) (Nat.le_refl _))
  clear s1 s2 t1 t2
  go_enter Tryz.func15, Tryz.ntmps15
  go_wp2_with fail
  refine (HA.out _ (by (repeat (first | exact Below.refl _ _ | assumption | refine Below.alloc ?_ (by first | omega | (simp only [World.size_alloc]; omega) | (simp; done) | (simp; omega)) _ | refine Below.setCell ?_ (by first | omega | (simp only [World.size_alloc]; omega) | (simp; done) | (simp; omega)) _ | refine Below.drew ?_ | refine below_drewN ?_ _)))).mono ?_
  rintro x w1 ⟨rfl, hb1⟩
  obtain ⟨_, hb, X, Y⟩ := step2 (Below.refl _ w) hb1
  clear hb1
  have X1 := X.cell 1 _ rfl
  have Y1 := Y.cell 1 _ rfl
  have Xlt := X.lt
  have Ylt := Y.lt
  cases he : decide (e.ents = f.ents)
  · have HE := Lib.hid he; clear he
    go_wp2_with fail
    go_ret
    exact ⟨by rw [H.out, HE.out]; rfl, hb⟩
  · have HE := Lib.hid he; clear he
    go_wp2_with fail
    refine (HB.out _ hb).mono ?_
    rintro x w2 ⟨rfl, hb2⟩
    (replace hb := hb.trans (hb2.mono hb.size)); clear hb2
    go_wp2_with fail
    go_ret
    exact ⟨by rw [H.out, HE.out]; rfl, hb⟩
end Go.Proofs.YtfanjghfilkhmaaGreatDoor
