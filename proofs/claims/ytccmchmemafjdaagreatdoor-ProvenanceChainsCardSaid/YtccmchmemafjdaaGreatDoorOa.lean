/- Chapter 46 in memory: sales, listings, lists of numbers; compared as the checker's base does. -/
import Derived.Test.YtccmchmemafjdaaGreatDoorProg
import Derived.Test.YtccmchmemafjdaaGreatDoorBx
import Derived.Test.YtccmchmemafjdaaGreatDoorNd
import Derived.Deep.QuietTactic
import Derived.BigQuiet
import Derived.WalkSpells
set_option linter.unusedSimpArgs false
set_option linter.unusedVariables false
namespace Go.Proofs.YtccmchmemafjdaaGreatDoor
open Go.RowKit

def encI (n : Int) : List Value := [.int .i64 n]
theorem encI_len (n : Int) : (encI n).length = 1 := rfl
theorem encI_one (n : Int) : ∀ v ∈ encI n, v.oneCell' = true := by intro v hv; simp only [encI, List.mem_singleton] at hv; subst hv; rfl
def encE (x : Int × Int) : List Value := [.int .i64 x.1, .int .i64 x.2]
theorem encE_len (x : Int × Int) : (encE x).length = 2 := rfl
theorem encE_one (x : Int × Int) : ∀ v ∈ encE x, v.oneCell' = true := by
  intro v hv
  simp only [encE, List.mem_cons, List.not_mem_nil, or_false] at hv
  rcases hv with rfl | rfl <;> rfl
def encS (s : Sal) : List Value := [.int .i64 s.y, .int .i64 s.h, .int .i64 s.l]
theorem encS_len (s : Sal) : (encS s).length = 3 := rfl
theorem encS_one (s : Sal) : ∀ v ∈ encS s, v.oneCell' = true := by
  intro v hv
  simp only [encS, List.mem_cons, List.not_mem_nil, or_false] at hv
  rcases hv with rfl | rfl | rfl <;> rfl
theorem take_snocS {α : Type} {xs : List α} {k : Nat} {x : α} (h : xs[k]? = some x) : xs.take (k + 1) = xs.take k ++ [x] := by
  obtain ⟨hl, rfl⟩ := List.getElem?_eq_some_iff.1 h
  exact List.take_succ_eq_append_getElem hl
theorem mem_take_snoc {α : Type} {xs : List α} {k : Nat} {x y : α} (h : xs[k]? = some x) : y ∈ xs.take (k + 1) ↔ y ∈ xs.take k ∨ y = x := by
  rw [take_snocS h, List.mem_append, List.mem_singleton]
theorem eq_take_succ {α : Type} {xs ys : List α} {k : Nat} {x y : α} (hx : xs[k]? = some x) (hy : ys[k]? = some y) : xs.take (k + 1) = ys.take (k + 1) ↔ xs.take k = ys.take k ∧ x = y := by
  rw [take_snocS hx, take_snocS hy]
  constructor
  · intro h
    have := List.append_inj' h rfl
    exact ⟨this.1, by simpa using this.2⟩
  · rintro ⟨h, rfl⟩; rw [h]
theorem Sl.en {w : World} {L B n : Nat} {A : Option Addr} {xs : List (Int × Int)} {i : Nat} (h : Sl w L B 2 encE A n xs) (hi : i < n) : ∃ b off x, A = some ⟨b, off, none⟩ ∧ b < B ∧ xs[i]? = some x ∧
    w.cell? ⟨b, off + i * 2, none⟩ = some (.int .i64 x.1) ∧ w.cell? ⟨b, off + i * 2 + 1, none⟩ = some (.int .i64 x.2) := by
  obtain ⟨b, off, x, h1, h0, h2, h3, h4⟩ := h.at_ hi
  exact ⟨b, off, x, h1, h2, h3, h4 0 _ rfl, h4 1 _ rfl⟩
theorem Sl.in_ {w : World} {L B n : Nat} {A : Option Addr} {xs : List Int} {i : Nat} (h : Sl w L B 1 encI A n xs) (hi : i < n) : ∃ b off x, A = some ⟨b, off, none⟩ ∧ b < B ∧ xs[i]? = some x ∧ w.cell? ⟨b, off + i, none⟩ = some (.int .i64 x) := by
  obtain ⟨b, off, x, h1, _, h2, h3, h4⟩ := Sl.one_ (enc := fun n => .int .i64 n) h hi
  exact ⟨b, off, x, h1, h2, h3, h4⟩
theorem Sl.sa {w : World} {L B n : Nat} {A : Option Addr} {xs : List Sal} {i : Nat} (h : Sl w L B 3 encS A n xs) (hi : i < n) : ∃ b off x, A = some ⟨b, off, none⟩ ∧ b < B ∧ xs[i]? = some x ∧
    w.cell? ⟨b, off + i * 3, none⟩ = some (.int .i64 x.y) ∧ w.cell? ⟨b, off + i * 3 + 1, none⟩ = some (.int .i64 x.h) ∧ w.cell? ⟨b, off + i * 3 + 2, none⟩ = some (.int .i64 x.l) := by
  obtain ⟨b, off, x, h1, h0, h2, h3, h4⟩ := h.at_ hi
  exact ⟨b, off, x, h1, h2, h3, h4 0 _ rfl, h4 1 _ rfl, h4 2 _ rfl⟩
theorem below_keep' {w0 w w1 : World} (h : Below w0.heap.size w0 w) (hb : Below w.heap.size w w1) : Below w0.heap.size w0 w1 := h.trans (hb.mono h.size)
theorem own_below' {w w' : World} {B e size n : Nat} {v : Value} {xs : List Value} (h : w.ownsRow B e size v n xs) (hb : Below w.heap.size w w') : w'.ownsRow B e size v n xs := by
  refine ⟨h.1, ?_⟩
  rcases h.2 with hn | ⟨g, cap, cur, rfl, hg, hgg, rest⟩
  · exact .inl hn
  · exact .inr ⟨g, cap, cur, rfl, hg, by rw [hb.block g (Array.getElem?_eq_some_iff.1 hgg).1]; exact hgg, rest⟩
theorem all_take {α : Type} {p : α → Prop} {xs : List α} {k : Nat} {x : α} (hx : xs[k]? = some x) (hn : ∀ y ∈ xs.take k, p y) (h : p x) : ∀ y ∈ xs.take (k + 1), p y := fun y hy => by
  rcases (mem_take_snoc hx).1 hy with h' | rfl
  · exact hn y h'
  · exact h
theorem any_hit {α : Type} {p : α → Bool} {xs : List α} {k : Nat} {x : α} (hx : xs[k]? = some x) (h : p x = true) : xs.any p = true := List.any_eq_true.2 ⟨x, List.mem_of_getElem? hx, h⟩
theorem any_miss {α : Type} {p : α → Bool} {xs : List α} (h : ∀ y ∈ xs, p y = false) : xs.any p = false := List.any_eq_false.2 fun x hx => by rw [h x hx]; decide
theorem take_all {α : Type} {xs : List α} {n : Nat} (h : xs.length = n) : xs.take n = xs := List.take_of_length_le (by omega)

/-- A listing as two cells hold it. -/
structure LV where
  id : Int
  A : Option Addr
  n : Nat
  c : Nat
def encLV (v : LV) : List Value := [.int .i64 v.id, .slice v.A v.n v.c]
theorem encLV_len (v : LV) : (encLV v).length = 2 := rfl
/-- A listing's sales in memory. -/
def SaS (w : World) (A : Option Addr) (n : Nat) (xs : List Sal) : Prop := Sl w 0 w.heap.size 3 encS A n xs
theorem SaS.up {w w' : World} {A : Option Addr} {n : Nat} {xs : List Sal} (h : SaS w A n xs) (hb : Below w.heap.size w w') : SaS w' A n xs := Sl.up h hb (Nat.le_refl _) (Nat.le_refl _)
theorem SaS.nil {w : World} : SaS w none 0 [] := Sl.nil
/-- A list of listings in memory. -/
structure LsS (w : World) (A : Option Addr) (n : Nat) (ls : List Lst) : Prop where
  ex : ∃ vs : List LV, Sl w 0 w.heap.size 2 encLV A n vs ∧ vs.length = ls.length ∧ ∀ (i : Nat) (v : LV) (x : Lst), vs[i]? = some v → ls[i]? = some x → v.id = x.id ∧ v.n ≤ maxLen ∧ SaS w v.A v.n x.sales
theorem LsS.up {w w' : World} {A : Option Addr} {n : Nat} {ls : List Lst} (h : LsS w A n ls) (hb : Below w.heap.size w w') : LsS w' A n ls := by
  obtain ⟨vs, h1, h2, h3⟩ := h.ex
  exact ⟨vs, h1.up hb (Nat.le_refl _) (Nat.le_refl _), h2, fun i v x hv hx => by
    obtain ⟨k1, k2, k3⟩ := h3 i v x hv hx
    exact ⟨k1, k2, k3.up hb⟩⟩
theorem LsS.len {w : World} {A : Option Addr} {n : Nat} {ls : List Lst} (h : LsS w A n ls) : ls.length = n := by
  obtain ⟨vs, h1, h2, _⟩ := h.ex
  rw [← h2, h1.len]
theorem LsS.nil {w : World} : LsS w none 0 [] := ⟨[], Sl.nil, rfl, fun i v x h => by simp at h⟩
theorem LsS.at_ {w : World} {A : Option Addr} {n : Nat} {ls : List Lst} {i : Nat} (h : LsS w A n ls) (hi : i < n) : ∃ b off x a m c, A = some ⟨b, off, none⟩ ∧ b < w.heap.size ∧ ls[i]? = some x ∧
    w.cell? ⟨b, off + i * 2, none⟩ = some (.int .i64 x.id) ∧ w.cell? ⟨b, off + i * 2 + 1, none⟩ = some (.slice a m c) ∧ m ≤ maxLen ∧ SaS w a m x.sales := by
  obtain ⟨vs, h1, h2, h3⟩ := h.ex
  obtain ⟨b, off, v, k1, _, k2, k3, k4⟩ := h1.at_ hi
  have hl : i < ls.length := by rw [← h2, h1.len]; exact hi
  obtain ⟨e1, e2, e3⟩ := h3 i v ls[i] k3 (List.getElem?_eq_getElem hl)
  exact ⟨b, off, ls[i], v.A, v.n, v.c, k1, k2, List.getElem?_eq_getElem hl, by rw [← e1]; exact k4 0 _ rfl, k4 1 _ rfl, e2, e3⟩
/-- A list of lists of numbers in memory. -/
structure LoS (w : World) (A : Option Addr) (n : Nat) (zs : List (List Int)) : Prop where
  ex : ∃ vs : List Value, Sl w 0 w.heap.size 1 (fun v => [v]) A n vs ∧ vs.length = zs.length ∧ ∀ (i : Nat) (v : Value) (z : List Int), vs[i]? = some v → zs[i]? = some z → ∃ a m c, v = .slice a m c ∧ (m ≤ 1000000 ∧ m ≤ c) ∧ Sl w 0 w.heap.size 1 encI a m z
theorem LoS.up {w w' : World} {A : Option Addr} {n : Nat} {zs : List (List Int)} (h : LoS w A n zs) (hb : Below w.heap.size w w') : LoS w' A n zs := by
  obtain ⟨vs, h1, h2, h3⟩ := h.ex
  exact ⟨vs, h1.up hb (Nat.le_refl _) (Nat.le_refl _), h2, fun i v x hv hx => by
    obtain ⟨a, m, c, k1, k2, k3⟩ := h3 i v x hv hx
    exact ⟨a, m, c, k1, k2, k3.up hb (Nat.le_refl _) (Nat.le_refl _)⟩⟩
theorem LoS.len {w : World} {A : Option Addr} {n : Nat} {zs : List (List Int)} (h : LoS w A n zs) : zs.length = n := by
  obtain ⟨vs, h1, h2, _⟩ := h.ex
  rw [← h2, h1.len]
theorem LoS.nil {w : World} : LoS w none 0 [] := ⟨[], Sl.nil, rfl, fun i v x h => by simp at h⟩
theorem LoS.at_ {w : World} {A : Option Addr} {n : Nat} {zs : List (List Int)} {i : Nat} (h : LoS w A n zs) (hi : i < n) : ∃ b off z a m c, A = some ⟨b, off, none⟩ ∧ b < w.heap.size ∧ zs[i]? = some z ∧
    w.cell? ⟨b, off + i, none⟩ = some (.slice a m c) ∧ (m ≤ 1000000 ∧ m ≤ c) ∧ Sl w 0 w.heap.size 1 encI a m z := by
  obtain ⟨vs, h1, h2, h3⟩ := h.ex
  obtain ⟨b, off, v, k1, _, k2, k3, k4⟩ := Sl.one_ (enc := fun v => v) h1 hi
  have hl : i < zs.length := by rw [← h2, h1.len]; exact hi
  obtain ⟨a, m, c, e1, e2, e3⟩ := h3 i v zs[i] k3 (List.getElem?_eq_getElem hl)
  exact ⟨b, off, zs[i], a, m, c, k1, k2, List.getElem?_eq_getElem hl, by rw [k4, e1], e2, e3⟩

theorem neSale (x y : Sal) (w : World) : (binOp .neq 57 (.agg #[.int .i64 x.y, .int .i64 x.h, .int .i64 x.l]) (.agg #[.int .i64 y.y, .int .i64 y.h, .int .i64 y.l])).run Tryz.prog w = .ok (.bool (!decide (x = y))) w := by
  have u3 := Tryz.underlying3
  have hS : Tryz.prog.underlying 57 = some (.struct (Tryz.prog.fieldsOf 57)) := by kernel_rfl
  have hp : Tryz.prog.stoodInHeld 57 = false := by kernel_rfl
  have e : decide (x = y) = (x.y == y.y && x.h == y.h && x.l == y.l) := by
    obtain ⟨a, b, c⟩ := x
    obtain ⟨d, e, f⟩ := y
    by_cases h1 : a = d <;> by_cases h2 : b = e <;> by_cases h3 : c = f <;> simp [h1, h2, h3]
  rw [e, run_neq_struct, show (10000 : Nat) = 9999 + 1 from rfl, run_equalIn_agg w 9999 57 _ _ hS hp]
  simp only [Program.fieldsOf, Tryz.underlying57]
  go_simp
  by_cases h1 : x.y = y.y <;> by_cases h2 : x.h = y.h <;> by_cases h3 : x.l = y.l <;> simp [h1, h2, h3]
theorem eqSale (x y : Sal) (w : World) : (binOp .eql 57 (.agg #[.int .i64 x.y, .int .i64 x.h, .int .i64 x.l]) (.agg #[.int .i64 y.y, .int .i64 y.h, .int .i64 y.l])).run Tryz.prog w = .ok (.bool (decide (x = y))) w := by
  have u3 := Tryz.underlying3
  have hS : Tryz.prog.underlying 57 = some (.struct (Tryz.prog.fieldsOf 57)) := by kernel_rfl
  have hp : Tryz.prog.stoodInHeld 57 = false := by kernel_rfl
  have e : decide (x = y) = (x.y == y.y && x.h == y.h && x.l == y.l) := by
    obtain ⟨a, b, c⟩ := x
    obtain ⟨d, e, f⟩ := y
    by_cases h1 : a = d <;> by_cases h2 : b = e <;> by_cases h3 : c = f <;> simp [h1, h2, h3]
  rw [e, run_eql_struct, show (10000 : Nat) = 9999 + 1 from rfl, run_equalIn_agg w 9999 57 _ _ hS hp]
  simp only [Program.fieldsOf, Tryz.underlying57]
  go_simp
  by_cases h1 : x.y = y.y <;> by_cases h2 : x.h = y.h <;> by_cases h3 : x.l = y.l <;> simp [h1, h2, h3]
theorem nePair (x y : Int × Int) (w : World) : (binOp .neq 59 (.agg #[.int .i64 x.1, .int .i64 x.2]) (.agg #[.int .i64 y.1, .int .i64 y.2])).run Tryz.prog w = .ok (.bool (!decide (x = y))) w := by
  have u3 := Tryz.underlying3
  have hS : Tryz.prog.underlying 59 = some (.struct (Tryz.prog.fieldsOf 59)) := by kernel_rfl
  have hp : Tryz.prog.stoodInHeld 59 = false := by kernel_rfl
  have e : decide (x = y) = (x.1 == y.1 && x.2 == y.2) := by
    obtain ⟨a, b⟩ := x
    obtain ⟨c, d⟩ := y
    by_cases h1 : a = c <;> by_cases h2 : b = d <;> simp [h1, h2]
  rw [e, run_neq_struct, show (10000 : Nat) = 9999 + 1 from rfl, run_equalIn_agg w 9999 59 _ _ hS hp]
  simp only [Program.fieldsOf, Tryz.underlying59]
  go_simp
  by_cases h1 : x.1 = y.1 <;> by_cases h2 : x.2 = y.2 <;> simp [h1, h2]
set_option maxRecDepth 100000 in
set_option maxHeartbeats 1000000 in
theorem sales_any (A : Option Addr) (len cap : Nat) (xs : List Sal) (A' : Option Addr) (len' cap' : Nat) (ys : List Sal) (w : World) (hlen : len ≤ 1000000) (hlen' : len' ≤ 1000000) (hS : SaS w A len xs) (hS' : SaS w A' len' ys) :
    Calls Tryz.prog 29 #[.slice A len cap, .slice A' len' cap'] w fun e w' => e = .returned (.bool (decide (xs = ys))) ∧ Below w.heap.size w w' := by
  have hl := Sl.len hS
  have hl' := Sl.len hS'
  by_cases hll : len = len'
  · subst hll
    go_enter Tryz.func29, Tryz.ntmps29
    go_wp2_with fail
    go_loopw [5] (fun i wr => ∃ k : Nat, k ≤ len ∧ i = .int .i64 k ∧ xs.take k = ys.take k ∧ Below w.heap.size w wr) (fun i _ => len - (intOf i).toNat)
    case atStart => exact ⟨0, by omega, rfl, rfl, Below.refl _ _⟩
    case round =>
      obtain ⟨k, hk, rfl, hn, hb⟩ := hrel
      have HN := Lib.hid hn; clear hn
      by_cases hlt : k < len
      · obtain ⟨b, off, x, rfl, hbb, hx, c0, c1, c2⟩ := (Sl.below hS hb (Nat.le_refl _)).sa hlt
        obtain ⟨b', off', y, rfl, hbb', hy, d0, d1, d2⟩ := (Sl.below hS' hb (Nat.le_refl _)).sa hlt
        have HX := Lib.hid hx; clear hx
        have HY := Lib.hid hy; clear hy
        have hne := fun w => neSale x y w
        have HS := Lib.hid hS; clear hS
        have HS' := Lib.hid hS'; clear hS'
        by_cases he : x = y
        · have hd : decide (x = y) = true := decide_eq_true he
          rw [hd] at hne
          have HE := Lib.hid he; clear he hd
          go_wp2_with fail
          go_quiet (fail)
          go_wp2_with fail
          go_roundw
          case rel => exact ⟨k + 1, by omega, by go_num, (eq_take_succ HX.out HY.out).2 ⟨HN.out, HE.out⟩, below_drewN hb _⟩
          case measure => simp [intOf]; omega
        · have hd : decide (x = y) = false := decide_eq_false he
          rw [hd] at hne
          have HE := Lib.hid he; clear he hd
          go_wp2_with fail
          go_quiet (fail)
          go_wp2_with fail
          go_ret
          refine ⟨?_, below_drewN hb _⟩
          have hxy : ¬ xs = ys := by
            rintro rfl
            exact HE.out (Option.some.inj (HX.out.symm.trans HY.out))
          simp [hxy]
      · obtain rfl : k = len := by omega
        have hn := HN.out
        rw [List.take_of_length_le (by omega), List.take_of_length_le (by omega)] at hn
        have HN2 := Lib.hid hn; clear hn HN
        go_wp2_with fail
        go_ret
        exact ⟨by simp [HN2.out], hb⟩
  · have hxy : Hid (¬ xs = ys) := by
      show ¬ xs = ys
      rintro rfl; omega
    go_enter Tryz.func29, Tryz.ntmps29
    go_wp2_with fail
    go_ret
    exact ⟨by simp [hxy.out], Below.refl _ _⟩
set_option maxRecDepth 100000 in
set_option maxHeartbeats 1000000 in
theorem pairs_any (A : Option Addr) (len cap : Nat) (xs : List (Int × Int)) (A' : Option Addr) (len' cap' : Nat) (ys : List (Int × Int)) (w : World) (hlen : len ≤ 1000000) (hlen' : len' ≤ 1000000) (hS : Sl w 0 w.heap.size 2 encE A len xs) (hS' : Sl w 0 w.heap.size 2 encE A' len' ys) :
    Calls Tryz.prog 32 #[.slice A len cap, .slice A' len' cap'] w fun e w' => e = .returned (.bool (decide (xs = ys))) ∧ Below w.heap.size w w' := by
  have hl := hS.len
  have hl' := hS'.len
  by_cases hll : len = len'
  · subst hll
    go_enter Tryz.func32, Tryz.ntmps32
    go_wp2_with fail
    go_loopw [5] (fun i wr => ∃ k : Nat, k ≤ len ∧ i = .int .i64 k ∧ xs.take k = ys.take k ∧ Below w.heap.size w wr) (fun i _ => len - (intOf i).toNat)
    case atStart => exact ⟨0, by omega, rfl, rfl, Below.refl _ _⟩
    case round =>
      obtain ⟨k, hk, rfl, hn, hb⟩ := hrel
      have HN := Lib.hid hn; clear hn
      by_cases hlt : k < len
      · obtain ⟨b, off, x, rfl, hbb, hx, c0, c1⟩ := (hS.below hb (Nat.le_refl _)).en hlt
        obtain ⟨b', off', y, rfl, hbb', hy, d0, d1⟩ := (hS'.below hb (Nat.le_refl _)).en hlt
        have HX := Lib.hid hx; clear hx
        have HY := Lib.hid hy; clear hy
        have hne := fun w => nePair x y w
        have HS := Lib.hid hS; clear hS
        have HS' := Lib.hid hS'; clear hS'
        by_cases he : x = y
        · have hd : decide (x = y) = true := decide_eq_true he
          rw [hd] at hne
          have HE := Lib.hid he; clear he hd
          go_wp2_with fail
          go_quiet (fail)
          go_wp2_with fail
          go_roundw
          case rel => exact ⟨k + 1, by omega, by go_num, (eq_take_succ HX.out HY.out).2 ⟨HN.out, HE.out⟩, below_drewN hb _⟩
          case measure => simp [intOf]; omega
        · have hd : decide (x = y) = false := decide_eq_false he
          rw [hd] at hne
          have HE := Lib.hid he; clear he hd
          go_wp2_with fail
          go_quiet (fail)
          go_wp2_with fail
          go_ret
          refine ⟨?_, below_drewN hb _⟩
          have hxy : ¬ xs = ys := by
            rintro rfl
            exact HE.out (Option.some.inj (HX.out.symm.trans HY.out))
          simp [hxy]
      · obtain rfl : k = len := by omega
        have hn := HN.out
        rw [List.take_of_length_le (by omega), List.take_of_length_le (by omega)] at hn
        have HN2 := Lib.hid hn; clear hn HN
        go_wp2_with fail
        go_ret
        exact ⟨by simp [HN2.out], hb⟩
  · have hxy : Hid (¬ xs = ys) := by
      show ¬ xs = ys
      rintro rfl; omega
    go_enter Tryz.func32, Tryz.ntmps32
    go_wp2_with fail
    go_ret
    exact ⟨by simp [hxy.out], Below.refl _ _⟩
set_option maxRecDepth 100000 in
set_option maxHeartbeats 1000000 in
theorem ints_any (A : Option Addr) (len cap : Nat) (xs : List Int) (A' : Option Addr) (len' cap' : Nat) (ys : List Int) (w : World) (hlen : len ≤ 1000000) (hlen' : len' ≤ 1000000) (hS : Sl w 0 w.heap.size 1 encI A len xs) (hS' : Sl w 0 w.heap.size 1 encI A' len' ys) :
    Calls Tryz.prog 51 #[.slice A len cap, .slice A' len' cap'] w fun e w' => e = .returned (.bool (decide (xs = ys))) ∧ Below w.heap.size w w' := by
  have hl := hS.len
  have hl' := hS'.len
  by_cases hll : len = len'
  · subst hll
    go_enter Tryz.func51, Tryz.ntmps51
    go_wp2_with fail
    go_loopw [5] (fun i wr => ∃ k : Nat, k ≤ len ∧ i = .int .i64 k ∧ xs.take k = ys.take k ∧ Below w.heap.size w wr) (fun i _ => len - (intOf i).toNat)
    case atStart => exact ⟨0, by omega, rfl, rfl, Below.refl _ _⟩
    case round =>
      obtain ⟨k, hk, rfl, hn, hb⟩ := hrel
      have HN := Lib.hid hn; clear hn
      by_cases hlt : k < len
      · obtain ⟨b, off, x, rfl, hbb, hx, c0⟩ := (hS.below hb (Nat.le_refl _)).in_ hlt
        obtain ⟨b', off', y, rfl, hbb', hy, d0⟩ := (hS'.below hb (Nat.le_refl _)).in_ hlt
        have HX := Lib.hid hx; clear hx
        have HY := Lib.hid hy; clear hy
        have HS := Lib.hid hS; clear hS
        have HS' := Lib.hid hS'; clear hS'
        by_cases he : x = y
        · have hd : (x != y) = false := by simpa using he
          have HE := Lib.hid he; clear he
          go_wp2_with fail
          go_quiet (fail)
          go_wp2_with fail
          go_roundw
          case rel => exact ⟨k + 1, by omega, by go_num, (eq_take_succ HX.out HY.out).2 ⟨HN.out, HE.out⟩, below_drewN hb _⟩
          case measure => simp [intOf]; omega
        · have hd : (x != y) = true := by simpa using he
          have HE := Lib.hid he; clear he
          go_wp2_with fail
          go_quiet (fail)
          go_wp2_with fail
          go_ret
          refine ⟨?_, below_drewN hb _⟩
          have hxy : ¬ xs = ys := by
            rintro rfl
            exact HE.out (Option.some.inj (HX.out.symm.trans HY.out))
          simp [hxy]
      · obtain rfl : k = len := by omega
        have hn := HN.out
        rw [List.take_of_length_le (by omega), List.take_of_length_le (by omega)] at hn
        have HN2 := Lib.hid hn; clear hn HN
        go_wp2_with fail
        go_ret
        exact ⟨by simp [HN2.out], hb⟩
  · have hxy : Hid (¬ xs = ys) := by
      show ¬ xs = ys
      rintro rfl; omega
    go_enter Tryz.func51, Tryz.ntmps51
    go_wp2_with fail
    go_ret
    exact ⟨by simp [hxy.out], Below.refl _ _⟩
set_option maxRecDepth 100000 in
set_option maxHeartbeats 1000000 in
theorem has_any (A : Option Addr) (len cap : Nat) (xs : List Int) (i : Int) (w : World) (hlen : len ≤ 1000000) (hS : Sl w 0 w.heap.size 1 encI A len xs) :
    Calls Tryz.prog 24 #[.slice A len cap, .int .i64 i] w fun e w' => e = .returned (.bool (decide (i ∈ xs))) ∧ w = w' := by
  have hl := hS.len
  go_enter Tryz.func24, Tryz.ntmps24
  go_wp2_with fail
  go_loop [5] (fun s => ∃ k : Nat, k ≤ len ∧ s = .int .i64 k ∧ i ∉ xs.take k) (fun s => len - (intOf s).toNat)
  case atStart => exact ⟨0, by omega, rfl, by simp⟩
  case round =>
    obtain ⟨k, hk, rfl, hn⟩ := hrel
    have HN := Lib.hid hn; clear hn
    by_cases hlt : k < len
    · obtain ⟨b, off, x, rfl, hbb, hx, c0⟩ := hS.in_ hlt
      have HX := Lib.hid hx; clear hx
      by_cases he : x = i
      · have hd : (x == i) = true := by simpa using he
        have HD : Hid (decide (i ∈ xs) = true) := by show _ = _; rw [decide_eq_true_eq, ← he]; exact List.mem_of_getElem? HX.out
        clear he
        go_wp2_with fail
        go_ret
        exact ⟨by rw [HD.out]; rfl, rfl⟩
      · have hd : (x == i) = false := by simpa using he
        have HE := Lib.hid he; clear he
        go_wp2_with fail
        go_round
        case rel => exact ⟨k + 1, by omega, by go_num, fun h => by rcases (mem_take_snoc HX.out).1 h with h | h; exact HN.out h; exact HE.out h.symm⟩
        case measure => simp [intOf]; omega
    · obtain rfl : k = len := by omega
      have hn := HN.out
      rw [List.take_of_length_le (by omega)] at hn
      have HD : Hid (decide (i ∈ xs) = false) := decide_eq_false hn
      clear hn HN
      go_wp2_with fail
      go_ret
      exact ⟨by rw [HD.out]; rfl, rfl⟩

end Go.Proofs.YtccmchmemafjdaaGreatDoor
