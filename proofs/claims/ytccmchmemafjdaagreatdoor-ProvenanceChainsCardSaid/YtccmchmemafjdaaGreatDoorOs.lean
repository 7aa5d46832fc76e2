/- Chapter 46: steps of groups, in memory. -/
import Derived.Test.YtccmchmemafjdaaGreatDoorOq
import Derived.DeepKeys4
import Derived.Maps.Range
set_option linter.unusedSimpArgs false
set_option linter.unusedVariables false
namespace Go.Proofs.YtccmchmemafjdaaGreatDoor
open Go.RowKit Go.Maps

theorem laidOut46 : laidOutB Tryz.prog = true := by kernel_rfl
theorem rowSale : (57 : TypeId) < Tryz.prog.types.size := of_decide_eq_true (by kernel_rfl)
theorem deepSale : Tryz.prog.keyType 57 = true := by kernel_rfl
theorem cellsSale : Tryz.prog.cellsOf 57 = 3 := by kernel_rfl
theorem cellsInt : Tryz.prog.cellsOf 3 = 1 := by kernel_rfl
theorem pos_succ {n k : Nat} (h : k < n) : ∃ m, n = m + 1 := ⟨n - 1, by omega⟩
theorem deepSale2 : Tryz.prog.keyTypeAt 2 57 = true := by kernel_rfl
theorem keyedSale : Keyed Tryz.prog 57 := Keyed.of_law (deep_law_laid laidOut46 (m := 2) (by omega) rowSale deepSale2 (by rw [Tryz.underlying57]))
def in64S (s : Sal) : Prop := in64 s.y ∧ in64 s.h ∧ in64 s.l
theorem types_pos : ∃ m, Tryz.prog.types.size = m + 1 := pos_succ rowSale
theorem keySale {s : Sal} (h : in64S s) : keyOf Tryz.prog 57 (.agg #[.int .i64 s.y, .int .i64 s.h, .int .i64 s.l]) = some (.string (keyBytes [.int .i64 s.y, .int .i64 s.h, .int .i64 s.l])) := by
  obtain ⟨h1, h2, h3⟩ := h
  obtain ⟨m, hm⟩ := types_pos
  have u3 := Tryz.underlying3
  have u1 := Tryz.underlying57
  have e1 : (Value.agg #[.int .i64 s.y, .int .i64 s.h, .int .i64 s.l]).formed Tryz.prog 57 = true := by
    simp [Value.formed, u1, cellsSale]
  unfold keyOf
  simp only [u1]
  rw [e1, deepSale, hm]
  simp [Program.keyLits, u1, u3, cellsSale, cellsInt, Value.cells, wf64 h1, wf64 h2, wf64 h3]
/-- Sale keys. -/
noncomputable def KS : Kys 57 Sal where
  kv s := .agg #[.int .i64 s.y, .int .i64 s.h, .int .i64 s.l]
  kl s := .string (keyBytes [.int .i64 s.y, .int .i64 s.h, .int .i64 s.l])
  ok := in64S
  keyed := keyedSale
  key i hi := keySale hi
  inj i j hi hj e := by
    have h1 := keySale hi
    have h2 := keySale hj
    rw [e] at h1
    have h3 := keyedSale.inj h1 h2
    obtain ⟨a, b, c⟩ := i
    obtain ⟨d, e, f⟩ := j
    simp only [Value.agg.injEq, Array.mk.injEq, List.cons.injEq, Value.int.injEq, true_and, and_true] at h3
    obtain ⟨rfl, rfl, rfl⟩ := h3
    rfl
  lit i _ := by trivial
theorem zeroRow (w : World) : (zeroValue 40).run Tryz.prog w = .ok (.slice none 0 0) w := by kernel_rfl
/-- Headers of slices, held as they are. -/
noncomputable def VS : Vls Value 40 Value where
  R v := some (.held v, [])
  d v := .held v
  vv v := v
  ok _ := True
  zero := .slice none 0 0
  put x _ := rfl
  inv v x ps h := by
    injection h with h
    injection h with h _
    injection h
  okz := trivial
  zrun w := zeroRow w
end Go.Proofs.YtccmchmemafjdaaGreatDoor
set_option linter.unusedSimpArgs false
set_option linter.unusedVariables false
namespace Go.Proofs.YtccmchmemafjdaaGreatDoor
open Go.RowKit Go.Maps

/-- What the call carries through its loops: the closures' cell and the roots. -/
structure GrS (w0 w : World) (Bf Br Bm n : Nat) (ids : List Int) (f : Int → Int) : Prop where
  rt : RtS w Br Bm n ids f
  fn : Bx w Bf [.func (.func 77) #[] #[.pointer (some ⟨Br, 0, none⟩)]]
  fm : Bf ≠ Bm
  lo : w0.heap.size ≤ Bm
  bl : Below w0.heap.size w0 w
theorem GrS.up {w0 w w' : World} {Bf Br Bm n : Nat} {ids : List Int} {f : Int → Int} (h : GrS w0 w Bf Br Bm n ids f) (hb : Below w.heap.size w w') : GrS w0 w' Bf Br Bm n ids f :=
  ⟨h.rt.up hb, h.fn.up hb, h.fm, h.lo, below_keep' h.bl hb⟩
theorem GrS.other {w0 w w' : World} {Bf Br Bm n B : Nat} {ids : List Int} {f : Int → Int} (h : GrS w0 w Bf Br Bm n ids f) (hg : w.grownBy w' (some B)) (h1 : B ≠ Bm) (h2 : B ≠ Br) (h3 : B ≠ Bf) (h4 : w0.heap.size ≤ B) : GrS w0 w' Bf Br Bm n ids f :=
  ⟨⟨h.rt.box.kept hg (fun e => h2 e.symm), h.rt.map.kept hg (fun e => h1 (by injection e with e; exact e.symm)), h.rt.ne⟩, h.fn.kept hg (fun e => h3 e.symm), h.fm, h.lo, below_of_map h.bl hg h4 (Nat.le_refl _)⟩
theorem GrS.joined {w0 w w' : World} {Bf Br Bm n : Nat} {ids : List Int} {f f' : Int → Int} (h : GrS w0 w Bf Br Bm n ids f) (hg : w.grownBy w' (some Bm)) (hr : RtS w' Br Bm n ids f') : GrS w0 w' Bf Br Bm n ids f' :=
  ⟨hr, h.fn.kept hg h.fm, h.fm, h.lo, below_of_map h.bl hg h.lo (Nat.le_refl _)⟩
theorem GrS.find {w0 w : World} {Bf Br Bm n : Nat} {ids : List Int} {f : Int → Int} (h : GrS w0 w Bf Br Bm n ids f) (hd : Down ids f) (h64 : AllIn ids) {a : Int} (ha : a ∈ ids) :
    Calls Tryz.prog 77 #[.int .i64 a, .pointer (some ⟨Br, 0, none⟩)] w fun e w' => e = .returned (.int .i64 (rootF f a)) ∧ w' = w := pfindr_any Br Bm n ids f a w hd h64 ha h.rt
theorem GrS.join {w0 w : World} {Bf Br Bm n : Nat} {ids : List Int} {f : Int → Int} (h : GrS w0 w Bf Br Bm n ids f) (hn : n < maxLen) (hd : Down ids f) (h64 : AllIn ids) {a b : Int} (ha : a ∈ ids) (hb : b ∈ ids) :
    Calls Tryz.prog 78 #[.int .i64 a, .int .i64 b, .pointer (some ⟨Bf, 0, none⟩), .pointer (some ⟨Br, 0, none⟩)] w fun e w' => e = .returned (.tuple #[]) ∧ GrS w0 w' Bf Br Bm n ids (joinF f a b) ∧ w.grownBy w' (some Bm) :=
  (pjoin_any Bf Br Bm n ids f a b w hn hd h64 ha hb h.rt h.fn).mono fun e w' ⟨h1, h2, h3⟩ => ⟨h1, h.joined h3 h2, h3⟩
/-- The roots while they are laid: each is its own. -/
def idF (a : Int) : Int := a
theorem rtF_new {ids : List Int} {x : Int} : rtF (ids ++ [x]) idF = fun j => if j = x then some x else rtF ids idF j := by
  funext j
  unfold rtF idF
  by_cases e : j = x
  · subst e; simp
  · rw [if_neg e]
    by_cases hm : j ∈ ids
    · rw [if_pos hm, if_pos (by simp [hm])]
    · rw [if_neg hm, if_neg (by simp [hm, e])]
theorem RtS.start (w : World) : RtS ((w.alloc (.map #[] 0)).alloc (.cells #[.map (some w.heap.size)] 104)) (w.heap.size + 1) w.heap.size 0 [] idF := by
  refine ⟨?_, ?_, by omega⟩
  · have := Bx.new (w.alloc (.map #[] 0)) [.map (some w.heap.size)] 104
    rwa [World.size_alloc] at this
  · have h := (MapF.made KI VI w).up (one_alloc (w.alloc (.map #[] 0)) (.cells #[.map (some w.heap.size)] 104))
    have e : rtF [] idF = fun _ => none := by funext j; simp [rtF]
    rw [e]
    exact h
theorem RtS.add {w w' : World} {Br Bm n : Nat} {ids : List Int} {x : Int} (h : RtS w Br Bm n ids idF) (hx : x ∉ ids) (hg : w.grownBy w' (some Bm))
    (hM : MapF KI VI w' Bm (if (rtF ids idF x).isSome then n else n + 1) (fun j => if j = x then some x else rtF ids idF j)) : RtS w' Br Bm (n + 1) (ids ++ [x]) idF := by
  refine ⟨h.box.kept hg h.ne, ?_, h.ne⟩
  rw [rtF_new]
  have : (rtF ids idF x).isSome = false := by unfold rtF; rw [if_neg hx]; rfl
  rw [this] at hM
  exact hM
theorem idsL_take_snoc {ls : List Lst} {k : Nat} {x : Lst} (h : ls[k]? = some x) : idsL (ls.take (k + 1)) = idsL (ls.take k) ++ [x.id] := by
  rw [take_snocS h]; unfold idsL; simp
theorem idsL_fresh {ls : List Lst} {k : Nat} {x : Lst} (hn : (idsL ls).Nodup) (h : ls[k]? = some x) : x.id ∉ idsL (ls.take k) := by
  have h1 : (idsL (ls.take (k + 1))).Nodup := by
    unfold idsL at *
    rw [List.map_take]
    exact hn.sublist (List.take_sublist _ _)
  exact ((idsL_snoc h).1 h1).2
/-- Who holds what: of the lists ahead, and of the first sales of this one. -/
def hK (ls : List Lst) (k : Nat) (x : Lst) (j : Nat) : List (Sal × Int) := holdsL (ls.take k) ++ (x.sales.take j).map (fun s => (s, x.id))
theorem hK_zero (ls : List Lst) (k : Nat) (x : Lst) : hK ls k x 0 = holdsL (ls.take k) := by simp [hK]
theorem hK_snoc {ls : List Lst} {k : Nat} {x : Lst} {j : Nat} {s : Sal} (h : x.sales[j]? = some s) : hK ls k x (j + 1) = hK ls k x j ++ [(s, x.id)] := by
  unfold hK; rw [take_snocS h]; simp
theorem hK_full {ls : List Lst} {k : Nat} {x : Lst} (h : ls[k]? = some x) {n : Nat} (hn : x.sales.length = n) : holdsL (ls.take (k + 1)) = hK ls k x n := by
  unfold hK
  rw [take_snocS h, take_all hn]
  unfold holdsL
  simp
theorem hK_in {ls : List Lst} {P : List (Int × Int)} (h : InIds (idsL ls) (holdsL ls) P) {k : Nat} {x : Lst} (hx : ls[k]? = some x) (j : Nat) : InIds (idsL ls) (hK ls k x j) [] := by
  refine h.less (fun p hp => ?_) (by simp)
  unfold hK at hp
  obtain ⟨s, a⟩ := p
  rcases List.mem_append.1 hp with hp | hp
  · obtain ⟨y, hy, h1, h2⟩ := mem_holds.1 hp
    exact mem_holds.2 ⟨y, List.mem_of_mem_take hy, h1, h2⟩
  · obtain ⟨t, ht, e⟩ := List.mem_map.1 hp
    injection e with e1 e2
    subst e1
    exact mem_holds.2 ⟨x, List.mem_of_getElem? hx, e2, List.mem_of_mem_take ht⟩
theorem hK_down {ls : List Lst} {P : List (Int × Int)} (h : InIds (idsL ls) (holdsL ls) P) {k : Nat} {x : Lst} (hx : ls[k]? = some x) (j : Nat) : Down (idsL ls) (ufH (hK ls k x j)) := (ufH_uf _ (hK_in h hx j)).down
theorem ufH_nil : ufH [] = idF := rfl
theorem lastH_nil : lastH [] = fun _ => none := by funext s; rfl
theorem ufH_hit {H : List (Sal × Int)} {s : Sal} {x y : Int} (h : lastH H s = some y) : ufH (H ++ [(s, x)]) = joinF (ufH H) y x := by rw [ufH_snoc, h]
theorem ufH_miss {H : List (Sal × Int)} {s : Sal} {x : Int} (h : lastH H s = none) : ufH (H ++ [(s, x)]) = ufH H := by rw [ufH_snoc, h]
theorem lastH_put (H : List (Sal × Int)) (s : Sal) (x : Int) : lastH (H ++ [(s, x)]) = fun t => if t = s then some x else lastH H t := by funext t; exact lastH_snoc H s t x
theorem pT_down {ids : List Int} {H : List (Sal × Int)} {P : List (Int × Int)} (h : InIds ids H P) (j : Nat) : Down ids (ufP (ufH H) (P.take j)) := (ufP_uf _ (h.less (fun x hx => hx) (fun x hx => List.mem_of_mem_take hx))).down
theorem pT_snoc {f : Int → Int} {P : List (Int × Int)} {j : Nat} {p : Int × Int} (h : P[j]? = some p) : ufP f (P.take (j + 1)) = joinF (ufP f (P.take j)) p.1 p.2 := by rw [take_snocS h, ufP_snoc]
theorem sold_look {w : World} {b n : Nat} {f : Sal → Option Int} (h : MapF KS VI w b n f) {s : Sal} (hs : in64S s) {o : Option Int} (ho : f s = o) :
    (Instr.lookup 107 (.map (some b)) (.agg #[.int .i64 s.y, .int .i64 s.h, .int .i64 s.l]) true).run Tryz.prog w = .ok (.tuple #[.int .i64 (o.getD 0), .bool o.isSome]) w := by
  subst ho
  exact h.lookOk Tryz.underlying107 (i := s) hs
theorem okSal_in64 {s : Sal} (h : okSal s) : in64S s := by
  obtain ⟨h1, h2, h3⟩ := h
  refine ⟨?_, ?_, ?_⟩ <;> (unfold in64; omega)
theorem grown_trans {a b c : World} {r : Nat} (h : Below a.heap.size a b) (hg : b.grownBy c (some r)) : a.grownBy c (some r) :=
  ⟨hg.os.trans h.os, hg.tape.trans h.tape, hg.output.trans h.output, Nat.le_trans h.size hg.size, fun k hk hne => (hg.block k (Nat.lt_of_lt_of_le hk h.size) hne).trans (h.block k hk)⟩
end Go.Proofs.YtccmchmemafjdaaGreatDoor
