/- What the cards of chapter 46 share: arguments opened, the input that fits, what a law that returns true leaves. -/
import Derived.Test.YtccmchmemafjdaaGreatDoorCards
import Derived.Test.YtccmchmemafjdaaGreatDoorTie
import Derived.Test.YtccmchmemafjdaaGreatDoorStd
import Derived.WalkKit
import Derived.ProofKit
import Derived.OpenShut
import Derived.Deep.DeepHandedRow
import Derived.Deep.DeepWitnessRowRef
import Derived.Deep.SlicePairs
import Derived.Lib.LaidTab
import Derived.Stop.LaidErr
import Derived.Carry
import Derived.Test.YtccmchmemafjdaaGreatDoorOp
import Derived.Test.YtccmchmemafjdaaGreatDoorOa
import Derived.Deep.Fields
import Derived.Deep.Slices
import Derived.Lib.SmallJoins
import Derived.WideKeyArgs
set_option linter.unusedSimpArgs false
set_option linter.unusedVariables false
namespace Go.Proofs.YtccmchmemafjdaaGreatDoor
open Go.ChangeShapes Go.WideShapes Go.ChangeAt Go.RowKit

theorem own : ownKnob Tryz.prog.godebug = none := by kernel_rfl
theorem laidOut : laidOutB Tryz.prog = true := by kernel_rfl
def laidL : List (String × DataW Unit) := Rows.provenanceGroupsRow.laid
theorem gTabType : (Tryz.prog.globals[3]?).map (·.type) = some 185 := by kernel_rfl
theorem gSyn : Tryz.prog.globalNamed "strconv.ErrSyntax" = some 1 := by kernel_rfl
theorem gRan : Tryz.prog.globalNamed "strconv.ErrRange" = some 2 := by kernel_rfl
theorem gSynType : (Tryz.prog.globals[1]?).map (·.type) = some 66 := by kernel_rfl
theorem gRanType : (Tryz.prog.globals[2]?).map (·.type) = some 66 := by kernel_rfl
theorem cells_u64 : Tryz.prog.cellsOf 102 = 1 := by kernel_rfl
theorem cells_tab : Tryz.prog.cellsOf 185 = 20 := by kernel_rfl
theorem cells_str : Tryz.prog.cellsOf 9 = 1 := by kernel_rfl
theorem cells_es : Tryz.prog.cellsOf 193 = 1 := by kernel_rfl
theorem star_es : "*" ++ "errors.errorString" = "*errors.errorString" := by decide
theorem row_es (u : TypeId) (h : Tryz.prog.typeName? 3 u = some "*errors.errorString") : u = 191 :=
  typeName_ptr_named (nm := "errors.errorString") (by rw [star_es]; kernel_rfl) (by kernel_rfl) (by decide) u (by rw [star_es]; exact h)

theorem var_lt {P : Program} {W : World} {n : String} {cs : Array Value} {g : Nat} (hg : P.globalNamed n = some g) (h : W.var? P n = some cs) : g < W.heap.size := by
  unfold World.var? at h
  simp only [hg, Option.bind_some] at h
  rcases Nat.lt_or_ge g W.heap.size with h' | h'
  · exact h'
  · simp [Array.getElem?_eq_none h'] at h
theorem g64 : Tryz.prog.globalNamed "math/bits.deBruijn64tab" = some 7 := by kernel_rfl
theorem laid_head {P : Program} {W : World} {n : String} {d : DataW Unit} {r : List (String × DataW Unit)} (h : laidMet P ((n, d) :: r) W) : ∃ cs, W.var? P n = some cs := by
  obtain ⟨_, ⟨g, t, cs, f, p, q, _, _, hv, _⟩, _⟩ := h
  exact ⟨cs, hv⟩

/-- What the row's list and the world's shape give. -/
theorem env_of {W : World} (h : laidMetH Tryz.prog laidL W) (hsh : W.ShapedOpen Tryz.prog) : Env W := by
  have h0 : laidMet Tryz.prog laidL W := h
  have hsz : 8 ≤ W.heap.size := by
    obtain ⟨cs, hv⟩ := laid_head h0.tail
    exact var_lt g64 hv
  refine ⟨hsz, Tryz.laysM145.s1_3 W hsh, ?_, ?_, ?_⟩
  · exact Lib.tabIs_of_head gTab gTabType Tryz.underlying185 Tryz.underlying102 cells_u64 cells_tab h0.tail.tail
  · obtain ⟨a, s, hv, _⟩ := laid_sentinel h0.tail.tail.tail.tail.tail gSyn gSynType Tryz.underlying66 row_es Tryz.underlying191 Tryz.underlying193 rfl rfl Tryz.underlying9 cells_es cells_str
    exact ⟨_, _, by simpa using World.var?_cell gSyn hv 0⟩
  · obtain ⟨a, s, hv, _⟩ := laid_sentinel h0.tail.tail.tail.tail gRan gRanType Tryz.underlying66 row_es Tryz.underlying191 Tryz.underlying193 rfl rfl Tryz.underlying9 cells_es cells_str
    exact ⟨_, _, by simpa using World.var?_cell gRan hv 0⟩
end Go.Proofs.YtccmchmemafjdaaGreatDoor
set_option linter.unusedSimpArgs false
set_option linter.unusedVariables false
namespace Go.Proofs.YtccmchmemafjdaaGreatDoor
open Go.ChangeShapes Go.WideShapes Go.ChangeAt Go.RowKit

section
variable {H : Type} {enc : TypeId × Value → H}
/-- Below the heap's old size nothing has turned: the arguments read as they did. -/
theorem trodAll_stays {W W' : World} {sp' : Nat → Bool} (hb : Below W.heap.size W W') : ∀ {ts : List TypeId} {vs : List Value} {ds : List (DataW H)} {ps : List MemPlace},
    (∀ t ∈ ts, Tryz.prog.readableRec t = true ∧ t < Tryz.prog.types.size) → DataW.TrodAll enc Tryz.prog W 0 (fun _ => true) true ts vs ds ps → (∀ p ∈ ps, p.block < W.heap.size) → (∀ p ∈ ps, sp' p.block = true) →
    DataW.TrodAll enc Tryz.prog W' 0 sp' true ts vs ds ps
  | [], _, _, _, _, h, _, _ => by
    obtain ⟨rfl, rfl, rfl⟩ := trodAll_nil h
    exact trodAll_mk0
  | t :: ts, _, _, _, ht, h, hlt, hs => by
    obtain ⟨v, vs1, d, ds1, a, b, rfl, rfl, rfl, h1, h2⟩ := trodAll_cons h
    refine ⟨a, b, ?_, ?_, rfl⟩
    · exact WideElems.Trod_stays laidOut (ht t (by simp)).1 (ht t (by simp)).2 h1 (fun p hp => hb.same (hlt p (by simp [hp]))) (fun p hp => hs p (by simp [hp]))
    · exact trodAll_stays hb (fun t' h' => ht t' (by simp [h'])) h2 (fun p hp => hlt p (by simp [hp])) (fun p hp => hs p (by simp [hp]))

theorem cell_lt {w : World} {a : Addr} {v : Value} (h : w.cell? a = some v) : a.block < w.heap.size := by
  rcases Nat.lt_or_ge a.block w.heap.size with h' | h'
  · exact h'
  · simp [World.cell?, Array.getElem?_eq_none h'] at h

/-- A LAW THAT RETURNED true: what the row asks. -/
theorem law_post {f : Func} {s : ChangeSpec} {W W' : World} {args : Array Value} {ds gs : List (DataW H)} {before : List MemPlace}
    (hW : DataW.Whole enc Tryz.prog f.params.toList s.vars false W args.toList ds gs before) (hv : s.vars = []) (hfn : s.fn H ds = { results := [.lit (.bool true)], args := ds })
    (hr : f.resultTypes = #[4]) (hp : ∀ t ∈ f.params.toList, Tryz.prog.readableRec t = true ∧ t < Tryz.prog.types.size) (hb : Below W.heap.size W W') :
    s.post enc Tryz.prog f false true false false W args (.bool true) W' := by
  have hW' := hW
  have hlt := hW.lt
  obtain ⟨p, q, hA, hV, rfl, hfz, hnd⟩ := hW
  rw [hv] at hV
  obtain ⟨rfl, rfl⟩ := trodVars_none hV
  have e : s.fn H (ds ++ []) = { results := [.lit (.bool true)], args := ds } := by rw [List.append_nil]; exact hfn
  have hold : ∀ x ∈ p, (fun b => decide (b < W.heap.size)) x.block = true := fun x hx => by simpa using hlt x (by simp [hx])
  refine ⟨ds, [], p ++ [], [], p, [], hW', ?_, ?_, ?_, hb.frame _, fun h => by cases h⟩
  · rw [e, hr]
    exact trodAll_mk1 (shut_bool Tryz.underlying4 true)
  · rw [e]
    exact trodAll_stays hb hp hA (fun x hx => hlt x (by simp [hx])) hold
  · rw [e, hv]; rfl

/-! ### Arguments opened. -/
set_option maxRecDepth 100000 in
theorem cells_sa : Tryz.prog.cellsOf 57 = 3 := by kernel_rfl
set_option maxRecDepth 100000 in
theorem cells_li : Tryz.prog.cellsOf 24 = 2 := by kernel_rfl
set_option maxRecDepth 100000 in
theorem cells_pr : Tryz.prog.cellsOf 59 = 2 := by kernel_rfl
theorem list2t {α : Type} {l : List α} (h : l.length = 2) : ∃ a b, l = [a, b] := by
  match l, h with
  | [a, b], _ => exact ⟨a, b, rfl⟩
theorem list3t {α : Type} {l : List α} (h : l.length = 3) : ∃ a b c, l = [a, b, c] := by
  match l, h with
  | [a, b, c], _ => exact ⟨a, b, c, rfl⟩
set_option maxRecDepth 100000 in
theorem fields_pr : ∃ f0 f1 : Field, Tryz.prog.underlying 59 = some (.struct #[f0, f1]) ∧ Deep.oneCellFields Tryz.prog #[f0, f1] = true ∧ (f0.type = 3 ∧ f1.type = 3) :=
  ⟨_, _, Tryz.underlying59, by kernel_rfl, rfl, rfl⟩
set_option maxRecDepth 100000 in
theorem fields_sa : ∃ f0 f1 f2 : Field, Tryz.prog.underlying 57 = some (.struct #[f0, f1, f2]) ∧ Deep.oneCellFields Tryz.prog #[f0, f1, f2] = true ∧ (f0.type = 3 ∧ f1.type = 3 ∧ f2.type = 3) :=
  ⟨_, _, _, Tryz.underlying57, by kernel_rfl, rfl, rfl, rfl⟩
set_option maxRecDepth 100000 in
theorem fields_li : ∃ f0 f1 : Field, Tryz.prog.underlying 24 = some (.struct #[f0, f1]) ∧ Deep.oneCellFields Tryz.prog #[f0, f1] = true ∧ (f0.type = 3 ∧ f1.type = 22) :=
  ⟨_, _, Tryz.underlying24, by kernel_rfl, rfl, rfl⟩
theorem trod_pr {w : World} {base : Nat} {spare : Nat → Bool} {held : Bool} {n : Nat} {cs : List Value} {x : DataW H × List MemPlace} (h : DataW.trod enc Tryz.prog w base spare held n 59 cs = some x) : ∃ s : Int × Int, cs = encE s := by
  obtain ⟨f0, f1, hs, hone, t0, t1⟩ := fields_pr
  obtain ⟨xs, k, _, _, hl, hxl, hf⟩ := DataW.trod_struct hs h
  rw [cells_pr] at hl
  obtain ⟨c0, c1, rfl⟩ := list2t hl
  have g : ∀ (i : Nat) (f : Field) (c : Value), #[f0, f1][i]? = some f → f.type = 3 → [c0, c1].drop i = c :: [c0, c1].drop (i + 1) → ∃ z : Int, c = .int .i64 z := fun i f c hi ht hd => by
    obtain ⟨o, k1⟩ := Deep.hone_of hone i f hi
    have h1 := hf i f hi
    have hi7 : i < 2 := (Array.getElem?_eq_some_iff.1 hi).1
    rw [o, k1, hd, ht, List.getElem?_eq_getElem (show i < xs.length by rw [hxl]; exact hi7)] at h1
    obtain ⟨z, hz, _⟩ := DataW.trod_int Tryz.underlying3 h1
    simp only [List.take_succ_cons, List.take_zero, List.cons.injEq, and_true] at hz
    exact ⟨z, hz⟩
  obtain ⟨z0, rfl⟩ := g 0 f0 c0 rfl t0 rfl
  obtain ⟨z1, rfl⟩ := g 1 f1 c1 rfl t1 rfl
  exact ⟨(z0, z1), rfl⟩
theorem trod_sa {w : World} {base : Nat} {spare : Nat → Bool} {held : Bool} {n : Nat} {cs : List Value} {x : DataW H × List MemPlace} (h : DataW.trod enc Tryz.prog w base spare held n 57 cs = some x) : ∃ s : Sal, cs = encS s := by
  obtain ⟨f0, f1, f2, hs, hone, t0, t1, t2⟩ := fields_sa
  obtain ⟨xs, k, _, _, hl, hxl, hf⟩ := DataW.trod_struct hs h
  rw [cells_sa] at hl
  obtain ⟨c0, c1, c2, rfl⟩ := list3t hl
  have g : ∀ (i : Nat) (f : Field) (c : Value), #[f0, f1, f2][i]? = some f → f.type = 3 → [c0, c1, c2].drop i = c :: [c0, c1, c2].drop (i + 1) → ∃ z : Int, c = .int .i64 z := fun i f c hi ht hd => by
    obtain ⟨o, k1⟩ := Deep.hone_of hone i f hi
    have h1 := hf i f hi
    have hi7 : i < 3 := (Array.getElem?_eq_some_iff.1 hi).1
    rw [o, k1, hd, ht, List.getElem?_eq_getElem (show i < xs.length by rw [hxl]; exact hi7)] at h1
    obtain ⟨z, hz, _⟩ := DataW.trod_int Tryz.underlying3 h1
    simp only [List.take_succ_cons, List.take_zero, List.cons.injEq, and_true] at hz
    exact ⟨z, hz⟩
  obtain ⟨z0, rfl⟩ := g 0 f0 c0 rfl t0 rfl
  obtain ⟨z1, rfl⟩ := g 1 f1 c1 rfl t1 rfl
  obtain ⟨z2, rfl⟩ := g 2 f2 c2 rfl t2 rfl
  exact ⟨⟨z0, z1, z2⟩, rfl⟩
theorem trod_li {w : World} {held : Bool} {n : Nat} {cs : List Value} {x : DataW H × List MemPlace} (h : DataW.trod enc Tryz.prog w 0 (fun _ => true) held n 24 cs = some x) :
    ∃ v : LV, (v.n ≤ maxLen ∧ ∃ zs, SaS w v.A v.n zs) ∧ cs = encLV v := by
  obtain ⟨f0, f1, hs, hone, t0, t1⟩ := fields_li
  obtain ⟨xs, k, _, _, hl, hxl, hf⟩ := DataW.trod_struct hs h
  rw [cells_li] at hl
  obtain ⟨c0, c1, rfl⟩ := list2t hl
  obtain ⟨o0, k0⟩ := Deep.hone_of hone 0 f0 rfl
  have h0 := hf 0 f0 rfl
  rw [o0, k0, t0, List.getElem?_eq_getElem (show 0 < xs.length by rw [hxl]; exact Nat.zero_lt_two)] at h0
  obtain ⟨z, hz, _⟩ := DataW.trod_int Tryz.underlying3 h0
  simp only [List.drop_zero, List.take_succ_cons, List.take_zero, List.cons.injEq, and_true] at hz
  subst hz
  obtain ⟨o1, k1⟩ := Deep.hone_of hone 1 f1 rfl
  have h1 := hf 1 f1 rfl
  rw [o1, k1, t1, List.getElem?_eq_getElem (show 1 < xs.length by rw [hxl]; exact Nat.one_lt_two)] at h1
  obtain ⟨a, l, c, e1⟩ := Joins.slice_form Tryz.underlying22 h1
  simp only [List.drop_succ_cons, List.drop_zero, List.take_succ_cons, List.take_zero, List.cons.injEq, and_true] at e1
  subst e1
  obtain ⟨zs, hzs, hm⟩ := sl_of_trod Tryz.underlying22 cells_sa encS_len (by decide) (fun _ _ _ h => trod_sa h) h1
  exact ⟨⟨z, a, l, c⟩, ⟨hm, zs, hzs⟩, rfl⟩
set_option maxRecDepth 100000 in
/-- A listing that came in. -/
theorem open_lst {r : Reach} {b0 : Nat} {W : World} {v : Value} {d : DataW H} {p : List MemPlace} (hv : Value.okWide Tryz.prog W r b0 24 v) (h : DataW.Trod enc Tryz.prog W 0 (fun _ => true) true 24 v d p) :
    ∃ (i : Int) (a : Option Addr) (n c : Nat) (xs : List Sal), v = .agg #[.int .i64 i, .slice a n c] ∧ n ≤ maxLen ∧ SaS W a n xs := by
  obtain ⟨v0, v1, y0, y1, n, rfl, _, _, h0, h1⟩ := Joins.open_agg2 Tryz.underlying24 (by kernel_rfl) cells_li hv h
  obtain ⟨z, e0, _⟩ := DataW.trod_int Tryz.underlying3 h0
  obtain ⟨a, l, c, e1⟩ := Joins.slice_form Tryz.underlying22 h1
  simp only [List.cons.injEq, and_true] at e0 e1
  subst e0
  subst e1
  obtain ⟨zs, hs, hm⟩ := sl_of_trod Tryz.underlying22 cells_sa encS_len (by decide) (fun _ _ _ h => trod_sa h) h1
  exact ⟨z, a, l, c, zs, rfl, hm, hs⟩
set_option maxRecDepth 100000 in
/-- A list of listings that came in. -/
theorem open_list {r : Reach} {b0 : Nat} {W : World} {v : Value} {d : DataW H} {p : List MemPlace} (hv : Value.okWide Tryz.prog W r b0 33 v) (h : DataW.Trod enc Tryz.prog W 0 (fun _ => true) true 33 v d p) :
    ∃ (a : Option Addr) (n c : Nat) (ls : List Lst), v = .slice a n c ∧ LsS W a n ls := by
  obtain ⟨a0, l, c, rfl⟩ := okWide_slice Tryz.underlying33 hv
  obtain ⟨fuel, hf⟩ := h
  haveI : Inhabited LV := ⟨⟨0, none, 0, 0⟩⟩
  obtain ⟨vs, h1, _, h3⟩ := sl_of_trodQ (k := 2) (encα := encLV) (fun v : LV => v.n ≤ maxLen ∧ ∃ zs, SaS W v.A v.n zs) Tryz.underlying33 cells_li encLV_len (by decide) (fun _ _ _ h => trod_li h) (by simpa [Value.cells] using hf)
  have hex : ∀ v : LV, ∃ zs : List Sal, v ∈ vs → SaS W v.A v.n zs := fun v => by
    by_cases hv : v ∈ vs
    · obtain ⟨_, zs, hz⟩ := h3 v hv
      exact ⟨zs, fun _ => hz⟩
    · exact ⟨[], fun h => absurd h hv⟩
  obtain ⟨f, hf⟩ := Classical.axiomOfChoice hex
  refine ⟨a0, l, c, vs.map (fun v => ⟨v.id, f v⟩), rfl, ⟨vs, h1, by simp, fun i v x hv hx => ?_⟩⟩
  rw [List.getElem?_map, hv] at hx
  have hx' : (⟨v.id, f v⟩ : Lst) = x := by simpa using hx
  subst hx'
  have hm := List.mem_of_getElem? hv
  exact ⟨rfl, (h3 v hm).1, hf v hm⟩
set_option maxRecDepth 100000 in
/-- Pairs that came in. -/
theorem open_pairs {r : Reach} {b0 : Nat} {W : World} {v : Value} {d : DataW H} {p : List MemPlace} (hv : Value.okWide Tryz.prog W r b0 43 v) (h : DataW.Trod enc Tryz.prog W 0 (fun _ => true) true 43 v d p) :
    ∃ (a : Option Addr) (n c : Nat) (l : List (Int × Int)), v = .slice a n c ∧ Sl W 0 W.heap.size 2 encE a n l := by
  obtain ⟨a0, l, c, rfl⟩ := okWide_slice Tryz.underlying43 hv
  obtain ⟨fuel, hf⟩ := h
  obtain ⟨zs, h1, _⟩ := sl_of_trod (k := 2) Tryz.underlying43 cells_pr encE_len (by decide) (fun _ _ _ h => trod_pr h) (by simpa [Value.cells] using hf)
  exact ⟨a0, l, c, zs, rfl, h1⟩
end

/-! ### The input that fits. -/
def intsOf : DataW Unit → List Int
  | .agg ds => ds.filterMap fun | .lit (.int _ z) => some z | _ => none
  | _ => []
def bytesOf : DataW Unit → List UInt8
  | .iface _ (.ptr (.agg [.lit (.string s)])) => s
  | _ => []
noncomputable def low : Nat := (World.holding Tryz.prog default ⟨#[], #[], []⟩).heap.size
def ints2 : DataW Unit → List Int
  | .agg ds => ds.flatMap intsOf
  | _ => []
noncomputable def laidWorld (os : Os) : World :=
  let w0 := World.holding Tryz.prog os ⟨#[.cells #[.string ⟨(bytesOf Rows.laid_strconv_ErrRange).toArray⟩] 193, .cells #[.string ⟨(bytesOf Rows.laid_strconv_ErrSyntax).toArray⟩] 193], #[], []⟩
  let put (h : Array Obj) (g : Nat) (cs : Array Value) : Array Obj := h.modify g fun
    | .cells _ t frozen => .cells cs t frozen
    | o => o
  { w0 with heap := put (put (put (put (put (put (put w0.heap 6 ((intsOf Rows.laid_math_bits_deBruijn32tab).map fun z => Value.int .u8 z).toArray) 7 ((intsOf Rows.laid_math_bits_deBruijn64tab).map fun z => Value.int .u8 z).toArray)
      3 ((intsOf Rows.laid_internal_strconv_uint64pow10).map fun z => Value.int .u64 z).toArray) 5 ((ints2 Rows.laid_unicode_utf8_acceptRanges).map fun z => Value.int .u8 z).toArray) 4 ((intsOf Rows.laid_unicode_utf8_first).map fun z => Value.int .u8 z).toArray) 2 #[.iface 191 (.pointer (some ⟨low, 0, none⟩))]) 1 #[.iface 191 (.pointer (some ⟨low + 1, 0, none⟩))] }
set_option maxRecDepth 100000 in
theorem laid_met (os : Os) (args : Array Value) : laidMet Tryz.prog laidL ((laidWorld os).forCall (fun _ _ => 0) ⟨#[], args, []⟩).memory :=
  laidMet_of_run' 8 (by kernel_rfl) (by kernel_rfl)
end Go.Proofs.YtccmchmemafjdaaGreatDoor
