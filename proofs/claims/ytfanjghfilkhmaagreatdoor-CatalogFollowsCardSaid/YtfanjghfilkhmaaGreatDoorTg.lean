/- What the cards of chapter 47 share: arguments opened, the input that fits, what a law that returns true leaves. -/
import Derived.Test.YtfanjghfilkhmaaGreatDoorCards
import Derived.Test.YtfanjghfilkhmaaGreatDoorTie
import Derived.Test.YtfanjghfilkhmaaGreatDoorStd
import Derived.WalkKit
import Derived.ProofKit
import Derived.OpenShut
import Derived.Deep.DeepHandedRow
import Derived.Deep.DeepWitnessRowRef
import Derived.Deep.SlicePairs
import Derived.Lib.LaidTab
import Derived.Stop.LaidErr
import Derived.Carry
import Derived.Test.YtfanjghfilkhmaaGreatDoorOp
import Derived.Test.YtfanjghfilkhmaaGreatDoorGa
import Derived.Deep.Fields
import Derived.Deep.Slices
import Derived.Lib.SmallJoins
import Derived.WideKeyArgs
set_option linter.unusedSimpArgs false
set_option linter.unusedVariables false
namespace Go.Proofs.YtfanjghfilkhmaaGreatDoor
open Go.ChangeShapes Go.WideShapes Go.ChangeAt Go.RowKit

theorem own : ownKnob Tryz.prog.godebug = none := by kernel_rfl
theorem laidOut : laidOutB Tryz.prog = true := by kernel_rfl
def laidL : List (String × DataW Unit) := Rows.catalogNextsRow.laid
theorem gTabType : (Tryz.prog.globals[1]?).map (·.type) = some 155 := by kernel_rfl
theorem gSyn : Tryz.prog.globalNamed "strconv.ErrSyntax" = some 2 := by kernel_rfl
theorem gRan : Tryz.prog.globalNamed "strconv.ErrRange" = some 3 := by kernel_rfl
theorem gSynType : (Tryz.prog.globals[2]?).map (·.type) = some 72 := by kernel_rfl
theorem gRanType : (Tryz.prog.globals[3]?).map (·.type) = some 72 := by kernel_rfl
theorem cells_u64 : Tryz.prog.cellsOf 105 = 1 := by kernel_rfl
theorem cells_tab : Tryz.prog.cellsOf 155 = 20 := by kernel_rfl
theorem cells_str : Tryz.prog.cellsOf 9 = 1 := by kernel_rfl
theorem cells_es : Tryz.prog.cellsOf 173 = 1 := by kernel_rfl
theorem star_es : "*" ++ "errors.errorString" = "*errors.errorString" := by decide
theorem row_es (u : TypeId) (h : Tryz.prog.typeName? 3 u = some "*errors.errorString") : u = 171 :=
  typeName_ptr_named (nm := "errors.errorString") (by rw [star_es]; kernel_rfl) (by kernel_rfl) (by decide) u (by rw [star_es]; exact h)

theorem var_lt {P : Program} {W : World} {n : String} {cs : Array Value} {g : Nat} (hg : P.globalNamed n = some g) (h : W.var? P n = some cs) : g < W.heap.size := by
  unfold World.var? at h
  simp only [hg, Option.bind_some] at h
  rcases Nat.lt_or_ge g W.heap.size with h' | h'
  · exact h'
  · simp [Array.getElem?_eq_none h'] at h
theorem g64 : Tryz.prog.globalNamed "math/bits.deBruijn64tab" = some 7 := by kernel_rfl
theorem laid_head {P : Program} {W : World} {n : String} {d : DataW Unit} {r : List (String × DataW Unit)} (h : laidMet P ((n, d) :: r) W) : ∃ cs, W.var? P n = some cs := by
  obtain ⟨_, ⟨g, t, cs, f, p, q, _, _, hv, _⟩, _⟩ := h
  exact ⟨cs, hv⟩

/-- What the row's list and the world's shape give. -/
theorem env_of {W : World} (h : laidMetH Tryz.prog laidL W) (hsh : W.ShapedOpen Tryz.prog) : Env W := by
  have h0 : laidMet Tryz.prog laidL W := h
  have hsz : 8 ≤ W.heap.size := by
    obtain ⟨cs, hv⟩ := laid_head h0.tail
    exact var_lt g64 hv
  refine ⟨hsz, Tryz.laysM145.s1_3 W hsh, ?_, ?_, ?_⟩
  · exact Lib.tabIs_of_head gTab gTabType Tryz.underlying155 Tryz.underlying105 cells_u64 cells_tab h0.tail.tail
  · obtain ⟨a, s, hv, _⟩ := laid_sentinel h0.tail.tail.tail.tail.tail gSyn gSynType Tryz.underlying72 row_es Tryz.underlying171 Tryz.underlying173 rfl rfl Tryz.underlying9 cells_es cells_str
    exact ⟨_, _, by simpa using World.var?_cell gSyn hv 0⟩
  · obtain ⟨a, s, hv, _⟩ := laid_sentinel h0.tail.tail.tail.tail gRan gRanType Tryz.underlying72 row_es Tryz.underlying171 Tryz.underlying173 rfl rfl Tryz.underlying9 cells_es cells_str
    exact ⟨_, _, by simpa using World.var?_cell gRan hv 0⟩
end Go.Proofs.YtfanjghfilkhmaaGreatDoor
set_option linter.unusedSimpArgs false
set_option linter.unusedVariables false
namespace Go.Proofs.YtfanjghfilkhmaaGreatDoor
open Go.ChangeShapes Go.WideShapes Go.ChangeAt Go.RowKit

section
variable {H : Type} {enc : TypeId × Value → H}
/-- Below the heap's old size nothing has turned: the arguments read as they did. -/
theorem trodAll_stays {W W' : World} {sp' : Nat → Bool} (hb : Below W.heap.size W W') : ∀ {ts : List TypeId} {vs : List Value} {ds : List (DataW H)} {ps : List MemPlace},
    (∀ t ∈ ts, Tryz.prog.readableRec t = true ∧ t < Tryz.prog.types.size) → DataW.TrodAll enc Tryz.prog W 0 (fun _ => true) true ts vs ds ps → (∀ p ∈ ps, p.block < W.heap.size) → (∀ p ∈ ps, sp' p.block = true) →
    DataW.TrodAll enc Tryz.prog W' 0 sp' true ts vs ds ps
  | [], _, _, _, _, h, _, _ => by
    obtain ⟨rfl, rfl, rfl⟩ := trodAll_nil h
    exact trodAll_mk0
  | t :: ts, _, _, _, ht, h, hlt, hs => by
    obtain ⟨v, vs1, d, ds1, a, b, rfl, rfl, rfl, h1, h2⟩ := trodAll_cons h
    refine ⟨a, b, ?_, ?_, rfl⟩
    · exact WideElems.Trod_stays laidOut (ht t (by simp)).1 (ht t (by simp)).2 h1 (fun p hp => hb.same (hlt p (by simp [hp]))) (fun p hp => hs p (by simp [hp]))
    · exact trodAll_stays hb (fun t' h' => ht t' (by simp [h'])) h2 (fun p hp => hlt p (by simp [hp])) (fun p hp => hs p (by simp [hp]))

theorem cell_lt {w : World} {a : Addr} {v : Value} (h : w.cell? a = some v) : a.block < w.heap.size := by
  rcases Nat.lt_or_ge a.block w.heap.size with h' | h'
  · exact h'
  · simp [World.cell?, Array.getElem?_eq_none h'] at h

/-- A LAW THAT RETURNED true: what the row asks. -/
theorem law_post {f : Func} {s : ChangeSpec} {W W' : World} {args : Array Value} {ds gs : List (DataW H)} {before : List MemPlace}
    (hW : DataW.Whole enc Tryz.prog f.params.toList s.vars false W args.toList ds gs before) (hv : s.vars = []) (hfn : s.fn H ds = { results := [.lit (.bool true)], args := ds })
    (hr : f.resultTypes = #[4]) (hp : ∀ t ∈ f.params.toList, Tryz.prog.readableRec t = true ∧ t < Tryz.prog.types.size) (hb : Below W.heap.size W W') :
    s.post enc Tryz.prog f false true false false W args (.bool true) W' := by
  have hW' := hW
  have hlt := hW.lt
  obtain ⟨p, q, hA, hV, rfl, hfz, hnd⟩ := hW
  rw [hv] at hV
  obtain ⟨rfl, rfl⟩ := trodVars_none hV
  have e : s.fn H (ds ++ []) = { results := [.lit (.bool true)], args := ds } := by rw [List.append_nil]; exact hfn
  have hold : ∀ x ∈ p, (fun b => decide (b < W.heap.size)) x.block = true := fun x hx => by simpa using hlt x (by simp [hx])
  refine ⟨ds, [], p ++ [], [], p, [], hW', ?_, ?_, ?_, hb.frame _, fun h => by cases h⟩
  · rw [e, hr]
    exact trodAll_mk1 (shut_bool Tryz.underlying4 true)
  · rw [e]
    exact trodAll_stays hb hp hA (fun x hx => hlt x (by simp [hx])) hold
  · rw [e, hv]; rfl

/-! ### Arguments opened. -/
set_option maxRecDepth 100000 in
theorem cells_ed : Tryz.prog.cellsOf 25 = 2 := by kernel_rfl
set_option maxRecDepth 100000 in
theorem cells_en : Tryz.prog.cellsOf 36 = 2 := by kernel_rfl
theorem cells_in : Tryz.prog.cellsOf 3 = 1 := by kernel_rfl
theorem cells_sl : Tryz.prog.cellsOf 23 = 1 := by kernel_rfl
theorem list2 {α : Type} {l : List α} (h : l.length = 2) : ∃ a b, l = [a, b] := by
  match l, h with
  | [a, b], _ => exact ⟨a, b, rfl⟩
set_option maxRecDepth 100000 in
theorem fields_en : ∃ f0 f1 : Field, Tryz.prog.underlying 36 = some (.struct #[f0, f1]) ∧ Deep.oneCellFields Tryz.prog #[f0, f1] = true ∧ (f0.type = 3 ∧ f1.type = 3) :=
  ⟨_, _, Tryz.underlying36, by kernel_rfl, rfl, rfl⟩
theorem trod_en {w : World} {base : Nat} {spare : Nat → Bool} {held : Bool} {n : Nat} {cs : List Value} {x : DataW H × List MemPlace} (h : DataW.trod enc Tryz.prog w base spare held n 36 cs = some x) : ∃ s : Int × Int, cs = encE s := by
  obtain ⟨f0, f1, hs, hone, t0, t1⟩ := fields_en
  obtain ⟨xs, k, _, _, hl, hxl, hf⟩ := DataW.trod_struct hs h
  rw [cells_en] at hl
  obtain ⟨c0, c1, rfl⟩ := list2 hl
  have g : ∀ (i : Nat) (f : Field) (c : Value), #[f0, f1][i]? = some f → f.type = 3 → [c0, c1].drop i = c :: [c0, c1].drop (i + 1) → ∃ z : Int, c = .int .i64 z := fun i f c hi ht hd => by
    obtain ⟨o, k1⟩ := Deep.hone_of hone i f hi
    have h1 := hf i f hi
    have hi7 : i < 2 := (Array.getElem?_eq_some_iff.1 hi).1
    rw [o, k1, hd, ht, List.getElem?_eq_getElem (show i < xs.length by rw [hxl]; exact hi7)] at h1
    obtain ⟨z, hz, _⟩ := DataW.trod_int Tryz.underlying3 h1
    simp only [List.take_succ_cons, List.take_zero, List.cons.injEq, and_true] at hz
    exact ⟨z, hz⟩
  obtain ⟨z0, rfl⟩ := g 0 f0 c0 rfl t0 rfl
  obtain ⟨z1, rfl⟩ := g 1 f1 c1 rfl t1 rfl
  exact ⟨(z0, z1), rfl⟩
theorem trod_in {w : World} {base : Nat} {spare : Nat → Bool} {held : Bool} {n : Nat} {cs : List Value} {x : DataW H × List MemPlace} (h : DataW.trod enc Tryz.prog w base spare held n 3 cs = some x) : ∃ s : Int, cs = encI s := cs_int Tryz.underlying3 h
set_option maxRecDepth 100000 in
/-- An edition that came in. -/
theorem open_ed {r : Reach} {b0 : Nat} {W : World} {v : Value} {d : DataW H} {p : List MemPlace} (hv : Value.okWide Tryz.prog W r b0 25 v) (h : DataW.Trod enc Tryz.prog W 0 (fun _ => true) true 25 v d p) :
    ∃ (a : Option Addr) (n c : Nat) (a' : Option Addr) (n' c' : Nat) (e : Ed), v = .agg #[.slice a n c, .slice a' n' c'] ∧ EdS W a n a' n' e := by
  obtain ⟨v0, v1, y0, y1, n, rfl, _, _, h0, h1⟩ := Joins.open_agg2 Tryz.underlying25 (by kernel_rfl) cells_ed hv h
  obtain ⟨a, l, c, e0⟩ := Joins.slice_form Tryz.underlying22 h0
  obtain ⟨a', l', c', e1⟩ := Joins.slice_form Tryz.underlying23 h1
  simp only [List.cons.injEq, and_true] at e0 e1
  subst e0
  subst e1
  obtain ⟨es, hs, _⟩ := sl_of_trod Tryz.underlying22 cells_en encE_len (by decide) (fun _ _ _ h => trod_en h) h0
  obtain ⟨rs, hs', _⟩ := sl_of_trod Tryz.underlying23 cells_in encI_len (by decide) (fun _ _ _ h => trod_in h) h1
  exact ⟨a, l, c, a', l', c', ⟨es, rs⟩, rfl, hs, hs'⟩
set_option maxRecDepth 100000 in
/-- Keys that came in. -/
theorem open_keys {r : Reach} {b0 : Nat} {W : World} {v : Value} {d : DataW H} {p : List MemPlace} (hv : Value.okWide Tryz.prog W r b0 23 v) (h : DataW.Trod enc Tryz.prog W 0 (fun _ => true) true 23 v d p) :
    ∃ (a : Option Addr) (n c : Nat) (l : List Int), v = .slice a n c ∧ Sl W 0 W.heap.size 1 encI a n l := by
  obtain ⟨a0, l, c, rfl⟩ := okWide_slice Tryz.underlying23 hv
  obtain ⟨fuel, hf⟩ := h
  obtain ⟨zs, h1, _⟩ := sl_of_trod (k := 1) Tryz.underlying23 cells_in encI_len (by decide) (fun _ _ _ h => trod_in h) (by simpa [Value.cells] using hf)
  exact ⟨a0, l, c, zs, rfl, h1⟩
end

/-! ### The input that fits. -/
def intsOf : DataW Unit → List Int
  | .agg ds => ds.filterMap fun | .lit (.int _ z) => some z | _ => none
  | _ => []
def bytesOf : DataW Unit → List UInt8
  | .iface _ (.ptr (.agg [.lit (.string s)])) => s
  | _ => []
noncomputable def low : Nat := (World.holding Tryz.prog default ⟨#[], #[], []⟩).heap.size
def ints2 : DataW Unit → List Int
  | .agg ds => ds.flatMap intsOf
  | _ => []
noncomputable def laidWorld (os : Os) : World :=
  let w0 := World.holding Tryz.prog os ⟨#[.cells #[.string ⟨(bytesOf Rows.laid_strconv_ErrRange).toArray⟩] 173, .cells #[.string ⟨(bytesOf Rows.laid_strconv_ErrSyntax).toArray⟩] 173], #[], []⟩
  let put (h : Array Obj) (g : Nat) (cs : Array Value) : Array Obj := h.modify g fun
    | .cells _ t frozen => .cells cs t frozen
    | o => o
  { w0 with heap := put (put (put (put (put (put (put w0.heap 6 ((intsOf Rows.laid_math_bits_deBruijn32tab).map fun z => Value.int .u8 z).toArray) 7 ((intsOf Rows.laid_math_bits_deBruijn64tab).map fun z => Value.int .u8 z).toArray)
      1 ((intsOf Rows.laid_internal_strconv_uint64pow10).map fun z => Value.int .u64 z).toArray) 5 ((ints2 Rows.laid_unicode_utf8_acceptRanges).map fun z => Value.int .u8 z).toArray) 4 ((intsOf Rows.laid_unicode_utf8_first).map fun z => Value.int .u8 z).toArray) 3 #[.iface 171 (.pointer (some ⟨low, 0, none⟩))]) 2 #[.iface 171 (.pointer (some ⟨low + 1, 0, none⟩))] }
set_option maxRecDepth 100000 in
theorem laid_met (os : Os) (args : Array Value) : laidMet Tryz.prog laidL ((laidWorld os).forCall (fun _ _ => 0) ⟨#[], args, []⟩).memory :=
  laidMet_of_run' 8 (by kernel_rfl) (by kernel_rfl)
end Go.Proofs.YtfanjghfilkhmaaGreatDoor
