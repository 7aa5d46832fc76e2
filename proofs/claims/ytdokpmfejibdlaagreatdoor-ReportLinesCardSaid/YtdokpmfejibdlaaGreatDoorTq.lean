/- What the cards of chapter 54 share: what the rows' lists give, arguments opened, the input that fits, what a law that returns true leaves. -/
import Derived.Test.YtdokpmfejibdlaaGreatDoorCards
import Derived.Test.YtdokpmfejibdlaaGreatDoorTie
import Derived.Test.YtdokpmfejibdlaaGreatDoorStd
import Derived.WalkKit
import Derived.ProofKit
import Derived.OpenShut
import Derived.Deep.DeepHandedRow
import Derived.Deep.DeepWitnessRowRef
import Derived.Deep.SlicePairs
import Derived.Lib.LaidTab
import Derived.Stop.LaidErr
import Derived.Carry
import Derived.Test.YtdokpmfejibdlaaGreatDoorSc
import Derived.Test.YtdokpmfejibdlaaGreatDoorSs
import Derived.Deep.Fields
import Derived.Deep.Slices
import Derived.Lib.SmallJoins
import Derived.WideKeyArgs
import Derived.Laws.IdiomArrays
set_option linter.unusedSimpArgs false
set_option linter.unusedVariables false
namespace Go.Proofs.YtdokpmfejibdlaaGreatDoor
open Go.ChangeShapes Go.WideShapes Go.ChangeAt Go.RowKit

theorem own : ownKnob Tryz.prog.godebug = none := by kernel_rfl
theorem laidOut : laidOutB Tryz.prog = true := by kernel_rfl
def laidL : List (String × DataW Unit) := Rows.reportOrdersRow.laid
def laidC : List (String × DataW Unit) := Rows.reportCountsRow.laid
theorem gTabType : (Tryz.prog.globals[3]?).map (·.type) = some 223 := by kernel_rfl
theorem gSyn : Tryz.prog.globalNamed "strconv.ErrSyntax" = some 1 := by kernel_rfl
theorem gRan : Tryz.prog.globalNamed "strconv.ErrRange" = some 2 := by kernel_rfl
theorem gSynType : (Tryz.prog.globals[1]?).map (·.type) = some 45 := by kernel_rfl
theorem gRanType : (Tryz.prog.globals[2]?).map (·.type) = some 45 := by kernel_rfl
theorem cells_u64 : Tryz.prog.cellsOf 114 = 1 := by kernel_rfl
theorem cells_tab : Tryz.prog.cellsOf 223 = 20 := by kernel_rfl
theorem cells_str : Tryz.prog.cellsOf 9 = 1 := by kernel_rfl
theorem cells_es : Tryz.prog.cellsOf 213 = 1 := by kernel_rfl
theorem star_es : "*" ++ "errors.errorString" = "*errors.errorString" := by decide
theorem row_es (u : TypeId) (h : Tryz.prog.typeName? 3 u = some "*errors.errorString") : u = 211 :=
  typeName_ptr_named (nm := "errors.errorString") (by rw [star_es]; kernel_rfl) (by kernel_rfl) (by decide) u (by rw [star_es]; exact h)

theorem var_lt {P : Program} {W : World} {n : String} {cs : Array Value} {g : Nat} (hg : P.globalNamed n = some g) (h : W.var? P n = some cs) : g < W.heap.size := by
  unfold World.var? at h
  simp only [hg, Option.bind_some] at h
  rcases Nat.lt_or_ge g W.heap.size with h' | h'
  · exact h'
  · simp [Array.getElem?_eq_none h'] at h
theorem g64 : Tryz.prog.globalNamed "math/bits.deBruijn64tab" = some 7 := by kernel_rfl
theorem laid_head {P : Program} {W : World} {n : String} {d : DataW Unit} {r : List (String × DataW Unit)} (h : laidMet P ((n, d) :: r) W) : ∃ cs, W.var? P n = some cs := by
  obtain ⟨_, ⟨g, t, cs, f, p, q, _, _, hv, _⟩, _⟩ := h
  exact ⟨cs, hv⟩

/-- What the rows' lists and the world's shape give. -/
theorem env_of {W : World} (h : laidMetH Tryz.prog laidL W) (hsh : W.ShapedOpen Tryz.prog) : Env W := by
  have h0 : laidMet Tryz.prog laidL W := h
  have hsz : 8 ≤ W.heap.size := by
    obtain ⟨cs, hv⟩ := laid_head h0.tail
    exact var_lt g64 hv
  refine ⟨hsz, Tryz.laysM146.s1_3 W hsh, ?_⟩
  exact Lib.tabIs_of_head gTab gTabType Tryz.underlying223 Tryz.underlying114 cells_u64 cells_tab h0.tail.tail
theorem envA_of {W : World} (h : laidMetH Tryz.prog laidC W) (hsh : W.ShapedOpen Tryz.prog) : EnvA W := by
  have h0 : laidMet Tryz.prog laidC W := h
  have hsz : 8 ≤ W.heap.size := by
    obtain ⟨cs, hv⟩ := laid_head h0.tail
    exact var_lt g64 hv
  refine ⟨⟨hsz, Tryz.laysM146.s1_3 W hsh, ?_⟩, ?_, ?_⟩
  · exact Lib.tabIs_of_head gTab gTabType Tryz.underlying223 Tryz.underlying114 cells_u64 cells_tab h0.tail.tail
  · obtain ⟨a, s, hv, _⟩ := laid_sentinel h0.tail.tail.tail.tail.tail gSyn gSynType Tryz.underlying45 row_es Tryz.underlying211 Tryz.underlying213 rfl rfl Tryz.underlying9 cells_es cells_str
    exact ⟨_, _, by simpa using World.var?_cell gSyn hv 0⟩
  · obtain ⟨a, s, hv, _⟩ := laid_sentinel h0.tail.tail.tail.tail gRan gRanType Tryz.underlying45 row_es Tryz.underlying211 Tryz.underlying213 rfl rfl Tryz.underlying9 cells_es cells_str
    exact ⟨_, _, by simpa using World.var?_cell gRan hv 0⟩
end Go.Proofs.YtdokpmfejibdlaaGreatDoor
set_option linter.unusedSimpArgs false
set_option linter.unusedVariables false
namespace Go.Proofs.YtdokpmfejibdlaaGreatDoor
open Go.ChangeShapes Go.WideShapes Go.ChangeAt Go.RowKit

section
variable {H : Type} {enc : TypeId × Value → H}
/-- Below the heap's old size nothing has turned: the arguments read as they did. -/
theorem trodAll_stays {W W' : World} {sp' : Nat → Bool} (hb : Below W.heap.size W W') : ∀ {ts : List TypeId} {vs : List Value} {ds : List (DataW H)} {ps : List MemPlace},
    (∀ t ∈ ts, Tryz.prog.readableRec t = true ∧ t < Tryz.prog.types.size) → DataW.TrodAll enc Tryz.prog W 0 (fun _ => true) true ts vs ds ps → (∀ p ∈ ps, p.block < W.heap.size) → (∀ p ∈ ps, sp' p.block = true) →
    DataW.TrodAll enc Tryz.prog W' 0 sp' true ts vs ds ps
  | [], _, _, _, _, h, _, _ => by
    obtain ⟨rfl, rfl, rfl⟩ := trodAll_nil h
    exact trodAll_mk0
  | t :: ts, _, _, _, ht, h, hlt, hs => by
    obtain ⟨v, vs1, d, ds1, a, b, rfl, rfl, rfl, h1, h2⟩ := trodAll_cons h
    refine ⟨a, b, ?_, ?_, rfl⟩
    · exact WideElems.Trod_stays laidOut (ht t (by simp)).1 (ht t (by simp)).2 h1 (fun p hp => hb.same (hlt p (by simp [hp]))) (fun p hp => hs p (by simp [hp]))
    · exact trodAll_stays hb (fun t' h' => ht t' (by simp [h'])) h2 (fun p hp => hlt p (by simp [hp])) (fun p hp => hs p (by simp [hp]))

theorem cell_lt {w : World} {a : Addr} {v : Value} (h : w.cell? a = some v) : a.block < w.heap.size := by
  rcases Nat.lt_or_ge a.block w.heap.size with h' | h'
  · exact h'
  · simp [World.cell?, Array.getElem?_eq_none h'] at h

/-- A LAW THAT RETURNED true: what the row asks. -/
theorem law_post {f : Func} {s : ChangeSpec} {W W' : World} {args : Array Value} {ds gs : List (DataW H)} {before : List MemPlace}
    (hW : DataW.Whole enc Tryz.prog f.params.toList s.vars false W args.toList ds gs before) (hv : s.vars = []) (hfn : s.fn H ds = { results := [.lit (.bool true)], args := ds })
    (hr : f.resultTypes = #[4]) (hp : ∀ t ∈ f.params.toList, Tryz.prog.readableRec t = true ∧ t < Tryz.prog.types.size) (hb : Below W.heap.size W W') :
    s.post enc Tryz.prog f false true false false W args (.bool true) W' := by
  have hW' := hW
  have hlt := hW.lt
  obtain ⟨p, q, hA, hV, rfl, hfz, hnd⟩ := hW
  rw [hv] at hV
  obtain ⟨rfl, rfl⟩ := trodVars_none hV
  have e : s.fn H (ds ++ []) = { results := [.lit (.bool true)], args := ds } := by rw [List.append_nil]; exact hfn
  have hold : ∀ x ∈ p, (fun b => decide (b < W.heap.size)) x.block = true := fun x hx => by simpa using hlt x (by simp [hx])
  refine ⟨ds, [], p ++ [], [], p, [], hW', ?_, ?_, ?_, hb.frame _, fun h => by cases h⟩
  · rw [e, hr]
    exact trodAll_mk1 (shut_bool Tryz.underlying4 true)
  · rw [e]
    exact trodAll_stays hb hp hA (fun x hx => hlt x (by simp [hx])) hold
  · rw [e, hv]; rfl

/-! ### Arguments opened. -/
set_option maxRecDepth 100000 in
theorem cells_sp : Tryz.prog.cellsOf 34 = 7 := by kernel_rfl
set_option maxRecDepth 100000 in
theorem cells_die : Tryz.prog.cellsOf 72 = 2 := by kernel_rfl
theorem list7 {α : Type} {l : List α} (h : l.length = 7) : ∃ a b c d e f g, l = [a, b, c, d, e, f, g] := by
  match l, h with
  | [a, b, c, d, e, f, g], _ => exact ⟨a, b, c, d, e, f, g, rfl⟩
set_option maxRecDepth 100000 in
theorem fields_sp : ∃ f0 f1 f2 f3 f4 f5 f6 : Field, Tryz.prog.underlying 34 = some (.struct #[f0, f1, f2, f3, f4, f5, f6]) ∧ Deep.oneCellFields Tryz.prog #[f0, f1, f2, f3, f4, f5, f6] = true ∧ (f0.type = 3 ∧ f1.type = 3 ∧ f2.type = 3 ∧ f3.type = 3 ∧ f4.type = 3 ∧ f5.type = 3 ∧ f6.type = 3) :=
  ⟨_, _, _, _, _, _, _, Tryz.underlying34, by kernel_rfl, rfl, rfl, rfl, rfl, rfl, rfl, rfl⟩
theorem trod_sp {w : World} {base : Nat} {spare : Nat → Bool} {held : Bool} {n : Nat} {cs : List Value} {x : DataW H × List MemPlace} (h : DataW.trod enc Tryz.prog w base spare held n 34 cs = some x) : ∃ s : Spm, cs = encS s := by
  obtain ⟨f0, f1, f2, f3, f4, f5, f6, hs, hone, t0, t1, t2, t3, t4, t5, t6⟩ := fields_sp
  obtain ⟨xs, k, _, _, hl, hxl, hf⟩ := DataW.trod_struct hs h
  rw [cells_sp] at hl
  obtain ⟨c0, c1, c2, c3, c4, c5, c6, rfl⟩ := list7 hl
  have g : ∀ (i : Nat) (f : Field) (c : Value), #[f0, f1, f2, f3, f4, f5, f6][i]? = some f → f.type = 3 → [c0, c1, c2, c3, c4, c5, c6].drop i = c :: [c0, c1, c2, c3, c4, c5, c6].drop (i + 1) → ∃ z : Int, c = .int .i64 z := fun i f c hi ht hd => by
    obtain ⟨o, k1⟩ := Deep.hone_of hone i f hi
    have h1 := hf i f hi
    have hi7 : i < 7 := (Array.getElem?_eq_some_iff.1 hi).1
    rw [o, k1, hd, ht, List.getElem?_eq_getElem (show i < xs.length by rw [hxl]; exact hi7)] at h1
    obtain ⟨z, hz, _⟩ := DataW.trod_int Tryz.underlying3 h1
    simp only [List.take_succ_cons, List.take_zero, List.cons.injEq, and_true] at hz
    exact ⟨z, hz⟩
  obtain ⟨z0, rfl⟩ := g 0 f0 c0 rfl t0 rfl
  obtain ⟨z1, rfl⟩ := g 1 f1 c1 rfl t1 rfl
  obtain ⟨z2, rfl⟩ := g 2 f2 c2 rfl t2 rfl
  obtain ⟨z3, rfl⟩ := g 3 f3 c3 rfl t3 rfl
  obtain ⟨z4, rfl⟩ := g 4 f4 c4 rfl t4 rfl
  obtain ⟨z5, rfl⟩ := g 5 f5 c5 rfl t5 rfl
  obtain ⟨z6, rfl⟩ := g 6 f6 c6 rfl t6 rfl
  exact ⟨⟨z0, z1, z2, z3, z4, z5, z6⟩, rfl⟩
set_option maxRecDepth 100000 in
/-- A specimen that came in. -/
theorem open_sp {r : Reach} {b0 : Nat} {W : World} {v : Value} {d : DataW H} {p : List MemPlace} (hv : Value.okWide Tryz.prog W r b0 34 v) (h : DataW.Trod enc Tryz.prog W 0 (fun _ => true) true 34 v d p) :
    ∃ x : Spm, v = .agg #[.int .i64 x.id, .int .i64 x.obv, .int .i64 x.rev, .int .i64 x.os, .int .i64 x.rs, .int .i64 x.ax, .int .i64 x.wt] := by
  obtain ⟨cs, rfl, hsz⟩ := okWide_struct Tryz.underlying34 hv
  obtain ⟨fuel, hf⟩ := h
  obtain ⟨x, hx⟩ := trod_sp hf
  refine ⟨x, ?_⟩
  have : cs.toList = encS x := by simpa [Value.cells] using hx
  have h2 : cs = (encS x).toArray := by rw [← this]
  rw [h2]; rfl
set_option maxRecDepth 100000 in
/-- A die that came in. -/
theorem open_die {r : Reach} {b0 : Nat} {W : World} {v : Value} {d : DataW H} {p : List MemPlace} (hv : Value.okWide Tryz.prog W r b0 72 v) (h : DataW.Trod enc Tryz.prog W 0 (fun _ => true) true 72 v d p) :
    ∃ a b : Int, v = .agg #[.int .i64 a, .int .i64 b] := by
  obtain ⟨v0, v1, y0, y1, n, rfl, _, _, h0, h1⟩ := Joins.open_agg2 Tryz.underlying72 (by kernel_rfl) cells_die hv h
  obtain ⟨a, ha, _⟩ := DataW.trod_int Tryz.underlying3 h0
  obtain ⟨b, hb, _⟩ := DataW.trod_int Tryz.underlying3 h1
  simp only [List.cons.injEq, and_true] at ha hb
  exact ⟨a, b, by rw [ha, hb]⟩
set_option maxRecDepth 100000 in
/-- Three numbers that came in. -/
theorem open_three {r : Reach} {b0 : Nat} {W : World} {v : Value} {d : DataW H} {p : List MemPlace} (hv : Value.okWide Tryz.prog W r b0 30 v) (h : DataW.Trod enc Tryz.prog W 0 (fun _ => true) true 30 v d p) :
    ∃ a b c : Int, v = .agg #[.int .i64 a, .int .i64 b, .int .i64 c] := by
  obtain ⟨cs, rfl, hsz, _⟩ : ∃ cs, v = .agg cs ∧ cs.size = Tryz.prog.cellsOf 30 ∧ Row.okWide Tryz.prog W r b0 30 cs := by
    simpa [Value.okWide, Tryz.underlying30] using hv
  obtain ⟨c0, c1, c2, rfl⟩ := Joins.array3 (hsz.trans (show Tryz.prog.cellsOf 30 = 3 by kernel_rfl))
  obtain ⟨fuel, hf⟩ := h
  obtain ⟨y0, y1, y2, m, hx, hy0, hy1, hy2⟩ := trod_array3 Tryz.underlying30 (show Tryz.prog.cellsOf 3 = 1 by kernel_rfl) hf
  obtain ⟨z0, e0, _⟩ := DataW.trod_int Tryz.underlying3 hy0
  obtain ⟨z1, e1, _⟩ := DataW.trod_int Tryz.underlying3 hy1
  obtain ⟨z2, e2, _⟩ := DataW.trod_int Tryz.underlying3 hy2
  simp only [List.cons.injEq, and_true] at e0 e1 e2
  exact ⟨z0, z1, z2, by rw [e0, e1, e2]⟩
set_option maxRecDepth 100000 in
/-- A list of specimens that came in. -/
theorem open_sl {r : Reach} {b0 : Nat} {W : World} {v : Value} {d : DataW H} {p : List MemPlace} (hv : Value.okWide Tryz.prog W r b0 22 v) (h : DataW.Trod enc Tryz.prog W 0 (fun _ => true) true 22 v d p) :
    ∃ (a : Option Addr) (len cap : Nat) (zs : List Spm), v = .slice a len cap ∧ Sl W 0 W.heap.size 7 encS a len zs ∧ len ≤ maxLen := by
  obtain ⟨a0, l, c, rfl⟩ := okWide_slice Tryz.underlying22 hv
  obtain ⟨fuel, hf⟩ := h
  rcases Deep.open_slice Tryz.underlying22 hf with ⟨hc, _⟩ | ⟨a, len, cap, m, n, D, Pl, hc, _, hl, hm, hmm, _, hall⟩
  · simp [Value.cells] at hc
    obtain ⟨rfl, rfl, rfl⟩ := hc
    exact ⟨none, 0, 0, [], rfl, Sl.nil, Nat.zero_le _⟩
  · simp [Value.cells] at hc
    obtain ⟨rfl, rfl, rfl⟩ := hc
    simp only [if_true] at hmm
    have each : ∀ i, i < l → ∃ q : Spm, ∀ j u, (encS q)[j]? = some u → W.cell? (a.add (i * 7 + j)) = some u := fun i hi => by
      obtain ⟨cs', h1, h2⟩ := hall i (by omega)
      rw [cells_sp] at h1
      obtain ⟨_, _, hcell⟩ := World.cells?_some h1
      obtain ⟨x, rfl⟩ := trod_sp h2
      refine ⟨x, fun j u hj => ?_⟩
      have hj7 : j < 7 := (List.getElem?_eq_some_iff.1 hj).1
      have := hcell j hj7
      rw [Deep.add_add] at this
      rw [this]; exact hj
    haveI : Inhabited Spm := ⟨⟨0, 0, 0, 0, 0, 0, 0⟩⟩
    obtain ⟨q, hq⟩ := Deep.choose_lt each
    refine ⟨some a, l, c, (List.range l).map q, rfl, ?_, by omega⟩
    refine ⟨by simp, fun h0 => ?_⟩
    obtain ⟨b, off, spot⟩ := a
    have hs : spot = none := by simpa [Addr.add] using World.cell?_spot (hq 0 h0 0 _ rfl)
    subst hs
    have hlt : b < W.heap.size := cell_lt (hq 0 h0 0 _ rfl)
    refine ⟨b, off, rfl, Nat.zero_le _, hlt, fun i x hx j u hu => ?_⟩
    have hi : i < l := by
      have := (List.getElem?_eq_some_iff.1 hx).1
      simpa using this
    have hxe : q i = x := by simpa [hi] using hx
    subst hxe
    have g0 := hq i hi j u hu
    rw [add_plain] at g0
    rw [Nat.add_assoc]; exact g0
end

/-! ### The input that fits. -/
def intsOf : DataW Unit → List Int
  | .agg ds => ds.filterMap fun | .lit (.int _ z) => some z | _ => none
  | _ => []
def bytesOf : DataW Unit → List UInt8
  | .iface _ (.ptr (.agg [.lit (.string s)])) => s
  | _ => []
noncomputable def low : Nat := (World.holding Tryz.prog default ⟨#[], #[], []⟩).heap.size
def ints2 : DataW Unit → List Int
  | .agg ds => ds.flatMap intsOf
  | _ => []
noncomputable def laidWorld (os : Os) : World :=
  let w0 := World.holding Tryz.prog os ⟨#[.cells #[.string ⟨(bytesOf Rows.laid_strconv_ErrRange).toArray⟩] 213, .cells #[.string ⟨(bytesOf Rows.laid_strconv_ErrSyntax).toArray⟩] 213], #[], []⟩
  let put (h : Array Obj) (g : Nat) (cs : Array Value) : Array Obj := h.modify g fun
    | .cells _ t frozen => .cells cs t frozen
    | o => o
  { w0 with heap := put (put (put (put (put (put (put w0.heap 6 ((intsOf Rows.laid_math_bits_deBruijn32tab).map fun z => Value.int .u8 z).toArray) 7 ((intsOf Rows.laid_math_bits_deBruijn64tab).map fun z => Value.int .u8 z).toArray)
      3 ((intsOf Rows.laid_internal_strconv_uint64pow10).map fun z => Value.int .u64 z).toArray) 5 ((ints2 Rows.laid_unicode_utf8_acceptRanges).map fun z => Value.int .u8 z).toArray) 4 ((intsOf Rows.laid_unicode_utf8_first).map fun z => Value.int .u8 z).toArray) 2 #[.iface 211 (.pointer (some ⟨low, 0, none⟩))]) 1 #[.iface 211 (.pointer (some ⟨low + 1, 0, none⟩))] }
set_option maxRecDepth 100000 in
theorem laid_met (os : Os) (args : Array Value) : laidMet Tryz.prog laidL ((laidWorld os).forCall (fun _ _ => 0) ⟨#[], args, []⟩).memory :=
  laidMet_of_run' 8 (by kernel_rfl) (by kernel_rfl)
set_option maxRecDepth 100000 in
theorem laid_metC (os : Os) (args : Array Value) : laidMet Tryz.prog laidC ((laidWorld os).forCall (fun _ _ => 0) ⟨#[], args, []⟩).memory :=
  laidMet_of_run' 8 (by kernel_rfl) (by kernel_rfl)
end Go.Proofs.YtdokpmfejibdlaaGreatDoor
