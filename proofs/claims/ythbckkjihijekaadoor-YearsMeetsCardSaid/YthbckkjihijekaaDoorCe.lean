/- What the cards of this seat share: arguments opened, the input that fits, what a law that returns true leaves. -/
import Derived.Test.YthbckkjihijekaaDoorCd
import Derived.Test.YthbckkjihijekaaDoorCp
import Derived.Lib.SmallJoins
import Derived.WideKeyArgs
set_option linter.unusedSimpArgs false
set_option linter.unusedVariables false
namespace Go.Proofs.YthbckkjihijekaaDoor
open Go.ChangeShapes Go.WideShapes Go.ChangeAt Go.RowKit

section
variable {H : Type} {enc : TypeId × Value → H}
/-- Below the heap's old size nothing has turned: the arguments read as they did. -/
theorem trodAll_stays {W W' : World} {sp' : Nat → Bool} (hb : Below W.heap.size W W') : ∀ {ts : List TypeId} {vs : List Value} {ds : List (DataW H)} {ps : List MemPlace},
    (∀ t ∈ ts, Tryd.prog.readableRec t = true ∧ t < Tryd.prog.types.size) → DataW.TrodAll enc Tryd.prog W 0 (fun _ => true) true ts vs ds ps → (∀ p ∈ ps, p.block < W.heap.size) → (∀ p ∈ ps, sp' p.block = true) →
    DataW.TrodAll enc Tryd.prog W' 0 sp' true ts vs ds ps
  | [], _, _, _, _, h, _, _ => by
    obtain ⟨rfl, rfl, rfl⟩ := trodAll_nil h
    exact trodAll_mk0
  | t :: ts, _, _, _, ht, h, hlt, hs => by
    obtain ⟨v, vs1, d, ds1, a, b, rfl, rfl, rfl, h1, h2⟩ := trodAll_cons h
    refine ⟨a, b, ?_, ?_, rfl⟩
    · exact WideElems.Trod_stays laidOut (ht t (by simp)).1 (ht t (by simp)).2 h1 (fun p hp => hb.same (hlt p (by simp [hp]))) (fun p hp => hs p (by simp [hp]))
    · exact trodAll_stays hb (fun t' h' => ht t' (by simp [h'])) h2 (fun p hp => hlt p (by simp [hp])) (fun p hp => hs p (by simp [hp]))

theorem cell_lt {w : World} {a : Addr} {v : Value} (h : w.cell? a = some v) : a.block < w.heap.size := by
  rcases Nat.lt_or_ge a.block w.heap.size with h' | h'
  · exact h'
  · simp [World.cell?, Array.getElem?_eq_none h'] at h

/-- A LAW THAT RETURNED true: what the row asks. -/
theorem law_post {f : Func} {s : ChangeSpec} {W W' : World} {args : Array Value} {ds gs : List (DataW H)} {before : List MemPlace}
    (hW : DataW.Whole enc Tryd.prog f.params.toList s.vars false W args.toList ds gs before) (hv : s.vars = []) (hfn : s.fn H ds = { results := [.lit (.bool true)], args := ds })
    (hr : f.resultTypes = #[4]) (hp : ∀ t ∈ f.params.toList, Tryd.prog.readableRec t = true ∧ t < Tryd.prog.types.size) (hb : Below W.heap.size W W') :
    s.post enc Tryd.prog f false true false false W args (.bool true) W' := by
  have hW' := hW
  have hlt := hW.lt
  obtain ⟨p, q, hA, hV, rfl, hfz, hnd⟩ := hW
  rw [hv] at hV
  obtain ⟨rfl, rfl⟩ := trodVars_none hV
  have e : s.fn H (ds ++ []) = { results := [.lit (.bool true)], args := ds } := by rw [List.append_nil]; exact hfn
  have hold : ∀ x ∈ p, (fun b => decide (b < W.heap.size)) x.block = true := fun x hx => by simpa using hlt x (by simp [hx])
  refine ⟨ds, [], p ++ [], [], p, [], hW', ?_, ?_, ?_, hb.frame _, fun h => by cases h⟩
  · rw [e, hr]
    exact trodAll_mk1 (shut_bool Tryd.underlying4 true)
  · rw [e]
    exact trodAll_stays hb hp hA (fun x hx => hlt x (by simp [hx])) hold
  · rw [e, hv]; rfl

/-! ### Arguments opened. -/
set_option maxRecDepth 100000 in
theorem cells_y : Tryd.prog.cellsOf 23 = 2 := by kernel_rfl
theorem cells_i : Tryd.prog.cellsOf 3 = 1 := by kernel_rfl
set_option maxRecDepth 100000 in
theorem open_years {r : Reach} {b0 : Nat} {W : World} {v : Value} {d : DataW H} {p : List MemPlace} (hv : Value.okWide Tryd.prog W r b0 23 v) (h : DataW.Trod enc Tryd.prog W 0 (fun _ => true) true 23 v d p) :
    ∃ a b : Int, v = .agg #[.int .i64 a, .int .i64 b] := by
  obtain ⟨v0, v1, y0, y1, n, rfl, _, _, h0, h1⟩ := Joins.open_agg2 Tryd.underlying23 (by kernel_rfl) cells_y hv h
  obtain ⟨a, ha, _⟩ := DataW.trod_int Tryd.underlying3 h0
  obtain ⟨b, hb, _⟩ := DataW.trod_int Tryd.underlying3 h1
  simp only [List.cons.injEq, and_true] at ha hb
  exact ⟨a, b, by rw [ha, hb]⟩
set_option maxRecDepth 100000 in
/-- A []api.Years that came in. -/
theorem open_yl {r : Reach} {b0 : Nat} {W : World} {v : Value} {d : DataW H} {p : List MemPlace} (hv : Value.okWide Tryd.prog W r b0 42 v) (h : DataW.Trod enc Tryd.prog W 0 (fun _ => true) true 42 v d p) :
    ∃ (a : Option Addr) (len cap : Nat) (zs : List (Int × Int)), v = .slice a len cap ∧ Sl W 0 W.heap.size 2 encY a len zs ∧ len ≤ maxLen := by
  obtain ⟨a0, l, c, rfl⟩ := okWide_slice Tryd.underlying42 hv
  obtain ⟨fuel, hf⟩ := h
  rcases Deep.open_slice_pairs Tryd.underlying42 Tryd.underlying23 cells_y rfl rfl cells_i cells_i hf with ⟨hc, _⟩ | ⟨a, len, cap, m, k, V0, V1, D0, D1, P0, P1, hc, _, hl, hm, hmm, _, hall⟩
  · simp [Value.cells] at hc
    obtain ⟨rfl, rfl, rfl⟩ := hc
    exact ⟨none, 0, 0, [], rfl, Sl.nil, Nat.zero_le _⟩
  · simp [Value.cells] at hc
    obtain ⟨rfl, rfl, rfl⟩ := hc
    simp only [if_true] at hmm
    have each : ∀ i, i < l → ∃ q : Int × Int, W.cell? (a.add (i * 2)) = some (.int .i64 q.1) ∧ W.cell? (a.add (i * 2 + 1)) = some (.int .i64 q.2) := fun i hi => by
      obtain ⟨g0, g1, t0, t1⟩ := hall i (by omega)
      obtain ⟨x, hx, _⟩ := DataW.trod_int Tryd.underlying3 t0
      obtain ⟨y, hy, _⟩ := DataW.trod_int Tryd.underlying3 t1
      simp only [List.cons.injEq, and_true] at hx hy
      exact ⟨(x, y), by rw [g0, hx], by rw [g1, hy]⟩
    obtain ⟨q, hq⟩ := Deep.choose_lt each
    refine ⟨some a, l, c, (List.range l).map q, rfl, ?_, by omega⟩
    refine ⟨by simp, fun h0 => ?_⟩
    obtain ⟨b, off, spot⟩ := a
    have hs : spot = none := by simpa [Addr.add] using World.cell?_spot (hq 0 h0).1
    subst hs
    have hlt : b < W.heap.size := cell_lt (hq 0 h0).1
    refine ⟨b, off, rfl, Nat.zero_le _, hlt, fun i x hx j u hu => ?_⟩
    have hi : i < l := by
      have := (List.getElem?_eq_some_iff.1 hx).1
      simpa using this
    have hxe : q i = x := by simpa [hi] using hx
    subst hxe
    have g0 := (hq i hi).1
    have g1 := (hq i hi).2
    rw [add_plain] at g0 g1
    match j, hu with
    | 0, hu => simp [encY] at hu; subst hu; exact g0
    | 1, hu => simp [encY] at hu; subst hu; exact g1
    | j + 2, hu => simp [encY] at hu
end

/-! ### The input that fits. -/
def intsOf : DataW Unit → List Int
  | .agg ds => ds.filterMap fun | .lit (.int _ z) => some z | _ => none
  | _ => []
def bytesOf : DataW Unit → List UInt8
  | .iface _ (.ptr (.agg [.lit (.string s)])) => s
  | _ => []
noncomputable def low : Nat := (World.holding Tryd.prog default ⟨#[], #[], []⟩).heap.size
noncomputable def laidWorld (os : Os) : World :=
  let w0 := World.holding Tryd.prog os ⟨#[.cells #[.string ⟨(bytesOf Rows.laid_strconv_ErrRange).toArray⟩] 135, .cells #[.string ⟨(bytesOf Rows.laid_strconv_ErrSyntax).toArray⟩] 135], #[], []⟩
  let put (h : Array Obj) (g : Nat) (cs : Array Value) : Array Obj := h.modify g fun
    | .cells _ t frozen => .cells cs t frozen
    | o => o
  { w0 with heap := put (put (put (put (put w0.heap 4 ((intsOf Rows.laid_math_bits_deBruijn32tab).map fun z => Value.int .u8 z).toArray) 5 ((intsOf Rows.laid_math_bits_deBruijn64tab).map fun z => Value.int .u8 z).toArray)
      3 ((intsOf Rows.laid_internal_strconv_uint64pow10).map fun z => Value.int .u64 z).toArray) 2 #[.iface 133 (.pointer (some ⟨low, 0, none⟩))]) 1 #[.iface 133 (.pointer (some ⟨low + 1, 0, none⟩))] }
set_option maxRecDepth 100000 in
theorem laid_met (os : Os) (args : Array Value) : laidMet Tryd.prog laidL ((laidWorld os).forCall (fun _ _ => 0) ⟨#[], args, []⟩).memory :=
  laidMet_of_run' 8 (by kernel_rfl) (by kernel_rfl)
end Go.Proofs.YthbckkjihijekaaDoor
