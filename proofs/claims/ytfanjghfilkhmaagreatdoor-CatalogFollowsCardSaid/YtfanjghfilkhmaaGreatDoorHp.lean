/- Behind the loop of the program's Parse: the sort, the way out (chapter 47). -/
import Derived.Test.YtfanjghfilkhmaaGreatDoorGz
import Derived.RangeFuncWrites
import Derived.RangeFuncLeaves
import Derived.Test.YtfanjghfilkhmaaGreatDoorGw
import Derived.Test.YtfanjghfilkhmaaGreatDoorGs
set_option linter.unusedSimpArgs false
set_option linter.unusedVariables false
namespace Go.Proofs.YtfanjghfilkhmaaGreatDoor
open Go.RowKit

/-- What a round leaves as it lay: whatever is no cells from B on, and the iterator's cell. -/
structure RoundKeeps (B Bs : Nat) (W W' : World) : Prop where
  from_ : KeepsFrom B W W'
  cell : ∀ q, W.cell? ⟨Bs, 0, none⟩ = some q → W'.cell? ⟨Bs, 0, none⟩ = some q
  frz : W.frozen? ⟨Bs, 0, none⟩ = false → W'.frozen? ⟨Bs, 0, none⟩ = false
theorem putObj_cell {W : World} {l Bs : Nat} (h : Bs ≠ l) (o : Obj) : (W.putObj l o).cell? ⟨Bs, 0, none⟩ = W.cell? ⟨Bs, 0, none⟩ := World.cell?_of_block (World.putObj_heap_other h)
theorem putObj_frozen {W : World} {l Bs : Nat} (h : Bs ≠ l) (o : Obj) : (W.putObj l o).frozen? ⟨Bs, 0, none⟩ = W.frozen? ⟨Bs, 0, none⟩ := World.frozen?_of_block (World.putObj_heap_other h)
theorem setCell_keeps {W : World} {Bs l : Nat} {v : Value} {o : Obj} (h : Bs ≠ l) (hl : W.heap[l]? = some o) : (W.setCell ⟨Bs, 0, none⟩ v).heap[l]? = some o := (Below.heap_setCell W ⟨Bs, 0, none⟩ v l (fun e => h e.symm)).trans hl

set_option maxHeartbeats 2000000 in
theorem range_lines {g : Operand} {pp : Tmp} {assign body : Code} {Q : Exit → Act → World → Prop} {a : Act} {w : World} (Bs : Nat) (s : List UInt8) (hlen : s.length ≤ 100000)
    (hg : a.eval g = .func (.func 75) #[] #[.pointer (some ⟨Bs, 0, none⟩)])
    (hBs : w.cell? ⟨Bs, 0, none⟩ = some (.string ⟨s.toArray⟩)) (hfz : w.frozen? ⟨Bs, 0, none⟩ = false) (hlt : Bs < w.heap.size)
    (I : List (List UInt8) → World → Prop)
    (iset : ∀ pre W v, I pre W → I pre (W.setCell ⟨Bs, 0, none⟩ v)) (idrew : ∀ pre W, I pre W → I pre W.drew)
    (ialloc : ∀ pre W o, w.heap.size ≤ W.heap.size → I pre W → I pre (W.alloc o))
    (iput : ∀ pre W l o o', w.heap.size ≤ l → W.heap[l]? = some o → o.isCells = false → I pre W → I pre (W.putObj l o'))
    (h0 : I [] w)
    (hround : ∀ (l : Nat) (pre : List (List UInt8)) (x : List UInt8) (W : World) (K : Act → World → Prop), (∃ r, linesT s = pre ++ x :: r) → I pre W → w.heap.size ≤ W.heap.size →
      (∀ a₁, (∀ W₂, I pre W₂ → w.heap.size ≤ W₂.heap.size → body.wpIn (Fence.wide.inRound l) 7 Tryz.prog (fun e _ W' => e = .normal ∧ I (pre ++ [x]) W' ∧ RoundKeeps w.heap.size Bs W₂ W') a₁ W₂) → K a₁ W) →
      assign.wpIn (Fence.wide.inRound l) 7 Tryz.prog (Exit.then K (fun _ _ _ => False)) { tmps := a.tmps.setIfInBounds pp (.string ⟨x.toArray⟩), defers := [] } W)
    (hdone : ∀ D W, w.heap.size ≤ D → I (linesT s) W → W.heap[D]? = some (.deferred (some [])) → Q .normal { a with defers := { target := .collected D, args := #[] } :: a.defers } W) :
    (Code.rangeFunc g #[pp] assign body).wp Tryz.prog Q a w := by
  refine (wpIn_wide (n := 9)).1 (wpIn_rangeFunc ?_)
  intro fn hfn
  obtain ⟨rec, hrec⟩ : ∃ rec : LoopState → Loop, rec = fun st => { state := st, pending := none, fn, tmps := a.tmps, params := #[pp], assign, body, defers := w.heap.size } := ⟨_, rfl⟩
  obtain ⟨W1, hW1⟩ : ∃ W1, (w.alloc (.deferred (some []))).alloc (.loop (rec .ready)) = W1 := ⟨_, rfl⟩
  have hb1 : Below w.heap.size w W1 := by rw [← hW1]; exact ((Below.refl _ w).alloc (Nat.le_refl _) _).alloc (by simp) _
  have hz1 : W1.heap.size = w.heap.size + 2 := by rw [← hW1]; simp
  have hL1 : W1.heap[w.heap.size + 1]? = some (.loop (rec .ready)) := by
    rw [← hW1]; have := World.alloc_heap_new (w.alloc (.deferred (some []))) (.loop (rec .ready)); rwa [World.size_alloc] at this
  have hD1 : W1.heap[w.heap.size]? = some (.deferred (some [])) := by
    rw [← hW1]; exact (Below.heap_alloc _ _ _ (by simp)).trans (World.alloc_heap_new w _)
  have hI1 : I [] W1 := by rw [← hW1]; exact ialloc _ _ _ (by simp) (ialloc _ _ _ (Nat.le_refl _) h0)
  have hc1 : W1.cell? ⟨Bs, 0, none⟩ = some (.string ⟨s.toArray⟩) := (hb1.cell (p := ⟨Bs, 0, none⟩) hlt).trans hBs
  have hf1 : W1.frozen? ⟨Bs, 0, none⟩ = false := (hb1.frozen (p := ⟨Bs, 0, none⟩) hlt).trans hfz
  have hnl : Bs ≠ w.heap.size + 1 := by omega
  have hnd : Bs ≠ w.heap.size := by omega
  refine ⟨w.heap.size + 1, [{ target := .collected w.heap.size, args := #[] }], W1, { target := .fn (.func 75) #[.pointer (some ⟨Bs, 0, none⟩)], args := #[.func (.yield (w.heap.size + 1)) #[] #[]] }, W1, 75,
    #[.func (.yield (w.heap.size + 1)) #[] #[]] ++ #[.pointer (some ⟨Bs, 0, none⟩)], W1, ?_, ?_, ?_, ?_, fun h => absurd h (by simp [Fence.wide]), ?_⟩
  · rw [← hW1, hrec]; exact run_enterLoop_outer _ _ _ _ _
  · simp only [resolve, hg]
    simp [go_sem]
  · intro f' hf'; trivial
  · simp only [invoke]
    exact enters_of Tryz.func75 (by kernel_rfl) rfl _ _
  · refine (lines1_in 8 (w.heap.size + 1) Bs (by decide) s
      (fun pre W => I pre W ∧ W.heap[w.heap.size + 1]? = some (.loop (rec .ready)) ∧ W.heap[w.heap.size]? = some (.deferred (some []))) W1 hlen
      (fun pre W v h => ⟨iset _ _ _ h.1, setCell_keeps hnl h.2.1, setCell_keeps hnd h.2.2⟩)
      (fun pre W h => ⟨idrew _ _ h.1, h.2.1, h.2.2⟩) ?_ hc1 hf1 ⟨hI1, hL1, hD1⟩).mono ?_
    · rintro pre x W q hx ⟨hi, hl, hd⟩ hxl hc hf
      have hsz : w.heap.size ≤ W.heap.size := by have := (Array.getElem?_eq_some_iff.1 hl).1; omega
      have hy := run_yield (P := Tryz.prog) (args := #[.string ⟨x.toArray⟩]) hl (by rw [hrec]; rfl)
      rw [hrec] at hy
      have htm : ((#[pp] : Array Tmp).zip (#[.string ⟨x.toArray⟩] : Array Value)).foldl (fun t (p, v) => t.setIfInBounds p v) a.tmps = a.tmps.setIfInBounds pp (.string ⟨x.toArray⟩) := by simp
      refine ⟨fn, _, assign, body, hy, roundIn_of_wpIn hfn ?_⟩
      rw [htm]
      refine hround (w.heap.size + 1) pre x W _ hx hi hsz ?_
      · intro a1 hbody
        have hlt2 : w.heap.size + 1 < W.heap.size := (Array.getElem?_eq_some_iff.1 hl).1
        refine ⟨_, run_beginRound hl (by rw [hrec]), ?_⟩
        have hl2 : (W.putObj (w.heap.size + 1) (.loop { rec .ready with state := .busy })).heap[w.heap.size + 1]? = some (.loop { rec .ready with state := .busy }) := World.putObj_heap_same hlt2
        have hd2 : (W.putObj (w.heap.size + 1) (.loop { rec .ready with state := .busy })).heap[w.heap.size]? = some (.deferred (some [])) := (World.putObj_heap_other (by omega)).trans hd
        refine wpIn_mono (hbody _ (iput _ _ _ _ _ (by omega) hl rfl hi) (by simp; omega)) ?_
        rintro e a3 W3 ⟨rfl, hi3, hk3⟩
        have hl3 := hk3.from_.same _ _ (by omega) hl2 rfl
        have hd3 := hk3.from_.same _ _ (Nat.le_refl _) hd2 rfl
        have hend := run_endRound (P := Tryz.prog) none hl3
        refine ⟨_, _, hend, rfl, ⟨iput _ _ _ _ _ (by omega) hl3 rfl hi3, ?_, (World.putObj_heap_other (by omega)).trans hd3⟩, ?_, ?_⟩
        · have h4 := World.putObj_heap_same (o := .loop { { rec .ready with state := .busy } with state := .ready, pending := none }) (Array.getElem?_eq_some_iff.1 hl3).1
          rw [hrec] at h4 ⊢
          exact h4
        · rw [putObj_cell hnl]; exact hk3.cell _ (by rw [putObj_cell hnl]; exact hc)
        · rw [putObj_frozen hnl]; exact hk3.frz (by rw [putObj_frozen hnl]; exact hf)
    · rintro e W2 ⟨⟨v, rfl⟩, hi, hl, hd⟩
      have hend := run_endLoop (P := Tryz.prog) hl (by rw [hrec]; simp)
      rw [hrec] at hend
      exact ⟨none, _, hend, hdone _ _ (Nat.le_refl _) (iput _ _ _ _ _ (by omega) hl rfl hi) ((World.putObj_heap_other (by omega)).trans hd)⟩
end Go.Proofs.YtfanjghfilkhmaaGreatDoor
set_option linter.unusedSimpArgs false
set_option linter.unusedVariables false
namespace Go.Proofs.YtfanjghfilkhmaaGreatDoor

def colE (pre : List (List UInt8)) : Ed := (pre.map (fun l => Lib.trimSuffix l [10])).foldl stepP edZero
theorem colE_nil : colE [] = edZero := rfl
theorem colE_snoc (pre : List (List UInt8)) (x : List UInt8) : colE (pre ++ [x]) = stepP (colE pre) (Lib.trimSuffix x [10]) := by
  unfold colE; rw [List.map_append, List.foldl_append]; rfl
theorem colE_all (s : List UInt8) : colE (linesT s) = collP s := by unfold colE collP; rw [linesT_trim s.length s (Nat.le_refl _)]
theorem lines_sum : ∀ (n : Nat) (s : List UInt8), s.length ≤ n → ((linesT s).map List.length).sum = s.length ∧ ∀ x ∈ linesT s, x ≠ [] := by
  intro n
  induction n with
  | zero =>
    intro s h
    have : s = [] := List.eq_nil_of_length_eq_zero (by omega)
    subst this
    exact ⟨rfl, fun x hx => by cases hx⟩
  | succ n ih =>
    intro s h
    by_cases hm : (10 : UInt8) ∈ s
    · obtain ⟨d, r, rfl, hd⟩ := cut_at10 hm
      rw [linesT_cut d r hd]
      obtain ⟨h1, h2⟩ := ih r (by simp at h; omega)
      refine ⟨by simp [h1]; omega, fun x hx => ?_⟩
      rcases List.mem_cons.1 hx with rfl | hx
      · simp
      · exact h2 x hx
    · by_cases hs : s = []
      · subst hs; exact ⟨rfl, fun x hx => by cases hx⟩
      · rw [linesT_last hm hs]
        exact ⟨by simp, fun x hx => by rw [List.mem_singleton] at hx; rw [hx]; exact hs⟩
theorem words_le (c : UInt8) : ∀ l : List UInt8, (wordsL c l).length ≤ l.length + 1
  | [] => by simp [wordsL]
  | x :: l => by
    have ih := words_le c l
    have hn := wordsL_ne c l
    unfold wordsL
    split
    · simp; omega
    · split
      · rename_i h0; exact absurd h0 hn
      · rename_i y ys h0
        rw [h0] at ih
        simp at ih ⊢; omega
theorem trim10_le (l : List UInt8) : (Lib.trimSuffix l [10]).length ≤ l.length := trimS_len l [10]
theorem step_len (e : Ed) {x : List UInt8} (hx : x ≠ []) : (stepP e (Lib.trimSuffix x [10])).ents.length + (stepP e (Lib.trimSuffix x [10])).ret.length ≤ e.ents.length + e.ret.length + x.length := by
  have hx1 : 1 ≤ x.length := by
    cases x with
    | nil => exact absurd rfl hx
    | cons _ _ => simp
  have ht := trim10_le x
  generalize Lib.trimSuffix x [10] = t at *
  unfold stepP
  split
  · rename_i hp
    have hw := words_le 32 (t.drop 8)
    have hl : 8 ≤ t.length := by
      have := (List.isPrefixOf_iff_prefix.1 hp).length_le
      simpa [retP] using this
    simp at hw ⊢
    omega
  · simp; omega
theorem fold_len : ∀ (pre : List (List UInt8)) (e : Ed), (∀ x ∈ pre, x ≠ []) → ((pre.map (fun l => Lib.trimSuffix l [10])).foldl stepP e).ents.length + ((pre.map (fun l => Lib.trimSuffix l [10])).foldl stepP e).ret.length ≤ e.ents.length + e.ret.length + (pre.map List.length).sum
  | [], e, _ => by simp
  | x :: pre, e, h => by
    have h1 := step_len e (h x (by simp))
    have h2 := fold_len pre (stepP e (Lib.trimSuffix x [10])) (fun y hy => h y (by simp [hy]))
    simp only [List.map_cons, List.foldl_cons, List.sum_cons]
    omega
theorem colE_len (pre : List (List UInt8)) (h : ∀ x ∈ pre, x ≠ []) : (colE pre).ents.length + (colE pre).ret.length ≤ (pre.map List.length).sum := by
  have := fold_len pre edZero h
  simpa [colE, edZero] using this
/-- Behind some lines of a text of at most 4096 bytes there is room for more. -/
theorem colE_room {s : List UInt8} {pre : List (List UInt8)} {x : List UInt8} (h : ∃ r, linesT s = pre ++ x :: r) : (colE pre).ents.length + (colE pre).ret.length + x.length ≤ s.length := by
  obtain ⟨r, hr⟩ := h
  obtain ⟨h1, h2⟩ := lines_sum s.length s (Nat.le_refl _)
  have h3 := colE_len pre (fun y hy => h2 y (by rw [hr]; simp [hy]))
  rw [hr, List.map_append, List.sum_append, List.map_cons, List.sum_cons] at h1
  omega
theorem step_ret {e : Ed} {t : List UInt8} (h : Lib.hasPrefix t retP = true) : stepP e t = ⟨e.ents, e.ret ++ (wordsL 32 (Lib.trimPrefix t retP)).map numL⟩ := by
  unfold stepP Lib.trimPrefix
  have h' := h
  unfold Lib.hasPrefix at h'
  rw [if_pos h', if_pos h]
  rfl
theorem step_ent {e : Ed} {t : List UInt8} (h : Lib.hasPrefix t retP = false) : stepP e t = ⟨e.ents ++ [(numL (Lib.cut t [32, 61, 32]).2.1, numL (Lib.cut t [32, 61, 32]).1)], e.ret⟩ := by
  unfold stepP
  unfold Lib.hasPrefix at h
  rw [h]
  rfl
theorem cut_len1 (t : List UInt8) : (Lib.cut t [32, 61, 32]).1.length ≤ t.length := by
  unfold Lib.cut
  split
  · simp; omega
  · simp
theorem cut_len2 (t : List UInt8) : (Lib.cut t [32, 61, 32]).2.1.length ≤ t.length := by
  unfold Lib.cut
  split
  · simp
  · simp
theorem pre_len (t p : List UInt8) : (Lib.trimPrefix t p).length ≤ t.length := by
  unfold Lib.trimPrefix
  split
  · simp
  · exact Nat.le_refl _
end Go.Proofs.YtfanjghfilkhmaaGreatDoor
set_option linter.unusedSimpArgs false
set_option linter.unusedVariables false
namespace Go.Proofs.YtfanjghfilkhmaaGreatDoor
open Go.RowKit

/-- Only the normal way. -/
def OnlyN (Q : Exit → Act → World → Prop) (e : Exit) (a : Act) (w : World) : Prop := e = .normal ∧ Q .normal a w
def noDefer (ops : Array Oper) : Bool := ops.toList.all (fun o => match o.op with | .defer _ => false | _ => true)
theorem regionN {P : Program} {ops : Array Oper} {Q : Exit → Act → World → Prop} {l n id : Nat} {a : Act} {w : World} (hm : P.follows .mixedOrders = true) (hd : noDefer ops = true)
    (h : wpAny P .any ops (OnlyN Q) ops.size (Array.replicate ops.size false) a w.drew) : (Code.region id ops true).wpIn (Fence.wide.inRound l) n P Q a w := by
  refine wpIn_mono (regionR hm (fun j o ho c hc => ?_) ?_ h) ?_
  · unfold noDefer at hd
    have := List.all_eq_true.1 hd o (by
      obtain ⟨hj, rfl⟩ := Array.getElem?_eq_some_iff.1 ho
      exact Array.getElem_mem_toList hj)
    rw [hc] at this
    cases this
  · rintro ⟨a, w, h, _⟩; cases h
  · rintro e a w ⟨rfl, h⟩; exact h
theorem own_ne {W : World} {b b' : Nat} {e e' : TypeId} {k k' : Nat} {v v' : Value} {n n' : Nat} {xs xs' : List Value} (h : W.ownsRow b e k v n xs) (h' : W.ownsRow b' e' k' v' n' xs') (hne : e ≠ e') : v.ownBlock = none ∨ v.ownBlock ≠ v'.ownBlock := by
  rcases h.2 with ⟨rfl, _⟩ | ⟨g, cap, cur, rfl, _, hg, _⟩
  · exact .inl rfl
  · right
    rcases h'.2 with ⟨rfl, _⟩ | ⟨g', cap', cur', rfl, _, hg', _⟩
    · simp [Value.ownBlock]
    · intro e0
      obtain rfl : g = g' := by simpa [Value.ownBlock] using e0
      rw [hg] at hg'
      simp at hg'
      exact hne hg'.2
theorem own_cells {W : World} {b : Nat} {e : TypeId} {k : Nat} {v : Value} {n : Nat} {xs : List Value} (h : W.ownsRow b e k v n xs) : ∀ (j : Nat) (o : Obj), v.ownBlock = some j → W.heap[j]? = some o → o.isCells = true := by
  intro j o hj ho
  rcases h.2 with ⟨rfl, _⟩ | ⟨g, cap, cur, rfl, _, hg, _⟩
  · simp [Value.ownBlock] at hj
  · obtain rfl : g = j := by simpa [Value.ownBlock] using hj
    rw [hg] at ho; cases ho; rfl
/-! ### RoundKeeps. -/
section
variable {B Bs : Nat} {X Y Z : World}
theorem RoundKeeps.refl : RoundKeeps B Bs X X := ⟨KeepsFrom.refl _ _, fun _ h => h, fun h => h⟩
theorem RoundKeeps.trans (h : RoundKeeps B Bs X Y) (k : RoundKeeps B Bs Y Z) : RoundKeeps B Bs X Z := ⟨h.from_.trans k.from_, fun q hq => k.cell q (h.cell q hq), fun hf => k.frz (h.frz hf)⟩
theorem RoundKeeps.of_below (hb : Below X.heap.size X Y) (hBs : Bs < X.heap.size) : RoundKeeps B Bs X Y :=
  ⟨⟨hb.size, fun k o _ hk _ => (hb.block k (Array.getElem?_eq_some_iff.1 hk).1).trans hk⟩, fun q hq => (hb.cell (p := ⟨Bs, 0, none⟩) hBs).trans hq, fun hf => (hb.frozen (p := ⟨Bs, 0, none⟩) hBs).trans hf⟩
theorem RoundKeeps.set {b : Nat} (hne : Bs ≠ b) (j : Nat) (v : Value) : RoundKeeps B Bs X (X.setCell ⟨b, j, none⟩ v) :=
  ⟨(KeepsOthers.setCell X _ v).from B, fun q hq => (World.cell?_setCell_other X ⟨b, j, none⟩ ⟨Bs, 0, none⟩ v (fun e => hne (by cases e; rfl))).trans hq, fun hf => (World.frozen?_setCell _ _ _ _).trans hf⟩
theorem RoundKeeps.grown {e : TypeId} {k n : Nat} {v : Value} {xs : List Value} (hown : X.ownsRow B e k v n xs) (hg : X.grownBy Y v.ownBlock) (hB : Bs < B) (hX : Bs < X.heap.size) : RoundKeeps B Bs X Y := by
  have hne : some Bs ≠ v.ownBlock := fun e => by have := (hown.lt Bs e.symm).1; omega
  have hb := hg.block Bs hX hne
  exact ⟨(KeepsOthers.of_grownBy hg (own_cells hown)).from B, fun q hq => (World.cell?_of_block (w := X) (a := ⟨Bs, 0, none⟩) hb).trans hq, fun hf => (World.frozen?_of_block (w := X) (a := ⟨Bs, 0, none⟩) hb).trans hf⟩
end
/-- What the world holds: the result's box, the edition's box, the two rows that it holds; nothing below has turned. -/
structure PSt (w0 : World) (B0 B1 : Nat) (e : Ed) (vE vR : Value) (V : World) : Prop where
  R : Bx V B0 [.slice none 0 0, .slice none 0 0]
  O : Bx V (B0 + 1) [vE, vR]
  E : V.ownsRow B1 36 2 vE e.ents.length (e.ents.flatMap encE)
  T : V.ownsRow B1 3 1 vR e.ret.length (e.ret.flatMap encI)
  low : Below B0 w0 V
  big : B1 ≤ V.heap.size
section
variable {w0 V V' : World} {B0 B1 : Nat} {e : Ed} {vE vR : Value}
theorem PSt.up (h : PSt w0 B0 B1 e vE vR V) (hb : Below V.heap.size V V') (h0 : B0 ≤ B1) : PSt w0 B0 B1 e vE vR V' :=
  ⟨h.R.up hb, h.O.up hb, own_below' h.E hb, own_below' h.T hb, h.low.trans (hb.mono (Nat.le_trans h0 h.big)), Nat.le_trans h.big hb.size⟩
theorem PSt.set (h : PSt w0 B0 B1 e vE vR V) {p : Addr} (hp : B0 + 1 < p.block) (hp1 : p.block < B1) (v : Value) : PSt w0 B0 B1 e vE vR (V.setCell p v) :=
  ⟨h.R.far (by omega) v, h.O.far (by omega) v, ownsRow_setCell_below h.E hp1 v, ownsRow_setCell_below h.T hp1 v, h.low.setCell (by omega) v, by rw [size_set]; exact h.big⟩
theorem PSt.put (h : PSt w0 B0 B1 e vE vR V) {l : Nat} {o : Obj} (o' : Obj) (hl : B1 ≤ l) (h01 : B0 + 1 < B1) (ho : V.heap[l]? = some o) (hc : o.isCells = false) : PSt w0 B0 B1 e vE vR (V.putObj l o') :=
  ⟨h.R.grown (grownBy_putObj' V l o') (fun e => by injection e with e; omega), h.O.grown (grownBy_putObj' V l o') (fun e => by injection e with e; omega), ownsRow_putObj h.E o' ho hc, ownsRow_putObj h.T o' ho hc,
    h.low.grown (grownBy_putObj' V l o') (by have := h.big; omega) (fun k e => by injection e with e; omega), Nat.le_trans h.big (grownBy_putObj' V l o').size⟩
/-- A number more. -/
theorem PSt.appR (h : PSt w0 B0 B1 e vE vR V) (h01 : B0 + 1 < B1) {Bs : Nat} (hBs : Bs < B1) (hBn : Bs ≠ B0 + 1) {tmp : Obj} {w6 : World} {v' : Value} {x : Int} (hgrow : (V.alloc tmp).grownBy w6 vR.ownBlock) (hown' : w6.ownsRow B1 3 1 v' (e.ret.length + 1) (e.ret.flatMap encI ++ encI x)) :
    Bx w6 (B0 + 1) [vE, vR] ∧ PSt w0 B0 B1 ⟨e.ents, e.ret ++ [x]⟩ vE v' (w6.setCell ⟨B0 + 1, 1, none⟩ v') ∧ RoundKeeps B1 Bs V (w6.setCell ⟨B0 + 1, 1, none⟩ v') := by
  have hrow : ∀ b, b < B1 → vR.ownBlock ≠ some b := fun b hb e => by have := (h.T.lt b e).1; omega
  have O6 : Bx w6 (B0 + 1) [vE, vR] := (h.O.alloc tmp).grown hgrow (hrow _ h01)
  have hbig := h.big
  refine ⟨O6, ⟨((h.R.alloc tmp).grown hgrow (hrow _ (by omega))).far (by simp) _, O6.set (i := 1) (by simp) _, ?_, ?_, ?_, ?_⟩, ?_⟩
  · exact ownsRow_setCell_below ((h.E.alloc tmp).kept hgrow (own_ne (h.E.alloc tmp) (h.T.alloc tmp) (by decide))) (by simpa using h01) _
  · simp only [List.flatMap_append, List.length_append]
    exact ownsRow_setCell_below (by simpa using hown') (by simpa using h01) _
  · exact ((h.low.alloc (by omega) tmp).grown hgrow (by simp; omega) (fun k e => by have := (h.T.lt k e).1; omega)).setCell (by simp) _
  · rw [size_set]; have := hgrow.size; simp at this; omega
  · exact ((RoundKeeps.of_below (one_alloc V tmp) (by omega)).trans (RoundKeeps.grown (h.T.alloc tmp) hgrow hBs (by simp; omega))).trans (RoundKeeps.set hBn _ _)
/-- An entry more. -/
theorem PSt.appE (h : PSt w0 B0 B1 e vE vR V) (h01 : B0 + 1 < B1) {Bs : Nat} (hBs : Bs < B1) (hBn : Bs ≠ B0 + 1) {tmp : Obj} {w6 : World} {v' : Value} {x : Int × Int} (hgrow : (V.alloc tmp).grownBy w6 vE.ownBlock) (hown' : w6.ownsRow B1 36 2 v' (e.ents.length + 1) (e.ents.flatMap encE ++ encE x)) :
    Bx w6 (B0 + 1) [vE, vR] ∧ PSt w0 B0 B1 ⟨e.ents ++ [x], e.ret⟩ v' vR (w6.setCell ⟨B0 + 1, 0, none⟩ v') ∧ RoundKeeps B1 Bs V (w6.setCell ⟨B0 + 1, 0, none⟩ v') := by
  have hrow : ∀ b, b < B1 → vE.ownBlock ≠ some b := fun b hb e => by have := (h.E.lt b e).1; omega
  have O6 : Bx w6 (B0 + 1) [vE, vR] := (h.O.alloc tmp).grown hgrow (hrow _ h01)
  have hbig := h.big
  refine ⟨O6, ⟨((h.R.alloc tmp).grown hgrow (hrow _ (by omega))).far (by simp) _, O6.set (i := 0) (by simp) _, ?_, ?_, ?_, ?_⟩, ?_⟩
  · simp only [List.flatMap_append, List.length_append]
    exact ownsRow_setCell_below (by simpa using hown') (by simpa using h01) _
  · exact ownsRow_setCell_below ((h.T.alloc tmp).kept hgrow (own_ne (h.T.alloc tmp) (h.E.alloc tmp) (by decide))) (by simpa using h01) _
  · exact ((h.low.alloc (by omega) tmp).grown hgrow (by simp; omega) (fun k e => by have := (h.E.lt k e).1; omega)).setCell (by simp) _
  · rw [size_set]; have := hgrow.size; simp at this; omega
  · exact ((RoundKeeps.of_below (one_alloc V tmp) (by omega)).trans (RoundKeeps.grown (h.E.alloc tmp) hgrow hBs (by simp; omega))).trans (RoundKeeps.set hBn _ _)
end
end Go.Proofs.YtfanjghfilkhmaaGreatDoor
set_option linter.unusedSimpArgs false
set_option linter.unusedVariables false
namespace Go.Proofs.YtfanjghfilkhmaaGreatDoor
open Go.RowKit

theorem Sl.put {α : Type} {enc : α → List Value} {W : World} {L B k n l : Nat} {A : Option Addr} {xs : List α} {o : Obj} (h : Sl W L B k enc A n xs) (hl : W.heap[l]? = some o) (hc : o.isCells = false) (o' : Obj) : Sl (W.putObj l o') L B k enc A n xs :=
  ⟨h.1, fun hn => by
    obtain ⟨b, off, e, ha, hb, hcell⟩ := h.2 hn
    exact ⟨b, off, e, ha, hb, fun i x hx j u hu => cell_kept (hcell i x hx j u hu) (grownBy_putObj' W l o') (fun r e => by cases e; exact ⟨o, hl, hc⟩)⟩⟩
theorem fin_marks {P : Program} {Fc : Func} {tmps : Array Value} {D : Nat} {W : World} {v : Value} {R : Ending → World → Prop} (hdef : W.heap[D]? = some (.deferred (some [])))
    (hres : (results Fc tmps).run P (W.putObj D (.deferred none)) = .ok v (W.putObj D (.deferred none))) (h : R (.returned v) (W.putObj D (.deferred none))) :
    bodyPostM Fence.wide 9 P Fc R .ret { tmps := tmps, defers := [{ target := .collected D, args := #[] }] } W :=
  ⟨by simp, .inl ⟨D, _, rfl, run_takeDeferred hdef, v, hres, h⟩⟩
theorem coll_len (s : List UInt8) : (collP s).ents.length + (collP s).ret.length ≤ s.length := by
  obtain ⟨h1, h2⟩ := lines_sum s.length s (Nat.le_refl _)
  have := colE_len (linesT s) h2
  rw [colE_all, h1] at this
  exact this
theorem def_kept {W W' : World} {D : Nat} {o : Obj} (h : W.heap[D]? = some o) (hb : Below W.heap.size W W') : W'.heap[D]? = some o := (hb.block D (Array.getElem?_eq_some_iff.1 h).1).trans h
set_option maxHeartbeats 1000000 in
theorem psort_any {w0 W : World} {B0 B1 cE cR D : Nat} {AE AR : Option Addr} {e : Ed} (h01 : B0 + 1 < B1) (hn : e.ents.length ≤ 100000) (hP : PSt w0 B0 B1 e (.slice AE e.ents.length cE) (.slice AR e.ret.length cR) W) (hD : W.heap[D]? = some (.deferred (some []))) :
    Calls Tryz.prog 63 #[.slice AE e.ents.length cE, .func (.func 64) #[] #[]] W fun r W' => r = .returned (.tuple #[]) ∧ ∃ ys : List (Int × Int), ys.Perm e.ents ∧ ys.Pairwise (fun x y => x.1 ≤ y.1) ∧ (Sl W' B1 W'.heap.size 2 encE AE e.ents.length ys ∧ Sl W' B1 W'.heap.size 1 encI AR e.ret.length e.ret) ∧ Bx W' B0 [.slice none 0 0, .slice none 0 0] ∧ Bx W' (B0 + 1) [.slice AE e.ents.length cE, .slice AR e.ret.length cR] ∧ Below B0 w0 W' ∧ W'.heap[D]? = some (.deferred (some [])) ∧ W.heap.size ≤ W'.heap.size := by
  have hSr := Sl.of_own (enc := encI) encI_len hP.T rfl
  rcases Nat.eq_zero_or_pos e.ents.length with h0 | h0
  · have he : e.ents = [] := List.eq_nil_of_length_eq_zero h0
    rw [he]
    refine (sortFuncK_none _ _ _ _).mono ?_
    rintro r W' ⟨rfl, rfl⟩
    have hO := hP.O
    rw [he] at hO
    exact ⟨rfl, [], List.Perm.refl _, List.Pairwise.nil, ⟨Sl.nil, hSr⟩, hP.R, hO, hP.low, hD, Nat.le_refl _⟩
  · obtain ⟨m, hm⟩ : ∃ m, e.ents.length = m + 1 := ⟨e.ents.length - 1, by omega⟩
    have hE := hP.E
    have hO := hP.O
    have hne := own_ne hP.T hP.E (by decide)
    rw [hm] at hE hO hne ⊢
    obtain ⟨g, c2, hv⟩ := ownsRow_succ hE
    rw [hv] at hE hO hne ⊢
    injection hv with hv1 hv2 hv3
    rw [hv1]
    have hgl := hE.lt g rfl
    refine (sortFuncK B1 g (m + 1) c2 e.ents W hE hm hgl.1 hgl.2 (by omega)).mono ?_
    rintro r W' ⟨rfl, ys, hp, hpw, hS, hb, hk⟩
    have hbx : ∀ b vs, b < B1 → Bx W b vs → Bx W' b vs := fun b vs hb1 hB => by
      have hbk := hk b hB.lt (by omega)
      exact ⟨Nat.lt_of_lt_of_le hB.lt hb.size, fun j u hu => (World.cell?_of_block (w := W) (a := ⟨b, j, none⟩) hbk).trans (hB.cell j u hu), fun j => (World.frozen?_of_block (w := W) (a := ⟨b, j, none⟩) hbk).trans (hB.frz j)⟩
    refine ⟨rfl, ys, hp, hpw, ⟨(hS.less hgl.1).more (by have := hb.size; omega), ?_⟩, hbx _ _ (by omega) hP.R, hbx _ _ h01 hO, hP.low.trans (hb.mono (by omega)), ?_, hb.size⟩
    · refine ⟨hSr.1, fun hn0 => ?_⟩
      obtain ⟨b, off, ha, h1, h2, h3⟩ := hSr.2 hn0
      have hbg : b ≠ g := by
        rcases hne with h | h
        · rw [ha] at h; simp [Value.ownBlock] at h
        · rw [ha] at h; simp [Value.ownBlock] at h; exact h
      exact ⟨b, off, ha, h1, Nat.lt_of_lt_of_le h2 hb.size, fun i x hx j u hu => (World.cell?_of_block (w := W) (a := ⟨b, _, none⟩) (hk b h2 hbg)).trans (h3 i x hx j u hu)⟩
    · refine (hk D (Array.getElem?_eq_some_iff.1 hD).1 (fun e => ?_)).trans hD
      obtain ⟨cs, f, hg⟩ := typed_own hE
      rw [e] at hD
      rw [hD] at hg
      cases hg
end Go.Proofs.YtfanjghfilkhmaaGreatDoor
