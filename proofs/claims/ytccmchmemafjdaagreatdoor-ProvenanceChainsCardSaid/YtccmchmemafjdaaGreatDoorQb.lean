/- Chapter 46: awake returns true. -/
import Derived.Test.YtccmchmemafjdaaGreatDoorPl
import Derived.Test.YtccmchmemafjdaaGreatDoorPh
import Derived.Test.YtccmchmemafjdaaGreatDoorOk
set_option linter.unusedSimpArgs false
set_option linter.unusedVariables false
namespace Go.Proofs.YtccmchmemafjdaaGreatDoor

def exA : Sal := ⟨1905, 12, 340⟩
def exB : Sal := ⟨1978, 3, 7⟩
def exC : Sal := ⟨1905, 12, 341⟩
def exD : Sal := ⟨2001, 1, 1⟩
def exL : List Lst := [⟨5, [exA, exB]⟩, ⟨3, [exC, exB]⟩, ⟨9, [exD]⟩]
def exX : Lst := ⟨17, [exA, exB]⟩
def exT46 : List UInt8 := [49, 55, 58, 32, 49, 57, 48, 53, 32, 72, 49, 50, 32, 76, 51, 52, 48, 59, 32, 49, 57, 55, 56, 32, 72, 51, 32, 76, 55]
theorem exL_ids : sortI (idsL exL) = [3, 5, 9] := asc_unique (sortI_lt (by decide)) (by decide) fun x => by
  rw [sortI_mem]
  simp only [exL, idsL, List.map_cons, List.map_nil, List.mem_cons, List.not_mem_nil, or_false]
  omega
theorem exL_grps : grpsL exL = [[3, 5], [9]] := by
  unfold grpsL groupsOf
  show List.map (fun r => (sortI (idsL exL)).filter (fun a => decide (nmU exL [] a = r))) _ = _
  rw [exL_ids]
  decide +kernel
theorem exL_join : groupsOf (idsL exL) (nmU exL [(9, 3)]) = [[3, 5, 9]] := by
  unfold groupsOf
  show List.map (fun r => (sortI (idsL exL)).filter (fun a => decide (nmU exL [(9, 3)] a = r))) _ = _
  rw [exL_ids]
  decide +kernel
theorem exL_chk : chkL exL = 0 := chkL_ok (by decide) (by decide) (by decide)
theorem exL_pedE : pedE exL 3 = 0 := by
  unfold pedE
  rw [if_pos exL_chk, exL_grps]
  decide
theorem exL_pedS : pedS exL 3 = [exA, exC, exB] := by
  unfold pedS
  rw [if_pos exL_chk, exL_grps]
  decide +kernel
theorem exL_sus : susS exL = [(3, 5)] := by
  unfold susS susL
  rw [if_pos exL_chk]
  have h : susRaw exL = [(3, 5)] := by
    unfold susRaw
    rw [exL_grps]
    decide +kernel
  rw [h]
  exact List.mergeSort_singleton _
theorem exL_redE : redE exL = 0 := by
  unfold redE
  rw [if_pos exL_chk, exL_grps]
  decide +kernel
theorem exL_redS : (redS exL).length = 2 := by
  unfold redS
  rw [if_pos exL_redE, exL_grps]
  rfl
theorem exX_valid : validL exX := by decide
theorem exX_text : textL exX = exT46 := by
  unfold textL
  rw [if_pos exX_valid]
  decide +kernel
theorem exX_isText : IsTextL exT46 exX := ⟨exX_valid, exX_text⟩
theorem ex17 : textL ⟨17, []⟩ = [49, 55, 58] := by
  unfold textL
  rw [if_pos (by decide)]
  decide +kernel
end Go.Proofs.YtccmchmemafjdaaGreatDoor
set_option linter.unusedSimpArgs false
set_option linter.unusedVariables false
namespace Go.Proofs.YtccmchmemafjdaaGreatDoor
open Go.RowKit

theorem Sl.fresh {α : Type} {k : Nat} {enc : α → List Value} (hk : ∀ x, (enc x).length = k) (w : World) (xs : List α) (vs : Array Value) (t : TypeId) (n : Nat) (hv : vs.toList = xs.flatMap enc) (hn : xs.length = n) :
    Sl (w.alloc (.cells vs t)) w.heap.size (w.alloc (.cells vs t)).heap.size k enc (some ⟨w.heap.size, 0, none⟩) n xs := by
  refine ⟨hn, fun _ => ⟨w.heap.size, 0, rfl, Nat.le_refl _, by simp, fun i x hx j u hu => ?_⟩⟩
  rw [World.cell?_alloc_new, Nat.zero_add, ← Array.getElem?_toList, hv]
  exact flat_at hk xs i x j u hx hu
theorem SaS.fresh (w : World) (xs : List Sal) (vs : Array Value) (n : Nat) (hv : vs.toList = xs.flatMap encS) (hn : xs.length = n) : SaS (w.alloc (.cells vs 57)) (some ⟨w.heap.size, 0, none⟩) n xs :=
  (Sl.fresh encS_len w xs vs 57 n hv hn).any
/-- The list of the examples, laid. -/
theorem lay_exL (w : World) :
    let w1 := w.alloc (.cells #[.int .i64 1905, .int .i64 12, .int .i64 340, .int .i64 1978, .int .i64 3, .int .i64 7] 57)
    let w2 := w1.alloc (.cells #[.int .i64 1905, .int .i64 12, .int .i64 341, .int .i64 1978, .int .i64 3, .int .i64 7] 57)
    let w3 := w2.alloc (.cells #[.int .i64 2001, .int .i64 1, .int .i64 1] 57)
    LsS (w3.alloc (.cells #[.int .i64 5, .slice (some ⟨w.heap.size, 0, none⟩) 2 2, .int .i64 3, .slice (some ⟨w.heap.size + 1, 0, none⟩) 2 2, .int .i64 9, .slice (some ⟨w.heap.size + 1 + 1, 0, none⟩) 1 1] 24)) (some ⟨w.heap.size + 1 + 1 + 1, 0, none⟩) 3 exL := by
  intro w1 w2 w3
  have s1 := SaS.fresh w [exA, exB] #[.int .i64 1905, .int .i64 12, .int .i64 340, .int .i64 1978, .int .i64 3, .int .i64 7] 2 rfl rfl
  have s2 := SaS.fresh w1 [exC, exB] #[.int .i64 1905, .int .i64 12, .int .i64 341, .int .i64 1978, .int .i64 3, .int .i64 7] 2 rfl rfl
  have s3 := SaS.fresh w2 [exD] #[.int .i64 2001, .int .i64 1, .int .i64 1] 1 rfl rfl
  have z1 : w1.heap.size = w.heap.size + 1 := World.size_alloc _ _
  have z2 : w2.heap.size = w.heap.size + 1 + 1 := by rw [World.size_alloc, z1]
  have z3 : w3.heap.size = w.heap.size + 1 + 1 + 1 := by rw [World.size_alloc, z2]
  rw [z1] at s2
  rw [z2] at s3
  refine ⟨[⟨5, some ⟨w.heap.size, 0, none⟩, 2, 2⟩, ⟨3, some ⟨w.heap.size + 1, 0, none⟩, 2, 2⟩, ⟨9, some ⟨w.heap.size + 1 + 1, 0, none⟩, 1, 1⟩], ?_, rfl, ?_⟩
  · have := Sl.fresh encLV_len w3 [⟨5, some ⟨w.heap.size, 0, none⟩, 2, 2⟩, ⟨3, some ⟨w.heap.size + 1, 0, none⟩, 2, 2⟩, ⟨9, some ⟨w.heap.size + 1 + 1, 0, none⟩, 1, 1⟩] #[.int .i64 5, .slice (some ⟨w.heap.size, 0, none⟩) 2 2, .int .i64 3, .slice (some ⟨w.heap.size + 1, 0, none⟩) 2 2, .int .i64 9, .slice (some ⟨w.heap.size + 1 + 1, 0, none⟩) 1 1] 24 3 rfl rfl
    rw [z3] at this
    exact this.any
  · intro i v x hv hx
    match i with
    | 0 => simp only [exL, List.getElem?_cons_zero, Option.some.injEq] at hv hx; subst hv hx; exact ⟨rfl, (show 2 ≤ maxLen by decide), (((s1.up (one_alloc _ _)).up (one_alloc _ _)).up (one_alloc _ _))⟩
    | 1 => simp only [exL, List.getElem?_cons_succ, List.getElem?_cons_zero, Option.some.injEq] at hv hx; subst hv hx; exact ⟨rfl, (show 2 ≤ maxLen by decide), ((s2.up (one_alloc _ _)).up (one_alloc _ _))⟩
    | 2 => simp only [exL, List.getElem?_cons_succ, List.getElem?_cons_zero, Option.some.injEq] at hv hx; subst hv hx; exact ⟨rfl, (show 1 ≤ maxLen by decide), (s3.up (one_alloc _ _))⟩
    | i + 3 => simp at hv
/-- Lists of numbers, laid. -/
theorem SlI.fresh (w : World) (xs : List Int) (vs : Array Value) (n : Nat) (hv : vs.toList = xs.flatMap encI) (hn : xs.length = n) : Sl (w.alloc (.cells vs 3)) 0 (w.alloc (.cells vs 3)).heap.size 1 encI (some ⟨w.heap.size, 0, none⟩) n xs :=
  (Sl.fresh encI_len w xs vs 3 n hv hn).any
theorem lay_two (w : World) (xs ys : List Int) (us vs : Array Value) (n m : Nat) (hu : us.toList = xs.flatMap encI) (hv : vs.toList = ys.flatMap encI) (hn : xs.length = n) (hm : ys.length = m) (h1 : n ≤ 100) (h2 : m ≤ 100) :
    LoS (((w.alloc (.cells us 3)).alloc (.cells vs 3)).alloc (.cells #[.slice (some ⟨w.heap.size, 0, none⟩) n n, .slice (some ⟨w.heap.size + 1, 0, none⟩) m m] 40)) (some ⟨w.heap.size + 1 + 1, 0, none⟩) 2 [xs, ys] := by
  have s1 := (SlI.fresh w xs us n hu hn)
  have s2 := (SlI.fresh (w.alloc (.cells us 3)) ys vs m hv hm)
  have s3 := Sl.fresh (k := 1) (enc := fun v : Value => [v]) (fun _ => rfl) ((w.alloc (.cells us 3)).alloc (.cells vs 3)) [.slice (some ⟨w.heap.size, 0, none⟩) n n, .slice (some ⟨w.heap.size + 1, 0, none⟩) m m] #[.slice (some ⟨w.heap.size, 0, none⟩) n n, .slice (some ⟨w.heap.size + 1, 0, none⟩) m m] 40 2 rfl rfl
  rw [show (w.alloc (.cells us 3)).heap.size = w.heap.size + 1 from World.size_alloc _ _] at s2
  have z : ((w.alloc (.cells us 3)).alloc (.cells vs 3)).heap.size = w.heap.size + 1 + 1 := by rw [World.size_alloc, World.size_alloc]
  rw [z] at s3
  refine ⟨_, s3.any, rfl, fun i v x hv hx => ?_⟩
  match i with
  | 0 =>
    simp only [List.getElem?_cons_zero, Option.some.injEq] at hv hx
    subst hv hx
    exact ⟨_, _, _, rfl, ⟨by omega, Nat.le_refl _⟩, Sl.up (Sl.up s1 (one_alloc _ _) (Nat.le_refl _) (Nat.le_refl _)) (one_alloc _ _) (Nat.le_refl _) (Nat.le_refl _)⟩
  | 1 =>
    simp only [List.getElem?_cons_succ, List.getElem?_cons_zero, Option.some.injEq] at hv hx
    subst hv hx
    exact ⟨_, _, _, rfl, ⟨by omega, Nat.le_refl _⟩, Sl.up s2 (one_alloc _ _) (Nat.le_refl _) (Nat.le_refl _)⟩
  | i + 2 => simp at hv
theorem lay_one (w : World) (xs : List Int) (us : Array Value) (n : Nat) (hu : us.toList = xs.flatMap encI) (hn : xs.length = n) (h1 : n ≤ 100) :
    LoS ((w.alloc (.cells us 3)).alloc (.cells #[.slice (some ⟨w.heap.size, 0, none⟩) n n] 40)) (some ⟨w.heap.size + 1, 0, none⟩) 1 [xs] := by
  have s1 := (SlI.fresh w xs us n hu hn)
  have s3 := Sl.fresh (k := 1) (enc := fun v : Value => [v]) (fun _ => rfl) (w.alloc (.cells us 3)) [.slice (some ⟨w.heap.size, 0, none⟩) n n] #[.slice (some ⟨w.heap.size, 0, none⟩) n n] 40 1 rfl rfl
  rw [World.size_alloc] at s3
  refine ⟨_, s3.any, rfl, fun i v x hv hx => ?_⟩
  match i with
  | 0 =>
    simp only [List.getElem?_cons_zero, Option.some.injEq] at hv hx
    subst hv hx
    exact ⟨_, _, _, rfl, ⟨by omega, Nat.le_refl _⟩, Sl.up s1 (one_alloc _ _) (Nat.le_refl _) (Nat.le_refl _)⟩
  | i + 1 => simp at hv
end Go.Proofs.YtccmchmemafjdaaGreatDoor
set_option linter.unusedSimpArgs false
set_option linter.unusedVariables false
namespace Go.Proofs.YtccmchmemafjdaaGreatDoor
open Go.RowKit

def exW4 (w : World) : World := (((w.alloc (.cells #[.int .i64 1905, .int .i64 12, .int .i64 340] 57)).alloc (.cells #[.int .i64 1978, .int .i64 3, .int .i64 7] 57)).alloc (.cells #[.int .i64 1905, .int .i64 12, .int .i64 341] 57)).alloc (.cells #[.int .i64 2001, .int .i64 1, .int .i64 1] 57)
theorem exW4_size (w : World) : (exW4 w).heap.size = w.heap.size + 1 + 1 + 1 + 1 := by unfold exW4; simp only [World.size_alloc]
def exW (w : World) : World := ((((exW4 w).alloc (.cells #[.int .i64 1905, .int .i64 12, .int .i64 340, .int .i64 1978, .int .i64 3, .int .i64 7] 57)).alloc (.cells #[.int .i64 1905, .int .i64 12, .int .i64 341, .int .i64 1978, .int .i64 3, .int .i64 7] 57)).alloc (.cells #[.int .i64 2001, .int .i64 1, .int .i64 1] 57)).alloc
  (.cells #[.int .i64 5, .slice (some ⟨w.heap.size + 1 + 1 + 1 + 1, 0, none⟩) 2 2, .int .i64 3, .slice (some ⟨w.heap.size + 1 + 1 + 1 + 1 + 1, 0, none⟩) 2 2, .int .i64 9, .slice (some ⟨w.heap.size + 1 + 1 + 1 + 1 + 1 + 1, 0, none⟩) 1 1] 24)
theorem exW_facts (w : World) : Bx (exW w) w.heap.size [.int .i64 1905, .int .i64 12, .int .i64 340] ∧ Bx (exW w) (w.heap.size + 1) [.int .i64 1978, .int .i64 3, .int .i64 7] ∧ Bx (exW w) (w.heap.size + 1 + 1) [.int .i64 1905, .int .i64 12, .int .i64 341] ∧
    LsS (exW w) (some ⟨w.heap.size + 1 + 1 + 1 + 1 + 1 + 1 + 1, 0, none⟩) 3 exL ∧ Below w.heap.size w (exW w) := by
  have hb4 : Below (exW4 w).heap.size (exW4 w) (exW w) := by unfold exW; (repeat (first | exact Below.refl _ _ | assumption | refine Below.alloc ?_ (by first | omega | (simp only [World.size_alloc]; omega) | (simp; done) | (simp; omega)) _ | refine Below.setCell ?_ (by first | omega | (simp only [World.size_alloc]; omega) | (simp; done) | (simp; omega)) _ | refine Below.drew ?_ | refine below_drewN ?_ _))
  have z1 := Bx.new w [.int .i64 1905, .int .i64 12, .int .i64 340] 57
  have z2 := Bx.new (w.alloc (.cells #[.int .i64 1905, .int .i64 12, .int .i64 340] 57)) [.int .i64 1978, .int .i64 3, .int .i64 7] 57
  have z3 := Bx.new ((w.alloc (.cells #[.int .i64 1905, .int .i64 12, .int .i64 340] 57)).alloc (.cells #[.int .i64 1978, .int .i64 3, .int .i64 7] 57)) [.int .i64 1905, .int .i64 12, .int .i64 341] 57
  simp only [World.size_alloc] at z2 z3
  have hL := lay_exL (exW4 w)
  simp only [exW4_size] at hL
  refine ⟨((((z1.alloc _).alloc _).alloc _).up hb4), ((z2.alloc _).alloc _).up hb4, (z3.alloc _).up hb4, hL, ?_⟩
  have h0 : Below w.heap.size w (exW4 w) := by unfold exW4; (repeat (first | exact Below.refl _ _ | assumption | refine Below.alloc ?_ (by first | omega | (simp only [World.size_alloc]; omega) | (simp; done) | (simp; omega)) _ | refine Below.setCell ?_ (by first | omega | (simp only [World.size_alloc]; omega) | (simp; done) | (simp; omega)) _ | refine Below.drew ?_ | refine below_drewN ?_ _))
  exact h0.trans (hb4.mono h0.size)
theorem exL_joinE : joinE exL [(9, 3)] = 0 := by unfold joinE; rw [if_pos exL_chk]; decide
theorem exX_validB : validB 17 [exA, exB] = true := decide_eq_true exX_valid
set_option maxRecDepth 100000 in
set_option maxHeartbeats 8000000 in
theorem awake_any (w : World) (hE : Env w) :
    Calls Tryz.prog 10 #[] w fun e w' => e = .returned (.bool true) ∧ Below w.heap.size w w' := by
  go_enter Tryz.func10, Tryz.ntmps10
  go_wp2_with fail
  change Calls _ _ _ (exW w) _
  obtain ⟨Z1, Z2, Z3, hL, hb⟩ := exW_facts w
  generalize exW w = W at *
  generalize w.heap.size + 1 + 1 + 1 + 1 + 1 + 1 + 1 = bl at *
  generalize hz3 : w.heap.size + 1 + 1 = b3 at *
  generalize hz2 : w.heap.size + 1 = b2 at *
  refine (pgroups_any _ 3 3 exL W (by decide) hL).mono ?_; rintro r w1 ⟨hG, hb1⟩
  rw [exL_chk] at hG
  obtain ⟨A1, n1, c1, rfl, hn1, hG1, _⟩ := hG
  rw [if_pos rfl] at hG1
  have hG1 : LoS w1 A1 n1 [[3, 5], [9]] := by rw [← exL_grps]; exact hG1
  (replace hb := hb.trans (hb1.mono hb.size)); replace Z1 := Z1.up hb1; replace Z2 := Z2.up hb1; replace Z3 := Z3.up hb1; replace hL := hL.up hb1; clear hb1; (try clear Z10); (try clear Z11); (try clear Z12); (try clear Z1lt); (try clear Z20); (try clear Z21); (try clear Z22); (try clear Z2lt); (try clear Z30); (try clear Z31); (try clear Z32); (try clear Z3lt)
  go_wp2_with fail
  have hP9 := (Sl.fresh encE_len w1 [(9, 3)] #[.int .i64 9, .int .i64 3] 59 1 rfl rfl).any
  have hbW : Below w1.heap.size w1 (w1.alloc (.cells #[.int .i64 9, .int .i64 3] 59)) := one_alloc _ _
  refine (pjoined_any _ 3 3 exL _ 1 1 [(9, 3)] _ (by decide) (by decide) (hL.up hbW) hP9).mono ?_; rintro r w2 ⟨hG, hb2⟩
  rw [exL_joinE] at hG
  obtain ⟨A2, n2, c2, rfl, hn2, hG2, _⟩ := hG
  rw [if_pos rfl, exL_join] at hG2
  replace hb2 := below_keep' hbW hb2
  clear hbW hP9
  (replace hb := hb.trans (hb2.mono hb.size)); replace Z1 := Z1.up hb2; replace Z2 := Z2.up hb2; replace Z3 := Z3.up hb2; replace hL := hL.up hb2; replace hG1 := hG1.up hb2; clear hb2; (try clear Z10); (try clear Z11); (try clear Z12); (try clear Z1lt); (try clear Z20); (try clear Z21); (try clear Z22); (try clear Z2lt); (try clear Z30); (try clear Z31); (try clear Z32); (try clear Z3lt)
  go_wp2_with fail
  refine (ppedigree_any _ 3 3 exL 3 _ (by decide) hL).mono ?_; rintro r w3 ⟨hP, hb3⟩
  rw [exL_pedE, exL_pedS] at hP
  obtain ⟨A3, n3, c3, rfl, hn3, hS3, _⟩ := hP
  (replace hb := hb.trans (hb3.mono hb.size)); replace Z1 := Z1.up hb3; replace Z2 := Z2.up hb3; replace Z3 := Z3.up hb3; replace hL := hL.up hb3; replace hG1 := hG1.up hb3; replace hG2 := hG2.up hb3; clear hb3; (try clear Z10); (try clear Z11); (try clear Z12); (try clear Z1lt); (try clear Z20); (try clear Z21); (try clear Z22); (try clear Z2lt); (try clear Z30); (try clear Z31); (try clear Z32); (try clear Z3lt)
  go_wp2_with fail
  refine (psuspects_any _ 3 3 exL _ (by decide) hL).mono ?_; rintro r w4 ⟨hP, hb4⟩
  rw [exL_sus, exL_chk] at hP
  obtain ⟨A4, n4, c4, rfl, hn4, hS4, _⟩ := hP
  (replace hb := hb.trans (hb4.mono hb.size)); replace Z1 := Z1.up hb4; replace Z2 := Z2.up hb4; replace Z3 := Z3.up hb4; replace hL := hL.up hb4; replace hG1 := hG1.up hb4; replace hG2 := hG2.up hb4; replace hS3 := hS3.up hb4; clear hb4; (try clear Z10); (try clear Z11); (try clear Z12); (try clear Z1lt); (try clear Z20); (try clear Z21); (try clear Z22); (try clear Z2lt); (try clear Z30); (try clear Z31); (try clear Z32); (try clear Z3lt)
  go_wp2_with fail
  refine (pparse_any exT46 _ (by decide) (hE.step hb)).mono ?_; rintro r w5 ⟨hP, hb5⟩
  rw [resL_text exX_isText] at hP
  obtain ⟨A5, n5, c5, rfl, hn5, hS5⟩ := hP
  obtain rfl : n5 = 2 := (Sl.len hS5).symm
  dsimp only [exX] at hS5 ⊢
  replace hS4 := Sl.up hS4 hb5 (Nat.le_refl _) (Nat.le_refl _)
  (replace hb := hb.trans (hb5.mono hb.size)); replace Z1 := Z1.up hb5; replace Z2 := Z2.up hb5; replace Z3 := Z3.up hb5; replace hL := hL.up hb5; replace hG1 := hG1.up hb5; replace hG2 := hG2.up hb5; replace hS3 := hS3.up hb5; clear hb5; (try clear Z10); (try clear Z11); (try clear Z12); (try clear Z1lt); (try clear Z20); (try clear Z21); (try clear Z22); (try clear Z2lt); (try clear Z30); (try clear Z31); (try clear Z32); (try clear Z3lt)
  have V := Bx.new w5 [.int .i64 17, .slice A5 2 c5] 24
  have hbW : Below w5.heap.size w5 (w5.alloc (.cells #[.int .i64 17, .slice A5 2 c5] 24)) := one_alloc _ _
  go_wp2_with fail
  generalize w5.alloc (.cells #[.int .i64 17, .slice A5 2 c5] 24) = W6 at *
  replace hS4 := Sl.up hS4 hbW (Nat.le_refl _) (Nat.le_refl _)
  (replace hb := hb.trans (hbW.mono hb.size)); replace Z1 := Z1.up hbW; replace Z2 := Z2.up hbW; replace Z3 := Z3.up hbW; replace hL := hL.up hbW; replace hG1 := hG1.up hbW; replace hG2 := hG2.up hbW; replace hS3 := hS3.up hbW; replace hS5 := hS5.up hbW; clear hbW; (try clear Z10); (try clear Z11); (try clear Z12); (try clear Z1lt); (try clear Z20); (try clear Z21); (try clear Z22); (try clear Z2lt); (try clear Z30); (try clear Z31); (try clear Z32); (try clear Z3lt)
  generalize w5.heap.size = bv at *
  refine (preduced_any _ 3 3 exL W6 (by decide) hL).mono ?_; rintro r w7 ⟨hP, hb7⟩
  rw [exL_redE] at hP
  obtain ⟨A7, n7, c7, rfl, hn7, hS7, _⟩ := hP
  obtain rfl : n7 = 2 := by rw [← hS7.len]; exact exL_redS
  clear hS7 hL
  replace hS4 := Sl.up hS4 hb7 (Nat.le_refl _) (Nat.le_refl _)
  (replace hb := hb.trans (hb7.mono hb.size)); replace Z1 := Z1.up hb7; replace Z2 := Z2.up hb7; replace Z3 := Z3.up hb7; replace V := V.up hb7; replace hG1 := hG1.up hb7; replace hG2 := hG2.up hb7; replace hS3 := hS3.up hb7; replace hS5 := hS5.up hb7; clear hb7; (try clear Z10); (try clear Z11); (try clear Z12); (try clear Z1lt); (try clear Z20); (try clear Z21); (try clear Z22); (try clear Z2lt); (try clear Z30); (try clear Z31); (try clear Z32); (try clear Z3lt); (try clear V0); (try clear V1); (try clear Vlt)
  have hT := lay_two w7 [3, 5] [9] #[.int .i64 3, .int .i64 5] #[.int .i64 9] 2 1 rfl rfl rfl rfl (by decide) (by decide)
  have hbW : Below w7.heap.size w7 (((w7.alloc (.cells #[.int .i64 3, .int .i64 5] 3)).alloc (.cells #[.int .i64 9] 3)).alloc (.cells #[.slice (some ⟨w7.heap.size, 0, none⟩) 2 2, .slice (some ⟨w7.heap.size + 1, 0, none⟩) 1 1] 40)) := by (repeat (first | exact Below.refl _ _ | assumption | refine Below.alloc ?_ (by first | omega | (simp only [World.size_alloc]; omega) | (simp; done) | (simp; omega)) _ | refine Below.setCell ?_ (by first | omega | (simp only [World.size_alloc]; omega) | (simp; done) | (simp; omega)) _ | refine Below.drew ?_ | refine below_drewN ?_ _))
  go_wp2_with fail
  refine (lists_any A1 n1 c1 [[3, 5], [9]] _ 2 2 [[3, 5], [9]] _ hn1 (by decide) (hG1.up hbW) hT).mono ?_; rintro r w8 ⟨rfl, hb8⟩
  rw [decide_eq_true (rfl : [[3, 5], [9]] = [[(3 : Int), 5], [9]])]
  replace hb8 := below_keep' hbW hb8
  clear hbW hT hG1
  replace hS4 := Sl.up hS4 hb8 (Nat.le_refl _) (Nat.le_refl _)
  (replace hb := hb.trans (hb8.mono hb.size)); replace Z1 := Z1.up hb8; replace Z2 := Z2.up hb8; replace Z3 := Z3.up hb8; replace V := V.up hb8; replace hG2 := hG2.up hb8; replace hS3 := hS3.up hb8; replace hS5 := hS5.up hb8; clear hb8; (try clear Z10); (try clear Z11); (try clear Z12); (try clear Z1lt); (try clear Z20); (try clear Z21); (try clear Z22); (try clear Z2lt); (try clear Z30); (try clear Z31); (try clear Z32); (try clear Z3lt); (try clear V0); (try clear V1); (try clear Vlt)
  have hT := lay_one w8 [3, 5, 9] #[.int .i64 3, .int .i64 5, .int .i64 9] 3 rfl rfl (by decide)
  have hbW : Below w8.heap.size w8 ((w8.alloc (.cells #[.int .i64 3, .int .i64 5, .int .i64 9] 3)).alloc (.cells #[.slice (some ⟨w8.heap.size, 0, none⟩) 3 3] 40)) := by (repeat (first | exact Below.refl _ _ | assumption | refine Below.alloc ?_ (by first | omega | (simp only [World.size_alloc]; omega) | (simp; done) | (simp; omega)) _ | refine Below.setCell ?_ (by first | omega | (simp only [World.size_alloc]; omega) | (simp; done) | (simp; omega)) _ | refine Below.drew ?_ | refine below_drewN ?_ _))
  go_wp2_with fail
  refine (lists_any A2 n2 c2 [[3, 5, 9]] _ 1 1 [[3, 5, 9]] _ hn2 (by decide) (hG2.up hbW) hT).mono ?_; rintro r w9 ⟨rfl, hb9⟩
  rw [decide_eq_true (rfl : [[3, 5, 9]] = [[(3 : Int), 5, 9]])]
  replace hb9 := below_keep' hbW hb9
  clear hbW hT hG2
  replace hS4 := Sl.up hS4 hb9 (Nat.le_refl _) (Nat.le_refl _)
  (replace hb := hb.trans (hb9.mono hb.size)); replace Z1 := Z1.up hb9; replace Z2 := Z2.up hb9; replace Z3 := Z3.up hb9; replace V := V.up hb9; replace hS3 := hS3.up hb9; replace hS5 := hS5.up hb9; clear hb9; (try clear Z10); (try clear Z11); (try clear Z12); (try clear Z1lt); (try clear Z20); (try clear Z21); (try clear Z22); (try clear Z2lt); (try clear Z30); (try clear Z31); (try clear Z32); (try clear Z3lt); (try clear V0); (try clear V1); (try clear Vlt)
  have Z10 := Z1.cell 0 _ rfl; have Z11 := Z1.cell 1 _ rfl; have Z12 := Z1.cell 2 _ rfl; have Z1lt := Z1.lt
  have Z20 := Z2.cell 0 _ rfl; have Z21 := Z2.cell 1 _ rfl; have Z22 := Z2.cell 2 _ rfl; have Z2lt := Z2.lt
  have Z30 := Z3.cell 0 _ rfl; have Z31 := Z3.cell 1 _ rfl; have Z32 := Z3.cell 2 _ rfl; have Z3lt := Z3.lt
  have hT := SaS.fresh w9 [exA, exC, exB] #[.int .i64 1905, .int .i64 12, .int .i64 340, .int .i64 1905, .int .i64 12, .int .i64 341, .int .i64 1978, .int .i64 3, .int .i64 7] 3 rfl rfl
  have hbW : Below w9.heap.size w9 (w9.alloc (.cells #[.int .i64 1905, .int .i64 12, .int .i64 340, .int .i64 1905, .int .i64 12, .int .i64 341, .int .i64 1978, .int .i64 3, .int .i64 7] 57)) := one_alloc _ _
  go_wp2_with fail
  refine (sales_any A3 n3 c3 [exA, exC, exB] _ 3 3 [exA, exC, exB] _ hn3 (by decide) (hS3.up hbW) hT).mono ?_; rintro r wa ⟨rfl, hba⟩
  rw [decide_eq_true (rfl : [exA, exC, exB] = [exA, exC, exB])]
  replace hba := below_keep' hbW hba
  clear hbW hT hS3 Z30 Z31 Z32 Z3lt Z3 Z10 Z11 Z12 Z1lt Z20 Z21 Z22 Z2lt
  replace hS4 := Sl.up hS4 hba (Nat.le_refl _) (Nat.le_refl _)
  (replace hb := hb.trans (hba.mono hb.size)); replace Z1 := Z1.up hba; replace Z2 := Z2.up hba; replace V := V.up hba; replace hS5 := hS5.up hba; clear hba; (try clear Z10); (try clear Z11); (try clear Z12); (try clear Z1lt); (try clear Z20); (try clear Z21); (try clear Z22); (try clear Z2lt); (try clear V0); (try clear V1); (try clear Vlt)
  have hT := (Sl.fresh encE_len wa [(3, 5)] #[.int .i64 3, .int .i64 5] 59 1 rfl rfl).any
  have hbW : Below wa.heap.size wa (wa.alloc (.cells #[.int .i64 3, .int .i64 5] 59)) := one_alloc _ _
  go_wp2_with fail
  refine (pairs_any A4 n4 c4 [(3, 5)] _ 1 1 [(3, 5)] _ hn4 (by decide) (Sl.up hS4 hbW (Nat.le_refl _) (Nat.le_refl _)) hT).mono ?_; rintro r wb ⟨rfl, hbb⟩
  rw [decide_eq_true (rfl : [(3, 5)] = [((3 : Int), (5 : Int))])]
  replace hbb := below_keep' hbW hbb
  clear hbW hT hS4
  (replace hb := hb.trans (hbb.mono hb.size)); replace Z1 := Z1.up hbb; replace Z2 := Z2.up hbb; replace V := V.up hbb; replace hS5 := hS5.up hbb; clear hbb; (try clear Z10); (try clear Z11); (try clear Z12); (try clear Z1lt); (try clear Z20); (try clear Z21); (try clear Z22); (try clear Z2lt); (try clear V0); (try clear V1); (try clear Vlt)
  have Z10 := Z1.cell 0 _ rfl; have Z11 := Z1.cell 1 _ rfl; have Z12 := Z1.cell 2 _ rfl; have Z1lt := Z1.lt
  have Z20 := Z2.cell 0 _ rfl; have Z21 := Z2.cell 1 _ rfl; have Z22 := Z2.cell 2 _ rfl; have Z2lt := Z2.lt
  have V0 := V.cell 0 _ rfl; have V1 := V.cell 1 _ rfl; have Vlt := V.lt
  have hT := SaS.fresh wb [exA, exB] #[.int .i64 1905, .int .i64 12, .int .i64 340, .int .i64 1978, .int .i64 3, .int .i64 7] 2 rfl rfl
  have hbW : Below wb.heap.size wb (wb.alloc (.cells #[.int .i64 1905, .int .i64 12, .int .i64 340, .int .i64 1978, .int .i64 3, .int .i64 7] 57)) := one_alloc _ _
  go_wp2_with fail
  refine (sales_any A5 2 c5 [exA, exB] _ 2 2 [exA, exB] _ (by decide) (by decide) (hS5.up hbW) hT).mono ?_; rintro r wc ⟨rfl, hbc⟩
  rw [decide_eq_true (rfl : [exA, exB] = [exA, exB])]
  replace hbc := below_keep' hbW hbc
  clear hbW hT Z10 Z11 Z12 Z1lt Z1 Z20 Z21 Z22 Z2lt Z2 V0 V1 Vlt
  (replace hb := hb.trans (hbc.mono hb.size)); replace V := V.up hbc; replace hS5 := hS5.up hbc; clear hbc; (try clear V0); (try clear V1); (try clear Vlt)
  go_wp2_with fail
  refine (ptext_any 17 none 0 0 [] _ (hE.step hb) (by decide) SaS.nil).mono ?_; rintro r wd ⟨rfl, hbd⟩
  rw [ex17]
  (replace hb := hb.trans (hbd.mono hb.size)); replace V := V.up hbd; replace hS5 := hS5.up hbd; clear hbd; (try clear V0); (try clear V1); (try clear Vlt)
  have V0 := V.cell 0 _ rfl; have V1 := V.cell 1 _ rfl; have Vlt := V.lt
  go_wp2_with fail
  refine (pvalid_any 17 A5 2 c5 [exA, exB] _ (by decide) hS5).mono ?_; rintro r we ⟨rfl, hbe⟩
  rw [exX_validB]
  (replace hb := hb.trans (hbe.mono hb.size)); clear hbe
  go_wp2_with fail
  go_ret
  exact ⟨rfl, hb⟩
end Go.Proofs.YtccmchmemafjdaaGreatDoor
