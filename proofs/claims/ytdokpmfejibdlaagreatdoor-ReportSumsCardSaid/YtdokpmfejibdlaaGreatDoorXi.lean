/- Chapter 54: ReportCounts: the numbers of axes and of weights add up to the specimens. -/
import Derived.Test.YtdokpmfejibdlaaGreatDoorXh
set_option linter.unusedSimpArgs false
set_option linter.unusedVariables false
namespace Go.Proofs.YtdokpmfejibdlaaGreatDoor
open Go.RowKit

/-! ### Words. -/
theorem words_lines : ∀ bs : List (List UInt8), (∀ b ∈ bs, (10 : UInt8) ∉ b) → wordsL 10 (bs.flatMap (fun b => b ++ [10])) = bs ++ [[]]
  | [], _ => by simp [wordsL]
  | b :: bs, h => by
    have h1 := h b (by simp)
    rw [List.flatMap_cons, List.append_assoc]
    show wordsL 10 (b ++ 10 :: (bs.flatMap fun b => b ++ [10])) = _
    rw [wordsL_cut 10 b _ h1, words_lines bs (fun c hc => h c (by simp [hc]))]
    rfl
theorem flat_if {α : Type} {p : α → Bool} {f : α → List UInt8} : ∀ l : List α, l.flatMap (fun i => if p i = true then f i ++ [10] else []) = ((l.filter p).map f).flatMap (fun b => b ++ [10])
  | [] => rfl
  | x :: l => by
    have ih := flat_if (p := p) (f := f) l
    rw [List.flatMap_cons, List.filter_cons, ih]
    cases h : p x <;> simp
theorem itoa_no {n : Int} (h : 0 ≤ n) {c : UInt8} (hc : ¬ isDig c) : c ∉ Lib.itoa n := fun hm => hc (itoa_dig n h c hm)
/-- What Atoi gives, 0 for a fault. -/
def atoiV (l : List UInt8) : Int := match Lib.atoiAll l with
  | .ok v => v
  | _ => 0
def okW (l : List UInt8) : Prop := l.length ≤ 1000000 ∧ (l = [] ∨ ∃ v, Lib.atoiAll l = .ok v ∧ 0 ≤ v ∧ v ≤ 1000000)
theorem okW_nil : okW [] := ⟨by simp, .inl rfl⟩
theorem atoiV_nil : atoiV [] = 0 := rfl
theorem atoi_itoa {n : Int} (h1 : 0 ≤ n) (h2 : n ≤ 1000000) : Lib.atoiAll (Lib.itoa n) = .ok n := by
  have h := atoiAll_digits (Lib.decDigits n.toNat) n.toNat (dec_ne _) (Nat.le_trans (decDigits_le 8 n.toNat (by omega)) (by omega)) (dec_digits _) (decFrom_dec _)
  rw [itoa_nat n h1, h]
  congr 1
  omega
theorem okW_itoa {n : Int} (h1 : 0 ≤ n) (h2 : n ≤ 1000000) : okW (Lib.itoa n) := ⟨by have := itoa21 n h1 (by omega); omega, .inr ⟨n, atoi_itoa h1 h2, h1, h2⟩⟩
theorem atoiV_itoa {n : Int} (h1 : 0 ≤ n) (h2 : n ≤ 1000000) : atoiV (Lib.itoa n) = n := by unfold atoiV; rw [atoi_itoa h1 h2]
theorem atoiV_bd {l : List UInt8} (h : okW l) : 0 ≤ atoiV l ∧ atoiV l ≤ 1000000 := by
  rcases h.2 with rfl | ⟨v, hv, h1, h2⟩
  · rw [atoiV_nil]; omega
  · unfold atoiV; rw [hv]; exact ⟨h1, h2⟩
theorem atoiW_any (l : List UInt8) (w : World) (h : okW l) (hE : EnvA w) :
    Calls Tryz.prog 29 #[.string ⟨l.toArray⟩] w fun e w' => (∃ ev, e = .returned (.tuple #[.int .i64 (atoiV l), ev])) ∧ Below w.heap.size w w' := by
  have hs : (ByteArray.mk l.toArray).size ≤ 281474976710656 := by rw [size_mk']; have := h.1; omega
  rcases h.2 with rfl | ⟨v, hv, _⟩
  · obtain ⟨te, pe, hm⟩ := hE.syn
    exact (Any.strconv_Atoi_syntax Tryz.laysC172 ⟨#[]⟩ (by decide) rfl _ w hm (.inr ⟨te, pe, rfl⟩)).mono fun e w' ⟨N, he, _, _, hb⟩ => ⟨⟨_, he⟩, hb⟩
  · have hv' : atoiV l = v := by unfold atoiV; rw [hv]
    rw [hv']
    exact (atoi_ok ⟨l.toArray⟩ v w hs (by simpa using hv)).mono fun e w' ⟨he, hb⟩ => ⟨⟨_, he⟩, hb⟩
/-- The last word of a line. -/
def lwL (ln : List UInt8) : List UInt8 := (wordsL 32 ln).getLastD []
def lastV (ls : List (List UInt8)) : Int := (ls.map (fun ln => atoiV (lwL ln))).sum
theorem lastV_snoc {ls : List (List UInt8)} {j : Nat} {x : List UInt8} (h : ls[j]? = some x) : lastV (ls.take (j + 1)) = lastV (ls.take j) + atoiV (lwL x) := by
  unfold lastV
  rw [takeSnocW h, List.map_append, List.sum_append]
  simp
theorem lastV_bd {ls : List (List UInt8)} (h : ∀ ln ∈ ls, okW (lwL ln)) : 0 ≤ lastV ls ∧ lastV ls ≤ (ls.length : Int) * 1000000 := by
  unfold lastV
  induction ls with
  | nil => simp
  | cons x ls ih =>
    have h1 := atoiV_bd (h x (by simp))
    have h2 := ih (fun ln hl => h ln (by simp [hl]))
    rw [List.map_cons, List.sum_cons, List.length_cons]
    omega
theorem words_last (ln : List UInt8) : ∃ p, (wordsL 32 ln).length = p + 1 ∧ (wordsL 32 ln)[p]? = some (lwL ln) := by
  have hn := wordsL_ne 32 ln
  have hp : 0 < (wordsL 32 ln).length := List.length_pos_iff.2 hn
  refine ⟨(wordsL 32 ln).length - 1, by omega, ?_⟩
  unfold lwL
  rw [← List.getLast?_eq_getElem?, List.getLast?_eq_some_getLast hn, List.getLastD_eq_getLast?, List.getLast?_eq_some_getLast hn]
  rfl
theorem wordsL_count (c : UInt8) (l : List UInt8) : (wordsL c l).length ≤ l.length + 1 := by
  induction l with
  | nil => simp [wordsL]
  | cons x l ih =>
    unfold wordsL
    split
    · simp only [List.length_cons]; omega
    · split
      · simp
      · rename_i y ys h
        rw [h] at ih
        simp only [List.length_cons] at ih ⊢; omega
theorem Sl.st1 {w : World} {L B n : Nat} {A : Option Addr} {xs : List (List UInt8)} {i : Nat} (h : Sl w L B 1 encStr A n xs) (hi : i < n) : ∃ b off x, A = some ⟨b, off, none⟩ ∧ b < B ∧ xs[i]? = some x ∧ w.cell? ⟨b, off + i, none⟩ = some (.string ⟨x.toArray⟩) := by
  obtain ⟨b, off, x, h1, h0, h2, h3, h4⟩ := h.at_ hi
  refine ⟨b, off, x, h1, h2, h3, ?_⟩
  have := h4 0 _ rfl
  rwa [Nat.mul_one, Nat.add_zero] at this
set_option maxRecDepth 100000 in
set_option maxHeartbeats 4000000 in
theorem last_any (s : List UInt8) (w : World) (hs : s.length ≤ 100000) (hok : ∀ ln ∈ wordsL 10 s, okW (lwL ln)) (hE : EnvA w) :
    Calls Tryz.prog 27 #[.string ⟨s.toArray⟩, .int .i64 0] w fun e w' => e = .returned (.int .i64 (lastV (wordsL 10 s))) ∧ Below w.heap.size w w' := by
  have HEN : Hid (∀ W, Below w.heap.size w W → EnvA W) := fun W hW => hE.step hW
  have HSP := Lib.hid (split_any 10 s w (by omega) hE.env)
  have hlc := wordsL_count 10 s
  have HWL : Hid (∀ x ∈ wordsL 10 s, x.length ≤ 100000) := fun x hx => Nat.le_trans (wordsL_len 10 s x hx) hs
  generalize wordsL 10 s = ls at *
  have HOK := Lib.hid hok; clear hok
  go_enter Tryz.func27, Tryz.ntmps27
  go_wp2_with fail
  refine HSP.out.mono ?_; rintro e w1 ⟨A1, c1, rfl, hS1, hb1⟩
  have HS1 : Hid (∀ W, Below w1.heap.size w1 W → Sl W 0 W.heap.size 1 encStr A1 ls.length ls) := fun W hW => hS1.any.up hW (Nat.le_refl _) (Nat.le_refl _)
  clear hS1 HSP
  go_wp2_with fail
  go_loopw [5, 7] (fun v i wr => ∃ j : Nat, j ≤ ls.length ∧ i = .int .i64 (j : Int) ∧ v = .int .i64 (lastV (ls.take j)) ∧ Below w1.heap.size w1 wr) (fun _ i _ => ls.length - (intOf i).toNat)
  case atStart => exact ⟨0, by omega, rfl, rfl, Below.refl _ _⟩
  case round =>
    obtain ⟨j, hj, rfl, rfl, hbr⟩ := hrel
    have hbd := lastV_bd (ls := ls.take j) (fun ln hl => HOK.out ln (List.mem_of_mem_take hl))
    rw [List.length_take] at hbd
    by_cases hlt : j < ls.length
    · obtain ⟨b, off, x, rfl, hbb, hx, x0⟩ := (HS1.out _ hbr).st1 hlt
      have HLV := Lib.hid (lastV_snoc hx)
      have hxm := List.mem_of_getElem? hx
      have HW := Lib.hid (HOK.out x hxm)
      have hxl := HWL.out x hxm
      have hav := atoiV_bd HW.out
      obtain ⟨p, hp1, hp2⟩ := words_last x
      have HSQ := Lib.hid (split_any 32 x wr (by omega) (HEN.out _ (below_keep' hb1 hbr)).env)
      have HP2 := Lib.hid hp2
      have hwc := wordsL_count 32 x
      rw [hp1] at HSQ hwc
      generalize wordsL 32 x = ws at *
      generalize lwL x = lw at *
      generalize lastV (ls.take j) = sm at *
      clear hx hxm hp1 hp2
      go_wp2_with fail
      refine HSQ.out.mono ?_; rintro e w2 ⟨A2, c2, rfl, hS2, hb2⟩
      obtain ⟨b2, off2, y, rfl, hbb2, hy, y0⟩ := hS2.any.st1 (show p < p + 1 by omega)
      obtain rfl : y = lw := Option.some.inj (hy.symm.trans HP2.out)
      have hbr2 := below_keep' hbr hb2
      have HAT := Lib.hid (atoiW_any y w2 HW.out (HEN.out _ (below_keep' hb1 hbr2)))
      generalize atoiV y = av at *
      clear hS2 hy hb2 HSQ x0
      go_wp2_with fail
      refine HAT.out.mono ?_; rintro e w3 ⟨⟨ev, rfl⟩, hb3⟩
      have hbr3 := below_keep' hbr2 hb3
      clear hbr hbr2 hb3 HAT y0
      go_wp2_with fail
      exact ⟨⟨j + 1, by omega, by go_num, by rw [HLV.out], hbr3⟩, by simp [intOf]; omega⟩
    · obtain rfl : j = ls.length := by omega
      have HT : Hid (ls.take ls.length = ls) := List.take_length
      rw [HT.out]
      go_wp2_with fail
      go_ret
      exact ⟨rfl, below_keep' hb1 hbr⟩
/-! ### Sums. -/
theorem sum_add {α : Type} (f g : α → Int) : ∀ l : List α, (l.map (fun x => f x + g x)).sum = (l.map f).sum + (l.map g).sum
  | [] => by simp
  | x :: l => by
    have := sum_add f g l
    simp only [List.map_cons, List.sum_cons]
    omega
theorem sum_one {x : Int} : ∀ {ns : List Int}, ns.Nodup → x ∈ ns → (ns.map (fun z => if x = z then (1 : Int) else 0)).sum = 1
  | [], _, h => by cases h
  | z :: ns, hn, h => by
    obtain ⟨h1, h2⟩ := List.nodup_cons.1 hn
    rw [List.map_cons, List.sum_cons]
    rcases List.mem_cons.1 h with rfl | h
    · have h0 : (ns.map (fun z => if x = z then (1 : Int) else 0)).sum = 0 := by
        have : ∀ l : List Int, x ∉ l → (l.map (fun z => if x = z then (1 : Int) else 0)).sum = 0 := fun l hl => by
          induction l with
          | nil => rfl
          | cons y l ih =>
            rw [List.map_cons, List.sum_cons, if_neg (fun e => hl (by simp [e])), ih (fun h => hl (by simp [h]))]; rfl
        exact this ns h1
      rw [if_pos rfl, h0]; rfl
    · have : x ≠ z := fun e => h1 (e ▸ h)
      rw [if_neg this, sum_one h2 h]; rfl
theorem cnt_sum {α : Type} (f : α → Int) {ns : List Int} (hn : ns.Nodup) : ∀ {l : List α}, (∀ x ∈ l, f x ∈ ns) → (ns.map (fun z => ((l.countP (fun x => f x == z) : Nat) : Int))).sum = l.length
  | [], _ => by
    have : ∀ m : List Int, (m.map (fun z => ((([] : List α).countP (fun x => f x == z) : Nat) : Int))).sum = 0 := fun m => by
      induction m with
      | nil => rfl
      | cons y m ih => rw [List.map_cons, List.sum_cons, ih]; rfl
    exact this ns
  | x :: l, h => by
    have ih := cnt_sum f hn (l := l) (fun y hy => h y (by simp [hy]))
    have h1 := sum_one hn (h x (by simp))
    have e : (fun z => (((x :: l).countP (fun x => f x == z) : Nat) : Int)) = fun z => ((l.countP (fun x => f x == z) : Nat) : Int) + (if f x = z then (1 : Int) else 0) := by
      funext z
      rw [List.countP_cons]
      by_cases hz : f x = z
      · simp [hz]
      · simp [hz]
    rw [e, sum_add, ih, h1, List.length_cons]
    omega
theorem sum_filter {α : Type} (c : α → Nat) : ∀ l : List α, ((l.filter (fun i => decide (0 < c i))).map (fun i => ((c i : Nat) : Int))).sum = (l.map (fun i => ((c i : Nat) : Int))).sum
  | [] => rfl
  | x :: l => by
    have ih := sum_filter c l
    rw [List.filter_cons, List.map_cons (l := l), List.sum_cons (l := l.map _)]
    by_cases h : 0 < c x
    · rw [decide_eq_true h, if_pos rfl, List.map_cons, List.sum_cons, ih]
    · rw [decide_eq_false h, if_neg (by simp), ih]
      omega
/-! ### Hours. -/
def hcnt (hs : List Int) (i : Nat) : Nat := hs.countP (fun x => x == (((i + 1) % 12 : Nat) : Int))
def hbody (hs : List Int) (i : Nat) : List UInt8 := Lib.itoa ((i : Int) + 1) ++ [104, 32] ++ Lib.itoa (hcnt hs i : Nat)
theorem hcnt_le (hs : List Int) (i : Nat) : hcnt hs i ≤ hs.length := List.countP_le_length
theorem d10 : ¬ isDig 10 := by unfold isDig; decide
theorem hours_words (hs : List Int) (h : hs.length ≤ 64) : wordsL 10 (hoursL hs) = ((List.range 12).filter (fun i => decide (0 < hcnt hs i))).map (hbody hs) ++ [[]] := by
  have e : hourT54 hs = fun i => if decide (0 < hcnt hs i) = true then hbody hs i ++ [10] else [] := by
    funext i
    by_cases hc : 0 < hcnt hs i
    · rw [if_pos (decide_eq_true hc)]
      unfold hourT54
      exact if_pos hc
    · rw [if_neg (by rw [decide_eq_false hc]; simp)]
      unfold hourT54
      exact if_neg hc
  unfold hoursL
  rw [e, flat_if, words_lines]
  intro b hb
  obtain ⟨i, _, rfl⟩ := List.mem_map.1 hb
  unfold hbody
  intro hm
  rcases List.mem_append.1 hm with hm | hm
  · rcases List.mem_append.1 hm with hm | hm
    · exact itoa_no (by omega) d10 hm
    · revert hm; decide
  · exact itoa_no (by omega) d10 hm
theorem lw_two {a b : List UInt8} (h1 : (32 : UInt8) ∉ a) (h2 : (32 : UInt8) ∉ b) : lwL (a ++ 32 :: b) = b := by
  unfold lwL
  rw [wordsL_cut 32 a b h1, wordsL_none 32 b h2]
  rfl
theorem hbody_lw (hs : List Int) (i : Nat) : lwL (hbody hs i) = Lib.itoa (hcnt hs i : Nat) := by
  have e : hbody hs i = (Lib.itoa ((i : Int) + 1) ++ [104]) ++ 32 :: Lib.itoa (hcnt hs i : Nat) := by unfold hbody; simp
  rw [e]
  refine lw_two (fun hm => ?_) (itoa_no (by omega) sp_space)
  rcases List.mem_append.1 hm with hm | hm
  · exact itoa_no (by omega) sp_space hm
  · revert hm; decide
theorem lw_nil : lwL [] = [] := rfl
theorem hours_ok (hs : List Int) (h : hs.length ≤ 64) : ∀ ln ∈ wordsL 10 (hoursL hs), okW (lwL ln) := by
  rw [hours_words hs h]
  intro ln hl
  rcases List.mem_append.1 hl with hl | hl
  · obtain ⟨i, _, rfl⟩ := List.mem_map.1 hl
    rw [hbody_lw]
    have := hcnt_le hs i
    exact okW_itoa (by omega) (by omega)
  · rw [List.mem_singleton] at hl
    subst hl
    exact okW_nil
theorem hours_sum (hs : List Int) (h : hs.length ≤ 64) (hall : ∀ x ∈ hs, 0 ≤ x ∧ x < 12) : lastV (wordsL 10 (hoursL hs)) = hs.length := by
  rw [hours_words hs h]
  unfold lastV
  rw [List.map_append, List.sum_append, List.map_map]
  have e : ((fun ln => atoiV (lwL ln)) ∘ hbody hs) = fun i => ((hcnt hs i : Nat) : Int) := by
    funext i
    show atoiV (lwL (hbody hs i)) = _
    have := hcnt_le hs i
    rw [hbody_lw, atoiV_itoa (by omega) (by omega)]
  rw [e, sum_filter]
  have hz : (([[]] : List (List UInt8)).map (fun ln => atoiV (lwL ln))).sum = 0 := rfl
  rw [hz, Int.add_zero]
  have := cnt_sum (fun x : Int => x) (ns := (List.range 12).map (fun i : Nat => (((i + 1) % 12 : Nat) : Int))) (by decide) (l := hs) (fun x hx => by
    obtain ⟨h1, h2⟩ := hall x hx
    have : x = 0 ∨ x = 1 ∨ x = 2 ∨ x = 3 ∨ x = 4 ∨ x = 5 ∨ x = 6 ∨ x = 7 ∨ x = 8 ∨ x = 9 ∨ x = 10 ∨ x = 11 := by omega
    rcases this with rfl | rfl | rfl | rfl | rfl | rfl | rfl | rfl | rfl | rfl | rfl | rfl <;> decide)
  rw [List.map_map] at this
  exact this
/-! ### Weights. -/
theorem within_add (l : List Int) {a b c : Int} (h1 : a ≤ b) (h2 : b ≤ c) : withinW l a b + withinW l b c = withinW l a c := by
  unfold withinW
  induction l with
  | nil => rfl
  | cons x l ih =>
    rw [List.countP_cons, List.countP_cons, List.countP_cons]
    by_cases g1 : a ≤ x <;> by_cases g2 : x < b <;> by_cases g3 : x < c <;> simp [g1, g2, g3] <;> first | omega | (have : b ≤ x := by omega); simp [this]; omega | (have : ¬ b ≤ x := by omega); simp [this]; omega
theorem table_sum (l : List Int) (low step : Int) (n : Nat) (h0 : 0 ≤ low) (h1 : 0 ≤ step) : ((tabT l low step n).sum : Int) = (withinW l 0 (low + n * step) : Nat) := by
  induction n with
  | zero => simp [tabT]
  | succ n ih =>
    rw [tabT_succ, List.sum_append, ih]
    have hm : (0 : Int) ≤ n * step := Int.mul_nonneg (by omega) h1
    have e1 : ((n : Int) + 1) * step = n * step + step := by rw [Int.add_mul, Int.one_mul]
    have := within_add l (a := 0) (b := low + n * step) (c := low + ((n : Int) + 1) * step) (by omega) (by omega)
    rw [Int.natCast_add, Int.natCast_one, ← this]
    simp
theorem tableW_sum (l : List Int) (low step : Int) (n : Nat) (h0 : 0 ≤ low) (h1 : 0 ≤ step) (h2 : low + n * step ≤ 200001) (hall : ∀ x ∈ l, 1 ≤ x ∧ x ≤ 200000) : (tableW l low step n).sum = l.length := by
  have e : tableW l low step n = tabT l low step n ++ [(withinW l (low + n * step) 200001 : Int)] := rfl
  rw [e, List.sum_append, table_sum l low step n h0 h1]
  have hm : (0 : Int) ≤ n * step := Int.mul_nonneg (by omega) h1
  have h3 := within_add l (a := 0) (b := low + n * step) (c := 200001) (by omega) h2
  have h4 : withinW l 0 200001 = l.length := by
    unfold withinW
    rw [List.countP_eq_length]
    intro x hx
    have := hall x hx
    rw [Bool.and_eq_true, decide_eq_true_eq, decide_eq_true_eq]
    omega
  simp only [List.sum_cons, List.sum_nil]
  omega
def wbody (t : List Int) (low step : Int) (i : Nat) : List UInt8 := classT low step t.length i ++ 32 :: Lib.itoa (t.getD i 0)
theorem grams_no {n : Int} (h : 0 ≤ n) {c : UInt8} (hc : ¬ isDig c) (h46 : c ≠ 46) : c ∉ gramsL n := by
  unfold gramsL
  intro hm
  rcases List.mem_append.1 hm with hm | hm
  · rcases List.mem_append.1 hm with hm | hm
    · rcases List.mem_append.1 hm with hm | hm
      · exact itoa_no (by omega) hc hm
      · rw [List.mem_singleton] at hm; exact h46 hm
    · rw [List.mem_replicate] at hm
      obtain ⟨_, rfl⟩ := hm
      exact hc (by unfold isDig; decide)
  · exact itoa_no (by omega) hc hm
theorem class_no {low step : Int} {n i : Nat} (h1 : 0 ≤ low) (h3 : 1 ≤ step) {c : UInt8} (hc : c = 10 ∨ c = 32) : c ∉ classT low step n i := by
  have hd : ¬ isDig c := by rcases hc with rfl | rfl <;> (unfold isDig; decide)
  have h46 : c ≠ 46 := by rcases hc with rfl | rfl <;> decide
  unfold classT
  split
  · rcases hc with rfl | rfl <;> decide
  · split
    · rcases hc with rfl | rfl <;> decide
    · have hm1 : (0 : Int) ≤ ((i : Int) - 1) * step := Int.mul_nonneg (by omega) (by omega)
      have hm2 : (1 : Int) * 1 ≤ (i : Int) * step := Int.mul_le_mul (by omega) h3 (by omega) (by omega)
      intro hm
      rcases List.mem_append.1 hm with hm | hm
      · rcases List.mem_append.1 hm with hm | hm
        · exact grams_no (by omega) hd h46 hm
        · rw [List.mem_singleton] at hm
          rcases hc with rfl | rfl <;> (revert hm; decide)
      · exact grams_no (by omega) hd h46 hm
theorem weights_words (t : List Int) (low step : Int) (h1 : 0 ≤ low) (h3 : 1 ≤ step) (ht : ∀ x ∈ t, 0 ≤ x ∧ x ≤ 64) : wordsL 10 (weightsL t low step) = (List.range t.length).map (wbody t low step) ++ [[]] := by
  have e : wlineT t low step = fun i => wbody t low step i ++ [10] := by funext i; unfold wlineT wbody; simp
  have e2 : weightsL t low step = ((List.range t.length).map (wbody t low step)).flatMap (fun b => b ++ [10]) := by
    unfold weightsL
    rw [e, List.flatMap_map]
  rw [e2, words_lines]
  intro b hb
  obtain ⟨i, _, rfl⟩ := List.mem_map.1 hb
  have hx : 0 ≤ t.getD i 0 := by
    rw [List.getD_eq_getElem?_getD]
    cases hc : t[i]? with
    | none => simp
    | some x => exact (ht x (List.mem_of_getElem? hc)).1
  unfold wbody
  intro hm
  rcases List.mem_append.1 hm with hm | hm
  · exact class_no h1 h3 (.inl rfl) hm
  · rcases List.mem_cons.1 hm with hm | hm
    · revert hm; decide
    · exact itoa_no hx d10 hm
theorem getD_range (t : List Int) : (List.range t.length).map (fun i => t.getD i 0) = t := by
  refine List.ext_getElem? fun i => ?_
  rw [List.getElem?_map]
  by_cases h : i < t.length
  · rw [List.getElem?_range h]
    simp [List.getD_eq_getElem?_getD, h]
  · rw [List.getElem?_eq_none (by simp; omega), List.getElem?_eq_none (by omega)]; rfl
theorem wbody_lw {t : List Int} {low step : Int} (h1 : 0 ≤ low) (h3 : 1 ≤ step) (ht : ∀ x ∈ t, 0 ≤ x ∧ x ≤ 64) (i : Nat) : lwL (wbody t low step i) = Lib.itoa (t.getD i 0) ∧ (0 ≤ t.getD i 0 ∧ t.getD i 0 ≤ 64) := by
  have hx : 0 ≤ t.getD i 0 ∧ t.getD i 0 ≤ 64 := by
    rw [List.getD_eq_getElem?_getD]
    cases hc : t[i]? with
    | none => simp
    | some x => exact ht x (List.mem_of_getElem? hc)
  exact ⟨lw_two (class_no h1 h3 (.inr rfl)) (itoa_no hx.1 sp_space), hx⟩
theorem weights_ok {t : List Int} {low step : Int} (h1 : 0 ≤ low) (h3 : 1 ≤ step) (ht : ∀ x ∈ t, 0 ≤ x ∧ x ≤ 64) : ∀ ln ∈ wordsL 10 (weightsL t low step), okW (lwL ln) := by
  rw [weights_words t low step h1 h3 ht]
  intro ln hl
  rcases List.mem_append.1 hl with hl | hl
  · obtain ⟨i, _, rfl⟩ := List.mem_map.1 hl
    obtain ⟨h5, h6, h7⟩ := wbody_lw h1 h3 ht i
    rw [h5]
    exact okW_itoa h6 (by omega)
  · rw [List.mem_singleton] at hl
    subst hl
    exact okW_nil
theorem weights_sum {t : List Int} {low step : Int} (h1 : 0 ≤ low) (h3 : 1 ≤ step) (ht : ∀ x ∈ t, 0 ≤ x ∧ x ≤ 64) : lastV (wordsL 10 (weightsL t low step)) = t.sum := by
  rw [weights_words t low step h1 h3 ht]
  unfold lastV
  rw [List.map_append, List.sum_append, List.map_map]
  have e : ((fun ln => atoiV (lwL ln)) ∘ wbody t low step) = fun i => t.getD i 0 := by
    funext i
    obtain ⟨h5, h6, h7⟩ := wbody_lw h1 h3 ht i
    show atoiV (lwL (wbody t low step i)) = _
    rw [h5, atoiV_itoa h6 (by omega)]
  have hz : (([[]] : List (List UInt8)).map (fun ln => atoiV (lwL ln))).sum = 0 := rfl
  rw [e, getD_range, hz, Int.add_zero]
/-! ### The law. -/
theorem rng_u8 {m : Int} (h : (Lit.int .u8 m).wf = true) : 0 ≤ m ∧ m ≤ 255 := by
  simp only [Lit.wf, Bool.and_eq_true, decide_eq_true_eq] at h
  simpa [IntKind.min, IntKind.max, IntKind.bits, IntKind.signed] using h
theorem rng_u16 {m : Int} (h : (Lit.int .u16 m).wf = true) : 0 ≤ m ∧ m ≤ 65535 := by
  simp only [Lit.wf, Bool.and_eq_true, decide_eq_true_eq] at h
  simpa [IntKind.min, IntKind.max, IntKind.bits, IntKind.signed] using h
set_option maxRecDepth 100000 in
set_option maxHeartbeats 8000000 in
theorem counts_law (A : Option Addr) (len cap : Nat) (xs : List Spm) (lo st : Int) (w : World) (hE : EnvA w) (hS : Sl w 0 w.heap.size 7 encS A len xs) (hlm : len ≤ maxLen) (hlo : (Lit.int .u16 lo).wf = true) (hst : (Lit.int .u8 st).wf = true) :
    Calls Tryz.prog 8 #[.slice A len cap, .int .u16 lo, .int .u8 st] w fun e w' => e = .returned (.bool true) ∧ Below w.heap.size w w' := by
  obtain ⟨l1, l2⟩ := rng_u16 hlo
  obtain ⟨s1, s2⟩ := rng_u8 hst
  have HEN : Hid (∀ W, Below w.heap.size w W → EnvA W) := fun W hW => hE.step hW
  have HS : Hid (∀ W, Below w.heap.size w W → Sl W 0 W.heap.size 7 encS A len xs) := fun W hW => hS.up hW (Nat.le_refl _) (Nat.le_refl _)
  have HAW : Hid (∀ W, Below w.heap.size w W → Calls Tryz.prog 10 #[] W fun e w' => e = .returned (.bool true) ∧ Below W.heap.size W w') := fun W hW => awake_any W (HEN.out W hW).env
  have HFW : Hid (∀ W, Below w.heap.size w W → Calls Tryz.prog 11 #[.slice A len cap] W fun e w' => e = .returned (.bool (fewB len xs)) ∧ Below W.heap.size W w') := fun W hW => few_law A len cap xs W (HS.out W hW) hlm
  have HL := Lib.hid hS.len
  clear hS hE hlo hst
  go_enter Tryz.func8, Tryz.ntmps8
  go_wp2_with fail
  refine (HAW.out _ (Below.refl _ _)).mono ?_; rintro e w1 ⟨rfl, hb1⟩
  go_wp2_with fail
  refine (HFW.out _ hb1).mono ?_; rintro e w2 ⟨rfl, hb2⟩
  replace hb2 := below_keep' hb1 hb2
  cases hf : fewB len xs
  · go_wp2_with fail
    refine (HAW.out _ hb2).mono ?_; rintro e w3 ⟨rfl, hb3⟩
    go_wp2_with fail
    go_ret
    exact ⟨rfl, below_keep' hb2 hb3⟩
  have hlt200 := fewB_lt hf
  clear hlm hb1 hf HFW HAW
  have hwE : wtE xs lo (1 + st) 5 = grE xs := by
    unfold wtE
    split
    · rename_i h
      rw [h]
      unfold tableE
      rw [if_pos (by omega)]
    · rfl
  have H1 : Hid (∀ W, Below w.heap.size w W → Calls Tryz.prog 20 #[.slice A len cap] W (RepW W (repL xs (hoursL (xs.map Spm.ax))) (grE xs))) := fun W hW => raxes_any A len cap xs W (HEN.out W hW).env (by omega) (HS.out W hW)
  have H2 : Hid (∀ W, Below w.heap.size w W → Calls Tryz.prog 22 #[.slice A len cap, .int .i64 lo, .int .i64 (1 + st), .int .i64 5] W (RepW W (wtL xs lo (1 + st) 5) (grE xs))) := fun W hW => by
    have := rweights_any A len cap xs lo (1 + st) 5 W (HEN.out W hW).env (by omega) (HS.out W hW)
    rwa [hwE] at this
  by_cases he : ¬ grE xs = 0
  · have e1 : repL xs (hoursL (xs.map Spm.ax)) = [] := if_neg he
    have e2 : wtL xs lo (1 + st) 5 = [] := if_neg (by rw [hwE]; exact he)
    have hd : (grE xs != 0) = true := by simpa using he
    rw [e1] at H1
    rw [e2] at H2
    generalize grE xs = code at *
    clear he e1 e2 hwE
    go_wp2_with fail
    refine (H1.out _ hb2).mono ?_; rintro e w3 ⟨rfl, hb3⟩
    replace hb3 := below_keep' hb2 hb3
    go_wp2_with fail
    refine (H2.out _ hb3).mono ?_; rintro e w4 ⟨rfl, hb4⟩
    replace hb4 := below_keep' hb3 hb4
    go_wp2_with fail
    go_ret
    exact ⟨by simp, hb4⟩
  replace he := Classical.not_not.1 he
  obtain ⟨h64, hok⟩ := spm_ok he
  have e1 : repL xs (hoursL (xs.map Spm.ax)) = hoursL (xs.map Spm.ax) := if_pos he
  have e2 : wtL xs lo (1 + st) 5 = weightsL (tableW (xs.map Spm.wt) lo (1 + st) 5) lo (1 + st) := by unfold wtL; rw [hwE, if_pos he]; rfl
  rw [e1, he] at H1
  rw [e2, he] at H2
  have hml1 : (xs.map Spm.ax).length = len := by rw [List.length_map]; exact HL.out
  have hml2 : (xs.map Spm.wt).length = len := by rw [List.length_map]; exact HL.out
  have hl64 : len ≤ 64 := by have := HL.out; omega
  have hax : ∀ x ∈ xs.map Spm.ax, 0 ≤ x ∧ x < 12 := fun x hx => by obtain ⟨s, hs, rfl⟩ := List.mem_map.1 hx; exact (hok s hs).2.2.2.2.1
  have hwt : ∀ x ∈ xs.map Spm.wt, 1 ≤ x ∧ x ≤ 200000 := fun x hx => by obtain ⟨s, hs, rfl⟩ := List.mem_map.1 hx; exact (hok s hs).2.2.2.2.2
  have htb : ∀ x ∈ tableW (xs.map Spm.wt) lo (1 + st) 5, 0 ≤ x ∧ x ≤ 64 := fun x hx => by have := tableW_bd (xs.map Spm.wt) lo (1 + st) 5 x hx; omega
  have ha1 : (hoursL (xs.map Spm.ax)).length ≤ 100000 := by
    have := flatR_len (m := 50) (hourT54 (xs.map Spm.ax)) 12 (fun i hi => hourT_len _ (by omega) i hi)
    unfold hoursL; omega
  have ha2 : (weightsL (tableW (xs.map Spm.wt) lo (1 + st) 5) lo (1 + st)).length ≤ 100000 := by
    unfold weightsL
    rw [tableW_len]
    have := flatR_len (m := 90) (wlineT (tableW (xs.map Spm.wt) lo (1 + st) 5) lo (1 + st)) 7 (fun i hi => by
      have h9 := classT_len lo (1 + st) (tableW (xs.map Spm.wt) lo (1 + st) 5).length i (by omega) (by omega) (by omega) (by omega) (by omega)
      have h8 := (wbody_lw (t := tableW (xs.map Spm.wt) lo (1 + st) 5) (low := lo) (step := 1 + st) (by omega) (by omega) htb i).2
      have h7 := itoa21 _ h8.1 (by omega)
      unfold wlineT
      simp only [List.length_append, List.length_cons, List.length_nil]
      omega)
    exact Nat.le_trans this (by omega)
  have H3 : Hid (∀ W, Below w.heap.size w W → Calls Tryz.prog 27 #[.string ⟨(hoursL (xs.map Spm.ax)).toArray⟩, .int .i64 0] W fun e w' => e = .returned (.int .i64 len) ∧ Below W.heap.size W w') := fun W hW => by
    have := last_any (hoursL (xs.map Spm.ax)) W ha1 (hours_ok _ (by omega)) (HEN.out W hW)
    rwa [hours_sum _ (by omega) hax, hml1] at this
  have H4 : Hid (∀ W, Below w.heap.size w W → Calls Tryz.prog 27 #[.string ⟨(weightsL (tableW (xs.map Spm.wt) lo (1 + st) 5) lo (1 + st)).toArray⟩, .int .i64 0] W fun e w' => e = .returned (.int .i64 len) ∧ Below W.heap.size W w') := fun W hW => by
    have := last_any (weightsL (tableW (xs.map Spm.wt) lo (1 + st) 5) lo (1 + st)) W ha2 (weights_ok (by omega) (by omega) htb) (HEN.out W hW)
    rwa [weights_sum (by omega) (by omega) htb, tableW_sum _ lo (1 + st) 5 (by omega) (by omega) (by omega) hwt, hml2] at this
  clear ha1 ha2 htb hax hwt hok e1 e2 hwE he h64
  generalize hoursL (xs.map Spm.ax) = t1 at *
  generalize weightsL (tableW (xs.map Spm.wt) lo (1 + st) 5) lo (1 + st) = t2 at *
  go_wp2_with fail
  refine (H1.out _ hb2).mono ?_; rintro e w3 ⟨rfl, hb3⟩
  replace hb3 := below_keep' hb2 hb3
  go_wp2_with fail
  refine (H2.out _ hb3).mono ?_; rintro e w4 ⟨rfl, hb4⟩
  replace hb4 := below_keep' hb3 hb4
  go_wp2_with fail
  refine (H3.out _ hb4).mono ?_; rintro e w5 ⟨rfl, hb5⟩
  replace hb5 := below_keep' hb4 hb5
  go_wp2_with fail
  refine (H4.out _ hb5).mono ?_; rintro e w6 ⟨rfl, hb6⟩
  replace hb6 := below_keep' hb5 hb6
  go_wp2_with fail
  go_ret
  exact ⟨by simp, hb6⟩
end Go.Proofs.YtdokpmfejibdlaaGreatDoor
