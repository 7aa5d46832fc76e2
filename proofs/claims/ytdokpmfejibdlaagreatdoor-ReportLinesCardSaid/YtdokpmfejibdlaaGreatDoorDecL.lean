/- Plain law: the reference's text of a natural is its decimal numeral. -/
import Derived.Test.YtdokpmfejibdlaaGreatDoorProg
import Derived.Test.YtdokpmfejibdlaaGreatDoorBase
import Derived.Lib.ItoaNum
set_option linter.unusedSimpArgs false
set_option linter.unusedVariables false
namespace Go.Proofs.YtdokpmfejibdlaaGreatDoor
open Go.RowKit

def encU32 (n : Int) : List Value := [.int .u32 n]
theorem Tryz.infoU32 : (Tryz.prog.info? 153).map (fun i => (i.zero, i.size, i.bytes)) = some (some (.int .u32 0), 1, 4) := by kernel_rfl

theorem take_snoc' {α : Type} {xs : List α} {k : Nat} {x : α} (h : xs[k]? = some x) : xs.take (k + 1) = xs.take k ++ [x] := by
  obtain ⟨hl, rfl⟩ := List.getElem?_eq_some_iff.1 h
  exact List.take_succ_eq_append_getElem hl

theorem one_cell_new (w : World) (v : Value) (t : TypeId) : ∀ (j : Nat) (u : Value), [v][j]? = some u → (w.alloc (.cells #[v] t)).cell? (({ block := w.heap.size, off := 0 } : Addr).add j) = some u := by
  intro j u hj
  match j, hj with
  | 0, hj => simp at hj; subst hj; simp [Addr.add]
def lenOf : Value → Nat | .slice _ n _ => n | _ => 0
/-- The zeros at the end struck. -/
def trim (xs : List Int) : List Int := (xs.reverse.dropWhile (· == 0)).reverse

theorem trim_snoc0 (xs : List Int) : trim (xs ++ [0]) = trim xs := by simp [trim]
theorem trim_snoc {xs : List Int} {x : Int} (h : ¬ x = 0) : trim (xs ++ [x]) = xs ++ [x] := by simp [trim, h]
set_option maxRecDepth 100000 in
set_option maxHeartbeats 1000000 in
theorem norm_any (xs : List Int) (hxs : ∀ x ∈ xs, 0 ≤ x ∧ x < 1000000000) (hlen : xs.length ≤ 1000) (A : Option Addr) (n c : Nat) (w : World) (hS : Sl w 0 w.heap.size 1 encU32 A n xs) :
    Calls Tryz.prog 126 #[.agg #[.slice A n c]] w fun e w' => ∃ A' m c', e = .returned (.agg #[.slice A' m c']) ∧ Sl w' w.heap.size w'.heap.size 1 encU32 A' m (trim xs) ∧ Below w.heap.size w w' := by
  have hn : n ≤ 1000 := by have := hS.len; omega
  have hl := hS.len
  obtain ⟨i0, hi, hz0, hz1, hz2⟩ := info_parts Tryz.infoU32
  go_enter Tryz.func126, Tryz.ntmps126
  go_wp2
  generalize hW0 : (w.alloc (.cells #[.slice A n c] 112)).alloc (.cells #[.slice none 0 0] 112) = W0
  have hB0 : Below w.heap.size w W0 := by subst hW0; (repeat (first | exact Below.refl _ _ | assumption | refine Below.alloc ?_ (by first | omega | (simp only [World.size_alloc]; omega) | (simp; done) | (simp; omega)) _ | refine Below.setCell ?_ (by first | omega | (simp only [World.size_alloc]; omega) | (simp; done) | (simp; omega)) _ | refine Below.drew ?_ | refine below_drewN ?_ _))
  have hz : W0.heap.size = w.heap.size + 2 := by subst hW0; simp
  have hc0 : W0.cell? ⟨w.heap.size, 0, none⟩ = some (.slice A n c) := by subst hW0; simp
  have hc1 : W0.cell? ⟨w.heap.size + 1, 0, none⟩ = some (.slice none 0 0) ∧ W0.frozen? ⟨w.heap.size + 1, 0, none⟩ = false := by subst hW0; simp
  clear hW0
  have hS0 := hS.below hB0 (Nat.le_refl _)
  have HZ := Lib.hid hz; clear hz
  go_loopw [3, 4, 5] (fun v cy i wr => ∃ k : Nat, k ≤ n ∧ i = .int .i64 k ∧ cy = .int .u64 0 ∧ wr.ownsRow (w.heap.size + 2) 153 1 v k ((xs.take k).flatMap encU32) ∧ Below (w.heap.size + 2) W0 wr)
    (fun _ _ i _ => n - (intOf i).toNat)
  case atStart => exact ⟨0, by omega, rfl, rfl, World.ownsRow_nil _ _ _ _, Below.refl _ _⟩
  case round =>
    obtain ⟨k, hk, rfl, rfl, hown, hb⟩ := hrel
    have hcb : wr.cell? ⟨w.heap.size, 0, none⟩ = some (.slice A n c) := (hb.cell (by simp)).trans hc0
    have hSr := hS0.below hb (by omega)
    have hsz : w.heap.size + 2 ≤ wr.heap.size := by have := hb.size; have := HZ.out; omega
    by_cases hlt : k < n
    · obtain ⟨b, off, x, rfl, hbl, hbb, hx, hcx⟩ := Sl.one_ hSr hlt
      have hx2 := hxs x (List.mem_of_getElem? hx)
      have hm : x % 1000000000 = x := by omega
      have hd : x / 1000000000 = 0 := by omega
      have ht : xs.take (k + 1) = xs.take k ++ [x] := take_snoc' hx
      obtain ⟨hx0, hx1⟩ := hx2
      have HT := Lib.hid ht; clear ht
      have HX := Lib.hid hx; clear hx
      have HC0 := Lib.hid hc0; clear hc0
      go_wp2_with (at_builtin; refine wpList_append_own _ rfl _ _ 110 rfl (w.heap.size + 2) 153 i0 (.int .u32 0) 1 4 Tryz.underlying110 hi hz0 hz1 hz2 rfl (by decide) _ _ _ rfl (hown.alloc _) ⟨wr.heap.size, 0, none⟩ 1 1 [.int .u32 x] rfl rfl ?c1 ?c2 ?c3 ?c4 ?c5 ?_)
      case c1 => exact one_cell_new _ _ _
      case c2 => simp [Value.oneCell']
      case c3 => unfold maxLen; omega
      case c4 => omega
      case c5 => simp; omega
      · intro v' w1 hown' hgrow _
        have hb1 := (hb.alloc (by omega) (.cells #[.int .u32 x] 153)).grown hgrow (by simp; omega) (fun g hg => (hown.lt g hg).1)
        clear hgrow hcb hown hb
        go_wp2
        go_roundw
        case rel => exact ⟨k + 1, by omega, by go_num, by go_num, by rw [HT.out, List.flatMap_append]; exact hown', hb1⟩
        case measure => simp [intOf]; omega
    · obtain rfl : k = n := by omega
      rw [List.take_of_length_le (by omega)] at hown
      have hcr : wr.cell? ⟨w.heap.size + 1, 0, none⟩ = some (.slice none 0 0) := (hb.cell (by simp)).trans hc1.1
      have hfr : wr.frozen? ⟨w.heap.size + 1, 0, none⟩ = false := (hb.frozen (by simp)).trans hc1.2
      have hsr : w.heap.size + 1 < wr.heap.size := by omega
      clear hc1 hc0 HZ
      obtain ⟨A1, c1, rfl, hkc⟩ := own_form hown
      have hS1 := Sl.of_own (enc := encU32) (fun _ => rfl) hown hl
      have hsE : ∀ v, Sl (wr.setCell ⟨w.heap.size + 1, 0, none⟩ v) w.heap.size (wr.setCell ⟨w.heap.size + 1, 0, none⟩ v).heap.size 1 encU32 A1 k xs := fun v => ((Sl.of_own (enc := encU32) (fun _ => rfl) (ownsRow_setCell_below hown (by simp) v) hl).less (by omega))
      clear hown
      go_wp2
      go_loopw [3] (fun v wq => ∃ m : Nat, m ≤ k ∧ v = .slice A1 m c1 ∧ trim xs = trim (xs.take m) ∧ wq = wr) (fun v _ => lenOf v)
      case atStart => exact ⟨k, by omega, rfl, by rw [List.take_of_length_le (by omega)], rfl⟩
      case round =>
        obtain ⟨m, hm, rfl, ht, rfl⟩ := hrel
        have HT := Lib.hid ht; clear ht
        have hset : ∀ v, (wr.setCell ⟨w.heap.size + 1, 0, none⟩ v).cell? ⟨w.heap.size + 1, 0, none⟩ = some v := fun v => World.cell?_setCell_same' _ _ _ (by rw [hcr]; rfl)
        have hbE : ∀ v, Below w.heap.size w (wr.setCell ⟨w.heap.size + 1, 0, none⟩ v) := fun v => (hB0.trans (hb.mono (by omega))).setCell (by simp) v
        rcases Nat.eq_zero_or_pos m with rfl | hm0
        · go_wp2
          refine bodyPost_ret (v := .agg #[.slice A1 0 c1]) (by simp [results, Tryz.results126, go_sem, hset]) rfl ⟨A1, 0, c1, rfl, ?_, hbE _⟩
          rw [HT.out]; exact Sl.nil
        · obtain ⟨m, rfl⟩ : ∃ m', m = m' + 1 := ⟨m - 1, by omega⟩
          obtain ⟨b, off, x, rfl, hbl, hbb, hx, hcx⟩ := Sl.one_ hS1 (show m < k by omega)
          have HX := Lib.hid hx; clear hx
          have HS1 := Lib.hid hS1; clear hS1
          have HS0 := Lib.hid hS0; clear hS0
          have HL := Lib.hid hl; clear hl
          have hmc : m ≤ c1 := by omega
          by_cases hx0 : x = 0
          · subst hx0
            clear hset hbE hsE
            go_wp2
            go_roundw
            case rel => exact ⟨m, by omega, rfl, by rw [HT.out, take_snoc' HX.out, trim_snoc0], by trivial⟩
            case measure => simp [lenOf]
          · have hx1 : (x == 0) = false := by simp [hx0]
            have HX0 := Lib.hid hx0
            clear hx0
            go_wp2
            refine bodyPost_ret (v := .agg #[.slice (some ⟨b, off, none⟩) (m + 1) c1]) (by simp [results, Tryz.results126, go_sem, hset]) rfl ⟨some ⟨b, off, none⟩, m + 1, c1, rfl, ?_, hbE _⟩
            rw [HT.out, take_snoc' HX.out, trim_snoc HX0.out, ← take_snoc' HX.out]
            exact (hsE _).cut _ (by omega)

theorem of_e1 (n : Nat) : ((n : Int) % 1000000000) = ((n % 1000000000 : Nat) : Int) := by omega
theorem of_q (n : Nat) (h : n < 18446744073709551616) : IntKind.u64.wrap ((n : Int) / 1000000000) = ((n / 1000000000 : Nat) : Int) := by
  rw [IntKind.wrap_u64]; omega
theorem of_e2 (n : Nat) (h : n < 18446744073709551616) : (IntKind.u64.wrap ((n : Int) / 1000000000)).tmod 1000000000 % 4294967296 = ((n / 1000000000 % 1000000000 : Nat) : Int) := by
  rw [of_q n h, Int.tmod_eq_emod_of_nonneg (by omega)]; omega
theorem of_e3 (n : Nat) (h : n < 18446744073709551616) : IntKind.u64.wrap ((IntKind.u64.wrap ((n : Int) / 1000000000)).tdiv 1000000000) % 4294967296 = ((n / 1000000000 / 1000000000 : Nat) : Int) := by
  rw [of_q n h, Int.tdiv_eq_ediv_of_nonneg (by omega), IntKind.wrap_u64]; omega
theorem of_lt (n : Nat) (h : n < 18446744073709551616) : ∀ x ∈ [((n % 1000000000 : Nat) : Int), ((n / 1000000000 % 1000000000 : Nat) : Int), ((n / 1000000000 / 1000000000 : Nat) : Int)], 0 ≤ x ∧ x < 1000000000 := by
  intro x hx
  simp only [List.mem_cons, List.not_mem_nil, or_false] at hx
  rcases hx with rfl | rfl | rfl <;> omega
set_option maxRecDepth 100000 in
set_option maxHeartbeats 1000000 in
theorem of_any (n : Nat) (hn : n < 18446744073709551616) (w : World) :
    Calls Tryz.prog 84 #[.int .u64 n] w fun e w' => ∃ A' m c', e = .returned (.agg #[.slice A' m c']) ∧ Sl w' w.heap.size w'.heap.size 1 encU32 A' m (trim [((n % 1000000000 : Nat) : Int), ((n / 1000000000 % 1000000000 : Nat) : Int), ((n / 1000000000 / 1000000000 : Nat) : Int)]) ∧ Below w.heap.size w w' := by
  have h1 := Lib.hid hn; clear hn
  have hS : ∀ W : World, ∀ a b c : Int, Sl ((W.alloc (.cells #[.int .u32 a, .int .u32 b, .int .u32 c] 153))) 0 (W.heap.size + 1) 1 encU32 (some ⟨W.heap.size, 0, none⟩) 3 [a, b, c] := by
    intro W a b c
    refine ⟨rfl, fun _ => ⟨W.heap.size, 0, rfl, Nat.zero_le _, by omega, fun i x hx j u hu => ?_⟩⟩
    match i, j, hx, hu with
    | 0, 0, hx, hu => simp at hx; subst hx; simp [encU32] at hu; subst hu; simp
    | 1, 0, hx, hu => simp at hx; subst hx; simp [encU32] at hu; subst hu; simp
    | 2, 0, hx, hu => simp at hx; subst hx; simp [encU32] at hu; subst hu; simp
    | i + 3, _, hx, hu => simp at hx
    | _, j + 1, hx, hu => simp [encU32] at hu
  have hS' : ∀ a b c : Int, Sl ((w.alloc (.cells #[.slice none 0 0] 112)).alloc (.cells #[.int .u32 a, .int .u32 b, .int .u32 c] 153)) 0 (w.heap.size + 1 + 1) 1 encU32 (some ⟨w.heap.size + 1, 0, none⟩) 3 [a, b, c] := fun a b c => by
    have h := hS (w.alloc (.cells #[.slice none 0 0] 112)) a b c
    rw [World.size_alloc] at h
    exact h
  go_enter Tryz.func84, Tryz.ntmps84
  go_wp2_with fail
  rw [of_e1 n, of_e2 n h1.out, of_e3 n h1.out]
  refine (norm_any _ (of_lt n h1.out) (by simp) _ _ _ _ ((hS' _ _ _).more (by simp))).mono ?_
  rintro e w1 ⟨A1, m, c1, rfl, hS1, hb1⟩
  simp only [World.size_alloc] at hS1 hb1
  have hc : w1.cell? ⟨w.heap.size, 0, none⟩ = some (.slice none 0 0) := (hb1.cell (by first | (simp; done) | (simp; omega) | (show _ < _; omega))).trans (by simp); have fhc : w1.frozen? ⟨w.heap.size, 0, none⟩ = false := (hb1.frozen (by first | (simp; done) | (simp; omega) | (show _ < _; omega))).trans (by simp)
  have hz1 : w.heap.size < w1.heap.size := by have := hb1.size; simp at this; omega
  have hset : ∀ v, (w1.setCell ⟨w.heap.size, 0, none⟩ v).cell? ⟨w.heap.size, 0, none⟩ = some v := fun v => World.cell?_setCell_same' _ _ _ (by rw [hc]; rfl)
  have hS2 := (hS1.set_ (p := ⟨w.heap.size, 0, none⟩) (by simp; omega) (.slice A1 m c1)).less (show w.heap.size ≤ _ by omega)
  have hb2 : Below w.heap.size w (w1.setCell ⟨w.heap.size, 0, none⟩ (.slice A1 m c1)) := Below.setCell (Below.trans (by (repeat (first | exact Below.refl _ _ | assumption | refine Below.alloc ?_ (by first | omega | (simp only [World.size_alloc]; omega) | (simp; done) | (simp; omega)) _ | refine Below.setCell ?_ (by first | omega | (simp only [World.size_alloc]; omega) | (simp; done) | (simp; omega)) _ | refine Below.drew ?_ | refine below_drewN ?_ _))) (hb1.mono (by omega))) (by simp) _
  clear hb1 hS hS' hS1
  go_wp2_with fail
  refine bodyPost_ret (v := .agg #[.slice A1 m c1]) (by simp [results, Tryz.results84, go_sem, hset]) rfl ⟨A1, m, c1, rfl, hS2.more (by simp [World.setCell]), hb2⟩

theorem dropWhile_len {α : Type} (p : α → Bool) : ∀ (l : List α), (l.dropWhile p).length ≤ l.length
  | [] => by simp
  | x :: l => by
    rw [List.dropWhile_cons]
    split
    · exact Nat.le_succ_of_le (dropWhile_len p l)
    · exact Nat.le_refl _
theorem mem_dropWhile {α : Type} (p : α → Bool) {x : α} : ∀ {l : List α}, x ∈ l.dropWhile p → x ∈ l
  | [], h => by simp at h
  | y :: l, h => by
    rw [List.dropWhile_cons] at h
    split at h
    · exact List.mem_cons_of_mem _ (mem_dropWhile p h)
    · exact h
theorem trim_le (xs : List Int) : (trim xs).length ≤ xs.length := by
  unfold trim
  rw [List.length_reverse]
  exact Nat.le_trans (dropWhile_len _ _) (by simp)
theorem mem_trim {xs : List Int} {x : Int} (h : x ∈ trim xs) : x ∈ xs := by
  unfold trim at h
  have := mem_dropWhile _ (List.mem_reverse.1 h)
  exact List.mem_reverse.1 this
theorem ByteArray.mk_append_mk' (a : UInt8) (y : List UInt8) : (ByteArray.mk #[a] ++ ByteArray.mk y.toArray) = ByteArray.mk (a :: y).toArray := ByteArray.mk_append_mk [a] y
def strLen : Value → Nat | .string s => s.size | _ => 0
def pd : Nat → Nat → List UInt8
  | 0, _ => []
  | k + 1, x => (48 + UInt8.ofNat (x / 10 ^ k % 10)) :: pd k x
def digs : List Int → List UInt8
  | [] => []
  | x :: xs => digs xs ++ pd 9 x.toNat
def natText (xs : List Int) : List UInt8 :=
  let t := (digs (trim xs)).dropWhile (· == 48)
  if t.isEmpty then [48] else t

theorem byteString (w : World) (x : Int) : (convert 64 9 (.slice (some ⟨w.heap.size, 0, none⟩) 1 1)).run Tryz.prog (w.alloc (.cells #[.int .u8 x] 5)) = .ok (.string ⟨[UInt8.ofNat x.toNat].toArray⟩) (w.alloc (.cells #[.int .u8 x] 5)) := by
  rw [run_convert_bytes_arg _ 64 5 Tryz.underlying64 Tryz.underlying5 w.heap.size 0 1 1 [x] rfl (fun i hi => by have h0 : i = 0 := (by omega); subst h0; simp) 9 Tryz.underlying9]
  rfl
theorem pd_len (t q : Nat) : (pd t q).length = t := by induction t with
  | zero => rfl
  | succ t ih => simp [pd, ih]
theorem digs_len : ∀ xs : List Int, (digs xs).length = 9 * xs.length
  | [] => rfl
  | x :: xs => by simp [digs, digs_len xs, pd_len]; omega
theorem digs_snoc : ∀ (xs : List Int) (q : Nat), digs (xs ++ [(q : Int)]) = pd 9 q ++ digs xs
  | [], q => by simp [digs]
  | x :: xs, q => by simp [digs, digs_snoc xs q]
set_option maxRecDepth 100000 in
set_option maxHeartbeats 1000000 in
theorem text_any (xs : List Int) (hxs : ∀ x ∈ xs, 0 ≤ x ∧ x < 1000000000) (hlen : xs.length ≤ 1000) (A : Option Addr) (n c : Nat) (w : World) (hS : Sl w 0 w.heap.size 1 encU32 A n xs) :
    Calls Tryz.prog 83 #[.agg #[.slice A n c]] w fun e w' => e = .returned (.string ⟨(natText xs).toArray⟩) ∧ Below w.heap.size w w' := by
  have hl := hS.len
  go_enter Tryz.func83, Tryz.ntmps83
  go_wp2_with fail
  refine (norm_any xs hxs hlen A n c _ (hS.alloc _)).mono ?_
  rintro e w1 ⟨A1, m, c1, rfl, hS1, hb1⟩
  simp only [World.size_alloc] at hS1 hb1
  have hc : w1.cell? ⟨w.heap.size, 0, none⟩ = some (.slice A n c) := (hb1.cell (by first | (simp; done) | (simp; omega) | (show _ < _; omega))).trans (by simp); have fhc : w1.frozen? ⟨w.heap.size, 0, none⟩ = false := (hb1.frozen (by first | (simp; done) | (simp; omega) | (show _ < _; omega))).trans (by simp)
  have hz1 : w.heap.size < w1.heap.size := by have := hb1.size; simp at this; omega
  have hset : (w1.setCell ⟨w.heap.size, 0, none⟩ (.slice A1 m c1)).cell? ⟨w.heap.size, 0, none⟩ = some (.slice A1 m c1) := World.cell?_setCell_same' _ _ _ (by rw [hc]; rfl)
  have hS2 := hS1.set_ (p := ⟨w.heap.size, 0, none⟩) (by simp) (.slice A1 m c1)
  have hb2 : Below w.heap.size w (w1.setCell ⟨w.heap.size, 0, none⟩ (.slice A1 m c1)) := Below.setCell (((Below.refl _ w).alloc (Nat.le_refl _) _).trans (hb1.mono (by simp))) (by simp) _
  have hz2 : w.heap.size < (w1.setCell ⟨w.heap.size, 0, none⟩ (.slice A1 m c1)).heap.size := by simpa [World.setCell] using hz1
  have hz3 : w1.heap.size ≤ (w1.setCell ⟨w.heap.size, 0, none⟩ (.slice A1 m c1)).heap.size := by simp [World.setCell]
  have hlt := hS1.len
  have htr : (trim xs).length ≤ 1000 := Nat.le_trans (trim_le xs) hlen
  have hty : ∀ x ∈ trim xs, 0 ≤ x ∧ x < 1000000000 := fun x hx => hxs x (mem_trim hx)
  clear hb1 hS1 hxs hlen hS hl
  go_wp2_with fail
  generalize (w1.setCell ⟨w.heap.size, 0, none⟩ (.slice A1 m c1)) = W2 at *
  generalize hys : trim xs = ys at *
  have HYS := Lib.hid hys; clear hys
  clear hc fhc hz1
  go_wp2_with fail
  go_loopw [3, 4] (fun s i wr => ∃ k : Nat, k ≤ m ∧ i = .int .i64 k ∧ s = .string ⟨(digs (ys.take k)).toArray⟩ ∧ Below W2.heap.size W2 wr) (fun _ i _ => m - (intOf i).toNat)
  case atStart => exact ⟨0, by omega, rfl, rfl, Below.refl _ _⟩
  case round =>
    obtain ⟨k, hk, rfl, rfl, hb⟩ := hrel
    have hcr : wr.cell? ⟨w.heap.size, 0, none⟩ = some (.slice A1 m c1) := (hb.cell (by simpa using hz2)).trans hset
    have hzr : w.heap.size < wr.heap.size := by have := hb.size; omega
    by_cases hkm : k < m
    · obtain ⟨b, off, x, rfl, hbl, hbb, hx, hcx⟩ := Sl.one_ hS2 hkm
      have hcx' : wr.cell? ⟨b, off + k, none⟩ = some (.int .u32 x) := (hb.cell (by show b < _; omega)).trans hcx
      obtain ⟨hx0, hx1⟩ := hty x (List.mem_of_getElem? hx)
      have HX := Lib.hid hx; clear hx
      have HTY := Lib.hid hty; clear hty
      obtain ⟨q, rfl⟩ := Int.eq_ofNat_of_zero_le hx0
      go_wp2_with fail
      obtain ⟨wo, rfl⟩ : ∃ wo : World, wo = wr := ⟨_, rfl⟩
      go_loopw [3, 5, 6] (fun s n j wi => ∃ t y : Nat, t ≤ 9 ∧ y = q / 10 ^ t ∧ j = .int .i64 t ∧ n = .int .u32 (y : Int) ∧ s = .string ⟨(pd t q ++ digs (ys.take k)).toArray⟩ ∧ Below wo.heap.size wo wi) (fun _ _ j _ => 9 - (intOf j).toNat)
      case atStart => exact ⟨0, q, by omega, by simp, rfl, rfl, rfl, Below.refl _ _⟩
      case round =>
        obtain ⟨t, y, ht, hy, rfl, rfl, rfl, hbi⟩ := hrel
        have hyl : y ≤ 999999999 := by
          have := Nat.div_le_self q (10 ^ t)
          omega
        have hstl : (pd t q ++ digs (ys.take k)).length ≤ 20000 := by
          rw [List.length_append, pd_len, digs_len, List.length_take]; omega
        clear hx0 hx1
        generalize hst : pd t q ++ digs (ys.take k) = st at *
        have HST := Lib.hid hst; clear hst
        have HY := Lib.hid hy; clear hy
        have hcv := byteString
        by_cases ht9 : t < 9
        · go_wp2_with fail
          go_roundw
          case rel =>
            refine ⟨t + 1, y / 10, by omega, by rw [HY.out, Nat.div_div_eq_div_mul, Nat.pow_succ], by go_num, by go_num, ?_, hbi.alloc hbi.size _⟩
            rw [ByteArray.mk_append_mk' , ← HST.out, HY.out]
            rfl
          case measure => simp [intOf]; omega
        · obtain rfl : t = 9 := by omega
          go_wp2_with fail
          go_roundw
          case rel => exact ⟨k + 1, by omega, by go_num, by rw [take_snoc' HX.out, digs_snoc, HST.out], hb.trans (hbi.mono hb.size)⟩
          case measure => simp [intOf]; omega
    · obtain rfl : k = m := by omega
      rw [List.take_of_length_le (by omega)]
      generalize hst : digs ys = st at *
      have HST := Lib.hid hst; clear hst
      go_wp2_with fail
      go_loopw [3] (fun s wi => ∃ st', s = .string ⟨List.toArray st'⟩ ∧ st'.length ≤ 20000 ∧ st'.dropWhile (· == 48) = st.dropWhile (· == 48) ∧ wi = wr) (fun s _ => strLen s)
      case atStart => exact ⟨st, rfl, by rw [← HST.out, digs_len]; omega, rfl, rfl⟩
      case round =>
        obtain ⟨st', rfl, hl', hst', rfl⟩ := hrel
        cases st' with
        | nil =>
          have HN : Hid (natText xs = [48]) := by
            show natText xs = [48]
            unfold natText
            rw [HYS.out, HST.out, ← hst']
            rfl
          clear hst'
          go_wp2_with fail
          go_ret
          exact ⟨by rw [HN.out]; rfl, hb2.trans (hb.mono (by omega))⟩
        | cons ch st' =>
          have h0 : ∀ h, (ByteArray.mk (ch :: st').toArray)[0]'h = ch := fun _ => rfl
          by_cases h48 : ch = 48
          · subst h48
            have HST' : Hid (st'.dropWhile (· == 48) = st.dropWhile (· == 48)) := by
              rw [List.dropWhile_cons_of_pos rfl] at hst'
              exact hst'
            clear hst'
            go_wp2_with fail
            go_roundw
            case rel =>
              refine ⟨st', ?_, by simp at hl'; omega, HST'.out, by trivial⟩
              rw [ByteArray.extract_mk]; simp
            case measure => simp [strLen, ByteArray.size]
          · have HN : Hid (natText xs = ch :: st') := by
              show natText xs = ch :: st'
              unfold natText
              rw [HYS.out, HST.out, ← hst', List.dropWhile_cons_of_neg (by simpa using h48)]
              rfl
            have hch : ((ch.toNat : Int) == 48) = false := by
              have : ch.toNat ≠ 48 := fun h => h48 (UInt8.toNat_inj.1 h)
              simp; omega
            clear hst' h48
            go_wp2_with fail
            go_ret
            exact ⟨by rw [HN.out]; rfl, hb2.trans (hb.mono (by omega))⟩
end Go.Proofs.YtdokpmfejibdlaaGreatDoor
set_option linter.unusedSimpArgs false
namespace Go.Proofs.YtdokpmfejibdlaaGreatDoor
open Go.Lib

def strip (l : List UInt8) : List UInt8 := l.dropWhile (· == 48)
theorem strip_append (a b : List UInt8) : strip (a ++ b) = if strip a = [] then strip b else strip a ++ b := by
  induction a with
  | nil => simp [strip]
  | cons x a ih =>
    by_cases h : x = 48
    · subst h
      rw [List.cons_append, show strip (48 :: (a ++ b)) = strip (a ++ b) from rfl, show strip (48 :: a) = strip a from rfl]
      exact ih
    · simp [strip, h]
theorem dig_eq (d : Nat) : UInt8.ofNat (48 + d) = 48 + UInt8.ofNat d := by
  apply UInt8.toNat_inj.1
  simp [UInt8.toNat_ofNat']
theorem pd_snoc (k x : Nat) : pd (k + 1) x = pd k (x / 10) ++ [48 + UInt8.ofNat (x % 10)] := by
  induction k generalizing x with
  | zero => simp [pd]
  | succ k ih =>
    rw [pd, ih]
    show _ :: (pd k (x / 10) ++ _) = (_ :: pd k (x / 10)) ++ _
    rw [Nat.div_div_eq_div_mul, Nat.pow_succ, Nat.mul_comm (10 ^ k) 10]
    rfl
theorem decDigits_ne (u : Nat) : decDigits u ≠ [] := by
  rw [decDigits]; split <;> simp
theorem dig_ne {d : Nat} (h : d < 10) (h0 : d ≠ 0) : (48 + UInt8.ofNat d : UInt8) ≠ 48 := by
  intro e
  have e := congrArg UInt8.toNat e
  rw [← dig_eq, UInt8.toNat_ofNat'] at e
  have : (48 + d) % 2 ^ 8 = 48 + d := Nat.mod_eq_of_lt (by omega)
  rw [this] at e
  have h48 : (48 : UInt8).toNat = 48 := rfl
  omega
theorem strip_pd : ∀ (k x : Nat), x < 10 ^ k → strip (pd k x) = if x = 0 then [] else decDigits x
  | 0, x, h => by
    have : x = 0 := by simpa using h
    subst this; rfl
  | k + 1, x, h => by
    rw [pd_snoc, strip_append, strip_pd k (x / 10) (by rw [Nat.pow_succ] at h; omega)]
    by_cases h10 : x < 10
    · have h0 : x / 10 = 0 := by omega
      rw [h0]
      simp only [if_true]
      have hm : x % 10 = x := by omega
      rw [hm]
      by_cases hx : x = 0
      · subst hx; rfl
      · rw [if_neg hx, decDigits, dif_pos h10, dig_eq]
        have := dig_ne h10 hx
        simp [strip, this]
    · have h0 : ¬ x / 10 = 0 := by omega
      have hx : ¬ x = 0 := by omega
      rw [if_neg h0, if_neg (decDigits_ne _), if_neg hx]
      conv => rhs; rw [decDigits]
      rw [dif_neg h10, dig_eq]
theorem pd_mod (m x : Nat) : ∀ k, k ≤ m → pd k (x % 10 ^ m) = pd k x
  | 0, _ => rfl
  | k + 1, h => by
    rw [pd, pd, pd_mod m x k (by omega)]
    have e : 10 ^ m = 10 ^ k * (10 * 10 ^ (m - k - 1)) := by
      rw [← Nat.mul_assoc, ← Nat.pow_succ, ← Nat.pow_add]
      congr 1; omega
    have hd : x % 10 ^ m / 10 ^ k % 10 = x / 10 ^ k % 10 := by
      rw [e, Nat.mod_mul_right_div_self, Nat.mod_mul_right_mod]
    rw [hd]
theorem pd_add (m x : Nat) : ∀ k, pd (k + m) x = pd k (x / 10 ^ m) ++ pd m (x % 10 ^ m)
  | 0 => by rw [Nat.zero_add, pd_mod m x m (Nat.le_refl _)]; rfl
  | k + 1 => by
    rw [show k + 1 + m = (k + m) + 1 from by omega, pd, pd_add m x k, pd, Nat.div_div_eq_div_mul, ← Nat.pow_add, Nat.add_comm m k]
    rfl
theorem strip_zero (k : Nat) : strip (pd k 0) = [] := by
  rw [strip_pd k 0 (Nat.pow_pos (by omega))]; rfl
theorem strip_digs0 (xs : List Int) : strip (digs (xs ++ [0])) = strip (digs xs) := by
  have := digs_snoc xs 0
  rw [show ((0 : Nat) : Int) = 0 from rfl] at this
  rw [this, strip_append, strip_zero, if_pos rfl]
theorem strip_trim_rev : ∀ (ys : List Int), strip (digs ((ys.dropWhile (· == 0)).reverse)) = strip (digs ys.reverse)
  | [] => rfl
  | y :: ys => by
    by_cases h : y = 0
    · subst h
      rw [List.dropWhile_cons_of_pos rfl, strip_trim_rev ys, List.reverse_cons, strip_digs0]
    · rw [List.dropWhile_cons_of_neg (by simpa using h)]
theorem strip_trim (xs : List Int) : strip (digs (trim xs)) = strip (digs xs) := by
  unfold trim
  rw [strip_trim_rev, List.reverse_reverse]

/-- THE LAW: the text of Of n is the numeral of n. -/
theorem natText_of (n : Nat) (h : n < 18446744073709551616) : natText (trim [((n % 1000000000 : Nat) : Int), ((n / 1000000000 % 1000000000 : Nat) : Int), ((n / 1000000000 / 1000000000 : Nat) : Int)]) = decDigits n := by
  have hs : strip (digs (trim (trim [((n % 1000000000 : Nat) : Int), ((n / 1000000000 % 1000000000 : Nat) : Int), ((n / 1000000000 / 1000000000 : Nat) : Int)]))) = if n = 0 then [] else decDigits n := by
    rw [strip_trim, strip_trim, ← strip_pd 27 n (Nat.lt_trans h (by decide)), pd_add 9 n 18, pd_add 9 (n / 10 ^ 9) 9]
    simp only [digs, Int.toNat_natCast]
    have hq : n / 10 ^ 9 / 10 ^ 9 = n / 1000000000 / 1000000000 := rfl
    rw [hq]
    congr 1
  show (if (strip (digs (trim _))).isEmpty then [48] else strip (digs (trim _))) = _
  rw [hs]
  by_cases h0 : n = 0
  · subst h0; rw [decDigits]; rfl
  · rw [if_neg h0, if_neg (by simpa using decDigits_ne n)]
end Go.Proofs.YtdokpmfejibdlaaGreatDoor
