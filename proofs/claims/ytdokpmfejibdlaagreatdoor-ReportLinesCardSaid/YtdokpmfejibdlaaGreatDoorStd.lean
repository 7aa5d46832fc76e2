/- The library's functions on numbers and strings, by the shelf's contracts, over one word for what the world must hold. -/
import Derived.Test.YtdokpmfejibdlaaGreatDoorShelf
import Derived.Test.YtdokpmfejibdlaaGreatDoorBase
import Derived.Lib.SmallJoins
import Derived.Shelf.GgClosure.Gives
set_option linter.unusedSimpArgs false
set_option linter.unusedVariables false
namespace Go.Proofs.YtdokpmfejibdlaaGreatDoor
open Go.RowKit

/-- What the library's variables hold. -/
structure Env (w : World) : Prop where
  size : 8 ≤ w.heap.size
  maxlen : ∃ m, w.cell? ⟨0, 0, none⟩ = some (.int .i64 m)
  tab : Lib.TabIs Tryz.prog w "internal/strconv.uint64pow10" .u64 Lib.pow10Tab
theorem gTab : Tryz.prog.globalNamed "internal/strconv.uint64pow10" = some 3 := by kernel_rfl
theorem Env.step {w w' : World} (h : Env w) (hb : Below w.heap.size w w') : Env w' := by
  have hs := h.size
  refine ⟨Nat.le_trans h.size hb.size, ?_, var?_below hb gTab (by omega) h.tab⟩
  obtain ⟨m, hm⟩ := h.maxlen
  exact ⟨m, (hb.cell (p := ⟨0, 0, none⟩) (by show 0 < w.heap.size; omega)).trans hm⟩
/-- .. the errors of Atoi, too. -/
structure EnvA (w : World) : Prop where
  env : Env w
  syn : ∃ te pe, w.cell? ⟨1, 0, none⟩ = some (.iface te pe)
  ran : ∃ te pe, w.cell? ⟨2, 0, none⟩ = some (.iface te pe)
theorem EnvA.step {w w' : World} (h : EnvA w) (hb : Below w.heap.size w w') : EnvA w' := by
  have hs := h.env.size
  refine ⟨h.env.step hb, ?_, ?_⟩
  · obtain ⟨te, pe, hm⟩ := h.syn
    exact ⟨te, pe, (hb.cell (p := ⟨1, 0, none⟩) (by show 1 < w.heap.size; omega)).trans hm⟩
  · obtain ⟨te, pe, hm⟩ := h.ran
    exact ⟨te, pe, (hb.cell (p := ⟨2, 0, none⟩) (by show 2 < w.heap.size; omega)).trans hm⟩

theorem below_grown_dn (B : Nat) (w : World) (q : Nat) (os : Array Obj) (hB : B ≤ w.heap.size) : Below B w (Sort.grow (w.drewN q) os) := by
  refine ⟨rfl, rfl, rfl, ?_, fun k hk => ?_⟩
  · show _ ≤ (w.heap ++ os).size
    simp
  · show (w.heap ++ os)[k]? = _
    rw [Array.getElem?_append_left (by omega)]
theorem itoa_any (n : Int) (w : World) (h1 : -9223372036854775808 ≤ n) (h2 : n ≤ 9223372036854775807) (hE : Env w) :
    Calls Tryz.prog 37 #[.int .i64 n] w fun e w' => e = .returned (.string ⟨(Lib.itoa n).toArray⟩) ∧ Below w.heap.size w w' :=
  (Tryz.strconv_Itoa n h1 h2 w hE.tab).mono fun e w' ⟨he, k, os, hw⟩ => ⟨he, by rw [hw]; exact below_grown_dn _ _ _ _ (Nat.le_refl _)⟩

theorem atoi_ok (s : ByteArray) (v : Int) (w : World) (hs : s.size ≤ 281474976710656) (hv : Lib.atoiAll s.data.toList = .ok v) :
    Calls Tryz.prog 29 #[.string s] w fun e w' => e = .returned (.tuple #[.int .i64 v, .nilIface]) ∧ Below w.heap.size w w' :=
  (Tryz.strconv_Atoi_ok s (by omega) v hv w).mono fun e w' ⟨he, hw⟩ => ⟨he, by
    rcases hw with rfl | ⟨t, rfl⟩
    · exact Below.refl _ _
    · exact Joins.below_bytesWorld _ _ _ _ (Nat.le_refl _)⟩
/-- Atoi's error: some number, some error. -/
def AtoiErr (e : Ending) : Prop := ∃ k te pv, e = .returned (.tuple #[.int .i64 k, .iface te pv])
theorem atoi_err (s : ByteArray) (w : World) (hs : s.size ≤ 281474976710656) (hv : ∀ v, Lib.atoiAll s.data.toList ≠ .ok v) (hE : EnvA w) :
    Calls Tryz.prog 29 #[.string s] w fun e w' => AtoiErr e ∧ Below w.heap.size w w' := by
  cases hc : Lib.atoiAll s.data.toList
  · exact absurd hc (hv _)
  · obtain ⟨te, pe, hm⟩ := hE.syn
    exact (Any.strconv_Atoi_syntax Tryz.laysC172 s hs hc _ w hm (.inr ⟨te, pe, rfl⟩)).mono fun e w' ⟨N, he, _, _, hb⟩ => ⟨⟨_, _, _, he⟩, hb⟩
  · obtain ⟨te, pe, hm⟩ := hE.ran
    exact (Tryz.strconv_Atoi_range s hs hc _ w hm (.inr ⟨te, pe, rfl⟩)).mono fun e w' ⟨N, he, _, _, hb⟩ => ⟨⟨_, _, _, he⟩, hb⟩
theorem size_mk' (l : List UInt8) : (ByteArray.mk l.toArray).size = l.length := by simp [ByteArray.size]
end Go.Proofs.YtdokpmfejibdlaaGreatDoor
