/- Chapter 46: groups, the program's. -/
import Derived.Test.YtccmchmemafjdaaGreatDoorOx
import Derived.Test.YtccmchmemafjdaaGreatDoorOj
import Derived.Laws.EntriesVeiled
set_option linter.unusedSimpArgs false
set_option linter.unusedVariables false
namespace Go.Proofs.YtccmchmemafjdaaGreatDoor
open Go.RowKit Go.Maps

theorem flat_one {α β : Type} (f : α → β) : ∀ (l : List α), l.flatMap (fun x => [f x]) = l.map f
  | [] => rfl
  | x :: l => by rw [List.flatMap_cons, flat_one f l]; rfl
theorem Sl.down0 {α : Type} {w : World} {L B k n : Nat} {enc : α → List Value} {A : Option Addr} {xs : List α} (h : Sl w L B k enc A n xs) : Sl w 0 B k enc A n xs :=
  ⟨h.1, fun hn => by
    obtain ⟨g, o, h1, h2, h3⟩ := h.2 hn
    exact ⟨g, o, h1, Nat.zero_le _, h3⟩⟩
/-- What is known when the map has been gone through. -/
structure EndS (ids : List Int) (g : Int → Int) (f : Int → Option Value) (zs : Int → List Int) (ks : List Int) : Prop where
  nd : ids.Nodup
  mem : ∀ a ∈ ids, g a ∈ ids
  le : ∀ a ∈ ids, g a ≤ a
  idem : ∀ a ∈ ids, g (g a) = g a
  in_ : AllIn ids
  zs_ : ∀ r, zs r = ids.filter (fun a => decide (g a = r))
  all : ∀ r, in64 r → ((f r).isSome = true ↔ r ∈ ks)
  kn : ks.Nodup
  km : ∀ r ∈ ks, in64 r ∧ (f r).isSome = true
  none_ : ∀ r, in64 r → (f r = none ↔ zs r = [])
section
variable {ids : List Int} {g : Int → Int} {f : Int → Option Value} {zs : Int → List Int} {ks : List Int}
theorem EndS.key (h : EndS ids g f zs ks) (r : Int) : r ∈ ks ↔ ∃ a ∈ ids, g a = r := by
  constructor
  · intro hr
    obtain ⟨h64, hs⟩ := h.km r hr
    have h1 : zs r ≠ [] := fun e => by
      have := (h.none_ r h64).2 e
      rw [this] at hs; cases hs
    obtain ⟨a, ha⟩ := List.exists_mem_of_ne_nil _ h1
    rw [h.zs_ r, List.mem_filter, decide_eq_true_iff] at ha
    exact ⟨a, ha.1, ha.2⟩
  · rintro ⟨a, ha, rfl⟩
    have h64 := h.in_ _ (h.mem a ha)
    rw [← h.all _ h64]
    cases hf : f (g a) with
    | some v => rfl
    | none =>
      have h1 := (h.none_ _ h64).1 hf
      have h2 : a ∈ zs (g a) := by rw [h.zs_]; simp [ha]
      rw [h1] at h2; cases h2
theorem EndS.grp (h : EndS ids g f zs ks) (r : Int) : sortI (zs r) = grpOf ids g r := by
  rw [h.zs_ r, sortI_filter h.nd]
  rfl
theorem EndS.head (h : EndS ids g f zs ks) : ∀ r ∈ ks, (sortI (zs r))[0]? = some r := fun r hr => by
  obtain ⟨a, ha, rfl⟩ := (h.key r).1 hr
  have := grp_head h.nd h.le (h.mem a ha) (h.idem a ha)
  rw [h.grp]
  rwa [List.head?_eq_getElem?] at this
theorem EndS.groups (h : EndS ids g f zs ks) {ks' : List Int} (hp : ks'.Perm ks) (hs : ks'.Pairwise (fun a b => a ≤ b)) : groupsOf ids g = ks'.map (fun r => sortI (zs r)) := by
  refine (groups_prog h.nd h.mem h.le h.idem h.kn h.key ?_ ?_).symm
  · have := hp.map (fun r => sortI (zs r))
    refine this.trans (List.Perm.of_eq ?_)
    exact List.map_congr_left fun r _ => by rw [h.zs_ r]
  · rw [List.pairwise_map]
    refine List.Pairwise.imp_of_mem (fun {a b} ha hb hab => ?_) hs
    have h1 := h.head a (hp.subset ha)
    have h2 := h.head b (hp.subset hb)
    have e : ∀ (z : List Int) (r : Int), z[0]? = some r → z.headD 0 = r := fun z r h => by
      cases z with
      | nil => cases h
      | cons a t => simpa using h
    rw [e _ _ h1, e _ _ h2]
    exact hab
theorem EndS.out (h : EndS ids g f zs ks) {w : World} {Bp Bo : Nat} {ks' : List Int} (hp : ks'.Perm ks) (hs : ks'.Pairwise (fun a b => a ≤ b)) {A : Option Addr} {c : Nat} (hkl : ks.length ≤ 64) (hz : ∀ r, (zs r).length ≤ 64)
    (hown : w.ownsRow Bo 40 1 (.slice A ks.length c) ks.length (ks'.map (encG f))) (hR : PtR w Bp (curS zs ks) f) : LoS w A ks.length (groupsOf ids g) := by
  have hl := hp.length_eq
  refine ⟨ks'.map (encG f), ?_, ?_, fun i v z hv hz' => ?_⟩
  · refine (Sl.of_own (k := 1) (enc := fun v : Value => [v]) (fun _ => rfl) (base := Bo) (e := 40) (c := c) ?_ ?_).down0
    · rw [flat_one (fun v : Value => v), List.map_id']
      exact hown
    · rw [List.length_map]; exact hl
  · rw [h.groups hp hs]; simp
  · rw [h.groups hp hs, List.getElem?_map] at hz'
    rw [List.getElem?_map] at hv
    cases hk : ks'[i]? with
    | none => rw [hk] at hv; cases hv
    | some r =>
      rw [hk] at hv hz'
      have hv' : encG f r = v := by injection hv
      have hz'' : sortI (zs r) = z := by injection hz'
      subst hv' hz''
      have hr : r ∈ ks := hp.subset (List.mem_of_getElem? hk)
      obtain ⟨h64, hsm⟩ := h.km r hr
      obtain ⟨u, hu⟩ := Option.isSome_iff_exists.1 hsm
      have hrow := hR.row r u h64 hu
      have hcur : curS zs ks r = sortI (zs r) := by unfold curS; rw [if_pos hr]
      rw [hcur] at hrow
      obtain ⟨Au, cu, rfl, hcu⟩ := own_form hrow
      refine ⟨Au, (sortI (zs r)).length, cu, by unfold encG; rw [hu]; rfl, ⟨by rw [sortI_length]; have := hz r; omega, hcu⟩, ?_⟩
      refine (Sl.of_own (k := 1) (enc := encI) encI_len (base := Bp + 1) (e := 3) (c := cu) ?_ rfl).down0
      have e : (sortI (zs r)).flatMap encI = (sortI (zs r)).map (Value.int .i64) := flat_one (Value.int .i64) _
      rw [e]
      exact hrow
end
end Go.Proofs.YtccmchmemafjdaaGreatDoor
set_option linter.unusedSimpArgs false
set_option linter.unusedVariables false
namespace Go.Proofs.YtccmchmemafjdaaGreatDoor
open Go.RowKit Go.Maps

theorem Tryz.infoRow : (Tryz.prog.info? 40).map (fun i => (i.zero, i.size, i.bytes)) = some (some (.slice none 0 0), 1, 24) := by kernel_rfl
set_option maxRecDepth 100000 in
set_option maxHeartbeats 4000000 in
theorem groups_any (A : Option Addr) (n c : Nat) (ls : List Lst) (A' : Option Addr) (n' c' : Nat) (P : List (Int × Int)) (w : World) (hn : n ≤ 64) (hn' : n' ≤ 1000000) (hS : LsS w A n ls) (hP : Sl w 0 w.heap.size 2 encE A' n' P)
    (hv : ∀ x ∈ ls, validL x) (hnd : (idsL ls).Nodup) (hI : InIds (idsL ls) (holdsL ls) P) :
    Calls Tryz.prog 50 #[.slice A n c, .slice A' n' c'] w fun e w' => ∃ A2 n2 c2, e = .returned (.slice A2 n2 c2) ∧ n2 ≤ 1000000 ∧ LoS w' A2 n2 (groupsOf (idsL ls) (nmU ls P)) ∧ Below w.heap.size w w' := by
  have HL := Lib.hid hS.len
  have HS := Lib.hid hS
  have HP := Lib.hid hP
  have HV := Lib.hid hv
  have HN := Lib.hid hnd
  have HI := Lib.hid hI
  have HA : Hid (AllIn (idsL ls)) := fun a ha => by
    unfold idsL at ha
    obtain ⟨x, hx, rfl⟩ := List.mem_map.1 ha
    exact valid_in64 (hv x hx)
  clear hS hP hv hnd hI
  obtain ⟨i0, hi, hz0, hz1, hz2⟩ := info_parts Tryz.infoI
  obtain ⟨i1, hj, hy0, hy1, hy2⟩ := info_parts Tryz.infoRow
  have hmm := @run_makeMap Tryz.prog
  go_enter Tryz.func50, Tryz.ntmps50
  go_wp2_with fail
  go_loopw [29] (fun i wr => ∃ k : Nat, k ≤ n ∧ i = .int .i64 (k : Int) ∧ RtS wr (w.heap.size + 1) w.heap.size k (idsL (ls.take k)) idF ∧ Below w.heap.size w wr) (fun i _ => n - (intOf i).toNat)
  case atStart => exact ⟨0, by omega, rfl, RtS.start w, by (repeat (first | exact Below.refl _ _ | assumption | refine Below.alloc ?_ (by first | omega | (simp only [World.size_alloc]; omega) | (simp; done) | (simp; omega)) _ | refine Below.setCell ?_ (by first | omega | (simp only [World.size_alloc]; omega) | (simp; done) | (simp; omega)) _ | refine Below.drew ?_ | refine below_drewN ?_ _))⟩
  case round =>
    obtain ⟨k, hk, rfl, hR, hb⟩ := hrel
    by_cases hlt : k < n
    · obtain ⟨b, off, x, a, m', cx, rfl, hbb, hx, c0, c1, hm, hSx⟩ := (HS.out.up hb).at_ hlt
      clear hSx hm
      have HX := Lib.hid hx; clear hx
      have P0 := Bx.new wr [.int .i64 x.id, .slice a m' cx] 24
      have hR1 := hR.up (one_alloc wr (.cells #[.int .i64 x.id, .slice a m' cx] 24))
      have hb1 : Below w.heap.size w (wr.alloc (.cells #[.int .i64 x.id, .slice a m' cx] 24)) := below_keep' hb (one_alloc _ _)
      have hcr := hR.box.cell 0 _ rfl
      have hlr := hR.box.lt
      have hfr := hR.box.frz 0
      have HK : Hid (in64 x.id) := valid_in64 (HV.out x (List.mem_of_getElem? HX.out))
      have HR1 := Lib.hid hR1
      have HB1 := Lib.hid hb1
      have HML : Hid (k < maxLen) := by show k < maxLen; unfold maxLen; omega
      clear hR hb hR1 hb1 P0
      go_wp2_with (at_mapUpdate; refine wpList_mapF Tryz.underlying104 rfl _ _ _ rfl w.heap.size k _ rfl HR1.out.map HML.out x.id HK.out x.id HK.out rfl rfl ?_; intro w2 hM2 hgr)
      have hR2 := HR1.out.add (idsL_fresh HN.out HX.out) hgr hM2
      rw [← idsL_take_snoc HX.out] at hR2
      have hb3 := below_of_map HB1.out hgr (Nat.le_refl _) (Nat.le_refl _)
      clear hgr hM2
      go_wp2_with fail
      go_roundw
      case rel => exact ⟨k + 1, by omega, by go_num, hR2, hb3⟩
      case measure => simp [intOf]; omega
    · obtain rfl : n = k := by omega
      rw [take_all HL.out] at hR
      have hlr := hR.box.lt
      have hrlt : w.heap.size < wr.heap.size := by omega
      go_wp2_with fail
      obtain ⟨Bf, hBf⟩ : ∃ B, B = wr.heap.size := ⟨_, rfl⟩
      rw [← hBf]
      go_loopw [44] (fun i wq => ∃ j : Nat, j ≤ n ∧ i = .int .i64 (j : Int) ∧ GrS w wq Bf (w.heap.size + 1) w.heap.size n (idsL ls) (ufH (holdsL (ls.take j))) ∧ (∃ ms : Nat, ms ≤ 8 * j ∧ MapF KS VI wq (Bf + 1) ms (lastH (holdsL (ls.take j))))) (fun i _ => n - (intOf i).toNat)
      case atStart =>
        subst hBf
        have hb2 : Below wr.heap.size wr ((wr.alloc (.cells #[.func (.func 77) #[] #[.pointer (some ⟨w.heap.size + 1, 0, none⟩)]] 105)).alloc (.map #[] 0)) := by (repeat (first | exact Below.refl _ _ | assumption | refine Below.alloc ?_ (by first | omega | (simp only [World.size_alloc]; omega) | (simp; done) | (simp; omega)) _ | refine Below.setCell ?_ (by first | omega | (simp only [World.size_alloc]; omega) | (simp; done) | (simp; omega)) _ | refine Below.drew ?_ | refine below_drewN ?_ _))
        refine ⟨0, by omega, rfl, ⟨?_, ?_, by omega, Nat.le_refl _, below_keep' hb hb2⟩, 0, by omega, ?_⟩
        · exact hR.up hb2
        · exact (Bx.new wr [.func (.func 77) #[] #[.pointer (some ⟨w.heap.size + 1, 0, none⟩)]] 105).alloc _
        · have h := MapF.made KS VI (wr.alloc (.cells #[.func (.func 77) #[] #[.pointer (some ⟨w.heap.size + 1, 0, none⟩)]] 105))
          rw [World.size_alloc] at h
          exact h
      case round =>
        have hbf : w.heap.size + 1 < Bf := by omega
        clear hR hb hrlt hlr hBf
        obtain ⟨j, hj, rfl, hG, ms, hms, hM⟩ := hrel
        by_cases hlt2 : j < n
        · obtain ⟨b, off, x, a, m', cx, hAe, hbb, hx, c0, c1, hm, hSx⟩ := HS.out.at_ hlt2
          have c0' := (hG.bl.cell (p := ⟨b, off + j * 2, none⟩) hbb).trans c0
          have c1' := (hG.bl.cell (p := ⟨b, off + j * 2 + 1, none⟩) hbb).trans c1
          have hbb' : b < wr.heap.size := Nat.lt_of_lt_of_le hbb hG.bl.size
          have HX := Lib.hid hx; clear hx
          have HSx := Lib.hid hSx; clear hSx
          have HVX := Lib.hid (HV.out x (List.mem_of_getElem? HX.out))
          have h8 : m' ≤ 8 := by have := HVX.out.2.1; rw [Sl.len HSx.out] at this; exact this
          clear c0 c1 hm
          subst hAe
          go_wp2_with fail
          obtain ⟨Bx1, hBx⟩ : ∃ B, B = wr.heap.size := ⟨_, rfl⟩
          rw [← hBx]
          go_loopw [51] (fun i wi => ∃ q : Nat, q ≤ m' ∧ i = .int .i64 (q : Int) ∧ GrS w wi Bf (w.heap.size + 1) w.heap.size n (idsL ls) (ufH (hK ls j x q)) ∧ (∃ ms : Nat, ms ≤ 8 * j + q ∧ MapF KS VI wi (Bf + 1) ms (lastH (hK ls j x q))) ∧ Bx wi Bx1 [.int .i64 x.id, .slice a m' cx]) (fun i _ => m' - (intOf i).toNat)
          case atStart =>
            subst hBx
            have hb2 := one_alloc wr (.cells #[.int .i64 x.id, .slice a m' cx] 24)
            refine ⟨0, by omega, rfl, ?_, ⟨ms, hms, ?_⟩, Bx.new wr [.int .i64 x.id, .slice a m' cx] 24⟩
            · rw [hK_zero]; exact hG.up hb2
            · rw [hK_zero]; exact hM.up hb2
          case round =>
            have hbx1 : Bf + 1 < Bx1 := by have := hM.lt; omega
            clear hM hms ms hG c0' c1' hbb' hBx
            obtain ⟨q, hq, rfl, hG, ⟨ms, hms, hM⟩, hBX⟩ := hrel
            by_cases hlt3 : q < m'
            · obtain ⟨bs, offs, s, rfl, hbs, hs, d0, d1, d2⟩ := Sl.sa (HSx.out.up hG.bl) hlt3
              have Hs := Lib.hid hs; clear hs
              have hok : okSal s := HVX.out.2.2.1 s (List.mem_of_getElem? Hs.out)
              have HO := Lib.hid (okSal_in64 hok); clear hok
              have HXid : Hid (in64 x.id) := valid_in64 HVX.out
              have hbS := one_alloc wr (.cells #[.int .i64 s.y, .int .i64 s.h, .int .i64 s.l] 57)
              have HM1 := Lib.hid (hM.up hbS)
              have HG1 := Lib.hid (hG.up hbS)
              have hBX1 := hBX.up hbS
              have hmxl : ms < maxLen := by unfold maxLen; omega
              have HML := Lib.hid hmxl; clear hmxl
              have hszx : Bx1 < wr.heap.size := hBX.lt
              cases hl : lastH (hK ls j x q) s with
              | none =>
                have hlook := sold_look HM1.out HO.out hl
                have HLL := Lib.hid hl
                clear hM hG hBX hl
                have hBX10 := hBX1.cell 0 _ rfl; have hBX11 := hBX1.cell 1 _ rfl; have hBX1lt := hBX1.lt
                go_wp2_with (at_mapUpdate; refine wpList_mapF Tryz.underlying107 rfl _ _ _ rfl (Bf + 1) ms _ rfl HM1.out HML.out s HO.out x.id HXid.out rfl rfl ?_; intro w2 hM2 hgr)
                have hG3 := HG1.out.other hgr (by omega) (by omega) (by omega) (by omega)
                refine ⟨⟨q + 1, by omega, by go_num, ?_, ⟨if (lastH (hK ls j x q) s).isSome then ms else ms + 1, ?_, ?_⟩, hBX1.kept hgr (by omega)⟩, by simp [intOf]; omega⟩
                · rw [hK_snoc Hs.out, ufH_miss HLL.out]; exact hG3
                · split <;> omega
                · rw [hK_snoc Hs.out, lastH_put]; exact hM2
              | some y =>
                have hlook := sold_look HM1.out HO.out hl
                have HLL := Lib.hid hl
                have HIK := Lib.hid (hK_in HI.out HX.out q)
                have HD := Lib.hid (hK_down HI.out HX.out q)
                have HY : Hid (y ∈ idsL ls) := HIK.out.hold _ (lastH_some hl)
                have HXM : Hid (x.id ∈ idsL ls) := List.mem_map_of_mem (List.mem_of_getElem? HX.out)
                have HJ := Lib.hid (HG1.out.join (by unfold maxLen; omega) HD.out HA.out HY.out HXM.out)
                have hP0 := Bx.new wr [.int .i64 s.y, .int .i64 s.h, .int .i64 s.l] 57
                clear hM hG hBX hl
                have hBX1c := hBX1
                have hBX1c0 := hBX1c.cell 0 _ rfl; have hBX1c1 := hBX1c.cell 1 _ rfl; have hBX1clt := hBX1c.lt
                go_wp2_with fail
                go_fit HJ.out
                rintro e w1 ⟨rfl, hG2, hgj⟩
                clear hlook hBX1c0 hBX1c1 hBX1clt d0 d1 d2 HJ
                have hBX2 := hBX1.kept hgj (by omega)
                have hP2 := hP0.kept hgj (by omega)
                have HM2 := Lib.hid (HM1.out.kept hgj (by intro e; injection e with e; omega))
                have HG2 := Lib.hid hG2
                clear hG2 hgj hBX1 hP0 HM1 HG1 hBX1c hbS
                have hBX20 := hBX2.cell 0 _ rfl; have hBX21 := hBX2.cell 1 _ rfl; have hBX2lt := hBX2.lt
                have hP20 := hP2.cell 0 _ rfl; have hP21 := hP2.cell 1 _ rfl; have hP22 := hP2.cell 2 _ rfl; have hP2lt := hP2.lt
                go_wp2_with (at_mapUpdate; refine wpList_mapF Tryz.underlying107 rfl _ _ _ rfl (Bf + 1) ms _ rfl HM2.out HML.out s HO.out x.id HXid.out rfl rfl ?_; intro w2 hM2 hgr)
                have hG3 := HG2.out.other hgr (by omega) (by omega) (by omega) (by omega)
                refine ⟨⟨q + 1, by omega, by go_num, ?_, ⟨if (lastH (hK ls j x q) s).isSome then ms else ms + 1, ?_, ?_⟩, hBX2.kept hgr (by omega)⟩, by simp [intOf]; omega⟩
                · rw [hK_snoc Hs.out, ufH_hit HLL.out]; exact hG3
                · split <;> omega
                · rw [hK_snoc Hs.out, lastH_put]; exact hM2
            · obtain rfl : q = m' := by omega
              rw [← hK_full HX.out (Sl.len HSx.out)] at hG hM
              go_wp2_with fail
              exact ⟨⟨j + 1, by omega, by go_num, hG, ms, by omega, hM⟩, by simp [intOf]; omega⟩
        · obtain rfl : j = n := by omega
          rw [take_all HL.out] at hG hM
          clear hM hms ms
          go_wp2_with fail
          go_loopw [75] (fun i wp => ∃ q : Nat, q ≤ n' ∧ i = .int .i64 (q : Int) ∧ GrS w wp Bf (w.heap.size + 1) w.heap.size j (idsL ls) (ufP (ufH (holdsL ls)) (P.take q))) (fun i _ => n' - (intOf i).toNat)
          case atStart => exact ⟨0, by omega, rfl, hG⟩
          case round =>
            clear hG
            obtain ⟨q, hq, rfl, hG⟩ := hrel
            by_cases hlt4 : q < n'
            · obtain ⟨bp, offp, p, rfl, hbp, hp, d0, d1⟩ := Sl.en (Sl.up HP.out hG.bl (Nat.le_refl _) (Nat.le_refl _)) hlt4
              have Hp := Lib.hid hp; clear hp
              have hbS := one_alloc wr (.cells #[.int .i64 p.1, .int .i64 p.2] 59)
              have hG1 := hG.up hbS
              have hpp := HI.out.pair p (List.mem_of_getElem? Hp.out)
              have HJ := Lib.hid (hG1.join (by unfold maxLen; omega) (pT_down HI.out q) HA.out hpp.1 hpp.2)
              clear hpp hG1 hG hbS
              go_wp2_with fail
              go_fit HJ.out
              rintro e w1 ⟨rfl, hG2, hgj⟩
              rw [← pT_snoc Hp.out] at hG2
              clear HJ hgj d0 d1
              go_wp2_with fail
              exact ⟨⟨q + 1, by omega, by go_num, hG2⟩, by simp [intOf]; omega⟩
            · obtain rfl : q = n' := by omega
              rw [take_all (show P.length = q from Sl.len HP.out)] at hG
              go_wp2_with fail
              clear hlt4 hq hlt2 hj hlt hk
              obtain ⟨F, hF⟩ : ∃ F, F = ufP (ufH (holdsL ls)) P := ⟨_, rfl⟩
              have HD : Hid (Down (idsL ls) F) := by show Down _ _; rw [hF]; exact (ufP_uf P HI.out).down
              have HNM : Hid (nmU ls P = rootF F) := by show nmU ls P = _; rw [hF]; rfl
              rw [← hF] at hG
              clear hF
              obtain ⟨Bp, hBp⟩ : ∃ B, B = wr.heap.size := ⟨_, rfl⟩
              rw [← hBp]
              have hbp : Bf < Bp := by have := hG.fn.lt; omega
              go_loopw [89] (fun i wp => ∃ q : Nat, q ≤ j ∧ i = .int .i64 (q : Int) ∧ GrS w wp Bf (w.heap.size + 1) w.heap.size j (idsL ls) F ∧ Bp < wp.heap.size ∧ ∃ m f, m ≤ q ∧ MapF KI VS wp Bp m f ∧ PtR wp Bp (zsK (rootF F) ls q) f) (fun i _ => j - (intOf i).toNat)
              case atStart =>
                subst hBp
                refine ⟨0, by omega, rfl, hG.up (one_alloc _ _), by simp, 0, _, by omega, MapF.made KI VS wr, ?_⟩
                rw [zsK_zero]
                exact PtR.start _ _
              case round =>
                clear hG hBp
                obtain ⟨q, hq, rfl, hG, hbl, m, f, hm, hM, hR⟩ := hrel
                by_cases hlt : q < j
                · obtain ⟨b, off, x, a, m', cx, hAe, hbb, hx, c0, c1, _, _⟩ := HS.out.at_ hlt
                  have c0' := (hG.bl.cell (p := ⟨b, off + q * 2, none⟩) hbb).trans c0
                  have c1' := (hG.bl.cell (p := ⟨b, off + q * 2 + 1, none⟩) hbb).trans c1
                  have hbb' : b < wr.heap.size := Nat.lt_of_lt_of_le hbb hG.bl.size
                  have HX := Lib.hid hx; clear hx
                  have HXM : Hid (x.id ∈ idsL ls) := List.mem_map_of_mem (List.mem_of_getElem? HX.out)
                  have HR64 : Hid (in64 (rootF F x.id)) := HA.out _ (HD.out.root_mem (HD.out.root HXM.out) HXM.out).1
                  clear c0 c1
                  subst hAe
                  have hbS := one_alloc wr (.cells #[.int .i64 x.id, .slice a m' cx] 24)
                  have HG1 := Lib.hid (hG.up hbS)
                  have HM1 := Lib.hid (hM.up hbS)
                  have HR1 := Lib.hid (hR.up hbS)
                  have HF := Lib.hid (HG1.out.find HD.out HA.out HXM.out)
                  have hfn := HG1.out.fn
                  clear hG hM hR hbS
                  have hfn0 := hfn.cell 0 _ rfl; have hfnlt := hfn.lt
                  go_wp2_with fail
                  go_fit HF.out
                  rintro e w1 ⟨rfl, rfl⟩
                  obtain ⟨v, hv⟩ : ∃ v, v = (f (rootF F x.id)).getD (.slice none 0 0) := ⟨_, rfl⟩
                  have hlook := parts_look HM1.out HR64.out hv.symm
                  have hown := HR1.out.own HR64.out
                  rw [← hv] at hown
                  obtain ⟨Av, cv, hve, _⟩ := own_form hown
                  subst hve
                  have HV := Lib.hid hv; clear hv HF
                  have hznk := zsK_len (g := rootF F) (ls := ls) (q := q) (rootF F x.id)
                  have HFN := Lib.hid hfn; clear hfn hfn0 hfnlt c0' c1'
                  clear hmm
                  go_wp2_with (at_builtin; refine wpList_append_own_at _ rfl _ _ 40 rfl (Bp + 1) 3 i0 (.int .i64 0) 1 8 Tryz.underlying40 hi hz0 hz1 hz2 rfl (by decide) _ _ _ rfl (hown.alloc _) ⟨wr.heap.size + 1, 0, none⟩ 1 1 [.int .i64 x.id] rfl rfl ?c1 ?c2 ?c3 ?c4 ?c5 ?_)
                  case c1 =>
                    intro k u hk
                    have := cell_one_new (wr.alloc (.cells #[.int .i64 x.id, .slice a m' cx] 24)) (.int .i64 x.id) 3 k u hk
                    rw [World.size_alloc] at this
                    exact this
                  case c2 => simp [Value.oneCell']
                  case c3 => unfold maxLen; omega
                  case c4 => omega
                  case c5 => simp; omega
                  intro v' w6 hown6 hgrow _ hat
                  have HOW := Lib.hid hown
                  have hG2 := (HG1.out.up (one_alloc _ (.cells #[.int .i64 x.id] 3))).off hgrow (fun g hg => (HOW.out.lt g hg).1) (by omega) (by omega) (by omega) (by have := HG1.out.lo; omega)
                  have HM2 := Lib.hid ((HM1.out.up (one_alloc _ (.cells #[.int .i64 x.id] 3))).kept hgrow (fun e => by
                    have := (HOW.out.lt Bp e.symm).1
                    omega))
                  have hgrow' := hgrow
                  rw [HV.out] at hgrow' hat
                  have HST := Lib.hid (fun (w7 : World) (hg2 : w6.grownBy w7 (some Bp)) => (HR1.out.up (one_alloc _ (.cells #[.int .i64 x.id] 3))).step (x := x.id) HR64.out hgrow' hown6 (by rw [World.size_alloc, World.size_alloc]; exact hat) hg2)
                  have HG2 := Lib.hid hG2
                  have hsz6 := hgrow.size
                  rw [World.size_alloc, World.size_alloc] at hsz6
                  clear hgrow hgrow' hat hG2 hown hown6 hlook
                  go_wp2_with (at_mapUpdate; refine wpList_mapF Tryz.underlying109 rfl _ _ _ rfl Bp m _ rfl HM2.out (by unfold maxLen; omega) (rootF F x.id) HR64.out v' trivial rfl rfl ?_; intro w7 hM7 hg7)
                  have hR7 := HST.out w7 hg7
                  rw [← zsK_snoc HX.out] at hR7
                  have hG7 := HG2.out.other hg7 (by omega) (by omega) (by omega) (by have := HG1.out.lo; omega)
                  have hsz7 := hg7.size
                  refine ⟨⟨q + 1, by omega, by go_num, hG7, by omega, _, _, ?_, hM7, hR7⟩, by simp [intOf]; omega⟩
                  split <;> omega
                · obtain rfl : q = j := by omega
                  obtain ⟨D, hD1, hD2, hD3⟩ := hM
                  obtain ⟨zs, hzs⟩ : ∃ zs, zs = zsK (rootF F) ls q := ⟨_, rfl⟩
                  have HZL : Hid (∀ r, (zs r).length ≤ 64) := fun r => by rw [hzs]; exact Nat.le_trans (zsK_len r) hn
                  rw [← hzs] at hR
                  have HZ := Lib.hid hzs; clear hzs
                  have hlowR : ∀ r v g, in64 r → f r = some v → v.ownBlock = some g → Bp < g ∧ g < wr.heap.size := fun r v g hr hv hg => by
                    have := (hR.row r v hr hv).lt g hg
                    omega
                  have hRB := hR
                  have hbw := hG.bl
                  have hblo : w.heap.size ≤ Bp := by have := hG.lo; omega
                  clear hR hG
                  go_wp2_with (first | (at_range; refine wpList_range_own _ rfl _ 109 rfl 3 40 KI.keyed Tryz.underlying109 VS.R Bp m D rfl hD1 ?_; intro w5 hrg0 hg0 hs0) | go_in)
                  go_frame
                  have hMS : MpS D Bp wr.heap.size f zs := ⟨fun r hr => hD3 r hr, hlowR, hbl⟩
                  have hb05 : Below wr.heap.size wr w5 := ⟨hg0.os, hg0.tape, hg0.output, hg0.size, fun k hk => hg0.block k hk (by simp)⟩
                  have hRg0 : RgS w5 Bp wr.heap.size m D f zs [] (has D) (size D) := ⟨hrg0, fun r hr => (by have h := (hD3 r hr).get.1; change has D (.int .i64 r) = _ at h; rw [h]; simp), List.nodup_nil, fun r hr => (by cases hr), by rw [curS_nil]; exact hRB.up hb05⟩
                  have hb5 : Below w.heap.size w w5 := below_keep' hbw hb05
                  have hs5 : wr.heap.size < w5.heap.size := by omega
                  obtain ⟨Ri, hRi⟩ : ∃ B, B = wr.heap.size := ⟨_, rfl⟩
                  rw [← hRi] at hMS hRg0 hs5 ⊢
                  have hsd : size D ≤ 64 := by omega
                  have HMS := Lib.hid hMS
                  have hbri : Bp < Ri := hMS.lt
                  clear hMS hrg0 hg0 hs0 hbw hb05 hRB hlowR hD1 hD3 hD2 hRi
                  go_loopw [23] (fun o wl => ∃ ks left cnt, RgS wl Bp Ri m D f zs ks left cnt ∧ ks.length + cnt ≤ 64 ∧ wl.ownsRow (Ri + 1) 40 1 o ks.length (ks.map fun r => (f r).getD (.slice none 0 0)) ∧ Below w.heap.size w wl ∧ Ri < wl.heap.size) (fun _ wl => wl.rangeLeft Bp Ri)
                  case atStart => exact ⟨[], _, _, hRg0, by simpa using hsd, World.ownsRow_nil _ _ _ _, hb5, hs5⟩
                  case round =>
                    clear hRg0 hb5 hs5
                    obtain ⟨ks, left, cnt, hRg, hkl, hout, hb, hsz⟩ := hrel
                    obtain ⟨Ao, co, rfl, _⟩ := own_form hout
                    have HRg := Lib.hid hRg; clear hRg
                    go_wp2_with (at_next; refine wpList_next_ranges _ rfl _ rfl 3 KI.keyed VS.R (Value.int .i64) (fun v : Value => v) (fun key kl hkey => by obtain ⟨x, rfl, _⟩ := Maps.keyOf_int_inv Tryz.underlying3 hkey; exact ⟨x, rfl⟩) (fun v y _ => ⟨v, rfl⟩) Bp Ri m D left cnt rfl HRg.out.rg ?_ ?_)
                    · intro hc0 hl0
                      have hall : ∀ r, in64 r → ((f r).isSome = true ↔ r ∈ ks) := fun r hr => by
                        have h1 := HRg.out.lf r hr
                        rw [hl0] at h1
                        constructor
                        · intro h2
                          by_cases hm : r ∈ ks
                          · exact hm
                          · have := h1.2 ⟨h2, hm⟩
                            cases this
                        · intro h2; exact (HRg.out.mem r h2).2
                      have HES : Hid (EndS (idsL ls) (rootF F) f zs ks) := by
                        have hnm := nmU_nm HI.out
                        rw [HNM.out] at hnm
                        refine ⟨HN.out, hnm.mem, hnm.le, fun a ha => hnm.idem ha, HA.out, fun r => ?_, hall, HRg.out.nd, HRg.out.mem, fun r hr => ?_⟩
                        · rw [HZ.out]
                          unfold zsK
                          rw [take_all HL.out]
                        · rw [HRg.out.rows.none_ r hr, ← List.length_eq_zero_iff, ← List.length_eq_zero_iff]
                          unfold curS
                          split <;> simp [sortI_length]
                      have HSO := Lib.hid (sortG_any Bp (Ri + 1) _ ks f zs wr (by omega) hout HRg.out.rows HRg.out.mem HES.out.head (fun r u g hr hu hg => by have := (HMS.out.lo r u g hr hu hg).2; omega))
                      have HOL := Lib.hid (fun g hg => (hout.lt g hg).1)
                      clear hall hl0 hc0 hout
                      go_wp2_with fail
                      go_fit HSO.out
                      rintro e w9 ⟨rfl, ks', hp, hs, hg9, hown9, hR9⟩
                      have hLo := HES.out.out hp hs (by omega) HZL.out hown9 hR9
                      rw [← HNM.out] at hLo
                      have hb9 : Below w.heap.size w w9 := Below.grown hb hg9 (by have := hb.size; omega) (fun g hg => by have := HOL.out g hg; omega)
                      clear hp hs hg9 hown9 hR9 HSO HES
                      go_wp2_with fail
                      go_ret
                      exact ⟨Ao, ks.length, co, rfl, by omega, hLo, hb9⟩
                    · intro x c kl y ps w' cnt' hkey hlk hRc hat hrg' hlt' hg' hs' hen
                      obtain ⟨rfl, h64, hfx, hxk⟩ := HRg.out.come (y := (y, ps)) HMS.out hkey hlk hRc hat
                      clear hkey hlk hRc hat
                      have hrow := (HRg.out.took HMS.out hg' (cnt' := cnt')).row x c h64 hfx
                      rw [curS_not hxk] at hrow
                      have hpos : 0 < (zs x).length := by
                        have := HRg.out.rows.pos h64 hfx
                        rwa [curS_not hxk] at this
                      obtain ⟨Ac, cc, rfl, _⟩ := own_form hrow
                      have HSO := Lib.hid (psort_any (Bp + 1) _ (zs x) w' (by have := HZL.out x; omega) hpos hrow)
                      have HN6 := Lib.hid (fun w6 (h1 : w'.grownBy w6 _) h2 => HRg.out.next HMS.out h64 hfx hxk hg' hrg' h1 h2)
                      have HFX := Lib.hid hfx
                      have hlow : ∀ g, (Value.slice Ac (zs x).length cc).ownBlock = some g → Bp < g ∧ g < Ri := fun g hg => HMS.out.lo x _ g h64 hfx hg
                      have HLOW := Lib.hid hlow
                      have hb2 : Below w.heap.size w w' := below_of_map hb hg' (by omega) (Nat.le_refl _)
                      have hout2 := hout.kept hg' (by
                        by_cases e : (Value.slice Ao ks.length co).ownBlock = none
                        · exact .inl e
                        · refine .inr fun e2 => ?_
                          have := (hout.lt Ri e2).1
                          omega)
                      have HLT := Lib.hid hlt'
                      have HH64 := Lib.hid h64
                      clear hg' hrg' hout hb hfx hlow hlt' h64 hrow hpos
                      go_wp2_with fail
                      go_fit HSO.out
                      rintro e w6 ⟨rfl, hg6, hown6⟩
                      have hRg6 := HN6.out w6 hg6 hown6
                      have hout6 := hout2.kept hg6 (by
                        by_cases e : (Value.slice Ao ks.length co).ownBlock = none
                        · exact .inl e
                        · refine .inr fun e2 => ?_
                          obtain ⟨g, hg⟩ := Option.ne_none_iff_exists'.1 e
                          have h1 := (hout2.lt g hg).1
                          have h2 := (HLOW.out g (by rw [← e2, hg])).2
                          omega)
                      have hb6 : Below w.heap.size w w6 := Below.grown hb2 hg6 (by have := hb2.size; omega) (fun g hg => by have := (HLOW.out g hg).1; omega)
                      have hs6 : Ri < w6.heap.size := by have := hg6.size; omega
                      have HRg6 := Lib.hid hRg6
                      clear hRg6 hg6 hown6 HSO HN6 hb2 hout2
                      go_wp2_with (at_builtin; refine wpList_append_own _ rfl _ _ 35 rfl (Ri + 1) 40 i1 (.slice none 0 0) 1 24 Tryz.underlying35 hj hy0 hy1 hy2 rfl (by decide) _ _ _ rfl (hout6.alloc _) ⟨w6.heap.size, 0, none⟩ 1 1 [.slice Ac (zs x).length cc] rfl rfl ?c1 ?c2 ?c3 ?c4 ?c5 ?_)
                      case c1 => exact cell_list_at rfl _ _
                      case c2 => simp [Value.oneCell']
                      case c3 => unfold maxLen; omega
                      case c4 => omega
                      case c5 => simp; omega
                      intro v' w8 hown8 hgrow _
                      have hb8 : Below w.heap.size w w8 := Below.grown (hb6.alloc (by have := hb6.size; omega) _) hgrow (by have := hb6.size; simp; omega) (fun g hg => by have := (hout6.lt g hg).1; omega)
                      have hs8 := hgrow.size
                      rw [World.size_alloc] at hs8
                      have hRg8 := ((HRg6.out.off HMS.out (World.grownBy_alloc w6 (.cells #[.slice Ac (zs x).length cc] 40) none) (by simp)).off HMS.out hgrow (fun g hg => (hout6.lt g hg).1))
                      have hrl := HRg.out.rg.left_eq
                      have hrl8 := hRg8.rg.left_eq
                      go_wp2_with fail
                      refine ⟨⟨ks ++ [x], _, _, hRg8, ?_, ?_, hb8, by omega⟩, ?_⟩
                      · have := HLT.out
                        simp
                        omega
                      · rw [List.map_append, List.map_cons, List.map_nil, HFX.out]
                        simpa using hown8
                      · rw [hrl, hrl8]; exact HLT.out
end Go.Proofs.YtccmchmemafjdaaGreatDoor
