/-
  The model's `build`.
-/
import Derived.Test.YticcfbeocepnpaaGreatDoorProg
import Derived.Test.YticcfbeocepnpaaGreatDoorOf
import Derived.Great.BuildSlice
set_option linter.unusedSimpArgs false
set_option maxRecDepth 100000
namespace Go.Proofs.YticcfbeocepnpaaGreatDoor
open Go.RowKit Pl

def okC (l : List EvC) : List EvC := l.filter (fun e => decide (e.ev.err = 0))
def evsOf (l : List EvC) : List Ev := l.map (·.ev)
def cellsOf (l : List EvC) : List Value := l.flatMap (fun e => e.cs.toList)
theorem okC_take_yes {l : List EvC} {k : Nat} {e : EvC} (h : l[k]? = some e) (he : e.ev.err = 0) : okC (l.take (k + 1)) = okC (l.take k) ++ [e] := by
  unfold okC; rw [List.take_add_one, h]; simp [he]
theorem okC_take_no {l : List EvC} {k : Nat} {e : EvC} (h : l[k]? = some e) (he : ¬ e.ev.err = 0) : okC (l.take (k + 1)) = okC (l.take k) := by
  unfold okC; rw [List.take_add_one, h]; simp [he]
theorem addEvs_snoc (l : List Ev) (e : Ev) : addEvs (l ++ [e]) = addEv (addEvs l) e := by simp [addEvs]
theorem Fits.mono {f : List (Ky × Ct)} {n m : Nat} (h : Fits f n) (hm : n ≤ m) : Fits f m := ⟨h.nd, h.pos, by have := h.le1; omega, by have := h.le2; omega⟩
theorem Fits.addEv {f : List (Ky × Ct)} {n : Nat} (h : Fits f n) (e : Ev) (he : e.err = 0) : Fits (addEv f e) (n + (2 + e.gs.length + e.ss.length)) := by
  have := h.addKs (evErr_bytes he).1 (evErr_bytes he).2 e.keys
  have hl : e.keys.length = 2 + e.gs.length + e.ss.length := by simp [Ev.keys]; omega
  rw [hl] at this
  exact this
theorem zAdd_range {z : List Int} {k : Nat} {b : Int} (h : ∀ x ∈ z, 0 ≤ x ∧ x ≤ k) : ∀ x ∈ zAdd z b, 0 ≤ x ∧ x ≤ (k + 1 : Nat) := by
  intro x hx
  unfold zAdd at hx
  rcases List.mem_or_eq_of_mem_set hx with hx | rfl
  · have := h x hx; omega
  · rw [List.getD_eq_getElem?_getD]
    cases hy : z[Lib.bitLen b.toNat]? with
    | none => simp; omega
    | some y => have := h y (List.mem_of_getElem? hy); simp; omega
theorem ownsRow_but2 {w w' : World} {base : Nat} {e : TypeId} {size : Nat} {v : Value} {n : Nat} {xs : List Value} {a b : Nat} (h : w.ownsRow base e size v n xs) (hb : But2 w w' a b) (ha : a < base) (hb' : b < base) : w'.ownsRow base e size v n xs := by
  obtain ⟨h1, h2⟩ := h
  refine ⟨h1, ?_⟩
  rcases h2 with h2 | ⟨g, cap, cur, e1, e2, e3, e4⟩
  · exact Or.inl h2
  · exact Or.inr ⟨g, cap, cur, e1, e2, (hb.block g (Array.getElem?_eq_some_iff.1 e3).1 (by omega) (by omega)).trans e3, e4⟩
theorem ownsRow_below {w w' : World} {base : Nat} {e : TypeId} {size : Nat} {v : Value} {n : Nat} {xs : List Value} (h : w.ownsRow base e size v n xs) (hb : Below w.heap.size w w') : w'.ownsRow base e size v n xs := by
  obtain ⟨h1, h2⟩ := h
  refine ⟨h1, ?_⟩
  rcases h2 with h2 | ⟨g, cap, cur, e1, e2, e3, e4⟩
  · exact Or.inl h2
  · exact Or.inr ⟨g, cap, cur, e1, e2, (hb.block g (Array.getElem?_eq_some_iff.1 e3).1).trans e3, e4⟩
theorem Below.but2 {B : Nat} {x y z : World} {a b : Nat} (h : Below B x y) (k : But2 y z a b) (ha : B ≤ a) (hb : B ≤ b) (hB : B ≤ y.heap.size) : Below B x z :=
  ⟨k.os.trans h.os, k.tape.trans h.tape, k.output.trans h.output, Nat.le_trans h.size k.size, fun i hi => (k.block i (by omega) (by omega) (by omega)).trans (h.block i hi)⟩

theorem fold_fill : ∀ (l : List Value) (k : Nat) (acc : Array Value), acc.size = k + l.length → (l.zipIdx k).foldl (fun cs x => cs.setIfInBounds (0 + x.2) x.1) acc = (acc.toList.take k ++ l).toArray
  | [], k, acc, h => by
    simp only [List.zipIdx_nil, List.foldl_nil, List.append_nil]
    rw [List.take_of_length_le (by simp at h ⊢; omega)]
  | x :: r, k, acc, h => by
    rw [List.zipIdx_cons, List.foldl_cons, fold_fill r (k + 1) _ (by simp at h ⊢; omega)]
    congr 1
    simp only [Nat.zero_add, Array.toList_setIfInBounds]
    have hk : k < acc.toList.length := by simp at h ⊢; omega
    rw [List.take_succ_eq_append_getElem (by simpa using hk), List.getElem_set_self, List.take_set_of_le (Nat.le_refl _)]
    simp
theorem fill_one {zero cs : Array Value} {n : Nat} (h1 : zero.size = n) (h2 : cs.size = n) : Instr.fill (fun i => some (i * n, n)) zero [(0, .agg cs)] = some cs := by
  unfold Instr.fill
  simp only [Nat.zero_mul, Value.cells, h2, h1, ne_eq, not_true_eq_false, decide_false, Bool.false_or, Nat.zero_add, gt_iff_lt, Nat.lt_irrefl, if_false, Bool.false_eq_true]
  unfold Instr.fill
  congr 1
  have := fold_fill cs.toList 0 zero (by simp [h1, h2])
  rw [List.take_zero, List.nil_append, Array.toArray_toList] at this
  simp only [Nat.zero_add] at this
  refine Eq.trans ?_ this
  rw [← Array.foldl_toList, Array.toList_zipIdx]

def zeroEv : Value := .agg #[.int .i64 0, .int .u8 0, .int .u8 0, .int .u8 0, .int .u8 0, .int .u8 0, .int .u8 0, .int .u8 0, .int .u8 0, .int .u8 0, .int .u8 0, .int .u8 0, .int .u8 0, .int .u8 0, .int .u8 0, .int .u8 0, .int .u8 0, .slice none 0 0, .slice none 0 0, .int .i64 0]
theorem Tryz.infoEv : (Tryz.prog.info? 27).map (fun i => (i.zero, i.size, i.bytes)) = some (some zeroEv, 20, 80) := by kernel_rfl
theorem EvIs.one {w : World} {cs : Array Value} {ev : Ev} {ga : Option Addr} {gn gc : Nat} {sa : Option Addr} {sn sc : Nat} (h : EvIs w cs ev ga gn gc sa sn sc) : ∀ u ∈ cs.toList, u.oneCell' = true := by
  intro u hu
  obtain ⟨j, hj, rfl⟩ := List.mem_iff_getElem.1 hu
  have hj2 : j < 20 := by have := h.len; simp at hj; omega
  have hg : cs[j]? = some (cs.toList[j]) := by rw [← Array.getElem?_toList]; exact List.getElem?_eq_getElem hj
  by_cases h0 : j = 0
  · subst h0; rw [h.at_.c0] at hg; rw [← Option.some.inj hg]; rfl
  by_cases h1 : j ≤ 16
  · have hlt : j - 1 < ev.au.length := by rw [h.aul]; omega
    have := h.au (j - 1) _ (List.getElem?_eq_getElem hlt)
    rw [show 1 + (j - 1) = j by omega, hg] at this
    rw [Option.some.inj this]; rfl
  by_cases h17 : j = 17
  · subst h17; rw [h.at_.c17] at hg; rw [← Option.some.inj hg]; rfl
  by_cases h18 : j = 18
  · subst h18; rw [h.at_.c18] at hg; rw [← Option.some.inj hg]; rfl
  obtain rfl : j = 19 := by omega
  rw [h.at_.c19] at hg; rw [← Option.some.inj hg]; rfl
theorem cells_new (w : World) (cs : Array Value) (t : TypeId) : ∀ (j : Nat) u, cs.toList[j]? = some u → (w.alloc (.cells cs t)).cell? ((⟨w.heap.size, 0, none⟩ : Addr).add j) = some u := by
  intro j u hj
  have hadd : (⟨w.heap.size, 0, none⟩ : Addr).add j = ⟨w.heap.size, j, none⟩ := by unfold Addr.add; split <;> simp_all
  rw [hadd, World.cell?_alloc_new]
  simpa using hj

theorem SAt.other {w w' : World} {sb mb : Nat} {f : List (Ky × Ct)} {z : List Int} {row : Option Nat} (h : SAt w sb mb f z) (hg : w.grownBy w' row) (h1 : some sb ≠ row) (h2 : some mb ≠ row) : SAt w' sb mb f z :=
  ⟨(hg.block sb h.lt h1).trans h.blk, Mp.IsMap.of_block h.map (hg.block mb h.map.lt h2), h.len⟩
theorem cellsOf_at {l : List EvC} (h : ∀ e ∈ l, e.cs.size = 20) {i : Nat} {e : EvC} (he : l[i]? = some e) {j : Nat} {v : Value} (hv : e.cs[j]? = some v) : (cellsOf l)[i * 20 + j]? = some v := by
  have hj : j < e.cs.toList.length := by rw [Array.length_toList]; exact (Array.getElem?_eq_some_iff.1 hv).1
  induction l generalizing i with
  | nil => cases he
  | cons x r ih =>
    have hx := h x (by simp)
    unfold cellsOf at ih ⊢
    rw [List.flatMap_cons]
    cases i with
    | zero =>
      simp at he
      subst he
      rw [Nat.zero_mul, Nat.zero_add, List.getElem?_append_left hj, Array.getElem?_toList]
      exact hv
    | succ i =>
      rw [List.getElem?_append_right (by rw [Array.length_toList, hx]; omega), Array.length_toList, hx, show (i + 1) * 20 + j - 20 = i * 20 + j by omega]
      exact ih (fun y hy => h y (by simp [hy])) (by simpa using he)
theorem evsAt_own {w : World} {base : Nat} {g : Nat} {n cap : Nat} {l : List EvC} (h : w.ownsRow base 27 20 (.slice (some ⟨g, 0, none⟩) n cap) n (cellsOf l)) (hn : l.length = n) (hev : ∀ e ∈ l, EvIs w e.cs e.ev e.ga e.gn e.gc e.sa e.sn e.sc) :
    EvsAt w (some ⟨g, 0, none⟩) n cap l := by
  have hc := World.ownsRow.cells h (g := g) rfl
  obtain ⟨h1, h2⟩ := h
  rcases h2 with ⟨e, _⟩ | ⟨g', cap', cur, e1, _, _, e4, e5, _⟩
  · cases e
  · cases e1
    refine ⟨hn, e4, by have := e5; simp only [maxLen] at this; omega, fun _ => ⟨g, 0, rfl, fun i e he j v hv => ?_⟩, hev⟩
    have := hc (i * 20 + j) v (cellsOf_at (fun e he => (hev e he).len) he hv)
    have hadd : (⟨g, 0, none⟩ : Addr).add (i * 20 + j) = ⟨g, i * 20 + j, none⟩ := by unfold Addr.add; split <;> simp_all
    rw [hadd] at this
    rw [Nat.zero_add]
    exact this

/-- The sizes of the events. -/
def zOf (l : List Ev) : List Int := l.foldl (fun z e => zAdd z e.by_) (List.replicate 18 0)
theorem zOf_snoc (l : List Ev) (e : Ev) : zOf (l ++ [e]) = zAdd (zOf l) e.by_ := by simp [zOf]
/-- At most 100 events of moderate size. -/
def fewOk2 (l : List EvC) : Prop := l.length ≤ 100 ∧ ∀ e ∈ l, e.gn ≤ 30 ∧ e.sn ≤ 80
theorem fewOk.two {l : List EvC} (h : fewOk l) : fewOk2 l := ⟨by have := h.1; omega, h.2⟩
/-- What build leaves. -/
def BuildPost (l : List EvC) (w : World) (e : Ending) (w' : World) : Prop :=
  ∃ sb mb z oa on oc, e = .returned (.tuple #[.pointer (some ⟨sb, 0, none⟩), .slice oa on oc, .bool true]) ∧ SAt w' sb mb (addEvs (evsOf (okC l))) z ∧ Fits (addEvs (evsOf (okC l))) 11200 ∧
    EvsAt w' oa on oc (okC l) ∧ Below w.heap.size w w' ∧ (∀ x ∈ z, 0 ≤ x ∧ x ≤ 100) ∧ z = zOf (evsOf (okC l))

/-- What holds ahead of round k. -/
structure BuildAt (w wr : World) (sb mb B0 : Nat) (l : List EvC) (k : Nat) (v : Value) (z : List Int) : Prop where
  s : SAt wr sb mb (addEvs (evsOf (okC (l.take k)))) z
  own : wr.ownsRow B0 27 20 v (okC (l.take k)).length (cellsOf (okC (l.take k)))
  below : Below w.heap.size w wr
  fits : Fits (addEvs (evsOf (okC (l.take k)))) (k * 112)
  zr : ∀ x ∈ z, 0 ≤ x ∧ x ≤ k
  zq : z = zOf (evsOf (okC (l.take k)))
  hb0 : B0 ≤ wr.heap.size

set_option maxHeartbeats 4000000 in
theorem build_any (a : Option Addr) (n c : Nat) (l : List EvC) (w : World) (h : EvsAt w a n c l) (hfew : fewOk2 l) (hml : MLen w) :
    Calls Tryz.prog 10 #[.slice a n c] w (BuildPost l w) := by
  have HE := hide h
  have HFEW := hide hfew
  have hr := h.room
  have hc := h.capm
  have hl := h.len
  have hn20 : n ≤ 100 := by have := hfew.1; omega
  have HML := hide hml
  clear h hfew hml
  obtain ⟨i0, hi0, iz0, iz1, iz2⟩ := info_parts Tryz.infoEv
  go_enter Tryz.func10, Tryz.ntmps10
  go_wp2_with fail
  refine (snew_any w).mono ?_
  rintro e w1 ⟨sb, mb, rfl, hs1, hb1, hsb, hmb, hne⟩
  have HS1 := hide hs1
  have HB1 := hide hb1
  have hsl := hs1.lt
  have hml := hs1.map.lt
  clear hs1 hb1
  obtain ⟨B0, hB0⟩ : ∃ B0, B0 = w1.heap.size := ⟨_, rfl⟩
  rw [← hB0] at hsl hml
  have HB0 := hide hB0
  have hwB : w.heap.size ≤ B0 := by rw [hB0]; exact HB1.out.size
  clear hB0
  go_wp2_with fail
  go_loopw [6, 7] (fun v i wr => ∃ (v0 : Value) (k : Nat) (z : List Int), v0 = v ∧ k ≤ n ∧ i = .int .i64 k ∧ BuildAt w wr sb mb B0 l k v0 z) (fun _ i _ => n - (intOf i).toNat)
  case atStart => exact ⟨_, 0, List.replicate 18 0, rfl, by omega, rfl, ⟨HS1.out, World.ownsRow_nil _ _ _ _, HB1.out, fits_nil, by simp, rfl, by rw [HB0.out]; exact Nat.le_refl _⟩⟩
  case round =>
    obtain ⟨v0, k, z, rfl, hk, rfl, hA⟩ := hrel
    have HA := hide hA
    have hb0 := hA.hb0
    clear hA
    by_cases hlt : k < n
    · obtain ⟨b, o, ⟨cs, ev, ga, gn, gc, sa, sn, sc⟩, ha, he, hev, hcells⟩ := HE.out.at hlt
      simp only at hev hcells
      subst ha
      have HEV : Hid (∀ w', Below w.heap.size w w' → EvIs w' cs ev ga gn gc sa sn sc) := hide fun w' hb => EvAt.ofBelow hev hb
      have HC : Hid (∀ w', Below w.heap.size w w' → ∀ (j : Nat) v, cs[j]? = some v → w'.cell? ⟨b, o + k * 20 + j, none⟩ = some v) := hide fun w' hb j v hv => (hb.cell (block_lt_of_cell (hcells j v hv))).trans (hcells j v hv)
      have HI : Hid ((Tryz.prog.info? 27).map (·.size) = some cs.size) := hide (by rw [hev.len]; rfl)
      have HGET := hide he
      have hfe := HFEW.out.2 _ (List.mem_of_getElem? he)
      simp only at hfe
      obtain ⟨hg30, hs80⟩ := hfe
      have hgl := hev.at_.gs.len
      have hssl := hev.at_.ss.len
      clear he hev hcells
      obtain ⟨v, hv⟩ : ∃ v, evErr ev.m ev.gs ev.ss ev.by_ = v := ⟨_, rfl⟩
      have HCK := hide (check52_any cs _ _ _ _ _ _ _ _ _ _ wr (HEV.out wr HA.out.below).at_)
      rw [hv] at HCK
      have HV : Hid (ev.err = v) := hide hv
      clear hv
      go_wp2_with (first | (refine wpList_load_cells rfl 27 _ rfl b (o + k * 20) rfl _ cs (HC.out _ HA.out.below) Tryz.underlying27 rfl HI.out ?_))
      refine HCK.out.mono ?_
      rintro e w2 ⟨rfl, hb2⟩
      have HB2 := hide (HA.out.below.trans (hb2.mono HA.out.below.size))
      have HS2 := hide (HA.out.s.below hb2)
      have HO2 := hide (ownsRow_below HA.out.own hb2)
      have hz2 := hb2.size
      clear hb2
      go_wp2_with (first | (refine wpList_load_cells rfl 27 _ rfl b (o + k * 20) rfl _ cs (HC.out _ HB2.out) Tryz.underlying27 rfl HI.out ?_))
      refine (sadd_any sb mb _ z (k * 112) cs ev ga gn gc sa sn sc w2 (HEV.out w2 HB2.out) HS2.out HA.out.fits (by omega) (fun x hx => by have := HA.out.zr x hx; omega) (HML.out.below HB2.out)).mono ?_
      rintro e w3 ⟨rfl, hbut, hs3⟩
      rw [HV.out] at hs3
      rw [HV.out]
      have HB3 := hide (Below.but2 HB2.out hbut hsb hmb HB2.out.size)
      have HS3 := hide hs3
      have HO3 := hide (ownsRow_but2 HO2.out hbut hsl hml)
      have hz3 := hbut.size
      clear hbut hs3
      have HCK3 := hide (evCheck_any cs _ _ _ _ _ _ _ _ _ _ w3 (HEV.out w3 HB3.out).at_ (HML.out.below HB3.out))
      rw [show evErr ev.m ev.gs ev.ss ev.by_ = v from HV.out] at HCK3
      go_wp2_with (first | (refine wpList_load_cells_g rfl 27 _ rfl rfl rfl rfl b (o + k * 20) rfl _ cs (HC.out _ HB3.out) Tryz.underlying27 rfl HI.out ?_))
      refine HCK3.out.mono ?_
      rintro e w4 ⟨rfl, hb4⟩
      have HB4 := hide (HB3.out.trans (hb4.mono HB3.out.size))
      have HS4 := hide (HS3.out.below hb4)
      have HO4 := hide (ownsRow_below HO3.out hb4)
      have hz4 := hb4.size
      clear hb4
      by_cases hv0 : v = 0
      · subst hv0
        have HSZ : Hid (cs.size = 20) := hide (HEV.out w (Below.refl _ _)).len
        have HONE := hide (HEV.out w (Below.refl _ _)).one
        have hlen : (okC (l.take k)).length ≤ 100 := by
          have := List.length_filter_le (fun e : EvC => decide (e.ev.err = 0)) (l.take k)
          simp only [okC]; simp at this ⊢; omega
        obtain ⟨mm, hmm⟩ : ∃ mm, (okC (l.take k)).length = mm := ⟨_, rfl⟩
        rw [hmm] at HO4 hlen
        have HMM := hide hmm
        clear hmm
        go_wp2_with (first
          | (refine wpList_load_cells rfl 27 _ rfl b (o + k * 20) rfl _ cs (HC.out _ HB4.out) Tryz.underlying27 rfl HI.out ?_)
          | (refine wpList_buildSlice rfl 22 27 1 _ rfl cs i0 zeroEv Tryz.underlying22 hi0 iz0 ?_ ?_ ?_ ?_; (· (rw [iz1]; decide)); (· (rw [iz1]; decide)); (· (rw [iz1, Array.toList_map]; exact fill_one (by simp) HSZ.out)))
          | (at_builtin; go_must (refine wpList_append_own _ rfl _ _ 22 rfl B0 27 i0 zeroEv 20 80 Tryz.underlying22 hi0 iz0 iz1 iz2 rfl (by decide) _ _ _ rfl (HO4.out.alloc _) ⟨w4.heap.size, 0, none⟩ 1 1 cs.toList rfl ?_ ?_ ?_ ?_ ?_ ?_ ?_); (· (rw [Array.length_toList, HSZ.out])); (· exact cells_new _ _ _); (· exact HONE.out); (· (unfold maxLen; omega)); (· omega); (· (simp; omega))))
        intro v' w5 hown' hgrow _
        have HO5 := hide hown'
        have HG5 := hide hgrow
        clear hown' hgrow
        go_wp2_with fail
        go_roundw
        case rel =>
          have hgrow := HG5.out
          have hlt4 : ∀ q, v0.ownBlock = some q → B0 ≤ q := fun q hq => ((HO4.out.alloc (.cells #[] 27)).lt q hq).1
          have hg4 : w4.grownBy w5 v0.ownBlock := (World.grownBy_alloc w4 _ _).trans hgrow
          have hs5 := HS4.out.other hg4 (fun e => by have := hlt4 sb e.symm; omega) (fun e => by have := hlt4 mb e.symm; omega)
          simp only [if_true] at hs5
          refine ⟨_, k + 1, zAdd z ev.by_, rfl, by omega, by go_num, ⟨?_, ?_, ?_, ?_, zAdd_range HA.out.zr, ?_, ?_⟩⟩
          · rw [okC_take_yes HGET.out HV.out]
            unfold evsOf
            rw [List.map_append, List.map_cons, List.map_nil, addEvs_snoc]
            exact hs5
          · rw [okC_take_yes HGET.out HV.out, List.length_append, HMM.out]
            have : cellsOf (okC (l.take k) ++ [⟨cs, ev, ga, gn, gc, sa, sn, sc⟩]) = cellsOf (okC (l.take k)) ++ cs.toList := by simp [cellsOf]
            rw [this]
            exact HO5.out
          · exact HB4.out.grown hg4 HB4.out.size (fun q hq => Nat.le_trans hwB (hlt4 q hq))
          · rw [okC_take_yes HGET.out HV.out]
            unfold evsOf
            rw [List.map_append, List.map_cons, List.map_nil, addEvs_snoc]
            exact (HA.out.fits.addEv ev HV.out).mono (by omega)
          · rw [okC_take_yes HGET.out HV.out]
            unfold evsOf
            rw [List.map_append, List.map_cons, List.map_nil, zOf_snoc]
            exact congrArg (fun q => zAdd q ev.by_) HA.out.zq
          · have := hg4.size; omega
        case measure => simp [intOf]; omega
      · have hvb : ((v : Int) == 0) = false := by simp; omega
        have HV0 := hide hv0
        clear hv0
        go_wp2_with fail
        go_roundw
        case rel =>
          have hs4 := HS4.out
          rw [if_neg HV0.out, if_neg HV0.out] at hs4
          have hno : ¬ ev.err = 0 := by rw [HV.out]; exact HV0.out
          refine ⟨_, k + 1, z, rfl, by omega, by go_num, ⟨?_, ?_, HB4.out, ?_, fun x hx => by have := HA.out.zr x hx; omega, ?_, by omega⟩⟩
          · rw [okC_take_no HGET.out hno]; exact hs4
          · rw [okC_take_no HGET.out hno]; exact HO4.out
          · rw [okC_take_no HGET.out hno]; exact HA.out.fits.mono (by omega)
          · rw [okC_take_no HGET.out hno]; exact HA.out.zq
        case measure => simp [intOf]; omega
    · obtain rfl : k = n := by omega
      have hgt : l.take k = l := List.take_of_length_le (by omega)
      have HPOST : Hid (∀ oa on oc, v0 = .slice oa on oc → BuildPost l w (.returned (.tuple #[.pointer (some ⟨sb, 0, none⟩), .slice oa on oc, .bool true])) wr) := hide (by
        rintro oa on oc rfl
        have hs := HA.out.s
        have hown := HA.out.own
        have hfit := HA.out.fits
        rw [hgt] at hs hown hfit
        refine ⟨sb, mb, z, oa, on, oc, rfl, hs, hfit.mono (by omega), ?_, HA.out.below, fun x hx => by have := HA.out.zr x hx; omega, by have := HA.out.zq; rwa [hgt] at this⟩
        have hev : ∀ e ∈ okC l, EvIs wr e.cs e.ev e.ga e.gn e.gc e.sa e.sn e.sc := fun e he => EvAt.ofBelow (HE.out.evs e ((List.mem_filter.1 he).1)) HA.out.below
        have hown2 := hown
        obtain ⟨_, h2⟩ := hown2
        rcases h2 with ⟨e, h0⟩ | ⟨g, cap, cur, e1, _, _, _, _, _⟩
        · cases e
          exact ⟨h0, Nat.le_refl _, by omega, fun h => by omega, hev⟩
        · cases e1
          exact evsAt_own hown rfl hev)
      have hv : ∃ oa on oc, v0 = .slice oa on oc := by
        obtain ⟨_, h2⟩ := HA.out.own
        rcases h2 with ⟨e, _⟩ | ⟨g, cap, cur, e, _⟩
        · exact ⟨_, _, _, e⟩
        · exact ⟨_, _, _, e⟩
      obtain ⟨oa, on, oc, hv⟩ := hv
      have HP2 := hide (HPOST.out oa on oc hv)
      clear HPOST hgt
      have HA2 := HA
      clear HA HA2
      subst hv
      go_wp2_with fail
      go_ret3
      exact HP2.out
end Go.Proofs.YticcfbeocepnpaaGreatDoor
