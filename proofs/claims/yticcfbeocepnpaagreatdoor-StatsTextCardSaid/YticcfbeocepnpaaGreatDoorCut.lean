/-
  What stands behind build, once for several statements.
-/
import Derived.Test.YticcfbeocepnpaaGreatDoorBuild
import Derived.Test.YticcfbeocepnpaaGreatDoorText
set_option linter.unusedSimpArgs false
set_option maxRecDepth 100000
namespace Go.Proofs.YticcfbeocepnpaaGreatDoor
open Go.RowKit Pl
/-- What build leaves; the blocks lie above. -/
def BuildPost2 (l : List EvC) (w : World) (e : Ending) (w' : World) : Prop :=
  ∃ sb mb z oa on oc, e = .returned (.tuple #[.pointer (some ⟨sb, 0, none⟩), .slice oa on oc, .bool true]) ∧ SAt w' sb mb (addEvs (evsOf (okC l))) z ∧ Fits (addEvs (evsOf (okC l))) 11200 ∧
    EvsAt w' oa on oc (okC l) ∧ Below w.heap.size w w' ∧ (∀ x ∈ z, 0 ≤ x ∧ x ≤ 100) ∧ z = zOf (evsOf (okC l)) ∧ w.heap.size ≤ sb ∧ w.heap.size ≤ mb

set_option maxHeartbeats 4000000 in
theorem build2_any (a : Option Addr) (n c : Nat) (l : List EvC) (w : World) (h : EvsAt w a n c l) (hfew : fewOk2 l) (hml : MLen w) :
    Calls Tryz.prog 10 #[.slice a n c] w (BuildPost2 l w) := by
  have HE := hide h
  have HFEW := hide hfew
  have hr := h.room
  have hc := h.capm
  have hl := h.len
  have hn20 : n ≤ 100 := by have := hfew.1; omega
  have HML := hide hml
  clear h hfew hml
  obtain ⟨i0, hi0, iz0, iz1, iz2⟩ := info_parts Tryz.infoEv
  go_enter Tryz.func10, Tryz.ntmps10
  go_wp2_with fail
  refine (snew_any w).mono ?_
  rintro e w1 ⟨sb, mb, rfl, hs1, hb1, hsb, hmb, hne⟩
  have HS1 := hide hs1
  have HB1 := hide hb1
  have hsl := hs1.lt
  have hml := hs1.map.lt
  clear hs1 hb1
  obtain ⟨B0, hB0⟩ : ∃ B0, B0 = w1.heap.size := ⟨_, rfl⟩
  rw [← hB0] at hsl hml
  have HB0 := hide hB0
  have hwB : w.heap.size ≤ B0 := by rw [hB0]; exact HB1.out.size
  clear hB0
  go_wp2_with fail
  go_loopw [6, 7] (fun v i wr => ∃ (v0 : Value) (k : Nat) (z : List Int), v0 = v ∧ k ≤ n ∧ i = .int .i64 k ∧ BuildAt w wr sb mb B0 l k v0 z) (fun _ i _ => n - (intOf i).toNat)
  case atStart => exact ⟨_, 0, List.replicate 18 0, rfl, by omega, rfl, ⟨HS1.out, World.ownsRow_nil _ _ _ _, HB1.out, fits_nil, by simp, rfl, by rw [HB0.out]; exact Nat.le_refl _⟩⟩
  case round =>
    obtain ⟨v0, k, z, rfl, hk, rfl, hA⟩ := hrel
    have HA := hide hA
    have hb0 := hA.hb0
    clear hA
    by_cases hlt : k < n
    · obtain ⟨b, o, ⟨cs, ev, ga, gn, gc, sa, sn, sc⟩, ha, he, hev, hcells⟩ := HE.out.at hlt
      simp only at hev hcells
      subst ha
      have HEV : Hid (∀ w', Below w.heap.size w w' → EvIs w' cs ev ga gn gc sa sn sc) := hide fun w' hb => EvAt.ofBelow hev hb
      have HC : Hid (∀ w', Below w.heap.size w w' → ∀ (j : Nat) v, cs[j]? = some v → w'.cell? ⟨b, o + k * 20 + j, none⟩ = some v) := hide fun w' hb j v hv => (hb.cell (block_lt_of_cell (hcells j v hv))).trans (hcells j v hv)
      have HI : Hid ((Tryz.prog.info? 27).map (·.size) = some cs.size) := hide (by rw [hev.len]; rfl)
      have HGET := hide he
      have hfe := HFEW.out.2 _ (List.mem_of_getElem? he)
      simp only at hfe
      obtain ⟨hg30, hs80⟩ := hfe
      have hgl := hev.at_.gs.len
      have hssl := hev.at_.ss.len
      clear he hev hcells
      obtain ⟨v, hv⟩ : ∃ v, evErr ev.m ev.gs ev.ss ev.by_ = v := ⟨_, rfl⟩
      have HCK := hide (check52_any cs _ _ _ _ _ _ _ _ _ _ wr (HEV.out wr HA.out.below).at_)
      rw [hv] at HCK
      have HV : Hid (ev.err = v) := hide hv
      clear hv
      go_wp2_with (first | (refine wpList_load_cells rfl 27 _ rfl b (o + k * 20) rfl _ cs (HC.out _ HA.out.below) Tryz.underlying27 rfl HI.out ?_))
      refine HCK.out.mono ?_
      rintro e w2 ⟨rfl, hb2⟩
      have HB2 := hide (HA.out.below.trans (hb2.mono HA.out.below.size))
      have HS2 := hide (HA.out.s.below hb2)
      have HO2 := hide (ownsRow_below HA.out.own hb2)
      have hz2 := hb2.size
      clear hb2
      go_wp2_with (first | (refine wpList_load_cells rfl 27 _ rfl b (o + k * 20) rfl _ cs (HC.out _ HB2.out) Tryz.underlying27 rfl HI.out ?_))
      refine (sadd_any sb mb _ z (k * 112) cs ev ga gn gc sa sn sc w2 (HEV.out w2 HB2.out) HS2.out HA.out.fits (by omega) (fun x hx => by have := HA.out.zr x hx; omega) (HML.out.below HB2.out)).mono ?_
      rintro e w3 ⟨rfl, hbut, hs3⟩
      rw [HV.out] at hs3
      rw [HV.out]
      have HB3 := hide (Below.but2 HB2.out hbut hsb hmb HB2.out.size)
      have HS3 := hide hs3
      have HO3 := hide (ownsRow_but2 HO2.out hbut hsl hml)
      have hz3 := hbut.size
      clear hbut hs3
      have HCK3 := hide (evCheck_any cs _ _ _ _ _ _ _ _ _ _ w3 (HEV.out w3 HB3.out).at_ (HML.out.below HB3.out))
      rw [show evErr ev.m ev.gs ev.ss ev.by_ = v from HV.out] at HCK3
      go_wp2_with (first | (refine wpList_load_cells_g rfl 27 _ rfl rfl rfl rfl b (o + k * 20) rfl _ cs (HC.out _ HB3.out) Tryz.underlying27 rfl HI.out ?_))
      refine HCK3.out.mono ?_
      rintro e w4 ⟨rfl, hb4⟩
      have HB4 := hide (HB3.out.trans (hb4.mono HB3.out.size))
      have HS4 := hide (HS3.out.below hb4)
      have HO4 := hide (ownsRow_below HO3.out hb4)
      have hz4 := hb4.size
      clear hb4
      by_cases hv0 : v = 0
      · subst hv0
        have HSZ : Hid (cs.size = 20) := hide (HEV.out w (Below.refl _ _)).len
        have HONE := hide (HEV.out w (Below.refl _ _)).one
        have hlen : (okC (l.take k)).length ≤ 100 := by
          have := List.length_filter_le (fun e : EvC => decide (e.ev.err = 0)) (l.take k)
          simp only [okC]; simp at this ⊢; omega
        obtain ⟨mm, hmm⟩ : ∃ mm, (okC (l.take k)).length = mm := ⟨_, rfl⟩
        rw [hmm] at HO4 hlen
        have HMM := hide hmm
        clear hmm
        go_wp2_with (first
          | (refine wpList_load_cells rfl 27 _ rfl b (o + k * 20) rfl _ cs (HC.out _ HB4.out) Tryz.underlying27 rfl HI.out ?_)
          | (refine wpList_buildSlice rfl 22 27 1 _ rfl cs i0 zeroEv Tryz.underlying22 hi0 iz0 ?_ ?_ ?_ ?_; (· (rw [iz1]; decide)); (· (rw [iz1]; decide)); (· (rw [iz1, Array.toList_map]; exact fill_one (by simp) HSZ.out)))
          | (at_builtin; go_must (refine wpList_append_own _ rfl _ _ 22 rfl B0 27 i0 zeroEv 20 80 Tryz.underlying22 hi0 iz0 iz1 iz2 rfl (by decide) _ _ _ rfl (HO4.out.alloc _) ⟨w4.heap.size, 0, none⟩ 1 1 cs.toList rfl ?_ ?_ ?_ ?_ ?_ ?_ ?_); (· (rw [Array.length_toList, HSZ.out])); (· exact cells_new _ _ _); (· exact HONE.out); (· (unfold maxLen; omega)); (· omega); (· (simp; omega))))
        intro v' w5 hown' hgrow _
        have HO5 := hide hown'
        have HG5 := hide hgrow
        clear hown' hgrow
        go_wp2_with fail
        go_roundw
        case rel =>
          have hgrow := HG5.out
          have hlt4 : ∀ q, v0.ownBlock = some q → B0 ≤ q := fun q hq => ((HO4.out.alloc (.cells #[] 27)).lt q hq).1
          have hg4 : w4.grownBy w5 v0.ownBlock := (World.grownBy_alloc w4 _ _).trans hgrow
          have hs5 := HS4.out.other hg4 (fun e => by have := hlt4 sb e.symm; omega) (fun e => by have := hlt4 mb e.symm; omega)
          simp only [if_true] at hs5
          refine ⟨_, k + 1, zAdd z ev.by_, rfl, by omega, by go_num, ⟨?_, ?_, ?_, ?_, zAdd_range HA.out.zr, ?_, ?_⟩⟩
          · rw [okC_take_yes HGET.out HV.out]
            unfold evsOf
            rw [List.map_append, List.map_cons, List.map_nil, addEvs_snoc]
            exact hs5
          · rw [okC_take_yes HGET.out HV.out, List.length_append, HMM.out]
            have : cellsOf (okC (l.take k) ++ [⟨cs, ev, ga, gn, gc, sa, sn, sc⟩]) = cellsOf (okC (l.take k)) ++ cs.toList := by simp [cellsOf]
            rw [this]
            exact HO5.out
          · exact HB4.out.grown hg4 HB4.out.size (fun q hq => Nat.le_trans hwB (hlt4 q hq))
          · rw [okC_take_yes HGET.out HV.out]
            unfold evsOf
            rw [List.map_append, List.map_cons, List.map_nil, addEvs_snoc]
            exact (HA.out.fits.addEv ev HV.out).mono (by omega)
          · rw [okC_take_yes HGET.out HV.out]
            unfold evsOf
            rw [List.map_append, List.map_cons, List.map_nil, zOf_snoc]
            exact congrArg (fun q => zAdd q ev.by_) HA.out.zq
          · have := hg4.size; omega
        case measure => simp [intOf]; omega
      · have hvb : ((v : Int) == 0) = false := by simp; omega
        have HV0 := hide hv0
        clear hv0
        go_wp2_with fail
        go_roundw
        case rel =>
          have hs4 := HS4.out
          rw [if_neg HV0.out, if_neg HV0.out] at hs4
          have hno : ¬ ev.err = 0 := by rw [HV.out]; exact HV0.out
          refine ⟨_, k + 1, z, rfl, by omega, by go_num, ⟨?_, ?_, HB4.out, ?_, fun x hx => by have := HA.out.zr x hx; omega, ?_, by omega⟩⟩
          · rw [okC_take_no HGET.out hno]; exact hs4
          · rw [okC_take_no HGET.out hno]; exact HO4.out
          · rw [okC_take_no HGET.out hno]; exact HA.out.fits.mono (by omega)
          · rw [okC_take_no HGET.out hno]; exact HA.out.zq
        case measure => simp [intOf]; omega
    · obtain rfl : k = n := by omega
      have hgt : l.take k = l := List.take_of_length_le (by omega)
      have HPOST : Hid (∀ oa on oc, v0 = .slice oa on oc → BuildPost2 l w (.returned (.tuple #[.pointer (some ⟨sb, 0, none⟩), .slice oa on oc, .bool true])) wr) := hide (by
        rintro oa on oc rfl
        have hs := HA.out.s
        have hown := HA.out.own
        have hfit := HA.out.fits
        rw [hgt] at hs hown hfit
        refine ⟨sb, mb, z, oa, on, oc, rfl, hs, hfit.mono (by omega), ?_, HA.out.below, fun x hx => by have := HA.out.zr x hx; omega, by have := HA.out.zq; rwa [hgt] at this, hsb, hmb⟩
        have hev : ∀ e ∈ okC l, EvIs wr e.cs e.ev e.ga e.gn e.gc e.sa e.sn e.sc := fun e he => EvAt.ofBelow (HE.out.evs e ((List.mem_filter.1 he).1)) HA.out.below
        have hown2 := hown
        obtain ⟨_, h2⟩ := hown2
        rcases h2 with ⟨e, h0⟩ | ⟨g, cap, cur, e1, _, _, _, _, _⟩
        · cases e
          exact ⟨h0, Nat.le_refl _, by omega, fun h => by omega, hev⟩
        · cases e1
          exact evsAt_own hown rfl hev)
      have hv : ∃ oa on oc, v0 = .slice oa on oc := by
        obtain ⟨_, h2⟩ := HA.out.own
        rcases h2 with ⟨e, _⟩ | ⟨g, cap, cur, e, _⟩
        · exact ⟨_, _, _, e⟩
        · exact ⟨_, _, _, e⟩
      obtain ⟨oa, on, oc, hv⟩ := hv
      have HP2 := hide (HPOST.out oa on oc hv)
      clear HPOST hgt
      have HA2 := HA
      clear HA HA2
      subst hv
      go_wp2_with fail
      go_ret3
      exact HP2.out
end Go.Proofs.YticcfbeocepnpaaGreatDoor
set_option linter.unusedSimpArgs false
set_option maxRecDepth 100000
namespace Go.Proofs.YticcfbeocepnpaaGreatDoor
open Go.RowKit Go.Shelf Pl

/-- Whatever cell reads, reads so later. -/
def CK (w w' : World) : Prop := ∀ b o v, w.cell? ⟨b, o, none⟩ = some v → w'.cell? ⟨b, o, none⟩ = some v
theorem CK.grown {w w' : World} {mb : Nat} {f : List (Ky × Ct)} (hm : CMap w mb f) (hg : w.grownBy w' (some mb)) : CK w w' := fun b o v h =>
  (cell_grown hg (block_lt_of_cell h) (by have := not_map_block hm h; simpa using this)).trans h
theorem CK.below {w w' : World} (h : Below w.heap.size w w') : CK w w' := fun _ _ _ hc => (h.cell (block_lt_of_cell hc)).trans hc
theorem StrsAt.ck {w w' : World} {a : Option Addr} {n c : Nat} {ss : List ByteArray} (h : StrsAt w a n c ss) (hk : CK w w') : StrsAt w' a n c ss :=
  ⟨h.len, h.room, h.capm, fun hn => let ⟨b, o, ha, hc⟩ := h.cells hn; ⟨b, o, ha, fun j x hx => hk _ _ _ (hc j x hx)⟩, h.size⟩
theorem EvsAt.ck {w w' : World} {a : Option Addr} {n c : Nat} {l : List EvC} (h : EvsAt w a n c l) (hk : CK w w') : EvsAt w' a n c l :=
  ⟨h.len, h.room, h.capm, fun hn => let ⟨b, o, ha, hc⟩ := h.cells hn; ⟨b, o, ha, fun i e he j v hv => hk _ _ _ (hc i e he j v hv)⟩,
    fun e he => let q := h.evs e he; ⟨⟨q.at_.c0, q.at_.c17, q.at_.c18, q.at_.c19, q.at_.gs.ck hk, q.at_.ss.ck hk⟩, q.au, q.aul, q.len⟩⟩

theorem TxtOk.forget {f : List (Ky × Ct)} {z : List Int} (h : TxtOk f z) (before : Int) : TxtOk (forgetL before f) z :=
  ⟨fun p hp => h.key p (List.mem_filter.1 hp).1, h.z⟩
theorem txtOk_evs {l : List Ev} {z : List Int} {n : Nat} (he : ∀ e ∈ l, e.err = 0 ∧ e.au.length = 16) (hf : Fits (addEvs l) n) (hn : n ≤ 100000) (hz : ∀ x ∈ z, 0 ≤ x ∧ x < 10000000000) : TxtOk (addEvs l) z := by
  refine ⟨fun p hp => ?_, hz⟩
  have hk : p.1 ∈ (addEvs l).map (·.1) := List.mem_map.2 ⟨p, hp, rfl⟩
  have h1 := sumA_mem (g := Prod.fst) (fun p hp => (hf.pos p hp).1) hp
  have h2 := sumA_mem (g := Prod.snd) (fun p hp => (hf.pos p hp).2) hp
  have h3 := hf.pos p hp
  have h4 := hf.le1
  have h5 := hf.le2
  unfold addEvs at hk
  rw [keys_mem] at hk
  rcases hk with hk | ⟨e, hm, hk⟩
  · cases hk
  · obtain ⟨g1, g2⟩ := keys_of.1 hk
    have hd := ev_day (he e hm).1
    refine ⟨by omega, by omega, ?_, ?_, ?_, h3.1, by omega, h3.2, by omega⟩
    · rcases g2 with ⟨g, _⟩ | ⟨k, _, _, g, _⟩ <;> omega
    · rcases g2 with ⟨g, _⟩ | ⟨k, _, _, g, _⟩ <;> omega
    · rcases g2 with ⟨_, g⟩ | ⟨k, _, _, _, g⟩
      · rw [g]; decide
      · exact names_size (he e hm).1 (he e hm).2 k _ g
/-- The text of what is left is the model's. -/
theorem text_law (before : Int) (l : List Ev) (he : ∀ e ∈ l, e.err = 0 ∧ e.au.length = 16) : textS (forgetL before (addEvs l)) (zOf l) = textL before l := by
  unfold textS textL
  rw [law_keys]
  congr 2
  refine List.map_congr_left (fun x hx => ?_)
  unfold lineOf
  rw [law_cnt before l he hx]
theorem forget_none {l : List Ev} (he : ∀ e ∈ l, e.err = 0) : forgetL 0 (addEvs l) = addEvs l := by
  unfold forgetL
  rw [List.filter_eq_self]
  intro p hp
  have hk : p.1 ∈ (addEvs l).map (·.1) := List.mem_map.2 ⟨p, hp, rfl⟩
  unfold addEvs at hk
  rw [keys_mem] at hk
  rcases hk with hk | ⟨e, hm, hk⟩
  · cases hk
  · have h1 := (keys_of.1 hk).1
    have h2 := ev_day (he e hm)
    simp [goneK]; omega

/-- What stands behind build. -/
structure Cut (W w : World) (l : List EvC) (sb mb : Nat) (z : List Int) (oa : Option Addr) (on oc : Nat) : Prop where
  s : SAt w sb mb (addEvs (evsOf l)) z
  fits : Fits (addEvs (evsOf l)) 11200
  evs : EvsAt w oa on oc l
  below : Below W.heap.size W w
  zr : ∀ x ∈ z, 0 ≤ x ∧ x ≤ 100
  zq : z = zOf (evsOf l)
  hsb : W.heap.size ≤ sb
  hmb : W.heap.size ≤ mb
  ok : ∀ e ∈ l, e.ev.err = 0
  oke : ∀ e ∈ evsOf l, e.err = 0 ∧ e.au.length = 16
  len : l.length ≤ 100
  flen : (addEvs (evsOf l)).length ≤ 1000000
  txt : TxtOk (addEvs (evsOf l)) z
theorem okc_of {l : List EvC} : ∀ e ∈ okC l, e.ev.err = 0 := fun e he => by simpa using (List.mem_filter.1 he).2
theorem cut_of {W w : World} {l : List EvC} {sb mb : Nat} {z : List Int} {oa : Option Addr} {on oc : Nat} (hfew : fewOk2 l)
    (q1 : SAt w sb mb (addEvs (evsOf (okC l))) z) (q2 : Fits (addEvs (evsOf (okC l))) 11200) (q3 : EvsAt w oa on oc (okC l)) (q4 : Below W.heap.size W w) (q5 : ∀ x ∈ z, 0 ≤ x ∧ x ≤ 100) (q6 : z = zOf (evsOf (okC l))) (q7 : W.heap.size ≤ sb) (q8 : W.heap.size ≤ mb) :
    Cut W w (okC l) sb mb z oa on oc := by
  have hoke : ∀ e ∈ evsOf (okC l), e.err = 0 ∧ e.au.length = 16 := by
    intro e he
    obtain ⟨y, hy, rfl⟩ := List.mem_map.1 he
    exact ⟨okc_of y hy, (q3.evs y hy).aul⟩
  have hlen : (okC l).length ≤ 100 := Nat.le_trans (List.length_filter_le _ _) hfew.1
  refine ⟨q1, q2, q3, q4, q5, q6, q7, q8, okc_of, hoke, hlen, ?_, txtOk_evs hoke q2 (by decide) (fun x hx => by have := q5 x hx; omega)⟩
  have h1 := addEvs_length 110 (evsOf (okC l)) [] (fun x hx => by
    obtain ⟨y, hy, rfl⟩ := List.mem_map.1 hx
    have hm := (List.mem_filter.1 hy).1
    have hf := hfew.2 y hm
    have hev := q3.evs y hy
    have h1 := hev.at_.gs.len
    have h2 := hev.at_.ss.len
    omega)
  unfold addEvs
  have h2 : (evsOf (okC l)).length = (okC l).length := by simp [evsOf]
  rw [h2] at h1
  simp at h1 ⊢; omega
theorem Cut.later {W w w' : World} {l : List EvC} {sb mb : Nat} {z : List Int} {oa : Option Addr} {on oc : Nat} (h : Cut W w l sb mb z oa on oc) (hb : Below w.heap.size w w') : Cut W w' l sb mb z oa on oc :=
  ⟨h.s.below hb, h.fits, h.evs.below hb, h.below.trans (hb.mono h.below.size), h.zr, h.zq, h.hsb, h.hmb, h.ok, h.oke, h.len, h.flen, h.txt⟩
end Go.Proofs.YticcfbeocepnpaaGreatDoor
