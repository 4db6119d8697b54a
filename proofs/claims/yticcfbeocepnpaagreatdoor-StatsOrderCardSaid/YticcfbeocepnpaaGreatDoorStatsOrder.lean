/-
  StatsOrder.
-/
import Derived.Test.YticcfbeocepnpaaGreatDoorLawOrder
import Derived.Test.YticcfbeocepnpaaGreatDoorEq
import Derived.Great.BuildSlice
set_option linter.unusedSimpArgs false
set_option maxRecDepth 100000
namespace Go.Proofs.YticcfbeocepnpaaGreatDoor
open Go.RowKit Go.Shelf Pl

set_option maxHeartbeats 8000000 in
theorem statsOrder_any (a : Option Addr) (n c : Nat) (l : List EvC) (t : Nat) (ht : t < 256) (w : World) (h : EvsAt w a n c l) (hml : MLen w) (htab : Tab10 w) :
    Calls Tryz.prog 5 #[.slice a n c, .int .u8 (t : Int)] w fun e w' => e = .returned (.bool true) ∧ Below w.heap.size w w' := by
  obtain ⟨i0, hi0, iz0, iz1, iz2⟩ := info_parts Tryz.infoEv
  have HE := hide h
  have HML := hide hml
  have HTAB : Hid (∀ w', Below w.heap.size w w' → Tab10 w') := hide fun w' hb => htab.below hb
  clear h hml htab
  have HKN := hide (known_any w HML.out)
  go_enter Tryz.func5, Tryz.ntmps5
  go_wp2_with fail
  refine HKN.out.mono ?_
  rintro e w1 ⟨rfl, hb1⟩
  have HB1 := hide hb1
  clear hb1
  have HFW := hide (few_any a n c l w1 (HE.out.below HB1.out))
  have HKN1 := hide (known_any w1 (HML.out.below HB1.out))
  go_wp2_with fail
  refine HFW.out.mono ?_
  rintro e w1' ⟨b, rfl, hfew, rfl⟩
  have HFEW : Hid (b = true → fewOk l) := hide fun h => hfew (by first | exact h | trivial)
  clear hfew
  cases b
  · go_wp2_with fail
    refine HKN1.out.mono ?_
    rintro e w2 ⟨rfl, hb2⟩
    have HB2 := hide (HB1.out.trans (hb2.mono HB1.out.size))
    clear hb2
    go_wp2_with fail
    go_ret
    exact ⟨rfl, HB2.out⟩
  · have HFL : Hid (fewOk l) := hide (HFEW.out (by first | rfl | trivial))
    clear HFEW
    have hn20 : n ≤ 20 := by have h1 := HE.out.len; have h2 := HFL.out.1; omega
    have HLN : Hid (l.length = n) := hide HE.out.len
    obtain ⟨B0, hB0⟩ : ∃ B0, B0 = w1.heap.size := ⟨_, rfl⟩
    have HB0 := hide hB0
    have hwB : w.heap.size ≤ B0 := by rw [hB0]; exact HB1.out.size
    clear hB0
    go_wp2_with fail
    go_loopw [5, 6] (fun v i wr => ∃ (v0 : Value) (k : Nat), v0 = v ∧ k ≤ n ∧ i = .int .i64 k ∧ Hid (wr.ownsRow B0 27 20 v0 k (cellsOf ((turned l t).take k))) ∧ Hid (Below w.heap.size w wr) ∧ B0 ≤ wr.heap.size) (fun _ i _ => n - (intOf i).toNat)
    case atStart => exact ⟨_, 0, rfl, by omega, rfl, World.ownsRow_nil _ _ _ _, HB1, by rw [HB0.out]; exact Nat.le_refl _⟩
    case round =>
      obtain ⟨v0, k, rfl, hk, rfl, HO, HB, hb0⟩ := hrel
      by_cases hlt : k < n
      · obtain ⟨j, hj⟩ : ∃ j, turnIx n t k = j := ⟨_, rfl⟩
        have hjn : j < n := by rw [← hj]; exact turnIx_lt (by omega)
        obtain ⟨b, o, ⟨cs, ev, ga, gn, gc, sa, sn, sc⟩, ha, he, hev, hcells⟩ := HE.out.at hjn
        simp only at hev hcells
        subst ha
        have HTK : Hid ((turned l t).take (k + 1) = (turned l t).take k ++ [⟨cs, ev, ga, gn, gc, sa, sn, sc⟩]) := hide (by
          rw [List.take_add_one, turned_get l t k (by rw [HLN.out]; exact hlt), HLN.out, hj, he]; rfl)
        have HC : Hid (∀ w', Below w.heap.size w w' → ∀ (j' : Nat) v, cs[j']? = some v → w'.cell? ⟨b, o + j * 20 + j', none⟩ = some v) := hide fun w' hb j' v hv => (hb.cell (block_lt_of_cell (hcells j' v hv))).trans (hcells j' v hv)
        have HI : Hid ((Tryz.prog.info? 27).map (·.size) = some cs.size) := hide (by rw [hev.len]; rfl)
        have HSZ : Hid (cs.size = 20) := hide hev.len
        have HONE := hide hev.one
        obtain ⟨m1, hm1⟩ : ∃ m1 : Nat, m1 = n - 1 := ⟨_, rfl⟩
        obtain ⟨m2, hm2⟩ : ∃ m2 : Nat, m2 = m1 - k := ⟨_, rfl⟩
        obtain ⟨m3, hm3⟩ : ∃ m3 : Nat, m3 = m2 + t := ⟨_, rfl⟩
        have f0 : IntKind.i64.wrap (t : Int) = (t : Int) := IntWalk.i64_in _ (by omega)
        have f1 : IntKind.i64.wrap ((n : Int) - 1) = (m1 : Int) := by rw [IntWalk.i64_in _ (by omega)]; omega
        have f2 : IntKind.i64.wrap ((m1 : Int) - (k : Int)) = (m2 : Int) := by rw [IntWalk.i64_in _ (by omega)]; omega
        have f3 : IntKind.i64.wrap ((m2 : Int) + (t : Int)) = (m3 : Int) := by rw [IntWalk.i64_in _ (by omega)]; omega
        have hjm : j = m3 % n := by rw [hm3, hm2, hm1, ← hj]; rfl
        have hn0 : 0 < n := by omega
        clear he hev hcells hm1 hm2 hm3 hj
        subst hjm
        go_wp2_with (first
          | (refine wpList_load_cells rfl 27 _ rfl b (o + m3 % n * 20) rfl _ cs (HC.out _ HB.out) Tryz.underlying27 rfl HI.out ?_)
          | (refine wpList_buildSlice rfl 22 27 1 _ rfl cs i0 zeroEv Tryz.underlying22 hi0 iz0 ?_ ?_ ?_ ?_; (· (rw [iz1]; decide)); (· (rw [iz1]; decide)); (· (rw [iz1, Array.toList_map]; exact fill_one (by simp) HSZ.out)))
          | (at_builtin; go_must (refine wpList_append_own _ rfl _ _ 22 rfl B0 27 i0 zeroEv 20 80 Tryz.underlying22 hi0 iz0 iz1 iz2 rfl (by decide) _ _ _ rfl (HO.out.alloc _) ⟨wr.heap.size, 0, none⟩ 1 1 cs.toList rfl ?_ ?_ ?_ ?_ ?_ ?_ ?_); (· (rw [Array.length_toList, HSZ.out])); (· exact cells_new _ _ _); (· exact HONE.out); (· (unfold maxLen; omega)); (· omega); (· (simp; omega))))
        intro v' w5 hown' hgrow _
        have HO5 := hide hown'
        have HG5 := hide hgrow
        clear hown' hgrow
        go_wp2_with fail
        go_roundw
        case rel =>
          have hg4 : wr.grownBy w5 v0.ownBlock := (World.grownBy_alloc wr _ _).trans HG5.out
          have hlt4 : ∀ q, v0.ownBlock = some q → B0 ≤ q := fun q hq => (HO.out.lt q hq).1
          refine ⟨_, k + 1, rfl, by omega, by go_num, ?_, hide (HB.out.grown hg4 HB.out.size (fun q hq => Nat.le_trans hwB (hlt4 q hq))), by have := hg4.size; omega⟩
          unfold Hid
          rw [HTK.out]
          have : cellsOf ((turned l t).take k ++ [⟨cs, ev, ga, gn, gc, sa, sn, sc⟩]) = cellsOf ((turned l t).take k) ++ cs.toList := by simp [cellsOf]
          rw [this]
          exact HO5.out
        case measure => simp [intOf]; omega
      · obtain rfl : k = n := by omega
        have hin : ∃ ia ic, v0 = .slice ia k ic ∧ EvsAt wr ia k ic (turned l t) := by
          have hown := HO.out
          have hlen : (turned l t).length = k := by rw [turned_length, HLN.out]
          rw [List.take_of_length_le (by omega)] at hown
          have hev : ∀ e ∈ turned l t, EvIs wr e.cs e.ev e.ga e.gn e.gc e.sa e.sn e.sc := fun e he => EvAt.ofBelow (HE.out.evs e ((turned_perm l t).mem_iff.1 he)) HB.out
          have hown2 := hown
          rcases hown2.2 with ⟨e, h0⟩ | ⟨g, cap, cur, e1, _⟩
          · subst h0
            exact ⟨none, 0, e, hlen, Nat.le_refl _, by omega, fun h => by omega, hev⟩
          · subst e1
            exact ⟨_, cap, rfl, evsAt_own hown hlen hev⟩
        obtain ⟨ia, ic, rfl, hin⟩ := hin
        have HIN := hide hin
        have HFL2 : Hid (fewOk2 (turned l t)) := hide ⟨by rw [turned_length]; have := HFL.out.1; omega, fun e he => HFL.out.2 e ((turned_perm l t).mem_iff.1 he)⟩
        have HBD1 := hide (build2_any a k c l wr (HE.out.below HB.out) HFL.out.two (HML.out.below HB.out))
        clear hin
        go_wp2_with fail
        refine HBD1.out.mono ?_
        rintro e w2 ⟨sb, mb, z, oa, on, oc, rfl, q1, q2, q3, q4, q5, q6, q7, q8⟩
        have HC1 : Hid (Cut w w2 (okC l) sb mb z oa on oc) := hide (cut_of HFL.out.two q1 q2 q3 (HB.out.trans (q4.mono HB.out.size)) q5 q6 (Nat.le_trans HB.out.size q7) (Nat.le_trans HB.out.size q8))
        have HBD2 := hide (build2_any ia k ic (turned l t) w2 (HIN.out.below q4) HFL2.out (HML.out.below HC1.out.below))
        clear q1 q2 q3 q4 q5 q6 q7 q8
        go_wp2_with fail
        refine HBD2.out.mono ?_
        rintro e w3 ⟨sb2, mb2, z2, oa2, on2, oc2, rfl, q1, q2, q3, q4, q5, q6, q7, q8⟩
        have HC2 : Hid (Cut w w3 (okC (turned l t)) sb2 mb2 z2 oa2 on2 oc2) := hide (cut_of HFL2.out q1 q2 q3 (HC1.out.below.trans (q4.mono HC1.out.below.size)) q5 q6 (Nat.le_trans HC1.out.below.size q7) (Nat.le_trans HC1.out.below.size q8))
        have HC3 : Hid (Cut w w3 (okC l) sb mb z oa on oc) := hide (HC1.out.later q4)
        clear q1 q2 q3 q4 q5 q6 q7 q8 HBD1 HBD2
        have hp0 : (evsOf (okC l)).Perm (evsOf (okC (turned l t))) := ((turned_perm l t).symm.filter _).map _
        have hpm := addEvs_perm HC3.out.oke hp0
        have hz2 : z2 = z := by rw [HC2.out.zq, HC3.out.zq, zOf_perm hp0]
        subst hz2
        have hzr : ∀ x ∈ z2, 0 ≤ x ∧ x ≤ 4611686018427387904 := fun x hx => by have := HC3.out.zr x hx; omega
        obtain ⟨f1, hf1⟩ : ∃ f1, addEvs (evsOf (okC l)) = f1 := ⟨_, rfl⟩
        obtain ⟨f2, hf2⟩ : ∃ f2, addEvs (evsOf (okC (turned l t))) = f2 := ⟨_, rfl⟩
        have s1 := HC3.out.s
        have s2 := HC2.out.s
        have k1 := HC3.out.txt
        have k2 := HC2.out.txt
        have n1 := HC3.out.flen
        have n2 := HC2.out.flen
        have hnd := HC3.out.fits.nd
        rw [hf1] at hpm s1 k1 n1 hnd
        rw [hf2] at hpm s2 k2 n2
        obtain ⟨tx, htx⟩ : ∃ tx, textS f1 z2 = tx := ⟨_, rfl⟩
        have htx2 : textS f2 z2 = tx := by rw [← textS_perm z2 hnd hpm, htx]
        have HBW : Hid (Below w.heap.size w w3) := hide HC3.out.below
        have HE1 : Hid (∀ w', Below w3.heap.size w3 w' → Calls Tryz.prog 22 #[.pointer (some ⟨sb, 0, none⟩), .pointer (some ⟨sb2, 0, none⟩)] w' fun e w'' => e = .returned (.bool true) ∧ Below w3.heap.size w3 w'') := hide fun w' hb =>
          (sequal_any sb mb sb2 mb2 f1 f2 z2 w' (s1.below hb) (s2.below hb) hpm hzr).mono (by rintro e w'' ⟨rfl, hq⟩; exact ⟨rfl, hb.trans (hq.mono hb.size)⟩)
        have HE2 : Hid (∀ w', Below w3.heap.size w3 w' → Calls Tryz.prog 22 #[.pointer (some ⟨sb2, 0, none⟩), .pointer (some ⟨sb, 0, none⟩)] w' fun e w'' => e = .returned (.bool true) ∧ Below w3.heap.size w3 w'') := hide fun w' hb =>
          (sequal_any sb2 mb2 sb mb f2 f1 z2 w' (s2.below hb) (s1.below hb) hpm.symm hzr).mono (by rintro e w'' ⟨rfl, hq⟩; exact ⟨rfl, hb.trans (hq.mono hb.size)⟩)
        have HT1 : Hid (∀ w', Below w3.heap.size w3 w' → Calls Tryz.prog 20 #[.pointer (some ⟨sb, 0, none⟩)] w' fun e w'' => e = .returned (.string tx) ∧ Below w3.heap.size w3 w'') := hide fun w' hb => by
          have := stext_any sb mb f1 z2 w' (s1.below hb) n1 (HTAB.out _ (HBW.out.trans (hb.mono HBW.out.size))) k1
          rw [htx] at this
          exact this.mono (by rintro e w'' ⟨rfl, hq⟩; exact ⟨rfl, hb.trans (hq.mono hb.size)⟩)
        have HT2 : Hid (∀ w', Below w3.heap.size w3 w' → Calls Tryz.prog 20 #[.pointer (some ⟨sb2, 0, none⟩)] w' fun e w'' => e = .returned (.string tx) ∧ Below w3.heap.size w3 w'') := hide fun w' hb => by
          have := stext_any sb2 mb2 f2 z2 w' (s2.below hb) n2 (HTAB.out _ (HBW.out.trans (hb.mono HBW.out.size))) k2
          rw [htx2] at this
          exact this.mono (by rintro e w'' ⟨rfl, hq⟩; exact ⟨rfl, hb.trans (hq.mono hb.size)⟩)
        clear hp0 hpm hzr hf1 hf2 s1 s2 k1 k2 n1 n2 hnd htx htx2
        go_wp2_with fail
        refine (HE1.out w3 (Below.refl _ _)).mono ?_
        rintro e w4 ⟨rfl, hb4⟩
        have HB4 := hide hb4
        clear hb4
        go_wp2_with fail
        refine (HE2.out w4 HB4.out).mono ?_
        rintro e w5 ⟨rfl, hb5⟩
        have HB5 := hide hb5
        clear hb5
        go_wp2_with fail
        refine (HT1.out w5 HB5.out).mono ?_
        rintro e w6 ⟨rfl, hb6⟩
        have HB6 := hide hb6
        clear hb6
        go_wp2_with fail
        refine (HT2.out w6 HB6.out).mono ?_
        rintro e w7 ⟨rfl, hb7⟩
        have HB7 := hide hb7
        clear hb7
        go_wp2_with fail
        go_ret
        exact ⟨rfl, HBW.out.trans (HB7.out.mono HBW.out.size)⟩
end Go.Proofs.YticcfbeocepnpaaGreatDoor
