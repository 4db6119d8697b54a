/-
  For every two lists of events, bulletinlaw52.StatsMerge returns true and leaves its arguments as they were; the listed tables of math/bits, internal/strconv and unicode/utf8 are tied to the program's text by the given tie.
-/
import Derived.Test.YticcfbeocepnpaaGreatDoorMerge
import Derived.Test.YticcfbeocepnpaaGreatDoorTextM
import Derived.Great.BuildSlice
import Derived.Test.YticcfbeocepnpaaGreatDoorRowC
import Derived.Test.YticcfbeocepnpaaGreatDoorTie
import Derived.Test.YticcfbeocepnpaaGreatDoorCards
import Derived.SevenTiedAt
set_option linter.unusedSimpArgs false
set_option maxRecDepth 100000
namespace Go.Proofs.YticcfbeocepnpaaGreatDoor
open Go.RowKit Go.Shelf Pl

theorem SAt.but2 {w w' : World} {sb mb a b : Nat} {f : List (Ky × Ct)} {z : List Int} (h : SAt w sb mb f z) (k : But2 w w' a b) (h1 : sb ≠ a) (h2 : sb ≠ b) (h3 : mb ≠ a) (h4 : mb ≠ b) : SAt w' sb mb f z :=
  ⟨(k.block sb h.lt h1 h2).trans h.blk, Mp.IsMap.of_block h.map (k.block mb h.map.lt h3 h4), h.len⟩
theorem cellsOf_len {l : List EvC} (hl : ∀ e ∈ l, e.cs.size = 20) : (cellsOf l).length = l.length * 20 := by
  induction l with
  | nil => rfl
  | cons x r ih =>
    have := ih (fun e he => hl e (by simp [he]))
    unfold cellsOf at this ⊢
    rw [List.flatMap_cons, List.length_append, this, Array.length_toList, hl x (by simp), List.length_cons]; omega
theorem cellsOf_back : ∀ {l : List EvC}, (∀ e ∈ l, e.cs.size = 20) → ∀ {j : Nat} {u : Value}, (cellsOf l)[j]? = some u → ∃ e, l[j / 20]? = some e ∧ e.cs[j % 20]? = some u
  | [], _, j, u, h => by simp [cellsOf] at h
  | x :: r, hl, j, u, h => by
    have hx := hl x (by simp)
    have e1 : cellsOf (x :: r) = x.cs.toList ++ cellsOf r := rfl
    rw [e1] at h
    by_cases hj : j < 20
    · rw [List.getElem?_append_left (by rw [Array.length_toList]; omega)] at h
      exact ⟨x, by rw [Nat.div_eq_of_lt hj]; rfl, by rw [Nat.mod_eq_of_lt hj, ← Array.getElem?_toList]; exact h⟩
    · rw [List.getElem?_append_right (by rw [Array.length_toList]; omega), Array.length_toList, hx] at h
      obtain ⟨e, h1, h2⟩ := cellsOf_back (fun e he => hl e (by simp [he])) h
      refine ⟨e, ?_, ?_⟩
      · rw [show j / 20 = (j - 20) / 20 + 1 by omega, List.getElem?_cons_succ]; exact h1
      · rw [show j % 20 = (j - 20) % 20 by omega]; exact h2
theorem srcIs_all {w : World} {a : Option Addr} {n c : Nat} {l : List EvC} (h : EvsAt w a n c l) : SrcIs w 20 a n (cellsOf l) := by
  have h20 : ∀ e ∈ l, e.cs.size = 20 := fun e he => (h.evs e he).len
  refine ⟨by rw [cellsOf_len h20, h.len], fun hn => ?_⟩
  obtain ⟨b, o, ha, hc⟩ := h.cells hn
  refine ⟨_, ha, fun j u hu => ?_⟩
  obtain ⟨e, h1, h2⟩ := cellsOf_back h20 hu
  have := hc _ e h1 _ u h2
  have hadd : (⟨b, o, none⟩ : Addr).add j = ⟨b, o + j, none⟩ := by unfold Addr.add; split <;> simp_all
  rw [hadd, show o + j = o + j / 20 * 20 + j % 20 by omega]
  exact this
theorem cellsOf_ones {w : World} {l : List EvC} (h : ∀ e ∈ l, EvIs w e.cs e.ev e.ga e.gn e.gc e.sa e.sn e.sc) : ∀ u ∈ cellsOf l, u.oneCell' = true := by
  intro u hu
  obtain ⟨e, he, hu⟩ := List.mem_flatMap.1 hu
  exact (h e he).one u hu
theorem TxtOk.perm {f g : List (Ky × Ct)} {z : List Int} (h : TxtOk g z) (hp : f.Perm g) : TxtOk f z := ⟨fun p hp' => h.key p (hp.mem_iff.1 hp'), h.z⟩

set_option maxHeartbeats 16000000 in
theorem statsMerge_any (a : Option Addr) (n c : Nat) (l : List EvC) (a2 : Option Addr) (n2 c2 : Nat) (l2 : List EvC) (w : World) (h : EvsAt w a n c l) (h2 : EvsAt w a2 n2 c2 l2) (hml : MLen w) (htab : Tab10 w) :
    Calls Tryz.prog 6 #[.slice a n c, .slice a2 n2 c2] w fun e w' => e = .returned (.bool true) ∧ Below w.heap.size w w' := by
  obtain ⟨i0, hi0, iz0, iz1, iz2⟩ := info_parts Tryz.infoEv
  have HE := hide h
  have HE2 := hide h2
  have HML := hide hml
  have HTAB : Hid (∀ w', Below w.heap.size w w' → Tab10 w') := hide fun w' hb => htab.below hb
  clear h h2 hml htab
  have HKN := hide (known_any w HML.out)
  go_enter Tryz.func6, Tryz.ntmps6
  go_wp2_with fail
  refine HKN.out.mono ?_
  rintro e w1 ⟨rfl, hb1⟩
  have HB1 := hide hb1
  clear hb1
  have HFW := hide (few_any a n c l w1 (HE.out.below HB1.out))
  have HFW2 := hide (few_any a2 n2 c2 l2 w1 (HE2.out.below HB1.out))
  have HKN1 := hide (known_any w1 (HML.out.below HB1.out))
  go_wp2_with fail
  refine HFW.out.mono ?_
  rintro e w1' ⟨b, rfl, hfew, rfl⟩
  have HFEW : Hid (b = true → fewOk l) := hide fun h => hfew (by first | exact h | trivial)
  clear hfew
  cases b
  · go_wp2_with fail
    refine HKN1.out.mono ?_
    rintro e w2 ⟨rfl, hb2⟩
    have HB2 := hide (HB1.out.trans (hb2.mono HB1.out.size))
    clear hb2
    go_wp2_with fail
    go_ret
    exact ⟨rfl, HB2.out⟩
  · have HFL : Hid (fewOk l) := hide (HFEW.out (by first | rfl | trivial))
    clear HFEW
    go_wp2_with fail
    refine HFW2.out.mono ?_
    rintro e w1' ⟨b, rfl, hfew, rfl⟩
    have HFEW : Hid (b = true → fewOk l2) := hide fun h => hfew (by first | exact h | trivial)
    clear hfew
    cases b
    · go_wp2_with fail
      refine HKN1.out.mono ?_
      rintro e w2 ⟨rfl, hb2⟩
      have HB2 := hide (HB1.out.trans (hb2.mono HB1.out.size))
      clear hb2
      go_wp2_with fail
      go_ret
      exact ⟨rfl, HB2.out⟩
    · have HFL2 : Hid (fewOk l2) := hide (HFEW.out (by first | rfl | trivial))
      clear HFEW HFW HFW2 HKN HKN1
      have HBD1 := hide (build2_any a n c l w1 (HE.out.below HB1.out) HFL.out.two (HML.out.below HB1.out))
      go_wp2_with fail
      refine HBD1.out.mono ?_
      rintro e w2 ⟨s1, m1, z1, oa, on, oc, rfl, q1, q2, q3, q4, q5, q6, q7, q8⟩
      have HC1 : Hid (Cut w w2 (okC l) s1 m1 z1 oa on oc) := hide (cut_of HFL.out.two q1 q2 q3 (HB1.out.trans (q4.mono HB1.out.size)) q5 q6 (Nat.le_trans HB1.out.size q7) (Nat.le_trans HB1.out.size q8))
      have HBD2 := hide (build2_any a2 n2 c2 l2 w2 (HE2.out.below HC1.out.below) HFL2.out.two (HML.out.below HC1.out.below))
      clear q1 q2 q3 q4 q5 q6 q7 q8
      go_wp2_with fail
      refine HBD2.out.mono ?_
      rintro e w3 ⟨s2, m2, z2, ob, pn, pq, rfl, q1, q2, q3, q4, q5, q6, q7, q8⟩
      have HC2 : Hid (Cut w w3 (okC l2) s2 m2 z2 ob pn pq) := hide (cut_of HFL2.out.two q1 q2 q3 (HC1.out.below.trans (q4.mono HC1.out.below.size)) q5 q6 (Nat.le_trans HC1.out.below.size q7) (Nat.le_trans HC1.out.below.size q8))
      have HC3 : Hid (Cut w w3 (okC l) s1 m1 z1 oa on oc) := hide (HC1.out.later q4)
      clear q1 q2 q3 q4 q5 q6 q7 q8 HBD1 HBD2 HC1
      have hX : (okC l).length ≤ 20 := Nat.le_trans (List.length_filter_le _ _) HFL.out.1
      have hY : (okC l2).length ≤ 20 := Nat.le_trans (List.length_filter_le _ _) HFL2.out.1
      have HXE : Hid (∀ e ∈ okC l, EvIs w e.cs e.ev e.ga e.gn e.gc e.sa e.sn e.sc ∧ e.gn ≤ 30 ∧ e.sn ≤ 80) := hide fun e he => ⟨HE.out.evs e (List.mem_filter.1 he).1, HFL.out.2 e (List.mem_filter.1 he).1⟩
      have HYE : Hid (∀ e ∈ okC l2, EvIs w e.cs e.ev e.ga e.gn e.gc e.sa e.sn e.sc ∧ e.gn ≤ 30 ∧ e.sn ≤ 80) := hide fun e he => ⟨HE2.out.evs e (List.mem_filter.1 he).1, HFL2.out.2 e (List.mem_filter.1 he).1⟩
      obtain ⟨X, hXX⟩ : ∃ X, okC l = X := ⟨_, rfl⟩
      obtain ⟨Y, hYY⟩ : ∃ Y, okC l2 = Y := ⟨_, rfl⟩
      rw [hXX] at HC3 hX HXE
      rw [hYY] at HC2 hY HYE
      clear hXX hYY
      -- the clones
      go_wp2_with fail
      refine (sclone_any s2 m2 _ z2 w3 HC2.out.s).mono ?_
      rintro e w4 ⟨sc, mc, rfl, hs4, hb4, hsc, hmc, hscm⟩
      have HB4 : Hid (Below w3.heap.size w3 w4) := hide hb4
      have HS4 := hide hs4
      have hscl := hs4.lt
      have hmcl := hs4.map.lt
      clear hs4 hb4
      go_wp2_with fail
      refine (sclone_any s1 m1 _ z1 w4 (HC3.out.s.below HB4.out)).mono ?_
      rintro e w5 ⟨sd, md, rfl, hs5, hb5, hsd, hmd, hsdm⟩
      have HB5 : Hid (Below w3.heap.size w3 w5) := hide (HB4.out.trans (hb5.mono HB4.out.size))
      have HS5 := hide hs5
      have HS45 := hide (HS4.out.below hb5)
      have hw45 := hb5.size
      have hw34 := HB4.out.size
      clear hs5 hb5
      -- the merges
      have HM1 := hide (smerge_any sc mc s1 m1 _ _ z2 z1 w5 HS45.out (HC3.out.s.below HB5.out) HC2.out.fits HC3.out.fits HC2.out.zr HC3.out.zr)
      go_wp2_with fail
      refine HM1.out.mono ?_
      rintro e w6 ⟨rfl, ss, hss, hs6, hbt6⟩
      have HS6 := hide hs6
      have HSS := hide hss
      have HB6 : Hid (Below w3.heap.size w3 w6) := hide (Below.but2 HB5.out hbt6 hsc hmc HB5.out.size)
      have HS56 := hide (HS5.out.but2 hbt6 (by omega) (by omega) (by omega) (by omega))
      have hw56 := hbt6.size
      clear hs6 hss hbt6
      have HM2 := hide (smerge_any sd md s2 m2 _ _ z1 z2 w6 HS56.out (HC2.out.s.below HB6.out) HC3.out.fits HC2.out.fits HC3.out.zr HC2.out.zr)
      go_wp2_with fail
      refine HM2.out.mono ?_
      rintro e w7 ⟨rfl, tt, htt, hs7, hbt7⟩
      have HSD := hide hs7
      have HTT := hide htt
      have HB7 : Hid (Below w3.heap.size w3 w7) := hide (Below.but2 HB6.out hbt7 (by omega) (by omega) HB6.out.size)
      have HSC := hide (HS6.out.but2 hbt7 (by omega) (by omega) (by omega) (by omega))
      clear hs7 htt hbt7
      have HC37 := hide (HC3.out.later HB7.out)
      have HC27 := hide (HC2.out.later HB7.out)
      have HBW7 : Hid (Below w.heap.size w w7) := hide HC37.out.below
      go_wp2_with fail
      refine (snew_any w7).mono ?_
      rintro e w8 ⟨se, me, rfl, hs8, hb8, hse, hme, hsme⟩
      have HS8 := hide hs8
      have HB8 : Hid (Below w7.heap.size w7 w8) := hide hb8
      have hsel := hs8.lt
      have hmel := hs8.map.lt
      have HEX := hide (HC37.out.evs.below hb8)
      have HEY := hide (HC27.out.evs.below hb8)
      have hon : on ≤ 20 := by have := HEX.out.len; omega
      have hpn : pn ≤ 20 := by have := HEY.out.len; omega
      have HSX := hide (srcIs_all HEX.out)
      have HSY := hide (srcIs_all HEY.out)
      have HONEX := hide (cellsOf_ones HEX.out.evs)
      have HONEY := hide (cellsOf_ones HEY.out.evs)
      have HA0 := hide (ownsRow_built0 w8 w8.heap.size 27 20 (Nat.le_refl _))
      have HSYf : Hid (∀ w', Below w8.heap.size w8 w' → SrcIs w' 20 ob pn (cellsOf Y)) := hide fun w' hb => HSY.out.below hb
      clear hs8 hb8
      go_wp2_with (first
        | (at_builtin; refine wpList_append_src _ rfl _ _ 22 rfl w8.heap.size 27 i0 zeroEv 20 80 Tryz.underlying22 hi0 iz0 iz1 iz2 rfl (by decide) _ _ _ rfl HA0.out oa on oc (cellsOf X) rfl (HSX.out.alloc _) HONEX.out (by unfold maxLen; omega) (by omega) (by simp) ?_; intro v9 w9 hown9 hgr9)
        | (at_builtin; refine wpList_append_src _ rfl _ _ 22 rfl w8.heap.size 27 i0 zeroEv 20 80 Tryz.underlying22 hi0 iz0 iz1 iz2 rfl (by decide) _ _ _ rfl (by assumption) ob pn pq (cellsOf Y) rfl (HSYf.out _ (Below.grown (below_al (Below.refl _ _) _) (by assumption) (by simp) (by intro q e; cases e; exact Nat.le_refl _))) HONEY.out (by unfold maxLen; omega) (by omega) (by have := World.grownBy.size (by assumption : World.grownBy (w8.alloc _) w9 _); simp at this; omega) ?_; intro v10 w10 hown10 hgr10))
      have hgr10' : w9.grownBy w10 v9.ownBlock := hgr10
      have hb9 : Below w8.heap.size w8 w9 := Below.grown (below_al (Below.refl _ _) _) hgr9 (by simp) (by intro q e; cases e; exact Nat.le_refl _)
      have hb10 : Below w8.heap.size w8 w10 := hb9.grown hgr10' hb9.size (fun q e => (hown9.lt q e).1)
      have HB10 := hide hb10
      obtain ⟨A, hA⟩ : ∃ A, X ++ Y = A := ⟨_, rfl⟩
      have HAE : Hid (∀ e ∈ A, EvIs w e.cs e.ev e.ga e.gn e.gc e.sa e.sn e.sc ∧ e.gn ≤ 30 ∧ e.sn ≤ 80) := hide (by
        intro e he
        rw [← hA] at he
        exact (List.mem_append.1 he).elim (HXE.out e) (HYE.out e))
      have HAO : Hid (∀ e ∈ A, e.ev.err = 0) := hide (by
        intro e he
        rw [← hA] at he
        exact (List.mem_append.1 he).elim (HC37.out.ok e) (HC27.out.ok e))
      have HBW8 : Hid (Below w.heap.size w w8) := hide (HBW7.out.trans (HB8.out.mono HBW7.out.size))
      have HBW10 : Hid (Below w.heap.size w w10) := hide (HBW8.out.trans (HB10.out.mono HBW8.out.size))
      have hal : A.length = on + pn := by rw [← hA, List.length_append, HEX.out.len, HEY.out.len]
      obtain ⟨N, hN⟩ : ∃ N, on + pn = N := ⟨_, rfl⟩
      have hN40 : N ≤ 40 := by omega
      have hin : ∃ ia ic, v10 = .slice ia N ic ∧ EvsAt w10 ia N ic A ∧ ∀ b o x, ia = some ⟨b, o, x⟩ → w8.heap.size ≤ b := by
        have hown := hown10
        rw [List.nil_append, Nat.zero_add, hN, show cellsOf X ++ cellsOf Y = cellsOf A by rw [← hA]; simp [cellsOf]] at hown
        have hev : ∀ e ∈ A, EvIs w10 e.cs e.ev e.ga e.gn e.gc e.sa e.sn e.sc := fun e he => EvAt.ofBelow (HAE.out e he).1 HBW10.out
        have hlen : A.length = N := hal.trans hN
        have hown2 := hown
        rcases hown2.2 with ⟨e, h0⟩ | ⟨g, cap, cur, e1, hg, _⟩
        · subst h0
          exact ⟨none, 0, e, ⟨hlen, Nat.le_refl _, by omega, fun h => by omega, hev⟩, fun b o x e => by cases e⟩
        · subst e1
          exact ⟨_, cap, rfl, evsAt_own hown hlen hev, fun b o x e => by cases e; exact hg⟩
      obtain ⟨ia, ic, rfl, hin, hig⟩ := hin
      have HIN := hide hin
      have HIG := hide hig
      have HS10 := hide (HS8.out.below HB10.out)
      have HAL : Hid (A.length = N) := hide (hal.trans hN)
      have HAA := hide hA
      have hw78 := HB8.out.size
      have hw810 := HB10.out.size
      have hwse : w.heap.size ≤ se := Nat.le_trans HBW7.out.size hse
      have hwme : w.heap.size ≤ me := Nat.le_trans HBW7.out.size hme
      clear hin hig hb9 hb10 hgr10 hgr10' hgr9 hown9 hown10 hal hN hA HEX HEY HSX HSY HSYf HONEX HONEY HA0
      go_wp2_with fail
      go_loopw [15] (fun i wr => ∃ (k : Nat), k ≤ N ∧ i = .int .i64 k ∧ Hid (SAt wr se me (addEvs (evsOf (A.take k))) (zOf (evsOf (A.take k)))) ∧ Hid (Fits (addEvs (evsOf (A.take k))) (k * 112)) ∧ Hid (But2 w10 wr se me)) (fun i _ => N - (intOf i).toNat)
      case atStart => exact ⟨0, Nat.zero_le _, rfl, HS10, fits_nil, But2.refl _ _ _⟩
      case round =>
        obtain ⟨k, hk, rfl, HSE, HFE, HBE⟩ := hrel
        have HBWR : Hid (Below w.heap.size w wr) := hide (Below.but2 HBW10.out HBE.out hwse hwme HBW10.out.size)
        by_cases hlt : k < N
        · obtain ⟨b, o, ⟨cs, ev, ga, gn, gc, sa, sn, sq⟩, ha, he, hev, hcells⟩ := HIN.out.at hlt
          simp only at hev hcells
          have hbg := HIG.out b o none ha
          subst ha
          have hmem := List.mem_of_getElem? he
          have hfew := (HAE.out _ hmem).2
          have hev0 := (HAE.out _ hmem).1
          simp only at hfew hev0
          obtain ⟨hg30, hs80⟩ := hfew
          have hgl := hev.at_.gs.len
          have hssl := hev.at_.ss.len
          have HV : Hid (ev.err = 0) := hide (HAO.out _ hmem)
          have HEV : Hid (EvIs wr cs ev ga gn gc sa sn sq) := hide (EvAt.ofBelow hev0 HBWR.out)
          have HC : Hid (∀ (j : Nat) v, cs[j]? = some v → wr.cell? ⟨b, o + k * 20 + j, none⟩ = some v) := hide fun j v hv =>
            (World.cell?_of_block (w := w10) (HBE.out.block b (block_lt_of_cell (hcells j v hv)) (by omega) (by omega))).trans (hcells j v hv)
          have HI : Hid ((Tryz.prog.info? 27).map (·.size) = some cs.size) := hide (by rw [hev.len]; rfl)
          have HTK : Hid (evsOf (A.take (k + 1)) = evsOf (A.take k) ++ [ev]) := hide (by rw [List.take_add_one, he]; simp [evsOf])
          have HZR : Hid (∀ x ∈ zOf (evsOf (A.take k)), 0 ≤ x ∧ x ≤ 999999) := hide fun x hx => by
            have h1 := zOf_range _ x hx
            have h2 : (evsOf (A.take k)).length ≤ k := by simp [evsOf]; omega
            omega
          have hadd := sadd_any se me _ _ (k * 112) cs ev ga gn gc sa sn sq wr HEV.out HSE.out HFE.out (by omega) HZR.out (HML.out.below HBWR.out)
          have HADD : Hid (Calls Tryz.prog 26 #[.pointer (some ⟨se, 0, none⟩), .agg cs] wr fun e w' => e = .returned (.int .i64 0) ∧ Hid (But2 wr w' se me) ∧ Hid (SAt w' se me (addEvs (evsOf (A.take (k + 1)))) (zOf (evsOf (A.take (k + 1)))))) := hide (hadd.mono (by
            rintro e w' ⟨rfl, h1, h2⟩
            rw [if_pos HV.out, if_pos HV.out] at h2
            refine ⟨by rw [HV.out]; rfl, h1, ?_⟩
            unfold Hid
            rw [HTK.out, addEvs_snoc, zOf_snoc]
            exact h2))
          have HFE2 : Hid (Fits (addEvs (evsOf (A.take (k + 1)))) ((k + 1) * 112)) := hide (by
            rw [HTK.out, addEvs_snoc]
            exact (HFE.out.addEv ev HV.out).mono (by omega))
          clear hadd he hev hcells hmem hev0
          go_wp2_with (first | (refine wpList_load_cells rfl 27 _ rfl b (o + k * 20) rfl _ cs HC.out Tryz.underlying27 rfl HI.out ?_))
          refine HADD.out.mono ?_
          rintro e w11 ⟨rfl, HB11, HS11⟩
          go_wp2_with fail
          go_roundw
          case rel => exact ⟨k + 1, by omega, by go_num, HS11, HFE2, HBE.out.trans HB11.out⟩
          case measure => simp [intOf]; omega
        · obtain rfl : k = N := by omega
          have htk : A.take k = A := List.take_of_length_le (by rw [HAL.out]; exact Nat.le_refl _)
          rw [htk] at HSE HFE
          have HB7R : Hid (Below w7.heap.size w7 wr) := hide (Below.but2 (HB8.out.trans (HB10.out.mono hw78)) HBE.out hse hme (Nat.le_trans hw78 hw810))
          have HEA : Hid (EvsAt wr ia k ic A) := hide ⟨HIN.out.len, HIN.out.room, HIN.out.capm, fun hn => by
              obtain ⟨b, o, ha, hc⟩ := HIN.out.cells hn
              have hbg := HIG.out b o none ha
              exact ⟨b, o, ha, fun i e he j v hv => (World.cell?_of_block (w := w10) (HBE.out.block b (block_lt_of_cell (hc i e he j v hv)) (by omega) (by omega))).trans (hc i e he j v hv)⟩,
            fun e he => EvAt.ofBelow (HAE.out e he).1 HBWR.out⟩
          obtain ⟨V1, hV1⟩ : ∃ V1, evsOf X = V1 := ⟨_, rfl⟩
          obtain ⟨V2, hV2⟩ : ∃ V2, evsOf Y = V2 := ⟨_, rfl⟩
          have hVA : evsOf A = V1 ++ V2 := by rw [← HAA.out, ← hV1, ← hV2]; simp [evsOf]
          have o1 := HC37.out.oke
          have o2 := HC27.out.oke
          have sa := HC37.out.s.below HB7R.out
          have sb := HC27.out.s.below HB7R.out
          have k1 := HC37.out.txt
          have k2 := HC27.out.txt
          have n1 := HC37.out.flen
          have n2' := HC27.out.flen
          have f1 := HC37.out.fits
          have f2 := HC27.out.fits
          have zq1 := HC37.out.zq
          have zq2 := HC27.out.zq
          have hsc := HSC.out.below HB7R.out
          have hsd := HSD.out.below HB7R.out
          have hse' := HSE.out
          have hfe := HFE.out
          have hss := HSS.out
          have htt := HTT.out
          rw [hV1] at o1 sa k1 n1 f1 zq1 hsd hss
          rw [hV2] at o2 sb k2 n2' f2 zq2 hsc htt
          rw [hVA] at hse' hfe
          have oA : ∀ e ∈ V1 ++ V2, e.err = 0 ∧ e.au.length = 16 := fun e h => (List.mem_append.1 h).elim (o1 e) (o2 e)
          have oB : ∀ e ∈ V2 ++ V1, e.err = 0 ∧ e.au.length = 16 := fun e h => (List.mem_append.1 h).elim (o2 e) (o1 e)
          have pc := (merge_law o2 o1 hss f2.pos f1.pos).trans (addEvs_perm oB List.perm_append_comm)
          have pd := merge_law o1 o2 htt f1.pos f2.pos
          have hzc : zSum z2 z1 18 = zOf (V1 ++ V2) := by rw [zq1, zq2, ← zOf_append]; exact zOf_perm List.perm_append_comm
          have hzd : zSum z1 z2 18 = zOf (V1 ++ V2) := by rw [zq1, zq2, ← zOf_append]
          rw [hzc] at hsc
          rw [hzd] at hsd
          have hzr : ∀ x ∈ zOf (V1 ++ V2), 0 ≤ x ∧ x ≤ 100 := fun x hx => by
            have h1 := zOf_range _ x hx
            have h2 : (V1 ++ V2).length = k := by rw [← hVA]; simp [evsOf, HAL.out]
            omega
          have tA : TxtOk (addEvs (V1 ++ V2)) (zOf (V1 ++ V2)) := txtOk_evs oA hfe (by omega) (fun x hx => by have := hzr x hx; omega)
          have lA : ∀ V : List Ev, (∀ e ∈ V, e.err = 0 ∧ e.au.length = 16) → textS (addEvs V) (zOf V) = textL 0 V := fun V hV => by
            have := text_law 0 V hV
            rwa [forget_none (fun e h => (hV e h).1)] at this
          obtain ⟨x1, hx1⟩ : ∃ x1, textL 0 (V1 ++ V2) = x1 := ⟨_, rfl⟩
          obtain ⟨x2, hx2⟩ : ∃ x2, textL 0 V1 = x2 := ⟨_, rfl⟩
          obtain ⟨x3, hx3⟩ : ∃ x3, textL 0 V2 = x3 := ⟨_, rfl⟩
          obtain ⟨Fc, hFc⟩ : ∃ Fc, ss.foldl mergeK (addEvs V2) = Fc := ⟨_, rfl⟩
          obtain ⟨Fd, hFd⟩ : ∃ Fd, tt.foldl mergeK (addEvs V1) = Fd := ⟨_, rfl⟩
          obtain ⟨FE, hFE⟩ : ∃ FE, addEvs (V1 ++ V2) = FE := ⟨_, rfl⟩
          obtain ⟨zE, hzE⟩ : ∃ zE, zOf (V1 ++ V2) = zE := ⟨_, rfl⟩
          have ndE : (FE.map (·.1)).Nodup := by rw [← hFE]; exact addEvs_nodup _
          have lE := lA _ oA
          have l1 := lA _ o1
          have l2 := lA _ o2
          rw [← zq1, hx2] at l1
          rw [← zq2, hx3] at l2
          rw [hFE, hzE, hx1] at lE
          rw [hFc] at hsc pc
          rw [hFd] at hsd pd
          rw [hFE] at pc pd hse' tA hfe
          rw [hzE] at hsc hsd hse' hzr tA
          have lc : textS Fc zE = x1 := by rw [textS_perm zE (((pc.map (·.1)).nodup_iff).2 ndE) pc, lE]
          have nE : FE.length ≤ 1000000 := by
            have hq := addEvs_length 110 (evsOf A) [] (fun e he => by
              obtain ⟨y, hy, rfl⟩ := List.mem_map.1 he
              have hq := HAE.out y hy
              have g1 := hq.1.at_.gs.len
              have g2 := hq.1.at_.ss.len
              have := hq.2
              omega)
            rw [hVA] at hq
            have h2 : (V1 ++ V2).length = k := by rw [← hVA]; simp [evsOf, HAL.out]
            rw [h2] at hq
            rw [← hFE]
            unfold addEvs
            simp only [List.length_nil] at hq
            omega
          have hzr2 : ∀ x ∈ zE, 0 ≤ x ∧ x ≤ 4611686018427387904 := fun x hx => by have := hzr x hx; omega
          have HTW : ∀ w', Below wr.heap.size wr w' → Tab10 w' := fun w' hb => HTAB.out _ (HBWR.out.trans (hb.mono HBWR.out.size))
          have HQ1 : Hid (∀ w', Below wr.heap.size wr w' → Calls Tryz.prog 22 #[.pointer (some ⟨sc, 0, none⟩), .pointer (some ⟨se, 0, none⟩)] w' fun e w'' => e = .returned (.bool true) ∧ Below wr.heap.size wr w'') := hide fun w' hb =>
            (sequal_any sc mc se me Fc FE zE w' (hsc.below hb) (hse'.below hb) pc hzr2).mono (by rintro e w'' ⟨rfl, hq⟩; exact ⟨rfl, hb.trans (hq.mono hb.size)⟩)
          have HQ2 : Hid (∀ w', Below wr.heap.size wr w' → Calls Tryz.prog 22 #[.pointer (some ⟨sd, 0, none⟩), .pointer (some ⟨se, 0, none⟩)] w' fun e w'' => e = .returned (.bool true) ∧ Below wr.heap.size wr w'') := hide fun w' hb =>
            (sequal_any sd md se me Fd FE zE w' (hsd.below hb) (hse'.below hb) pd hzr2).mono (by rintro e w'' ⟨rfl, hq⟩; exact ⟨rfl, hb.trans (hq.mono hb.size)⟩)
          have HT1 : Hid (∀ w', Below wr.heap.size wr w' → Calls Tryz.prog 20 #[.pointer (some ⟨sc, 0, none⟩)] w' fun e w'' => e = .returned (.string x1) ∧ Below wr.heap.size wr w'') := hide fun w' hb => by
            have := stext_any sc mc Fc zE w' (hsc.below hb) (by rw [pc.length_eq]; exact nE) (HTW _ hb) (tA.perm pc)
            rw [lc] at this
            exact this.mono (by rintro e w'' ⟨rfl, hq⟩; exact ⟨rfl, hb.trans (hq.mono hb.size)⟩)
          have HT2 : Hid (∀ w', Below wr.heap.size wr w' → Calls Tryz.prog 20 #[.pointer (some ⟨s1, 0, none⟩)] w' fun e w'' => e = .returned (.string x2) ∧ Below wr.heap.size wr w'') := hide fun w' hb => by
            have := stext_any s1 m1 (addEvs V1) z1 w' (sa.below hb) n1 (HTW _ hb) k1
            rw [l1] at this
            exact this.mono (by rintro e w'' ⟨rfl, hq⟩; exact ⟨rfl, hb.trans (hq.mono hb.size)⟩)
          have HT3 : Hid (∀ w', Below wr.heap.size wr w' → Calls Tryz.prog 20 #[.pointer (some ⟨s2, 0, none⟩)] w' fun e w'' => e = .returned (.string x3) ∧ Below wr.heap.size wr w'') := hide fun w' hb => by
            have := stext_any s2 m2 (addEvs V2) z2 w' (sb.below hb) n2' (HTW _ hb) k2
            rw [l2] at this
            exact this.mono (by rintro e w'' ⟨rfl, hq⟩; exact ⟨rfl, hb.trans (hq.mono hb.size)⟩)
          have HN1 : Hid (∀ w', Below wr.heap.size wr w' → Calls Tryz.prog 21 #[.slice ia k ic, .int .i64 0] w' fun e w'' => e = .returned (.string x1) ∧ Below wr.heap.size wr w'') := hide fun w' hb => by
            have := text_any 0 ia k ic A w' (HEA.out.below hb) HAO.out (by omega)
            rw [hVA, hx1] at this
            exact this.mono (by rintro e w'' ⟨rfl, hq⟩; exact ⟨rfl, hb.trans (hq.mono hb.size)⟩)
          have HN2 : Hid (∀ w', Below wr.heap.size wr w' → Calls Tryz.prog 21 #[.slice oa on oc, .int .i64 0] w' fun e w'' => e = .returned (.string x2) ∧ Below wr.heap.size wr w'') := hide fun w' hb => by
            have := text_any 0 oa on oc X w' ((HC37.out.evs.below HB7R.out).below hb) HC37.out.ok (by omega)
            rw [hV1, hx2] at this
            exact this.mono (by rintro e w'' ⟨rfl, hq⟩; exact ⟨rfl, hb.trans (hq.mono hb.size)⟩)
          have HN3 : Hid (∀ w', Below wr.heap.size wr w' → Calls Tryz.prog 21 #[.slice ob pn pq, .int .i64 0] w' fun e w'' => e = .returned (.string x3) ∧ Below wr.heap.size wr w'') := hide fun w' hb => by
            have := text_any 0 ob pn pq Y w' ((HC27.out.evs.below HB7R.out).below hb) HC27.out.ok (by omega)
            rw [hV2, hx3] at this
            exact this.mono (by rintro e w'' ⟨rfl, hq⟩; exact ⟨rfl, hb.trans (hq.mono hb.size)⟩)
          clear o1 o2 sa sb k1 k2 n1 n2' f1 f2 zq1 zq2 hsc hsd hse' hfe hss htt oA oB pd hzc hzd hzr tA lA ndE lE l1 l2 lc nE hzr2 HTW hx1 hx2 hx3 hFc hFd hFE hzE hV1 hV2 hVA htk
          go_wp2_with fail
          refine (HQ1.out wr (Below.refl _ _)).mono ?_
          rintro e u1 ⟨rfl, hu1⟩
          have HU1 := hide hu1
          clear hu1
          go_wp2_with fail
          refine (HQ2.out u1 HU1.out).mono ?_
          rintro e u2 ⟨rfl, hu2⟩
          have HU2 := hide hu2
          clear hu2
          go_wp2_with fail
          refine (HT1.out u2 HU2.out).mono ?_
          rintro e u3 ⟨rfl, hu3⟩
          have HU3 := hide hu3
          clear hu3
          go_wp2_with fail
          refine (HN1.out u3 HU3.out).mono ?_
          rintro e u4 ⟨rfl, hu4⟩
          have HU4 := hide hu4
          clear hu4
          go_wp2_with fail
          refine (HT2.out u4 HU4.out).mono ?_
          rintro e u5 ⟨rfl, hu5⟩
          have HU5 := hide hu5
          clear hu5
          go_wp2_with fail
          refine (HN2.out u5 HU5.out).mono ?_
          rintro e u6 ⟨rfl, hu6⟩
          have HU6 := hide hu6
          clear hu6
          go_wp2_with fail
          refine (HT3.out u6 HU6.out).mono ?_
          rintro e u7 ⟨rfl, hu7⟩
          have HU7 := hide hu7
          clear hu7
          go_wp2_with fail
          refine (HN3.out u7 HU7.out).mono ?_
          rintro e u8 ⟨rfl, hu8⟩
          have HU8 := hide hu8
          clear hu8
          go_wp2_with fail
          go_ret
          exact ⟨rfl, HBWR.out.trans (HU8.out.mono HBWR.out.size)⟩
end Go.Proofs.YticcfbeocepnpaaGreatDoor
set_option maxRecDepth 100000
namespace Go.Proofs.YticcfbeocepnpaaGreatDoor
open Go.ChangeShapes Go.WideShapes Go.ChangeAt Go.RowKit

set_option maxHeartbeats 400000 in
theorem statsMerge_contract {H : Type} {enc : TypeId × Value → H} (W : World) (base : Nat) (args : Array Value) (ds gs : List (DataW H)) (before : List MemPlace)
    (hval : ∀ (j : Nat) t v, Tryz.f6.params[j]? = some t → args[j]? = some v → Value.okWide Tryz.prog W .any base t v)
    (hW : DataW.Whole enc Tryz.prog Tryz.f6.params.toList Rows.statsMergeSpec.vars false W args.toList ds gs before) (hx : laidMetH Tryz.prog Rows.statsMergeRow.laid W.memory) (hsh : W.ShapedOpen Tryz.prog) :
    Calls Tryz.prog 6 args W fun e W' => ∃ v, e = .returned v ∧ Rows.statsMergeSpec.post enc Tryz.prog Tryz.f6 false true false false W args v W' := by
  have hW' := hW
  obtain ⟨p, q, hA, hV, rfl, hfz, hnd⟩ := hW
  rw [show Tryz.f6.params.toList = [22, 22] from rfl] at hA
  rw [show Tryz.f6.params = #[22, 22] from rfl] at hval
  obtain ⟨v0, r0, d0, e0, p0, q0, hargs, rfl, rfl, h0, hA1⟩ := trodAll_cons hA
  obtain ⟨v1, r1, d1, e1, p1, q1, rfl, rfl, rfl, h1, hA2⟩ := trodAll_cons hA1
  obtain ⟨rfl, rfl, rfl⟩ := trodAll_nil hA2
  obtain rfl : args = #[v0, v1] := by cases args; simp_all
  obtain ⟨xa, xn, xc, rfl⟩ := okWide_slice Tryz.underlying22 (hval 0 _ _ rfl rfl)
  obtain ⟨ya, yn, yc, rfl⟩ := okWide_slice Tryz.underlying22 (hval 1 _ _ rfl rfl)
  obtain ⟨fuel, hf⟩ := h0
  obtain ⟨fuel1, hf1⟩ := h1
  obtain ⟨sa, sn, sc, l, hv, hevs⟩ := evs_open (show DataW.trod enc Tryz.prog W 0 (fun _ => true) true fuel 22 [.slice xa xn xc] = _ from hf)
  obtain ⟨rfl, rfl, rfl⟩ : xa = sa ∧ xn = sn ∧ xc = sc := by cases hv; exact ⟨rfl, rfl, rfl⟩
  obtain ⟨ta, tn, tc, l2, hv2, hevs2⟩ := evs_open (show DataW.trod enc Tryz.prog W 0 (fun _ => true) true fuel1 22 [.slice ya yn yc] = _ from hf1)
  obtain ⟨rfl, rfl, rfl⟩ : ya = ta ∧ yn = tn ∧ yc = tc := by cases hv2; exact ⟨rfl, rfl, rfl⟩
  exact (statsMerge_any xa xn xc l ya yn yc l2 W hevs hevs2 (mlen_of_shape hsh) (tab_of_laid hx)).mono fun e W' ⟨he, hb⟩ =>
    ⟨_, he, post_true row_laidOut (by kernel_rfl) rfl hW' hb rfl Tryz.underlying4 rfl⟩

set_option maxHeartbeats 400000 in
theorem statsMerge_lifted (os : Os) (started : os.Started) (H : Type) (enc : TypeId × Value → H) :
    ReturnsInHanded {} Tryz.checked os 6 .any (fun w args => (Rows.statsMergeSpec.pre enc Tryz.prog Tryz.f6 [] false w args ∧ laidMetH Tryz.prog Rows.statsMergeRow.laid w) ∧ sizedMet enc Tryz.prog Tryz.f6 (OpenSpec.ofChange Rows.statsMergeSpec) false w args)
      (Rows.statsMergeSpec.post enc Tryz.prog Tryz.f6 false true false false) :=
  returns_and_shaped2 (C := Tryz.checked) (X := fun w => laidMetH Tryz.prog Rows.statsMergeRow.laid w) row_own started (by kernel_rfl) Tryz.func6
    (ChangeSpec.witness_shaped (enc := enc) (C := Tryz.checked) (os := os) (X := fun w _ => laidMetH Tryz.prog Rows.statsMergeRow.laid w) false (laidWorld os) #[.slice none 0 0, .slice none 0 0] 8 rfl (world_shaped os _) (by kernel_rfl) (by kernel_rfl) (by kernel_rfl) (world_met os _))
    fun W base args ds gs before hval hW hx hsh => statsMerge_contract W base args ds gs before hval hW hx hsh

theorem statsMerge_holds : Rows.StatsMergeSaid :=
  OpenClaim.holds_of_wide 6 Tryz.f6 rfl rfl rfl rfl rfl rfl rfl ⟨rfl, rfl, rfl, rfl, rfl⟩ rfl rfl rfl rfl rfl (by kernel_rfl) Tryz.func6 (by kernel_rfl)
    (of_decide_eq_true (by kernel_rfl)) (by unfold Func.isWrapper; first | (rw [if_pos (by decide +kernel)]; kernel_rfl) | (rw [if_neg (by decide +kernel)]; exact ⟨rfl, rfl⟩))
    (fun os started H enc _ => statsMerge_lifted os started H enc)
end Go.Proofs.YticcfbeocepnpaaGreatDoor
set_option maxRecDepth 100000
namespace Go.Proofs.YticcfbeocepnpaaGreatDoor
open Go

theorem statsMerge_card : Rows.StatsMergeCardSaid :=
  Claim7.holds_tied_plain_at .later [] [.data, .data, .data, .data, .pinned] true (true, "2b61511dbc1443444d27901aed96fe35361df261b0181c07380dd05f3a061435") true
    statsMerge_holds (fun _ h => by cases h) (by kernel_rfl) (fun _ h => by cases h) statsMerge_row_tie rfl ⟨rfl, rfl⟩ (by kernel_rfl) rfl
    (fun f fn hf hfn => by
      obtain rfl : f = 6 := Option.some.inj ((show Tryz.prog.funcNamed Rows.statsMergeRow.func = some 6 by kernel_rfl).symm.trans hf) |>.symm
      obtain rfl : fn = Tryz.f6 := (Option.some.inj (Tryz.func6.symm.trans hfn)).symm
      exact ⟨by kernel_rfl, fun j t ht => by
        have hm : t ∈ Tryz.f6.params := Array.mem_of_getElem? ht
        have hall : (Tryz.f6.params.all fun u => !Tryz.prog.wantsStandIn u) = true := by kernel_rfl
        have := (Array.all_eq_true_iff_forall_mem.1 hall) t hm
        exact (show Tryz.prog.wantsStandIn t = false by simpa using this)⟩)
    (by kernel_rfl)
#print axioms statsMerge_card
end Go.Proofs.YticcfbeocepnpaaGreatDoor
