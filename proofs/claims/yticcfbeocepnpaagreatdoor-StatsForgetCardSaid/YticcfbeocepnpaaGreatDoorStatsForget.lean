/-
  StatsForget.
-/
import Derived.Test.YticcfbeocepnpaaGreatDoorCut
import Derived.Test.YticcfbeocepnpaaGreatDoorTextM
set_option linter.unusedSimpArgs false
set_option maxRecDepth 100000
namespace Go.Proofs.YticcfbeocepnpaaGreatDoor
open Go.RowKit Go.Shelf Pl

theorem Small.forget {f : List (Ky × Ct)} (h : Small f) (before : Int) : Small (forgetL before f) :=
  ⟨fun p hp => h.pos p (List.mem_filter.1 hp).1, Int.le_trans (sumA_sub List.filter_sublist (fun p hp => (h.pos p hp).1)) h.le1, Int.le_trans (sumA_sub List.filter_sublist (fun p hp => (h.pos p hp).2)) h.le2⟩
theorem forget_len (before : Int) (f : List (Ky × Ct)) : (forgetL before f).length ≤ f.length := List.length_filter_le _ _

set_option maxHeartbeats 8000000 in
theorem statsForget_any (a : Option Addr) (n c : Nat) (l : List EvC) (before : Int) (w : World) (h : EvsAt w a n c l) (hml : MLen w) (htab : Tab10 w) :
    Calls Tryz.prog 4 #[.slice a n c, .int .i64 before] w fun e w' => e = .returned (.bool true) ∧ Below w.heap.size w w' := by
  have HE := hide h
  have HML := hide hml
  have HTAB : Hid (∀ w', Below w.heap.size w w' → Tab10 w') := hide fun w' hb => htab.below hb
  clear h hml htab
  have HKN := hide (known_any w HML.out)
  go_enter Tryz.func4, Tryz.ntmps4
  go_wp2_with fail
  refine HKN.out.mono ?_
  rintro e w1 ⟨rfl, hb1⟩
  have HB1 := hide hb1
  clear hb1
  have HFW := hide (few_any a n c l w1 (HE.out.below HB1.out))
  have HKN1 := hide (known_any w1 (HML.out.below HB1.out))
  go_wp2_with fail
  refine HFW.out.mono ?_
  rintro e w1' ⟨b, rfl, hfew, rfl⟩
  have HFEW : Hid (b = true → fewOk l) := hide fun h => hfew (by first | exact h | trivial)
  clear hfew
  cases b
  · go_wp2_with fail
    refine HKN1.out.mono ?_
    rintro e w2 ⟨rfl, hb2⟩
    have HB2 := hide (HB1.out.trans (hb2.mono HB1.out.size))
    clear hb2
    go_wp2_with fail
    go_ret
    exact ⟨rfl, HB2.out⟩
  · have HFL : Hid (fewOk l) := hide (HFEW.out (by first | rfl | trivial))
    clear HFEW
    have HBD := hide (build2_any a n c l w1 (HE.out.below HB1.out) HFL.out.two (HML.out.below HB1.out))
    go_wp2_with fail
    refine HBD.out.mono ?_
    rintro e w2 ⟨sb, mb, z, oa, on, oc, rfl, q1, q2, q3, q4, q5, q6, q7, q8⟩
    have HC : Hid (Cut w w2 (okC l) sb mb z oa on oc) := hide (cut_of HFL.out.two q1 q2 q3 (HB1.out.trans (q4.mono HB1.out.size)) q5 q6 (Nat.le_trans HB1.out.size q7) (Nat.le_trans HB1.out.size q8))
    clear q1 q2 q3 q4 q5 q6 q7 q8
    obtain ⟨L, hL⟩ : ∃ L, okC l = L := ⟨_, rfl⟩
    rw [hL] at HC
    clear hL HBD HKN HKN1 HFW
    have hon : on ≤ 100 := by have h1 := HC.out.evs.len; have h2 := HC.out.len; omega
    have hon2 : on ≤ 1000 := by omega
    obtain ⟨V, hV⟩ : ∃ V, evsOf L = V := ⟨_, rfl⟩
    have HV := hide hV
    have hVl : V.length ≤ 1000 := by rw [← hV]; have := HC.out.len; simp [evsOf]; omega
    have HVO : Hid (∀ e ∈ V, e.err = 0 ∧ e.au.length = 16) := hide (by rw [← hV]; exact HC.out.oke)
    clear hV
    have HDY := hide (daysM_any oa on oc L w2 HC.out.evs HC.out.ok hon2)
    have e1 : L.map (fun e => e.ev.m / 1440) = V.map (·.day) := by rw [← HV.out]; simp [evsOf, Ev.day]
    rw [e1] at HDY
    clear e1
    go_wp2_with fail
    refine HDY.out.mono ?_
    rintro e w3 ⟨v, ds, hds, rfl, hod, hb3⟩
    obtain ⟨A1, c1, rfl, hat1⟩ := intsAt_own hod
    have HDS := hide hds
    have hdl : ds.length ≤ 1000 := by
      rw [hds]
      have := daysM_length (V.map (·.day))
      rw [List.length_map] at this
      omega
    have HDR : Hid (∀ d ∈ ds, 0 ≤ d ∧ d ≤ 73048) := hide (by
      intro d hd
      rw [hds] at hd
      obtain ⟨e, he, rfl⟩ := List.mem_map.1 (daysM_mem hd)
      exact ev_day (HVO.out e he).1)
    have HAT := hide hat1
    have HC3 := hide (HC.out.later hb3)
    clear hds hod hat1 hb3
    go_wp2_with fail
    go_loopw [8, 10] (fun so i wr => ∃ (k x : Nat), k ≤ ds.length ∧ i = .int .i64 k ∧ so = .int .i64 x ∧ Hid (x = ((ds.take k).flatMap (goneKeys before V)).length) ∧ x ≤ k * 200000 ∧ Hid (Below w3.heap.size w3 wr)) (fun _ i _ => ds.length - (intOf i).toNat)
    case atStart => exact ⟨0, 0, by omega, rfl, rfl, rfl, by omega, Below.refl _ _⟩
    case round =>
      obtain ⟨k, x, hk, rfl, rfl, HX, hxb, HB⟩ := hrel
      by_cases hlt : k < ds.length
      · obtain ⟨g1, rfl, hc1⟩ := HAT.out.cells (by omega)
        obtain ⟨d, hd⟩ : ∃ d, ds[k]? = some d := ⟨_, List.getElem?_eq_getElem hlt⟩
        have hdr := HDR.out d (List.mem_of_getElem? hd)
        obtain ⟨dn, rfl⟩ : ∃ dn : Nat, d = dn := ⟨d.toNat, by omega⟩
        have HCD : Hid (∀ w', Below w3.heap.size w3 w' → w'.cell? ⟨g1, k, none⟩ = some (.int .i64 (dn : Int))) := hide fun w' hb => (hb.cell (block_lt_of_cell (hc1 k _ hd))).trans (hc1 k _ hd)
        have HTD : Hid (((ds.take (k + 1)).flatMap (goneKeys before V)).length = x + (goneKeys before V dn).length) := hide (by
          rw [List.take_add_one, hd, HX.out]; simp)
        have hdn : dn ≤ 73048 := by omega
        clear hc1 hd hdr
        have hdk : (k : Int) < (ds.length : Int) := by omega
        go_wp2_with fail
        by_cases hbd : (dn : Int) < before
        · go_loopw [8, 11] (fun so i wi => ∃ (kd y : Nat), 1 ≤ kd ∧ kd ≤ 4 ∧ i = .int .i64 kd ∧ so = .int .i64 y ∧ Hid (y = x + (midKeys V dn kd).length) ∧ y ≤ k * 200000 + kd * 50000 ∧ Hid (Below w3.heap.size w3 wi)) (fun _ i _ => 4 - (intOf i).toNat)
          case atStart =>
            have hq : x ≤ k * 200000 + 1 * 50000 := Nat.le_trans hxb (Nat.le_add_right _ _)
            exact ⟨1, x, Nat.le_refl _, by decide, rfl, rfl, rfl, hq, HB⟩
          case round =>
            obtain ⟨kd, y, hkd1, hkd4, rfl, rfl, HY, hyb, HB3⟩ := hrel
            have cd := HCD.out _ HB3.out
            by_cases hlk : kd ≤ 3
            · have HALL : Hid (∀ w', Below wr.heap.size wr w' → Calls Tryz.prog 18 #[.slice oa on oc, .int .i64 (kd : Int), .int .i64 (dn : Int), .int .i64 (dn : Int)] w' fun e w'' => ∃ (A : Option Addr) (no co : Nat) (Ln : List ByteArray), Ln = allL kd dn dn V ∧ e = .returned (.slice A no co) ∧ Ln.length = no ∧ no ≤ 50000 ∧ Below wr.heap.size wr w'') := hide fun w' hb => by
                have := all_any kd dn dn oa on oc L w' (((HC3.out.evs).below HB3.out).below hb) HC3.out.ok hon2
                rw [show L.map (·.ev) = V from HV.out] at this
                exact this.mono (by
                  rintro e w'' ⟨A, no, co, Ln, h1, rfl, h3, h4, h5⟩
                  have hnl := (strR_own h4).len
                  have hno : no ≤ 50000 := by
                    rw [← hnl, h1]
                    have := allL_length (kind := kd) (fro := dn) (til := dn) V [] (fun e he => (HVO.out e he).1)
                    simp only [List.length_nil] at this
                    unfold allL; omega
                  exact ⟨A, no, co, Ln, h1, rfl, hnl, hno, hb.trans (h5.mono hb.size)⟩)
              have HK3 : Hid (∀ w', Below wr.heap.size wr w' → w'.cell? ⟨g1, k, none⟩ = some (.int .i64 (dn : Int)) ∧ Below wr.heap.size wr w') := hide fun w' hb => ⟨HCD.out _ (HB3.out.trans (hb.mono HB3.out.size)), hb⟩
              have hyz : y ≤ 400000000 := by omega
              have HW : Hid (∀ no : Nat, no ≤ 50000 → IntKind.i64.wrap ((y : Int) + (no : Int)) = (y : Int) + (no : Int)) := hide (fun no h => IntWalk.i64_in _ (by omega))
              clear hyz
              go_upto_region 12 with fail
              go_region_held3 (fun w' => w'.cell? ⟨g1, k, none⟩ = some (.int .i64 (dn : Int)) ∧ Below wr.heap.size wr w')
                (first | exact HK3.out _ (by assumption) | exact HK3.out _ (Below.refl _ _).drew | exact HK3.out _ (Below.refl _ _))
                ((first
                  | (go_at_call 18; refine (HALL.out _ ?_).mono ?_; (· (first | assumption | exact (Below.refl _ _).drew | (go_split_ands; assumption))); rintro e w7 ⟨AN, no, co, Ln, hLn, rfl, hnl, hno, hb7⟩; have hw := HW.out no hno)))
              have hb8 : Below wr.heap.size wr w7 := by assumption
              have HB8 : Hid (Below w3.heap.size w3 w7) := hide (HB3.out.trans (hb8.mono HB3.out.size))
              have HY2 : Hid (y + no = x + (midKeys V dn (kd + 1)).length) := hide (by
                rw [midKeys_succ V dn hkd1, List.length_append, kindKeys, List.length_map, ← hLn, hnl, HY.out]; omega)
              have hyb2 : y + no ≤ k * 200000 + (kd + 1) * 50000 := by
                rw [Nat.succ_mul, ← Nat.add_assoc]; exact Nat.add_le_add hyb hno
              clear hb7 hb8 hLn hnl
              go_wp2_with fail
              go_roundw
              case rel => exact ⟨kd + 1, y + no, by omega, by omega, by go_num, by go_num, HY2, hyb2, HB8⟩
              case measure => simp [intOf]; omega
            · obtain rfl : kd = 4 := by omega
              have HTD2 : Hid (y = ((ds.take (k + 1)).flatMap (goneKeys before V)).length) := hide (by
                rw [HTD.out, HY.out, goneKeys, if_pos hbd])
              go_wp2_with fail
              go_roundw
              case rel => exact ⟨k + 1, y, by omega, by go_num, rfl, HTD2, by rw [Nat.succ_mul]; exact hyb, HB3⟩
              case measure => simp [intOf]; omega
        · have HTD2 : Hid (x = ((ds.take (k + 1)).flatMap (goneKeys before V)).length) := hide (by
            rw [HTD.out, goneKeys, if_neg hbd]; simp)
          have cd := HCD.out _ HB.out
          have hbf : decide ((dn : Int) < before) = false := by simpa using hbd
          go_loopw [8, 11] (fun so i wi => so = .int .i64 x ∧ i = .int .i64 1 ∧ wr = wi) (fun _ _ _ => 0)
          case atStart => exact ⟨rfl, rfl, rfl⟩
          case round =>
            obtain ⟨rfl, rfl, rfl⟩ := hrel
            go_wp2_with fail
            go_roundw
            case rel => exact ⟨k + 1, x, by omega, by go_num, rfl, HTD2, by rw [Nat.succ_mul]; exact Nat.le_trans hxb (Nat.le_add_right _ _), HB⟩
            case measure => simp [intOf]; omega
      · obtain rfl : k = ds.length := by omega
        have HX2 : Hid (((addEvs V).map (·.1)).countP (goneK before) = x) := hide (by
          rw [law_gone, goneN, ← HDS.out]
          have := HX.out
          rw [List.take_length] at this
          exact this.symm)
        have hcut := HC3.out.later HB.out
        have hsm := hcut.fits.small (by decide)
        have hfl := hcut.flen
        have hs := hcut.s
        have htk := hcut.txt
        rw [show evsOf L = V from HV.out] at hsm hfl hs htk
        have hzq : z = zOf V := by rw [hcut.zq, show evsOf L = V from HV.out]
        obtain ⟨v1, v2, hv⟩ : ∃ v1 v2, ofL 0 ⟨#[]⟩ 0 80000 V = (v1, v2) := ⟨_, _, rfl⟩
        have htot : sumM isTotal (forgetL before (addEvs V)) = (v1, v2) := by rw [law_total2 before V (fun e he => (HVO.out e he).1), hv]
        obtain ⟨tx, htx⟩ : ∃ tx, textL before V = tx := ⟨_, rfl⟩
        have htl : textS (forgetL before (addEvs V)) z = tx := by rw [hzq, text_law before V HVO.out, htx]
        have HF1 : Hid (Calls Tryz.prog 19 #[.pointer (some ⟨sb, 0, none⟩), .int .i64 before] wr fun e w' => e = .returned (.int .i64 (x : Int)) ∧ SAt w' sb mb (forgetL before (addEvs V)) z ∧ wr.grownBy w' (some mb)) := hide (by
          have := forget_any before sb mb _ z wr hs hfl
          rw [HX2.out] at this
          exact this)
        have HTT : Hid (∀ w', SAt w' sb mb (forgetL before (addEvs V)) z → Below w.heap.size w w' → Calls Tryz.prog 20 #[.pointer (some ⟨sb, 0, none⟩)] w' fun e w'' => e = .returned (.string tx) ∧ Below w'.heap.size w' w'') := hide fun w' h1 h2 => by
          have := stext_any sb mb _ z w' h1 (Nat.le_trans (forget_len before _) hfl) (HTAB.out _ h2) (htk.forget before)
          rw [htl] at this
          exact this
        have HTM : Hid (∀ w', EvsAt w' oa on oc L → Calls Tryz.prog 21 #[.slice oa on oc, .int .i64 before] w' fun e w'' => e = .returned (.string tx) ∧ Below w'.heap.size w' w'') := hide fun w' h1 => by
          have := text_any before oa on oc L w' h1 HC3.out.ok hon2
          rw [show evsOf L = V from HV.out, htx] at this
          exact this
        have HTO : Hid (∀ w', SAt w' sb mb (forgetL before (addEvs V)) z → Calls Tryz.prog 11 #[.pointer (some ⟨sb, 0, none⟩)] w' fun en w'' => en = .returned (.agg #[.int .i64 v1, .int .i64 v2]) ∧ Below w'.heap.size w' w'') := hide fun w' h1 => by
          have := total_any sb mb _ z w' h1 (hsm.forget before)
          rw [htot, cntV_mk] at this
          exact this
        have HOF : Hid (∀ w', EvsAt w' oa on oc L → Calls Tryz.prog 12 #[.slice oa on oc, .int .i64 0, .string ⟨#[]⟩, .int .i64 0, .int .i64 80000] w' fun en w'' => en = .returned (.agg #[.int .i64 v1, .int .i64 v2]) ∧ Below w'.heap.size w' w'') := hide fun w' h1 => by
          have := of52_any 0 ⟨#[]⟩ 0 80000 oa on oc L w' h1 HC3.out.ok hon2
          rw [show L.map (·.ev) = V from HV.out, hv, cntV_mk] at this
          exact this
        have HF2 : Hid (∀ w', SAt w' sb mb (forgetL before (addEvs V)) z → Calls Tryz.prog 19 #[.pointer (some ⟨sb, 0, none⟩), .int .i64 before] w' fun e w'' => e = .returned (.int .i64 0) ∧ w'.grownBy w'' (some mb)) := hide fun w' h1 => by
          have := forget_any before sb mb _ z w' h1 (Nat.le_trans (forget_len before _) hfl)
          rw [law_again] at this
          exact this.mono (by rintro e w'' ⟨rfl, _, h3⟩; exact ⟨rfl, h3⟩)
        have HCUT := hide hcut
        have HHS := hide hs
        clear hcut hsm hfl hs htk hzq htot htl htx hv
        go_wp2_with fail
        refine HF1.out.mono ?_
        rintro e w4 ⟨rfl, hs4, hg4⟩
        have HS4 := hide hs4
        have HB4 : Hid (Below w.heap.size w w4) := hide (HCUT.out.below.grown hg4 HCUT.out.below.size (fun q e => by cases e; exact HCUT.out.hmb))
        have HE4 : Hid (EvsAt w4 oa on oc L) := hide (HCUT.out.evs.ck (CK.grown HHS.out.map hg4))
        clear hs4 hg4
        go_wp2_with fail
        refine (HTT.out w4 HS4.out HB4.out).mono ?_
        rintro e w5 ⟨rfl, hb5⟩
        have HB5 : Hid (Below w4.heap.size w4 w5) := hide hb5
        clear hb5
        go_wp2_with fail
        refine (HTM.out w5 (HE4.out.below HB5.out)).mono ?_
        rintro e w6 ⟨rfl, hb6⟩
        have HB6 : Hid (Below w4.heap.size w4 w6) := hide (HB5.out.trans (hb6.mono HB5.out.size))
        clear hb6
        go_wp2_with fail
        refine (HTO.out w6 (HS4.out.below HB6.out)).mono ?_
        rintro e w7 ⟨rfl, hb7⟩
        have HB7 : Hid (Below w4.heap.size w4 w7) := hide (HB6.out.trans (hb7.mono HB6.out.size))
        clear hb7
        go_wp2_with fail
        refine (HOF.out w7 (HE4.out.below HB7.out)).mono ?_
        rintro e w8 ⟨rfl, hb8⟩
        have HB8 : Hid (Below w4.heap.size w4 w8) := hide (HB7.out.trans (hb8.mono HB7.out.size))
        clear hb8
        go_wp2_with fail
        refine (HF2.out w8 (HS4.out.below HB8.out)).mono ?_
        rintro e w9 ⟨rfl, hg9⟩
        have HB9 : Hid (Below w.heap.size w w9) := hide (by
          have h1 := HB4.out.trans (HB8.out.mono HB4.out.size)
          exact h1.grown hg9 h1.size (fun q e => by cases e; exact HCUT.out.hmb))
        clear hg9
        go_wp2_with fail
        go_ret
        exact ⟨rfl, HB9.out⟩
end Go.Proofs.YticcfbeocepnpaaGreatDoor
