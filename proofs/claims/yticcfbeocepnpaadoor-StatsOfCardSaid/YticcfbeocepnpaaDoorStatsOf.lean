/-
  StatsOf: the walk.
-/
import Derived.Test.YticcfbeocepnpaaDoorProg
import Derived.Test.YticcfbeocepnpaaDoorKnown
import Derived.Deep.RegionHeld3
set_option linter.unusedSimpArgs false
set_option maxRecDepth 100000
namespace Go.Proofs.YticcfbeocepnpaaDoor
open Go.RowKit Pl

theorem want_out {kind : Int} {name : ByteArray} {fro til : Int} {l : List Ev} (h : name = ⟨#[]⟩ ∨ kind < 1 ∨ 3 < kind) : wantC kind name fro til l = (0, 0) := by unfold wantC; rw [if_pos h]
theorem want_in {kind : Int} {name : ByteArray} {fro til : Int} {l : List Ev} (h : ¬ (name = ⟨#[]⟩ ∨ kind < 1 ∨ 3 < kind)) : wantC kind name fro til l = ofL kind name fro til l := by unfold wantC; rw [if_neg h]

set_option maxHeartbeats 4000000 in
theorem statsOf_any (a : Option Addr) (n c : Nat) (l : List EvC) (kind fro til : Int) (name : ByteArray) (w : World) (h : EvsAt w a n c l) (hml : MLen w) :
    Calls Tryd.prog 3 #[.slice a n c, .int .i64 kind, .string name, .int .i64 fro, .int .i64 til] w fun e w' => e = .returned (.bool true) ∧ Below w.heap.size w w' := by
  have HE := hide h
  have HML := hide hml
  clear h hml
  have HKN := hide (known_any w HML.out)
  go_enter Tryd.func3, Tryd.ntmps3
  go_wp2_with fail
  refine HKN.out.mono ?_
  rintro e w1 ⟨rfl, hb1⟩
  have HB1 := hide hb1
  clear hb1
  have HFW := hide (few_any a n c l w1 (HE.out.below HB1.out))
  have HKN1 := hide (known_any w1 (HML.out.below HB1.out))
  go_wp2_with fail
  refine HFW.out.mono ?_
  rintro e w1' ⟨b, rfl, hfew, rfl⟩
  have HFEW := hide hfew
  clear hfew
  have HFE2 : b = true → fewOk l := fun h => HFEW.out (by first | exact h | trivial)
  clear HFEW
  have HFEW : Hid (b = true → fewOk l) := hide HFE2
  clear HFE2
  cases b
  · go_wp2_with fail
    refine HKN1.out.mono ?_
    rintro e w2 ⟨rfl, hb2⟩
    have HB2 := hide (HB1.out.trans (hb2.mono HB1.out.size))
    clear hb2
    go_wp2_with fail
    go_ret
    exact ⟨rfl, HB2.out⟩
  · by_cases h200 : 200 < name.size
    · go_wp2_with fail
      refine HKN1.out.mono ?_
      rintro e w2 ⟨rfl, hb2⟩
      have HB2 := hide (HB1.out.trans (hb2.mono HB1.out.size))
      clear hb2
      go_wp2_with fail
      go_ret
      exact ⟨rfl, HB2.out⟩
    · have HBD := hide (build_any a n c l w1 (HE.out.below HB1.out) (HFEW.out (by first | rfl | trivial)) (HML.out.below HB1.out))
      go_wp2_with fail
      refine HBD.out.mono ?_
      rintro e w2 ⟨sb, mb, z, oa, on, oc, rfl, hs2, hf2, he2, hb2, _⟩
      have hlaw := law kind fro til name (evsOf (okC l)) (by
        intro e he
        obtain ⟨x, hx, rfl⟩ := List.mem_map.1 he
        obtain ⟨h1, h2⟩ := List.mem_filter.1 hx
        exact ⟨by simpa using h2, (HE.out.evs x h1).aul⟩)
      have hon : on ≤ 1000 := by
        have h1 := he2.len
        have h2 := List.length_filter_le (fun e : EvC => decide (e.ev.err = 0)) l
        have h3 := (HFEW.out (by first | rfl | trivial)).1
        unfold okC at h1
        omega
      have HOF := hide (of52_any kind name fro til oa on oc (okC l) w2 he2 (by
        intro e he
        simpa using (List.mem_filter.1 he).2) hon)
      have HB2 := hide (HB1.out.trans (hb2.mono HB1.out.size))
      have HS2 := hide hs2
      have HF2 := hide hf2
      have HLAW := hide hlaw
      clear hs2 hf2 he2 hb2 hlaw
      obtain ⟨v1, v2, hv⟩ : ∃ v1 v2, ofL kind name fro til (evsOf (okC l)) = (v1, v2) := ⟨_, _, rfl⟩
      rw [show (okC l).map (·.ev) = evsOf (okC l) from rfl, hv, cntV_mk] at HOF
      have HV := hide hv
      clear hv
      go_wp2_with fail
      refine HOF.out.mono ?_
      rintro e w3 ⟨rfl, hb3⟩
      have HB3 := hide (HB2.out.trans (hb3.mono HB2.out.size))
      have HS3 := hide (HS2.out.below hb3)
      clear hb3
      have HSOFW : Hid (∀ w', Below w3.heap.size w3 w' → Calls Tryd.prog 8 #[.pointer (some ⟨sb, 0, none⟩), .int .i64 kind, .string name, .int .i64 fro, .int .i64 til] w' fun e w'' => e = .returned (cntV (wantC kind name fro til (evsOf (okC l)))) ∧ Below w'.heap.size w' w'') := hide fun w' hb => by
        have := sof_any sb mb _ z kind fro til name w' (HS3.out.below hb) (HF2.out.small (by decide))
        rw [HLAW.out] at this
        exact this
      obtain ⟨W4, hW4⟩ : ∃ W4, W4 = w3.alloc (.cells #[.int .i64 v1, .int .i64 v2] 29) := ⟨_, rfl⟩
      obtain ⟨W5, hW5⟩ : ∃ W5, W5 = w3.alloc (.cells #[.int .i64 0, .int .i64 0] 29) := ⟨_, rfl⟩
      have HB4 : Hid (Below w3.heap.size w3 W4) := hide (by rw [hW4]; (repeat (first | exact Below.refl _ _ | with_reducible assumption | (refine Below.setCell ?_ (by simp <;> omega) _) | (refine Below.alloc ?_ (by simp <;> omega) _))))
      have HB5 : Hid (Below w3.heap.size w3 W5) := hide (by rw [hW5]; (repeat (first | exact Below.refl _ _ | with_reducible assumption | (refine Below.setCell ?_ (by simp <;> omega) _) | (refine Below.alloc ?_ (by simp <;> omega) _))))
      have HC4 : Hid (W4.heap[w3.heap.size]? = some (.cells #[.int .i64 v1, .int .i64 v2] 29 (0, 0))) := hide (by rw [hW4, heap_alloc_new])
      have HC5 : Hid (W5.heap[w3.heap.size]? = some (.cells #[.int .i64 0, .int .i64 0] 29 (0, 0))) := hide (by rw [hW5, heap_alloc_new])
      have HW4 := hide hW4
      have HW5 := hide hW5
      clear hW4 hW5
      by_cases ho : name = ⟨#[]⟩ ∨ kind < 1 ∨ 3 < kind
      · rw [want_out ho, cntV_mk] at HSOFW
        have HOO := hide ho
        by_cases h0 : name.size = 0
        · have he := empty_of_size h0
          have hne : name.toList.isEmpty = true := by rw [he, ByteArray.toList_eq]; rfl
          clear he h0 ho
          go_wp2_with fail
          rw [← HW5.out]
          have HK : Hid (∀ w', Below W5.heap.size W5 w' → w'.cell? ⟨w3.heap.size, 0, none⟩ = some (.int .i64 0) ∧ w'.cell? ⟨w3.heap.size, 1, none⟩ = some (.int .i64 0) ∧ Below w3.heap.size w3 w') := hide fun w' hb =>
            ⟨two0 ((hb.block _ (Array.getElem?_eq_some_iff.1 HC5.out).1).trans HC5.out), two1 ((hb.block _ (Array.getElem?_eq_some_iff.1 HC5.out).1).trans HC5.out), HB5.out.trans (hb.mono HB5.out.size)⟩
          have HSO : Hid (∀ w', Below W5.heap.size W5 w' → Calls Tryd.prog 8 #[.pointer (some ⟨sb, 0, none⟩), .int .i64 kind, .string name, .int .i64 fro, .int .i64 til] w' fun e w'' => e = .returned (.agg #[.int .i64 0, .int .i64 0]) ∧ Below W5.heap.size W5 w'') := hide fun w' hb =>
            (HSOFW.out w' (HB5.out.trans (hb.mono HB5.out.size))).mono (by rintro e w'' ⟨rfl, hq⟩; exact ⟨rfl, hb.trans (hq.mono hb.size)⟩)
          go_region_held3 (fun w' => w'.cell? ⟨w3.heap.size, 0, none⟩ = some (.int .i64 0) ∧ w'.cell? ⟨w3.heap.size, 1, none⟩ = some (.int .i64 0) ∧ Below w3.heap.size w3 w')
            (first | exact HK.out _ (by assumption) | exact HK.out _ (Below.refl _ _).drew | exact HK.out _ (Below.refl _ _))
            ((first
              | (go_at_call 8; refine (HSO.out _ ?_).mono ?_; (· (first | assumption | exact (Below.refl _ _).drew)); rintro e w6 ⟨rfl, hb6⟩)))
          all_goals
            go_split_ands
            have HBZ := hide (HB3.out.trans (Below.mono (B := w3.heap.size) (by assumption) HB3.out.size))
            go_wp2_with fail
            go_ret
            exact ⟨ret_bool (by simp), HBZ.out⟩
        · have hne := eql_empty h0
          have hk : kind < 1 ∨ 3 < kind := by
            rcases ho with h | h
            · exact absurd (by rw [h]; rfl) h0
            · exact h
          clear h0 ho
          rcases hk with hk | hk
          · go_wp2_with fail
            rw [← HW5.out]
            have HK : Hid (∀ w', Below W5.heap.size W5 w' → w'.cell? ⟨w3.heap.size, 0, none⟩ = some (.int .i64 0) ∧ w'.cell? ⟨w3.heap.size, 1, none⟩ = some (.int .i64 0) ∧ Below w3.heap.size w3 w') := hide fun w' hb =>
              ⟨two0 ((hb.block _ (Array.getElem?_eq_some_iff.1 HC5.out).1).trans HC5.out), two1 ((hb.block _ (Array.getElem?_eq_some_iff.1 HC5.out).1).trans HC5.out), HB5.out.trans (hb.mono HB5.out.size)⟩
            have HSO : Hid (∀ w', Below W5.heap.size W5 w' → Calls Tryd.prog 8 #[.pointer (some ⟨sb, 0, none⟩), .int .i64 kind, .string name, .int .i64 fro, .int .i64 til] w' fun e w'' => e = .returned (.agg #[.int .i64 0, .int .i64 0]) ∧ Below W5.heap.size W5 w'') := hide fun w' hb =>
              (HSOFW.out w' (HB5.out.trans (hb.mono HB5.out.size))).mono (by rintro e w'' ⟨rfl, hq⟩; exact ⟨rfl, hb.trans (hq.mono hb.size)⟩)
            go_region_held3 (fun w' => w'.cell? ⟨w3.heap.size, 0, none⟩ = some (.int .i64 0) ∧ w'.cell? ⟨w3.heap.size, 1, none⟩ = some (.int .i64 0) ∧ Below w3.heap.size w3 w')
              (first | exact HK.out _ (by assumption) | exact HK.out _ (Below.refl _ _).drew | exact HK.out _ (Below.refl _ _))
              ((first
                | (go_at_call 8; refine (HSO.out _ ?_).mono ?_; (· (first | assumption | exact (Below.refl _ _).drew)); rintro e w6 ⟨rfl, hb6⟩)))
            all_goals
              go_split_ands
              have HBZ := hide (HB3.out.trans (Below.mono (B := w3.heap.size) (by assumption) HB3.out.size))
              go_wp2_with fail
              go_ret
              exact ⟨ret_bool (by simp), HBZ.out⟩
          · go_wp2_with fail
            rw [← HW5.out]
            have HK : Hid (∀ w', Below W5.heap.size W5 w' → w'.cell? ⟨w3.heap.size, 0, none⟩ = some (.int .i64 0) ∧ w'.cell? ⟨w3.heap.size, 1, none⟩ = some (.int .i64 0) ∧ Below w3.heap.size w3 w') := hide fun w' hb =>
              ⟨two0 ((hb.block _ (Array.getElem?_eq_some_iff.1 HC5.out).1).trans HC5.out), two1 ((hb.block _ (Array.getElem?_eq_some_iff.1 HC5.out).1).trans HC5.out), HB5.out.trans (hb.mono HB5.out.size)⟩
            have HSO : Hid (∀ w', Below W5.heap.size W5 w' → Calls Tryd.prog 8 #[.pointer (some ⟨sb, 0, none⟩), .int .i64 kind, .string name, .int .i64 fro, .int .i64 til] w' fun e w'' => e = .returned (.agg #[.int .i64 0, .int .i64 0]) ∧ Below W5.heap.size W5 w'') := hide fun w' hb =>
              (HSOFW.out w' (HB5.out.trans (hb.mono HB5.out.size))).mono (by rintro e w'' ⟨rfl, hq⟩; exact ⟨rfl, hb.trans (hq.mono hb.size)⟩)
            go_region_held3 (fun w' => w'.cell? ⟨w3.heap.size, 0, none⟩ = some (.int .i64 0) ∧ w'.cell? ⟨w3.heap.size, 1, none⟩ = some (.int .i64 0) ∧ Below w3.heap.size w3 w')
              (first | exact HK.out _ (by assumption) | exact HK.out _ (Below.refl _ _).drew | exact HK.out _ (Below.refl _ _))
              ((first
                | (go_at_call 8; refine (HSO.out _ ?_).mono ?_; (· (first | assumption | exact (Below.refl _ _).drew)); rintro e w6 ⟨rfl, hb6⟩)))
            all_goals
              go_split_ands
              have HBZ := hide (HB3.out.trans (Below.mono (B := w3.heap.size) (by assumption) HB3.out.size))
              go_wp2_with fail
              go_ret
              exact ⟨ret_bool (by simp), HBZ.out⟩
      · rw [want_in ho, HV.out, cntV_mk] at HSOFW
        have hne := eql_empty (fun h => ho (Or.inl (empty_of_size h)))
        have hk1 : 1 ≤ kind := Int.not_lt.1 fun h => ho (Or.inr (Or.inl h))
        have hk3 : kind ≤ 3 := Int.not_lt.1 fun h => ho (Or.inr (Or.inr h))
        clear ho
        go_wp2_with fail
        rw [← HW4.out]
        have HK : Hid (∀ w', Below W4.heap.size W4 w' → w'.cell? ⟨w3.heap.size, 0, none⟩ = some (.int .i64 v1) ∧ w'.cell? ⟨w3.heap.size, 1, none⟩ = some (.int .i64 v2) ∧ Below w3.heap.size w3 w') := hide fun w' hb =>
          ⟨two0 ((hb.block _ (Array.getElem?_eq_some_iff.1 HC4.out).1).trans HC4.out), two1 ((hb.block _ (Array.getElem?_eq_some_iff.1 HC4.out).1).trans HC4.out), HB4.out.trans (hb.mono HB4.out.size)⟩
        have HSO : Hid (∀ w', Below W4.heap.size W4 w' → Calls Tryd.prog 8 #[.pointer (some ⟨sb, 0, none⟩), .int .i64 kind, .string name, .int .i64 fro, .int .i64 til] w' fun e w'' => e = .returned (.agg #[.int .i64 v1, .int .i64 v2]) ∧ Below W4.heap.size W4 w'') := hide fun w' hb =>
          (HSOFW.out w' (HB4.out.trans (hb.mono HB4.out.size))).mono (by rintro e w'' ⟨rfl, hq⟩; exact ⟨rfl, hb.trans (hq.mono hb.size)⟩)
        go_region_held3 (fun w' => w'.cell? ⟨w3.heap.size, 0, none⟩ = some (.int .i64 v1) ∧ w'.cell? ⟨w3.heap.size, 1, none⟩ = some (.int .i64 v2) ∧ Below w3.heap.size w3 w')
          (first | exact HK.out _ (by assumption) | exact HK.out _ (Below.refl _ _).drew | exact HK.out _ (Below.refl _ _))
          ((first
            | (go_at_call 8; refine (HSO.out _ ?_).mono ?_; (· (first | assumption | exact (Below.refl _ _).drew)); rintro e w6 ⟨rfl, hb6⟩)))
        all_goals
          go_split_ands
          have HBZ := hide (HB3.out.trans (Below.mono (B := w3.heap.size) (by assumption) HB3.out.size))
          go_wp2_with fail
          go_ret
          exact ⟨ret_bool (by simp), HBZ.out⟩
end Go.Proofs.YticcfbeocepnpaaDoor
