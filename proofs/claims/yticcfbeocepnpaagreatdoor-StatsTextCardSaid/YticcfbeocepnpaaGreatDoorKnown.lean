/-
  The example of the document: the walk.
-/
import Derived.Test.YticcfbeocepnpaaGreatDoorProg
import Derived.Test.YticcfbeocepnpaaGreatDoorEx
import Derived.Deep.RegionHeld3
set_option linter.unusedSimpArgs false
set_option maxRecDepth 100000
namespace Go.Proofs.YticcfbeocepnpaaGreatDoor
open Go.RowKit Pl

structure OkK (kind : Int) (name : ByteArray) : Prop where
  ne : kind ≠ 0
  eq : sumM (ofB kind name 0 0) (addEv [] ev0) = (1, 300)

set_option maxHeartbeats 4000000 in
theorem known_any (w : World) (hml : MLen w) : Calls Tryz.prog 8 #[] w fun e w' => e = .returned (.bool true) ∧ Below w.heap.size w w' := by
  have HML := hide hml
  clear hml
  go_enter Tryz.func8, Tryz.ntmps8
  go_wp2_with fail
  refine (snew_any w).mono ?_
  rintro e w1 ⟨sb, mb, rfl, hs1, hb1, hsb, hmb, hne⟩
  have HS1 := hide hs1
  have HB1 := hide hb1
  have hsl := hs1.lt
  have hml := hs1.map.lt
  clear hs1 hb1
  obtain ⟨W3, hW3⟩ : ∃ W3, W3 = ((w1.alloc (.cells #[.int .u8 0, .int .u8 0, .int .u8 0, .int .u8 0, .int .u8 0, .int .u8 0, .int .u8 0, .int .u8 0, .int .u8 0, .int .u8 0, .int .u8 0, .int .u8 0, .int .u8 0, .int .u8 0, .int .u8 0, .int .u8 1] 24)).alloc (.cells #[.string sa_, .string sb_] 9)).alloc (.cells #[.string sx_, .string sy_] 9) := ⟨_, rfl⟩
  have HW3 : Hid (Below w1.heap.size w1 W3) := hide (by rw [hW3]; (repeat (first | exact Below.refl _ _ | with_reducible assumption | (refine Below.setCell ?_ (by simp <;> omega) _) | (refine Below.alloc ?_ (by simp <;> omega) _))))
  have hg : W3.heap[w1.heap.size + 1]? = some (.cells #[.string sa_, .string sb_] 9 (0, 0)) := by
    rw [hW3, Below.heap_alloc _ _ _ (by simp), heap_alloc2_new]
  have hx : W3.heap[w1.heap.size + 1 + 1]? = some (.cells #[.string sx_, .string sy_] 9 (0, 0)) := by
    rw [hW3, show w1.heap.size + 1 + 1 = ((w1.alloc (.cells #[.int .u8 0, .int .u8 0, .int .u8 0, .int .u8 0, .int .u8 0, .int .u8 0, .int .u8 0, .int .u8 0, .int .u8 0, .int .u8 0, .int .u8 0, .int .u8 0, .int .u8 0, .int .u8 0, .int .u8 0, .int .u8 1] 24)).alloc (.cells #[.string sa_, .string sb_] 9)).heap.size by simp, heap_alloc_new]
  have ha : W3.heap[w1.heap.size]? = some (.cells #[.int .u8 0, .int .u8 0, .int .u8 0, .int .u8 0, .int .u8 0, .int .u8 0, .int .u8 0, .int .u8 0, .int .u8 0, .int .u8 0, .int .u8 0, .int .u8 0, .int .u8 0, .int .u8 0, .int .u8 0, .int .u8 1] 24 (0, 0)) := by
    rw [hW3, Below.heap_alloc _ _ _ (by simp; omega), heap_alloc2_old]
  have HEV : Hid (EvIs W3 (cs0 (w1.heap.size + 1) (w1.heap.size + 1 + 1)) ev0 (some ⟨w1.heap.size + 1, 0, none⟩) 2 2 (some ⟨w1.heap.size + 1 + 1, 0, none⟩) 2 2) := hide
    ⟨⟨rfl, rfl, rfl, rfl, strs_two W3 _ _ _ hg (by decide) (by decide), strs_two W3 _ _ _ hx (by decide) (by decide)⟩, au0 _ _, rfl, rfl⟩
  have HA3 := hide ha
  have HWW := hide hW3
  have HBW3 : Hid (Below w.heap.size w W3) := hide (HB1.out.trans (HW3.out.mono HB1.out.size))
  have hz3 : W3.heap.size = w1.heap.size + 1 + 1 + 1 := by rw [hW3]; simp
  clear hW3 hg hx ha
  go_wp2_with fail
  have hsd := sadd_any sb mb [] (List.replicate 18 0) 0 (cs0 (w1.heap.size + 1) (w1.heap.size + 1 + 1)) ev0 _ _ _ _ _ _ W3 HEV.out (HS1.out.below HW3.out) fits_nil (by omega) (by intro x hx; simp at hx; omega) (HML.out.below HBW3.out)
  rw [HWW.out] at hsd
  refine Calls.mono hsd ?_
  clear hsd
  rintro e w4 ⟨rfl, hbut, hs4⟩
  rw [ev0_err] at hs4
  simp only [if_true] at hs4
  rw [ev0_err]
  rw [← HWW.out] at hbut
  have ha4 := (hbut.block w1.heap.size (by omega) (by omega) (by omega)).trans HA3.out
  have HB4 := hide (Below.but2 HBW3.out hbut hsb hmb HBW3.out.size)
  have HS4 := hide hs4
  have hz4 := hbut.size
  have HA4 := hide ha4
  clear hbut hs4 ha4
  obtain ⟨W5, hW5⟩ : ∃ W5, W5 = w4.alloc (.cells #[.int .i64 1, .int .i64 300] 34) := ⟨_, rfl⟩
  have hb5 : Below w4.heap.size w4 W5 := by rw [hW5]; (repeat (first | exact Below.refl _ _ | with_reducible assumption | (refine Below.setCell ?_ (by simp <;> omega) _) | (refine Below.alloc ?_ (by simp <;> omega) _)))
  have HS5 := hide (HS4.out.below hb5)
  have HB5 := hide (HB4.out.trans (hb5.mono HB4.out.size))
  have HA5 : Hid (W5.heap[w1.heap.size]? = _) := hide ((hb5.block w1.heap.size (by omega)).trans HA4.out)
  have hc5 : W5.heap[w4.heap.size]? = some (.cells #[.int .i64 1, .int .i64 300] 34 (0, 0)) := by rw [hW5, heap_alloc_new]
  have HFF := fits_nil.addEv ev0 ev0_err
  have HT : Hid (∀ w', Below W5.heap.size W5 w' → Calls Tryz.prog 11 #[.pointer (some ⟨sb, 0, none⟩)] w' fun e w'' => e = .returned (.agg #[.int .i64 1, .int .i64 300]) ∧ Below W5.heap.size W5 w'') := hide fun w' hb => by
    have := total_any sb mb _ _ w' (HS5.out.below hb) (HFF.small (by decide))
    rw [f0_total] at this; exact this.mono (by rintro e w'' ⟨rfl, hq⟩; exact ⟨rfl, hb.trans (hq.mono hb.size)⟩)
  have HO : Hid (∀ kind name w', OkK kind name → Below W5.heap.size W5 w' → Calls Tryz.prog 28 #[.pointer (some ⟨sb, 0, none⟩), .int .i64 kind, .string name, .int .i64 0, .int .i64 0] w' fun e w'' => e = .returned (.agg #[.int .i64 1, .int .i64 300]) ∧ Below W5.heap.size W5 w'') := hide fun kind name w' hk hb => by
    have := sof_any sb mb _ _ kind 0 0 name w' (HS5.out.below hb) (HFF.small (by decide))
    rw [if_neg hk.ne, hk.eq] at this; exact this.mono (by rintro e w'' ⟨rfl, hq⟩; exact ⟨rfl, hb.trans (hq.mono hb.size)⟩)
  have HK1 : Hid (OkK 1 ⟨#[98]⟩) := hide ⟨by decide, f0_b⟩
  have HK2 : Hid (OkK 2 ⟨#[120]⟩) := hide ⟨by decide, f0_x⟩
  have HK3 : Hid (OkK 3 ⟨(hexL ev0.au).toArray⟩) := hide ⟨by decide, f0_a⟩
  have HSZ : Hid (∀ w', Below W5.heap.size W5 w' → Calls Tryz.prog 16 #[.pointer (some ⟨sb, 0, none⟩)] w' fun e w'' => e = .returned (.agg #[.int .i64 0, .int .i64 0, .int .i64 0, .int .i64 0, .int .i64 0, .int .i64 0, .int .i64 0, .int .i64 0, .int .i64 0, .int .i64 1, .int .i64 0, .int .i64 0, .int .i64 0, .int .i64 0, .int .i64 0, .int .i64 0, .int .i64 0, .int .i64 0]) ∧ Below W5.heap.size W5 w'') := hide fun w' hb => by
    have := ssizes_any sb mb _ _ w' (HS5.out.below hb)
    rw [show ev0.by_ = 300 from rfl, z0_9] at this; exact this.mono (by rintro e w'' ⟨rfl, hq⟩; exact ⟨rfl, hb.trans (hq.mono hb.size)⟩)
  have HAT : Hid (∀ w', Below W5.heap.size W5 w' → Calls Tryz.prog 29 #[.agg #[.int .u8 0, .int .u8 0, .int .u8 0, .int .u8 0, .int .u8 0, .int .u8 0, .int .u8 0, .int .u8 0, .int .u8 0, .int .u8 0, .int .u8 0, .int .u8 0, .int .u8 0, .int .u8 0, .int .u8 0, .int .u8 1]] w' fun e w'' => e = .returned (.string ⟨(hexL ev0.au).toArray⟩) ∧ Below W5.heap.size W5 w'') := hide fun w' hb =>
    (author17_any _ ev0.au w' rfl (by
      intro j x hx
      match j, hx with
      | 0, h | 1, h | 2, h | 3, h | 4, h | 5, h | 6, h | 7, h | 8, h | 9, h | 10, h | 11, h | 12, h | 13, h | 14, h | 15, h => cases h; rfl)).mono (by rintro e w'' ⟨rfl, hq⟩; exact ⟨rfl, hb.trans (hq.mono hb.size)⟩)
  have HK : Hid (∀ w', Below W5.heap.size W5 w' → w'.cell? ⟨w4.heap.size, 0, none⟩ = some (.int .i64 1) ∧ w'.cell? ⟨w4.heap.size, 1, none⟩ = some (.int .i64 300) ∧ w'.rangeAt w1.heap.size 0 [.int .u8 0, .int .u8 0, .int .u8 0, .int .u8 0, .int .u8 0, .int .u8 0, .int .u8 0, .int .u8 0, .int .u8 0, .int .u8 0, .int .u8 0, .int .u8 0, .int .u8 0, .int .u8 0, .int .u8 0, .int .u8 1] ∧ Below W5.heap.size W5 w') := hide fun w' hb =>
    ⟨two0 ((hb.block _ (Array.getElem?_eq_some_iff.1 hc5).1).trans hc5), two1 ((hb.block _ (Array.getElem?_eq_some_iff.1 hc5).1).trans hc5), fun j v hv => by
      rw [Nat.zero_add, cell_of_row w' w1.heap.size j _ _ _ ((hb.block _ (Array.getElem?_eq_some_iff.1 HA5.out).1).trans HA5.out)]
      simpa using hv, hb⟩
  have HC5 := hide hc5
  have HW5 := hide hW5
  clear hW5 hb5 hc5 HFF
  go_wp2_with fail
  rw [← HW5.out]
  have hu : Tryz.prog.underlying 24 = some (.array 16 5) := Tryz.underlying24
  have hi : (Tryz.prog.info? 24).map (·.size) = some ([.int .u8 0, .int .u8 0, .int .u8 0, .int .u8 0, .int .u8 0, .int .u8 0, .int .u8 0, .int .u8 0, .int .u8 0, .int .u8 0, .int .u8 0, .int .u8 0, .int .u8 0, .int .u8 0, .int .u8 0, .int .u8 1] : List Value).length := rfl
  have hix : ∀ w : World, (Instr.index 41 (.agg #[.int .i64 0, .int .i64 0, .int .i64 0, .int .i64 0, .int .i64 0, .int .i64 0, .int .i64 0, .int .i64 0, .int .i64 0, .int .i64 1, .int .i64 0, .int .i64 0, .int .i64 0, .int .i64 0, .int .i64 0, .int .i64 0, .int .i64 0, .int .i64 0]) (.int .i64 9)).run Tryz.prog w = .ok (.int .i64 1) w := fun _ => by kernel_rfl
  go_region_held3 (fun w' => w'.cell? ⟨w4.heap.size, 0, none⟩ = some (.int .i64 1) ∧ w'.cell? ⟨w4.heap.size, 1, none⟩ = some (.int .i64 300) ∧ w'.rangeAt w1.heap.size 0 [.int .u8 0, .int .u8 0, .int .u8 0, .int .u8 0, .int .u8 0, .int .u8 0, .int .u8 0, .int .u8 0, .int .u8 0, .int .u8 0, .int .u8 0, .int .u8 0, .int .u8 0, .int .u8 0, .int .u8 0, .int .u8 1] ∧ Below W5.heap.size W5 w')
    (first | exact HK.out _ (by assumption) | exact HK.out _ (Below.refl _ _).drew | exact HK.out _ (Below.refl _ _))
    ((first
      | (go_at_call 11; refine (HT.out _ ?_).mono ?_; (· (first | assumption | exact (Below.refl _ _).drew | (go_split_ands; assumption))); rintro e w6 ⟨rfl, hb6⟩)
      | (go_at_call 28; refine (HO.out _ _ _ ?_ ?_).mono ?_; (· (first | exact HK1.out | exact HK2.out | exact HK3.out)); (· (first | assumption | exact (Below.refl _ _).drew | (go_split_ands; assumption))); rintro e w6 ⟨rfl, hb6⟩)
      | (go_at_call 29; refine (HAT.out _ ?_).mono ?_; (· (first | assumption | exact (Below.refl _ _).drew | (go_split_ands; assumption))); rintro e w6 ⟨rfl, hb6⟩)
      | (go_at_call 16; refine (HSZ.out _ ?_).mono ?_; (· (first | assumption | exact (Below.refl _ _).drew | (go_split_ands; assumption))); rintro e w6 ⟨rfl, hb6⟩)))
  all_goals
    go_split_ands
    have HBZ := hide (HB5.out.trans (Below.mono (by assumption) HB5.out.size))
    clear hix
    go_wp2_with fail
    go_ret
    exact ⟨rfl, HBZ.out⟩
end Go.Proofs.YticcfbeocepnpaaGreatDoor
