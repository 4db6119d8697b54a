/-
  The model's `has`.
-/
import Derived.Test.YticcfbeocepnpaaGreatDoorProg
import Derived.Test.YticcfbeocepnpaaGreatDoorModel
set_option linter.unusedSimpArgs false
set_option maxRecDepth 100000
namespace Go.Proofs.YticcfbeocepnpaaGreatDoor
open Go.RowKit Pl

/-- The names of a kind. -/
def namesOf (ev : Ev) (kind : Int) : List ByteArray := if kind = 3 then [ev.auth] else if kind = 2 then ev.ss else ev.gs
def hasB (ev : Ev) (kind : Int) (name : ByteArray) : Bool := (namesOf ev kind).any (fun x => decide (x = name)) && (decide (1 ≤ kind) && decide (kind ≤ 3))
theorem hasB_no {ev : Ev} {kind : Int} {name : ByteArray} (h : name ∉ namesOf ev kind) : hasB ev kind name = false := by
  have : (namesOf ev kind).any (fun x => decide (x = name)) = false := by
    rw [List.any_eq_false]; intro x hx; simp; rintro rfl; exact h hx
  simp [hasB, this]
theorem hasB_yes {ev : Ev} {kind : Int} {name : ByteArray} (h : name ∈ namesOf ev kind) (h1 : 1 ≤ kind) (h3 : kind ≤ 3) : hasB ev kind name = true := by
  have : (namesOf ev kind).any (fun x => decide (x = name)) = true := List.any_eq_true.2 ⟨name, h, by simp⟩
  simp [hasB, this, h1, h3]
theorem hasB_out {ev : Ev} {kind : Int} {name : ByteArray} (h : kind < 1 ∨ 3 < kind) : hasB ev kind name = false := by
  have : (decide (1 ≤ kind) && decide (kind ≤ 3)) = false := by simp; omega
  simp [hasB, this]
theorem strs_one (w : World) (s : ByteArray) (h : s.size ≤ maxLen) : StrsAt (w.alloc (.cells #[.string s] 9)) (some ⟨w.heap.size, 0, none⟩) 1 1 [s] :=
  ⟨rfl, by omega, by omega, fun _ => ⟨w.heap.size, 0, rfl, fun k x hx => by
    match k, hx with
    | 0, hx => cases hx; rw [World.cell?_alloc_new]; rfl⟩, fun x hx => by simp at hx; rw [hx]; exact h⟩

set_option maxHeartbeats 2000000 in
theorem has_any (cs : Array Value) (ev : Ev) (ga : Option Addr) (gn gc : Nat) (sa : Option Addr) (sn sc : Nat) (kind : Int) (name : ByteArray) (w : World) (h : EvIs w cs ev ga gn gc sa sn sc) :
    Calls Tryz.prog 35 #[.agg cs, .int .i64 kind, .string name] w fun e w' => e = .returned (.bool (hasB ev kind name)) ∧ Below w.heap.size w w' := by
  have HE := hide h
  have HW1 : Hid (Below w.heap.size w (w.alloc (.cells cs 27))) := hide ((Below.refl _ _).alloc (Nat.le_refl _) _)
  have HB1 : Hid ((w.alloc (.cells cs 27)).heap[w.heap.size]? = some (.cells cs 27 (0, 0))) := hide (heap_alloc_new w _)
  have h17 := h.at_.c17
  have h18 := h.at_.c18
  clear h
  have HXS : Hid (∀ (j : Nat) (v : Value), (ev.au.map (fun b => Value.int .u8 (b.toNat : Int)))[j]? = some v → cs[1 + j]? = some v) := hide (by
    intro j v hv
    rw [List.getElem?_map] at hv
    cases hj : ev.au[j]? with
    | none => rw [hj] at hv; cases hv
    | some b => rw [hj] at hv; cases hv; exact HE.out.au j b hj)
  have HIA : Hid ((Tryz.prog.info? 24).map (·.size) = some (ev.au.map (fun b => Value.int .u8 (b.toNat : Int))).length) := hide (by rw [List.length_map, HE.out.aul]; rfl)
  have HAT := hide (author17_any (ev.au.map (fun b => Value.int .u8 (b.toNat : Int))).toArray ev.au (w.alloc (.cells cs 27)) HE.out.aul (by
              intro j b hj
              rw [Nat.zero_add, List.getElem?_toArray, List.getElem?_map, hj]; rfl))
  have hau : ev.auth.size ≤ maxLen := by show (hexL ev.au).toArray.size ≤ _; rw [List.size_toArray, hexL_length, HE.out.aul]; decide
  by_cases h3 : kind = 3
  · subst h3
    go_enter Tryz.func35, Tryz.ntmps35
    go_wp2_with (first | (refine wpList_load_off rfl 24 _ rfl w.heap.size 1 rfl _ _ _ _ _ HB1.out HXS.out Tryz.underlying24 rfl HIA.out ?_))
    refine HAT.out.mono ?_
    rintro e w7 ⟨rfl, hb7⟩
    have HB7 := hide (HW1.out.trans (hb7.mono HW1.out.size))
    clear hb7
    go_wp2_with fail
    obtain ⟨w9, hw9⟩ : ∃ w9, w9 = w7.alloc (.cells #[.string ⟨(hexL ev.au).toArray⟩] 9) := ⟨_, rfl⟩
    rw [← hw9]
    have HST : Hid (StrsAt w9 (some ⟨w7.heap.size, 0, none⟩) 1 1 [ev.auth]) := hide (by rw [hw9]; exact strs_one w7 ev.auth hau)
    have HB9 : Hid (Below w.heap.size w w9) := hide (by rw [hw9]; exact HB7.out.alloc HB7.out.size _)
    clear hw9
    have hnr := HST.out.room
    have hnm := HST.out.capm
    have hnl := HST.out.len
    go_loopw [8] (fun i wr => ∃ k : Nat, k ≤ 1 ∧ i = .int .i64 k ∧ w9 = wr ∧ ∀ (j : Nat) y, j < k → [ev.auth][j]? = some y → y ≠ name) (fun i _ => 1 - (intOf i).toNat)
    case atStart => exact ⟨0, by omega, rfl, rfl, fun j y hj => by omega⟩
    case round =>
      obtain ⟨k, hk, rfl, rfl, hno⟩ := hrel
      have HNO := hide hno
      clear hno
      by_cases hlt : k < 1
      · obtain ⟨b, o, x, ha, hx, hxs, hcell, _⟩ := HST.out.at hlt
        cases ha
        try simp only [Nat.zero_add] at hcell
        have HX := hide hx
        clear hx hxs
        by_cases hxy : x = name
        · have he : (x.toList == name.toList) = true := by rw [toList_beq]; simp [hxy]
          have HXY := hide hxy
          clear hxy
          have HM : Hid (name ∈ [ev.auth]) := hide (by rw [← HXY.out]; exact List.mem_of_getElem? HX.out)
          go_wp2_with fail
          go_ret
          exact ⟨ret_bool (by rw [hasB_yes (by rw [namesOf, if_pos rfl]; exact HM.out) (by omega) (by omega)]; all_goals first | rfl | (simp; omega)), HB9.out⟩
        · have he : (x.toList == name.toList) = false := by rw [toList_beq]; simp [hxy]
          have HXY := hide hxy
          clear hxy
          go_wp2_with fail
          go_roundw
          case rel =>
            refine ⟨k + 1, by omega, by go_num, (by first | rfl | trivial), fun j y hj hy => ?_⟩
            rcases Nat.lt_succ_iff_lt_or_eq.1 hj with hj | rfl
            · exact HNO.out j y hj hy
            · rw [HX.out] at hy; cases hy; exact HXY.out
          case measure => simp [intOf]; omega
      · obtain rfl : k = 1 := by omega
        have HM : Hid (name ∉ [ev.auth]) := hide (by
          intro hm
          obtain ⟨j, hj, he⟩ := List.mem_iff_getElem.1 hm
          exact HNO.out j _ (by omega) (List.getElem?_eq_getElem hj) he)
        go_wp2_with fail
        go_ret
        exact ⟨ret_bool (by rw [hasB_no]; rw [namesOf, if_pos rfl]; exact HM.out), HB9.out⟩
  · have h3b : (kind == 3) = false := by simp [h3]
    have H3 := hide h3
    clear h3
    by_cases h2 : kind = 2
    · subst h2
      go_enter Tryz.func35, Tryz.ntmps35
      go_wp2_with fail
      obtain ⟨w9, hw9⟩ : ∃ w9, w9 = w.alloc (.cells cs 27) := ⟨_, rfl⟩
      rw [← hw9]
      have HST : Hid (StrsAt w9 sa sn sc ev.ss) := hide (by rw [hw9]; exact HE.out.at_.ss.below HW1.out)
      have HB9 : Hid (Below w.heap.size w w9) := hide (by rw [hw9]; exact HW1.out)
      clear hw9
      have hnr := HST.out.room
      have hnm := HST.out.capm
      have hnl := HST.out.len
      go_loopw [8] (fun i wr => ∃ k : Nat, k ≤ sn ∧ i = .int .i64 k ∧ w9 = wr ∧ ∀ (j : Nat) y, j < k → ev.ss[j]? = some y → y ≠ name) (fun i _ => sn - (intOf i).toNat)
      case atStart => exact ⟨0, by omega, rfl, rfl, fun j y hj => by omega⟩
      case round =>
        obtain ⟨k, hk, rfl, rfl, hno⟩ := hrel
        have HNO := hide hno
        clear hno
        by_cases hlt : k < sn
        · obtain ⟨b, o, x, ha, hx, hxs, hcell, _⟩ := HST.out.at hlt
          subst ha
          try simp only [Nat.zero_add] at hcell
          have HX := hide hx
          clear hx hxs
          by_cases hxy : x = name
          · have he : (x.toList == name.toList) = true := by rw [toList_beq]; simp [hxy]
            have HXY := hide hxy
            clear hxy
            have HM : Hid (name ∈ ev.ss) := hide (by rw [← HXY.out]; exact List.mem_of_getElem? HX.out)
            go_wp2_with fail
            go_ret
            exact ⟨ret_bool (by rw [hasB_yes (by rw [namesOf, if_neg (by decide), if_pos rfl]; exact HM.out) (by omega) (by omega)]; all_goals first | rfl | (simp; omega)), HB9.out⟩
          · have he : (x.toList == name.toList) = false := by rw [toList_beq]; simp [hxy]
            have HXY := hide hxy
            clear hxy
            go_wp2_with fail
            go_roundw
            case rel =>
              refine ⟨k + 1, by omega, by go_num, (by first | rfl | trivial), fun j y hj hy => ?_⟩
              rcases Nat.lt_succ_iff_lt_or_eq.1 hj with hj | rfl
              · exact HNO.out j y hj hy
              · rw [HX.out] at hy; cases hy; exact HXY.out
            case measure => simp [intOf]; omega
        · obtain rfl : k = sn := by omega
          have HM : Hid (name ∉ ev.ss) := hide (by
            intro hm
            obtain ⟨j, hj, he⟩ := List.mem_iff_getElem.1 hm
            exact HNO.out j _ (by omega) (List.getElem?_eq_getElem hj) he)
          go_wp2_with fail
          go_ret
          exact ⟨ret_bool (by rw [hasB_no]; rw [namesOf, if_neg (by decide), if_pos rfl]; exact HM.out), HB9.out⟩
    · have h2b : (kind == 2) = false := by simp [h2]
      have HNM : Hid (namesOf ev kind = ev.gs) := hide (by rw [namesOf, if_neg H3.out, if_neg h2])
      clear h2
      go_enter Tryz.func35, Tryz.ntmps35
      go_wp2_with fail
      obtain ⟨w9, hw9⟩ : ∃ w9, w9 = w.alloc (.cells cs 27) := ⟨_, rfl⟩
      rw [← hw9]
      have HST : Hid (StrsAt w9 ga gn gc ev.gs) := hide (by rw [hw9]; exact HE.out.at_.gs.below HW1.out)
      have HB9 : Hid (Below w.heap.size w w9) := hide (by rw [hw9]; exact HW1.out)
      clear hw9
      have hnr := HST.out.room
      have hnm := HST.out.capm
      have hnl := HST.out.len
      go_loopw [8] (fun i wr => ∃ k : Nat, k ≤ gn ∧ i = .int .i64 k ∧ w9 = wr ∧ ∀ (j : Nat) y, j < k → ev.gs[j]? = some y → y ≠ name) (fun i _ => gn - (intOf i).toNat)
      case atStart => exact ⟨0, by omega, rfl, rfl, fun j y hj => by omega⟩
      case round =>
        obtain ⟨k, hk, rfl, rfl, hno⟩ := hrel
        have HNO := hide hno
        clear hno
        by_cases hlt : k < gn
        · obtain ⟨b, o, x, ha, hx, hxs, hcell, _⟩ := HST.out.at hlt
          subst ha
          try simp only [Nat.zero_add] at hcell
          have HX := hide hx
          clear hx hxs
          by_cases hxy : x = name
          · have he : (x.toList == name.toList) = true := by rw [toList_beq]; simp [hxy]
            have HXY := hide hxy
            clear hxy
            have HM : Hid (name ∈ ev.gs) := hide (by rw [← HXY.out]; exact List.mem_of_getElem? HX.out)
            by_cases ho : kind < 1 ∨ 3 < kind
            · have HO := hide ho
              rcases ho with ho | ho
              all_goals
                go_wp2_with fail
                go_ret
                exact ⟨ret_bool (by rw [hasB_out HO.out]; all_goals first | rfl | (simp; omega)), HB9.out⟩
            · obtain ⟨ho1, ho3⟩ : 1 ≤ kind ∧ kind ≤ 3 := by omega
              clear ho
              go_wp2_with fail
              go_ret
              exact ⟨ret_bool (by rw [hasB_yes (by rw [HNM.out]; exact HM.out) ho1 ho3]; all_goals first | rfl | (simp; omega)), HB9.out⟩
          · have he : (x.toList == name.toList) = false := by rw [toList_beq]; simp [hxy]
            have HXY := hide hxy
            clear hxy
            go_wp2_with fail
            go_roundw
            case rel =>
              refine ⟨k + 1, by omega, by go_num, (by first | rfl | trivial), fun j y hj hy => ?_⟩
              rcases Nat.lt_succ_iff_lt_or_eq.1 hj with hj | rfl
              · exact HNO.out j y hj hy
              · rw [HX.out] at hy; cases hy; exact HXY.out
            case measure => simp [intOf]; omega
        · obtain rfl : k = gn := by omega
          have HM : Hid (name ∉ ev.gs) := hide (by
            intro hm
            obtain ⟨j, hj, he⟩ := List.mem_iff_getElem.1 hm
            exact HNO.out j _ (by omega) (List.getElem?_eq_getElem hj) he)
          go_wp2_with fail
          go_ret
          exact ⟨ret_bool (by rw [hasB_no]; rw [HNM.out]; exact HM.out), HB9.out⟩
end Go.Proofs.YticcfbeocepnpaaGreatDoor
