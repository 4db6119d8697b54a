/-
  The walks over one event: day, Check of both sides.
-/
import Derived.Test.YticcfbeocepnpaaGreatDoorProg
import Derived.Test.YticcfbeocepnpaaGreatDoorLists
import Derived.Test.YticcfbeocepnpaaGreatDoorShelf
import Derived.Outline
import Derived.WalkSpells
import Derived.Maps.AppendAt
import Derived.Deep.Light
import Derived.Deep.DeepCutAuto
import Derived.Deep.QuietTactic
import Derived.BigQuiet
set_option linter.unusedSimpArgs false
set_option maxRecDepth 100000
namespace Go.Proofs.YticcfbeocepnpaaGreatDoor
open Go.RowKit Pl




theorem day_any (cs : Array Value) (m : Int) (w : World) (h0 : cs[0]? = some (.int .i64 m)) (hm : 0 ≤ m) (hm2 : m ≤ 105190559) :
    Calls Tryz.prog 34 #[.agg cs] w fun e w' => e = .returned (.int .i64 (m / 1440)) ∧ w.alloc (.cells cs 27) = w' := by
  go_enter Tryz.func34, Tryz.ntmps34
  go_wp2_with fail
  go_ret
  exact ⟨rfl, rfl⟩

/-- A slice of strings, nil or not. -/
structure StrsAt (w : World) (a : Option Addr) (n c : Nat) (ss : List ByteArray) : Prop where
  len : ss.length = n
  room : n ≤ c
  capm : c ≤ 9223372036854775807
  cells : 0 < n → ∃ b o, a = some ⟨b, o, none⟩ ∧ CellsS w b o ss
  size : ∀ x ∈ ss, x.size ≤ maxLen
theorem StrsAt.below {w w' : World} {a : Option Addr} {n c : Nat} {ss : List ByteArray} (h : StrsAt w a n c ss) (hb : Below w.heap.size w w') : StrsAt w' a n c ss :=
  ⟨h.len, h.room, h.capm, fun hn => let ⟨b, o, ha, hc⟩ := h.cells hn; ⟨b, o, ha, hc.below hb⟩, h.size⟩
theorem StrsAt.at {w : World} {a : Option Addr} {n c : Nat} {ss : List ByteArray} (h : StrsAt w a n c ss) {k : Nat} (hk : k < n) :
    ∃ b o x, a = some ⟨b, o, none⟩ ∧ ss[k]? = some x ∧ x.size ≤ maxLen ∧ w.cell? ⟨b, o + k, none⟩ = some (.string x) ∧ CellsS w b o ss := by
  obtain ⟨b, o, ha, hc⟩ := h.cells (by omega)
  have hk' : k < ss.length := by rw [h.len]; exact hk
  exact ⟨b, o, ss[k], ha, List.getElem?_eq_getElem hk', h.size _ (List.getElem_mem hk'), hc k _ (List.getElem?_eq_getElem hk'), hc⟩

theorem checkList12_strs {a : Option Addr} {n c : Nat} {ss : List ByteArray} {w : World} (h : StrsAt w a n c ss) :
    Calls Tryz.prog 56 #[.slice a n c] w fun e w' => e = .returned (.int .i64 (listE ss)) ∧ Below w.heap.size w w' := by
  rcases Nat.eq_zero_or_pos n with rfl | hn
  · obtain rfl : ss = [] := List.eq_nil_of_length_eq_zero h.len
    exact checkList12_none a c w
  · obtain ⟨b, o, rfl, hc⟩ := h.cells hn
    exact checkList12_any b o n c ss w h.len (by have := h.room; have := h.capm; omega) hc h.size
theorem gFormatList_strs {a : Option Addr} {n c : Nat} {ss : List ByteArray} {w : World} (h : StrsAt w a n c ss) (hml : MLen w) :
    Calls Tryz.prog 58 #[.slice a n c] w (FmtPost (if n = 0 then 4 else listE ss) w) := by
  rcases Nat.eq_zero_or_pos n with rfl | hn
  · exact gFormatList_none a c w
  · obtain ⟨b, o, rfl, hc⟩ := h.cells hn
    rw [if_neg (by omega)]
    exact gFormatList_any b o n c ss w h.len hn h.room h.capm hc h.size hml

/-- The error of the sites that are left, behind those that have been seen. -/
def sitesGo (seen : List ByteArray) : List ByteArray → Nat
  | [] => 0
  | x :: r => if (siteL x.data.toList).2 ≠ 0 then (siteL x.data.toList).2 else if Lib.containsS seen x = true then 7 else sitesGo (seen ++ [x]) r
theorem sitesGo_err {seen r : List ByteArray} {x : ByteArray} (h : (siteL x.data.toList).2 ≠ 0) : sitesGo seen (x :: r) = (siteL x.data.toList).2 := by unfold sitesGo; rw [if_pos h]
theorem sitesGo_dup {seen r : List ByteArray} {x : ByteArray} (h : (siteL x.data.toList).2 = 0) (hd : Lib.containsS seen x = true) : sitesGo seen (x :: r) = 7 := by
  unfold sitesGo; rw [if_neg (by omega), if_pos hd]
theorem sitesGo_next {seen r : List ByteArray} {x : ByteArray} (h : (siteL x.data.toList).2 = 0) (hd : Lib.containsS seen x = false) : sitesGo seen (x :: r) = sitesGo (seen ++ [x]) r := by
  conv => lhs; unfold sitesGo
  rw [if_neg (by omega), if_neg (by simp [hd])]

/-- The error of an event. -/
def evErr (m : Int) (gs ss : List ByteArray) (by_ : Int) : Nat :=
  if m < 0 ∨ 105190559 < m then 2 else if gs.length = 0 then 4 else if listE gs ≠ 0 then listE gs else if 50 < ss.length then 9 else
  if sitesGo [] ss ≠ 0 then sitesGo [] ss else if by_ < 0 ∨ 65536 < by_ then 2 else 0

/-- The cells of an event. -/
structure EvAt (w : World) (cs : Array Value) (m : Int) (ga : Option Addr) (gn gc : Nat) (gs : List ByteArray) (sa : Option Addr) (sn sc : Nat) (ss : List ByteArray) (by_ : Int) : Prop where
  c0 : cs[0]? = some (.int .i64 m)
  c17 : cs[17]? = some (.slice ga gn gc)
  c18 : cs[18]? = some (.slice sa sn sc)
  c19 : cs[19]? = some (.int .i64 by_)
  gs : StrsAt w ga gn gc gs
  ss : StrsAt w sa sn sc ss
theorem EvAt.below {w w' : World} {cs : Array Value} {m : Int} {ga : Option Addr} {gn gc : Nat} {gs : List ByteArray} {sa : Option Addr} {sn sc : Nat} {ss : List ByteArray} {by_ : Int}
    (h : EvAt w cs m ga gn gc gs sa sn sc ss by_) (hb : Below w.heap.size w w') : EvAt w' cs m ga gn gc gs sa sn sc ss by_ := ⟨h.c0, h.c17, h.c18, h.c19, h.gs.below hb, h.ss.below hb⟩

theorem box_cell {w w' : World} {cs : Array Value} {T : TypeId} {j : Nat} {v : Value} (hb : Below (w.alloc (.cells cs T)).heap.size (w.alloc (.cells cs T)) w') (h : cs[j]? = some v) :
    w'.cell? ⟨w.heap.size, j, none⟩ = some v := by
  rw [hb.cell (p := ⟨w.heap.size, j, none⟩) (by simp), World.cell?_alloc_new]; exact h

set_option maxHeartbeats 1000000 in
theorem check52_any (cs : Array Value) (m : Int) (ga : Option Addr) (gn gc : Nat) (gs : List ByteArray) (sa : Option Addr) (sn sc : Nat) (ss : List ByteArray) (by_ : Int) (w : World)
    (h : EvAt w cs m ga gn gc gs sa sn sc ss by_) :
    Calls Tryz.prog 30 #[.agg cs] w fun e w' => e = .returned (.int .i64 (evErr m gs ss by_)) ∧ Below w.heap.size w w' := by
  have HE := hide h
  obtain ⟨h0, h17, h18, h19, _, _⟩ := h
  have hgr := HE.out.gs.room
  have hgc := HE.out.gs.capm
  have hsr := HE.out.ss.room
  have hsc := HE.out.ss.capm
  by_cases hm : m < 0 ∨ 105190559 < m
  · have HF := hide (show evErr m gs ss by_ = 2 by unfold evErr; rw [if_pos hm])
    rcases hm with hm | hm
    all_goals
      go_enter Tryz.func30, Tryz.ntmps30
      go_wp2_with fail
      go_ret
      exact ⟨ret_int (by rw [HF.out]; rfl), (Below.refl _ _).alloc (Nat.le_refl _) _⟩
  have HM := hide hm
  obtain ⟨hm1, hm2⟩ : 0 ≤ m ∧ m ≤ 105190559 := by omega
  clear hm
  by_cases hg0 : gn = 0
  · have HF := hide (show evErr m gs ss by_ = 4 by unfold evErr; rw [if_neg HM.out, if_pos (by rw [HE.out.gs.len]; exact hg0)])
    have hb0 : ((gn : Int) == 0) = true := by simp; omega
    clear hg0
    go_enter Tryz.func30, Tryz.ntmps30
    go_wp2_with fail
    go_ret
    exact ⟨ret_int (by rw [HF.out]; rfl), (Below.refl _ _).alloc (Nat.le_refl _) _⟩
  have hb0 : ((gn : Int) == 0) = false := by simp; omega
  have HG0 := hide hg0
  clear hg0
  have HW1 : Hid (Below w.heap.size w (w.alloc (.cells cs 27))) := hide ((Below.refl _ _).alloc (Nat.le_refl _) _)
  have hCL := checkList12_strs (HE.out.gs.below HW1.out)
  obtain ⟨v, hv⟩ : ∃ v, listE gs = v := ⟨_, rfl⟩
  rw [hv] at hCL
  have HCL := hide hCL
  clear hCL
  by_cases hv0 : v = 0
  · subst hv0
    have HV := hide hv
    clear hv
    have HG : Hid (¬ listE gs ≠ 0) := hide (by rw [HV.out]; simp)
    by_cases h50 : 50 < sn
    · have HF := hide (show evErr m gs ss by_ = 9 by unfold evErr; rw [if_neg HM.out, if_neg (by rw [HE.out.gs.len]; exact HG0.out), if_neg HG.out, if_pos (by rw [HE.out.ss.len]; exact h50)])
      go_enter Tryz.func30, Tryz.ntmps30
      go_wp2_with fail
      refine HCL.out.mono ?_
      rintro e w2 ⟨rfl, hb⟩
      have hc18 := box_cell hb h18
      have HB := hide hb
      clear hb
      go_wp2_with fail
      go_ret
      exact ⟨ret_int (by rw [HF.out]; rfl), HW1.out.trans (HB.out.mono (by simp))⟩
    have h50' : sn ≤ 50 := by omega
    have HF := hide (show evErr m gs ss by_ = if sitesGo [] ss ≠ 0 then sitesGo [] ss else if by_ < 0 ∨ 65536 < by_ then 2 else 0 by
      unfold evErr; rw [if_neg HM.out, if_neg (by rw [HE.out.gs.len]; exact HG0.out), if_neg HG.out, if_neg (by rw [HE.out.ss.len]; omega)])
    clear h50
    go_enter Tryz.func30, Tryz.ntmps30
    go_wp2_with fail
    refine HCL.out.mono ?_
    rintro e w2 ⟨rfl, hb⟩
    have hc18 := box_cell hb h18
    have HB := hide hb
    have HW2 := hide (HW1.out.trans (hb.mono (by simp)))
    clear hb
    go_wp2_with fail
    go_loopw [4, 5, 6, 7] (fun i _ _ _ wr => ∃ k : Nat, k ≤ sn ∧ i = .int .i64 k ∧ Below w2.heap.size w2 wr ∧ sitesGo (ss.take k) (ss.drop k) = sitesGo [] ss) (fun i _ _ _ _ => sn - (intOf i).toNat)
    case atStart => exact ⟨0, by omega, rfl, Below.refl _ _, rfl⟩
    case round =>
      obtain ⟨k, hk, rfl, hbel, hgo⟩ := hrel
      have HGo := hide hgo
      have HBel := hide hbel
      have HWr := hide (HB.out.trans (hbel.mono HB.out.size))
      have hc18 := box_cell HWr.out h18
      have hc19 := box_cell HWr.out h19
      have HSr := hide ((HE.out.ss.below HW2.out).below hbel)
      clear hgo hbel
      by_cases hlt : k < sn
      · obtain ⟨b, o, x, rfl, hx, hxs, hcell, hcs⟩ := HSr.out.at hlt
        have HCS := hide hcs
        have HX := hide hx
        have hSt := site11_any x wr hxs
        obtain ⟨v, hv⟩ : ∃ v, siteL x.data.toList = v := ⟨_, rfl⟩
        rw [hv] at hSt
        obtain ⟨v1, v2⟩ := v
        have HSt := hide hSt
        have HV := hide hv
        clear hx hxs hcs hSt hv
        by_cases hv0 : v2 = 0
        · subst hv0
          go_wp2_with (go_at_call 57; refine HSt.out.mono ?_; rintro e w' ⟨rfl, rfl⟩)
          obtain ⟨wo, rfl⟩ : ∃ wo : World, wo = wr := ⟨_, rfl⟩
          go_loopw [7] (fun i wq => ∃ q : Nat, q ≤ k ∧ i = .int .i64 q ∧ Below wo.heap.size wo wq ∧ ∀ (j : Nat) y, j < q → ss[j]? = some y → y ≠ x) (fun i _ => k - (intOf i).toNat)
          case atStart => exact ⟨0, by omega, rfl, Below.refl _ _, fun j y hj => by omega⟩
          case round =>
            obtain ⟨q, hq, rfl, hbq, hno⟩ := hrel
            have HBQ := hide hbq
            have HN := hide hno
            clear hbq hno
            have HCq : Hid (CellsS wr b o ss) := hide (HCS.out.below HBQ.out)
            have hd18 := box_cell (HWr.out.trans (HBQ.out.mono HWr.out.size)) h18
            have HBq2 := hide (HBel.out.trans (HBQ.out.mono HBel.out.size))
            by_cases hml : q < k
            · obtain ⟨y, hy⟩ : ∃ y, ss[q]? = some y := ⟨_, List.getElem?_eq_getElem (by rw [HE.out.ss.len]; omega)⟩
              have c1 : wr.cell? ⟨b, o + k, none⟩ = some (.string x) := HCq.out k x HX.out
              have c2 : wr.cell? ⟨b, o + q, none⟩ = some (.string y) := HCq.out q y hy
              have HY := hide hy
              clear hy
              by_cases hxy : y = x
              · have he : (y.toList == x.toList) = true := by rw [toList_beq]; simp [hxy]
                have HXY := hide hxy
                clear hxy
                go_wp2_with fail
                go_quiet (fail)
                go_wp2_with fail
                go_ret
                have hs : sitesGo [] ss = 7 := by
                  rw [← HGo.out, drop_of_get HX.out, sitesGo_dup (by rw [HV.out]) (contains_take hml (by rw [HY.out, HXY.out]))]
                exact ⟨ret_int (by rw [HF.out, hs]; rfl), HW2.out.trans ((HBq2.out.trans (below_drewNg wr _ |>.mono HBq2.out.size)).mono HW2.out.size)⟩
              · have he : (y.toList == x.toList) = false := by rw [toList_beq]; simp [hxy]
                have HXY := hide hxy
                clear hxy
                go_wp2_with fail
                go_quiet (fail)
                go_wp2_with fail
                go_roundw
                case rel =>
                  refine ⟨q + 1, by omega, by go_num, HBQ.out.trans (below_drewNg wr _ |>.mono HBQ.out.size), fun j z hj hz => ?_⟩
                  rcases Nat.lt_succ_iff_lt_or_eq.1 hj with h | rfl
                  · exact HN.out j z h hz
                  · rw [HY.out] at hz; cases hz; exact HXY.out
                case measure => simp [intOf]; omega
            · obtain rfl : q = k := by omega
              go_wp2_with fail
              go_roundw
              case rel =>
                refine ⟨q + 1, by omega, by go_num, HBq2.out, ?_⟩
                rw [← HGo.out, drop_of_get HX.out, sitesGo_next (by rw [HV.out]) (contains_take_no HN.out), take_of_get HX.out]
              case measure => simp [intOf]; omega
        · have hvb : ((v2 : Int) != 0) = true := by simp; omega
          have HV0 := hide hv0
          clear hv0
          go_wp2_with (go_at_call 57; refine HSt.out.mono ?_; rintro e w' ⟨rfl, rfl⟩)
          go_ret
          have hs : sitesGo [] ss = v2 := by rw [← HGo.out, drop_of_get HX.out, sitesGo_err (by rw [HV.out]; exact HV0.out), HV.out]
          exact ⟨ret_int (by rw [HF.out, hs, if_pos HV0.out]), HW2.out.trans (HBel.out.mono HW2.out.size)⟩
      · obtain rfl : k = sn := by omega
        have hs : sitesGo [] ss = 0 := by rw [← HGo.out, List.drop_of_length_le (by rw [HE.out.ss.len]; exact Nat.le_refl _)]; rfl
        have HS := hide hs
        clear hs
        by_cases hby : by_ < 0 ∨ 65536 < by_
        · have HF2 := hide (show evErr m gs ss by_ = 2 by rw [HF.out, HS.out]; simp [hby])
          rcases hby with hby | hby
          all_goals
            go_wp2_with fail
            go_ret
            exact ⟨ret_int (by rw [HF2.out]; rfl), HW2.out.trans (HBel.out.mono HW2.out.size)⟩
        · have HF2 := hide (show evErr m gs ss by_ = 0 by rw [HF.out, HS.out]; simp [hby])
          obtain ⟨hb1, hb2⟩ : 0 ≤ by_ ∧ by_ ≤ 65536 := by omega
          clear hby
          go_wp2_with fail
          go_ret
          exact ⟨ret_int (by rw [HF2.out]; rfl), HW2.out.trans (HBel.out.mono HW2.out.size)⟩
  · have hvb : ((v : Int) != 0) = true := by simp; omega
    have HF := hide (show evErr m gs ss by_ = v by unfold evErr; rw [if_neg HM.out, if_neg (by rw [HE.out.gs.len]; exact HG0.out), hv, if_pos hv0])
    clear hv hv0
    go_enter Tryz.func30, Tryz.ntmps30
    go_wp2_with (go_at_call 56; refine HCL.out.mono ?_; rintro e w2 ⟨rfl, hb⟩)
    go_ret
    exact ⟨ret_int (by rw [HF.out]), HW1.out.trans (hb.mono (by simp))⟩

set_option maxHeartbeats 1000000 in
theorem evCheck_any (cs : Array Value) (m : Int) (ga : Option Addr) (gn gc : Nat) (gs : List ByteArray) (sa : Option Addr) (sn sc : Nat) (ss : List ByteArray) (by_ : Int) (w : World)
    (h : EvAt w cs m ga gn gc gs sa sn sc ss by_) (hml : MLen w) :
    Calls Tryz.prog 31 #[.agg cs] w fun e w' => e = .returned (.int .i64 (evErr m gs ss by_)) ∧ Below w.heap.size w w' := by
  have HE := hide h
  have HML := hide hml
  obtain ⟨h0, h17, h18, h19, _, _⟩ := h
  clear hml
  have hgr := HE.out.gs.room
  have hgc := HE.out.gs.capm
  have hsr := HE.out.ss.room
  have hsc := HE.out.ss.capm
  by_cases hm : m < 0 ∨ 105190559 < m
  · have HF := hide (show evErr m gs ss by_ = 2 by unfold evErr; rw [if_pos hm])
    rcases hm with hm | hm
    all_goals
      go_enter Tryz.func31, Tryz.ntmps31
      go_wp2_with fail
      go_ret
      exact ⟨ret_int (by rw [HF.out]; rfl), (Below.refl _ _).alloc (Nat.le_refl _) _⟩
  have HM := hide hm
  obtain ⟨hm1, hm2⟩ : 0 ≤ m ∧ m ≤ 105190559 := by omega
  clear hm
  have HW1 : Hid (Below w.heap.size w (w.alloc (.cells cs 27))) := hide ((Below.refl _ _).alloc (Nat.le_refl _) _)
  have hCL := gFormatList_strs (HE.out.gs.below HW1.out) (HML.out.below HW1.out)
  obtain ⟨v, hv⟩ : ∃ v, (if gn = 0 then 4 else listE gs) = v := ⟨_, rfl⟩
  rw [hv] at hCL
  have HCL := hide hCL
  clear hCL
  by_cases hv0 : v = 0
  · subst hv0
    have HG0 : Hid (gn ≠ 0) := hide (by intro h; rw [if_pos h] at hv; omega)
    have HG : Hid (¬ listE gs ≠ 0) := hide (by rw [if_neg HG0.out] at hv; simp [hv])
    clear hv
    by_cases h50 : 50 < sn
    · have HF := hide (show evErr m gs ss by_ = 9 by unfold evErr; rw [if_neg HM.out, if_neg (by rw [HE.out.gs.len]; exact HG0.out), if_neg HG.out, if_pos (by rw [HE.out.ss.len]; exact h50)])
      go_enter Tryz.func31, Tryz.ntmps31
      go_wp2_with fail
      refine HCL.out.mono ?_
      rintro e w2 ⟨⟨t, rfl⟩, hb⟩
      have hc18 := box_cell hb h18
      have HB := hide hb
      clear hb
      go_wp2_with fail
      go_ret
      exact ⟨ret_int (by rw [HF.out]; rfl), HW1.out.trans (HB.out.mono (by simp))⟩
    have h50' : sn ≤ 50 := by omega
    have HF := hide (show evErr m gs ss by_ = if sitesGo [] ss ≠ 0 then sitesGo [] ss else if by_ < 0 ∨ 65536 < by_ then 2 else 0 by
      unfold evErr; rw [if_neg HM.out, if_neg (by rw [HE.out.gs.len]; exact HG0.out), if_neg HG.out, if_neg (by rw [HE.out.ss.len]; omega)])
    clear h50
    go_enter Tryz.func31, Tryz.ntmps31
    go_wp2_with fail
    refine HCL.out.mono ?_
    rintro e w2 ⟨⟨t, rfl⟩, hb⟩
    have hc18 := box_cell hb h18
    have HB := hide hb
    have HW2 := hide (HW1.out.trans (hb.mono (by simp)))
    clear hb
    go_wp2_with fail
    go_loopw [5, 6, 7, 8, 33] (fun _ _ _ _ i wr => ∃ k : Nat, k ≤ sn ∧ i = .int .i64 k ∧ Below w2.heap.size w2 wr ∧ sitesGo (ss.take k) (ss.drop k) = sitesGo [] ss) (fun _ _ _ _ i _ => sn - (intOf i).toNat)
    case atStart => exact ⟨0, by omega, rfl, Below.refl _ _, rfl⟩
    case round =>
      obtain ⟨k, hk, rfl, hbel, hgo⟩ := hrel
      have HGo := hide hgo
      have HBel := hide hbel
      have HWr := hide (HB.out.trans (hbel.mono HB.out.size))
      have hc18 := box_cell HWr.out h18
      have hc19 := box_cell HWr.out h19
      have HSr := hide ((HE.out.ss.below HW2.out).below hbel)
      clear hgo hbel
      by_cases hlt : k < sn
      · obtain ⟨b, o, x, rfl, hx, hxs, hcell, hcs⟩ := HSr.out.at hlt
        have HCS := hide hcs
        have HX := hide hx
        have hSt := msite_any x wr hxs
        obtain ⟨v, hv⟩ : ∃ v, siteL x.data.toList = v := ⟨_, rfl⟩
        rw [hv] at hSt
        obtain ⟨v1, v2⟩ := v
        have HSt := hide hSt
        have HV := hide hv
        clear hx hxs hcs hSt hv
        by_cases hv0 : v2 = 0
        · subst hv0
          have hCo := Tryz.slices_Contains_string b o k sc ss x wr (by rw [HE.out.ss.len]; omega) (by omega) (fun j hj => by
            have := HCS.out j _ (List.getElem?_eq_getElem hj)
            rw [this, List.getD_eq_getElem?_getD, List.getElem?_eq_getElem hj]; rfl)
          obtain ⟨d, hd⟩ : ∃ d, Lib.containsS (ss.take k) x = d := ⟨_, rfl⟩
          rw [hd] at hCo
          have HCo := hide hCo
          have HD := hide hd
          clear hCo hd
          cases d
          · go_wp2_with (first
              | (go_at_call 59; refine HSt.out.mono ?_; rintro e w' ⟨rfl, rfl⟩)
              | (go_at_call 60; refine HCo.out.mono ?_; rintro e w' ⟨rfl, rfl⟩))
            go_roundw
            case rel =>
              refine ⟨k + 1, by omega, by go_num, HBel.out, ?_⟩
              rw [← HGo.out, drop_of_get HX.out, sitesGo_next (by rw [HV.out]) HD.out, take_of_get HX.out]
            case measure => simp [intOf]; omega
          · go_wp2_with (first
              | (go_at_call 59; refine HSt.out.mono ?_; rintro e w' ⟨rfl, rfl⟩)
              | (go_at_call 60; refine HCo.out.mono ?_; rintro e w' ⟨rfl, rfl⟩))
            go_ret
            have hs : sitesGo [] ss = 7 := by rw [← HGo.out, drop_of_get HX.out, sitesGo_dup (by rw [HV.out]) HD.out]
            exact ⟨ret_int (by rw [HF.out, hs]; rfl), HW2.out.trans (HBel.out.mono HW2.out.size)⟩
        · have hvb : ((v2 : Int) != 0) = true := by simp; omega
          have HV0 := hide hv0
          clear hv0
          go_wp2_with (go_at_call 59; refine HSt.out.mono ?_; rintro e w' ⟨rfl, rfl⟩)
          go_ret
          have hs : sitesGo [] ss = v2 := by rw [← HGo.out, drop_of_get HX.out, sitesGo_err (by rw [HV.out]; exact HV0.out), HV.out]
          exact ⟨ret_int (by rw [HF.out, hs, if_pos HV0.out]), HW2.out.trans (HBel.out.mono HW2.out.size)⟩
      · obtain rfl : k = sn := by omega
        have hs : sitesGo [] ss = 0 := by rw [← HGo.out, List.drop_of_length_le (by rw [HE.out.ss.len]; exact Nat.le_refl _)]; rfl
        have HS := hide hs
        clear hs
        by_cases hby : by_ < 0 ∨ 65536 < by_
        · have HF2 := hide (show evErr m gs ss by_ = 2 by rw [HF.out, HS.out]; simp [hby])
          rcases hby with hby | hby
          all_goals
            go_wp2_with fail
            go_ret
            exact ⟨ret_int (by rw [HF2.out]; rfl), HW2.out.trans (HBel.out.mono HW2.out.size)⟩
        · have HF2 := hide (show evErr m gs ss by_ = 0 by rw [HF.out, HS.out]; simp [hby])
          obtain ⟨hb1, hb2⟩ : 0 ≤ by_ ∧ by_ ≤ 65536 := by omega
          clear hby
          go_wp2_with fail
          go_ret
          exact ⟨ret_int (by rw [HF2.out]; rfl), HW2.out.trans (HBel.out.mono HW2.out.size)⟩
  · have hvb : ((v : Int) != 0) = true := by simp; omega
    have HF := hide (show evErr m gs ss by_ = v by
      unfold evErr; rw [if_neg HM.out, HE.out.gs.len]
      by_cases h : gn = 0
      · rw [if_pos h]; rw [if_pos h] at hv; exact hv
      · rw [if_neg h]; rw [if_neg h] at hv; rw [hv, if_pos hv0])
    clear hv hv0
    go_enter Tryz.func31, Tryz.ntmps31
    go_wp2_with fail
    refine HCL.out.mono ?_
    rintro e w2 ⟨⟨t, rfl⟩, hb⟩
    have HB := hide hb
    clear hb
    go_wp2_with fail
    go_ret
    exact ⟨ret_int (by rw [HF.out]), HW1.out.trans (HB.out.mono (by simp))⟩
end Go.Proofs.YticcfbeocepnpaaGreatDoor
