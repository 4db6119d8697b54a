/-
  The walks over lists of names: bulletinref12.CheckList, groupname.list, groupname.FormatList.
-/
import Derived.Test.YticcfbeocepnpaaGreatDoorProg
import Derived.Test.YticcfbeocepnpaaGreatDoorParts
import Derived.Test.YticcfbeocepnpaaGreatDoorShelf
import Derived.Outline
import Derived.WalkSpells
import Derived.Maps.AppendAt
import Derived.Deep.Light
import Derived.Deep.DeepCutAuto
import Derived.Deep.QuietTactic
import Derived.BigQuiet
set_option linter.unusedSimpArgs false
set_option maxRecDepth 100000
namespace Go.Proofs.YticcfbeocepnpaaGreatDoor
open Go.RowKit Pl



theorem chkGo_err {seen r : List ByteArray} {x : ByteArray} (h : chkL x.data.toList ≠ 0) : chkGo seen (x :: r) = chkL x.data.toList := by unfold chkGo; rw [if_pos h]
theorem chkGo_dup {seen r : List ByteArray} {x : ByteArray} (h : chkL x.data.toList = 0) (hd : Lib.containsS seen x = true) : chkGo seen (x :: r) = 7 := by
  unfold chkGo; rw [if_neg (by omega), if_pos hd]
theorem chkGo_next {seen r : List ByteArray} {x : ByteArray} (h : chkL x.data.toList = 0) (hd : Lib.containsS seen x = false) : chkGo seen (x :: r) = chkGo (seen ++ [x]) r := by
  conv => lhs; unfold chkGo
  rw [if_neg (by omega), if_neg (by simp [hd])]
theorem drop_of_get {ss : List ByteArray} {k : Nat} {x : ByteArray} (h : ss[k]? = some x) : ss.drop k = x :: ss.drop (k + 1) := by
  obtain ⟨hk, hx⟩ := List.getElem?_eq_some_iff.1 h
  rw [List.drop_eq_getElem_cons hk, hx]
theorem take_of_get {ss : List ByteArray} {k : Nat} {x : ByteArray} (h : ss[k]? = some x) : ss.take (k + 1) = ss.take k ++ [x] := by
  obtain ⟨hk, hx⟩ := List.getElem?_eq_some_iff.1 h
  rw [List.take_succ_eq_append_getElem hk, hx]
theorem contains_take {ss : List ByteArray} {k j : Nat} {x : ByteArray} (hj : j < k) (h : ss[j]? = some x) : Lib.containsS (ss.take k) x = true := by
  rw [Lib.containsS_iff]
  exact List.mem_of_getElem? (i := j) (by rw [List.getElem?_take, if_pos hj]; exact h)
theorem contains_take_no {ss : List ByteArray} {k : Nat} {x : ByteArray} (h : ∀ (j : Nat) y, j < k → ss[j]? = some y → y ≠ x) : Lib.containsS (ss.take k) x = false := by
  rw [Bool.eq_false_iff]
  intro hc
  rw [Lib.containsS_iff] at hc
  obtain ⟨j, hj⟩ := List.getElem?_of_mem hc
  rw [List.getElem?_take] at hj
  split at hj
  · rename_i hlt; exact h j x hlt hj rfl
  · cases hj
theorem toList_beq (a b : ByteArray) : (a.toList == b.toList) = decide (a = b) := by
  rw [ByteArray.toList_eq, ByteArray.toList_eq, Bool.eq_iff_iff]
  simp
  constructor
  · intro h; cases a; cases b; simp at h; simp [h]
  · intro h; rw [h]

set_option maxHeartbeats 1000000 in
theorem checkList12_any (b o n c : Nat) (ss : List ByteArray) (w : World) (hlen : ss.length = n) (hn : n ≤ 9223372036854775807) (hc : CellsS w b o ss) (hm : ∀ x ∈ ss, x.size ≤ maxLen) :
    Calls Tryz.prog 56 #[.slice (some ⟨b, o, none⟩) n c] w fun e w' => e = .returned (.int .i64 (listE ss)) ∧ Below w.heap.size w w' := by
  by_cases h20 : 20 < n
  · have hf : listE ss = 9 := by unfold listE; rw [if_pos (by omega)]
    rw [hf]
    clear hf hlen hc hm
    go_enter Tryz.func56, Tryz.ntmps56
    go_wp2_with fail
    go_ret
    exact ⟨rfl, Below.refl _ _⟩
  have h20' : n ≤ 20 := by omega
  clear h20
  have HL := hide hlen
  have HC := hide hc
  have HM := hide hm
  have HF := hide (show listE ss = chkGo [] ss by unfold listE; rw [if_neg (by omega)])
  clear hlen hc hm
  obtain ⟨B, hB⟩ : ∃ B, w.heap.size = B := ⟨_, rfl⟩
  rw [hB]
  have HB := hide hB
  clear hB
  go_enter Tryz.func56, Tryz.ntmps56
  go_wp2_with fail
  go_loopw [3, 4, 5] (fun i _ _ wr => ∃ k : Nat, k ≤ n ∧ i = .int .i64 k ∧ Below B w wr ∧ chkGo (ss.take k) (ss.drop k) = chkGo [] ss) (fun i _ _ _ => n - (intOf i).toNat)
  case atStart => exact ⟨0, by omega, rfl, Below.refl _ _, rfl⟩
  case round =>
    obtain ⟨k, hk, rfl, hbel, hgo⟩ := hrel
    have HGo := hide hgo
    have HBel := hide hbel
    clear hgo hbel
    by_cases hlt : k < n
    · obtain ⟨x, hx⟩ : ∃ x, ss[k]? = some x := ⟨_, List.getElem?_eq_getElem (by rw [HL.out]; exact hlt)⟩
      have HCr : Hid (CellsS wr b o ss) := hide (HC.out.below (by rw [HB.out]; exact HBel.out))
      have hcell : wr.cell? ⟨b, o + k, none⟩ = some (.string x) := HCr.out k x hx
      have hCk := check12_any x wr (HM.out x (List.mem_of_getElem? hx))
      obtain ⟨v, hv⟩ : ∃ v, chkL x.data.toList = v := ⟨_, rfl⟩
      rw [hv] at hCk
      have HCk := hide hCk
      have HX := hide hx
      clear hCk hx
      by_cases hv0 : v = 0
      · subst hv0
        have HV := hide hv
        clear hv
        go_wp2_with (go_at_call 78; refine HCk.out.mono ?_; rintro e w2 ⟨rfl, hb⟩)
        have HB2 := hide (HBel.out.trans (hb.mono (by have := HBel.out.size; rw [← HB.out]; exact this)))
        have HC2 := hide (HCr.out.below hb)
        clear hb
        obtain ⟨wo, rfl⟩ : ∃ wo : World, wo = wr := ⟨_, rfl⟩
        go_loopw [5] (fun i wq => ∃ m : Nat, m ≤ k ∧ i = .int .i64 m ∧ Below w2.heap.size w2 wq ∧ ∀ (j : Nat) y, j < m → ss[j]? = some y → y ≠ x) (fun i _ => k - (intOf i).toNat)
        case atStart => exact ⟨0, by omega, rfl, Below.refl _ _, fun j y hj => by omega⟩
        case round =>
          obtain ⟨m, hm, rfl, hbq, hno⟩ := hrel
          have HBQ := hide hbq
          have HN := hide hno
          clear hbq hno
          have HCq : Hid (CellsS wr b o ss) := hide (HC2.out.below HBQ.out)
          by_cases hml : m < k
          · obtain ⟨y, hy⟩ : ∃ y, ss[m]? = some y := ⟨_, List.getElem?_eq_getElem (by rw [HL.out]; omega)⟩
            have c1 : wr.cell? ⟨b, o + k, none⟩ = some (.string x) := HCq.out k x HX.out
            have c2 : wr.cell? ⟨b, o + m, none⟩ = some (.string y) := HCq.out m y hy
            have HY := hide hy
            clear hy
            by_cases hxy : y = x
            · have he : (y.toList == x.toList) = true := by rw [toList_beq]; simp [hxy]
              have HXY := hide hxy
              clear hxy
              go_wp2_with fail
              go_quiet (fail)
              go_wp2_with fail
              go_ret
              refine ⟨ret_int ?_, ?_⟩
              · rw [HF.out, ← HGo.out, drop_of_get HX.out, chkGo_dup HV.out (contains_take hml (by rw [HY.out, HXY.out]))]; rfl
              · refine HB2.out.trans ((HBQ.out.trans ?_).mono ?_)
                · exact below_drewNg wr _ |>.mono HBQ.out.size
                · rw [← HB.out]; exact HB2.out.size
            · have he : (y.toList == x.toList) = false := by rw [toList_beq]; simp [hxy]
              have HXY := hide hxy
              clear hxy
              go_wp2_with fail
              go_quiet (fail)
              go_wp2_with fail
              go_roundw
              case rel =>
                refine ⟨m + 1, by omega, by go_num, HBQ.out.trans (below_drewNg wr _ |>.mono HBQ.out.size), fun j z hj hz => ?_⟩
                rcases Nat.lt_succ_iff_lt_or_eq.1 hj with h | rfl
                · exact HN.out j z h hz
                · rw [HY.out] at hz; cases hz; exact HXY.out
              case measure => simp [intOf]; omega
          · obtain rfl : m = k := by omega
            go_wp2_with fail
            go_roundw
            case rel =>
              refine ⟨m + 1, by omega, by go_num, HB2.out.trans (HBQ.out.mono (by rw [← HB.out]; exact HB2.out.size)), ?_⟩
              rw [← HGo.out, drop_of_get HX.out, chkGo_next HV.out (contains_take_no HN.out), take_of_get HX.out]
            case measure => simp [intOf]; omega
      · have HV := hide hv
        have hb0 : ((v : Int) != 0) = true := by simp; omega
        have HV0 := hide hv0
        clear hv hv0
        go_wp2_with (go_at_call 78; refine HCk.out.mono ?_; rintro e w2 ⟨rfl, hb⟩)
        go_ret
        refine ⟨ret_int ?_, HBel.out.trans (hb.mono (by have := HBel.out.size; rw [← HB.out]; exact this))⟩
        rw [HF.out, ← HGo.out, drop_of_get HX.out, chkGo_err (by rw [HV.out]; exact HV0.out), HV.out]
    · obtain rfl : k = n := by omega
      go_wp2_with fail
      go_ret
      refine ⟨ret_int ?_, HBel.out⟩
      rw [HF.out, ← HGo.out, List.drop_of_length_le (by rw [HL.out]; exact Nat.le_refl _)]; rfl

theorem checkList12_none (a : Option Addr) (c : Nat) (w : World) :
    Calls Tryz.prog 56 #[.slice a 0 c] w fun e w' => e = .returned (.int .i64 (listE [])) ∧ Below w.heap.size w w' := by
  have hf : listE [] = 0 := rfl
  rw [hf]
  clear hf
  go_enter Tryz.func56, Tryz.ntmps56
  go_wp2_with fail
  go_loop [3, 4, 5] (fun i _ _ => i = .int .i64 0) (fun _ _ _ => 0)
  case atStart => rfl
  case round =>
    obtain rfl := hrel
    go_wp2_with fail
    go_ret
    exact ⟨rfl, Below.refl _ _⟩

/-- groupname.list: its list back, or nil, and the error. -/
def ListPost (b o n c : Nat) (ss : List ByteArray) (w : World) (e : Ending) (w' : World) : Prop :=
  (listE ss = 0 ∧ e = .returned (.tuple #[.slice (some ⟨b, o, none⟩) n c, .int .i64 0]) ∨ listE ss ≠ 0 ∧ e = .returned (.tuple #[.slice none 0 0, .int .i64 (listE ss)])) ∧ Below w.heap.size w w'

set_option maxHeartbeats 1000000 in
theorem glist_any (b o n c : Nat) (ss : List ByteArray) (w : World) (hlen : ss.length = n) (hn0 : 0 < n) (hn : n ≤ c) (hcm : c ≤ 9223372036854775807) (hc : CellsS w b o ss) (hm : ∀ x ∈ ss, x.size ≤ maxLen) (hml : MLen w) :
    Calls Tryz.prog 79 #[.slice (some ⟨b, o, none⟩) n c] w (ListPost b o n c ss w) := by
  by_cases h20 : 20 < n
  · have hf : listE ss = 9 := by unfold listE; rw [if_pos (by omega)]
    have HF := hide hf
    clear hf hlen hc hm hml
    go_enter Tryz.func79, Tryz.ntmps79
    go_wp2_with fail
    go_ret2
    exact ⟨.inr ⟨by rw [HF.out]; omega, by rw [HF.out]; rfl⟩, Below.refl _ _⟩
  have h20' : n ≤ 20 := by omega
  clear h20
  have HL := hide hlen
  have HC := hide hc
  have HM := hide hm
  have HML := hide hml
  have HF := hide (show listE ss = chkGo [] ss by unfold listE; rw [if_neg (by omega)])
  clear hlen hc hm hml
  obtain ⟨B, hB⟩ : ∃ B, w.heap.size = B := ⟨_, rfl⟩
  have HB := hide hB
  clear hB
  go_enter Tryz.func79, Tryz.ntmps79
  go_wp2_with fail
  go_loopw [4, 5, 6, 12] (fun _ _ _ i wr => ∃ k : Nat, k ≤ n ∧ i = .int .i64 k ∧ Below B w wr ∧ chkGo (ss.take k) (ss.drop k) = chkGo [] ss) (fun _ _ _ i _ => n - (intOf i).toNat)
  case atStart => exact ⟨0, by omega, rfl, Below.refl _ _, rfl⟩
  case round =>
    obtain ⟨k, hk, rfl, hbel, hgo⟩ := hrel
    have HGo := hide hgo
    have HBel := hide hbel
    clear hgo hbel
    by_cases hlt : k < n
    · obtain ⟨x, hx⟩ : ∃ x, ss[k]? = some x := ⟨_, List.getElem?_eq_getElem (by rw [HL.out]; exact hlt)⟩
      have HCr : Hid (CellsS wr b o ss) := hide (HC.out.below (by rw [HB.out]; exact HBel.out))
      have hcell : wr.cell? ⟨b, o + k, none⟩ = some (.string x) := HCr.out k x hx
      have hCk := gCheck_any x wr (HM.out x (List.mem_of_getElem? hx)) (HML.out.below (by rw [HB.out]; exact HBel.out))
      obtain ⟨v, hv⟩ : ∃ v, chkL x.data.toList = v := ⟨_, rfl⟩
      rw [hv] at hCk
      have HCk := hide hCk
      have HX := hide hx
      clear hCk hx
      by_cases hv0 : v = 0
      · subst hv0
        have HV := hide hv
        clear hv
        go_wp2_with (go_at_call 99; refine HCk.out.mono ?_; rintro e w2 ⟨rfl, hb⟩)
        have HB2 := hide (HBel.out.trans (hb.mono (by have := HBel.out.size; rw [← HB.out]; exact this)))
        have HC2 := hide (HCr.out.below hb)
        clear hb
        have hCo := Tryz.slices_Contains_string b o k c ss x w2 (by rw [HL.out]; omega) (by omega) (fun j hj => by
          have := HC2.out j _ (List.getElem?_eq_getElem hj)
          rw [this, List.getD_eq_getElem?_getD, List.getElem?_eq_getElem hj]; rfl)
        obtain ⟨d, hd⟩ : ∃ d, Lib.containsS (ss.take k) x = d := ⟨_, rfl⟩
        rw [hd] at hCo
        have HCo := hide hCo
        clear hCo
        cases d
        · have HD := hide hd
          clear hd
          go_wp2_with (go_at_call 60; refine HCo.out.mono ?_; rintro e w' ⟨rfl, rfl⟩)
          go_roundw
          case rel =>
            refine ⟨k + 1, by omega, by go_num, HB2.out, ?_⟩
            rw [← HGo.out, drop_of_get HX.out, chkGo_next HV.out HD.out, take_of_get HX.out]
          case measure => simp [intOf]; omega
        · have HD := hide hd
          clear hd
          go_wp2_with (go_at_call 60; refine HCo.out.mono ?_; rintro e w' ⟨rfl, rfl⟩)
          go_ret2
          have hr : listE ss = 7 := by rw [HF.out, ← HGo.out, drop_of_get HX.out, chkGo_dup HV.out HD.out]
          exact ⟨.inr ⟨by rw [hr]; omega, by rw [hr]; rfl⟩, by rw [HB.out]; exact HB2.out⟩
      · have HV := hide hv
        have hb0 : ((v : Int) != 0) = true := by simp; omega
        have HV0 := hide hv0
        clear hv hv0
        go_wp2_with (go_at_call 99; refine HCk.out.mono ?_; rintro e w2 ⟨rfl, hb⟩)
        go_ret2
        have hr : listE ss = v := by rw [HF.out, ← HGo.out, drop_of_get HX.out, chkGo_err (by rw [HV.out]; exact HV0.out), HV.out]
        refine ⟨.inr ⟨by rw [hr]; exact HV0.out, by rw [hr]; rfl⟩, ?_⟩
        rw [HB.out]
        exact HBel.out.trans (hb.mono (by have := HBel.out.size; rw [← HB.out]; exact this))
    · obtain rfl : k = n := by omega
      go_wp2_with fail
      go_ret2
      have hr : listE ss = 0 := by rw [HF.out, ← HGo.out, List.drop_of_length_le (by rw [HL.out]; exact Nat.le_refl _)]; rfl
      exact ⟨.inl ⟨hr, rfl⟩, by rw [HB.out]; exact HBel.out⟩

/-- groupname.FormatList: some text, and the error. -/
def FmtPost (err : Nat) (w : World) (e : Ending) (w' : World) : Prop := (∃ t, e = .returned (.tuple #[.string t, .int .i64 err])) ∧ Below w.heap.size w w'

theorem gFormatList_none (a : Option Addr) (c : Nat) (w : World) : Calls Tryz.prog 58 #[.slice a 0 c] w (FmtPost 4 w) := by
  go_enter Tryz.func58, Tryz.ntmps58
  go_wp2_with fail
  go_ret2
  exact ⟨⟨_, rfl⟩, Below.refl _ _⟩

theorem lens_le (m : Nat) : ∀ xs : List (List UInt8), (∀ x ∈ xs, x.length ≤ m) → Lib.lens xs ≤ xs.length * m
  | [], _ => by simp [Lib.lens]
  | x :: r, h => by
    have hx := h x (by simp)
    have ih := lens_le m r (fun y hy => h y (by simp [hy]))
    simp [Lib.lens, Nat.add_mul] at ih ⊢
    omega
theorem join_len_le (xs : List (List UInt8)) (m : Nat) (sep : List UInt8) (h : ∀ x ∈ xs, x.length ≤ m) (hs : sep.length = 1) : (Lib.join xs sep).length ≤ xs.length * m + xs.length := by
  cases xs with
  | nil => simp [Lib.join_nil]
  | cons x r =>
    rw [Lib.join_length, hs]
    have := lens_le m (x :: r) h
    simp at this ⊢
    omega

theorem chkGo_len : ∀ (r seen : List ByteArray), chkGo seen r = 0 → ∀ x ∈ r, x.data.toList.length ≤ 80
  | [], _, _ => by simp
  | x :: r, seen, h => by
    unfold chkGo at h
    split at h
    · rename_i h1; omega
    · rename_i h1
      split at h
      · omega
      · intro y hy
        rcases List.mem_cons.1 hy with rfl | hy
        · have h2 : chkL y.data.toList = 0 := by omega
          unfold chkL at h2
          by_cases h3 : 80 < y.data.toList.length
          · rw [if_pos h3] at h2; omega
          · omega
        · exact chkGo_len r _ h y hy

set_option maxHeartbeats 400000 in
theorem gFormatList_any (b o n c : Nat) (ss : List ByteArray) (w : World) (hlen : ss.length = n) (hn0 : 0 < n) (hn : n ≤ c) (hcm : c ≤ 9223372036854775807) (hc : CellsS w b o ss) (hm : ∀ x ∈ ss, x.size ≤ maxLen) (hml : MLen w) :
    Calls Tryz.prog 58 #[.slice (some ⟨b, o, none⟩) n c] w (FmtPost (listE ss) w) := by
  have HC := hide (glist_any b o n c ss w hlen hn0 hn hcm hc hm hml)
  have HCS := hide hc
  have HL := hide hlen
  have hb0 : ((n : Int) == 0) = false := by simp; omega
  clear hlen hc hm hml
  go_enter Tryz.func58, Tryz.ntmps58
  go_wp2_with fail
  refine HC.out.mono ?_
  rintro e w1 ⟨⟨hz, rfl⟩ | ⟨hz, rfl⟩, hb⟩
  · have HB := hide hb
    have HZ := hide hz
    clear hb hz
    have h20 : ss.length ≤ 20 := by
      have := HZ.out; unfold listE at this
      by_cases h : 20 < ss.length
      · rw [if_pos h] at this; omega
      · omega
    have h80 : ∀ x ∈ ss.map (·.data.toList), x.length ≤ 80 := by
      intro y hy
      obtain ⟨x, hx, rfl⟩ := List.mem_map.1 hy
      have := HZ.out; unfold listE at this
      rw [if_neg (by omega)] at this
      exact chkGo_len ss [] this x hx
    have hj := join_len_le (ss.map (·.data.toList)) 80 [44] h80 rfl
    rw [List.length_map] at hj
    have HJ := Tryz.strings_Join b o c ss ⟨#[44]⟩ w1 (HCS.out.below HB.out) (by have := HCS.out.block (by rw [HL.out]; exact hn0); have h2 := HB.out.size; omega) (by omega) (by rw [HL.out]; exact hn) (by
      have : (⟨#[44]⟩ : ByteArray).data.toList = [44] := rfl
      rw [this]; omega)
    rw [HL.out] at HJ
    have HJ' := hide HJ
    clear HJ h80 hj h20
    go_wp2_with (go_at_call 40; refine HJ'.out.mono ?_; rintro e w' ⟨rfl, hb⟩)
    go_ret2
    exact ⟨⟨_, by rw [HZ.out]; rfl⟩, HB.out.trans (hb.mono HB.out.size)⟩
  · have HB := hide hb
    have HZ := hide hz
    clear hb hz
    go_wp2_with (go_at_call 40; refine (Tryz.strings_Join_none _ _ _ _).mono ?_; rintro e w' ⟨rfl, rfl⟩)
    go_ret2
    exact ⟨⟨_, rfl⟩, HB.out⟩
end Go.Proofs.YticcfbeocepnpaaGreatDoor
