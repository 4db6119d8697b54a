/-
  numbers: are two lists of integers equal?
-/
import Derived.Test.YticcfbeocepnpaaGreatDoorDays
import Derived.Deep.QuietTactic
import Derived.BigQuiet
set_option linter.unusedSimpArgs false
set_option maxRecDepth 100000
namespace Go.Proofs.YticcfbeocepnpaaGreatDoor
open Go.RowKit Go.Shelf Pl

/-- A slice that reads as the integers l. -/
structure IntsAt (w : World) (A : Option Addr) (n c : Nat) (l : List Int) : Prop where
  len : l.length = n
  room : n ≤ 9223372036854775807
  cells : 0 < n → ∃ g, A = some ⟨g, 0, none⟩ ∧ ∀ (j : Nat) x, l[j]? = some x → w.cell? ⟨g, j, none⟩ = some (.int .i64 x)
theorem intsAt_own {w : World} {base : Nat} {v : Value} {n : Nat} {l : List Int} (h : w.ownsRow base 3 1 v n (intsC l)) : ∃ A c, v = .slice A n c ∧ IntsAt w A n c l := by
  have hl : l.length = n := by have := h.1; simp [intsC] at this; exact this
  rcases h.2 with ⟨rfl, rfl⟩ | ⟨g, cap, cur, rfl, hb, hg, h1, h2, _⟩
  · exact ⟨none, 0, rfl, hl, by omega, fun h => by omega⟩
  · refine ⟨_, cap, rfl, hl, by unfold maxLen at h2; omega, fun _ => ⟨g, rfl, fun j x hx => ?_⟩⟩
    have hj : j < n := by rw [← hl]; exact (List.getElem?_eq_some_iff.1 hx).1
    rw [h.cellAt j (by omega), intsC, List.getElem?_map, hx]; rfl
theorem IntsAt.below {w w' : World} {A : Option Addr} {n c : Nat} {l : List Int} (h : IntsAt w A n c l) (hb : Below w.heap.size w w') : IntsAt w' A n c l :=
  ⟨h.len, h.room, fun hn => let ⟨g, ha, hc⟩ := h.cells hn; ⟨g, ha, fun j x hx => (hb.cell (block_lt_of_cell (hc j x hx))).trans (hc j x hx)⟩⟩

set_option maxHeartbeats 2000000 in
theorem numbers_any (A B : Option Addr) (n c m d : Nat) (l r : List Int) (w : World) (ha : IntsAt w A n c l) (hb : IntsAt w B m d r) :
    Calls Tryz.prog 13 #[.slice A n c, .slice B m d] w fun e w' => e = .returned (.bool (decide (l = r))) ∧ Below w.heap.size w w' := by
  have HA := hide ha
  have HB := hide hb
  have ra := ha.room
  have rb := hb.room
  clear ha hb
  by_cases hnm : n = m
  · subst hnm
    go_enter Tryz.func13, Tryz.ntmps13
    go_wp2_with fail
    go_loopw [5] (fun i wr => ∃ k : Nat, k ≤ n ∧ i = .int .i64 k ∧ Hid (l.take k = r.take k) ∧ Below w.heap.size w wr) (fun i _ => n - (intOf i).toNat)
    case atStart => exact ⟨0, by omega, rfl, rfl, Below.refl _ _⟩
    case round =>
      obtain ⟨k, hk, rfl, HT, hbw⟩ := hrel
      have HBW := hide hbw
      have hsz := hbw.size
      clear hbw
      by_cases hlt : k < n
      · obtain ⟨g1, rfl, hc1⟩ := HA.out.cells (by omega)
        obtain ⟨g2, rfl, hc2⟩ := HB.out.cells (by omega)
        obtain ⟨x, hx⟩ : ∃ x, l[k]? = some x := ⟨_, List.getElem?_eq_getElem (by rw [HA.out.len]; exact hlt)⟩
        obtain ⟨y, hy⟩ : ∃ y, r[k]? = some y := ⟨_, List.getElem?_eq_getElem (by rw [HB.out.len]; exact hlt)⟩
        have c1 := hc1 k x hx
        have c2 := hc2 k y hy
        have c1 := (HBW.out.cell (block_lt_of_cell c1)).trans c1
        have c2 := (HBW.out.cell (block_lt_of_cell c2)).trans c2
        have HX := hide hx
        have HY := hide hy
        clear hc1 hc2 hx hy
        have hi1 : (k : Int) < (n : Int) := by omega
        have hi0 : (0 : Int) ≤ (k : Int) := by omega
        by_cases hxy : x = y
        · subst hxy
          go_wp2_with fail
          go_quiet (fail)
          go_wp2_with fail
          go_roundw
          case rel =>
            refine ⟨k + 1, by omega, by go_num, hide ?_, ?_⟩
            · rw [List.take_add_one, List.take_add_one, HT.out, HX.out, HY.out]
            · exact ⟨HBW.out.os, HBW.out.tape, HBW.out.output, HBW.out.size, HBW.out.block⟩
          case measure => simp [intOf]; omega
        · have hb1 : (x != y) = true := by simpa using hxy
          have HXY := hide hxy
          clear hxy
          go_wp2_with fail
          go_quiet (fail)
          go_wp2_with fail
          go_ret
          have hne : l ≠ r := fun e => HXY.out (by
            have h1 := HX.out
            rw [e, HY.out] at h1
            cases h1; rfl)
          exact ⟨ret_bool (by simp [hne]), ⟨HBW.out.os, HBW.out.tape, HBW.out.output, HBW.out.size, HBW.out.block⟩⟩
      · obtain rfl : k = n := by omega
        go_wp2_with fail
        go_ret
        have he : l = r := by
          have := HT.out
          rwa [List.take_of_length_le (by rw [HA.out.len]; exact Nat.le_refl _), List.take_of_length_le (by rw [HB.out.len]; exact Nat.le_refl _)] at this
        exact ⟨ret_bool (by simp [he]), HBW.out⟩
  · have hne : l ≠ r := fun e => hnm (by rw [← HA.out.len, ← HB.out.len, e])
    have HNE := hide hne
    clear hne
    have h1 : ((n : Int) != (m : Int)) = true := by simp; omega
    have h2 : (n != m) = true := by simpa using hnm
    have h3 : (n == m) = false := by simpa using hnm
    go_enter Tryz.func13, Tryz.ntmps13
    go_wp2_with fail
    go_ret
    exact ⟨ret_bool (by simp [HNE.out]), Below.refl _ _⟩
end Go.Proofs.YticcfbeocepnpaaGreatDoor
