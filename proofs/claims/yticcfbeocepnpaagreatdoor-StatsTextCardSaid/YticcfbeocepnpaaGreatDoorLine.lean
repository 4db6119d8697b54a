/-
  The line of a count.
-/
import Derived.Test.YticcfbeocepnpaaGreatDoorNumb
set_option linter.unusedSimpArgs false
set_option maxRecDepth 100000
namespace Go.Proofs.YticcfbeocepnpaaGreatDoor
open Go.RowKit Go.Shelf Pl

/-- A line. -/
def lineB (s : ByteArray) (a b : Nat) : ByteArray := s ++ ⟨#[32]⟩ ++ decB a ++ ⟨#[32]⟩ ++ decB b ++ ⟨#[10]⟩
theorem lineB_size (s : ByteArray) {a b : Nat} (ha : a < 10000000000) (hb : b < 10000000000) : (lineB s a b).size ≤ s.size + 23 := by
  have h1 := decB_20 ha
  have h2 := decB_20 hb
  unfold lineB
  simp only [ByteArray.size_append]
  have e1 : (⟨#[32]⟩ : ByteArray).size = 1 := rfl
  have e2 : (⟨#[10]⟩ : ByteArray).size = 1 := rfl
  omega

set_option maxHeartbeats 1000000 in
/-- 'line'. -/
theorem line_any (s : ByteArray) (a b : Nat) (w : World) (hs : s.size ≤ 4611686018427387904) (ha : a < 10000000000) (hb : b < 10000000000) :
    Calls Tryz.prog 43 #[.string s, .agg #[.int .i64 (a : Int), .int .i64 (b : Int)]] w fun e w' => e = .returned (.string (lineB s a b)) ∧ Below w.heap.size w w' := by
  have g1 := decB_20 ha
  have g2 := decB_20 hb
  have x1 : (⟨#[32]⟩ : ByteArray).size = 1 := rfl
  have x2 : (⟨#[10]⟩ : ByteArray).size = 1 := rfl
  have a1 : Op.stringOp .add s ⟨#[32]⟩ = pure (.string (s ++ ⟨#[32]⟩)) := add_str _ _ (by omega)
  have a2 : Op.stringOp .add (s ++ ⟨#[32]⟩) (decB a) = pure (.string (s ++ ⟨#[32]⟩ ++ decB a)) := add_str _ _ (by simp only [ByteArray.size_append]; omega)
  have a3 : Op.stringOp .add (s ++ ⟨#[32]⟩ ++ decB a) ⟨#[32]⟩ = pure (.string (s ++ ⟨#[32]⟩ ++ decB a ++ ⟨#[32]⟩)) := add_str _ _ (by simp only [ByteArray.size_append]; omega)
  have a4 : Op.stringOp .add (s ++ ⟨#[32]⟩ ++ decB a ++ ⟨#[32]⟩) (decB b) = pure (.string (s ++ ⟨#[32]⟩ ++ decB a ++ ⟨#[32]⟩ ++ decB b)) := add_str _ _ (by simp only [ByteArray.size_append]; omega)
  have a5 : Op.stringOp .add (s ++ ⟨#[32]⟩ ++ decB a ++ ⟨#[32]⟩ ++ decB b) ⟨#[10]⟩ = pure (.string (lineB s a b)) := add_str _ _ (by simp only [ByteArray.size_append]; omega)
  have HN : Hid (∀ n w, n < 10000000000 → Calls Tryz.prog 44 #[.int .i64 ((n : Nat) : Int)] w fun e w' => e = .returned (.string (decB n)) ∧ Below w.heap.size w w') := hide fun n w h => number_any n w (by omega)
  obtain ⟨W, hW⟩ : ∃ W, W = w.alloc (.cells #[.int .i64 (a : Int), .int .i64 (b : Int)] 34) := ⟨_, rfl⟩
  have k1 : W.cell? ⟨w.heap.size, 0, none⟩ = some (.int .i64 (a : Int)) := by rw [hW]; simp [go_sem]
  have k2 : W.cell? ⟨w.heap.size, 1, none⟩ = some (.int .i64 (b : Int)) := by rw [hW]; simp [go_sem]
  have HW : Hid (Below w.heap.size w W) := hide (by rw [hW]; (repeat (first | exact Below.refl _ _ | with_reducible assumption | (refine Below.setCell ?_ (by simp <;> omega) _) | (refine Below.alloc ?_ (by simp <;> omega) _))))
  have HA : Hid (∀ (n : Nat) w', (n = a ∨ n = b) → Below W.heap.size W w' → Calls Tryz.prog 44 #[.int .i64 (n : Int)] w' fun e w'' => e = .returned (.string (decB n)) ∧ Below W.heap.size W w'') := hide fun n w' hn hb' => (HN.out n w' (by rcases hn with rfl | rfl <;> assumption)).mono (by rintro e w'' ⟨rfl, hq⟩; exact ⟨rfl, hb'.trans (hq.mono hb'.size)⟩)
  have HK : Hid (∀ w', Below W.heap.size W w' → w'.cell? ⟨w.heap.size, 0, none⟩ = some (.int .i64 (a : Int)) ∧ w'.cell? ⟨w.heap.size, 1, none⟩ = some (.int .i64 (b : Int)) ∧ Below W.heap.size W w') := hide fun w' hb' =>
    ⟨(hb'.cell (block_lt_of_cell k1)).trans k1, (hb'.cell (block_lt_of_cell k2)).trans k2, hb'⟩
  obtain ⟨L, hL⟩ : ∃ L, lineB s a b = L := ⟨_, rfl⟩
  rw [hL] at a5 ⊢
  obtain ⟨s1, hs1⟩ : ∃ s1, s ++ (⟨#[32]⟩ : ByteArray) = s1 := ⟨_, rfl⟩
  rw [hs1] at a1 a2 a3 a4 a5
  obtain ⟨s2, hs2⟩ : ∃ s2, s1 ++ decB a = s2 := ⟨_, rfl⟩
  rw [hs2] at a2 a3 a4 a5
  obtain ⟨s3, hs3⟩ : ∃ s3, s2 ++ (⟨#[32]⟩ : ByteArray) = s3 := ⟨_, rfl⟩
  rw [hs3] at a3 a4 a5
  obtain ⟨s4, hs4⟩ : ∃ s4, s3 ++ decB b = s4 := ⟨_, rfl⟩
  rw [hs4] at a4 a5
  have HWW := hide hW
  clear hW hL hs1 hs2 hs3 hs4 g1 g2 x1 x2 HN
  go_enter Tryz.func43, Tryz.ntmps43
  go_upto_region 1 with fail
  rw [← HWW.out]
  go_region_held3 (fun w' => w'.cell? ⟨w.heap.size, 0, none⟩ = some (.int .i64 (a : Int)) ∧ w'.cell? ⟨w.heap.size, 1, none⟩ = some (.int .i64 (b : Int)) ∧ Below W.heap.size W w')
    (first | exact HK.out _ (by assumption) | exact HK.out _ (Below.refl _ _).drew | exact HK.out _ (Below.refl _ _))
    ((first
      | (go_at_call 44; refine (HA.out _ _ ?_ ?_).mono ?_; (· (first | exact .inl rfl | exact .inr rfl)); (· (first | assumption | exact (Below.refl _ _).drew | (go_split_ands; assumption))); rintro e w6 ⟨rfl, hb6⟩)))
  all_goals
    go_split_ands
    have HBZ := hide (HW.out.trans (Below.mono (by assumption) HW.out.size))
    go_wp2_with fail
    go_ret
    exact ⟨rfl, HBZ.out⟩
end Go.Proofs.YticcfbeocepnpaaGreatDoor
