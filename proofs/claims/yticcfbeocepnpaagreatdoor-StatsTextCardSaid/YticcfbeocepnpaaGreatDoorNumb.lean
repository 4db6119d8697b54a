/-
  Numbers in decimal; the line of a count.
-/
import Derived.Test.YticcfbeocepnpaaGreatDoorApp
import Derived.Test.YticcfbeocepnpaaGreatDoorAuthor
import Derived.Lib.ItoaNum
import Derived.Deep.RegionHeld3
set_option linter.unusedSimpArgs false
set_option maxRecDepth 100000
namespace Go.Proofs.YticcfbeocepnpaaGreatDoor
open Go.RowKit Go.Shelf Pl

/-- A number in decimal. -/
def decB (n : Nat) : ByteArray := ⟨(Lib.decDigits n).toArray⟩
theorem decB_small {n : Nat} (h : n < 10) : decB n = ⟨#[UInt8.ofNat (48 + n)]⟩ := by
  unfold decB
  rw [Lib.decDigits, dif_pos h]
theorem decB_big {n : Nat} (h : ¬ n < 10) : decB n = decB (n / 10) ++ decB (n % 10) := by
  rw [decB_small (Nat.mod_lt n (by omega))]
  unfold decB
  rw [Lib.decDigits, dif_neg h]
  refine (string_of_list ?_).symm
  rw [ByteArray.data_append]
  simp
theorem decB_size : ∀ (n : Nat), (decB n).size ≤ n + 1 := by
  intro n
  induction n using Nat.strongRecOn with
  | _ n ih =>
    by_cases h : n < 10
    · rw [decB_small h]; show 1 ≤ _; omega
    · rw [decB_big h, ByteArray.size_append, decB_small (Nat.mod_lt n (by omega))]
      have := ih (n / 10) (by omega)
      show _ + 1 ≤ _
      omega
theorem decB_20 {n : Nat} (h : n < 10000000000) : (decB n).size ≤ 10 := by
  have step : ∀ (k m : Nat), m < 10 ^ (k + 1) → (decB m).size ≤ k + 1 := by
    intro k
    induction k with
    | zero => intro m hm; rw [decB_small (by simpa using hm)]; exact Nat.le_refl 1
    | succ k ih =>
      intro m hm
      by_cases h : m < 10
      · rw [decB_small h]; show 1 ≤ _; omega
      · rw [decB_big h, ByteArray.size_append, decB_small (Nat.mod_lt m (by omega))]
        have := ih (m / 10) (by rw [Nat.div_lt_iff_lt_mul (by omega)]; rw [Nat.pow_succ] at hm; exact hm)
        show _ + 1 ≤ _
        omega
  exact step 9 n (by simpa using h)
theorem add_str (a b : ByteArray) (h : a.size + b.size ≤ 9223372036854775807) : Op.stringOp .add a b = pure (.string (a ++ b)) := by
  have e2 : IntKind.i64.max = 9223372036854775807 := by decide
  unfold Op.stringOp
  simp only [e2]
  rw [if_neg (by omega)]

/-- '[]T{x}' as a row of the call's own, x of one cell. -/
theorem ownsRow_one (w : World) (base : Nat) (e : TypeId) (x : Value) (hb : base ≤ w.heap.size) : (w.alloc (.cells #[x] e)).ownsRow base e 1 (.slice (some ⟨w.heap.size, 0, none⟩) 1 1) 1 [x] :=
  ⟨by simp, .inr ⟨w.heap.size, 1, #[x], rfl, hb, heap_alloc_new w _, Nat.le_refl _, by decide, by simp, by simp⟩⟩

set_option maxHeartbeats 1000000 in
/-- 'number'. -/
theorem number_any : ∀ (n : Nat) (w : World), n ≤ 9223372036854775807 →
    Calls Tryz.prog 44 #[.int .i64 (n : Int)] w fun e w' => e = .returned (.string (decB n)) ∧ Below w.heap.size w w' := by
  intro n
  induction n using Nat.strongRecOn with
  | _ n ih =>
    intro w hn
    by_cases h : n < 10
    · have HD := hide (decB_small h)
      have hw : IntKind.i64.wrap (48 + (n : Int)) = 48 + (n : Int) := IntWalk.i64_in _ (by omega)
      have hu : IntKind.u8.wrap (48 + (n : Int)) = 48 + (n : Int) := by
        unfold IntKind.wrap
        simp [IntKind.signed, IntKind.bits]
        omega
      have hcv : (convert 75 9 (.slice (some ⟨w.heap.size, 0, none⟩) 1 1)).run Tryz.prog (w.alloc (.cells #[.int .u8 (48 + (n : Int))] 5)) = .ok (.string (decB n)) (w.alloc (.cells #[.int .u8 (48 + (n : Int))] 5)) := by
        rw [HD.out]
        have hv : Value.int .u8 (48 + (n : Int)) = Value.int .u8 (((UInt8.ofNat (48 + n)).toNat : Nat) : Int) := by
          congr 1
          rw [UInt8.toNat_ofNat']
          omega
        rw [hv]
        exact run_convert_own (xs := [UInt8.ofNat (48 + n)]) 75 9 Tryz.underlying75 Tryz.underlying5 Tryz.underlying9 (ownsRow_one w 0 5 _ (Nat.zero_le _)) (by omega)
      clear ih
      go_enter Tryz.func44, Tryz.ntmps44
      go_wp2_with fail
      go_ret
      exact ⟨rfl, (Below.refl _ _).alloc (Nat.le_refl _) _⟩
    · have HD := hide (decB_big h)
      have hs1 := decB_size (n / 10)
      have hs2 := decB_size (n % 10)
      have H1 : Hid (∀ w, Calls Tryz.prog 44 #[.int .i64 ((n / 10 : Nat) : Int)] w fun e w' => e = .returned (.string (decB (n / 10))) ∧ Below w.heap.size w w') := hide fun w => ih (n / 10) (by omega) w (by omega)
      have H2 : Hid (∀ w, Calls Tryz.prog 44 #[.int .i64 ((n % 10 : Nat) : Int)] w fun e w' => e = .returned (.string (decB (n % 10))) ∧ Below w.heap.size w w') := hide fun w => ih (n % 10) (by omega) w (by omega)
      have hadd : Op.stringOp .add (decB (n / 10)) (decB (n % 10)) = pure (.string (decB n)) := by
        rw [add_str _ _ (by omega), HD.out]
      obtain ⟨s1, hs1⟩ : ∃ s1, decB (n / 10) = s1 := ⟨_, rfl⟩
      obtain ⟨s2, hs2⟩ : ∃ s2, decB (n % 10) = s2 := ⟨_, rfl⟩
      obtain ⟨s3, hs3⟩ : ∃ s3, decB n = s3 := ⟨_, rfl⟩
      rw [hs1] at H1 hadd
      rw [hs2] at H2 hadd
      rw [hs3] at hadd ⊢
      have e1 : Int.tdiv (n : Int) 10 = ((n / 10 : Nat) : Int) := by rw [Int.tdiv_eq_ediv_of_nonneg (by omega)]; omega
      have e2 : Int.tmod (n : Int) 10 = ((n % 10 : Nat) : Int) := by rw [Int.tmod_eq_emod_of_nonneg (by omega)]; omega
      clear ih HD hs1 hs2 hs3
      go_enter Tryz.func44, Tryz.ntmps44
      go_wp2_with fail
      refine (H1.out _).mono ?_
      rintro e w1 ⟨rfl, hb1⟩
      go_wp2_with fail
      refine (H2.out _).mono ?_
      rintro e w2 ⟨rfl, hb2⟩
      go_wp2_with fail
      go_ret
      exact ⟨rfl, hb1.trans (hb2.mono hb1.size)⟩

end Go.Proofs.YticcfbeocepnpaaGreatDoor
