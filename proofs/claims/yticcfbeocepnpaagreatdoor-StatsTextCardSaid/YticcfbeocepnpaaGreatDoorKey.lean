/-
  The key of the counts' map as a key of a map.
-/
import Derived.Test.YticcfbeocepnpaaGreatDoorCount
import Derived.DeepKeys4
import Derived.KernelRfl
set_option linter.unusedSimpArgs false
set_option maxRecDepth 100000
namespace Go.Proofs.YticcfbeocepnpaaGreatDoor
open Go.RowKit Pl

theorem key_laidOut : laidOutB Tryz.prog = true := by kernel_rfl
theorem key_law : WideMaps.KeyLaw Tryz.prog 64 := deep_law_laid key_laidOut (m := 4) (by omega) (of_decide_eq_true (by kernel_rfl)) (by kernel_rfl) (by kernel_rfl)
theorem key_gate : Tryz.prog.keyType 64 = true := by kernel_rfl
theorem key_cells : Tryz.prog.cellsOf 64 = 3 := by kernel_rfl
theorem int_cells : Tryz.prog.cellsOf 3 = 1 := by kernel_rfl
theorem string_cells : Tryz.prog.cellsOf 9 = 1 := by kernel_rfl

theorem lits_int (n : Nat) (d : Int) (h : (Lit.int .i64 d).wf = true) : Tryz.prog.keyLits (n + 1) 3 [.int .i64 d] = some [.int .i64 d] := by
  unfold Program.keyLits; rw [Tryz.underlying3]; simp [h]
theorem lits_string (n : Nat) (s : ByteArray) (h : s.size ≤ maxLen) : Tryz.prog.keyLits (n + 1) 9 [.string s] = some [.string s.data.toList] := by
  unfold Program.keyLits; rw [Tryz.underlying9]; simp [h]
theorem lits_key (n : Nat) (d k : Int) (s : ByteArray) (h1 : (Lit.int .i64 d).wf = true) (h2 : (Lit.int .i64 k).wf = true) (h3 : s.size ≤ maxLen) :
    Tryz.prog.keyLits (n + 1 + 1) 64 [.int .i64 d, .int .i64 k, .string s] = some [.int .i64 d, .int .i64 k, .string s.data.toList] := by
  have a1 := lits_int n d h1
  have a2 := lits_int n k h2
  have a3 := lits_string n s h3
  unfold Program.keyLits
  rw [Tryz.underlying64]
  simp only [key_cells]
  simp [int_cells, string_cells, a1, a2, a3]
theorem i64_wf (d : Int) (h1 : -9223372036854775808 ≤ d) (h2 : d ≤ 9223372036854775807) : (Lit.int .i64 d).wf = true := by
  have e1 : IntKind.i64.min = -9223372036854775808 := by decide
  have e2 : IntKind.i64.max = 9223372036854775807 := by decide
  simp [Lit.wf]; omega

theorem key_lit (k : Ky) (h : keyOk k) : ∃ l, keyOf Tryz.prog 64 (keyV k) = some l := by
  obtain ⟨d, n, s⟩ := k
  obtain ⟨h1, h2, h3, h4, h5⟩ := h
  simp only at h1 h2 h3 h4 h5
  unfold keyOf
  rw [Tryz.underlying64]
  simp only [keyV_mk, key_gate, Value.formed, Tryz.underlying64, key_cells, Bool.true_and]
  refine ⟨.string (keyBytes [.int .i64 d, .int .i64 n, .string s.data.toList]), ?_⟩
  · have hz : ∃ q, Tryz.prog.types.size = q + 1 := ⟨Tryz.prog.types.size - 1, by rw [Tryz.types_size]⟩
    obtain ⟨q, hq⟩ := hz
    rw [if_pos (by rfl), hq]
    show Option.map _ (Tryz.prog.keyLits (q + 1 + 1) 64 [.int .i64 d, .int .i64 n, .string s]) = _
    rw [lits_key q d n s (i64_wf _ h1 h2) (i64_wf _ h3 h4) h5]
    rfl

theorem key_enc : Mp.Enc Tryz.prog 64 keyV keyOk where
  keyed := Go.Maps.Keyed.of_law key_law
  lit := key_lit
  inj := by
    rintro ⟨a, b, c⟩ ⟨d, e, f⟩ h
    simp [keyV] at h
    obtain ⟨rfl, rfl, rfl⟩ := h
    rfl
end Go.Proofs.YticcfbeocepnpaaGreatDoor
