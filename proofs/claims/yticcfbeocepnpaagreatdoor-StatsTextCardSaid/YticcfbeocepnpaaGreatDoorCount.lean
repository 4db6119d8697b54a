/-
  Counts: plus, New, the predicates of Total and Of, sum over a map.
-/
import Derived.Test.YticcfbeocepnpaaGreatDoorProg
import Derived.Test.YticcfbeocepnpaaGreatDoorEvent
import Derived.Test.YticcfbeocepnpaaGreatDoorMap
import Derived.Maps.RangeWalk
import Derived.KernelRfl
import Derived.Handy
import Derived.Laws.CopyOwn
import Derived.Laws.Tables
set_option linter.unusedSimpArgs false
set_option maxRecDepth 100000
namespace Go.Proofs.YticcfbeocepnpaaGreatDoor
open Go.RowKit Pl

abbrev Ky := Int × Int × ByteArray
abbrev Ct := Int × Int
def cntV (c : Ct) : Value := .agg #[.int .i64 c.1, .int .i64 c.2]
def keyV (k : Ky) : Value := .agg #[.int .i64 k.1, .int .i64 k.2.1, .string k.2.2]
theorem cntV_mk (a b : Int) : cntV (a, b) = .agg #[.int .i64 a, .int .i64 b] := rfl
theorem keyV_mk (a b : Int) (s : ByteArray) : keyV (a, b, s) = .agg #[.int .i64 a, .int .i64 b, .string s] := rfl
def keyOk (k : Ky) : Prop := -9223372036854775808 ≤ k.1 ∧ k.1 ≤ 9223372036854775807 ∧ -9223372036854775808 ≤ k.2.1 ∧ k.2.1 ≤ 9223372036854775807 ∧ k.2.2.size ≤ maxLen
/-- A map of counts. -/
abbrev CMap (w : World) (b : Nat) (f : List (Ky × Ct)) : Prop := Mp.IsMap keyV cntV keyOk w b f
abbrev CIter (w : World) (b r : Nat) (f left : List (Ky × Ct)) : Prop := Mp.IterAt keyV cntV keyOk w b r f left

theorem plus_any (a b c d : Int) (w : World) (h1 : -9223372036854775808 ≤ a + c) (h2 : a + c ≤ 9223372036854775807) (h3 : -9223372036854775808 ≤ b + d) (h4 : b + d ≤ 9223372036854775807) :
    Calls Tryz.prog 47 #[cntV (a, b), cntV (c, d)] w fun e w' => e = .returned (cntV (a + c, b + d)) ∧ Below w.heap.size w w' := by
  have e1 := IntWalk.i64_in (a + c) (by omega)
  have e2 := IntWalk.i64_in (b + d) (by omega)
  simp only [cntV_mk]
  go_enter Tryz.func47, Tryz.ntmps47
  go_wp2_with fail
  go_returns
  exact ⟨rfl, by (repeat (first | exact Below.refl _ _ | with_reducible assumption | (refine Below.setCell ?_ (by simp <;> omega) _) | (refine Below.alloc ?_ (by simp <;> omega) _)))⟩

theorem total1_any (k : Ky) (w : World) : Calls Tryz.prog 33 #[keyV k] w fun e w' => e = .returned (.bool (k.2.1 == 0)) ∧ Below w.heap.size w w' := by
  obtain ⟨d, n, s⟩ := k
  rw [keyV_mk]
  go_enter Tryz.func33, Tryz.ntmps33
  go_wp2_with fail
  go_ret
  exact ⟨rfl, by (repeat (first | exact Below.refl _ _ | with_reducible assumption | (refine Below.setCell ?_ (by simp <;> omega) _) | (refine Below.alloc ?_ (by simp <;> omega) _)))⟩

/-- What Of counts. -/
def ofB (kind : Int) (name : ByteArray) (fro til : Int) (k : Ky) : Bool := k.2.1 == kind && (decide (k.2.2 = name) && (decide (fro ≤ k.1) && decide (k.1 ≤ til)))

theorem of1_any (k : Ky) (kb nb fb tb : Nat) (kind fro til : Int) (name : ByteArray) (w : World) 
    (h1 : w.cell? ⟨kb, 0, none⟩ = some (.int .i64 kind)) (h2 : w.cell? ⟨nb, 0, none⟩ = some (.string name)) (h3 : w.cell? ⟨fb, 0, none⟩ = some (.int .i64 fro)) (h4 : w.cell? ⟨tb, 0, none⟩ = some (.int .i64 til)) :
    Calls Tryz.prog 55 #[keyV k, .pointer (some ⟨kb, 0, none⟩), .pointer (some ⟨nb, 0, none⟩), .pointer (some ⟨fb, 0, none⟩), .pointer (some ⟨tb, 0, none⟩)] w fun e w' => e = .returned (.bool (ofB kind name fro til k)) ∧ Below w.heap.size w w' := by
  obtain ⟨d, n, s⟩ := k
  rw [keyV_mk]
  have HB1 := block_lt_of_cell h1
  have HB2 := block_lt_of_cell h2
  have HB3 := block_lt_of_cell h3
  have HB4 := block_lt_of_cell h4
  simp only at HB1 HB2 HB3 HB4
  go_enter Tryz.func55, Tryz.ntmps55
  go_upto_region 1 with fail
  repeat' (first | ((with_reducible apply mg_pick_true); (· exact rfl); (· exact rfl); (· exact rfl); (· exact rfl); (simp only [Act.put, List.setIfInBounds_toArray, List.set_cons_zero, List.set_cons_succ])) | ((with_reducible apply mg_pick_false); (· exact rfl); (· exact rfl); (· exact rfl); (· exact rfl); (simp only [Act.put, List.setIfInBounds_toArray, List.set_cons_zero, List.set_cons_succ])) | ((with_reducible apply mg_pick_and); (· exact rfl); (· exact rfl); (· exact rfl); (· exact rfl); (· exact rfl); (· exact rfl); intro _ _; (simp only [Act.put, List.setIfInBounds_toArray, List.set_cons_zero, List.set_cons_succ])) | ((with_reducible apply mg_pick_or); (· exact rfl); (· exact rfl); (· exact rfl); (· exact rfl); (· exact rfl); (· exact rfl); intro _ _; (simp only [Act.put, List.setIfInBounds_toArray, List.set_cons_zero, List.set_cons_succ])) | ((with_reducible apply mg_cmp); (· exact rfl); (· exact rfl); (· exact rfl); (· (go_simp; (with_reducible exact rfl))); intro _ _; (simp only [Act.put, List.setIfInBounds_toArray, List.set_cons_zero, List.set_cons_succ])) | ((with_reducible apply mgc_t); (· exact rfl); (· exact rfl); (· exact rfl); (· exact rfl); (· exact rfl); (· exact rfl); (· (intro hb; (first | ((simp only [hb, cond_true, cond_false]); first | (exact run_pick_and rfl rfl rfl rfl) | (exact run_pick_or rfl rfl rfl rfl) | (exact run_pick_bool rfl rfl rfl rfl)) | ((simp only [hb, cond_true, cond_false]); exact run_index_str rfl Tryz.underlying9 rfl rfl (by omega) (by omega)) | (go_simp; (with_reducible exact rfl))))); intro _ _; (simp only [Act.put, List.setIfInBounds_toArray, List.set_cons_zero, List.set_cons_succ])) | ((with_reducible apply mgc_f); (· exact rfl); (· exact rfl); (· exact rfl); (· exact rfl); (· exact rfl); (· exact rfl); (· (intro hb; (first | ((simp only [hb, cond_true, cond_false]); first | (exact run_pick_and rfl rfl rfl rfl) | (exact run_pick_or rfl rfl rfl rfl) | (exact run_pick_bool rfl rfl rfl rfl)) | ((simp only [hb, cond_true, cond_false]); exact run_index_str rfl Tryz.underlying9 rfl rfl (by omega) (by omega)) | (go_simp; (with_reducible exact rfl))))); intro _ _; (simp only [Act.put, List.setIfInBounds_toArray, List.set_cons_zero, List.set_cons_succ])) | ((with_reducible apply mgc_tt); (· exact rfl); (· exact rfl); (· exact rfl); (· exact rfl); (· exact rfl); (· exact rfl); (· (intro hb hx; (first | ((simp only [hb, hx, cond_true, cond_false]); first | (exact run_pick_and rfl rfl rfl rfl) | (exact run_pick_or rfl rfl rfl rfl) | (exact run_pick_bool rfl rfl rfl rfl)) | ((simp only [hb, hx, cond_true, cond_false]); exact run_index_str rfl Tryz.underlying9 rfl rfl (by omega) (by omega)) | (go_simp; (with_reducible exact rfl))))); intro _ _; (simp only [Act.put, List.setIfInBounds_toArray, List.set_cons_zero, List.set_cons_succ])) | ((with_reducible apply mgc_tf); (· exact rfl); (· exact rfl); (· exact rfl); (· exact rfl); (· exact rfl); (· exact rfl); (· (intro hb hx; (first | ((simp only [hb, hx, cond_true, cond_false]); first | (exact run_pick_and rfl rfl rfl rfl) | (exact run_pick_or rfl rfl rfl rfl) | (exact run_pick_bool rfl rfl rfl rfl)) | ((simp only [hb, hx, cond_true, cond_false]); exact run_index_str rfl Tryz.underlying9 rfl rfl (by omega) (by omega)) | (go_simp; (with_reducible exact rfl))))); intro _ _; (simp only [Act.put, List.setIfInBounds_toArray, List.set_cons_zero, List.set_cons_succ])) | ((with_reducible apply mgc_ft); (· exact rfl); (· exact rfl); (· exact rfl); (· exact rfl); (· exact rfl); (· exact rfl); (· (intro hb hx; (first | ((simp only [hb, hx, cond_true, cond_false]); first | (exact run_pick_and rfl rfl rfl rfl) | (exact run_pick_or rfl rfl rfl rfl) | (exact run_pick_bool rfl rfl rfl rfl)) | ((simp only [hb, hx, cond_true, cond_false]); exact run_index_str rfl Tryz.underlying9 rfl rfl (by omega) (by omega)) | (go_simp; (with_reducible exact rfl))))); intro _ _; (simp only [Act.put, List.setIfInBounds_toArray, List.set_cons_zero, List.set_cons_succ])) | ((with_reducible apply mgc_ff); (· exact rfl); (· exact rfl); (· exact rfl); (· exact rfl); (· exact rfl); (· exact rfl); (· (intro hb hx; (first | ((simp only [hb, hx, cond_true, cond_false]); first | (exact run_pick_and rfl rfl rfl rfl) | (exact run_pick_or rfl rfl rfl rfl) | (exact run_pick_bool rfl rfl rfl rfl)) | ((simp only [hb, hx, cond_true, cond_false]); exact run_index_str rfl Tryz.underlying9 rfl rfl (by omega) (by omega)) | (go_simp; (with_reducible exact rfl))))); intro _ _; (simp only [Act.put, List.setIfInBounds_toArray, List.set_cons_zero, List.set_cons_succ])) | ((with_reducible apply mgc_ttt); (· exact rfl); (· exact rfl); (· exact rfl); (· exact rfl); (· exact rfl); (· exact rfl); (· (intro hb hx hy; (first | ((simp only [hb, hx, hy, cond_true, cond_false]); first | (exact run_pick_and rfl rfl rfl rfl) | (exact run_pick_or rfl rfl rfl rfl) | (exact run_pick_bool rfl rfl rfl rfl)) | ((simp only [hb, hx, hy, cond_true, cond_false]); exact run_index_str rfl Tryz.underlying9 rfl rfl (by omega) (by omega)) | (go_simp; (with_reducible exact rfl))))); intro _ _; (simp only [Act.put, List.setIfInBounds_toArray, List.set_cons_zero, List.set_cons_succ])) | ((with_reducible apply mgc_ttf); (· exact rfl); (· exact rfl); (· exact rfl); (· exact rfl); (· exact rfl); (· exact rfl); (· (intro hb hx hy; (first | ((simp only [hb, hx, hy, cond_true, cond_false]); first | (exact run_pick_and rfl rfl rfl rfl) | (exact run_pick_or rfl rfl rfl rfl) | (exact run_pick_bool rfl rfl rfl rfl)) | ((simp only [hb, hx, hy, cond_true, cond_false]); exact run_index_str rfl Tryz.underlying9 rfl rfl (by omega) (by omega)) | (go_simp; (with_reducible exact rfl))))); intro _ _; (simp only [Act.put, List.setIfInBounds_toArray, List.set_cons_zero, List.set_cons_succ])) | ((with_reducible apply mgc_tft); (· exact rfl); (· exact rfl); (· exact rfl); (· exact rfl); (· exact rfl); (· exact rfl); (· (intro hb hx hy; (first | ((simp only [hb, hx, hy, cond_true, cond_false]); first | (exact run_pick_and rfl rfl rfl rfl) | (exact run_pick_or rfl rfl rfl rfl) | (exact run_pick_bool rfl rfl rfl rfl)) | ((simp only [hb, hx, hy, cond_true, cond_false]); exact run_index_str rfl Tryz.underlying9 rfl rfl (by omega) (by omega)) | (go_simp; (with_reducible exact rfl))))); intro _ _; (simp only [Act.put, List.setIfInBounds_toArray, List.set_cons_zero, List.set_cons_succ])) | ((with_reducible apply mgc_tff); (· exact rfl); (· exact rfl); (· exact rfl); (· exact rfl); (· exact rfl); (· exact rfl); (· (intro hb hx hy; (first | ((simp only [hb, hx, hy, cond_true, cond_false]); first | (exact run_pick_and rfl rfl rfl rfl) | (exact run_pick_or rfl rfl rfl rfl) | (exact run_pick_bool rfl rfl rfl rfl)) | ((simp only [hb, hx, hy, cond_true, cond_false]); exact run_index_str rfl Tryz.underlying9 rfl rfl (by omega) (by omega)) | (go_simp; (with_reducible exact rfl))))); intro _ _; (simp only [Act.put, List.setIfInBounds_toArray, List.set_cons_zero, List.set_cons_succ])) | ((with_reducible apply mgc_ftt); (· exact rfl); (· exact rfl); (· exact rfl); (· exact rfl); (· exact rfl); (· exact rfl); (· (intro hb hx hy; (first | ((simp only [hb, hx, hy, cond_true, cond_false]); first | (exact run_pick_and rfl rfl rfl rfl) | (exact run_pick_or rfl rfl rfl rfl) | (exact run_pick_bool rfl rfl rfl rfl)) | ((simp only [hb, hx, hy, cond_true, cond_false]); exact run_index_str rfl Tryz.underlying9 rfl rfl (by omega) (by omega)) | (go_simp; (with_reducible exact rfl))))); intro _ _; (simp only [Act.put, List.setIfInBounds_toArray, List.set_cons_zero, List.set_cons_succ])) | ((with_reducible apply mgc_ftf); (· exact rfl); (· exact rfl); (· exact rfl); (· exact rfl); (· exact rfl); (· exact rfl); (· (intro hb hx hy; (first | ((simp only [hb, hx, hy, cond_true, cond_false]); first | (exact run_pick_and rfl rfl rfl rfl) | (exact run_pick_or rfl rfl rfl rfl) | (exact run_pick_bool rfl rfl rfl rfl)) | ((simp only [hb, hx, hy, cond_true, cond_false]); exact run_index_str rfl Tryz.underlying9 rfl rfl (by omega) (by omega)) | (go_simp; (with_reducible exact rfl))))); intro _ _; (simp only [Act.put, List.setIfInBounds_toArray, List.set_cons_zero, List.set_cons_succ])) | ((with_reducible apply mgc_fft); (· exact rfl); (· exact rfl); (· exact rfl); (· exact rfl); (· exact rfl); (· exact rfl); (· (intro hb hx hy; (first | ((simp only [hb, hx, hy, cond_true, cond_false]); first | (exact run_pick_and rfl rfl rfl rfl) | (exact run_pick_or rfl rfl rfl rfl) | (exact run_pick_bool rfl rfl rfl rfl)) | ((simp only [hb, hx, hy, cond_true, cond_false]); exact run_index_str rfl Tryz.underlying9 rfl rfl (by omega) (by omega)) | (go_simp; (with_reducible exact rfl))))); intro _ _; (simp only [Act.put, List.setIfInBounds_toArray, List.set_cons_zero, List.set_cons_succ])) | ((with_reducible apply mgc_fff); (· exact rfl); (· exact rfl); (· exact rfl); (· exact rfl); (· exact rfl); (· exact rfl); (· (intro hb hx hy; (first | ((simp only [hb, hx, hy, cond_true, cond_false]); first | (exact run_pick_and rfl rfl rfl rfl) | (exact run_pick_or rfl rfl rfl rfl) | (exact run_pick_bool rfl rfl rfl rfl)) | ((simp only [hb, hx, hy, cond_true, cond_false]); exact run_index_str rfl Tryz.underlying9 rfl rfl (by omega) (by omega)) | (go_simp; (with_reducible exact rfl))))); intro _ _; (simp only [Act.put, List.setIfInBounds_toArray, List.set_cons_zero, List.set_cons_succ])) | ((with_reducible apply mg_t); (· exact rfl); (· exact rfl); (· exact rfl); (· exact rfl); (· exact rfl); (· (intro hb; (first | ((simp only [hb, cond_true, cond_false]); first | (exact run_pick_and rfl rfl rfl rfl) | (exact run_pick_or rfl rfl rfl rfl) | (exact run_pick_bool rfl rfl rfl rfl)) | ((simp only [hb, cond_true, cond_false]); exact run_index_str rfl Tryz.underlying9 rfl rfl (by omega) (by omega)) | (go_simp; (with_reducible exact rfl))))); (simp only [Act.put, List.setIfInBounds_toArray, List.set_cons_zero, List.set_cons_succ])) | ((with_reducible apply mg_f); (· exact rfl); (· exact rfl); (· exact rfl); (· exact rfl); (· exact rfl); (· (intro hb; (first | ((simp only [hb, cond_true, cond_false]); first | (exact run_pick_and rfl rfl rfl rfl) | (exact run_pick_or rfl rfl rfl rfl) | (exact run_pick_bool rfl rfl rfl rfl)) | ((simp only [hb, cond_true, cond_false]); exact run_index_str rfl Tryz.underlying9 rfl rfl (by omega) (by omega)) | (go_simp; (with_reducible exact rfl))))); (simp only [Act.put, List.setIfInBounds_toArray, List.set_cons_zero, List.set_cons_succ])) | ((with_reducible apply mg_tt); (· exact rfl); (· exact rfl); (· exact rfl); (· exact rfl); (· exact rfl); (· (intro hb hx; (first | ((simp only [hb, hx, cond_true, cond_false]); first | (exact run_pick_and rfl rfl rfl rfl) | (exact run_pick_or rfl rfl rfl rfl) | (exact run_pick_bool rfl rfl rfl rfl)) | ((simp only [hb, hx, cond_true, cond_false]); exact run_index_str rfl Tryz.underlying9 rfl rfl (by omega) (by omega)) | (go_simp; (with_reducible exact rfl))))); (simp only [Act.put, List.setIfInBounds_toArray, List.set_cons_zero, List.set_cons_succ])) | ((with_reducible apply mg_tf); (· exact rfl); (· exact rfl); (· exact rfl); (· exact rfl); (· exact rfl); (· (intro hb hx; (first | ((simp only [hb, hx, cond_true, cond_false]); first | (exact run_pick_and rfl rfl rfl rfl) | (exact run_pick_or rfl rfl rfl rfl) | (exact run_pick_bool rfl rfl rfl rfl)) | ((simp only [hb, hx, cond_true, cond_false]); exact run_index_str rfl Tryz.underlying9 rfl rfl (by omega) (by omega)) | (go_simp; (with_reducible exact rfl))))); (simp only [Act.put, List.setIfInBounds_toArray, List.set_cons_zero, List.set_cons_succ])) | ((with_reducible apply mg_ft); (· exact rfl); (· exact rfl); (· exact rfl); (· exact rfl); (· exact rfl); (· (intro hb hx; (first | ((simp only [hb, hx, cond_true, cond_false]); first | (exact run_pick_and rfl rfl rfl rfl) | (exact run_pick_or rfl rfl rfl rfl) | (exact run_pick_bool rfl rfl rfl rfl)) | ((simp only [hb, hx, cond_true, cond_false]); exact run_index_str rfl Tryz.underlying9 rfl rfl (by omega) (by omega)) | (go_simp; (with_reducible exact rfl))))); (simp only [Act.put, List.setIfInBounds_toArray, List.set_cons_zero, List.set_cons_succ])) | ((with_reducible apply mg_ff); (· exact rfl); (· exact rfl); (· exact rfl); (· exact rfl); (· exact rfl); (· (intro hb hx; (first | ((simp only [hb, hx, cond_true, cond_false]); first | (exact run_pick_and rfl rfl rfl rfl) | (exact run_pick_or rfl rfl rfl rfl) | (exact run_pick_bool rfl rfl rfl rfl)) | ((simp only [hb, hx, cond_true, cond_false]); exact run_index_str rfl Tryz.underlying9 rfl rfl (by omega) (by omega)) | (go_simp; (with_reducible exact rfl))))); (simp only [Act.put, List.setIfInBounds_toArray, List.set_cons_zero, List.set_cons_succ])) | ((with_reducible apply mg_ttt); (· exact rfl); (· exact rfl); (· exact rfl); (· exact rfl); (· exact rfl); (· (intro hb hx hy; (first | ((simp only [hb, hx, hy, cond_true, cond_false]); first | (exact run_pick_and rfl rfl rfl rfl) | (exact run_pick_or rfl rfl rfl rfl) | (exact run_pick_bool rfl rfl rfl rfl)) | ((simp only [hb, hx, hy, cond_true, cond_false]); exact run_index_str rfl Tryz.underlying9 rfl rfl (by omega) (by omega)) | (go_simp; (with_reducible exact rfl))))); (simp only [Act.put, List.setIfInBounds_toArray, List.set_cons_zero, List.set_cons_succ])) | ((with_reducible apply mg_ttf); (· exact rfl); (· exact rfl); (· exact rfl); (· exact rfl); (· exact rfl); (· (intro hb hx hy; (first | ((simp only [hb, hx, hy, cond_true, cond_false]); first | (exact run_pick_and rfl rfl rfl rfl) | (exact run_pick_or rfl rfl rfl rfl) | (exact run_pick_bool rfl rfl rfl rfl)) | ((simp only [hb, hx, hy, cond_true, cond_false]); exact run_index_str rfl Tryz.underlying9 rfl rfl (by omega) (by omega)) | (go_simp; (with_reducible exact rfl))))); (simp only [Act.put, List.setIfInBounds_toArray, List.set_cons_zero, List.set_cons_succ])) | ((with_reducible apply mg_tft); (· exact rfl); (· exact rfl); (· exact rfl); (· exact rfl); (· exact rfl); (· (intro hb hx hy; (first | ((simp only [hb, hx, hy, cond_true, cond_false]); first | (exact run_pick_and rfl rfl rfl rfl) | (exact run_pick_or rfl rfl rfl rfl) | (exact run_pick_bool rfl rfl rfl rfl)) | ((simp only [hb, hx, hy, cond_true, cond_false]); exact run_index_str rfl Tryz.underlying9 rfl rfl (by omega) (by omega)) | (go_simp; (with_reducible exact rfl))))); (simp only [Act.put, List.setIfInBounds_toArray, List.set_cons_zero, List.set_cons_succ])) | ((with_reducible apply mg_tff); (· exact rfl); (· exact rfl); (· exact rfl); (· exact rfl); (· exact rfl); (· (intro hb hx hy; (first | ((simp only [hb, hx, hy, cond_true, cond_false]); first | (exact run_pick_and rfl rfl rfl rfl) | (exact run_pick_or rfl rfl rfl rfl) | (exact run_pick_bool rfl rfl rfl rfl)) | ((simp only [hb, hx, hy, cond_true, cond_false]); exact run_index_str rfl Tryz.underlying9 rfl rfl (by omega) (by omega)) | (go_simp; (with_reducible exact rfl))))); (simp only [Act.put, List.setIfInBounds_toArray, List.set_cons_zero, List.set_cons_succ])) | ((with_reducible apply mg_ftt); (· exact rfl); (· exact rfl); (· exact rfl); (· exact rfl); (· exact rfl); (· (intro hb hx hy; (first | ((simp only [hb, hx, hy, cond_true, cond_false]); first | (exact run_pick_and rfl rfl rfl rfl) | (exact run_pick_or rfl rfl rfl rfl) | (exact run_pick_bool rfl rfl rfl rfl)) | ((simp only [hb, hx, hy, cond_true, cond_false]); exact run_index_str rfl Tryz.underlying9 rfl rfl (by omega) (by omega)) | (go_simp; (with_reducible exact rfl))))); (simp only [Act.put, List.setIfInBounds_toArray, List.set_cons_zero, List.set_cons_succ])) | ((with_reducible apply mg_ftf); (· exact rfl); (· exact rfl); (· exact rfl); (· exact rfl); (· exact rfl); (· (intro hb hx hy; (first | ((simp only [hb, hx, hy, cond_true, cond_false]); first | (exact run_pick_and rfl rfl rfl rfl) | (exact run_pick_or rfl rfl rfl rfl) | (exact run_pick_bool rfl rfl rfl rfl)) | ((simp only [hb, hx, hy, cond_true, cond_false]); exact run_index_str rfl Tryz.underlying9 rfl rfl (by omega) (by omega)) | (go_simp; (with_reducible exact rfl))))); (simp only [Act.put, List.setIfInBounds_toArray, List.set_cons_zero, List.set_cons_succ])) | ((with_reducible apply mg_fft); (· exact rfl); (· exact rfl); (· exact rfl); (· exact rfl); (· exact rfl); (· (intro hb hx hy; (first | ((simp only [hb, hx, hy, cond_true, cond_false]); first | (exact run_pick_and rfl rfl rfl rfl) | (exact run_pick_or rfl rfl rfl rfl) | (exact run_pick_bool rfl rfl rfl rfl)) | ((simp only [hb, hx, hy, cond_true, cond_false]); exact run_index_str rfl Tryz.underlying9 rfl rfl (by omega) (by omega)) | (go_simp; (with_reducible exact rfl))))); (simp only [Act.put, List.setIfInBounds_toArray, List.set_cons_zero, List.set_cons_succ])) | ((with_reducible apply mg_fff); (· exact rfl); (· exact rfl); (· exact rfl); (· exact rfl); (· exact rfl); (· (intro hb hx hy; (first | ((simp only [hb, hx, hy, cond_true, cond_false]); first | (exact run_pick_and rfl rfl rfl rfl) | (exact run_pick_or rfl rfl rfl rfl) | (exact run_pick_bool rfl rfl rfl rfl)) | ((simp only [hb, hx, hy, cond_true, cond_false]); exact run_index_str rfl Tryz.underlying9 rfl rfl (by omega) (by omega)) | (go_simp; (with_reducible exact rfl))))); (simp only [Act.put, List.setIfInBounds_toArray, List.set_cons_zero, List.set_cons_succ])) | go_values | go_skip | go_guarded | go_step | go_upon)
  go_ret
  refine ⟨ret_bool ?_, by (repeat (first | exact Below.refl _ _ | with_reducible assumption | (refine Below.setCell ?_ (by simp <;> omega) _) | (refine Below.alloc ?_ (by simp <;> omega) _)))⟩
  go_light
  unfold Hid at *
  subst_vars
  simp [ofB, toList_beq, Bool.and_assoc]

/-- The sum of a part of the counts of the keys for which q holds. -/
def sumA (g : Ct → Int) (q : Ky → Bool) : List (Ky × Ct) → Int
  | [] => 0
  | p :: r => (if q p.1 = true then g p.2 else 0) + sumA g q r
theorem sumA_perm {g : Ct → Int} {q : Ky → Bool} {f l : List (Ky × Ct)} (h : f.Perm l) : sumA g q f = sumA g q l := by
  induction h with
  | nil => rfl
  | cons p _ ih => simp only [sumA, ih]
  | swap x y l => simp only [sumA]; omega
  | trans _ _ i j => rw [i, j]
def sumM (q : Ky → Bool) (f : List (Ky × Ct)) : Ct := (sumA Prod.fst q f, sumA Prod.snd q f)
/-- No count is negative, all together are not too many. -/
structure Small (f : List (Ky × Ct)) : Prop where
  pos : ∀ p ∈ f, 0 ≤ p.2.1 ∧ 0 ≤ p.2.2
  le1 : sumA Prod.fst (fun _ => true) f ≤ 4611686018427387904
  le2 : sumA Prod.snd (fun _ => true) f ≤ 4611686018427387904
theorem sumA_range {g : Ct → Int} {q : Ky → Bool} : ∀ {f : List (Ky × Ct)}, (∀ p ∈ f, 0 ≤ g p.2) → 0 ≤ sumA g q f ∧ sumA g q f ≤ sumA g (fun _ => true) f
  | [], _ => ⟨Int.le_refl _, Int.le_refl _⟩
  | p :: r, h => by
    have h1 := h p (by simp)
    have h2 := sumA_range (g := g) (q := q) (f := r) (fun x hx => h x (by simp [hx]))
    simp only [sumA, if_true]
    split <;> omega
theorem sumA_sub {g : Ct → Int} {q : Ky → Bool} {l f : List (Ky × Ct)} (h : l.Sublist f) (hp : ∀ p ∈ f, 0 ≤ g p.2) : sumA g q l ≤ sumA g q f := by
  induction h with
  | slnil => exact Int.le_refl _
  | cons p _ ih =>
    have h1 := hp p (by simp)
    have h2 := ih (fun x hx => hp x (by simp [hx]))
    simp only [sumA]
    split <;> omega
  | cons_cons p _ ih =>
    have h2 := ih (fun x hx => hp x (by simp [hx]))
    simp only [sumA]
    omega
/-- What is summed when `left` is still to come. -/
def upTo (q : Ky → Bool) (f left : List (Ky × Ct)) : Ct := (sumA Prod.fst q f - sumA Prod.fst q left, sumA Prod.snd q f - sumA Prod.snd q left)
theorem upTo_all (q : Ky → Bool) (f : List (Ky × Ct)) : upTo q f f = (0, 0) := by simp [upTo]
theorem upTo_nil (q : Ky → Bool) (f : List (Ky × Ct)) : upTo q f [] = sumM q f := by simp [upTo, sumM, sumA]
theorem upTo_no {q : Ky → Bool} {f left l : List (Ky × Ct)} {p : Ky × Ct} (h : left.Perm (p :: l)) (hq : q p.1 = false) : upTo q f l = upTo q f left := by
  unfold upTo; rw [sumA_perm h, sumA_perm h]; simp [sumA, hq]
theorem upTo_yes {q : Ky → Bool} {f left l : List (Ky × Ct)} {p : Ky × Ct} (h : left.Perm (p :: l)) (hq : q p.1 = true) : upTo q f l = ((upTo q f left).1 + p.2.1, (upTo q f left).2 + p.2.2) := by
  unfold upTo; rw [sumA_perm h, sumA_perm h]; simp only [sumA, hq, if_true]; congr 1 <;> omega
theorem upTo_range {q : Ky → Bool} {f left : List (Ky × Ct)} (hs : Small f) (h : left.Sublist f) : 0 ≤ (upTo q f left).1 ∧ (upTo q f left).1 ≤ 4611686018427387904 ∧ 0 ≤ (upTo q f left).2 ∧ (upTo q f left).2 ≤ 4611686018427387904 := by
  have a1 := sumA_sub (g := Prod.fst) (q := q) h (fun p hp => (hs.pos p hp).1)
  have a2 := sumA_sub (g := Prod.snd) (q := q) h (fun p hp => (hs.pos p hp).2)
  have b1 := sumA_range (g := Prod.fst) (q := q) (f := f) (fun p hp => (hs.pos p hp).1)
  have b2 := sumA_range (g := Prod.snd) (q := q) (f := f) (fun p hp => (hs.pos p hp).2)
  have c1 := sumA_range (g := Prod.fst) (q := q) (f := left) (fun p hp => (hs.pos p (h.subset hp)).1)
  have c2 := sumA_range (g := Prod.snd) (q := q) (f := left) (fun p hp => (hs.pos p (h.subset hp)).2)
  have := hs.le1
  have := hs.le2
  unfold upTo
  simp only
  omega
theorem upTo_fits {q : Ky → Bool} {f left l : List (Ky × Ct)} {p : Ky × Ct} (hs : Small f) (hsub : l.Sublist f) (h : left.Perm (p :: l)) (hq : q p.1 = true) :
    0 ≤ (upTo q f left).1 + p.2.1 ∧ (upTo q f left).1 + p.2.1 ≤ 4611686018427387904 ∧ 0 ≤ (upTo q f left).2 + p.2.2 ∧ (upTo q f left).2 + p.2.2 ≤ 4611686018427387904 := by
  have := upTo_range (q := q) hs hsub
  rw [upTo_yes h hq] at this
  exact this

theorem set_two {w : World} {g : Nat} {a b x y : Value} {t : TypeId} (h : w.heap[g]? = some (.cells #[a, b] t (0, 0))) :
    ((w.setCell ⟨g, 0, none⟩ x).setCell ⟨g, 1, none⟩ y).heap[g]? = some (.cells #[x, y] t (0, 0)) := by
  rw [heap_setCell_same _ g 1 _ t y (heap_setCell_same w g 0 _ t x h)]; rfl
theorem two0 {w : World} {g : Nat} {a b : Value} {t : TypeId} (h : w.heap[g]? = some (.cells #[a, b] t (0, 0))) : w.cell? ⟨g, 0, none⟩ = some a := (cell_of_row w g 0 _ _ _ h).trans rfl
theorem two1 {w : World} {g : Nat} {a b : Value} {t : TypeId} (h : w.heap[g]? = some (.cells #[a, b] t (0, 0))) : w.cell? ⟨g, 1, none⟩ = some b := (cell_of_row w g 1 _ _ _ h).trans rfl
theorem two_frozen {w : World} {g : Nat} {a b : Value} {t : TypeId} (h : w.heap[g]? = some (.cells #[a, b] t (0, 0))) : w.frozen? ⟨g, 0, none⟩ = false ∧ w.frozen? ⟨g, 1, none⟩ = false := ⟨frozen_of_row w g 0 _ _ h, frozen_of_row w g 1 _ _ h⟩

set_option maxHeartbeats 1000000 in
theorem sum_any (sb mb n : Nat) (caps : List Value) (q : Ky → Bool) (f : List (Ky × Ct)) (w : World) (hs : w.cell? ⟨sb, 0, none⟩ = some (.map (some mb))) (hm : CMap w mb f) (hf : Small f)
    (hcf : ∀ args w', (callFunc n args).run Tryz.prog w' = .ok (.enter n args) w')
    (hfn : ∀ p ∈ f, ∀ w', Below w.heap.size w w' → Calls Tryz.prog n (keyV p.1 :: caps).toArray w' (fun e w'' => e = .returned (.bool (q p.1)) ∧ Below w'.heap.size w' w'')) :
    Calls Tryz.prog 32 #[.pointer (some ⟨sb, 0, none⟩), .func (.func n) #[] caps.toArray] w fun e w' => e = .returned (cntV (sumM q f)) ∧ Below w.heap.size w w' := by
  have hsb := block_lt_of_cell hs
  simp only at hsb
  have hmb := hm.lt
  have HM := hide hm
  clear hm
  have HFN := hide hfn
  clear hfn
  go_enter Tryz.func32, Tryz.ntmps32
  go_wp2_with (first | (at_range; refine Mp.wpList_range_is rfl _ _ rfl _ _ Tryz.underlying70 rfl (Mp.IsMap.below HM.out (by (repeat (first | exact Below.refl _ _ | with_reducible assumption | (refine Below.setCell ?_ (by simp <;> omega) _) | (refine Below.alloc ?_ (by simp <;> omega) _))))) ?_; intro w0 hit hg hsz))
  have HW0 : Hid (Below w.heap.size w w0) := hide (((show Below w.heap.size w _ from by (repeat (first | exact Below.refl _ _ | with_reducible assumption | (refine Below.setCell ?_ (by simp <;> omega) _) | (refine Below.alloc ?_ (by simp <;> omega) _))))).grown hg (by simp; omega) (by simp))
  have hz0 : w0.heap.size = w.heap.size + 1 + 1 + 1 := by simpa using hsz
  have hit0 : CIter w0 mb (w.heap.size + 1 + 1) f f := by simpa using hit
  have ho0 : w0.heap[w.heap.size + 1]? = some (.cells #[.int .i64 0, .int .i64 0] 34 (0, 0)) := by
    rw [hg.block _ (by simp) (by simp), heap_alloc2_new]
  have hr0 : w0.heap[w.heap.size]? = some (.cells #[.int .i64 0, .int .i64 0] 34 (0, 0)) := by
    rw [hg.block _ (by simp; omega) (by simp), heap_alloc2_old]
  clear hit hg hsz
  go_frame
  simp only [World.size_alloc]
  go_loopw [] (fun wr => ∃ left, CIter wr mb (w.heap.size + 1 + 1) f left ∧ wr.heap[w.heap.size + 1]? = some (.cells #[.int .i64 (upTo q f left).1, .int .i64 (upTo q f left).2] 34 (0, 0)) ∧
      wr.heap[w.heap.size]? = some (.cells #[.int .i64 0, .int .i64 0] 34 (0, 0)) ∧ Below w.heap.size w wr) (fun wr => wr.rangeLeft mb (w.heap.size + 1 + 1))
  case atStart => exact ⟨f, hit0, by rw [ho0, upTo_all], hr0, HW0.out⟩
  case round =>
    obtain ⟨left, hit, ho, hr, hbel⟩ := hrel
    have HIT := hide hit
    have HO := hide ho
    have HR := hide hr
    have HB := hide hbel
    have hsz := hit.lt.2.1
    have hmr := hit.lt.2.2
    clear hit ho hr hbel ho0 hr0 hit0
    have c1 : wr.cell? ⟨w.heap.size + 1, 0, none⟩ = some (.int .i64 (upTo q f left).1) := (cell_of_row wr (w.heap.size + 1) 0 _ _ _ HO.out).trans rfl
    have c2 : wr.cell? ⟨w.heap.size + 1, 1, none⟩ = some (.int .i64 (upTo q f left).2) := (cell_of_row wr (w.heap.size + 1) 1 _ _ _ HO.out).trans rfl
    rcases HIT.out.next (P := Tryz.prog) 0 with ⟨hl0, hrun⟩ | ⟨p, left', w1, hperm, hrun, hit1, hpf, hg1, hsz1, hen⟩
    · subst hl0
      have r1 : wr.cell? ⟨w.heap.size, 0, none⟩ = some (.int .i64 0) := (cell_of_row wr w.heap.size 0 _ _ _ HR.out).trans rfl
      have r2 : wr.cell? ⟨w.heap.size, 1, none⟩ = some (.int .i64 0) := (cell_of_row wr w.heap.size 1 _ _ _ HR.out).trans rfl
      have r3 := frozen_of_row wr w.heap.size 0 _ _ HR.out
      have r4 := frozen_of_row wr w.heap.size 1 _ _ HR.out
      go_wp2_with fail
      (try simp only [Exit.inBlock, Exit.then])
      refine bodyPost_ret (results_cell_row rfl _ _ w.heap.size 34 _ (0, 0) _ rfl (set_two HR.out) Tryz.underlying34 rfl rfl) rfl ?_
      refine ⟨by rw [upTo_nil]; rfl, ?_⟩
      have HB2 := HB.out
      (repeat (first | exact Below.refl _ _ | with_reducible assumption | (refine Below.setCell ?_ (by simp <;> omega) _) | (refine Below.alloc ?_ (by simp <;> omega) _)))
    · obtain ⟨⟨d, k, x⟩, a, b⟩ := p
      rw [keyV_mk, cntV_mk] at hen hrun
      have HPERM := hide hperm
      have HIT1 := hide hit1
      have HG1 := hide hg1
      have HPF := hide hpf
      have HB1 : Hid (Below w.heap.size w w1) := hide (HB.out.grown hg1 (by omega) (by simp; omega))
      have HO1 := hide ((hg1.block (w.heap.size + 1) (by omega) (by simp)).trans HO.out)
      have HR1 := hide ((hg1.block w.heap.size (by omega) (by simp; omega)).trans HR.out)
      clear hperm hit1 hg1 hpf c1 c2
      have HN := hide (HFN.out _ HPF.out)
      obtain ⟨v, hv⟩ : ∃ v, q (d, k, x) = v := ⟨_, rfl⟩
      rw [hv] at HN
      have HV := hide hv
      clear hv
      have HW : Hid (Below w.heap.size w ((w1.alloc (.cells #[.int .i64 d, .int .i64 k, .string x] 64)).alloc (.cells #[.int .i64 a, .int .i64 b] 34))) := hide ((HB1.out.alloc (by omega) _).alloc (by simp; omega) _)
      have HBW : Hid (∀ i, i < w1.heap.size → ∀ w2, Below ((w1.alloc (.cells #[.int .i64 d, .int .i64 k, .string x] 64)).alloc (.cells #[.int .i64 a, .int .i64 b] 34)).heap.size ((w1.alloc (.cells #[.int .i64 d, .int .i64 k, .string x] 64)).alloc (.cells #[.int .i64 a, .int .i64 b] 34)) w2 → w2.heap[i]? = w1.heap[i]?) := by
        refine hide fun i hi w2 hb => ?_
        rw [hb.block i (by simp; omega), Below.heap_alloc _ _ i (by simp; omega), Below.heap_alloc _ _ i hi]
      cases v
      · go_wp2_with ((refine (HN.out _ HW.out).mono ?_); rintro e w2 ⟨rfl, hb2⟩; have HB2 := hide hb2; clear hb2)
        go_roundw
        case rel =>
          have e := fun i hi => HBW.out i hi w2 HB2.out
          refine ⟨left', (HIT1.out.of_blocks (e _ HIT1.out.lt.1) (e _ HIT1.out.lt.2.1)), ?_, ?_, HW.out.trans (HB2.out.mono (by simp; omega))⟩
          · rw [e _ (by omega), HO1.out, upTo_no HPERM.out HV.out]
          · rw [e _ (by omega), HR1.out]
        case measure =>
          have e := fun i hi => HBW.out i hi w2 HB2.out
          rw [(HIT1.out.of_blocks (e _ HIT1.out.lt.1) (e _ HIT1.out.lt.2.1)).left_eq, HIT.out.left_eq, HPERM.out.length_eq]; simp
      · have hfit := upTo_fits hf HIT1.out.sub HPERM.out HV.out
        simp only at hfit
        obtain ⟨g1, g2, g3, g4⟩ := hfit
        go_wp2_with fail
        refine (HN.out _ HW.out).mono ?_
        rintro e w2 ⟨rfl, hb2⟩
        have ho2 := (HBW.out (w.heap.size + 1) (by omega) w2 hb2).trans HO1.out
        have c1 := two0 ho2
        have c2 := two1 ho2
        have c5 : w2.cell? ⟨wr.heap.size + 1, 0, none⟩ = some (.int .i64 a) := by
          rw [hb2.cell (by simp; omega), show wr.heap.size + 1 = (w1.alloc (.cells #[.int .i64 d, .int .i64 k, .string x] 64)).heap.size by simp [hsz1], World.cell?_alloc_new]; rfl
        have c6 : w2.cell? ⟨wr.heap.size + 1, 1, none⟩ = some (.int .i64 b) := by
          rw [hb2.cell (by simp; omega), show wr.heap.size + 1 = (w1.alloc (.cells #[.int .i64 d, .int .i64 k, .string x] 64)).heap.size by simp [hsz1], World.cell?_alloc_new]; rfl
        have HB2 := hide hb2
        have HO2 := hide ho2
        have hz2 : wr.heap.size + 1 < w2.heap.size := by have := hb2.size; simp at this; omega
        clear hb2 ho2
        go_wp2_with fail
        refine (plus_any (upTo q f left).1 (upTo q f left).2 a b w2 (by omega) (by omega) (by omega) (by omega)).mono ?_
        rintro e w3 ⟨rfl, hb3⟩
        simp only [cntV_mk]
        have ho3 := (hb3.block (w.heap.size + 1) (by omega)).trans HO2.out
        have c7 := two0 ho3
        have c8 := two1 ho3
        obtain ⟨c9, c10⟩ := two_frozen ho3
        have HB3 := hide hb3
        have HO3 := hide ho3
        have hz3 := hb3.size
        clear hb3 ho3 c1 c2 c5 c6
        go_wp2_with fail
        go_roundw
        case rel =>
          have e : ∀ i, i < w1.heap.size → i ≠ w.heap.size + 1 → ((w3.setCell ⟨w.heap.size + 1, 0, none⟩ (.int .i64 ((upTo q f left).1 + a))).setCell ⟨w.heap.size + 1, 1, none⟩ (.int .i64 ((upTo q f left).2 + b))).heap[i]? = w1.heap[i]? := fun i hi hne => by
            rw [heap_setCell_other _ _ _ _ hne, heap_setCell_other _ _ _ _ hne, HB3.out.block i (by omega), HBW.out i hi w2 HB2.out]
          refine ⟨left', (HIT1.out.of_blocks (e _ HIT1.out.lt.1 (by omega)) (e _ HIT1.out.lt.2.1 (by omega))), ?_, ?_, ?_⟩
          · rw [set_two HO3.out, upTo_yes HPERM.out HV.out]
          · rw [e _ (by omega) (by omega), HR1.out]
          · have hbb := HW.out.trans ((HB2.out.mono (by simp; omega)).trans (HB3.out.mono (by omega)))
            (repeat (first | exact Below.refl _ _ | with_reducible assumption | (refine Below.setCell ?_ (by simp <;> omega) _) | (refine Below.alloc ?_ (by simp <;> omega) _)))
        case measure =>
          have e : ∀ i, i < w1.heap.size → i ≠ w.heap.size + 1 → ((w3.setCell ⟨w.heap.size + 1, 0, none⟩ (.int .i64 ((upTo q f left).1 + a))).setCell ⟨w.heap.size + 1, 1, none⟩ (.int .i64 ((upTo q f left).2 + b))).heap[i]? = w1.heap[i]? := fun i hi hne => by
            rw [heap_setCell_other _ _ _ _ hne, heap_setCell_other _ _ _ _ hne, HB3.out.block i (by omega), HBW.out i hi w2 HB2.out]
          rw [(HIT1.out.of_blocks (e _ HIT1.out.lt.1 (by omega)) (e _ HIT1.out.lt.2.1 (by omega))).left_eq, HIT.out.left_eq, HPERM.out.length_eq]; simp

/-- A part of a block, read whole. -/
theorem run_loadVar_off {P : Program} (w : World) (g off : Nat) (t ty : TypeId) (cs : Array Value) (fr : Nat × Nat) (d : TypeDesc) (xs : List Value) (hg : w.heap[g]? = some (.cells cs t fr))
    (hx : ∀ j v, xs[j]? = some v → cs[off + j]? = some v)
    (hu : P.underlying ty = some d) (hd : (match d with | .struct _ | .array _ _ => true | _ => false) = true) (hi : (P.info? ty).map (·.size) = some xs.length) :
    (loadVar ty ⟨g, off, none⟩).run P w = .ok (.agg xs.toArray) w := by
  have hl : (loadCells ⟨g, off, none⟩ xs.length).run P w = .ok xs.toArray w :=
    run_loadCells_list (P := P) w ⟨g, off, none⟩ xs (fun j v hv => by
      have hadd : (⟨g, off, none⟩ : Addr).add j = ⟨g, off + j, none⟩ := by unfold Addr.add; split <;> simp_all
      rw [hadd, cell_of_row w g (off + j) cs t fr hg]
      exact hx j v hv)
  cases hq : P.info? ty with
  | none => simp [hq] at hi
  | some i =>
    have hs : i.size = xs.length := by simpa [hq] using hi
    have hagg : (isAgg ty).run P w = .ok true w := by
      unfold isAgg
      rw [Sem.run_bind, run_underlying hu w]
      cases d <;> simp_all
    simp [loadVar, Sem.run_bind, hagg, sizeOf, typeInfo, hq, hs, hl]
theorem wpList_load_off {P : Program} {ops : Array Oper} {rest : List Oper} {o : Oper} {a : Act} {w : World} {Q : Exit → Act → World → Prop} (hgd : o.guard = none) (ty : TypeId) (x : Operand) (ho : o.op = .load ty x)
    (g off : Nat) (hx : a.eval x = .pointer (some ⟨g, off, none⟩)) (t : TypeId) (cs : Array Value) (fr : Nat × Nat) (d : TypeDesc) (xs : List Value) (hg : w.heap[g]? = some (.cells cs t fr))
    (hxs : ∀ j v, xs[j]? = some v → cs[off + j]? = some v)
    (hu : P.underlying ty = some d) (hd : (match d with | .struct _ | .array _ _ => true | _ => false) = true) (hi : (P.info? ty).map (·.size) = some xs.length)
    (h : wpList P ops Q rest (a.put o.dst (.agg xs.toArray)) w) : wpList P ops Q (o :: rest) a w :=
  wpList_plain hgd fun _ hK => by
    unfold Oper.wp execOp
    simp only [ho, hx, Instr.loadAt, Instr.sureAddr, Sem.run_bind, Sem.run_pure, Result.andThen_ok, run_loadVar_off w g off t ty cs fr d xs hg hxs hu hd hi]
    exact hK _ _ h

/-- What lies in a set of counts. -/
structure SAt (w : World) (sb mb : Nat) (f : List (Ky × Ct)) (z : List Int) : Prop where
  blk : w.heap[sb]? = some (.cells (.map (some mb) :: z.map (.int .i64)).toArray 72 (0, 0))
  map : CMap w mb f
  len : z.length = 18
theorem SAt.c0 {w : World} {sb mb : Nat} {f : List (Ky × Ct)} {z : List Int} (h : SAt w sb mb f z) : w.cell? ⟨sb, 0, none⟩ = some (.map (some mb)) := (cell_of_row w sb 0 _ _ _ h.blk).trans (by simp)
theorem SAt.lt {w : World} {sb mb : Nat} {f : List (Ky × Ct)} {z : List Int} (h : SAt w sb mb f z) : sb < w.heap.size := (Array.getElem?_eq_some_iff.1 h.blk).1
theorem SAt.below {w w' : World} {sb mb : Nat} {f : List (Ky × Ct)} {z : List Int} (h : SAt w sb mb f z) (hb : Below w.heap.size w w') : SAt w' sb mb f z := ⟨(hb.block sb h.lt).trans h.blk, Mp.IsMap.below h.map hb, h.len⟩

def isTotal (k : Ky) : Bool := k.2.1 == 0
theorem total_any (sb mb : Nat) (f : List (Ky × Ct)) (z : List Int) (w : World) (hs : SAt w sb mb f z) (hf : Small f) :
    Calls Tryz.prog 11 #[.pointer (some ⟨sb, 0, none⟩)] w fun e w' => e = .returned (cntV (sumM isTotal f)) ∧ Below w.heap.size w w' := by
  have HW1 : Hid (Below w.heap.size w (w.alloc (.cells #[.int .i64 0, .int .i64 0] 34))) := hide ((Below.refl _ _).alloc (Nat.le_refl _) _)
  have HS := hide (sum_any sb mb 33 [] isTotal f _ (hs.below HW1.out).c0 (hs.below HW1.out).map hf (fun args w' => Tryz.call33 args w') (fun p hp w' hb => total1_any p.1 w'))
  clear hs
  go_enter Tryz.func11, Tryz.ntmps11
  obtain ⟨v, hv⟩ : ∃ v, sumM isTotal f = v := ⟨_, rfl⟩
  rw [hv] at HS
  have HV := hide hv
  clear hv
  obtain ⟨v1, v2⟩ := v
  go_wp2_with fail
  refine HS.out.mono ?_
  rintro e w2 ⟨rfl, hb⟩
  simp only [cntV_mk]
  have ho := (hb.block w.heap.size (by simp)).trans (heap_alloc_new w _)
  have c1 := two0 ho
  have c2 := two1 ho
  obtain ⟨c3, c4⟩ := two_frozen ho
  have HO := hide ho
  have HB := hide hb
  clear ho hb
  go_wp2_with fail
  (try simp only [Exit.inBlock, Exit.then])
  refine bodyPost_ret (results_cell_row rfl _ _ w.heap.size 34 _ (0, 0) _ rfl (set_two HO.out) Tryz.underlying34 rfl rfl) rfl ?_
  have hbb := HW1.out.trans (HB.out.mono (by simp))
  refine ⟨by rw [HV.out]; rfl, ?_⟩
  (repeat (first | exact Below.refl _ _ | with_reducible assumption | (refine Below.setCell ?_ (by simp <;> omega) _) | (refine Below.alloc ?_ (by simp <;> omega) _)))

set_option maxHeartbeats 1000000 in
theorem sof_any (sb mb : Nat) (f : List (Ky × Ct)) (z : List Int) (kind fro til : Int) (name : ByteArray) (w : World) (hs : SAt w sb mb f z) (hf : Small f) :
    Calls Tryz.prog 28 #[.pointer (some ⟨sb, 0, none⟩), .int .i64 kind, .string name, .int .i64 fro, .int .i64 til] w fun e w' => e = .returned (cntV (if kind = 0 then (0, 0) else sumM (ofB kind name fro til) f)) ∧ Below w.heap.size w w' := by
  by_cases hk : kind = 0
  · rw [if_pos hk]
    subst hk
    go_enter Tryz.func28, Tryz.ntmps28
    go_wp2_with fail
    go_returns
    exact ⟨rfl, by (repeat (first | exact Below.refl _ _ | with_reducible assumption | (refine Below.setCell ?_ (by simp <;> omega) _) | (refine Below.alloc ?_ (by simp <;> omega) _)))⟩
  rw [if_neg hk]
  have hkb : (kind == 0) = false := by simp [hk]
  clear hk
  obtain ⟨W, hW⟩ : ∃ W, W = ((((w.alloc (.cells #[.int .i64 kind] 3)).alloc (.cells #[.string name] 9)).alloc (.cells #[.int .i64 fro] 3)).alloc (.cells #[.int .i64 til] 3)).alloc (.cells #[.int .i64 0, .int .i64 0] 34) := ⟨_, rfl⟩
  have HW1 : Hid (Below w.heap.size w W) := hide (by rw [hW]; (repeat (first | exact Below.refl _ _ | with_reducible assumption | (refine Below.setCell ?_ (by simp <;> omega) _) | (refine Below.alloc ?_ (by simp <;> omega) _))))
  have k1 : W.cell? ⟨w.heap.size, 0, none⟩ = some (.int .i64 kind) := by rw [hW]; simp [go_sem]
  have k2 : W.cell? ⟨w.heap.size + 1, 0, none⟩ = some (.string name) := by rw [hW]; simp [go_sem]
  have k3 : W.cell? ⟨w.heap.size + 1 + 1, 0, none⟩ = some (.int .i64 fro) := by rw [hW]; simp [go_sem]
  have k4 : W.cell? ⟨w.heap.size + 1 + 1 + 1, 0, none⟩ = some (.int .i64 til) := by rw [hW]; simp [go_sem]
  have k5 : W.heap[w.heap.size + 1 + 1 + 1 + 1]? = some (.cells #[.int .i64 0, .int .i64 0] 34 (0, 0)) := by rw [hW, ← heap_alloc_new ((((w.alloc (.cells #[.int .i64 kind] 3)).alloc (.cells #[.string name] 9)).alloc (.cells #[.int .i64 fro] 3)).alloc (.cells #[.int .i64 til] 3)) (.cells #[.int .i64 0, .int .i64 0] 34)]; congr 1; simp
  have HS := hide (sum_any sb mb 55 [.pointer (some ⟨w.heap.size, 0, none⟩), .pointer (some ⟨w.heap.size + 1, 0, none⟩), .pointer (some ⟨w.heap.size + 1 + 1, 0, none⟩), .pointer (some ⟨w.heap.size + 1 + 1 + 1, 0, none⟩)] (ofB kind name fro til) f W (hs.below HW1.out).c0 (hs.below HW1.out).map hf (fun args w' => Tryz.call55 args w')
    (fun p hp w' hb => of1_any p.1 _ _ _ _ kind fro til name w' ((hb.cell (block_lt_of_cell k1)).trans k1) ((hb.cell (block_lt_of_cell k2)).trans k2) ((hb.cell (block_lt_of_cell k3)).trans k3) ((hb.cell (block_lt_of_cell k4)).trans k4)))
  have HK := hide k5
  clear hs k1 k2 k3 k4 k5
  obtain ⟨v, hv⟩ : ∃ v, sumM (ofB kind name fro til) f = v := ⟨_, rfl⟩
  rw [hv] at HS
  have HV := hide hv
  clear hv
  obtain ⟨v1, v2⟩ := v
  have HWW := hide hW
  clear hW
  go_enter Tryz.func28, Tryz.ntmps28
  go_wp2_with fail
  rw [← HWW.out]
  refine HS.out.mono ?_
  rintro e w2 ⟨rfl, hb⟩
  simp only [cntV_mk]
  have hW := HWW.out
  have ho := (hb.block (w.heap.size + 1 + 1 + 1 + 1) (by rw [hW]; simp)).trans HK.out
  clear hW
  have c1 := two0 ho
  have c2 := two1 ho
  obtain ⟨c3, c4⟩ := two_frozen ho
  have HO := hide ho
  have HB := hide hb
  clear ho hb
  go_wp2_with fail
  (try simp only [Exit.inBlock, Exit.then])
  refine bodyPost_ret (results_cell_row rfl _ _ (w.heap.size + 1 + 1 + 1 + 1) 34 _ (0, 0) _ rfl (set_two HO.out) Tryz.underlying34 rfl rfl) rfl ?_
  have hbb := HW1.out.trans (HB.out.mono HW1.out.size)
  refine ⟨by rw [HV.out]; rfl, ?_⟩
  (repeat (first | exact Below.refl _ _ | with_reducible assumption | (refine Below.setCell ?_ (by simp <;> omega) _) | (refine Below.alloc ?_ (by simp <;> omega) _)))

theorem snew_any (w : World) : Calls Tryz.prog 25 #[] w fun e w' => ∃ sb mb, e = .returned (.pointer (some ⟨sb, 0, none⟩)) ∧ SAt w' sb mb [] (List.replicate 18 0) ∧ Below w.heap.size w w' ∧ w.heap.size ≤ sb ∧ w.heap.size ≤ mb ∧ mb ≠ sb := by
  have hmk : (Instr.makeMap 70 none).run Tryz.prog w = .ok (.map (some w.heap.size)) (w.alloc (.map #[] 0)) := by
    simp [Instr.makeMap, run_underlying Tryz.underlying70, go_sem]
  go_enter Tryz.func25, Tryz.ntmps25
  go_wp2_with fail
  go_ret
  have hz : (w.alloc (.map #[] 0)).heap.size = w.heap.size + 1 := by simp
  refine ⟨w.heap.size + 1, w.heap.size, rfl, ⟨?_, ?_, rfl⟩, by (repeat (first | exact Below.refl _ _ | with_reducible assumption | (refine Below.setCell ?_ (by simp <;> omega) _) | (refine Below.alloc ?_ (by simp <;> omega) _))), by omega, Nat.le_refl _, by omega⟩
  · rw [← hz]; exact heap_alloc_new _ _
  · exact (Mp.isMap_made w keyV cntV keyOk).below ((Below.refl _ _).alloc (Nat.le_refl _) _)

theorem ssizes_any (sb mb : Nat) (f : List (Ky × Ct)) (z : List Int) (w : World) (hs : SAt w sb mb f z) :
    Calls Tryz.prog 16 #[.pointer (some ⟨sb, 0, none⟩)] w fun e w' => e = .returned (.agg (z.map (.int .i64)).toArray) ∧ Below w.heap.size w w' := by
  have hlt := hs.lt
  have HB := hide (hs.below ((Below.refl _ _).alloc (Nat.le_refl _) (.cells (List.replicate 18 (.int .i64 0)).toArray 41))).blk
  have hl := hs.len
  have hx : ∀ (j : Nat) (v : Value), (z.map (Value.int .i64))[j]? = some v → ((.map (some mb) :: z.map (.int .i64)).toArray : Array Value)[1 + j]? = some v := by
    intro j v hv
    rw [List.getElem?_toArray, Nat.add_comm, List.getElem?_cons_succ]; exact hv
  have hi : (Tryz.prog.info? 41).map (·.size) = some (z.map (Value.int .i64)).length := by rw [List.length_map, hl]; rfl
  have HI2 : Hid ((Tryz.prog.info? 41).map (·.size) = some (z.map (Value.int .i64)).toArray.size) := hide (by rw [hi]; simp)
  have HL : Hid ((List.replicate 18 (Value.int .i64 0)).toArray.size = (z.map (Value.int .i64)).toArray.size) := hide (by simp [hl])
  have H1 : Hid ((z.map (Value.int .i64)).toArray.all (·.oneCell') = true) := hide (by simp [Value.oneCell'])
  have HX := hide hx
  have HI := hide hi
  clear hx hi hs hl
  go_enter Tryz.func16, Tryz.ntmps16
  go_wp2_with (first | (refine wpList_load_off rfl 41 _ rfl sb 1 rfl _ _ _ _ _ HB.out HX.out Tryz.underlying41 rfl HI.out ?_) | (refine wpList_store_row rfl 41 _ _ rfl w.heap.size _ rfl rfl _ _ (heap_alloc_new w _) HI2.out HL.out H1.out ?_))
  (try simp only [Exit.inBlock, Exit.then])
  refine bodyPost_ret (results_cell_row rfl _ _ w.heap.size 41 _ (0, 0) _ rfl (setRow_heap _ _ _ _ _ _ (heap_alloc_new w _)) Tryz.underlying41 rfl HI2.out) rfl ?_
  exact ⟨rfl, below_setRow (by (repeat (first | exact Below.refl _ _ | with_reducible assumption | (refine Below.setCell ?_ (by simp <;> omega) _) | (refine Below.alloc ?_ (by simp <;> omega) _)))) (Nat.le_refl _) _⟩

theorem dday_any (m : Int) (w : World) (h1 : 0 ≤ m) (h2 : m ≤ 105190559) : Calls Tryz.prog 48 #[.int .i64 m] w fun e w' => e = .returned (.tuple #[.int .i64 (m / 1440), .int .i64 0]) ∧ w = w' := by
  have a1 : decide (0 ≤ m) = true := by simp [h1]
  go_enter Tryz.func48, Tryz.ntmps48
  go_wp2
  go_ret2
  exact ⟨rfl, rfl⟩
end Go.Proofs.YticcfbeocepnpaaGreatDoor
