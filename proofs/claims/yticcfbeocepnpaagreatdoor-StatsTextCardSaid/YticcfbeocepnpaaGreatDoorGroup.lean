/-
  The walks of layer 12 (names of groups): the program's Check, FormatList and the reference's Check, CheckList.
-/
import Derived.Test.YticcfbeocepnpaaGreatDoorProg
import Derived.Test.YticcfbeocepnpaaGreatDoorSite
import Derived.Test.YticcfbeocepnpaaGreatDoorGroupP
import Derived.Test.YticcfbeocepnpaaGreatDoorShelf
import Derived.Outline
import Derived.Deep.Light
import Derived.Deep.DeepCutAuto
import Derived.Deep.QuietTactic
import Derived.BigQuiet
set_option linter.unusedSimpArgs false
set_option maxRecDepth 100000
namespace Go.Proofs.YticcfbeocepnpaaGreatDoor
open Go.RowKit Pl

theorem below_refl_of {w w' : World} (h : w = w') : Below w.heap.size w w' := h ▸ Below.refl _ _

set_option maxHeartbeats 400000 in
theorem gpermitted_any (x : Nat) (w : World) (hx : x ≤ 1114111) : Calls Tryz.prog 151 #[.int .i32 x] w fun e w' => e = .returned (.bool (permN x)) ∧ w = w' := by
  go_enter Tryz.func151, Tryz.ntmps151
  repeat' (first | ((with_reducible apply mg_pick_true); (· exact rfl); (· exact rfl); (· exact rfl); (· exact rfl); (simp only [Act.put, List.setIfInBounds_toArray, List.set_cons_zero, List.set_cons_succ])) | ((with_reducible apply mg_pick_false); (· exact rfl); (· exact rfl); (· exact rfl); (· exact rfl); (simp only [Act.put, List.setIfInBounds_toArray, List.set_cons_zero, List.set_cons_succ])) | ((with_reducible apply mg_pick_and); (· exact rfl); (· exact rfl); (· exact rfl); (· exact rfl); (· exact rfl); (· exact rfl); intro _ _; (simp only [Act.put, List.setIfInBounds_toArray, List.set_cons_zero, List.set_cons_succ])) | ((with_reducible apply mg_pick_or); (· exact rfl); (· exact rfl); (· exact rfl); (· exact rfl); (· exact rfl); (· exact rfl); intro _ _; (simp only [Act.put, List.setIfInBounds_toArray, List.set_cons_zero, List.set_cons_succ])) | ((with_reducible apply mg_cmp); (· exact rfl); (· exact rfl); (· exact rfl); (· (go_simp; (with_reducible exact rfl))); intro _ _; (simp only [Act.put, List.setIfInBounds_toArray, List.set_cons_zero, List.set_cons_succ])) | ((with_reducible apply mgc_t); (· exact rfl); (· exact rfl); (· exact rfl); (· exact rfl); (· exact rfl); (· exact rfl); (· (intro hb; (first | ((simp only [hb, cond_true, cond_false]); first | (exact run_pick_and rfl rfl rfl rfl) | (exact run_pick_or rfl rfl rfl rfl) | (exact run_pick_bool rfl rfl rfl rfl)) | ((simp only [hb, cond_true, cond_false]); exact run_index_str rfl Tryz.underlying9 rfl rfl (by omega) (by omega)) | (go_simp; (with_reducible exact rfl))))); intro _ _; (simp only [Act.put, List.setIfInBounds_toArray, List.set_cons_zero, List.set_cons_succ])) | ((with_reducible apply mgc_f); (· exact rfl); (· exact rfl); (· exact rfl); (· exact rfl); (· exact rfl); (· exact rfl); (· (intro hb; (first | ((simp only [hb, cond_true, cond_false]); first | (exact run_pick_and rfl rfl rfl rfl) | (exact run_pick_or rfl rfl rfl rfl) | (exact run_pick_bool rfl rfl rfl rfl)) | ((simp only [hb, cond_true, cond_false]); exact run_index_str rfl Tryz.underlying9 rfl rfl (by omega) (by omega)) | (go_simp; (with_reducible exact rfl))))); intro _ _; (simp only [Act.put, List.setIfInBounds_toArray, List.set_cons_zero, List.set_cons_succ])) | ((with_reducible apply mgc_tt); (· exact rfl); (· exact rfl); (· exact rfl); (· exact rfl); (· exact rfl); (· exact rfl); (· (intro hb hx; (first | ((simp only [hb, hx, cond_true, cond_false]); first | (exact run_pick_and rfl rfl rfl rfl) | (exact run_pick_or rfl rfl rfl rfl) | (exact run_pick_bool rfl rfl rfl rfl)) | ((simp only [hb, hx, cond_true, cond_false]); exact run_index_str rfl Tryz.underlying9 rfl rfl (by omega) (by omega)) | (go_simp; (with_reducible exact rfl))))); intro _ _; (simp only [Act.put, List.setIfInBounds_toArray, List.set_cons_zero, List.set_cons_succ])) | ((with_reducible apply mgc_tf); (· exact rfl); (· exact rfl); (· exact rfl); (· exact rfl); (· exact rfl); (· exact rfl); (· (intro hb hx; (first | ((simp only [hb, hx, cond_true, cond_false]); first | (exact run_pick_and rfl rfl rfl rfl) | (exact run_pick_or rfl rfl rfl rfl) | (exact run_pick_bool rfl rfl rfl rfl)) | ((simp only [hb, hx, cond_true, cond_false]); exact run_index_str rfl Tryz.underlying9 rfl rfl (by omega) (by omega)) | (go_simp; (with_reducible exact rfl))))); intro _ _; (simp only [Act.put, List.setIfInBounds_toArray, List.set_cons_zero, List.set_cons_succ])) | ((with_reducible apply mgc_ft); (· exact rfl); (· exact rfl); (· exact rfl); (· exact rfl); (· exact rfl); (· exact rfl); (· (intro hb hx; (first | ((simp only [hb, hx, cond_true, cond_false]); first | (exact run_pick_and rfl rfl rfl rfl) | (exact run_pick_or rfl rfl rfl rfl) | (exact run_pick_bool rfl rfl rfl rfl)) | ((simp only [hb, hx, cond_true, cond_false]); exact run_index_str rfl Tryz.underlying9 rfl rfl (by omega) (by omega)) | (go_simp; (with_reducible exact rfl))))); intro _ _; (simp only [Act.put, List.setIfInBounds_toArray, List.set_cons_zero, List.set_cons_succ])) | ((with_reducible apply mgc_ff); (· exact rfl); (· exact rfl); (· exact rfl); (· exact rfl); (· exact rfl); (· exact rfl); (· (intro hb hx; (first | ((simp only [hb, hx, cond_true, cond_false]); first | (exact run_pick_and rfl rfl rfl rfl) | (exact run_pick_or rfl rfl rfl rfl) | (exact run_pick_bool rfl rfl rfl rfl)) | ((simp only [hb, hx, cond_true, cond_false]); exact run_index_str rfl Tryz.underlying9 rfl rfl (by omega) (by omega)) | (go_simp; (with_reducible exact rfl))))); intro _ _; (simp only [Act.put, List.setIfInBounds_toArray, List.set_cons_zero, List.set_cons_succ])) | ((with_reducible apply mgc_ttt); (· exact rfl); (· exact rfl); (· exact rfl); (· exact rfl); (· exact rfl); (· exact rfl); (· (intro hb hx hy; (first | ((simp only [hb, hx, hy, cond_true, cond_false]); first | (exact run_pick_and rfl rfl rfl rfl) | (exact run_pick_or rfl rfl rfl rfl) | (exact run_pick_bool rfl rfl rfl rfl)) | ((simp only [hb, hx, hy, cond_true, cond_false]); exact run_index_str rfl Tryz.underlying9 rfl rfl (by omega) (by omega)) | (go_simp; (with_reducible exact rfl))))); intro _ _; (simp only [Act.put, List.setIfInBounds_toArray, List.set_cons_zero, List.set_cons_succ])) | ((with_reducible apply mgc_ttf); (· exact rfl); (· exact rfl); (· exact rfl); (· exact rfl); (· exact rfl); (· exact rfl); (· (intro hb hx hy; (first | ((simp only [hb, hx, hy, cond_true, cond_false]); first | (exact run_pick_and rfl rfl rfl rfl) | (exact run_pick_or rfl rfl rfl rfl) | (exact run_pick_bool rfl rfl rfl rfl)) | ((simp only [hb, hx, hy, cond_true, cond_false]); exact run_index_str rfl Tryz.underlying9 rfl rfl (by omega) (by omega)) | (go_simp; (with_reducible exact rfl))))); intro _ _; (simp only [Act.put, List.setIfInBounds_toArray, List.set_cons_zero, List.set_cons_succ])) | ((with_reducible apply mgc_tft); (· exact rfl); (· exact rfl); (· exact rfl); (· exact rfl); (· exact rfl); (· exact rfl); (· (intro hb hx hy; (first | ((simp only [hb, hx, hy, cond_true, cond_false]); first | (exact run_pick_and rfl rfl rfl rfl) | (exact run_pick_or rfl rfl rfl rfl) | (exact run_pick_bool rfl rfl rfl rfl)) | ((simp only [hb, hx, hy, cond_true, cond_false]); exact run_index_str rfl Tryz.underlying9 rfl rfl (by omega) (by omega)) | (go_simp; (with_reducible exact rfl))))); intro _ _; (simp only [Act.put, List.setIfInBounds_toArray, List.set_cons_zero, List.set_cons_succ])) | ((with_reducible apply mgc_tff); (· exact rfl); (· exact rfl); (· exact rfl); (· exact rfl); (· exact rfl); (· exact rfl); (· (intro hb hx hy; (first | ((simp only [hb, hx, hy, cond_true, cond_false]); first | (exact run_pick_and rfl rfl rfl rfl) | (exact run_pick_or rfl rfl rfl rfl) | (exact run_pick_bool rfl rfl rfl rfl)) | ((simp only [hb, hx, hy, cond_true, cond_false]); exact run_index_str rfl Tryz.underlying9 rfl rfl (by omega) (by omega)) | (go_simp; (with_reducible exact rfl))))); intro _ _; (simp only [Act.put, List.setIfInBounds_toArray, List.set_cons_zero, List.set_cons_succ])) | ((with_reducible apply mgc_ftt); (· exact rfl); (· exact rfl); (· exact rfl); (· exact rfl); (· exact rfl); (· exact rfl); (· (intro hb hx hy; (first | ((simp only [hb, hx, hy, cond_true, cond_false]); first | (exact run_pick_and rfl rfl rfl rfl) | (exact run_pick_or rfl rfl rfl rfl) | (exact run_pick_bool rfl rfl rfl rfl)) | ((simp only [hb, hx, hy, cond_true, cond_false]); exact run_index_str rfl Tryz.underlying9 rfl rfl (by omega) (by omega)) | (go_simp; (with_reducible exact rfl))))); intro _ _; (simp only [Act.put, List.setIfInBounds_toArray, List.set_cons_zero, List.set_cons_succ])) | ((with_reducible apply mgc_ftf); (· exact rfl); (· exact rfl); (· exact rfl); (· exact rfl); (· exact rfl); (· exact rfl); (· (intro hb hx hy; (first | ((simp only [hb, hx, hy, cond_true, cond_false]); first | (exact run_pick_and rfl rfl rfl rfl) | (exact run_pick_or rfl rfl rfl rfl) | (exact run_pick_bool rfl rfl rfl rfl)) | ((simp only [hb, hx, hy, cond_true, cond_false]); exact run_index_str rfl Tryz.underlying9 rfl rfl (by omega) (by omega)) | (go_simp; (with_reducible exact rfl))))); intro _ _; (simp only [Act.put, List.setIfInBounds_toArray, List.set_cons_zero, List.set_cons_succ])) | ((with_reducible apply mgc_fft); (· exact rfl); (· exact rfl); (· exact rfl); (· exact rfl); (· exact rfl); (· exact rfl); (· (intro hb hx hy; (first | ((simp only [hb, hx, hy, cond_true, cond_false]); first | (exact run_pick_and rfl rfl rfl rfl) | (exact run_pick_or rfl rfl rfl rfl) | (exact run_pick_bool rfl rfl rfl rfl)) | ((simp only [hb, hx, hy, cond_true, cond_false]); exact run_index_str rfl Tryz.underlying9 rfl rfl (by omega) (by omega)) | (go_simp; (with_reducible exact rfl))))); intro _ _; (simp only [Act.put, List.setIfInBounds_toArray, List.set_cons_zero, List.set_cons_succ])) | ((with_reducible apply mgc_fff); (· exact rfl); (· exact rfl); (· exact rfl); (· exact rfl); (· exact rfl); (· exact rfl); (· (intro hb hx hy; (first | ((simp only [hb, hx, hy, cond_true, cond_false]); first | (exact run_pick_and rfl rfl rfl rfl) | (exact run_pick_or rfl rfl rfl rfl) | (exact run_pick_bool rfl rfl rfl rfl)) | ((simp only [hb, hx, hy, cond_true, cond_false]); exact run_index_str rfl Tryz.underlying9 rfl rfl (by omega) (by omega)) | (go_simp; (with_reducible exact rfl))))); intro _ _; (simp only [Act.put, List.setIfInBounds_toArray, List.set_cons_zero, List.set_cons_succ])) | ((with_reducible apply mg_t); (· exact rfl); (· exact rfl); (· exact rfl); (· exact rfl); (· exact rfl); (· (intro hb; (first | ((simp only [hb, cond_true, cond_false]); first | (exact run_pick_and rfl rfl rfl rfl) | (exact run_pick_or rfl rfl rfl rfl) | (exact run_pick_bool rfl rfl rfl rfl)) | ((simp only [hb, cond_true, cond_false]); exact run_index_str rfl Tryz.underlying9 rfl rfl (by omega) (by omega)) | (go_simp; (with_reducible exact rfl))))); (simp only [Act.put, List.setIfInBounds_toArray, List.set_cons_zero, List.set_cons_succ])) | ((with_reducible apply mg_f); (· exact rfl); (· exact rfl); (· exact rfl); (· exact rfl); (· exact rfl); (· (intro hb; (first | ((simp only [hb, cond_true, cond_false]); first | (exact run_pick_and rfl rfl rfl rfl) | (exact run_pick_or rfl rfl rfl rfl) | (exact run_pick_bool rfl rfl rfl rfl)) | ((simp only [hb, cond_true, cond_false]); exact run_index_str rfl Tryz.underlying9 rfl rfl (by omega) (by omega)) | (go_simp; (with_reducible exact rfl))))); (simp only [Act.put, List.setIfInBounds_toArray, List.set_cons_zero, List.set_cons_succ])) | ((with_reducible apply mg_tt); (· exact rfl); (· exact rfl); (· exact rfl); (· exact rfl); (· exact rfl); (· (intro hb hx; (first | ((simp only [hb, hx, cond_true, cond_false]); first | (exact run_pick_and rfl rfl rfl rfl) | (exact run_pick_or rfl rfl rfl rfl) | (exact run_pick_bool rfl rfl rfl rfl)) | ((simp only [hb, hx, cond_true, cond_false]); exact run_index_str rfl Tryz.underlying9 rfl rfl (by omega) (by omega)) | (go_simp; (with_reducible exact rfl))))); (simp only [Act.put, List.setIfInBounds_toArray, List.set_cons_zero, List.set_cons_succ])) | ((with_reducible apply mg_tf); (· exact rfl); (· exact rfl); (· exact rfl); (· exact rfl); (· exact rfl); (· (intro hb hx; (first | ((simp only [hb, hx, cond_true, cond_false]); first | (exact run_pick_and rfl rfl rfl rfl) | (exact run_pick_or rfl rfl rfl rfl) | (exact run_pick_bool rfl rfl rfl rfl)) | ((simp only [hb, hx, cond_true, cond_false]); exact run_index_str rfl Tryz.underlying9 rfl rfl (by omega) (by omega)) | (go_simp; (with_reducible exact rfl))))); (simp only [Act.put, List.setIfInBounds_toArray, List.set_cons_zero, List.set_cons_succ])) | ((with_reducible apply mg_ft); (· exact rfl); (· exact rfl); (· exact rfl); (· exact rfl); (· exact rfl); (· (intro hb hx; (first | ((simp only [hb, hx, cond_true, cond_false]); first | (exact run_pick_and rfl rfl rfl rfl) | (exact run_pick_or rfl rfl rfl rfl) | (exact run_pick_bool rfl rfl rfl rfl)) | ((simp only [hb, hx, cond_true, cond_false]); exact run_index_str rfl Tryz.underlying9 rfl rfl (by omega) (by omega)) | (go_simp; (with_reducible exact rfl))))); (simp only [Act.put, List.setIfInBounds_toArray, List.set_cons_zero, List.set_cons_succ])) | ((with_reducible apply mg_ff); (· exact rfl); (· exact rfl); (· exact rfl); (· exact rfl); (· exact rfl); (· (intro hb hx; (first | ((simp only [hb, hx, cond_true, cond_false]); first | (exact run_pick_and rfl rfl rfl rfl) | (exact run_pick_or rfl rfl rfl rfl) | (exact run_pick_bool rfl rfl rfl rfl)) | ((simp only [hb, hx, cond_true, cond_false]); exact run_index_str rfl Tryz.underlying9 rfl rfl (by omega) (by omega)) | (go_simp; (with_reducible exact rfl))))); (simp only [Act.put, List.setIfInBounds_toArray, List.set_cons_zero, List.set_cons_succ])) | ((with_reducible apply mg_ttt); (· exact rfl); (· exact rfl); (· exact rfl); (· exact rfl); (· exact rfl); (· (intro hb hx hy; (first | ((simp only [hb, hx, hy, cond_true, cond_false]); first | (exact run_pick_and rfl rfl rfl rfl) | (exact run_pick_or rfl rfl rfl rfl) | (exact run_pick_bool rfl rfl rfl rfl)) | ((simp only [hb, hx, hy, cond_true, cond_false]); exact run_index_str rfl Tryz.underlying9 rfl rfl (by omega) (by omega)) | (go_simp; (with_reducible exact rfl))))); (simp only [Act.put, List.setIfInBounds_toArray, List.set_cons_zero, List.set_cons_succ])) | ((with_reducible apply mg_ttf); (· exact rfl); (· exact rfl); (· exact rfl); (· exact rfl); (· exact rfl); (· (intro hb hx hy; (first | ((simp only [hb, hx, hy, cond_true, cond_false]); first | (exact run_pick_and rfl rfl rfl rfl) | (exact run_pick_or rfl rfl rfl rfl) | (exact run_pick_bool rfl rfl rfl rfl)) | ((simp only [hb, hx, hy, cond_true, cond_false]); exact run_index_str rfl Tryz.underlying9 rfl rfl (by omega) (by omega)) | (go_simp; (with_reducible exact rfl))))); (simp only [Act.put, List.setIfInBounds_toArray, List.set_cons_zero, List.set_cons_succ])) | ((with_reducible apply mg_tft); (· exact rfl); (· exact rfl); (· exact rfl); (· exact rfl); (· exact rfl); (· (intro hb hx hy; (first | ((simp only [hb, hx, hy, cond_true, cond_false]); first | (exact run_pick_and rfl rfl rfl rfl) | (exact run_pick_or rfl rfl rfl rfl) | (exact run_pick_bool rfl rfl rfl rfl)) | ((simp only [hb, hx, hy, cond_true, cond_false]); exact run_index_str rfl Tryz.underlying9 rfl rfl (by omega) (by omega)) | (go_simp; (with_reducible exact rfl))))); (simp only [Act.put, List.setIfInBounds_toArray, List.set_cons_zero, List.set_cons_succ])) | ((with_reducible apply mg_tff); (· exact rfl); (· exact rfl); (· exact rfl); (· exact rfl); (· exact rfl); (· (intro hb hx hy; (first | ((simp only [hb, hx, hy, cond_true, cond_false]); first | (exact run_pick_and rfl rfl rfl rfl) | (exact run_pick_or rfl rfl rfl rfl) | (exact run_pick_bool rfl rfl rfl rfl)) | ((simp only [hb, hx, hy, cond_true, cond_false]); exact run_index_str rfl Tryz.underlying9 rfl rfl (by omega) (by omega)) | (go_simp; (with_reducible exact rfl))))); (simp only [Act.put, List.setIfInBounds_toArray, List.set_cons_zero, List.set_cons_succ])) | ((with_reducible apply mg_ftt); (· exact rfl); (· exact rfl); (· exact rfl); (· exact rfl); (· exact rfl); (· (intro hb hx hy; (first | ((simp only [hb, hx, hy, cond_true, cond_false]); first | (exact run_pick_and rfl rfl rfl rfl) | (exact run_pick_or rfl rfl rfl rfl) | (exact run_pick_bool rfl rfl rfl rfl)) | ((simp only [hb, hx, hy, cond_true, cond_false]); exact run_index_str rfl Tryz.underlying9 rfl rfl (by omega) (by omega)) | (go_simp; (with_reducible exact rfl))))); (simp only [Act.put, List.setIfInBounds_toArray, List.set_cons_zero, List.set_cons_succ])) | ((with_reducible apply mg_ftf); (· exact rfl); (· exact rfl); (· exact rfl); (· exact rfl); (· exact rfl); (· (intro hb hx hy; (first | ((simp only [hb, hx, hy, cond_true, cond_false]); first | (exact run_pick_and rfl rfl rfl rfl) | (exact run_pick_or rfl rfl rfl rfl) | (exact run_pick_bool rfl rfl rfl rfl)) | ((simp only [hb, hx, hy, cond_true, cond_false]); exact run_index_str rfl Tryz.underlying9 rfl rfl (by omega) (by omega)) | (go_simp; (with_reducible exact rfl))))); (simp only [Act.put, List.setIfInBounds_toArray, List.set_cons_zero, List.set_cons_succ])) | ((with_reducible apply mg_fft); (· exact rfl); (· exact rfl); (· exact rfl); (· exact rfl); (· exact rfl); (· (intro hb hx hy; (first | ((simp only [hb, hx, hy, cond_true, cond_false]); first | (exact run_pick_and rfl rfl rfl rfl) | (exact run_pick_or rfl rfl rfl rfl) | (exact run_pick_bool rfl rfl rfl rfl)) | ((simp only [hb, hx, hy, cond_true, cond_false]); exact run_index_str rfl Tryz.underlying9 rfl rfl (by omega) (by omega)) | (go_simp; (with_reducible exact rfl))))); (simp only [Act.put, List.setIfInBounds_toArray, List.set_cons_zero, List.set_cons_succ])) | ((with_reducible apply mg_fff); (· exact rfl); (· exact rfl); (· exact rfl); (· exact rfl); (· exact rfl); (· (intro hb hx hy; (first | ((simp only [hb, hx, hy, cond_true, cond_false]); first | (exact run_pick_and rfl rfl rfl rfl) | (exact run_pick_or rfl rfl rfl rfl) | (exact run_pick_bool rfl rfl rfl rfl)) | ((simp only [hb, hx, hy, cond_true, cond_false]); exact run_index_str rfl Tryz.underlying9 rfl rfl (by omega) (by omega)) | (go_simp; (with_reducible exact rfl))))); (simp only [Act.put, List.setIfInBounds_toArray, List.set_cons_zero, List.set_cons_succ])) | go_values | go_skip | go_guarded | go_step | go_upon)
  all_goals
    go_ret
    refine ⟨ret_bool ?_, rfl⟩
    go_light
    unfold Hid at *
    subst_vars
    rw [Bool.eq_iff_iff]
    simp [permN, lowN, digN] at *
    try omega

theorem gcomponent1_any (x : Nat) (w : World) (hx : x ≤ 1114111) : Calls Tryz.prog 150 #[.int .i32 x] w fun e w' => e = .returned (.bool (!permN x)) ∧ w = w' := by
  have HC := hide (gpermitted_any x w hx)
  obtain ⟨b, hb⟩ : ∃ b, permN x = b := ⟨_, rfl⟩
  rw [hb] at HC ⊢
  clear hb
  go_enter Tryz.func150, Tryz.ntmps150
  go_wp2_with (go_at_call 151; refine HC.out.mono ?_; rintro e w' ⟨rfl, rfl⟩)
  go_ret
  exact ⟨rfl, rfl⟩

theorem comp1_grows (w : World) : PredGrows Tryz.prog 150 #[] (fun x => !permN x) w := fun W x hx _ =>
  (gcomponent1_any x W hx).mono fun _ _ ⟨he, hw⟩ => ⟨he, below_refl_of hw⟩

set_option maxHeartbeats 800000 in
theorem gcomponent_any (s : ByteArray) (w : World) (hs : s.size ≤ maxLen) :
    Calls Tryz.prog 120 #[.string s] w fun e w' => e = .returned (.bool (compL s.data.toList)) ∧ Below w.heap.size w w' := by
  unfold maxLen at hs
  by_cases h0 : s.size = 0
  · have hf := hide (compL_bad_size s (by omega))
    rw [hf.out]
    have he := empty_of_size h0
    clear h0
    subst he
    go_enter Tryz.func120, Tryz.ntmps120
    go_wp2_with fail
    go_ret
    exact ⟨rfl, Below.refl _ _⟩
  have he := eql_empty h0
  by_cases h1 : 20 < s.size
  · have hf := hide (compL_bad_size s (by omega))
    rw [hf.out]
    clear h0
    go_enter Tryz.func120, Tryz.ntmps120
    go_wp2_with fail
    go_ret
    exact ⟨rfl, Below.refl _ _⟩
  have h2 : s.size ≤ 20 := by omega
  have h3 : 1 ≤ s.size := by omega
  clear h1 h0
  by_cases hl : lowN (s[0]'(by omega)).toNat = true
  · have hr : compL s.data.toList = s.data.toList.all (fun c => permN c.toNat) := by
      cases ha : s.data.toList.all (fun c => permN c.toNat) with
      | true => exact compL_true s h3 h2 hl ha
      | false => exact compL_bad_all s ha
    have HC := hide (Tryz.strings_ContainsFunc_grows 150 #[] (fun args w => by kernel_rfl) (fun x => !permN x) s w (comp1_grows w))
    rw [idx_perm] at HC
    rw [hr]
    obtain ⟨b, hb⟩ : ∃ b, s.data.toList.all (fun c => permN c.toNat) = b := ⟨_, rfl⟩
    rw [hb] at HC ⊢
    obtain ⟨h4, h5⟩ := lowN_cases.1 hl
    clear hl hb hr
    go_enter Tryz.func120, Tryz.ntmps120
    go_wp2_with (go_at_call 149; refine HC.out.mono ?_; rintro e w' ⟨rfl, hb⟩)
    go_ret
    exact ⟨rfl, hb⟩
  · have hf := hide (compL_bad_head s (by omega) (by simpa using hl))
    rw [hf.out]
    rcases lowN_cases.2 (show lowN (s[0]'(by omega)).toNat = false by simpa using hl) with h4 | h4
    all_goals
      clear hl
      go_enter Tryz.func120, Tryz.ntmps120
      go_wp2_with fail
      go_ret
      exact ⟨rfl, Below.refl _ _⟩

theorem gCheck1_any (s : ByteArray) (w : World) (hs : s.size ≤ maxLen) :
    Calls Tryz.prog 119 #[.string s] w fun e w' => e = .returned (.bool (!compL s.data.toList)) ∧ Below w.heap.size w w' := by
  have HC := hide (gcomponent_any s w hs)
  obtain ⟨b, hb⟩ : ∃ b, compL s.data.toList = b := ⟨_, rfl⟩
  rw [hb] at HC ⊢
  clear hb
  go_enter Tryz.func119, Tryz.ntmps119
  go_wp2_with (go_at_call 120; refine HC.out.mono ?_; rintro e w' ⟨rfl, hb⟩)
  go_ret
  exact ⟨rfl, hb⟩

/-- The strings of a row lie at these cells. -/
def CellsS (w : World) (b o : Nat) (ss : List ByteArray) : Prop := ∀ (j : Nat) x, ss[j]? = some x → w.cell? ⟨b, o + j, none⟩ = some (.string x)
theorem CellsS.block {w : World} {b o : Nat} {ss : List ByteArray} (h : CellsS w b o ss) (hn : 0 < ss.length) : b < w.heap.size :=
  World.block_lt_of_cell? w _ (h 0 _ (List.getElem?_eq_getElem hn))
theorem CellsS.below {w w' : World} {b o : Nat} {ss : List ByteArray} (h : CellsS w b o ss) (hb : Below w.heap.size w w') : CellsS w' b o ss := by
  intro j x hj
  have hc := h j x hj
  rw [hb.cell (p := ⟨b, o + j, none⟩) (World.block_lt_of_cell? w _ hc)]
  exact hc

theorem any_bad_some {ss : List ByteArray} {k : Nat} {x : ByteArray} (hk : ss[k]? = some x) (hx : compL x.data.toList = false) : (ss.map (·.data.toList)).all compL = false := by
  rw [List.all_eq_false]
  exact ⟨x.data.toList, List.mem_map.2 ⟨x, List.mem_of_getElem? hk, rfl⟩, by simp [hx]⟩
theorem all_good {ss : List ByteArray} (h : ∀ (j : Nat) x, ss[j]? = some x → compL x.data.toList = true) : (ss.map (·.data.toList)).all compL = true := by
  rw [List.all_eq_true]
  intro y hy
  obtain ⟨x, hx, rfl⟩ := List.mem_map.1 hy
  obtain ⟨j, hj⟩ := List.getElem?_of_mem hx
  exact h j x hj

/-- The place of the first string that is no component; -1: there is none. -/
def badIdx (ss : List ByteArray) : Int := if (ss.map (·.data.toList)).all compL = true then -1 else (((ss.map (·.data.toList)).findIdx (fun l => !compL l) : Nat) : Int)
theorem badIdx_none {ss : List ByteArray} (h : (ss.map (·.data.toList)).all compL = true) : badIdx ss = -1 := by unfold badIdx; rw [if_pos h]
theorem badIdx_some {ss : List ByteArray} {k : Nat} (h : (ss.map (·.data.toList)).all compL = false) (hk : (ss.map (·.data.toList)).findIdx (fun l => !compL l) = k) : badIdx ss = k := by
  unfold badIdx; rw [h, hk]; rfl
theorem badIdx_ge (ss : List ByteArray) : decide (0 ≤ badIdx ss) = !((ss.map (·.data.toList)).all compL) := by
  cases h : (ss.map (·.data.toList)).all compL with
  | true => rw [badIdx_none h]; rfl
  | false => rw [badIdx_some h rfl]; simp
theorem indexBad_any (b o n c : Nat) (ss : List ByteArray) (w : World) (hlen : ss.length = n) (hn : n ≤ 9223372036854775807) (hc : CellsS w b o ss) (hm : ∀ x ∈ ss, x.size ≤ maxLen) :
    Calls Tryz.prog 148 #[.slice (some ⟨b, o, none⟩) n c, .func (.func 119) #[] #[]] w fun e w' =>
      e = .returned (.int .i64 (badIdx ss)) ∧ Below w.heap.size w w' := by
  have HL := hide hlen
  have HC := hide hc
  have HM := hide hm
  clear hlen hc hm
  obtain ⟨B, hB⟩ : ∃ B, w.heap.size = B := ⟨_, rfl⟩
  rw [hB]
  have HB := hide hB
  clear hB
  go_enter Tryz.func148, Tryz.ntmps148
  go_wp2_with fail
  go_loopw [5, 8] (fun _ i wr => ∃ k : Nat, k ≤ n ∧ i = .int .i64 k ∧ Below B w wr ∧ ∀ (j : Nat) x, j < k → ss[j]? = some x → compL x.data.toList = true) (fun _ i _ => n - (intOf i).toNat)
  case atStart => exact ⟨0, by omega, rfl, Below.refl _ _, fun j x hj => by omega⟩
  case round =>
    obtain ⟨k, hk, rfl, hbel, hal⟩ := hrel
    have HA := hide hal
    have HBel := hide hbel
    clear hal hbel
    by_cases hlt : k < n
    · obtain ⟨x, hx⟩ : ∃ x, ss[k]? = some x := ⟨_, List.getElem?_eq_getElem (by rw [HL.out]; exact hlt)⟩
      have hcell : wr.cell? ⟨b, o + k, none⟩ = some (.string x) := by
        have := HC.out k x hx
        rw [HBel.out.cell (p := ⟨b, o + k, none⟩) (by rw [← HB.out]; exact World.block_lt_of_cell? w _ this)]
        exact this
      have hCk := gCheck1_any x wr (HM.out x (List.mem_of_getElem? hx))
      obtain ⟨v, hv⟩ : ∃ v, compL x.data.toList = v := ⟨_, rfl⟩
      rw [hv] at hCk
      have HCk := hide hCk
      have HX := hide hx
      clear hCk hx
      cases v
      · have HF := hide (any_bad_some HX.out hv)
        have HI : Hid ((ss.map (·.data.toList)).findIdx (fun l => !compL l) = k) := by
          show _ = _
          have hkl : k < ss.length := by rw [HL.out]; exact hlt
          have hxk : ss[k] = x := by have := HX.out; rw [List.getElem?_eq_getElem hkl] at this; simpa using this
          rw [List.findIdx_eq (by simpa using hkl)]
          refine ⟨by simp [hxk, hv], fun j hj => ?_⟩
          simp
          exact HA.out j _ hj (List.getElem?_eq_getElem (by omega))
        clear hv
        go_wp2_with (go_at_call 119; refine HCk.out.mono ?_; rintro e w' ⟨rfl, hb⟩)
        go_ret
        refine ⟨ret_int ?_, ?_⟩
        · rw [badIdx_some HF.out HI.out]
        · exact HBel.out.trans (hb.mono (by have := HBel.out.size; rw [← HB.out]; exact this))
      · have HV := hide hv
        clear hv
        go_wp2_with (go_at_call 119; refine HCk.out.mono ?_; rintro e w' ⟨rfl, hb⟩)
        go_roundw
        case rel =>
          refine ⟨k + 1, by omega, by go_num, HBel.out.trans (hb.mono (by have := HBel.out.size; rw [← HB.out]; exact this)), fun j y hj hy => ?_⟩
          rcases Nat.lt_succ_iff_lt_or_eq.1 hj with h | rfl
          · exact HA.out j y h hy
          · rw [HX.out] at hy; cases hy; exact HV.out
        case measure => simp [intOf]; omega
    · have HF := hide (all_good (ss := ss) (fun j x hj => HA.out j x (by have := (List.getElem?_eq_some_iff.1 hj).1; rw [HL.out] at this; omega) hj))
      clear HA
      go_wp2_with fail
      go_ret
      exact ⟨ret_int (badIdx_none HF.out).symm, HBel.out⟩

theorem containsBad_any (b o n c : Nat) (ss : List ByteArray) (w : World) (hlen : ss.length = n) (hn : n ≤ 9223372036854775807) (hc : CellsS w b o ss) (hm : ∀ x ∈ ss, x.size ≤ maxLen) :
    Calls Tryz.prog 118 #[.slice (some ⟨b, o, none⟩) n c, .func (.func 119) #[] #[]] w fun e w' =>
      e = .returned (.bool (!((ss.map (·.data.toList)).all compL))) ∧ Below w.heap.size w w' := by
  have HC := hide (indexBad_any b o n c ss w hlen hn hc hm)
  rw [← badIdx_ge]
  clear hlen hc hm
  obtain ⟨i, hi⟩ : ∃ i, badIdx ss = i := ⟨_, rfl⟩
  rw [hi] at HC ⊢
  clear hi
  go_enter Tryz.func118, Tryz.ntmps118
  go_wp2_with (go_at_call 148; refine HC.out.mono ?_; rintro e w' ⟨rfl, hb⟩)
  go_ret
  exact ⟨rfl, hb⟩

/-- strings.Split at one byte. -/
structure SplitAt (s : ByteArray) (c : UInt8) (w : World) (ps : List ByteArray) (w' : World) : Prop where
  cells : CellsS w' w.heap.size 0 ps
  parts : ps.map (·.data.toList) = partsL c s.data.toList
  below : Below w.heap.size w w'
  new : w.heap.size < w'.heap.size
theorem SplitAt.le {s : ByteArray} {c : UInt8} {w w' : World} {ps : List ByteArray} (h : SplitAt s c w ps w') : ∀ x ∈ ps, x.size ≤ s.size := fun x hx =>
  mem_partsL c s.data.toList x.data.toList (by rw [← h.parts]; exact List.mem_map.2 ⟨x, hx, rfl⟩)
theorem SplitAt.length {s : ByteArray} {c : UInt8} {w w' : World} {ps : List ByteArray} (h : SplitAt s c w ps w') : ps.length = (partsL c s.data.toList).length := by
  rw [← h.parts]; simp
theorem cellsS_alloc (w : World) (ss : List ByteArray) (T : TypeId) : CellsS (w.alloc (.cells (ss.map Value.string).toArray T)) w.heap.size 0 ss := by
  intro j x hj
  rw [Nat.zero_add, World.cell?_alloc_new]
  simp [hj]
def MLen (w : World) : Prop := ∃ m, w.cell? ⟨0, 0, none⟩ = some (.int .i64 m)
theorem MLen.below {w w' : World} (h : MLen w) (hb : Below w.heap.size w w') : MLen w' := by
  obtain ⟨m, hm⟩ := h
  refine ⟨m, ?_⟩
  rw [hb.cell (World.block_lt_of_cell? w _ hm)]
  exact hm
theorem split_any (s : ByteArray) (c : UInt8) (w : World) (hs : s.size < 4294967281) (hm : MLen w) :
    Calls Tryz.prog 74 #[.string s, .string ⟨#[c]⟩] w fun e w' => ∃ ps : List ByteArray, SplitAt s c w ps w' ∧ e = .returned (.slice (some ⟨w.heap.size, 0, none⟩) ps.length ps.length) := by
  obtain ⟨m, hm⟩ := hm
  refine (Tryz.strings_Split s ⟨#[c]⟩ m w hs hm (Nat.le_refl 1)).mono ?_
  rintro e w' ⟨rfl, rfl⟩
  refine ⟨Lib.splitB ⟨#[c]⟩ 0 (Lib.countB s ⟨#[c]⟩) s, ⟨cellsS_alloc _ _ _, splitB_parts s c, (Below.refl _ _).alloc (Nat.le_refl _) _, by simp⟩, ?_⟩
  rw [Lib.splitB_all ⟨#[c]⟩ (Nat.le_refl 1) 0 _ s rfl]

theorem gCheck_any (s : ByteArray) (w : World) (hs : s.size ≤ maxLen) (hm : MLen w) :
    Calls Tryz.prog 99 #[.string s] w fun e w' => e = .returned (.int .i64 (chkL s.data.toList)) ∧ Below w.heap.size w w' := by
  unfold maxLen at hs
  by_cases h0 : 80 < s.size
  · have hf : chkL s.data.toList = 5 := by unfold chkL; rw [if_pos (by rw [len_data]; exact h0)]
    rw [hf]
    clear hf hm
    go_enter Tryz.func99, Tryz.ntmps99
    go_wp2_with fail
    go_ret
    exact ⟨rfl, Below.refl _ _⟩
  have h1 : s.size ≤ 80 := by omega
  clear h0
  have HC := hide (split_any s 46 w (by omega) hm)
  clear hm
  go_enter Tryz.func99, Tryz.ntmps99
  go_wp2_with fail
  refine HC.out.mono ?_
  rintro e w1 ⟨ps, hsp, rfl⟩
  have HS := hide hsp
  have hl := HS.out.length
  have hl2 := length_partsL 46 s.data.toList
  rw [len_data] at hl2
  have hle : ps.length ≤ 81 := by omega
  have HL := hide hl
  have HB := hide hsp.below
  have HCB := hide (containsBad_any w.heap.size 0 ps.length ps.length ps w1 rfl (by omega) hsp.cells (fun x hx => by have := hsp.le x hx; unfold maxLen; omega))
  rw [hsp.parts] at HCB
  have hch : chkL s.data.toList = if (partsL 46 s.data.toList).all compL then (if 10 < ps.length then 9 else 0) else 12 := by
    unfold chkL; rw [if_neg (by rw [len_data]; omega), ← hl]
  obtain ⟨b, hb⟩ : ∃ b, (partsL 46 s.data.toList).all compL = b := ⟨_, rfl⟩
  rw [hb] at HCB hch
  have HCH := hide hch
  clear hl hl2 hsp hch hb
  cases b
  · go_wp2_with (go_at_call 118; refine HCB.out.mono ?_; rintro e w' ⟨rfl, hb⟩)
    go_ret
    exact ⟨by rw [HCH.out]; rfl, HB.out.trans (hb.mono HB.out.size)⟩
  · by_cases h10 : 10 < ps.length
    all_goals
      go_wp2_with (go_at_call 118; refine HCB.out.mono ?_; rintro e w' ⟨rfl, hb⟩)
      go_ret
      exact ⟨by rw [HCH.out]; simp [h10], HB.out.trans (hb.mono HB.out.size)⟩
end Go.Proofs.YticcfbeocepnpaaGreatDoor
