/-
  delete on a map whose keys and elements are spelled by a Lean function; Forget.
-/
import Derived.Test.YticcfbeocepnpaaGreatDoorDays
import Derived.Test.YticcfbeocepnpaaGreatDoorAdd
set_option linter.unusedSimpArgs false
set_option maxRecDepth 100000
namespace Go.Proofs.YticcfbeocepnpaaGreatDoor
namespace Mp
open Go.ChangeMaps Go.MapKept Go.RowKit
variable {κ γ : Type} [DecidableEq κ] {P : Program} {k : TypeId} {eK : κ → Value} {eV : γ → Value} {ok : κ → Prop} {w : World} {b : Nat} {f : List (κ × γ)}
/-- The map without a key. -/
def delM (f : List (κ × γ)) (a : κ) : List (κ × γ) := f.filter fun p => !decide (p.1 = a)
theorem delM_none {a : κ} (h : a ∉ f.map (·.1)) : delM f a = f := by
  unfold delM
  refine List.filter_eq_self.2 fun p hp => ?_
  have : p.1 ≠ a := fun e => h (List.mem_map.2 ⟨p, hp, e⟩)
  simp [this]
theorem delM_erase {a : κ} {c : γ} : ∀ {f : List (κ × γ)} {j : Nat}, (f.map (·.1)).Nodup → f[j]? = some (a, c) → delM f a = f.eraseIdx j
  | [], _, _, h => by cases h
  | p :: r, 0, hn, h => by
    simp only [List.getElem?_cons_zero, Option.some.injEq] at h
    subst h
    simp only [List.map_cons, List.nodup_cons] at hn
    have := delM_none (f := r) hn.1
    unfold delM at this ⊢
    rw [List.filter_cons_of_neg (by simp), this]; rfl
  | p :: r, j + 1, hn, h => by
    simp only [List.map_cons, List.nodup_cons] at hn
    simp only [List.getElem?_cons_succ] at h
    have hp : p.1 ≠ a := fun e => hn.1 (by rw [e]; exact List.mem_map.2 ⟨_, List.mem_of_getElem? h, rfl⟩)
    have := delM_erase hn.2 h
    unfold delM at this ⊢
    rw [List.filter_cons_of_pos (by simp [hp]), this, List.eraseIdx_cons_succ]
theorem map_eraseIdx {α β : Type} (g : α → β) : ∀ (l : List α) (j : Nat), (l.eraseIdx j).map g = (l.map g).eraseIdx j
  | [], _ => rfl
  | x :: r, 0 => rfl
  | x :: r, j + 1 => by simp only [List.eraseIdx_cons_succ, List.map_cons, map_eraseIdx g r j]

/-- 'delete(m, k)'. -/
theorem IsMap.drop (h : IsMap eK eV ok w b f) (E : Enc P k eK ok) {t e : TypeId} (ht : P.underlying t = some (.map k e)) {a : κ} (ha : ok a) (ty : TypeId) :
    ∃ w', (Builtin.delete_ #[t, k] ty #[.map (some b), eK a]).run P w = .ok (.tuple #[]) w' ∧ IsMap eK eV ok w' b (delM f a) ∧ w.grownBy w' (some b) := by
  obtain ⟨es, clock, hb, hm, hs, hok⟩ := h
  obtain ⟨l, hl⟩ := E.lit a ha
  have grow : ∀ o, w.grownBy (setBlock w b o) (some b) := fun o => ⟨rfl, rfl, rfl, by simp [setBlock], fun i _ hi => heap_setBlock_other hb _ (fun e => hi (by rw [e]))⟩
  rcases find_cases E w hs hm hok ha with ⟨h1, h2, h3, h4⟩ | ⟨j, e', c', h1, h2, h3, h4, h5, h6⟩
  · refine ⟨setBlock w b (.map es clock), ?_, ⟨_, _, heap_setBlock_same hb _, ?_, hs, ?_⟩, grow _⟩
    · simp [Builtin.delete_, run_underlying ht, MapKept.run_getObj_map hb, E.keyed.check w _ hl, h1, MapKept.run_setObj_map _ hb, Result.andThen, setBlock]
    · rw [delM_none h4]; exact hm
    · rw [delM_none h4]; exact hok
  · refine ⟨setBlock w b (.map (es.eraseIdxIfInBounds j) clock), ?_, ⟨_, _, heap_setBlock_same hb _, ?_, stamped_erase hs _, ?_⟩, grow _⟩
    · simp [Builtin.delete_, run_underlying ht, MapKept.run_getObj_map hb, E.keyed.check w _ hl, h1, MapKept.run_setObj_map _ hb, Result.andThen, setBlock]
    · rw [delM_erase (nodup_keys hs hm) h5, map_eraseIdx, ← hm, ← map_eraseIdx]
      have hj : j < es.size := by have := (List.getElem?_eq_some_iff.1 h2).1; simpa using this
      simp [Array.eraseIdxIfInBounds, hj]
    · intro p hp
      exact hok p ((List.mem_filter.1 hp).1)
end Mp
open Go.RowKit Pl

/-- The world behind 'delete(m, k)'. -/
noncomputable def delW (w : World) (mb : Nat) (k : Value) : World :=
  match (Builtin.delete_ #[70, 64] 0 #[.map (some mb), k]).run Tryz.prog w with
  | .ok _ w' => w'
  | _ => w
theorem delete_ty (a : Array TypeId) (t : TypeId) (v : Array Value) : Builtin.delete_ a t v = Builtin.delete_ a 0 v := rfl
theorem delW_run {w : World} {mb : Nat} {f : List (Ky × Ct)} (h : CMap w mb f) {k : Ky} (hk : keyOk k) (ty : TypeId) :
    (Builtin.delete_ #[70, 64] ty #[.map (some mb), keyV k]).run Tryz.prog w = .ok (.tuple #[]) (delW w mb (keyV k)) ∧ CMap (delW w mb (keyV k)) mb (Mp.delM f k) ∧ w.grownBy (delW w mb (keyV k)) (some mb) := by
  rw [delete_ty]
  obtain ⟨w', h1, h2, h3⟩ := Mp.IsMap.drop h key_enc Tryz.underlying70 hk 0
  have e : delW w mb (keyV k) = w' := by unfold delW; rw [h1]
  rw [e]
  exact ⟨h1, h2, h3⟩
end Go.Proofs.YticcfbeocepnpaaGreatDoor
