/-
  The order of events does not matter. No program in sight.
-/
import Derived.Test.YticcfbeocepnpaaGreatDoorCut
set_option linter.unusedSimpArgs false
namespace Go.Proofs.YticcfbeocepnpaaGreatDoor
open Pl

theorem ofL_perm (kind fro til : Int) (name : ByteArray) {l r : List Ev} (h : l.Perm r) : ofL kind name fro til l = ofL kind name fro til r := by
  induction h with
  | nil => rfl
  | cons x _ ih => rw [ofL_cons, ofL_cons, ih]
  | swap x y l =>
    rw [ofL_cons, ofL_cons, ofL_cons, ofL_cons]
    split <;> split <;> simp <;> omega
  | trans _ _ i j => rw [i, j]
theorem cnt_law {l : List Ev} (he : ∀ e ∈ l, e.err = 0 ∧ e.au.length = 16) {x : Ky} (hx : x ∈ (addEvs l).map (·.1)) : cntAt (addEvs l) x = cntL l x := by
  have h := forget_none (fun e h => (he e h).1)
  have hm : x ∈ keysM 0 l := by
    rw [← law_keys, h]
    exact (skeys_perm _).mem_iff.2 hx
  have := law_cnt 0 l he hm
  rwa [h] at this
theorem mem_cnt {l : List Ev} {p : Ky × Ct} (h : p ∈ addEvs l) : cntAt (addEvs l) p.1 = p.2 := by
  unfold cntAt
  rw [Mp.getM_some (addEvs_nodup l) h]; rfl
theorem mem_keys {l : List Ev} {x : Ky} : x ∈ (addEvs l).map (·.1) ↔ ∃ e ∈ l, x ∈ e.keys := by
  unfold addEvs
  rw [keys_mem]; simp
theorem addEvs_perm {l r : List Ev} (he : ∀ e ∈ l, e.err = 0 ∧ e.au.length = 16) (h : l.Perm r) : (addEvs l).Perm (addEvs r) := by
  have he2 : ∀ e ∈ r, e.err = 0 ∧ e.au.length = 16 := fun e hm => he e (h.mem_iff.2 hm)
  have hn : ∀ l : List Ev, (addEvs l).Nodup := fun l => by
    have := addEvs_nodup l
    rw [List.nodup_iff_pairwise_ne, List.pairwise_map] at this
    rw [List.nodup_iff_pairwise_ne]
    exact this.imp (fun h e => h (by rw [e]))
  have go : ∀ {l r : List Ev}, (∀ e ∈ l, e.err = 0 ∧ e.au.length = 16) → (∀ e ∈ r, e.err = 0 ∧ e.au.length = 16) → l.Perm r → ∀ p ∈ addEvs l, p ∈ addEvs r := by
    intro l r he he2 h p hp
    have hk : p.1 ∈ (addEvs l).map (·.1) := List.mem_map.2 ⟨p, hp, rfl⟩
    have hk2 : p.1 ∈ (addEvs r).map (·.1) := by
      rw [mem_keys] at hk ⊢
      obtain ⟨e, hm, hx⟩ := hk
      exact ⟨e, h.mem_iff.1 hm, hx⟩
    have h1 := cntAt_mem hk2
    have h2 : cntAt (addEvs r) p.1 = p.2 := by
      rw [cnt_law he2 hk2, ← mem_cnt hp, cnt_law he hk]
      exact (ofL_perm _ _ _ _ h).symm
    rwa [h2] at h1
  exact (List.perm_ext_iff_of_nodup (hn l) (hn r)).2 fun p => ⟨go he he2 h p, go he2 he h.symm p⟩
theorem zAdd_comm (z : List Int) (a b : Int) : zAdd (zAdd z a) b = zAdd (zAdd z b) a := by
  unfold zAdd
  by_cases h : Lib.bitLen a.toNat = Lib.bitLen b.toNat
  · rw [h]
  · rw [List.set_comm _ _ h]
    simp only [List.getD_eq_getElem?_getD]
    rw [List.getElem?_set_ne h, List.getElem?_set_ne (fun e => h e.symm)]
theorem zOf_perm {l r : List Ev} (h : l.Perm r) : zOf l = zOf r := by
  unfold zOf
  generalize List.replicate 18 (0 : Int) = z
  induction h generalizing z with
  | nil => rfl
  | cons x _ ih => rw [List.foldl_cons, List.foldl_cons, ih]
  | swap x y l => simp only [List.foldl_cons]; rw [zAdd_comm]
  | trans _ _ i j => rw [i, j]
theorem cntAt_perm {f g : List (Ky × Ct)} (hf : (f.map (·.1)).Nodup) (h : f.Perm g) {x : Ky} (hx : x ∈ f.map (·.1)) : cntAt f x = cntAt g x := by
  have h1 := cntAt_mem hx
  have h2 : (x, cntAt f x) ∈ g := h.mem_iff.1 h1
  have hg : (g.map (·.1)).Nodup := (h.map _).nodup_iff.1 hf
  have h3 : cntAt g x = ((x, cntAt f x) : Ky × Ct).2 := by
    unfold cntAt at h2 ⊢
    rw [Mp.getM_some hg h2]; rfl
  exact h3.symm
theorem textS_perm {f g : List (Ky × Ct)} (z : List Int) (hf : (f.map (·.1)).Nodup) (h : f.Perm g) : textS f z = textS g z := by
  unfold textS
  rw [skeys_congr (h.map (·.1))]
  congr 2
  refine List.map_congr_left (fun x hx => ?_)
  rw [cntAt_perm hf h ((h.map (·.1)).mem_iff.2 ((skeys_perm _).mem_iff.1 hx))]

/-- A list turned round and on. -/
def turnIx (n t k : Nat) : Nat := (n - 1 - k + t) % n
theorem fm_get {α : Type} (l : List α) : ∀ (js : List Nat), (∀ j ∈ js, j < l.length) → (js.filterMap fun k => l[k]?).length = js.length ∧ ∀ (k j : Nat), js[k]? = some j → (js.filterMap fun k => l[k]?)[k]? = l[j]?
  | [], _ => ⟨rfl, fun k j h => by simp at h⟩
  | a :: r, h => by
    have ih := fm_get l r (fun j hj => h j (by simp [hj]))
    have ha : l[a]? = some (l[a]'(h a (by simp))) := List.getElem?_eq_getElem _
    rw [List.filterMap_cons, ha]
    refine ⟨by simp [ih.1], fun k j hk => ?_⟩
    cases k with
    | zero => simp at hk; subst hk; simp [ha]
    | succ k => simp at hk ⊢; exact ih.2 k j hk
theorem turnIx_lt {n t k : Nat} (h : 0 < n) : turnIx n t k < n := Nat.mod_lt _ h
def turned {α : Type} (l : List α) (t : Nat) : List α := ((List.range l.length).map (turnIx l.length t)).filterMap fun k => l[k]?
theorem turned_bound {α : Type} (l : List α) (t : Nat) : ∀ j ∈ (List.range l.length).map (turnIx l.length t), j < l.length := by
  intro j hj
  obtain ⟨k, hk, rfl⟩ := List.mem_map.1 hj
  exact turnIx_lt (by have := List.mem_range.1 hk; omega)
theorem turned_length {α : Type} (l : List α) (t : Nat) : (turned l t).length = l.length := by
  unfold turned
  rw [(fm_get l _ (turned_bound l t)).1]; simp
theorem turned_get {α : Type} (l : List α) (t k : Nat) (hk : k < l.length) : (turned l t)[k]? = l[turnIx l.length t k]? := by
  unfold turned
  exact (fm_get l _ (turned_bound l t)).2 k _ (by rw [List.getElem?_map, List.getElem?_range hk]; rfl)
theorem turnIx_inj {n t i j : Nat} (hi : i < n) (hj : j < n) (h : turnIx n t i = turnIx n t j) : i = j := by
  unfold turnIx at h
  by_cases hij : i ≤ j
  · have := Nat.sub_mod_eq_zero_of_mod_eq h
    rw [show n - 1 - i + t - (n - 1 - j + t) = j - i by omega, Nat.mod_eq_of_lt (by omega)] at this
    omega
  · have := Nat.sub_mod_eq_zero_of_mod_eq h.symm
    rw [show n - 1 - j + t - (n - 1 - i + t) = i - j by omega, Nat.mod_eq_of_lt (by omega)] at this
    omega
theorem turnIx_onto {n t j : Nat} (hj : j < n) : ∃ i, i < n ∧ turnIx n t i = j := by
  have hn : 0 < n := by omega
  have hr := Nat.mod_lt t hn
  have hd := Nat.div_add_mod t n
  by_cases h : t % n ≤ j
  · refine ⟨n - 1 + t % n - j, by omega, ?_⟩
    unfold turnIx
    rw [show n - 1 - (n - 1 + t % n - j) + t = j + n * (t / n) by omega, Nat.add_mul_mod_self_left, Nat.mod_eq_of_lt hj]
  · refine ⟨t % n - j - 1, by omega, ?_⟩
    unfold turnIx
    rw [show n - 1 - (t % n - j - 1) + t = (j + n * (t / n)) + n by omega, Nat.add_mod_right, Nat.add_mul_mod_self_left, Nat.mod_eq_of_lt hj]
theorem turned_perm {α : Type} (l : List α) (t : Nat) : (turned l t).Perm l := by
  have h1 : ((List.range l.length).map (turnIx l.length t)).Perm (List.range l.length) := by
    refine (List.perm_ext_iff_of_nodup ?_ List.nodup_range).2 fun j => ?_
    · rw [List.nodup_iff_pairwise_ne, List.pairwise_map]
      refine List.Pairwise.imp_of_mem ?_ (List.nodup_iff_pairwise_ne.1 (List.nodup_range (n := l.length)))
      intro a b ha hb hab e
      exact hab (turnIx_inj (List.mem_range.1 ha) (List.mem_range.1 hb) e)
    · rw [List.mem_map, List.mem_range]
      constructor
      · rintro ⟨k, hk, rfl⟩
        exact turnIx_lt (by have := List.mem_range.1 hk; omega)
      · intro hj
        obtain ⟨i, hi, he⟩ := turnIx_onto (t := t) hj
        exact ⟨i, List.mem_range.2 hi, he⟩
  have h2 : (List.range l.length).filterMap (fun k => l[k]?) = l := by
    have hb : ∀ j ∈ List.range l.length, j < l.length := fun j hj => List.mem_range.1 hj
    have hg := fm_get l _ hb
    apply List.ext_getElem?
    intro k
    by_cases hk : k < l.length
    · exact hg.2 k k (List.getElem?_range hk)
    · rw [List.getElem?_eq_none (by rw [hg.1]; simp; omega), List.getElem?_eq_none (by omega)]
  have h3 := h1.filterMap (fun k => l[k]?)
  rw [h2] at h3
  exact h3
end Go.Proofs.YticcfbeocepnpaaGreatDoor
