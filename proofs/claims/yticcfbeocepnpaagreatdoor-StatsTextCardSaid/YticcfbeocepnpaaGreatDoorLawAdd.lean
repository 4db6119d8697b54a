/-
  The plain laws of the totals, the days and the sizes. No program in sight.
-/
import Derived.Test.YticcfbeocepnpaaGreatDoorLaw
import Derived.Test.YticcfbeocepnpaaGreatDoorDaysM
import Derived.Test.YticcfbeocepnpaaGreatDoorSizesM
set_option linter.unusedSimpArgs false
namespace Go.Proofs.YticcfbeocepnpaaGreatDoor
open Pl Go.Sort

theorem ev_day {e : Ev} (h : e.err = 0) : 0 ≤ e.day ∧ e.day ≤ 73048 := by
  have := evErr_range h
  unfold Ev.day
  omega
theorem ofOne_total {e : Ev} (h : e.err = 0) : ofOne 0 ⟨#[]⟩ 0 80000 e = true := by
  have := ev_day h
  unfold ofOne
  simp; omega
theorem countP_total {e : Ev} : e.keys.countP isTotal = 1 := by
  unfold Ev.keys isTotal
  rw [List.countP_cons, List.countP_append, List.countP_append]
  have h1 : (e.gs.map fun g => ((e.day, 1, g) : Ky)).countP (fun k => k.2.1 == 0) = 0 := by
    rw [List.countP_eq_zero]; intro k hk; obtain ⟨g, _, rfl⟩ := List.mem_map.1 hk; simp
  have h2 : (e.ss.map fun g => ((e.day, 2, g) : Ky)).countP (fun k => k.2.1 == 0) = 0 := by
    rw [List.countP_eq_zero]; intro k hk; obtain ⟨g, _, rfl⟩ := List.mem_map.1 hk; simp
  rw [h1, h2]; rfl
theorem total_foldl : ∀ (l : List Ev) (f : List (Ky × Ct)), (f.map (·.1)).Nodup → (∀ e ∈ l, e.err = 0) →
    sumA Prod.fst isTotal (l.foldl addEv f) = sumA Prod.fst isTotal f + (ofL 0 ⟨#[]⟩ 0 80000 l).1 ∧
    sumA Prod.snd isTotal (l.foldl addEv f) = sumA Prod.snd isTotal f + (ofL 0 ⟨#[]⟩ 0 80000 l).2
  | [], f, _, _ => by simp [ofL]
  | e :: r, f, hn, he => by
    have h0 := he e (by simp)
    obtain ⟨i1, i2⟩ := total_foldl r (addEv f e) (nodup_addKs _ hn) (fun x hx => he x (by simp [hx]))
    rw [List.foldl_cons, i1, i2]
    unfold addEv
    rw [sumA_addKs_fst _ _ _ _ hn, sumA_addKs_snd _ _ _ _ hn, countP_total, ofL_cons, if_pos (ofOne_total h0)]
    simp; omega
theorem law_total (l : List Ev) (he : ∀ e ∈ l, e.err = 0) : sumM isTotal (addEvs l) = ofL 0 ⟨#[]⟩ 0 80000 l := by
  have := total_foldl l [] (by simp) he
  unfold sumM addEvs
  rw [this.1, this.2]
  simp [sumA]
theorem ofL_count (l : List Ev) (he : ∀ e ∈ l, e.err = 0) : (ofL 0 ⟨#[]⟩ 0 80000 l).1 = l.length := by
  induction l with
  | nil => rfl
  | cons e r ih =>
    rw [ofL_cons, if_pos (ofOne_total (he e (by simp)))]
    have := ih (fun x hx => he x (by simp [hx]))
    simp only [List.length_cons, this]; omega

/-! The sizes add up to the number of events. -/
def sumI : List Int → Int
  | [] => 0
  | x :: r => x + sumI r
theorem sumI_append : ∀ (a b : List Int), sumI (a ++ b) = sumI a + sumI b
  | [], b => by simp [sumI]
  | x :: r, b => by simp only [List.cons_append, sumI, sumI_append r b]; omega
theorem sumI_set : ∀ (z : List Int) (k : Nat), k < z.length → sumI (z.set k (z.getD k 0 + 1)) = sumI z + 1
  | [], k, h => by simp at h
  | x :: r, 0, _ => by simp [sumI]; omega
  | x :: r, k + 1, h => by
    have := sumI_set r k (by simpa using h)
    simp only [List.set_cons_succ, sumI, List.getD_cons_succ, this]; omega
theorem sumI_replicate (n : Nat) : sumI (List.replicate n 0) = 0 := by
  induction n with
  | zero => rfl
  | succ n ih => rw [List.replicate_succ]; simp [sumI, ih]
theorem zOf_sum (l : List Ev) (he : ∀ e ∈ l, e.err = 0) : sumI (zOf l) = l.length := by
  unfold zOf
  suffices ∀ (l : List Ev) (z : List Int), z.length = 18 → (∀ e ∈ l, e.err = 0) → sumI (l.foldl (fun z e => zAdd z e.by_) z) = sumI z + l.length by
    rw [this l _ (by simp) he, sumI_replicate]; omega
  intro l
  induction l with
  | nil => intro z _ _; simp
  | cons e r ih =>
    intro z hz he
    have hb := evErr_bytes (he e (by simp))
    have h17 := bitLen_le17 e.by_ hb.1 hb.2
    rw [List.foldl_cons, ih _ (by simp [zAdd, hz]) (fun x hx => he x (by simp [hx])), zAdd, sumI_set z _ (by omega)]
    simp only [List.length_cons]; omega
theorem sumI_take_succ (z : List Int) (k : Nat) (h : k < z.length) : sumI (z.take (k + 1)) = sumI (z.take k) + z.getD k 0 := by
  rw [List.take_succ_eq_append_getElem h, sumI_append]
  simp [sumI, h]
theorem sumI_bound (z : List Int) (m : Nat) (h : ∀ x ∈ z, 0 ≤ x ∧ x ≤ m) : 0 ≤ sumI z ∧ sumI z ≤ z.length * m := by
  induction z with
  | nil => simp [sumI]
  | cons x r ih =>
    have h1 := h x (by simp)
    have h2 := ih (fun y hy => h y (by simp [hy]))
    simp only [sumI, List.length_cons]
    have : ((r.length + 1 : Nat) : Int) * m = r.length * m + m := by push_cast; rw [Int.add_mul, Int.one_mul]
    omega

/-! The days. -/
theorem atR_split (d : Int) : ∀ (r : List Int), (r.Pairwise fun a b => b < a) → (∀ x ∈ r.reverse.take (atR d r), x < d) ∧ ∀ y ∈ r.reverse.drop (atR d r), d ≤ y
  | [], _ => by simp [atR]
  | x :: r, h => by
    rw [List.pairwise_cons] at h
    have ih := atR_split d r h.2
    have hle := atR_le d r
    by_cases hx : x < d
    · rw [atR, if_pos hx]
      have hlen : (x :: r).reverse.length = r.length + 1 := by simp
      rw [List.take_of_length_le (by rw [hlen]; exact Nat.le_refl _), List.drop_eq_nil_of_le (by rw [hlen]; exact Nat.le_refl _)]
      refine ⟨fun y hy => ?_, by simp⟩
      rw [List.mem_reverse] at hy
      rcases List.mem_cons.1 hy with rfl | hy
      · exact hx
      · have := h.1 y hy; omega
    · rw [atR, if_neg hx, List.reverse_cons, List.take_append_of_le_length (by rw [List.length_reverse]; exact hle), List.drop_append_of_le_length (by rw [List.length_reverse]; exact hle)]
      refine ⟨ih.1, fun y hy => ?_⟩
      rcases List.mem_append.1 hy with hy | hy
      · exact ih.2 y hy
      · rw [List.mem_singleton.1 hy]; omega
theorem atOf_split {l : List Int} (h : l.Pairwise (· < ·)) (d : Int) : (∀ x ∈ l.take (atOf l d), x < d) ∧ ∀ y ∈ l.drop (atOf l d), d ≤ y := by
  have := atR_split d l.reverse (by rw [List.pairwise_reverse]; exact h)
  rw [List.reverse_reverse] at this
  exact this
theorem insD_sorted {l : List Int} {d : Int} (h : l.Pairwise (· < ·)) : (insD l d).Pairwise (· < ·) ∧ ∀ x, x ∈ insD l d ↔ x ∈ l ∨ x = d := by
  unfold insD
  by_cases hd : d ∈ l
  · rw [if_pos hd]
    exact ⟨h, fun x => ⟨Or.inl, fun q => q.elim id (fun e => e ▸ hd)⟩⟩
  · rw [if_neg hd]
    refine ⟨?_, fun x => ?_⟩
    · have hk := atOf_split h d
      rw [List.append_assoc, List.pairwise_append]
      refine ⟨h.sublist (List.take_sublist _ _), ?_, ?_⟩
      · rw [List.singleton_append, List.pairwise_cons]
        exact ⟨fun y hy => by have := hk.2 y hy; have : y ≠ d := fun e => hd (e ▸ List.mem_of_mem_drop hy); omega, h.sublist (List.drop_sublist _ _)⟩
      · intro x hx y hy
        have h1 := hk.1 x hx
        rcases List.mem_cons.1 hy with rfl | hy
        · exact h1
        · have := hk.2 y (by simpa using hy); omega
    · have := List.take_append_drop (atOf l d) l
      constructor
      · intro hx
        rw [List.mem_append, List.mem_append] at hx
        rcases hx with (hx | hx) | hx
        · exact Or.inl (List.mem_of_mem_take hx)
        · exact Or.inr (List.mem_singleton.1 hx)
        · exact Or.inl (List.mem_of_mem_drop hx)
      · rintro (hx | rfl)
        · rw [← this, List.mem_append] at hx
          rcases hx with hx | hx <;> simp [hx]
        · simp
theorem daysM_foldl : ∀ (l acc : List Int), acc.Pairwise (· < ·) → (l.foldl insD acc).Pairwise (· < ·) ∧ ∀ x, x ∈ l.foldl insD acc ↔ x ∈ acc ∨ x ∈ l
  | [], acc, h => ⟨h, fun x => by simp⟩
  | d :: r, acc, h => by
    have h1 := insD_sorted (d := d) h
    have h2 := daysM_foldl r _ h1.1
    refine ⟨h2.1, fun x => ?_⟩
    rw [List.foldl_cons, h2.2, h1.2, List.mem_cons]
    constructor
    · rintro ((h | h) | h)
      · exact Or.inl h
      · exact Or.inr (Or.inl h)
      · exact Or.inr (Or.inr h)
    · rintro (h | h | h)
      · exact Or.inl (Or.inl h)
      · exact Or.inl (Or.inr h)
      · exact Or.inr h
theorem sorted_eq : ∀ {a b : List Int}, a.Pairwise (· < ·) → b.Pairwise (· < ·) → (∀ x, x ∈ a ↔ x ∈ b) → a = b
  | [], [], _, _, _ => rfl
  | [], y :: s, _, _, h => by have := (h y).2 (by simp); simp at this
  | x :: r, [], _, _, h => by have := (h x).1 (by simp); simp at this
  | x :: r, y :: s, ha, hb, h => by
    rw [List.pairwise_cons] at ha hb
    have hx := (h x).1 (by simp)
    have hy := (h y).2 (by simp)
    have e : x = y := by
      rcases List.mem_cons.1 hx with e | hx
      · exact e
      · rcases List.mem_cons.1 hy with e | hy
        · exact e.symm
        · have := ha.1 y hy; have := hb.1 x hx; omega
    subst e
    have : r = s := sorted_eq ha.2 hb.2 fun z => by
      have hz := h z
      rw [List.mem_cons, List.mem_cons] at hz
      constructor
      · intro q
        rcases hz.1 (Or.inr q) with e | e
        · subst e; exact absurd (ha.1 _ q) (by omega)
        · exact e
      · intro q
        rcases hz.2 (Or.inr q) with e | e
        · subst e; exact absurd (hb.1 _ q) (by omega)
        · exact e
    rw [this]
theorem keys_addK_mem {f : List (Ky × Ct)} (k : Ky) (b : Int) (x : Ky) : x ∈ (addK f k b).map (·.1) ↔ x ∈ f.map (·.1) ∨ x = k := by
  unfold addK Mp.putM
  by_cases h : k ∈ f.map (·.1)
  · rw [if_pos h]
    have : (f.map (fun p => if p.1 = k then (k, ((cntAt f k).1 + 1, (cntAt f k).2 + b)) else p)).map (·.1) = f.map (·.1) := by
      rw [List.map_map]
      apply List.map_congr_left
      intro p _
      simp only [Function.comp]
      split
      · rename_i e; exact e.symm
      · rfl
    rw [this]
    exact ⟨Or.inl, fun q => q.elim id (fun e => e ▸ h)⟩
  · rw [if_neg h]
    simp
theorem keys_addKs_mem (b : Int) : ∀ (ks : List Ky) (f : List (Ky × Ct)) (x : Ky), x ∈ (addKs f ks b).map (·.1) ↔ x ∈ f.map (·.1) ∨ x ∈ ks
  | [], f, x => by simp [addKs]
  | k :: r, f, x => by
    have := keys_addKs_mem b r (addK f k b) x
    unfold addKs at this ⊢
    rw [List.foldl_cons, this, keys_addK_mem, List.mem_cons, or_assoc]
theorem keys_mem : ∀ (l : List Ev) (f : List (Ky × Ct)) (x : Ky), x ∈ (l.foldl addEv f).map (·.1) ↔ x ∈ f.map (·.1) ∨ ∃ e ∈ l, x ∈ e.keys
  | [], f, x => by simp
  | e :: r, f, x => by
    rw [List.foldl_cons, keys_mem r, addEv, keys_addKs_mem, or_assoc]
    simp
theorem keys_kind0 {l : List Ev} {x : Ky} (h : x ∈ (addEvs l).map (·.1)) (h0 : x.2.1 = 0) : x.2.2 = ⟨#[]⟩ ∧ ∃ e ∈ l, x.1 = e.day := by
  unfold addEvs at h
  rw [keys_mem] at h
  rcases h with h | ⟨e, he, hx⟩
  · simp at h
  · unfold Ev.keys at hx
    simp only [List.mem_cons, List.mem_append, List.mem_map, List.mem_singleton, List.not_mem_nil, or_false] at hx
    rcases hx with rfl | (⟨g, _, rfl⟩ | ⟨g, _, rfl⟩) | rfl
    · exact ⟨rfl, e, he, rfl⟩
    · simp at h0
    · simp at h0
    · simp at h0
theorem keys_day {l : List Ev} {e : Ev} (he : e ∈ l) : ((e.day, 0, ⟨#[]⟩) : Ky) ∈ (addEvs l).map (·.1) := by
  unfold addEvs
  rw [keys_mem]
  exact Or.inr ⟨e, he, by simp [Ev.keys]⟩
theorem kle_day {a b : Ky} (h : kle a b = true) (ha : a.2.1 = 0) (hb : b.2.1 = 0) (na : a.2.2 = ⟨#[]⟩) (nb : b.2.2 = ⟨#[]⟩) (hne : a ≠ b) : a.1 < b.1 := by
  unfold kle at h
  rw [Ord.TW.lt] at h
  simp only [Bool.not_eq_true', decide_eq_false_iff_not] at h
  rw [cmpK_eq] at h
  by_cases h1 : b.1 = a.1
  · exact absurd (Prod.ext h1.symm (Prod.ext (by rw [ha, hb]) (by rw [na, nb]))) hne
  · have h2 : ¬ b.1 < a.1 := fun h2 => h (by
      have : Lib.compareInt b.1 a.1 = -1 := by unfold Lib.compareInt; rw [if_pos h2]
      simp only [Ord.lex2, this]; rw [if_pos (by decide)]; decide)
    omega
theorem law_days (l : List Ev) : daysOf (skeys ((addEvs l).map (·.1))) = daysM (l.map (·.day)) := by
  have hnd : (skeys ((addEvs l).map (·.1))).Nodup := (skeys_perm _).nodup_iff.2 (nodup_foldl l (f := []) (by simp))
  have hmem : ∀ x, x ∈ skeys ((addEvs l).map (·.1)) ↔ x ∈ (addEvs l).map (·.1) := fun x => (skeys_perm _).mem_iff
  have hD := daysM_foldl (l.map (·.day)) [] (by simp)
  refine sorted_eq ?_ hD.1 (fun x => ?_)
  · unfold daysOf
    rw [List.pairwise_map]
    have hp : (skeys ((addEvs l).map (·.1))).Pairwise fun a b => kle a b = true ∧ a ≠ b := (skeys_sorted _).and (List.nodup_iff_pairwise_ne.1 hnd)
    refine List.Pairwise.imp_of_mem ?_ (hp.sublist List.filter_sublist)
    intro a b ha hb hab
    obtain ⟨ha1, ha2⟩ := List.mem_filter.1 ha
    obtain ⟨hb1, hb2⟩ := List.mem_filter.1 hb
    have ha3 : a.2.1 = 0 := by simpa using ha2
    have hb3 : b.2.1 = 0 := by simpa using hb2
    exact kle_day hab.1 ha3 hb3 (keys_kind0 ((hmem a).1 ha1) ha3).1 (keys_kind0 ((hmem b).1 hb1) hb3).1 hab.2
  · rw [show x ∈ daysM (l.map (·.day)) ↔ x ∈ ([] : List Int) ∨ x ∈ l.map (·.day) from hD.2 x]
    unfold daysOf
    simp only [List.mem_map, List.mem_filter, List.not_mem_nil, false_or]
    constructor
    · rintro ⟨k, ⟨hk, h0⟩, rfl⟩
      obtain ⟨_, e, he, hd⟩ := keys_kind0 ((hmem k).1 hk) (by simpa using h0)
      exact ⟨e, he, hd.symm⟩
    · rintro ⟨e, he, rfl⟩
      exact ⟨_, ⟨(hmem _).2 (keys_day he), by simp⟩, rfl⟩

/-! How many keys there are. -/
theorem addK_length (f : List (Ky × Ct)) (k : Ky) (b : Int) : (addK f k b).length ≤ f.length + 1 := by
  unfold addK Mp.putM
  split <;> simp
theorem addKs_length (b : Int) : ∀ (ks : List Ky) (f : List (Ky × Ct)), (addKs f ks b).length ≤ f.length + ks.length
  | [], f => by simp [addKs]
  | k :: r, f => by
    have h1 := addK_length f k b
    have h2 := addKs_length b r (addK f k b)
    unfold addKs at h2 ⊢
    rw [List.foldl_cons, List.length_cons]; omega
theorem addEvs_length (m : Nat) : ∀ (l : List Ev) (f : List (Ky × Ct)), (∀ e ∈ l, e.gs.length + e.ss.length ≤ m) → (l.foldl addEv f).length ≤ f.length + l.length * (m + 2)
  | [], f, _ => by simp
  | e :: r, f, h => by
    have h1 := addKs_length e.by_ e.keys f
    have h2 := addEvs_length m r (addEv f e) (fun x hx => h x (by simp [hx]))
    have h3 := h e (by simp)
    have hl : e.keys.length = 2 + e.gs.length + e.ss.length := by simp [Ev.keys]; omega
    have : (addEv f e).length ≤ f.length + (m + 2) := by unfold addEv; omega
    rw [List.foldl_cons, List.length_cons, Nat.add_mul, Nat.one_mul]; omega
end Go.Proofs.YticcfbeocepnpaaGreatDoor
