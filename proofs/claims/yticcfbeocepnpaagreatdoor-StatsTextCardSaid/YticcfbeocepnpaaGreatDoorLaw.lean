/-
  The plain law: what is summed over the map is what the model counts. No program in sight.
-/
import Derived.Test.YticcfbeocepnpaaGreatDoorBuild
set_option linter.unusedSimpArgs false
namespace Go.Proofs.YticcfbeocepnpaaGreatDoor
open Pl

theorem contains_mem {seen : List ByteArray} {x : ByteArray} (h : x ∈ seen) : Lib.containsS seen x = true := by
  obtain ⟨j, hj, he⟩ := List.mem_iff_getElem.1 h
  have := contains_take (ss := seen) (k := seen.length) hj (by rw [List.getElem?_eq_getElem hj, he])
  rwa [List.take_length] at this
theorem chkGo_nodup : ∀ (r seen : List ByteArray), chkGo seen r = 0 → (∀ x ∈ r, x ∉ seen ∧ chkL x.data.toList = 0) ∧ r.Nodup
  | [], _, _ => by simp
  | x :: r, seen, h => by
    by_cases h1 : chkL x.data.toList = 0
    · cases hd : Lib.containsS seen x with
      | true => rw [chkGo_dup h1 hd] at h; cases h
      | false =>
        rw [chkGo_next h1 hd] at h
        obtain ⟨i1, i2⟩ := chkGo_nodup r _ h
        have hx : x ∉ seen := fun hm => by rw [contains_mem hm] at hd; cases hd
        refine ⟨fun y hy => ?_, List.nodup_cons.2 ⟨fun hm => (i1 x hm).1 (by simp), i2⟩⟩
        rcases List.mem_cons.1 hy with rfl | hy
        · exact ⟨hx, h1⟩
        · exact ⟨fun hm => (i1 y hy).1 (by simp [hm]), (i1 y hy).2⟩
    · rw [chkGo_err h1] at h; exact absurd h h1
theorem sitesGo_nodup : ∀ (r seen : List ByteArray), sitesGo seen r = 0 → (∀ x ∈ r, x ∉ seen ∧ (siteL x.data.toList).2 = 0) ∧ r.Nodup
  | [], _, _ => by simp
  | x :: r, seen, h => by
    by_cases h1 : (siteL x.data.toList).2 = 0
    · cases hd : Lib.containsS seen x with
      | true => rw [sitesGo_dup h1 hd] at h; cases h
      | false =>
        rw [sitesGo_next h1 hd] at h
        obtain ⟨i1, i2⟩ := sitesGo_nodup r _ h
        have hx : x ∉ seen := fun hm => by rw [contains_mem hm] at hd; cases hd
        refine ⟨fun y hy => ?_, List.nodup_cons.2 ⟨fun hm => (i1 x hm).1 (by simp), i2⟩⟩
        rcases List.mem_cons.1 hy with rfl | hy
        · exact ⟨hx, h1⟩
        · exact ⟨fun hm => (i1 y hy).1 (by simp [hm]), (i1 y hy).2⟩
    · rw [sitesGo_err h1] at h; exact absurd h h1
theorem err_parts {e : Ev} (h : e.err = 0) : e.gs.Nodup ∧ e.ss.Nodup ∧ (∀ x ∈ e.gs, chkL x.data.toList = 0) ∧ ∀ x ∈ e.ss, (siteL x.data.toList).2 = 0 := by
  unfold Ev.err evErr at h
  repeat' split at h
  all_goals first | (exact absurd h (by decide)) | (exact absurd h (by assumption)) | skip
  rename_i hl _ hs _
  simp only [ne_eq, Decidable.not_not] at hl hs
  unfold listE at hl
  split at hl
  · cases hl
  · have h1 := chkGo_nodup _ _ hl
    have h2 := sitesGo_nodup _ _ hs
    exact ⟨h1.2, h2.2, fun x hx => (h1.1 x hx).2, fun x hx => (h2.1 x hx).2⟩
theorem names_ne {e : Ev} (h : e.err = 0) : (⟨#[]⟩ : ByteArray) ∉ e.gs ∧ (⟨#[]⟩ : ByteArray) ∉ e.ss := by
  obtain ⟨_, _, h3, h4⟩ := err_parts h
  exact ⟨fun hm => absurd (h3 _ hm) (by decide), fun hm => absurd (h4 _ hm) (by decide)⟩

theorem countP_no (day kind K : Int) (name : ByteArray) (fro til : Int) (l : List ByteArray) (h : ¬ (K = kind ∧ name ∈ l ∧ fro ≤ day ∧ day ≤ til)) :
    (l.map (fun g => ((day, K, g) : Ky))).countP (ofB kind name fro til) = 0 := by
  rw [List.countP_eq_zero]
  intro k hk hq
  obtain ⟨g, hg, rfl⟩ := List.mem_map.1 hk
  simp [ofB] at hq
  exact h ⟨hq.1, hq.2.1 ▸ hg, hq.2.2.1, hq.2.2.2⟩
theorem countP_yes (day kind K : Int) (name : ByteArray) (fro til : Int) (hK : K = kind) (hf : fro ≤ day) (ht : day ≤ til) : ∀ (l : List ByteArray), l.Nodup → name ∈ l →
    (l.map (fun g => ((day, K, g) : Ky))).countP (ofB kind name fro til) = 1
  | [], _, h => by cases h
  | x :: r, hn, h => by
    obtain ⟨h1, h2⟩ := List.nodup_cons.1 hn
    rw [List.map_cons, List.countP_cons]
    rcases List.mem_cons.1 h with rfl | h
    · have : ofB kind name fro til (day, K, name) = true := by simp [ofB, hK, hf, ht]
      rw [countP_no day kind K name fro til r (fun h => h1 h.2.1), if_pos this]
    · have hx : x ≠ name := fun e => h1 (e ▸ h)
      have : ¬ ofB kind name fro til (day, K, x) = true := by simp [ofB, hx]
      rw [countP_yes day kind K name fro til hK hf ht r h2 h, if_neg this]
theorem ofOne_iff {e : Ev} (kind fro til : Int) (name : ByteArray) (hk1 : 1 ≤ kind) (hk3 : kind ≤ 3) (hne : name ≠ ⟨#[]⟩) : (ofOne kind name fro til e = true) ↔ ((fro ≤ e.day ∧ e.day ≤ til) ∧ name ∈ namesOf e kind) := by
  unfold ofOne hasB
  simp [hne, hk1, hk3]
theorem countP_keys {e : Ev} (h : e.err = 0) (kind fro til : Int) (name : ByteArray) (hk1 : 1 ≤ kind) (hk3 : kind ≤ 3) (hne : name ≠ ⟨#[]⟩) :
    e.keys.countP (ofB kind name fro til) = if ofOne kind name fro til e = true then 1 else 0 := by
  obtain ⟨n1, n2, _, _⟩ := err_parts h
  unfold Ev.keys
  have e0 : ofB kind name fro til (e.day, 0, ⟨#[]⟩) = false := by simp [ofB]; omega
  have e3 : [((e.day, 3, e.auth) : Ky)] = [e.auth].map (fun g => ((e.day, 3, g) : Ky)) := rfl
  rw [List.countP_cons, List.countP_append, List.countP_append, e3, e0]
  by_cases ho : ofOne kind name fro til e = true
  · rw [if_pos ho]
    obtain ⟨⟨hf, ht⟩, hm⟩ := (ofOne_iff kind fro til name hk1 hk3 hne).1 ho
    by_cases h3 : kind = 3
    · rw [namesOf, if_pos h3] at hm
      rw [countP_no _ _ _ _ _ _ e.gs (fun h => by omega), countP_no _ _ _ _ _ _ e.ss (fun h => by omega), countP_yes _ _ _ _ _ _ h3.symm hf ht _ (by simp) hm]; rfl
    · rw [namesOf, if_neg h3] at hm
      by_cases h2 : kind = 2
      · rw [if_pos h2] at hm
        rw [countP_no _ _ _ _ _ _ e.gs (fun h => by omega), countP_yes _ _ _ _ _ _ h2.symm hf ht _ n2 hm, countP_no _ _ _ _ _ _ [e.auth] (fun h => by omega)]; rfl
      · rw [if_neg h2] at hm
        rw [countP_yes _ _ _ _ _ _ (show (1 : Int) = kind by omega) hf ht _ n1 hm, countP_no _ _ _ _ _ _ e.ss (fun h => by omega), countP_no _ _ _ _ _ _ [e.auth] (fun h => by omega)]; rfl
  · rw [if_neg ho]
    have hno := fun h => ho ((ofOne_iff kind fro til name hk1 hk3 hne).2 h)
    rw [countP_no _ _ _ _ _ _ e.gs (fun h => hno ⟨h.2.2, by rw [namesOf, if_neg (by omega), if_neg (by omega)]; exact h.2.1⟩), countP_no _ _ _ _ _ _ e.ss (fun h => hno ⟨h.2.2, by rw [namesOf, if_neg (by omega), if_pos (by omega)]; exact h.2.1⟩),
      countP_no _ _ _ _ _ _ [e.auth] (fun h => hno ⟨h.2.2, by rw [namesOf, if_pos (by omega)]; exact h.2.1⟩)]; rfl
theorem auth_ne {e : Ev} (h : e.au.length = 16) : e.auth ≠ ⟨#[]⟩ := by
  intro he
  have h1 : e.auth.data.toList.length = 32 := by show (hexL e.au).toArray.toList.length = 32; simp [hexL_length, h]
  rw [he] at h1
  cases h1
theorem countP_none {e : Ev} (h : e.err = 0) (ha : e.au.length = 16) (kind fro til : Int) (name : ByteArray) (h0 : kind ≠ 0) (hout : kind < 1 ∨ 3 < kind ∨ name = ⟨#[]⟩) :
    e.keys.countP (ofB kind name fro til) = 0 := by
  obtain ⟨m1, m2⟩ := names_ne h
  have e0 : ofB kind name fro til (e.day, 0, ⟨#[]⟩) = false := by simp [ofB]; omega
  have e3 : [((e.day, 3, e.auth) : Ky)] = [e.auth].map (fun g => ((e.day, 3, g) : Ky)) := rfl
  unfold Ev.keys
  have hn : ∀ K (l : List ByteArray), 1 ≤ K → K ≤ 3 → (⟨#[]⟩ : ByteArray) ∉ l → ¬ (K = kind ∧ name ∈ l ∧ fro ≤ e.day ∧ e.day ≤ til) := by
    rintro K l k1 k3 hl ⟨rfl, hm, _⟩
    rcases hout with h | h | rfl
    · omega
    · omega
    · exact hl hm
  rw [List.countP_cons, List.countP_append, List.countP_append, e3, e0, countP_no _ _ _ _ _ _ _ (hn 1 _ (by omega) (by omega) m1), countP_no _ _ _ _ _ _ _ (hn 2 _ (by omega) (by omega) m2),
    countP_no _ _ _ _ _ _ _ (hn 3 _ (by omega) (by omega) (by simp; exact fun e => auth_ne ha e.symm))]; rfl

theorem nodup_addKs {b : Int} : ∀ (ks : List Ky) {f : List (Ky × Ct)}, (f.map (·.1)).Nodup → ((addKs f ks b).map (·.1)).Nodup
  | [], _, h => h
  | k :: r, f, h => nodup_addKs r (f := addK f k b) (keys_addK k b h)
theorem nodup_foldl : ∀ (l : List Ev) {f : List (Ky × Ct)}, (f.map (·.1)).Nodup → ((l.foldl addEv f).map (·.1)).Nodup
  | [], _, h => h
  | e :: r, f, h => nodup_foldl r (f := addEv f e) (nodup_addKs _ h)
theorem ofL_cons (kind fro til : Int) (name : ByteArray) (e : Ev) (r : List Ev) : ofL kind name fro til (e :: r) = if ofOne kind name fro til e = true then (1 + (ofL kind name fro til r).1, e.by_ + (ofL kind name fro til r).2) else ofL kind name fro til r := rfl
theorem sum_foldl (kind fro til : Int) (name : ByteArray) (hk1 : 1 ≤ kind) (hk3 : kind ≤ 3) (hne : name ≠ ⟨#[]⟩) : ∀ (l : List Ev) (f : List (Ky × Ct)), (f.map (·.1)).Nodup → (∀ e ∈ l, e.err = 0) →
    sumA Prod.fst (ofB kind name fro til) (l.foldl addEv f) = sumA Prod.fst (ofB kind name fro til) f + (ofL kind name fro til l).1 ∧
    sumA Prod.snd (ofB kind name fro til) (l.foldl addEv f) = sumA Prod.snd (ofB kind name fro til) f + (ofL kind name fro til l).2
  | [], f, _, _ => by simp [ofL]
  | e :: r, f, hn, he => by
    have h0 := he e (by simp)
    obtain ⟨i1, i2⟩ := sum_foldl kind fro til name hk1 hk3 hne r (addEv f e) (nodup_addKs _ hn) (fun x hx => he x (by simp [hx]))
    rw [List.foldl_cons, i1, i2]
    unfold addEv
    rw [sumA_addKs_fst _ _ _ _ hn, sumA_addKs_snd _ _ _ _ hn, countP_keys h0 kind fro til name hk1 hk3 hne]
    rw [ofL_cons]
    split <;> simp <;> omega
theorem sum_none (kind fro til : Int) (name : ByteArray) (h0 : kind ≠ 0) (hout : kind < 1 ∨ 3 < kind ∨ name = ⟨#[]⟩) : ∀ (l : List Ev) (f : List (Ky × Ct)), (f.map (·.1)).Nodup → (∀ e ∈ l, e.err = 0 ∧ e.au.length = 16) →
    sumA Prod.fst (ofB kind name fro til) (l.foldl addEv f) = sumA Prod.fst (ofB kind name fro til) f ∧
    sumA Prod.snd (ofB kind name fro til) (l.foldl addEv f) = sumA Prod.snd (ofB kind name fro til) f
  | [], f, _, _ => ⟨rfl, rfl⟩
  | e :: r, f, hn, he => by
    obtain ⟨h1, h2⟩ := he e (by simp)
    obtain ⟨i1, i2⟩ := sum_none kind fro til name h0 hout r (addEv f e) (nodup_addKs _ hn) (fun x hx => he x (by simp [hx]))
    rw [List.foldl_cons, i1, i2]
    unfold addEv
    rw [sumA_addKs_fst _ _ _ _ hn, sumA_addKs_snd _ _ _ _ hn, countP_none h1 h2 kind fro til name h0 hout]
    simp
/-- What the model wants. -/
def wantC (kind : Int) (name : ByteArray) (fro til : Int) (l : List Ev) : Ct := if name = ⟨#[]⟩ ∨ kind < 1 ∨ 3 < kind then (0, 0) else ofL kind name fro til l
theorem law (kind fro til : Int) (name : ByteArray) (l : List Ev) (he : ∀ e ∈ l, e.err = 0 ∧ e.au.length = 16) :
    (if kind = 0 then (0, 0) else sumM (ofB kind name fro til) (addEvs l)) = wantC kind name fro til l := by
  unfold wantC
  by_cases h0 : kind = 0
  · rw [if_pos h0, if_pos (by omega)]
  · rw [if_neg h0]
    by_cases ho : name = ⟨#[]⟩ ∨ kind < 1 ∨ 3 < kind
    · rw [if_pos ho]
      have := sum_none kind fro til name h0 (by rcases ho with h | h | h; exact Or.inr (Or.inr h); exact Or.inl h; exact Or.inr (Or.inl h)) l [] (by simp) he
      simp only [sumM, addEvs, this.1, this.2, sumA]
    · rw [if_neg ho]
      have hne : name ≠ ⟨#[]⟩ := fun h => ho (Or.inl h)
      have hk : 1 ≤ kind ∧ kind ≤ 3 := by
        constructor
        · exact Int.not_lt.1 fun h => ho (Or.inr (Or.inl h))
        · exact Int.not_lt.1 fun h => ho (Or.inr (Or.inr h))
      have := sum_foldl kind fro til name hk.1 hk.2 hne l [] (by simp) (fun e h => (he e h).1)
      simp only [sumM, addEvs, this.1, this.2, sumA, Int.zero_add]
end Go.Proofs.YticcfbeocepnpaaGreatDoor
