/-
  The plain law of counting: sums over the map of counts. No program in sight.
-/
import Derived.Test.YticcfbeocepnpaaGreatDoorAdd
set_option linter.unusedSimpArgs false
namespace Go.Proofs.YticcfbeocepnpaaGreatDoor
open Pl

theorem getM_mem {f : List (Ky × Ct)} {k : Ky} {c : Ct} (h : Mp.getM f k = some c) : (k, c) ∈ f := by
  unfold Mp.getM at h
  cases hf : f.find? (fun p => decide (p.1 = k)) with
  | none => rw [hf] at h; cases h
  | some p =>
    rw [hf] at h
    have h1 := List.find?_some hf
    have h2 := List.mem_of_find?_eq_some hf
    simp at h1 h
    subst h1 h
    exact h2
theorem sumA_append (g : Ct → Int) (q : Ky → Bool) : ∀ (a b : List (Ky × Ct)), sumA g q (a ++ b) = sumA g q a + sumA g q b
  | [], b => by simp [sumA]
  | p :: r, b => by simp only [List.cons_append, sumA, sumA_append g q r b]; omega
theorem sumA_map_other (g : Ct → Int) (q : Ky → Bool) (k : Ky) (c : Ct) : ∀ (f : List (Ky × Ct)), k ∉ f.map (·.1) → f.map (fun p => if p.1 = k then (k, c) else p) = f
  | [], _ => rfl
  | p :: r, h => by
    simp only [List.map_cons, List.mem_cons, not_or] at h
    rw [List.map_cons, if_neg (fun e => h.1 e.symm), sumA_map_other g q k c r h.2]
theorem sumA_put (g : Ct → Int) (hg : g (0, 0) = 0) (q : Ky → Bool) (k : Ky) (c : Ct) : ∀ (f : List (Ky × Ct)), (f.map (·.1)).Nodup →
    sumA g q (Mp.putM f k c) = sumA g q f + if q k = true then g c - g (cntAt f k) else 0
  | [], _ => by simp only [Mp.putM, List.map_nil, List.not_mem_nil, if_false, List.nil_append, sumA, cntAt, Mp.getM, List.find?_nil, Option.map_none, Option.getD_none, hg]; split <;> omega
  | p :: r, hn => by
    simp only [List.map_cons, List.nodup_cons] at hn
    obtain ⟨h1, h2⟩ := hn
    have ih := sumA_put g hg q k c r h2
    by_cases hp : p.1 = k
    · subst hp
      have e1 : Mp.putM (p :: r) p.1 c = (p.1, c) :: r := by
        unfold Mp.putM
        rw [if_pos (by simp), List.map_cons, if_pos rfl, sumA_map_other g q p.1 c r h1]
      have e2 : cntAt (p :: r) p.1 = p.2 := by
        unfold cntAt Mp.getM
        rw [List.find?_cons_of_pos (by simp)]; rfl
      rw [e1, e2]
      simp only [sumA]
      split <;> omega
    · have e2 : cntAt (p :: r) k = cntAt r k := by
        unfold cntAt Mp.getM
        rw [List.find?_cons_of_neg (by simpa using hp)]
      have e1 : Mp.putM (p :: r) k c = p :: Mp.putM r k c := by
        unfold Mp.putM
        by_cases hm : k ∈ r.map (·.1)
        · rw [if_pos (by simp only [List.map_cons, List.mem_cons]; exact Or.inr hm), if_pos hm, List.map_cons, if_neg hp]
        · rw [if_neg (by simp only [List.map_cons, List.mem_cons]; rintro (e | e); exact hp e.symm; exact hm e), if_neg hm]; rfl
      rw [e1, e2]
      simp only [sumA, ih]
      omega
theorem keys_put {f : List (Ky × Ct)} (k : Ky) (c : Ct) (hn : (f.map (·.1)).Nodup) : ((Mp.putM f k c).map (·.1)).Nodup := by
  unfold Mp.putM
  split
  · have : (f.map (fun p => if p.1 = k then (k, c) else p)).map (·.1) = f.map (·.1) := by
      rw [List.map_map]
      apply List.map_congr_left
      intro p _
      simp only [Function.comp]
      split
      · rename_i h; exact h.symm
      · rfl
    rw [this]; exact hn
  · rename_i h
    rw [List.map_append, List.nodup_append]
    refine ⟨hn, by simp, ?_⟩
    intro a ha b hb e
    simp at hb
    subst e hb
    exact h ha
theorem mem_put {f : List (Ky × Ct)} {k : Ky} {c : Ct} {p : Ky × Ct} (h : p ∈ Mp.putM f k c) : p = (k, c) ∨ p ∈ f := by
  unfold Mp.putM at h
  split at h
  · obtain ⟨x, hx, rfl⟩ := List.mem_map.1 h
    split
    · exact Or.inl rfl
    · exact Or.inr hx
  · rcases List.mem_append.1 h with h | h
    · exact Or.inr h
    · exact Or.inl (by simpa using h)

/-- Not more than n times something has been counted. -/
structure Fits (f : List (Ky × Ct)) (n : Nat) : Prop where
  nd : (f.map (·.1)).Nodup
  pos : ∀ p ∈ f, 0 ≤ p.2.1 ∧ 0 ≤ p.2.2
  le1 : sumA Prod.fst (fun _ => true) f ≤ n
  le2 : sumA Prod.snd (fun _ => true) f ≤ 65536 * n
theorem fits_nil : Fits [] 0 := ⟨by simp, by simp, by simp [sumA], by simp [sumA]⟩
theorem keys_addK {f : List (Ky × Ct)} (k : Ky) (b : Int) (hn : (f.map (·.1)).Nodup) : ((addK f k b).map (·.1)).Nodup := keys_put _ _ hn
theorem Fits.small {f : List (Ky × Ct)} {n : Nat} (h : Fits f n) (hn : n ≤ 70368744177664) : Small f := ⟨h.pos, by have := h.le1; omega, by have := h.le2; omega⟩
theorem sumA_mem {g : Ct → Int} {f : List (Ky × Ct)} (hp : ∀ p ∈ f, 0 ≤ g p.2) {p : Ky × Ct} (h : p ∈ f) : g p.2 ≤ sumA g (fun _ => true) f := by
  induction f with
  | nil => cases h
  | cons x r ih =>
    have h1 := sumA_range (g := g) (q := fun _ => true) (f := r) (fun y hy => hp y (by simp [hy]))
    have h2 := hp x (by simp)
    simp only [sumA, if_true]
    rcases List.mem_cons.1 h with rfl | h
    · omega
    · have := ih (fun y hy => hp y (by simp [hy])) h
      omega
theorem Fits.cnt {f : List (Ky × Ct)} {n : Nat} (h : Fits f n) (k : Ky) : 0 ≤ (cntAt f k).1 ∧ (cntAt f k).1 ≤ n ∧ 0 ≤ (cntAt f k).2 ∧ (cntAt f k).2 ≤ 65536 * n := by
  unfold cntAt
  cases hg : Mp.getM f k with
  | none => simp; omega
  | some c =>
    have hm := getM_mem hg
    have a1 := sumA_mem (g := Prod.fst) (fun p hp => (h.pos p hp).1) hm
    have a2 := sumA_mem (g := Prod.snd) (fun p hp => (h.pos p hp).2) hm
    obtain ⟨p1, p2⟩ := h.pos _ hm
    have := h.le1
    have := h.le2
    simp only [Option.getD_some] at a1 a2 p1 p2 ⊢
    omega
theorem sumA_addK_fst (q : Ky → Bool) (f : List (Ky × Ct)) (k : Ky) (b : Int) (hn : (f.map (·.1)).Nodup) : sumA Prod.fst q (addK f k b) = sumA Prod.fst q f + if q k = true then 1 else 0 := by
  unfold addK
  rw [sumA_put Prod.fst rfl q k _ f hn]
  simp only
  split <;> omega
theorem sumA_addK_snd (q : Ky → Bool) (f : List (Ky × Ct)) (k : Ky) (b : Int) (hn : (f.map (·.1)).Nodup) : sumA Prod.snd q (addK f k b) = sumA Prod.snd q f + if q k = true then b else 0 := by
  unfold addK
  rw [sumA_put Prod.snd rfl q k _ f hn]
  simp only
  split <;> omega
theorem Fits.addK {f : List (Ky × Ct)} {n : Nat} (h : Fits f n) (k : Ky) {b : Int} (h1 : 0 ≤ b) (h2 : b ≤ 65536) : Fits (addK f k b) (n + 1) := by
  refine ⟨keys_put _ _ h.nd, ?_, ?_, ?_⟩
  · intro p hp
    have hc := h.cnt k
    rcases mem_put hp with he | hp
    · rw [he]
      exact ⟨Int.add_nonneg hc.1 (by omega), Int.add_nonneg hc.2.2.1 h1⟩
    · exact h.pos p hp
  · rw [sumA_addK_fst _ _ _ _ h.nd, if_pos rfl]; have := h.le1; omega
  · rw [sumA_addK_snd _ _ _ _ h.nd, if_pos rfl]; have := h.le2; omega

/-- Several keys counted. -/
def addKs (f : List (Ky × Ct)) (ks : List Ky) (b : Int) : List (Ky × Ct) := ks.foldl (fun f k => addK f k b) f
theorem addKs_nil (f : List (Ky × Ct)) (b : Int) : addKs f [] b = f := rfl
theorem addKs_snoc (f : List (Ky × Ct)) (ks : List Ky) (k : Ky) (b : Int) : addKs f (ks ++ [k]) b = addK (addKs f ks b) k b := by simp [addKs]
theorem addKs_append (f : List (Ky × Ct)) (ks l : List Ky) (b : Int) : addKs f (ks ++ l) b = addKs (addKs f ks b) l b := by simp [addKs]
theorem Fits.addKs {f : List (Ky × Ct)} {n : Nat} (h : Fits f n) {b : Int} (h1 : 0 ≤ b) (h2 : b ≤ 65536) : ∀ (ks : List Ky), Fits (addKs f ks b) (n + ks.length) := by
  intro ks
  induction ks generalizing f n with
  | nil => exact h
  | cons k r ih =>
    have := ih (h.addK k h1 h2)
    rw [show n + 1 + r.length = n + (k :: r).length by simp; omega] at this
    exact this
theorem sumA_addKs_fst (q : Ky → Bool) (b : Int) : ∀ (ks : List Ky) (f : List (Ky × Ct)), (f.map (·.1)).Nodup → sumA Prod.fst q (addKs f ks b) = sumA Prod.fst q f + (ks.countP q : Nat)
  | [], f, _ => by simp [addKs]
  | k :: r, f, hn => by
    show sumA Prod.fst q (addKs (addK f k b) r b) = _
    rw [sumA_addKs_fst q b r _ (keys_addK _ _ hn), sumA_addK_fst _ _ _ _ hn, List.countP_cons]
    split <;> omega
theorem sumA_addKs_snd (q : Ky → Bool) (b : Int) : ∀ (ks : List Ky) (f : List (Ky × Ct)), (f.map (·.1)).Nodup → sumA Prod.snd q (addKs f ks b) = sumA Prod.snd q f + (ks.countP q : Nat) * b
  | [], f, _ => by simp [addKs]
  | k :: r, f, hn => by
    show sumA Prod.snd q (addKs (addK f k b) r b) = _
    rw [sumA_addKs_snd q b r _ (keys_addK _ _ hn), sumA_addK_snd _ _ _ _ hn, List.countP_cons]
    split
    · simp only [Int.natCast_add, Int.add_mul]; simp; omega
    · simp

/-- An event, as Lean has it. -/
structure Ev where
  m : Int
  au : List UInt8
  gs : List ByteArray
  ss : List ByteArray
  by_ : Int
def Ev.day (e : Ev) : Int := e.m / 1440
def Ev.auth (e : Ev) : ByteArray := ⟨(hexL e.au).toArray⟩
def Ev.err (e : Ev) : Nat := evErr e.m e.gs e.ss e.by_
def Ev.keys (e : Ev) : List Ky := (e.day, 0, ⟨#[]⟩) :: (e.gs.map (fun g => (e.day, 1, g)) ++ e.ss.map (fun s => (e.day, 2, s)) ++ [(e.day, 3, e.auth)])
def addEv (f : List (Ky × Ct)) (e : Ev) : List (Ky × Ct) := addKs f e.keys e.by_
def addEvs (l : List Ev) : List (Ky × Ct) := l.foldl addEv []
end Go.Proofs.YticcfbeocepnpaaGreatDoor
