/-
  Plain lists: the parts into which a byte divides a text; the error of a group's name and of a list of names. No program is named here.
-/
import Derived.Test.YticcfbeocepnpaaGreatDoorPlain
import Derived.Lib.SplitLaws
import Derived.Lib.IndexBytes
import Derived.Lib.SlicesS
import Derived.Laws.RangeAny
import Derived.Shelf.GgClosure.StringsIndexFunc
namespace Go.Proofs.YticcfbeocepnpaaGreatDoor
namespace Pl
open Go.Lib

/-- The parts into which a byte divides a text. -/
def partsL (c : UInt8) : List UInt8 → List (List UInt8)
  | [] => [[]]
  | x :: l => if x = c then [] :: partsL c l else
    match partsL c l with
    | [] => [[x]]
    | p :: r => (x :: p) :: r
theorem partsL_ne (c : UInt8) : ∀ l, partsL c l ≠ []
  | [] => by simp [partsL]
  | x :: l => by
    unfold partsL
    split
    · simp
    · split <;> simp
theorem partsL_cons (c x : UInt8) (l : List UInt8) (h : x ≠ c) (p : List UInt8) (r : List (List UInt8)) (hp : partsL c l = p :: r) : partsL c (x :: l) = (x :: p) :: r := by
  unfold partsL; rw [if_neg h, hp]
theorem partsL_hit (c : UInt8) (l : List UInt8) : partsL c (c :: l) = [] :: partsL c l := by
  conv => lhs; unfold partsL
  rw [if_pos rfl]

theorem index_miss_count (c : UInt8) : ∀ l : List UInt8, index l [c] = -1 → l.count c = 0
  | [], _ => rfl
  | x :: l, h => by
    rw [index_one] at h
    unfold indexByte at h
    by_cases e : x = c
    · subst e; simp at h
    · simp [e] at h
      have ge := indexByte_ge l c
      rw [List.count_cons_of_ne (by simpa using e)]
      apply index_miss_count c l
      rw [index_one]
      by_cases e2 : indexByte l c = -1
      · exact e2
      · have := h e2; omega

theorem splitK_parts (c : UInt8) : ∀ l : List UInt8, splitK [c] 0 (l.count c) l = partsL c l
  | [] => by simp [splitK, partsL]
  | x :: l => by
    have ih := splitK_parts c l
    by_cases e : x = c
    · subst e
      rw [List.count_cons_self, partsL_hit, ← ih]
      simp [splitK, index]
    · rw [List.count_cons_of_ne (by simpa using e)]
      have hx : index (x :: l) [c] = if index l [c] = -1 then -1 else index l [c] + 1 := by
        rw [index_one, index_one]
        simp [indexByte, e]
      cases hk : l.count c with
      | zero =>
        rw [hk] at ih
        simp only [splitK] at ih ⊢
        rw [partsL_cons c x l e l [] ih.symm]
      | succ k =>
        rw [hk] at ih
        have hm : index l [c] ≠ -1 := fun h => by rw [index_miss_count c l h] at hk; omega
        have ge : -1 ≤ index l [c] := index_ge l [c]
        obtain ⟨i, hi⟩ := Int.eq_ofNat_of_zero_le (show 0 ≤ index l [c] by omega)
        unfold splitK at ih ⊢
        rw [hx, if_neg hm]
        rw [hi] at ih ⊢
        have n1 : ((i : Int) == -1) = false := by first | (simp; done) | (simp; omega)
        have n2 : ((i : Int) + 1 == -1) = false := by first | (simp; done) | (simp; omega)
        have t2 : ((i : Int) + 1).toNat = i + 1 := by omega
        simp only [n1, n2, t2, Bool.false_eq_true, if_false, Nat.add_zero, Int.toNat_natCast, List.length_singleton] at ih ⊢
        rw [partsL_cons c x l e _ _ ih.symm]
        simp

theorem splitB_parts (s : ByteArray) (c : UInt8) : (splitB ⟨#[c]⟩ 0 (countB s ⟨#[c]⟩) s).map (·.data.toList) = partsL c s.data.toList := by
  rw [splitB_data]
  have : countB s ⟨#[c]⟩ = s.data.toList.count c := count_one c s.data.toList
  rw [this]
  exact splitK_parts c s.data.toList

/-- What is still to be divided, behind a part that has begun. -/
def joinHead (part : List UInt8) : List (List UInt8) → List (List UInt8)
  | [] => [part]
  | p :: r => (part ++ p) :: r
theorem joinHead_step (c x : UInt8) (part l : List UInt8) (h : x ≠ c) : joinHead part (partsL c (x :: l)) = joinHead (part ++ [x]) (partsL c l) := by
  cases hp : partsL c l with
  | nil => exact absurd hp (partsL_ne c l)
  | cons p r => rw [partsL_cons c x l h p r hp]; simp [joinHead]
theorem joinHead_hit (c : UInt8) (part l : List UInt8) : joinHead part (partsL c (c :: l)) = part :: joinHead [] (partsL c l) := by
  rw [partsL_hit]
  cases hp : partsL c l with
  | nil => exact absurd hp (partsL_ne c l)
  | cons p r => simp [joinHead]
theorem joinHead_nil_parts (c : UInt8) (l : List UInt8) : joinHead [] (partsL c l) = partsL c l := by
  cases hp : partsL c l with
  | nil => exact absurd hp (partsL_ne c l)
  | cons p r => simp [joinHead]
theorem joinHead_end (c : UInt8) (part : List UInt8) : joinHead part (partsL c []) = [part] := by simp [partsL, joinHead]
theorem length_partsL (c : UInt8) : ∀ l, (partsL c l).length ≤ l.length + 1
  | [] => by simp [partsL]
  | x :: l => by
    have ih := length_partsL c l
    by_cases e : x = c
    · subst e; rw [partsL_hit]; simpa using ih
    · cases hp : partsL c l with
      | nil => exact absurd hp (partsL_ne c l)
      | cons p r => rw [partsL_cons c x l e p r hp]; rw [hp] at ih; simp at ih ⊢; omega

theorem mem_partsL (c : UInt8) : ∀ (l p : List UInt8), p ∈ partsL c l → p.length ≤ l.length
  | [], p, h => by simp [partsL] at h; simp [h]
  | x :: l, p, h => by
    by_cases e : x = c
    · subst e
      rw [partsL_hit] at h
      rcases List.mem_cons.1 h with rfl | h
      · simp
      · have := mem_partsL x l p h; simp; omega
    · cases hp : partsL c l with
      | nil => exact absurd hp (partsL_ne c l)
      | cons q r =>
        rw [partsL_cons c x l e q r hp] at h
        have ih := mem_partsL c l
        rw [hp] at ih
        rcases List.mem_cons.1 h with rfl | h
        · have := ih q (by simp); simp; omega
        · have := ih p (by simp [h]); simp; omega

/-- The error of a group's name. -/
def chkL (l : List UInt8) : Nat :=
  if 80 < l.length then 5 else if (partsL 46 l).all compL then (if 10 < (partsL 46 l).length then 9 else 0) else 12
theorem chkL_le (l : List UInt8) : chkL l ≤ 12 := by unfold chkL; split; omega; split; split <;> omega; omega

/-- The error of the names that are left, behind those that have been seen. -/
def chkGo (seen : List ByteArray) : List ByteArray → Nat
  | [] => 0
  | x :: r => if chkL x.data.toList ≠ 0 then chkL x.data.toList else if containsS seen x = true then 7 else chkGo (seen ++ [x]) r
/-- The error of a list of names, none too. -/
def listE (ss : List ByteArray) : Nat := if 20 < ss.length then 9 else chkGo [] ss
theorem chkGo_le : ∀ (r seen : List ByteArray), chkGo seen r ≤ 12
  | [], _ => by simp [chkGo]
  | x :: r, seen => by
    unfold chkGo
    have := chkL_le x.data.toList
    split
    · exact this
    · split
      · omega
      · exact chkGo_le r _
theorem listE_le (ss : List ByteArray) : listE ss ≤ 12 := by unfold listE; split; omega; exact chkGo_le _ _

/-! strings.ContainsFunc over runes, where the property holds of no byte that a component bears -/
theorem permN_lt {c : Nat} (h : permN c = true) : c < 128 := by
  rcases permN_true h with h | h | h | h | h <;> omega
theorem idx_good (s : ByteArray) : ∀ (f pos : Nat), (∀ j (h : j < s.size), pos ≤ j → permN s[j].toNat = true) → idxFuncFrom (fun x => !permN x) true s f pos = -1
  | 0, _, _ => rfl
  | f + 1, pos, h => by
    unfold idxFuncFrom
    split
    · rename_i hp
      have hg := h pos hp (Nat.le_refl _)
      have hd := decode_ascii s pos hp (permN_lt hg)
      rw [hd]
      simp only [hg, Bool.not_true, Bool.false_eq_true, if_false]
      exact idx_good s f (pos + 1) (fun j hj hle => h j hj (by omega))
    · rfl
theorem idx_bad (s : ByteArray) (k : Nat) (hk : k < s.size) (hb : permN s[k].toNat = false) : ∀ (f pos : Nat), pos ≤ k → s.size - pos ≤ f → 0 ≤ idxFuncFrom (fun x => !permN x) true s f pos
  | 0, pos, h1, h2 => by omega
  | f + 1, pos, h1, h2 => by
    have hp : pos < s.size := by omega
    unfold idxFuncFrom
    rw [if_pos hp]
    by_cases hlt : s[pos].toNat < 128
    · have hd := decode_ascii s pos hp hlt
      rw [hd]
      by_cases hg : permN s[pos].toNat = true
      · have hne : pos ≠ k := fun e => by subst e; rw [hb] at hg; cases hg
        simp only [hg, Bool.not_true, Bool.false_eq_true, if_false]
        exact idx_bad s k hk hb f (pos + 1) (by omega) (by omega)
      · simp only [hg, Bool.not_false, if_true]; omega
    · have hd := decode_high s pos hp (by omega)
      have : permN (Utf8.decode s pos).1 = false := by
        rw [Bool.eq_false_iff]; intro h; have := permN_lt h; omega
      simp only [this, Bool.not_false, if_true]; omega
theorem idx_perm (s : ByteArray) : decide (0 ≤ idxFunc (fun x => !permN x) true s) = !(s.data.toList.all (fun c => permN c.toNat)) := by
  cases h : s.data.toList.all (fun c => permN c.toNat) with
  | true =>
    have : idxFunc (fun x => !permN x) true s = -1 := idx_good s s.size 0 (fun j hj _ => by
      rw [List.all_eq_true] at h
      exact h _ (List.mem_of_getElem? (get_data s j hj)))
    rw [this]; rfl
  | false =>
    rw [List.all_eq_false] at h
    obtain ⟨x, hx, hb⟩ := h
    obtain ⟨k, hk, rfl⟩ := List.mem_iff_getElem.1 hx
    have hk' : k < s.size := hk
    have := idx_bad s k hk' (Bool.eq_false_iff.2 hb) s.size 0 (by omega) (by omega)
    unfold idxFunc
    simp [this]
end Pl
end Go.Proofs.YticcfbeocepnpaaGreatDoor
