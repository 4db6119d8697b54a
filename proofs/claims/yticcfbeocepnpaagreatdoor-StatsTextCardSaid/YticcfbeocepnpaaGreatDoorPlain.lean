/-
  Plain lists and numbers for the walks of layer 11, 12 and 52: which bytes a name may hold, the parts of a text, the errors of names and lists. No program is named here.
-/
import Derived.WalkKit
namespace Go.Proofs.YticcfbeocepnpaaGreatDoor
namespace Pl

def lowN (n : Nat) : Bool := decide (97 ≤ n) && decide (n ≤ 122)
def digN (n : Nat) : Bool := decide (48 ≤ n) && decide (n ≤ 57)
def permN (n : Nat) : Bool := lowN n || digN n || decide (n = 45) || decide (n = 43) || decide (n = 95)
def sitePermN (n : Nat) : Bool := lowN n || digN n || decide (n = 45) || decide (n = 46)

/-- A component of a group's name. -/
def compL (l : List UInt8) : Bool := decide (1 ≤ l.length) && decide (l.length ≤ 20) && lowN (l.headD 0).toNat && l.all (fun c => permN c.toNat)

theorem take_snoc (s : ByteArray) (k : Nat) (h : k < s.size) : s.data.toList.take (k + 1) = s.data.toList.take k ++ [s[k]] := by
  rw [List.take_succ_eq_append_getElem (by simpa using h)]; rfl

theorem len_data (s : ByteArray) : s.data.toList.length = s.size := rfl

theorem get_data (s : ByteArray) (k : Nat) (h : k < s.size) : s.data.toList[k]? = some s[k] := by
  rw [List.getElem?_eq_getElem (by rw [len_data]; exact h)]; rfl

theorem head_data (s : ByteArray) (h : 0 < s.size) : s.data.toList.headD 0 = s[0] := by
  have := get_data s 0 h
  cases hl : s.data.toList with
  | nil => rw [hl] at this; simp at this
  | cons x r => rw [hl] at this; simpa using this

theorem all_take_succ (p : UInt8 → Bool) (s : ByteArray) (k : Nat) (h : k < s.size) (ha : (s.data.toList.take k).all p = true) (hp : p s[k] = true) :
    (s.data.toList.take (k + 1)).all p = true := by
  rw [take_snoc s k h, List.all_append, ha]; simp [hp]

theorem all_false_of (p : UInt8 → Bool) (s : ByteArray) (k : Nat) (h : k < s.size) (hp : p s[k] = false) : s.data.toList.all p = false := by
  rw [List.all_eq_false]
  exact ⟨s[k], List.mem_of_getElem? (get_data s k h), by simp [hp]⟩

theorem all_take_full (p : UInt8 → Bool) (s : ByteArray) (k : Nat) (h : s.size ≤ k) (ha : (s.data.toList.take k).all p = true) : s.data.toList.all p = true := by
  rwa [List.take_of_length_le (by rw [len_data]; exact h)] at ha

theorem compL_true (s : ByteArray) (h1 : 1 ≤ s.size) (h2 : s.size ≤ 20) (h3 : lowN (s[0]'(by omega)).toNat = true) (h4 : s.data.toList.all (fun c => permN c.toNat) = true) : compL s.data.toList = true := by
  have := head_data s (by omega)
  simp only [compL, len_data, this, h3, h4]
  simp [h1, h2]

theorem compL_bad_size (s : ByteArray) (h : s.size < 1 ∨ 20 < s.size) : compL s.data.toList = false := by
  simp only [compL, len_data]
  rcases h with h | h
  · have : ¬ (1 ≤ s.size) := by omega
    simp [this]
  · have : ¬ (s.size ≤ 20) := by omega
    simp [this]

theorem compL_bad_head (s : ByteArray) (h : 0 < s.size) (h3 : lowN s[0].toNat = false) : compL s.data.toList = false := by
  have := head_data s h
  simp only [compL, this, h3]
  simp

theorem compL_bad_all (s : ByteArray) (h : s.data.toList.all (fun c => permN c.toNat) = false) : compL s.data.toList = false := by
  simp only [compL, h]; simp

theorem lowN_cases {c : Nat} : (lowN c = true → 97 ≤ c ∧ c ≤ 122) ∧ (lowN c = false → c < 97 ∨ 122 < c) := by
  constructor
  · intro h; simpa [lowN] using h
  · intro h; simp [lowN] at h; omega

/-- Where a byte that may stand in a component lies; where one that may not. -/
theorem permN_true {c : Nat} (h : permN c = true) : (97 ≤ c ∧ c ≤ 122) ∨ (48 ≤ c ∧ c ≤ 57) ∨ c = 45 ∨ c = 43 ∨ c = 95 := by
  simp [permN, lowN, digN] at h; omega
theorem permN_false {c : Nat} (h : permN c = false) : (0 ≤ c ∧ c < 43) ∨ (44 ≤ c ∧ c ≤ 44) ∨ (46 ≤ c ∧ c ≤ 47) ∨ (58 ≤ c ∧ c ≤ 94) ∨ (96 ≤ c ∧ c ≤ 96) ∨ (123 ≤ c ∧ c ≤ c) := by
  simp [permN, lowN, digN] at h; omega
theorem sitePermN_true {c : Nat} (h : sitePermN c = true) : (97 ≤ c ∧ c ≤ 122) ∨ (48 ≤ c ∧ c ≤ 57) ∨ c = 45 ∨ c = 46 := by
  simp [sitePermN, lowN, digN] at h; omega
theorem sitePermN_false {c : Nat} (h : sitePermN c = false) : (0 ≤ c ∧ c < 45) ∨ (47 ≤ c ∧ c ≤ 47) ∨ (58 ≤ c ∧ c ≤ 96) ∨ (123 ≤ c ∧ c ≤ c) := by
  simp [sitePermN, lowN, digN] at h; omega

/-- Is the byte c, the i-th of n with p before it, at a place where it may not be? -/
def misP (n i c p : Nat) : Bool := decide ((i = 0 ∧ (c < 97 ∨ 122 < c)) ∨ (0 < i ∧ c = 46 ∧ p = 46) ∨ (0 < i ∧ i + 1 = n ∧ (c = 45 ∨ c = 46)))
theorem misP_true {n i c p : Nat} (h : (i = 0 ∧ (c < 97 ∨ 122 < c)) ∨ (0 < i ∧ c = 46 ∧ p = 46) ∨ (0 < i ∧ i + 1 = n ∧ (c = 45 ∨ c = 46))) : misP n i c p = true := decide_eq_true h
theorem misP_false {n i c p : Nat} (h : ¬ ((i = 0 ∧ (c < 97 ∨ 122 < c)) ∨ (0 < i ∧ c = 46 ∧ p = 46) ∨ (0 < i ∧ i + 1 = n ∧ (c = 45 ∨ c = 46)))) : misP n i c p = false := decide_eq_false h
theorem misP_out {n i c p : Nat} (h : misP n i c p = true) : (i = 0 ∧ (c < 97 ∨ 122 < c)) ∨ (0 < i ∧ c = 46 ∧ p = 46) ∨ (0 < i ∧ i + 1 = n ∧ (c = 45 ∨ c = 46)) := of_decide_eq_true h

def atN (l : List UInt8) (i : Nat) : Nat := (l.getD i 0).toNat
theorem atN_data (s : ByteArray) (k : Nat) (h : k < s.size) : atN s.data.toList k = s[k].toNat := by
  rw [atN, List.getD_eq_getElem?_getD, get_data s k h]; rfl
theorem atN_lt (l : List UInt8) (i : Nat) : atN l i < 256 := (l.getD i 0).toNat_lt

/-- The first place below n with a property. -/
def firstAt (n : Nat) (p : Nat → Bool) : Option Nat := (List.range n).find? p
theorem firstAt_some {n k : Nat} {p : Nat → Bool} (hk : k < n) (hp : p k = true) (hn : ∀ j, j < k → p j = false) : firstAt n p = some k := by
  unfold firstAt
  rw [List.find?_eq_some_iff_append]
  refine ⟨hp, List.range k, List.range' (k + 1) (n - k - 1), ?_, ?_⟩
  · rw [List.range_eq_range', List.range_eq_range', show n = k + ((n - k - 1) + 1) by omega, ← List.range'_append_1, List.range'_succ]
    simp
  · intro a ha
    simp at ha
    simp [hn a ha]
theorem firstAt_none {n : Nat} {p : Nat → Bool} (hn : ∀ j, j < n → p j = false) : firstAt n p = none := by
  unfold firstAt
  rw [List.find?_eq_none]
  intro a ha
  simp at ha
  simp [hn a ha]
/-- The offset of the first error of a site's name, and its kind. -/
def siteL (l : List UInt8) : Nat × Nat :=
  if l.length = 0 then (0, 4) else if 30 < l.length then (30, 5) else
  match firstAt l.length (fun i => !sitePermN (atN l i)) with
  | some i => (i, 6)
  | none => match firstAt l.length (fun i => misP l.length i (atN l i) (atN l (i - 1))) with
    | some i => (i, 12)
    | none => (0, 0)

/-- The cases of a byte that is misplaced, and of one that is not (k is not 0). -/
theorem misP_yes {n k c p : Nat} (hk : 0 < k) (h : misP n k c p = true) : (c = 46 ∧ p = 46) ∨ (c = 46 ∧ p ≠ 46 ∧ k + 1 = n) ∨ (c = 45 ∧ k + 1 = n) := by
  have := misP_out h; omega
theorem misP_no {n k c p : Nat} (hk : 0 < k) (h : misP n k c p = false) :
    (c = 46 ∧ p ≠ 46 ∧ k + 1 ≠ n) ∨ (c = 45 ∧ k + 1 ≠ n) ∨ (c < 97 ∧ c ≠ 45 ∧ c ≠ 46) ∨ (97 ≤ c ∧ c ≤ 122) ∨ 122 < c := by
  have : ¬ ((k = 0 ∧ (c < 97 ∨ 122 < c)) ∨ (0 < k ∧ c = 46 ∧ p = 46) ∨ (0 < k ∧ k + 1 = n ∧ (c = 45 ∨ c = 46))) := of_decide_eq_false h
  omega
theorem siteL_empty {l : List UInt8} (h : l.length = 0) : siteL l = (0, 4) := by simp [siteL, h]
theorem siteL_long {l : List UInt8} (h : 30 < l.length) : siteL l = (30, 5) := by
  unfold siteL; rw [if_neg (by omega), if_pos h]
theorem siteL_byte {l : List UInt8} {k : Nat} (h0 : l.length ≠ 0) (h : l.length ≤ 30) (hf : firstAt l.length (fun i => !sitePermN (atN l i)) = some k) : siteL l = (k, 6) := by
  unfold siteL; rw [if_neg h0, if_neg (by omega), hf]
theorem siteL_name {l : List UInt8} {k : Nat} (h0 : l.length ≠ 0) (h : l.length ≤ 30) (hf : firstAt l.length (fun i => !sitePermN (atN l i)) = none)
    (hm : firstAt l.length (fun i => misP l.length i (atN l i) (atN l (i - 1))) = some k) : siteL l = (k, 12) := by
  unfold siteL; rw [if_neg h0, if_neg (by omega), hf]; simp only; rw [hm]
theorem siteL_ok {l : List UInt8} (h0 : l.length ≠ 0) (h : l.length ≤ 30) (hf : firstAt l.length (fun i => !sitePermN (atN l i)) = none)
    (hm : firstAt l.length (fun i => misP l.length i (atN l i) (atN l (i - 1))) = none) : siteL l = (0, 0) := by
  unfold siteL; rw [if_neg h0, if_neg (by omega), hf]; simp only; rw [hm]

theorem beq_no (c : Nat) (d : Int) (h : (c : Int) ≠ d) : ((c : Int) == d) = false := by simpa using h
theorem beq_yes (c : Nat) (d : Int) (h : (c : Int) = d) : ((c : Int) == d) = true := by simpa using h

theorem hide {p : Prop} (h : p) : RowKit.Hid p := h

end Pl
end Go.Proofs.YticcfbeocepnpaaGreatDoor
