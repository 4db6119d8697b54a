/-
  The order of the keys of counts: a strict weak order that parts any two keys that differ.
-/
import Derived.Shelf.SlSortCmp.WholeK
import Derived.Lib.Small
import Derived.Lib.Bytealg
set_option linter.unusedSimpArgs false
namespace Go.Proofs.YticcfbeocepnpaaGreatDoor
namespace Ord
open Go.Shelf Go.Sort
/-- A three-way comparison. -/
structure TW {α : Type} (c : α → α → Int) : Prop where
  eq : ∀ x y, c x y = 0 ↔ x = y
  anti : ∀ x y, c x y < 0 ↔ 0 < c y x
  trans : ∀ x y z, c x y < 0 → c y z < 0 → c x z < 0
def lex2 (a b : Int) : Int := if a ≠ 0 then a else b
theorem TW.lex {α β : Type} {c : α → α → Int} {d : β → β → Int} (h : TW c) (k : TW d) : TW (fun x y : α × β => lex2 (c x.1 y.1) (d x.2 y.2)) where
  eq := by
    rintro ⟨a, b⟩ ⟨a', b'⟩
    have h1 := h.eq a a'
    have h2 := k.eq b b'
    simp only [lex2, Prod.mk.injEq]
    by_cases e : c a a' = 0
    · rw [if_neg (by simpa using e), h2]; exact ⟨fun q => ⟨h1.1 e, q⟩, fun q => q.2⟩
    · rw [if_pos e]; exact ⟨fun q => absurd q e, fun q => absurd (h1.2 q.1) e⟩
  anti := by
    rintro ⟨a, b⟩ ⟨a', b'⟩
    have h1 := h.anti a a'
    have h1' := h.anti a' a
    have h2 := k.anti b b'
    have e1 := h.eq a a'
    have e2 := h.eq a' a
    simp only [lex2]
    by_cases e : c a a' = 0
    · have e' : c a' a = 0 := e2.2 (e1.1 e).symm
      rw [if_neg (by simpa using e), if_neg (by simpa using e')]; exact h2
    · have e' : c a' a ≠ 0 := fun q => e (e1.2 (e2.1 q).symm)
      rw [if_pos e, if_pos e']; exact h1
  trans := by
    rintro ⟨a, b⟩ ⟨a', b'⟩ ⟨a'', b''⟩
    have t1 := h.trans a a' a''
    have t2 := k.trans b b' b''
    have e1 := h.eq a a'
    have e2 := h.eq a' a''
    have e3 := h.eq a a''
    simp only [lex2]
    by_cases e : c a a' = 0
    · obtain rfl := e1.1 e
      rw [if_neg (by simpa using e)]
      by_cases e' : c a a'' = 0
      · rw [if_neg (by simpa using e'), if_neg (by simpa using e')]; exact t2
      · rw [if_pos e', if_pos e']; intro _ q; exact q
    · by_cases e' : c a' a'' = 0
      · obtain rfl := e2.1 e'
        rw [if_pos e, if_pos e]; intro q _; exact q
      · rw [if_pos e, if_pos e']
        intro p q
        have := t1 p q
        rw [if_pos (by omega)]; exact this
theorem TW.comap {α β : Type} {c : α → α → Int} (h : TW c) (f : β → α) (hf : ∀ x y, f x = f y → x = y) : TW (fun x y => c (f x) (f y)) where
  eq x y := (h.eq _ _).trans ⟨hf x y, fun e => by rw [e]⟩
  anti x y := h.anti _ _
  trans x y z := h.trans _ _ _
theorem int : TW Lib.compareInt where
  eq x y := by unfold Lib.compareInt; split <;> (try split) <;> omega
  anti x y := by unfold Lib.compareInt; split <;> split <;> (try split) <;> (try split) <;> omega
  trans x y z := by unfold Lib.compareInt; split <;> split <;> split <;> (try split) <;> (try split) <;> (try split) <;> omega
theorem bytes : TW Lib.compareBytes where
  eq x := by
    induction x with
    | nil => intro y; cases y <;> simp [Lib.compareBytes]
    | cons a r ih =>
      intro y
      cases y with
      | nil => simp [Lib.compareBytes]
      | cons b s =>
        simp only [Lib.compareBytes, List.cons.injEq, UInt8.lt_iff_toNat_lt, ← UInt8.toNat_inj]
        have := ih s
        split
        · constructor <;> omega
        · split
          · constructor <;> omega
          · rw [this]; constructor
            · intro q; exact ⟨by omega, q⟩
            · intro q; exact q.2
  anti x := by
    induction x with
    | nil => intro y; cases y <;> simp [Lib.compareBytes]
    | cons a r ih =>
      intro y
      cases y with
      | nil => simp [Lib.compareBytes]
      | cons b s =>
        simp only [Lib.compareBytes, UInt8.lt_iff_toNat_lt]
        have := ih s
        split <;> split <;> (try split) <;> (try split) <;> omega
  trans x := by
    induction x with
    | nil =>
      intro y z
      cases y <;> cases z <;> simp [Lib.compareBytes]
    | cons a r ih =>
      intro y z
      cases y with
      | nil => simp [Lib.compareBytes]
      | cons b s =>
        cases z with
        | nil => simp [Lib.compareBytes]
        | cons c t =>
          simp only [Lib.compareBytes, UInt8.lt_iff_toNat_lt]
          have := ih s t
          split <;> split <;> (try split) <;> (try split) <;> (try split) <;> (try split) <;> omega
theorem TW.lt {α : Type} {c : α → α → Int} (x y : α) : ltOf c x y = decide (c x y < 0) := rfl
theorem TW.swo {α : Type} {c : α → α → Int} (h : TW c) : SWO (ltOf c) where
  irrefl x := by have := (h.eq x x).2 rfl; rw [TW.lt]; simp; omega
  trans x y z := by rw [TW.lt, TW.lt, TW.lt]; simpa using h.trans x y z
  ntrans x y z := by
    rw [TW.lt, TW.lt, TW.lt]
    simp only [decide_eq_false_iff_not]
    intro h1 h2 h3
    by_cases e : c x y = 0
    · obtain rfl := (h.eq _ _).1 e; exact h2 h3
    · have h4 : c y x < 0 := (h.anti y x).2 (by omega)
      exact h2 (h.trans y x z h4 h3)
theorem TW.total {α : Type} {c : α → α → Int} (h : TW c) (x y : α) (h1 : ltOf c x y = false) (h2 : ltOf c y x = false) : x = y := by
  rw [TW.lt] at h1 h2
  simp only [decide_eq_false_iff_not] at h1 h2
  refine (h.eq x y).1 ?_
  have := (h.anti y x)
  omega
end Ord
end Go.Proofs.YticcfbeocepnpaaGreatDoor
