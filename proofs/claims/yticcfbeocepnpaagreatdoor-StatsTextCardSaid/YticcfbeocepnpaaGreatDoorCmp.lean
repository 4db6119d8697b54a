/-
  compare of two keys.
-/
import Derived.Test.YticcfbeocepnpaaGreatDoorIter
import Derived.Test.YticcfbeocepnpaaGreatDoorShelf
import Derived.Deep.RegionHeld3
import Derived.Laws.NewBlocks
set_option linter.unusedSimpArgs false
set_option maxRecDepth 100000
namespace Go.Proofs.YticcfbeocepnpaaGreatDoor
open Go.RowKit Pl

def or3 (a b c : Int) : Int := if a ≠ 0 then a else if b ≠ 0 then b else c
set_option maxHeartbeats 1000000 in
theorem or3_any (b : Nat) (x y z : Int) (w : World) (h0 : w.cell? ⟨b, 0, none⟩ = some (.int .i64 x)) (h1 : w.cell? ⟨b, 1, none⟩ = some (.int .i64 y)) (h2 : w.cell? ⟨b, 2, none⟩ = some (.int .i64 z)) :
    Calls Tryz.prog 85 #[.slice (some ⟨b, 0, none⟩) 3 3] w fun e w' => e = .returned (.int .i64 (or3 x y z)) ∧ w = w' := by
  go_enter Tryz.func85, Tryz.ntmps85
  go_wp2_with fail
  go_loop [8] (fun i => ∃ k : Nat, k ≤ 3 ∧ i = .int .i64 k ∧ (1 ≤ k → x = 0) ∧ (2 ≤ k → y = 0) ∧ (3 ≤ k → z = 0)) (fun i => 3 - (intOf i).toNat)
  case atStart => exact ⟨0, by omega, rfl, by omega, by omega, by omega⟩
  case round =>
    obtain ⟨k, hk, rfl, g0, g1, g2⟩ := hrel
    have G0 := hide g0
    have G1 := hide g1
    have G2 := hide g2
    clear g0 g1 g2
    match k, hk with
    | 0, _ =>
      by_cases hx : x = 0
      · have hb : (x != 0) = false := by simp [hx]
        have HX := hide hx
        clear hx
        go_wp2_with fail
        go_round
        case rel => exact ⟨1, by omega, by go_num, fun _ => HX.out, by omega, by omega⟩
        case measure => simp [intOf]
      · have hb : (x != 0) = true := by simp [hx]
        have HX := hide hx
        clear hx
        go_wp2_with fail
        go_ret
        exact ⟨by rw [or3, if_pos HX.out]; rfl, rfl⟩
    | 1, _ =>
      by_cases hx : y = 0
      · have hb : (y != 0) = false := by simp [hx]
        have HX := hide hx
        clear hx
        go_wp2_with fail
        go_round
        case rel => exact ⟨2, by omega, by go_num, fun _ => G0.out (by omega), fun _ => HX.out, by omega⟩
        case measure => simp [intOf]
      · have hb : (y != 0) = true := by simp [hx]
        have HX := hide hx
        clear hx
        go_wp2_with fail
        go_ret
        exact ⟨by rw [or3, if_neg (by simp [G0.out (by omega)]), if_pos HX.out]; rfl, rfl⟩
    | 2, _ =>
      by_cases hx : z = 0
      · have hb : (z != 0) = false := by simp [hx]
        have HX := hide hx
        clear hx
        go_wp2_with fail
        go_round
        case rel => exact ⟨3, by omega, by go_num, fun _ => G0.out (by omega), fun _ => G1.out (by omega), fun _ => HX.out⟩
        case measure => simp [intOf]
      · have hb : (z != 0) = true := by simp [hx]
        have HX := hide hx
        clear hx
        go_wp2_with fail
        go_ret
        exact ⟨by rw [or3, if_neg (by simp [G0.out (by omega)]), if_neg (by simp [G1.out (by omega)])]; rfl, rfl⟩
    | 3, _ =>
      go_wp2_with fail
      go_ret
      exact ⟨by rw [or3, if_neg (by simp [G0.out (by omega)]), if_neg (by simp [G1.out (by omega)]), G2.out (by omega)]; rfl, rfl⟩

def cmpK (x y : Ky) : Int := or3 (Lib.compareInt x.1 y.1) (Lib.compareInt x.2.1 y.2.1) (Lib.compareBytes x.2.2.data.toList y.2.2.data.toList)

/-- Below, and no draw given back. -/
def Later2 (B : Nat) (w w' : World) : Prop := Below B w w' ∧ w.drawn ≤ w'.drawn
theorem Later2.refl (B : Nat) (w : World) : Later2 B w w := ⟨Below.refl _ _, Nat.le_refl _⟩
theorem Later2.drew {B : Nat} {a w : World} (h : Later2 B a w) : Later2 B a w.drew := ⟨h.1.drew, Nat.le_trans h.2 (Nat.le_succ _)⟩
theorem Later2.alloc {B : Nat} {a w : World} (h : Later2 B a w) (hB : B ≤ w.heap.size) (o : Obj) : Later2 B a (w.alloc o) := ⟨h.1.alloc hB o, h.2⟩

theorem Later2.then {B : Nat} {a w x : World} (h : Later2 B a w) (hB : Later2 w.heap.size w x) (hle : B ≤ w.heap.size) : Later2 B a x := ⟨h.1.trans (hB.1.mono hle), Nat.le_trans h.2 hB.2⟩

set_option maxHeartbeats 2000000 in
theorem compare_any (x y : Ky) (w : World) :
    Calls Tryz.prog 63 #[keyV x, keyV y] w fun e w' => e = .returned (.int .i64 (cmpK x y)) ∧ Later2 w.heap.size w w' := by
  obtain ⟨x1, x2, x3⟩ := x
  obtain ⟨y1, y2, y3⟩ := y
  rw [keyV_mk, keyV_mk]
  obtain ⟨cI, hcI⟩ : ∃ c, c = Lib.compareInt := ⟨_, rfl⟩
  obtain ⟨cS, hcS⟩ : ∃ c, c = fun x y : ByteArray => Lib.compareBytes x.data.toList y.data.toList := ⟨_, rfl⟩
  have HCI : Hid (∀ x y w', Calls Tryz.prog 86 #[.int .i64 x, .int .i64 y] w' fun e w'' => e = .returned (.int .i64 (cI x y)) ∧ w' = w'') := hide fun x y w' => by
    rw [hcI]; exact (Tryz.cmp_Compare_int x y w').mono (by rintro e w'' ⟨rfl, rfl⟩; exact ⟨rfl, rfl⟩)
  have HCS : Hid (∀ x y w', Calls Tryz.prog 87 #[.string x, .string y] w' fun e w'' => e = .returned (.int .i64 (cS x y)) ∧ w' = w'') := hide fun x y w' => by
    rw [hcS]; exact (Tryz.strings_Compare x y w').mono (by rintro e w'' ⟨rfl, rfl⟩; exact ⟨rfl, rfl⟩)
  have hr' : cmpK (x1, x2, x3) (y1, y2, y3) = or3 (cI x1 y1) (cI x2 y2) (cS x3 y3) := by rw [hcI, hcS]; rfl
  clear hcI hcS
  obtain ⟨r, hr⟩ : ∃ r, cmpK (x1, x2, x3) (y1, y2, y3) = r := ⟨_, rfl⟩
  rw [hr] at hr' ⊢
  clear hr
  have HR := hide hr'
  clear hr'
  go_enter Tryz.func63, Tryz.ntmps63
  go_wp2_with fail
  have HL : Later2 w.heap.size w ((w.alloc (.cells #[.int .i64 x1, .int .i64 x2, .string x3] 64)).alloc (.cells #[.int .i64 y1, .int .i64 y2, .string y3] 64)) := ((Later2.refl _ _).alloc (Nat.le_refl _) _).alloc (by simp) _
  have hsz : ((w.alloc (.cells #[.int .i64 x1, .int .i64 x2, .string x3] 64)).alloc (.cells #[.int .i64 y1, .int .i64 y2, .string y3] 64)).heap.size = w.heap.size + 2 := by simp
  have a0 : ((w.alloc (.cells #[.int .i64 x1, .int .i64 x2, .string x3] 64)).alloc (.cells #[.int .i64 y1, .int .i64 y2, .string y3] 64)).cell? ⟨w.heap.size, 0, none⟩ = some (.int .i64 x1) := by go_simp
  have a1 : ((w.alloc (.cells #[.int .i64 x1, .int .i64 x2, .string x3] 64)).alloc (.cells #[.int .i64 y1, .int .i64 y2, .string y3] 64)).cell? ⟨w.heap.size, 1, none⟩ = some (.int .i64 x2) := by go_simp
  have a2 : ((w.alloc (.cells #[.int .i64 x1, .int .i64 x2, .string x3] 64)).alloc (.cells #[.int .i64 y1, .int .i64 y2, .string y3] 64)).cell? ⟨w.heap.size, 2, none⟩ = some (.string x3) := by go_simp
  have b0 : ((w.alloc (.cells #[.int .i64 x1, .int .i64 x2, .string x3] 64)).alloc (.cells #[.int .i64 y1, .int .i64 y2, .string y3] 64)).cell? ⟨w.heap.size + 1, 0, none⟩ = some (.int .i64 y1) := by go_simp
  have b1 : ((w.alloc (.cells #[.int .i64 x1, .int .i64 x2, .string x3] 64)).alloc (.cells #[.int .i64 y1, .int .i64 y2, .string y3] 64)).cell? ⟨w.heap.size + 1, 1, none⟩ = some (.int .i64 y2) := by go_simp
  have b2 : ((w.alloc (.cells #[.int .i64 x1, .int .i64 x2, .string x3] 64)).alloc (.cells #[.int .i64 y1, .int .i64 y2, .string y3] 64)).cell? ⟨w.heap.size + 1, 2, none⟩ = some (.string y3) := by go_simp
  obtain ⟨W, hW⟩ : ∃ W, ((w.alloc (.cells #[.int .i64 x1, .int .i64 x2, .string x3] 64)).alloc (.cells #[.int .i64 y1, .int .i64 y2, .string y3] 64)) = W := ⟨_, rfl⟩
  rw [hW] at HL hsz a0 a1 a2 b0 b1 b2 ⊢
  have HL := hide HL
  have HK : Hid (∀ w', Later2 W.heap.size W w' → w'.cell? ⟨w.heap.size, 0, none⟩ = some (.int .i64 x1) ∧ w'.cell? ⟨w.heap.size, 1, none⟩ = some (.int .i64 x2) ∧ w'.cell? ⟨w.heap.size, 2, none⟩ = some (.string x3) ∧
      w'.cell? ⟨w.heap.size + 1, 0, none⟩ = some (.int .i64 y1) ∧ w'.cell? ⟨w.heap.size + 1, 1, none⟩ = some (.int .i64 y2) ∧ w'.cell? ⟨w.heap.size + 1, 2, none⟩ = some (.string y3) ∧ Later2 W.heap.size W w') := hide fun w' hb =>
    have e0 : w.heap.size < W.heap.size := by omega
    have e1 : w.heap.size + 1 < W.heap.size := by omega
    ⟨(hb.1.cell (p := ⟨w.heap.size, 0, none⟩) e0).trans a0, (hb.1.cell (p := ⟨w.heap.size, 1, none⟩) e0).trans a1, (hb.1.cell (p := ⟨w.heap.size, 2, none⟩) e0).trans a2,
      (hb.1.cell (p := ⟨w.heap.size + 1, 0, none⟩) e1).trans b0, (hb.1.cell (p := ⟨w.heap.size + 1, 1, none⟩) e1).trans b1, (hb.1.cell (p := ⟨w.heap.size + 1, 2, none⟩) e1).trans b2, hb⟩
  have HSZ := hide hsz
  clear hW hsz a0 a1 a2 b0 b1 b2
  go_region_held3 (fun w' => w'.cell? ⟨w.heap.size, 0, none⟩ = some (.int .i64 x1) ∧ w'.cell? ⟨w.heap.size, 1, none⟩ = some (.int .i64 x2) ∧ w'.cell? ⟨w.heap.size, 2, none⟩ = some (.string x3) ∧
      w'.cell? ⟨w.heap.size + 1, 0, none⟩ = some (.int .i64 y1) ∧ w'.cell? ⟨w.heap.size + 1, 1, none⟩ = some (.int .i64 y2) ∧ w'.cell? ⟨w.heap.size + 1, 2, none⟩ = some (.string y3) ∧ Later2 W.heap.size W w')
    (first | exact HK.out _ (by assumption) | exact HK.out _ (Later2.refl _ _).drew | exact HK.out _ (Later2.refl _ _) | exact HK.out _ ((Later2.refl _ _).alloc (Nat.le_refl _) _).drew)
    ((first
      | (go_at_call 86; refine (HCI.out _ _ _).mono ?_; rintro e w6 ⟨rfl, rfl⟩)
      | (go_at_call 87; refine (HCS.out _ _ _).mono ?_; rintro e w6 ⟨rfl, rfl⟩)
      | (go_at_call 85; refine (or3_any _ (cI x1 y1) (cI x2 y2) (cS x3 y3) _ (by go_simp) (by go_simp) (by go_simp)).mono ?_; rintro e w6 ⟨rfl, rfl⟩)))
  all_goals
    go_split_ands
    go_wp2_with fail
    go_ret
    exact ⟨by rw [HR.out]; rfl, HL.out.then (Later2.drew (Later2.alloc (Later2.refl _ _) (Nat.le_refl _) _)) HL.out.1.size⟩

theorem grow_of_later {w w' : World} (h : Later2 w.heap.size w w') : ∃ q os, w' = Go.Sort.grow (w.drewN q) os := by
  obtain ⟨hb, hd⟩ := h
  refine ⟨w'.drawn - w.drawn, w'.heap.extract w.heap.size w'.heap.size, ?_⟩
  have hh : w'.heap = w.heap ++ w'.heap.extract w.heap.size w'.heap.size := by
    apply Array.ext_getElem?
    intro i
    by_cases hi : i < w.heap.size
    · rw [Array.getElem?_append_left hi]; exact hb.block i hi
    · rw [Array.getElem?_append_right (by omega)]
      have hs := hb.size
      by_cases hi2 : i < w'.heap.size
      · rw [Array.getElem?_extract, if_pos (by omega), show w.heap.size + (i - w.heap.size) = i by omega]
      · rw [Array.getElem?_eq_none (by omega), Array.getElem?_eq_none (by simp; omega)]
  have h1 := hb.os
  have h2 := hb.tape
  have h3 := hb.output
  have hd' : w'.drawn = w.drawn + (w'.drawn - w.drawn) := by omega
  cases w' with
  | mk h t d o u =>
    simp only at h1 h2 h3 hh hd hd'
    subst h1; subst h2; subst h3
    show World.mk h w.tape d w.os w.output = World.mk (w.heap ++ h.extract w.heap.size h.size) w.tape (w.drawn + (d - w.drawn)) w.os w.output
    rw [← hh, ← hd']
end Go.Proofs.YticcfbeocepnpaaGreatDoor
