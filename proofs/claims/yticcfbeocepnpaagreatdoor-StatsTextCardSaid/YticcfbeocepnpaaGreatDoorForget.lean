/-
  Forget: the counts by name of the days before a day are deleted.
-/
import Derived.Test.YticcfbeocepnpaaGreatDoorDel
set_option linter.unusedSimpArgs false
set_option maxRecDepth 100000
namespace Go.Proofs.YticcfbeocepnpaaGreatDoor
open Go.RowKit Go.Shelf Pl

/-- Is a key forgotten? -/
def goneK (before : Int) (k : Ky) : Bool := !decide (k.2.1 = 0) && decide (k.1 < before)
def forgetL (before : Int) (f : List (Ky × Ct)) : List (Ky × Ct) := f.filter fun p => !goneK before p.1
/-- The map when the keys s have been gone through. -/
def memK (s : List Ky) (x : Ky) : Bool := s.any fun y => decide (y = x)
theorem memK_true {s : List Ky} {x : Ky} (h : x ∈ s) : memK s x = true := List.any_eq_true.2 ⟨x, h, by simp⟩
theorem memK_snoc (s : List Ky) (y x : Ky) : memK (s ++ [y]) x = (memK s x || decide (y = x)) := by simp [memK]
def forgetS (before : Int) (s : List Ky) (f : List (Ky × Ct)) : List (Ky × Ct) := f.filter fun p => !(goneK before p.1 && memK s p.1)
theorem forgetS_nil (before : Int) (f : List (Ky × Ct)) : forgetS before [] f = f := by
  unfold forgetS
  exact List.filter_eq_self.2 fun p _ => by simp [memK]
theorem forgetS_all (before : Int) {s : List Ky} {f : List (Ky × Ct)} (h : ∀ p ∈ f, p.1 ∈ s) : forgetS before s f = forgetL before f := by
  unfold forgetS forgetL
  exact List.filter_congr fun p hp => by simp [memK_true (h p hp)]
theorem forgetS_gone (before : Int) {s : List Ky} {x : Ky} {f : List (Ky × Ct)} (hx : goneK before x = true) : forgetS before (s ++ [x]) f = Mp.delM (forgetS before s f) x := by
  unfold forgetS Mp.delM
  rw [List.filter_filter]
  refine List.filter_congr fun p _ => ?_
  rw [memK_snoc]
  by_cases h : p.1 = x
  · rw [h, hx]; simp
  · have h' : ¬ x = p.1 := fun e => h e.symm
    simp [h, h']
theorem forgetS_not (before : Int) {s : List Ky} {x : Ky} {f : List (Ky × Ct)} (hx : goneK before x = false) : forgetS before (s ++ [x]) f = forgetS before s f := by
  unfold forgetS
  refine List.filter_congr fun p _ => ?_
  rw [memK_snoc]
  by_cases h : p.1 = x
  · rw [h, hx]; simp
  · have h' : ¬ x = p.1 := fun e => h e.symm
    simp [h']
theorem forgetS_sub (before : Int) (s : List Ky) (f : List (Ky × Ct)) : ∀ p ∈ forgetS before s f, p ∈ f := fun _ hp => (List.mem_filter.1 hp).1
theorem goneK_mk (before a b : Int) (c : ByteArray) : goneK before (a, b, c) = (!decide (b = 0) && decide (a < before)) := rfl

theorem ownsRow_other {w w' : World} {base : Nat} {e : TypeId} {size : Nat} {v : Value} {n : Nat} {xs : List Value} {row : Nat} (h : w.ownsRow base e size v n xs) (hg : w.grownBy w' (some row)) (hr : row < base) : w'.ownsRow base e size v n xs := by
  obtain ⟨h1, h2⟩ := h
  refine ⟨h1, ?_⟩
  rcases h2 with h2 | ⟨g, cap, cur, e1, e2, e3, e4⟩
  · exact Or.inl h2
  · exact Or.inr ⟨g, cap, cur, e1, e2, (hg.block g (Array.getElem?_eq_some_iff.1 e3).1 (by intro e; cases e; omega)).trans e3, e4⟩
theorem keyOk_of {w : World} {mb : Nat} {f : List (Ky × Ct)} (h : CMap w mb f) : ∀ p ∈ f, keyOk p.1 := by
  obtain ⟨es, clock, _, _, _, hok⟩ := h
  exact hok
theorem grownBy_below {w w' : World} {row : Option Nat} (h : Below w.heap.size w w') : w.grownBy w' row := ⟨h.os, h.tape, h.output, h.size, fun i hi _ => h.block i hi⟩
theorem SAt.own {w w' : World} {sb mb : Nat} {f g : List (Ky × Ct)} {z : List Int} (h : SAt w sb mb f z) (hg : w.grownBy w' (some mb)) (hm : CMap w' mb g) : SAt w' sb mb g z :=
  ⟨(hg.block sb h.lt (by have := h.ne; simpa using this)).trans h.blk, hm, h.len⟩

set_option maxHeartbeats 4000000 in
theorem forget_any (before : Int) (sb mb : Nat) (f : List (Ky × Ct)) (z : List Int) (w : World) (hs : SAt w sb mb f z) (hN : f.length ≤ 1000000) :
    Calls Tryz.prog 19 #[.pointer (some ⟨sb, 0, none⟩), .int .i64 before] w fun e w' => e = .returned (.int .i64 ((f.map (·.1)).countP (goneK before) : Nat)) ∧ SAt w' sb mb (forgetL before f) z ∧ w.grownBy w' (some mb) := by
  have HS := hide (sorted_any sb mb f z w hs hN)
  have HSA := hide hs
  have hmlt : mb < w.heap.size := hs.map.lt
  have HOKF := hide (keyOk_of hs.map)
  clear hs
  have hlen : (skeys (f.map (·.1))).length = f.length := by rw [skeys_length, List.length_map]
  obtain ⟨ks, hks⟩ : ∃ ks, skeys (f.map (·.1)) = ks := ⟨_, rfl⟩
  have HMEM : Hid (∀ p ∈ f, p.1 ∈ ks) := hide (by
    intro p hp
    rw [← hks]
    exact (skeys_perm _).mem_iff.2 (List.mem_map.2 ⟨p, hp, rfl⟩))
  have HKOK : Hid (∀ x ∈ ks, keyOk x) := hide (by
    intro x hx
    rw [← hks] at hx
    obtain ⟨p, hp, rfl⟩ := List.mem_map.1 ((skeys_perm _).mem_iff.1 hx)
    exact HOKF.out p hp)
  have HCNT : Hid ((f.map (·.1)).countP (goneK before) = ks.countP (goneK before)) := hide (by
    rw [← hks]; exact ((skeys_perm _).countP_eq _).symm)
  rw [hks] at HS hlen
  rw [HCNT.out]
  clear hks
  obtain ⟨n, hn⟩ : ∃ n, f.length = n := ⟨_, rfl⟩
  rw [hn] at HS hlen hN
  have HLEN := hide hlen
  clear hn hlen
  go_enter Tryz.func19, Tryz.ntmps19
  go_wp2_with fail
  refine HS.out.mono ?_
  rintro e w1 ⟨v, rfl, hrow, hb⟩
  have HROW := hide hrow
  have HB := hide hb
  have hsz1 := hb.size
  have HSA1 := hide (HSA.out.below hb)
  clear hb
  have hsh : (v = .slice none 0 0 ∧ n = 0) ∨ ∃ g cap, v = .slice (some ⟨g, 0, none⟩) n cap ∧ g < w1.heap.size := by
    rcases hrow.2 with h | ⟨g, cap, cur, h, _, h2, _⟩
    · exact .inl h
    · exact .inr ⟨g, cap, h, (Array.getElem?_eq_some_iff.1 h2).1⟩
  clear hrow
  rcases hsh with ⟨rfl, rfl⟩ | ⟨g, cap, rfl, hg⟩
  · go_wp2_with fail
    go_loopw [5, 11] (fun c i wr => c = .int .i64 0 ∧ i = .int .i64 0 ∧ w1 = wr) (fun _ _ _ => 0)
    case atStart => exact ⟨rfl, rfl, rfl⟩
    case round =>
      obtain ⟨rfl, rfl, rfl⟩ := hrel
      go_wp2_with fail
      go_ret
      have hk0 : ks = [] := List.eq_nil_of_length_eq_zero HLEN.out
      have hf0 : f = [] := by
        cases f with
        | nil => rfl
        | cons p r => have := HMEM.out p (by simp); rw [hk0] at this; cases this
      subst hf0
      refine ⟨by rw [hk0]; rfl, HSA1.out, grownBy_below HB.out⟩
  · have hgm : g ≠ mb := by
      have := (HROW.out.lt g rfl).1
      omega
    go_wp2_with fail
    go_loopw [5, 11] (fun c i wr => ∃ k : Nat, k ≤ n ∧ i = .int .i64 k ∧ c = .int .i64 ((ks.take k).countP (goneK before) : Nat) ∧ SAt wr sb mb (forgetS before (ks.take k) f) z ∧ w1.grownBy wr (some mb)) (fun _ i _ => n - (intOf i).toNat)
    case atStart => exact ⟨0, by omega, rfl, rfl, by rw [List.take_zero, forgetS_nil]; exact HSA1.out, World.grownBy.refl _ _⟩
    case round =>
      obtain ⟨k, hk, rfl, rfl, hsa, hgr⟩ := hrel
      have HSK := hide hsa
      have HGR := hide hgr
      have hsz2 := hgr.size
      clear hsa hgr
      obtain ⟨cn, hcn⟩ : ∃ cn, (ks.take k).countP (goneK before) = cn := ⟨_, rfl⟩
      have hcl : cn ≤ k := by rw [← hcn]; exact Nat.le_trans List.countP_le_length (List.length_take_le _ _)
      have HCN := hide hcn
      rw [hcn]
      clear hcn
      by_cases hlt : k < n
      · obtain ⟨x, hx⟩ : ∃ x, ks[k]? = some x := ⟨_, List.getElem?_eq_getElem (by rw [HLEN.out]; exact hlt)⟩
        obtain ⟨c0, c1, c2⟩ := keys_at HROW.out hx
        have c0 := (cell_grown HGR.out (p := ⟨g, k * 3, none⟩) hg (by simpa using hgm)).trans c0
        have c1 := (cell_grown HGR.out (p := ⟨g, k * 3 + 1, none⟩) hg (by simpa using hgm)).trans c1
        have c2 := (cell_grown HGR.out (p := ⟨g, k * 3 + 2, none⟩) hg (by simpa using hgm)).trans c2
        have HXOK := hide (HKOK.out x (List.mem_of_getElem? hx))
        have HTK : Hid (ks.take (k + 1) = ks.take k ++ [x]) := hide (by rw [List.take_add_one, hx]; rfl)
        obtain ⟨x1, x2, x3⟩ := x
        dsimp only at c0 c1 c2
        have HST : Hid (SAt (wr.alloc (.cells #[.int .i64 x1, .int .i64 x2, .string x3] 64)) sb mb (forgetS before (ks.take k) f) z) := hide (HSK.out.below ((Below.refl _ _).alloc (Nat.le_refl _) _))
        have HGA : Hid (w1.grownBy (wr.alloc (.cells #[.int .i64 x1, .int .i64 x2, .string x3] 64)) (some mb)) := hide (HGR.out.trans (World.grownBy_alloc _ _ _))
        clear hx
        by_cases hx2 : x2 = 0
        · subst hx2
          have hgn : goneK before (x1, 0, x3) = false := by simp [goneK_mk]
          have HT2 : Hid (forgetS before (ks.take (k + 1)) f = forgetS before (ks.take k) f) := hide (by rw [HTK.out, forgetS_not before hgn])
          have HC2 : Hid ((ks.take (k + 1)).countP (goneK before) = cn) := hide (by rw [HTK.out, List.countP_append, HCN.out]; simp [hgn])
          clear hgn
          go_wp2_with fail
          go_roundw
          case rel => exact ⟨k + 1, by omega, by go_num, by rw [HC2.out], by rw [HT2.out]; exact HST.out, HGA.out⟩
          case measure => simp [intOf]; omega
        · have hb0 : (x2 != 0) = true := by simpa using hx2
          by_cases hlb : x1 < before
          · have hgn : goneK before (x1, x2, x3) = true := by simp [goneK_mk, hx2, hlb]
            have HT2 : Hid (forgetS before (ks.take (k + 1)) f = Mp.delM (forgetS before (ks.take k) f) (x1, x2, x3)) := hide (by rw [HTK.out, forgetS_gone before hgn])
            have HC2 : Hid ((ks.take (k + 1)).countP (goneK before) = cn + 1) := hide (by rw [HTK.out, List.countP_append, HCN.out]; simp [hgn])
            obtain ⟨W, hW⟩ : ∃ W, W = wr.alloc (.cells #[.int .i64 x1, .int .i64 x2, .string x3] 64) := ⟨_, rfl⟩
            rw [← hW] at HST HGA
            have k1 : W.cell? ⟨wr.heap.size, 0, none⟩ = some (.int .i64 x1) := by rw [hW]; simp [go_sem]
            have k2 : W.cell? ⟨wr.heap.size, 1, none⟩ = some (.int .i64 x2) := by rw [hW]; simp [go_sem]
            have k3 : W.cell? ⟨wr.heap.size, 2, none⟩ = some (.string x3) := by rw [hW]; simp [go_sem]
            have k4 : W.cell? ⟨sb, 0, none⟩ = some (.map (some mb)) := HST.out.c0
            have hd := fun ty => delW_run (w := W.drew) (Mp.IsMap.below HST.out.map ⟨rfl, rfl, rfl, Nat.le_refl _, fun _ _ => rfl⟩) HXOK.out ty
            have hd1 : ∀ ty, (Builtin.delete_ #[70, 64] ty #[.map (some mb), .agg #[.int .i64 x1, .int .i64 x2, .string x3]]).run Tryz.prog W.drew = .ok (.tuple #[]) (delW W.drew mb (keyV (x1, x2, x3))) := fun ty => (hd ty).1
            have HD2 := hide (hd 0).2
            obtain ⟨W2, hW2⟩ : ∃ W2, W2 = delW W.drew mb (keyV (x1, x2, x3)) := ⟨_, rfl⟩
            rw [← hW2] at hd1 HD2
            have HD3 : Hid (W.grownBy W2 (some mb)) := hide ((grownBy_below (Below.refl _ W).drew).trans HD2.out.2)
            have HWW := hide hW
            have HWW2 := hide hW2
            clear hgn hd hW hW2
            go_upto_region 6 with fail
            rw [← HWW.out]
            go_region
            all_goals
              go_wp2_with fail
              go_roundw
              case rel => exact ⟨k + 1, by omega, by go_num, by rw [HC2.out]; go_num, by rw [HT2.out]; exact HST.out.own HD3.out HD2.out.1, HGA.out.trans HD3.out⟩
              case measure => simp [intOf]; omega
          · have hgn : goneK before (x1, x2, x3) = false := by simp [goneK_mk, hlb]
            have HT2 : Hid (forgetS before (ks.take (k + 1)) f = forgetS before (ks.take k) f) := hide (by rw [HTK.out, forgetS_not before hgn])
            have HC2 : Hid ((ks.take (k + 1)).countP (goneK before) = cn) := hide (by rw [HTK.out, List.countP_append, HCN.out]; simp [hgn])
            clear hgn
            go_wp2_with fail
            go_roundw
            case rel => exact ⟨k + 1, by omega, by go_num, by rw [HC2.out], by rw [HT2.out]; exact HST.out, HGA.out⟩
            case measure => simp [intOf]; omega
      · obtain rfl : k = n := by omega
        have htk : ks.take k = ks := List.take_of_length_le (by rw [HLEN.out]; exact Nat.le_refl _)
        go_wp2_with fail
        go_ret
        refine ⟨by rw [← HCN.out, htk]; rfl, ?_, (grownBy_below HB.out).trans HGR.out⟩
        have := HSK.out
        rw [htk, forgetS_all before HMEM.out] at this
        exact this
end Go.Proofs.YticcfbeocepnpaaGreatDoor
