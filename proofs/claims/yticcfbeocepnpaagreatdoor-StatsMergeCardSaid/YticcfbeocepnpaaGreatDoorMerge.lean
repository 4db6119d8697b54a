/-
  Clone and Merge.
-/
import Derived.Test.YticcfbeocepnpaaGreatDoorLawOrder
import Derived.Test.YticcfbeocepnpaaGreatDoorEq
import Derived.Test.YticcfbeocepnpaaGreatDoorCut
import Derived.Test.YticcfbeocepnpaaGreatDoorShelfSort
set_option linter.unusedSimpArgs false
namespace Go.Proofs.YticcfbeocepnpaaGreatDoor
open Pl

/-- The counts of one entry added. -/
def mergeK (f : List (Ky × Ct)) (p : Ky × Ct) : List (Ky × Ct) := Mp.putM f p.1 ((cntAt f p.1).1 + p.2.1, (cntAt f p.1).2 + p.2.2)
def posC (f : List (Ky × Ct)) : Prop := ∀ p ∈ f, 0 ≤ p.2.1 ∧ 0 ≤ p.2.2
theorem cnt_pos {f : List (Ky × Ct)} (h : posC f) (x : Ky) : 0 ≤ (cntAt f x).1 ∧ 0 ≤ (cntAt f x).2 := by
  by_cases hx : x ∈ f.map (·.1)
  · exact h _ (cntAt_mem hx)
  · have : cntAt f x = (0, 0) := by
      unfold cntAt
      rw [Mp.getM_none (by rintro q hq rfl; exact hx (List.mem_map_of_mem hq))]; rfl
    rw [this]; exact ⟨by decide, by decide⟩
theorem memK_put {f : List (Ky × Ct)} {k : Ky} {c : Ct} {p : Ky × Ct} (h : p ∈ Mp.putM f k c) : p = (k, c) ∨ p ∈ f := by
  unfold Mp.putM at h
  split at h
  · obtain ⟨q, hq, rfl⟩ := List.mem_map.1 h
    split
    · exact .inl rfl
    · exact .inr hq
  · rcases List.mem_append.1 h with h | h
    · exact .inr h
    · exact .inl (List.mem_singleton.1 h)
theorem keys_put_mem {f : List (Ky × Ct)} (k : Ky) (c : Ct) (x : Ky) : x ∈ (Mp.putM f k c).map (·.1) ↔ x ∈ f.map (·.1) ∨ x = k := by
  unfold Mp.putM
  by_cases h : k ∈ f.map (·.1)
  · rw [if_pos h]
    have : (f.map (fun p => if p.1 = k then (k, c) else p)).map (·.1) = f.map (·.1) := by
      rw [List.map_map]
      apply List.map_congr_left
      intro p _
      simp only [Function.comp]
      split
      · rename_i e; exact e.symm
      · rfl
    rw [this]
    exact ⟨Or.inl, fun q => q.elim id (fun e => e ▸ h)⟩
  · rw [if_neg h]
    simp
theorem merge_inv : ∀ (ss f : List (Ky × Ct)), (f.map (·.1)).Nodup → posC f → posC ss →
    ((ss.foldl mergeK f).map (·.1)).Nodup ∧ posC (ss.foldl mergeK f) ∧ (∀ q, sumA Prod.fst q (ss.foldl mergeK f) = sumA Prod.fst q f + sumA Prod.fst q ss ∧ sumA Prod.snd q (ss.foldl mergeK f) = sumA Prod.snd q f + sumA Prod.snd q ss) ∧
      ∀ x, x ∈ (ss.foldl mergeK f).map (·.1) ↔ x ∈ f.map (·.1) ∨ x ∈ ss.map (·.1)
  | [], f, h1, h2, _ => ⟨h1, h2, fun q => by simp [sumA], fun x => by simp⟩
  | p :: r, f, h1, h2, h3 => by
    have hp := h3 p (by simp)
    have hc := cnt_pos h2 p.1
    have k1 : ((mergeK f p).map (·.1)).Nodup := keys_put _ _ h1
    have k2 : posC (mergeK f p) := by
      intro q hq
      rcases memK_put hq with rfl | hq
      · exact ⟨Int.add_nonneg hc.1 hp.1, Int.add_nonneg hc.2 hp.2⟩
      · exact h2 q hq
    obtain ⟨i1, i2, i3, i4⟩ := merge_inv r (mergeK f p) k1 k2 (fun q hq => h3 q (by simp [hq]))
    refine ⟨i1, i2, fun q => ?_, fun x => ?_⟩
    · have s1 := sumA_put Prod.fst rfl q p.1 ((cntAt f p.1).1 + p.2.1, (cntAt f p.1).2 + p.2.2) f h1
      have s2 := sumA_put Prod.snd rfl q p.1 ((cntAt f p.1).1 + p.2.1, (cntAt f p.1).2 + p.2.2) f h1
      rw [List.foldl_cons, (i3 q).1, (i3 q).2]
      unfold mergeK
      rw [s1, s2]
      simp only [sumA]
      constructor <;> (split <;> (try simp) <;> omega)
    · rw [List.foldl_cons, i4]
      unfold mergeK
      rw [keys_put_mem, List.map_cons, List.mem_cons, or_assoc]
theorem perm_of_cnt {f g : List (Ky × Ct)} (hf : (f.map (·.1)).Nodup) (hg : (g.map (·.1)).Nodup) (hk : ∀ x, x ∈ f.map (·.1) ↔ x ∈ g.map (·.1)) (hc : ∀ x ∈ f.map (·.1), cntAt f x = cntAt g x) : f.Perm g := by
  have hn : ∀ {l : List (Ky × Ct)}, (l.map (·.1)).Nodup → l.Nodup := fun {l} h => by
    rw [List.nodup_iff_pairwise_ne, List.pairwise_map] at h
    rw [List.nodup_iff_pairwise_ne]
    exact h.imp (fun h e => h (by rw [e]))
  have hv : ∀ {l : List (Ky × Ct)} {p}, (l.map (·.1)).Nodup → p ∈ l → cntAt l p.1 = p.2 := fun {l p} h hp => by
    unfold cntAt
    rw [Mp.getM_some h hp]; rfl
  refine (List.perm_ext_iff_of_nodup (hn hf) (hn hg)).2 fun p => ⟨fun hp => ?_, fun hp => ?_⟩
  · have hx : p.1 ∈ f.map (·.1) := List.mem_map.2 ⟨p, hp, rfl⟩
    have h1 := cntAt_mem ((hk _).1 hx)
    rwa [← hc _ hx, hv hf hp] at h1
  · have hx : p.1 ∈ f.map (·.1) := (hk _).2 (List.mem_map.2 ⟨p, hp, rfl⟩)
    have h1 := cntAt_mem hx
    rwa [hc _ hx, hv hg hp] at h1
theorem cnt_right {l : List Ev} (he : ∀ e ∈ l, e.err = 0) {x : Ky} (hx : rightK x) : cntAt (addEvs l) x = cntL l x := by
  have hs := one_foldl x hx l [] (by simp) he
  have e1 := sumA_one Prod.fst rfl x (addEvs l) (addEvs_nodup l)
  have e2 := sumA_one Prod.snd rfl x (addEvs l) (addEvs_nodup l)
  unfold addEvs at e1 e2 ⊢
  rw [hs.1] at e1
  rw [hs.2] at e2
  simp only [sumA] at e1 e2
  exact Prod.ext (by omega) (by omega)
theorem ofL_append (kind fro til : Int) (name : ByteArray) : ∀ (l r : List Ev), ofL kind name fro til (l ++ r) = ((ofL kind name fro til l).1 + (ofL kind name fro til r).1, (ofL kind name fro til l).2 + (ofL kind name fro til r).2)
  | [], r => by simp [ofL]
  | e :: l, r => by
    rw [List.cons_append, ofL_cons, ofL_cons, ofL_append kind fro til name l r]
    split <;> simp <;> omega
/-- Merged counts are those of both lists. -/
theorem merge_law {l r : List Ev} (hl : ∀ e ∈ l, e.err = 0 ∧ e.au.length = 16) (hr : ∀ e ∈ r, e.err = 0 ∧ e.au.length = 16) {ss : List (Ky × Ct)} (hss : ss.Perm (addEvs r)) (pl : posC (addEvs l)) (pr : posC (addEvs r)) :
    (ss.foldl mergeK (addEvs l)).Perm (addEvs (l ++ r)) := by
  have hlr : ∀ e ∈ l ++ r, e.err = 0 ∧ e.au.length = 16 := fun e h => (List.mem_append.1 h).elim (hl e) (hr e)
  obtain ⟨i1, i2, i3, i4⟩ := merge_inv ss (addEvs l) (addEvs_nodup l) pl (fun p hp => pr p (hss.mem_iff.1 hp))
  have hk : ∀ x, x ∈ (ss.foldl mergeK (addEvs l)).map (·.1) ↔ x ∈ (addEvs (l ++ r)).map (·.1) := by
    intro x
    rw [i4, (hss.map (·.1)).mem_iff, mem_keys, mem_keys, mem_keys]
    constructor
    · rintro (⟨e, h1, h2⟩ | ⟨e, h1, h2⟩)
      · exact ⟨e, by simp [h1], h2⟩
      · exact ⟨e, by simp [h1], h2⟩
    · rintro ⟨e, h1, h2⟩
      rcases List.mem_append.1 h1 with h1 | h1
      · exact .inl ⟨e, h1, h2⟩
      · exact .inr ⟨e, h1, h2⟩
  refine perm_of_cnt i1 (addEvs_nodup _) hk (fun x hx => ?_)
  have hrx : rightK x := by
    obtain ⟨e, hm, hke⟩ := mem_keys.1 ((hk x).1 hx)
    exact names_right (hlr e hm).1 (hlr e hm).2 hke
  have e1 := sumA_one Prod.fst rfl x _ i1
  have e2 := sumA_one Prod.snd rfl x _ i1
  have l1 := sumA_one Prod.fst rfl x (addEvs l) (addEvs_nodup l)
  have l2 := sumA_one Prod.snd rfl x (addEvs l) (addEvs_nodup l)
  have r1 := sumA_one Prod.fst rfl x (addEvs r) (addEvs_nodup r)
  have r2 := sumA_one Prod.snd rfl x (addEvs r) (addEvs_nodup r)
  rw [(i3 _).1, sumA_perm hss, l1, r1] at e1
  rw [(i3 _).2, sumA_perm hss, l2, r2] at e2
  rw [cnt_right (fun e h => (hl e h).1) hrx, cnt_right (fun e h => (hr e h).1) hrx] at e1 e2
  rw [cnt_right (fun e h => (hlr e h).1) hrx]
  unfold cntL at e1 e2 ⊢
  rw [ofL_append]
  exact Prod.ext e1.symm e2.symm

/-! The sizes. -/
def zSum (z y : List Int) (k : Nat) : List Int := (List.range 18).map fun i => if i < k then z.getD i 0 + y.getD i 0 else z.getD i 0
theorem zSum_length (z y : List Int) (k : Nat) : (zSum z y k).length = 18 := by simp [zSum]
theorem zSum_get (z y : List Int) (k : Nat) {i : Nat} (hi : i < 18) : (zSum z y k).getD i 0 = if i < k then z.getD i 0 + y.getD i 0 else z.getD i 0 := by
  rw [List.getD_eq_getElem?_getD, zSum, List.getElem?_map, List.getElem?_range hi]; rfl
theorem list18 {a b : List Int} (ha : a.length = 18) (hb : b.length = 18) (h : ∀ i, i < 18 → a.getD i 0 = b.getD i 0) : a = b := by
  apply List.ext_getElem?
  intro i
  by_cases hi : i < 18
  · have := h i hi
    rw [List.getD_eq_getElem?_getD, List.getD_eq_getElem?_getD, List.getElem?_eq_getElem (by omega), List.getElem?_eq_getElem (by omega)] at this
    rw [List.getElem?_eq_getElem (by omega), List.getElem?_eq_getElem (by omega)]
    exact congrArg some this
  · rw [List.getElem?_eq_none (by omega), List.getElem?_eq_none (by omega)]
theorem zSum_zero {z : List Int} (y : List Int) (hz : z.length = 18) : zSum z y 0 = z :=
  list18 (zSum_length _ _ _) hz fun i hi => by rw [zSum_get _ _ _ hi, if_neg (by omega)]
theorem zSum_succ (z y : List Int) {k : Nat} (hk : k < 18) : (zSum z y k).set k ((zSum z y k).getD k 0 + y.getD k 0) = zSum z y (k + 1) := by
  refine list18 (by rw [List.length_set, zSum_length]) (zSum_length _ _ _) fun i hi => ?_
  rw [zSum_get _ _ _ hi, List.getD_eq_getElem?_getD, zSum_get _ _ _ hk, if_neg (by omega)]
  by_cases h : k = i
  · subst h
    rw [List.getElem?_set_self (by rw [zSum_length]; exact hk), if_pos (by omega)]; rfl
  · rw [List.getElem?_set_ne h, ← List.getD_eq_getElem?_getD, zSum_get _ _ _ hi]
    by_cases h2 : i < k
    · rw [if_pos h2, if_pos (by omega)]
    · rw [if_neg h2, if_neg (by omega)]
theorem zAdd_get (z : List Int) (b : Int) (i : Nat) (hz : z.length = 18) (hi : i < 18) : (zAdd z b).getD i 0 = z.getD i 0 + if Lib.bitLen b.toNat = i then 1 else 0 := by
  unfold zAdd
  rw [List.getD_eq_getElem?_getD]
  by_cases h : Lib.bitLen b.toNat = i
  · rw [if_pos h, h, List.getElem?_set_self (by omega)]; rfl
  · rw [if_neg h, List.getElem?_set_ne h, ← List.getD_eq_getElem?_getD]; omega
theorem zFold_len : ∀ (r : List Ev) (z : List Int), (r.foldl (fun z e => zAdd z e.by_) z).length = z.length
  | [], z => rfl
  | e :: r, z => by rw [List.foldl_cons, zFold_len r]; simp [zAdd]
theorem zFold_get (i : Nat) (hi : i < 18) : ∀ (r : List Ev) (z y : List Int), z.length = 18 → y.length = 18 → (r.foldl (fun z e => zAdd z e.by_) z).getD i 0 - z.getD i 0 = (r.foldl (fun z e => zAdd z e.by_) y).getD i 0 - y.getD i 0
  | [], z, y, _, _ => by simp
  | e :: r, z, y, hz, hy => by
    have ih := zFold_get i hi r (zAdd z e.by_) (zAdd y e.by_) (by simp [zAdd, hz]) (by simp [zAdd, hy])
    rw [zAdd_get z _ i hz hi, zAdd_get y _ i hy hi] at ih
    rw [List.foldl_cons, List.foldl_cons]
    omega
theorem zOf_append (l r : List Ev) : zOf (l ++ r) = zSum (zOf l) (zOf r) 18 := by
  refine list18 (zOf_length _) (zSum_length _ _ _) fun i hi => ?_
  rw [zSum_get _ _ _ hi, if_pos hi]
  have := zFold_get i hi r (zOf l) (List.replicate 18 0) (zOf_length l) (by simp)
  have h0 : (List.replicate 18 (0 : Int)).getD i 0 = 0 := by
    rw [List.getD_eq_getElem?_getD, List.getElem?_replicate]; split <;> rfl
  rw [h0] at this
  have e1 : zOf (l ++ r) = r.foldl (fun z e => zAdd z e.by_) (zOf l) := by simp [zOf]
  have e2 : zOf r = r.foldl (fun z e => zAdd z e.by_) (List.replicate 18 0) := rfl
  rw [e1, e2]
  omega
end Go.Proofs.YticcfbeocepnpaaGreatDoor
set_option linter.unusedSimpArgs false
set_option maxRecDepth 100000
namespace Go.Proofs.YticcfbeocepnpaaGreatDoor
open Go.RowKit Go.Shelf Pl

theorem mclone_any (mb : Nat) (f : List (Ky × Ct)) (w : World) (h : CMap w mb f) :
    Calls Tryz.prog 46 #[.map (some mb)] w fun e w' => e = .returned (.map (some w.heap.size)) ∧ CMap w' w.heap.size f ∧ Below w.heap.size w w' ∧ w'.heap.size = w.heap.size + 1 := by
  obtain ⟨es, clock, hb, hm, hs, hok⟩ := h
  refine (AnyW.maps_Clone Tryz.clone mb es clock w hb).mono ?_
  rintro e w' ⟨rfl, rfl⟩
  exact ⟨rfl, ⟨es, clock, heap_alloc_new _ _, hm, hs, hok⟩, (Below.refl _ _).alloc (Nat.le_refl _) _, by simp⟩
theorem fold_stats (m : Nat) (zs : List Value) (h : zs.length = 18) :
    List.foldl (fun cs x => cs.setIfInBounds (1 + x.snd) x.fst) (#[.map (some m), .int .i64 0, .int .i64 0, .int .i64 0, .int .i64 0, .int .i64 0, .int .i64 0, .int .i64 0, .int .i64 0, .int .i64 0, .int .i64 0, .int .i64 0, .int .i64 0, .int .i64 0, .int .i64 0, .int .i64 0, .int .i64 0, .int .i64 0, .int .i64 0] : Array Value) zs.zipIdx = (.map (some m) :: zs).toArray := by
  have hcl : ∃ x0 x1 x2 x3 x4 x5 x6 x7 x8 x9 x10 x11 x12 x13 x14 x15 x16 x17, zs = [x0, x1, x2, x3, x4, x5, x6, x7, x8, x9, x10, x11, x12, x13, x14, x15, x16, x17] := by
    match zs, h with
    | [x0, x1, x2, x3, x4, x5, x6, x7, x8, x9, x10, x11, x12, x13, x14, x15, x16, x17], _ => exact ⟨x0, x1, x2, x3, x4, x5, x6, x7, x8, x9, x10, x11, x12, x13, x14, x15, x16, x17, rfl⟩
  obtain ⟨x0, x1, x2, x3, x4, x5, x6, x7, x8, x9, x10, x11, x12, x13, x14, x15, x16, x17, rfl⟩ := hcl
  simp [List.zipIdx]
set_option maxHeartbeats 2000000 in
/-- 'Clone'. -/
theorem sclone_any (sb mb : Nat) (f : List (Ky × Ct)) (z : List Int) (w : World) (h : SAt w sb mb f z) :
    Calls Tryz.prog 23 #[.pointer (some ⟨sb, 0, none⟩)] w fun e w' => ∃ sb2 mb2, e = .returned (.pointer (some ⟨sb2, 0, none⟩)) ∧ SAt w' sb2 mb2 f z ∧ Below w.heap.size w w' ∧ w.heap.size ≤ sb2 ∧ w.heap.size ≤ mb2 ∧ sb2 ≠ mb2 := by
  have hi : (Tryz.prog.info? 41).map (·.size) = some (z.map (Value.int .i64)).length := by rw [List.length_map, h.len]; rfl
  have hu : Tryz.prog.underlying 41 = some (.array 18 3) := Tryz.underlying41
  have hr : ∀ (w' : World) (s m : Nat) (f : List (Ky × Ct)), SAt w' s m f z → w'.rangeAt s 1 (z.map (Value.int .i64)) := fun w' s m f hs j v hv => by
    rw [cell_of_row w' s (1 + j) _ _ _ hs.blk, List.getElem?_toArray, Nat.add_comm, List.getElem?_cons_succ]; exact hv
  have HK : Hid (∀ w', Below w.heap.size w w' → w'.rangeAt sb 1 (z.map (Value.int .i64)) ∧ w'.cell? ⟨sb, 0, none⟩ = some (.map (some mb))) := hide fun w' hb => ⟨hr w' sb mb f (h.below hb), (h.below hb).c0⟩
  have HMC : Hid (∀ w', Below w.heap.size w w' → Calls Tryz.prog 46 #[.map (some mb)] w' fun e w'' => e = .returned (.map (some w'.heap.size)) ∧ CMap w'' w'.heap.size f ∧ w'.heap.size < w''.heap.size ∧ Below w.heap.size w w'') := hide fun w' hb =>
    (mclone_any mb f w' (h.below hb).map).mono (by rintro e w'' ⟨rfl, h1, h2, h3⟩; exact ⟨rfl, h1, by omega, hb.trans (h2.mono hb.size)⟩)
  have HLEN := hide h.len
  obtain ⟨zs, hzs⟩ : ∃ zs, z.map (Value.int .i64) = zs := ⟨_, rfl⟩
  rw [hzs] at hi HK
  have hzl : zs.length = 18 := by rw [← hzs, List.length_map, HLEN.out]
  have HZS := hide hzs
  clear h hr hzs
  go_enter Tryz.func23, Tryz.ntmps23
  go_upto_region 3 with fail
  go_region_held3 (fun w' => w'.rangeAt sb 1 zs ∧ w'.cell? ⟨sb, 0, none⟩ = some (.map (some mb)))
    (first | exact HK.out _ (Below.refl _ _).drew | exact HK.out _ (by assumption) | exact HK.out _ (below_al (by assumption) _))
    ((first
      | (go_at_call 46; refine (HMC.out _ ?_).mono ?_; (· (first | assumption | exact (Below.refl _ _).drew)); rintro e w4 ⟨rfl, hm4, hl4, hb4⟩)))
  have HM4 := hide hm4
  have HL4 := hide hl4
  have HB4 := hide hb4
  clear hm4 hl4 hb4
  rw [fold_stats _ zs hzl]
  go_wp2_with fail
  go_ret
  refine ⟨_, w.heap.size, rfl, ⟨?_, HM4.out.below ((Below.refl _ _).alloc (Nat.le_refl _) _), HLEN.out⟩, below_al HB4.out _, HB4.out.size, Nat.le_refl _, fun e => by have := HL4.out; simp at this; omega⟩
  rw [HZS.out]
  exact heap_alloc_new _ _
/-- The run of the merging loop. -/
structure MrgAt (w wr : World) (sb mb cb cm it : Nat) (f g : List (Ky × Ct)) (z y : List Int) (left ss : List (Ky × Ct)) : Prop where
  it : CIter wr cm it g left
  perm : g.Perm (ss ++ left)
  s : SAt wr sb mb (ss.foldl mergeK f) z
  o : SAt wr cb cm g y
  old : w.grownBy wr (some mb)
theorem iter_grown {w w' : World} {cm it : Nat} {g left : List (Ky × Ct)} {row : Option Nat} (h : CIter w cm it g left) (hg : w.grownBy w' row) (h1 : some cm ≠ row) (h2 : some it ≠ row) : CIter w' cm it g left :=
  h.of_blocks (hg.block cm h.lt.1 h1) (hg.block it h.lt.2.1 h2)

theorem cnt_le {f : List (Ky × Ct)} (h : posC f) (x : Ky) : (0 ≤ (cntAt f x).1 ∧ (cntAt f x).1 ≤ sumA Prod.fst (fun _ => true) f) ∧ 0 ≤ (cntAt f x).2 ∧ (cntAt f x).2 ≤ sumA Prod.snd (fun _ => true) f := by
  have hp := cnt_pos h x
  have r1 := sumA_range (g := Prod.fst) (q := fun _ => true) (f := f) (fun p hp => (h p hp).1)
  have r2 := sumA_range (g := Prod.snd) (q := fun _ => true) (f := f) (fun p hp => (h p hp).2)
  by_cases hx : x ∈ f.map (·.1)
  · have hm := cntAt_mem hx
    exact ⟨⟨hp.1, sumA_mem (g := Prod.fst) (fun p hp => (h p hp).1) hm⟩, hp.2, sumA_mem (g := Prod.snd) (fun p hp => (h p hp).2) hm⟩
  · have : cntAt f x = (0, 0) := by
      unfold cntAt
      rw [Mp.getM_none (by rintro q hq rfl; exact hx (List.mem_map_of_mem hq))]; rfl
    rw [this]
    exact ⟨⟨by decide, r1.1⟩, by decide, r2.1⟩
theorem SAt.setSize {w : World} {sb mb : Nat} {f : List (Ky × Ct)} {z : List Int} (h : SAt w sb mb f z) (j : Nat) (v : Int) : SAt (w.setCell ⟨sb, 1 + j, none⟩ (.int .i64 v)) sb mb f (z.set j v) := by
  refine ⟨?_, Mp.IsMap.of_block h.map (heap_setCell_other _ _ _ _ (fun e => h.ne e.symm)), by simp [h.len]⟩
  rw [heap_setCell_same w sb (1 + j) _ 72 (.int .i64 v) h.blk]
  congr 2
  apply Array.toList_inj.1
  rw [Array.toList_setIfInBounds]
  show List.set (Value.map (some mb) :: z.map (Value.int .i64)) (1 + j) _ = _
  rw [Nat.add_comm, List.set_cons_succ]
  simp [List.map_set]
/-- The counts on the way are not too many. -/
theorem merge_small {f g ss left : List (Ky × Ct)} (hf : Fits f 11200) (hg : Fits g 11200) (h : g.Perm (ss ++ left)) : posC (ss.foldl mergeK f) ∧ sumA Prod.fst (fun _ => true) (ss.foldl mergeK f) ≤ 22400 ∧ sumA Prod.snd (fun _ => true) (ss.foldl mergeK f) ≤ 65536 * 22400 := by
  have hps : posC ss := fun p hp => hg.pos p (h.mem_iff.2 (by simp [hp]))
  have hpl : posC left := fun p hp => hg.pos p (h.mem_iff.2 (by simp [hp]))
  obtain ⟨_, i2, i3, _⟩ := merge_inv ss f hf.nd hf.pos hps
  have s1 := sumA_perm (g := Prod.fst) (q := fun _ => true) h
  have s2 := sumA_perm (g := Prod.snd) (q := fun _ => true) h
  rw [sumA_append] at s1 s2
  have r1 := sumA_range (g := Prod.fst) (q := fun _ => true) (f := left) (fun p hp => (hpl p hp).1)
  have r2 := sumA_range (g := Prod.snd) (q := fun _ => true) (f := left) (fun p hp => (hpl p hp).2)
  have f1 := hf.le1
  have f2 := hf.le2
  have g1 := hg.le1
  have g2 := hg.le2
  refine ⟨i2, ?_, ?_⟩
  · rw [(i3 _).1]; omega
  · rw [(i3 _).2]; omega
set_option maxHeartbeats 8000000 in
/-- 'Merge'. -/
theorem smerge_any (sb mb ob om : Nat) (f g : List (Ky × Ct)) (z y : List Int) (w : World) (hs : SAt w sb mb f z) (ho : SAt w ob om g y) (hf : Fits f 11200) (hg : Fits g 11200) (hz : ∀ x ∈ z, 0 ≤ x ∧ x ≤ 100) (hy : ∀ x ∈ y, 0 ≤ x ∧ x ≤ 100) :
    Calls Tryz.prog 24 #[.pointer (some ⟨sb, 0, none⟩), .pointer (some ⟨ob, 0, none⟩)] w fun e w' => e = .returned (.int .i64 0) ∧ ∃ ss : List (Ky × Ct), ss.Perm g ∧ SAt w' sb mb (ss.foldl mergeK f) (zSum z y 18) ∧ But2 w w' sb mb := by
  have HS := hide hs
  have HO := hide ho
  have HF := hide hf
  have HG := hide hg
  have HZ := hide hz
  have HY := hide hy
  have hsm : sb < w.heap.size := hs.lt
  have hmm : mb < w.heap.size := hs.map.lt
  have hsbm := hs.ne
  have HT1 := hide (total_any sb mb f z w hs (hf.small (by decide)))
  obtain ⟨t1, t2, ht⟩ : ∃ t1 t2, sumM isTotal f = (t1, t2) := ⟨_, _, rfl⟩
  obtain ⟨u1, u2, hu⟩ : ∃ u1 u2, sumM isTotal g = (u1, u2) := ⟨_, _, rfl⟩
  have ht1 : 0 ≤ t1 ∧ t1 ≤ 11200 := by
    have h1 := sumA_range (g := Prod.fst) (q := isTotal) (f := f) (fun p hp => (hf.pos p hp).1)
    have h2 := hf.le1
    have h3 : sumA Prod.fst isTotal f = t1 := congrArg Prod.fst ht
    omega
  have hu1 : 0 ≤ u1 ∧ u1 ≤ 11200 := by
    have h1 := sumA_range (g := Prod.fst) (q := isTotal) (f := g) (fun p hp => (hg.pos p hp).1)
    have h2 := hg.le1
    have h3 : sumA Prod.fst isTotal g = u1 := congrArg Prod.fst hu
    omega
  obtain ⟨ht1, ht2⟩ := ht1
  obtain ⟨hu1, hu2⟩ := hu1
  rw [ht, cntV_mk] at HT1
  have hfd : ∀ (a b : Int) (w : World), (Instr.field 34 (.agg #[.int .i64 a, .int .i64 b]) 0).run Tryz.prog w = .ok (.int .i64 a) w := fun _ _ _ => by kernel_rfl
  have HU := hide hu
  clear hs ho hf hg hz hy ht hu
  go_enter Tryz.func24, Tryz.ntmps24
  go_wp2_with fail
  refine HT1.out.mono ?_
  rintro e w1 ⟨rfl, hb1⟩
  have HB1 : Hid (Below w.heap.size w w1) := hide hb1
  clear hb1
  have HT2 := hide (total_any ob om g y w1 (HO.out.below HB1.out) (HG.out.small (by decide)))
  rw [HU.out, cntV_mk] at HT2
  go_wp2_with fail
  refine HT2.out.mono ?_
  rintro e w2 ⟨rfl, hb2⟩
  have HB2 : Hid (Below w.heap.size w w2) := hide (HB1.out.trans (hb2.mono HB1.out.size))
  clear hb2
  have hwr : IntKind.i64.wrap (t1 + u1) = t1 + u1 := IntWalk.i64_in _ (by omega)
  go_wp2_with fail
  refine (sclone_any ob om g y w2 (HO.out.below HB2.out)).mono ?_
  rintro e w3 ⟨cb, cm, rfl, ho3, hb3, hcb, hcm, hcc⟩
  have HB3 : Hid (Below w.heap.size w w3) := hide (HB2.out.trans (hb3.mono HB2.out.size))
  have hcbw : w.heap.size ≤ cb := Nat.le_trans HB2.out.size hcb
  have hcmw : w.heap.size ≤ cm := Nat.le_trans HB2.out.size hcm
  have HO3 := hide ho3
  have HS3 := hide (HS.out.below HB3.out)
  have hc0 := ho3.c0
  clear hb3 ho3 hcb hcm hwr
  go_wp2_with (first | (at_range; refine Mp.wpList_range_is rfl _ _ rfl _ _ Tryz.underlying70 rfl HO3.out.map ?_; intro w0 hit hgr hsz))
  have hb0 : Below w3.heap.size w3 w0 := (Below.refl _ _).grown hgr (Nat.le_refl _) (by simp)
  have hcm3 : cm < w3.heap.size := HO3.out.map.lt
  have hcb3 : cb < w3.heap.size := HO3.out.lt
  have hb03 : w.heap.size ≤ w3.heap.size := HB3.out.size
  have HM0 : Hid (MrgAt w w0 sb mb cb cm w3.heap.size f g z y g []) := hide ⟨hit, List.Perm.refl _, HS3.out.below hb0, HO3.out.below hb0, grownBy_below (HB3.out.trans (hb0.mono HB3.out.size))⟩
  clear hit hgr hsz hb0 hc0
  go_frame
  go_loopw [] (fun wr => ∃ left ss, Hid (MrgAt w wr sb mb cb cm w3.heap.size f g z y left ss)) (fun wr => wr.rangeLeft cm w3.heap.size)
  case atStart => exact ⟨g, [], HM0⟩
  case round =>
    obtain ⟨left, ss, HM⟩ := hrel
    rcases HM.out.it.next (P := Tryz.prog) 0 with ⟨hl0, hrun⟩ | ⟨p, left', w4, hperm, hrun, hit1, hpf, hg1, hsz1, hen⟩
    · subst hl0
      have hperm : ss.Perm g := by have := HM.out.perm; rw [List.append_nil] at this; exact this.symm
      have HPERM := hide hperm
      obtain ⟨F, hF⟩ : ∃ F, ss.foldl mergeK f = F := ⟨_, rfl⟩
      have HSR : Hid (SAt wr sb mb F z) := hide (by rw [← hF]; exact HM.out.s)
      have HBLK := hide HM.out.o.blk
      have hyl := HM.out.o.len
      have HX : Hid (∀ (j : Nat) (v : Value), (y.map (Value.int .i64))[j]? = some v → ((.map (some cm) :: y.map (.int .i64)).toArray : Array Value)[1 + j]? = some v) := hide (by
        intro j v hv
        rw [List.getElem?_toArray, Nat.add_comm, List.getElem?_cons_succ]; exact hv)
      have HI : Hid ((Tryz.prog.info? 41).map (·.size) = some (y.map (Value.int .i64)).length) := hide (by rw [List.length_map, hyl]; rfl)
      have HIX : Hid (∀ (j : Nat), j < 18 → ∀ w', (Instr.index 41 (.agg (y.map (Value.int .i64)).toArray) (.int .i64 (j : Int))).run Tryz.prog w' = .ok (.int .i64 (y.getD j 0)) w') := hide fun j hj w' => run_index_i64 w' y j hj hyl
      have HB2w : Hid (But2 w wr sb mb) := hide ⟨HM.out.old.os, HM.out.old.tape, HM.out.old.output, HM.out.old.size, fun i hi _ h2 => HM.out.old.block i hi (fun e => h2 (Option.some.inj e))⟩
      have HFF := hide hF
      obtain ⟨zl, hzl⟩ : ∃ zl, y.map (Value.int .i64) = zl := ⟨_, rfl⟩
      rw [hzl] at HX HI HIX
      have HBLK2 : Hid (wr.heap[cb]? = some (.cells (.map (some cm) :: zl).toArray 72 (0, 0))) := hide (by rw [← hzl]; exact HBLK.out)
      clear hzl hF hperm hyl
      go_wp2_with (first | (refine wpList_load_off rfl 41 _ rfl cb 1 rfl _ _ _ _ _ HBLK2.out (fun j v hv => by have := HX.out j v hv; simpa using this) Tryz.underlying41 rfl HI.out ?_))
      obtain ⟨za, hza⟩ : ∃ za, zl.toArray = za := ⟨_, rfl⟩
      rw [hza] at HIX ⊢
      clear hza
      go_wp2_with fail
      obtain ⟨wo, rfl⟩ : ∃ wo : World, wo = wr := ⟨_, rfl⟩
      go_loopw [54] (fun i wl => ∃ (j : Nat), j ≤ 18 ∧ i = .int .i64 j ∧ Hid (SAt wl sb mb F (zSum z y j)) ∧ Hid (But2 w wl sb mb)) (fun i _ => 18 - (intOf i).toNat)
      case atStart => exact ⟨0, Nat.zero_le _, rfl, hide (by rw [zSum_zero y HSR.out.len]; exact HSR.out), HB2w⟩
      case round =>
        obtain ⟨j, hj, rfl, HSJ, HBJ⟩ := hrel
        by_cases hlj : j < 18
        · have hix := HIX.out j hlj
          obtain ⟨m, hm⟩ : ∃ m, y.getD j 0 = m := ⟨_, rfl⟩
          obtain ⟨q, hq⟩ : ∃ q, (zSum z y j).getD j 0 = q := ⟨_, rfl⟩
          have hql : j < (zSum z y j).length := by rw [zSum_length]; exact hlj
          have hq2 : (zSum z y j)[j]? = some q := by rw [← hq, List.getD_eq_getElem?_getD, List.getElem?_eq_getElem hql]; rfl
          have hrm : 0 ≤ m ∧ m ≤ 100 := by
            have hyl := HO.out.len
            have : y.getD j 0 ∈ y := by
              rw [List.getD_eq_getElem?_getD, List.getElem?_eq_getElem (by omega)]
              exact List.getElem_mem _
            rw [hm] at this
            exact HY.out m this
          have hrq : 0 ≤ q ∧ q ≤ 100 := by
            rw [zSum_get z y j hlj, if_neg (by omega)] at hq
            have hzl := HS.out.len
            have : z.getD j 0 ∈ z := by
              rw [List.getD_eq_getElem?_getD, List.getElem?_eq_getElem (by omega)]
              exact List.getElem_mem _
            rw [hq] at this
            exact HZ.out q this
          obtain ⟨hrm1, hrm2⟩ := hrm
          obtain ⟨hrq1, hrq2⟩ := hrq
          have HZS : Hid ((zSum z y j).set j (q + m) = zSum z y (j + 1)) := hide (by rw [← zSum_succ z y hlj, hq, hm])
          rw [hm] at hix
          have hj0 : (0 : Int) ≤ (j : Int) := by omega
          have hj18 : (j : Int) < 18 := by omega
          have c7 : wr.cell? ⟨sb, 1 + j, none⟩ = some (.int .i64 q) := (cell_of_row wr sb (1 + j) _ _ _ HSJ.out.blk).trans (by rw [List.getElem?_toArray, Nat.add_comm, List.getElem?_cons_succ, List.getElem?_map, hq2]; rfl)
          have c8 : wr.frozen? ⟨sb, 1 + j, none⟩ = false := frozen_of_row wr sb (1 + j) _ _ HSJ.out.blk
          have hwq : IntKind.i64.wrap (q + m) = q + m := IntWalk.i64_in _ (by omega)
          clear hq hq2 hm hql
          go_upto_region 13 with fail
          go_region
          all_goals
            have HSN : Hid (SAt ((wr.setCell ⟨sb, 1 + j, none⟩ (.int .i64 (q + m))).drew) sb mb F (zSum z y (j + 1))) := hide (by
              have := HSJ.out.setSize j (q + m)
              rw [HZS.out] at this
              exact ⟨this.blk, this.map, this.len⟩)
            have HBN : Hid (But2 w ((wr.setCell ⟨sb, 1 + j, none⟩ (.int .i64 (q + m))).drew) sb mb) := hide (by
              have := HBJ.out.setCell (1 + j) (.int .i64 (q + m))
              exact ⟨this.os, this.tape, this.output, this.size, this.block⟩)
            go_wp2_with fail
            go_roundw
            case rel => exact ⟨j + 1, by omega, by go_num, HSN, HBN⟩
            case measure => simp [intOf]; omega
        · obtain rfl : j = 18 := by omega
          go_wp2_with fail
          go_ret
          exact ⟨rfl, ss, HPERM.out, by rw [HFF.out]; exact HSJ.out, HBJ.out⟩
    · have HPERM := hide hperm
      have HIT := hide hit1
      have hitl := HM.out.it.lt
      obtain ⟨hit2, hit3, hit4⟩ := hitl
      have HS4 : Hid (SAt w4 sb mb (ss.foldl mergeK f) z) := hide (HM.out.s.other hg1 (fun e => by have := Option.some.inj e; omega) (fun e => by have := Option.some.inj e; omega))
      have HO4 : Hid (SAt w4 cb cm g y) := hide (HM.out.o.other hg1 (fun e => by have := Option.some.inj e; omega) (fun e => by have := Option.some.inj e; omega))
      have HG4 := hide hg1
      have HKEY := hide (keyOk_of HM.out.o.map _ hpf)
      have hpp := HG.out.pos _ hpf
      have hps1 := sumA_mem (g := Prod.fst) (fun p hp => (HG.out.pos p hp).1) hpf
      have hps2 := sumA_mem (g := Prod.snd) (fun p hp => (HG.out.pos p hp).2) hpf
      have hg1' := HG.out.le1
      have hg2' := HG.out.le2
      obtain ⟨hm1, hm2, hm3⟩ := merge_small HF.out HG.out HM.out.perm
      have HSS : Hid ((ss ++ [p]).foldl mergeK f = mergeK (ss.foldl mergeK f) p) := hide (by rw [List.foldl_append]; rfl)
      have HSZ1 := hide hsz1
      have hw4 : w3.heap.size < w4.heap.size := by rw [hsz1]; exact hit3
      obtain ⟨F, hF⟩ : ∃ F, ss.foldl mergeK f = F := ⟨_, rfl⟩
      rw [hF] at HS4 HSS hm1 hm2 hm3
      obtain ⟨⟨d, k, x⟩, a, b⟩ := p
      obtain ⟨⟨c1, c2⟩, hc⟩ : ∃ c, cntAt F (d, k, x) = c := ⟨_, rfl⟩
      have hcl := cnt_le hm1 (d, k, x)
      rw [hc] at hcl
      simp only at hpp hps1 hps2 hcl
      obtain ⟨⟨b1, b2⟩, b3, b4⟩ := hcl
      obtain ⟨b5, b6⟩ := hpp
      have e1 : c1 ≤ 22400 := Int.le_trans b2 hm2
      have e2 : c2 ≤ 65536 * 22400 := Int.le_trans b4 hm3
      have e3 : a ≤ 11200 := Int.le_trans hps1 hg1'
      have e4 : b ≤ 65536 * 11200 := Int.le_trans hps2 hg2'
      rw [keyV_mk, cntV_mk] at hen hrun
      obtain ⟨W, hW⟩ : ∃ W, W = (w4.alloc (.cells #[.int .i64 d, .int .i64 k, .string x] 64)).alloc (.cells #[.int .i64 a, .int .i64 b] 34) := ⟨_, rfl⟩
      have HW : Hid (Below w4.heap.size w4 W) := hide (by rw [hW]; (repeat (first | exact Below.refl _ _ | with_reducible assumption | (refine Below.setCell ?_ (by simp <;> omega) _) | (refine Below.alloc ?_ (by simp <;> omega) _))))
      have HSW := hide (HS4.out.below HW.out)
      have k1 : W.cell? ⟨w4.heap.size, 0, none⟩ = some (.int .i64 d) := by rw [hW]; simp [go_sem]
      have k2 : W.cell? ⟨w4.heap.size, 1, none⟩ = some (.int .i64 k) := by rw [hW]; simp [go_sem]
      have k3 : W.cell? ⟨w4.heap.size, 2, none⟩ = some (.string x) := by rw [hW]; simp [go_sem]
      have p1 : W.cell? ⟨w4.heap.size + 1, 0, none⟩ = some (.int .i64 a) := by rw [hW]; simp [go_sem]
      have p2 : W.cell? ⟨w4.heap.size + 1, 1, none⟩ = some (.int .i64 b) := by rw [hW]; simp [go_sem]
      have p3 : W.cell? ⟨sb, 0, none⟩ = some (.map (some mb)) := HSW.out.c0
      have HL : Hid ((Instr.lookup 70 (.map (some mb)) (.agg #[.int .i64 d, .int .i64 k, .string x]) false).run Tryz.prog W.drew = .ok (.agg #[.int .i64 c1, .int .i64 c2]) W.drew) := hide (by
        have := lookup_cnt (w := W.drew) (Mp.IsMap.below HSW.out.map ⟨rfl, rfl, rfl, Nat.le_refl _, fun _ _ => rfl⟩) HKEY.out
        rw [hc] at this; exact this)
      have HP : Hid (Calls Tryz.prog 47 #[.agg #[.int .i64 c1, .int .i64 c2], .agg #[.int .i64 a, .int .i64 b]] W.drew fun e w' => e = .returned (.agg #[.int .i64 (c1 + a), .int .i64 (c2 + b)]) ∧ Below W.drew.heap.size W.drew w') :=
        hide (plus_any c1 c2 a b W.drew (by omega) (by omega) (by omega) (by omega))
      have HU2 : Hid (∀ w3, Below W.drew.heap.size W.drew w3 → (Instr.mapUpdate 70 (.map (some mb)) (.agg #[.int .i64 d, .int .i64 k, .string x]) (.agg #[.int .i64 (c1 + a), .int .i64 (c2 + b)])).run Tryz.prog w3 = .ok () (updW w3 mb (keyV (d, k, x)) (cntV (c1 + a, c2 + b)))
          ∧ CMap (updW w3 mb (keyV (d, k, x)) (cntV (c1 + a, c2 + b))) mb (mergeK F ((d, k, x), a, b)) ∧ w3.grownBy (updW w3 mb (keyV (d, k, x)) (cntV (c1 + a, c2 + b))) (some mb)) := hide fun w3 hb => by
        have h := updW_run (Mp.IsMap.below HSW.out.map ((Below.refl _ _).drew.trans hb)) HKEY.out (c1 + a, c2 + b)
        unfold mergeK
        simp only
        rw [hc]
        exact h
      have HSf : Hid (∀ w3, Below W.drew.heap.size W.drew w3 → w3.cell? ⟨w4.heap.size, 0, none⟩ = some (.int .i64 d) ∧ w3.cell? ⟨w4.heap.size, 1, none⟩ = some (.int .i64 k) ∧ w3.cell? ⟨w4.heap.size, 2, none⟩ = some (.string x) ∧
          w3.cell? ⟨w4.heap.size + 1, 0, none⟩ = some (.int .i64 a) ∧ w3.cell? ⟨w4.heap.size + 1, 1, none⟩ = some (.int .i64 b) ∧ w3.cell? ⟨sb, 0, none⟩ = some (.map (some mb))) := hide fun w3 hb =>
        ⟨(hb.cell (block_lt_of_cell k1)).trans k1, (hb.cell (block_lt_of_cell k2)).trans k2, (hb.cell (block_lt_of_cell k3)).trans k3, (hb.cell (block_lt_of_cell p1)).trans p1, (hb.cell (block_lt_of_cell p2)).trans p2, (hb.cell (block_lt_of_cell p3)).trans p3⟩
      have HSg : Hid (∀ w3, Below W.drew.heap.size W.drew w3 → (updW w3 mb (keyV (d, k, x)) (cntV (c1 + a, c2 + b))).cell? ⟨w4.heap.size, 0, none⟩ = some (.int .i64 d) ∧ (updW w3 mb (keyV (d, k, x)) (cntV (c1 + a, c2 + b))).cell? ⟨w4.heap.size, 1, none⟩ = some (.int .i64 k) ∧ (updW w3 mb (keyV (d, k, x)) (cntV (c1 + a, c2 + b))).cell? ⟨w4.heap.size, 2, none⟩ = some (.string x) ∧
          (updW w3 mb (keyV (d, k, x)) (cntV (c1 + a, c2 + b))).cell? ⟨w4.heap.size + 1, 0, none⟩ = some (.int .i64 a) ∧ (updW w3 mb (keyV (d, k, x)) (cntV (c1 + a, c2 + b))).cell? ⟨w4.heap.size + 1, 1, none⟩ = some (.int .i64 b) ∧ (updW w3 mb (keyV (d, k, x)) (cntV (c1 + a, c2 + b))).cell? ⟨sb, 0, none⟩ = some (.map (some mb))) := hide fun w3 hb => by
        obtain ⟨q1, q2, q3, q4, q5, q6⟩ := HSf.out w3 hb
        have hg := (HU2.out w3 hb).2.2
        have hm3 : CMap w3 mb F := Mp.IsMap.below HSW.out.map ((Below.refl _ _).drew.trans hb)
        have go : ∀ {b' o v}, w3.cell? ⟨b', o, none⟩ = some v → (updW w3 mb (keyV (d, k, x)) (cntV (c1 + a, c2 + b))).cell? ⟨b', o, none⟩ = some v := fun {b' o v} h =>
          (cell_grown hg (block_lt_of_cell h) (by have := not_map_block hm3 h; simpa using this)).trans h
        exact ⟨go q1, go q2, go q3, go q4, go q5, go q6⟩
      have HWW := hide hW
      clear hW hc hps1 hps2 hg1' hg2' hm1 hm2 hm3 b2 b4 hpf hperm hit1 hg1 hsz1 e1 e2 e3 e4
      go_upto_region 9 with fail
      rw [← HWW.out]
      have hl := HL.out
      go_region_held3 (fun w' => w'.cell? ⟨w4.heap.size, 0, none⟩ = some (.int .i64 d) ∧ w'.cell? ⟨w4.heap.size, 1, none⟩ = some (.int .i64 k) ∧ w'.cell? ⟨w4.heap.size, 2, none⟩ = some (.string x) ∧
          w'.cell? ⟨w4.heap.size + 1, 0, none⟩ = some (.int .i64 a) ∧ w'.cell? ⟨w4.heap.size + 1, 1, none⟩ = some (.int .i64 b) ∧ w'.cell? ⟨sb, 0, none⟩ = some (.map (some mb)))
        (first | exact ⟨k1, k2, k3, p1, p2, p3⟩ | exact HSf.out _ (by assumption) | exact HSg.out _ (by assumption) | exact HSf.out _ (Below.refl _ _))
        ((first | (go_at_call 47; refine HP.out.mono ?_; rintro e w5 ⟨rfl, hb5⟩; have hmu := (HU2.out w5 hb5).1)))
      have hu := HU2.out w5 hb5
      have hbW : Below W.heap.size W w5 := (Below.refl _ _).drew.trans hb5
      have h45 : Below w4.heap.size w4 w5 := HW.out.trans (hbW.mono HW.out.size)
      obtain ⟨W6, hW6⟩ : ∃ W6, updW w5 mb (keyV (d, k, x)) (cntV (c1 + a, c2 + b)) = W6 := ⟨_, rfl⟩
      rw [hW6] at hu
      have hall : w4.grownBy W6 (some mb) := (grownBy_below h45).trans hu.2.2
      have HM6 : Hid (MrgAt w W6 sb mb cb cm w3.heap.size f g z y left' (ss ++ [((d, k, x), a, b)])) := hide (by
        refine ⟨iter_grown HIT.out hall (fun e => by have := Option.some.inj e; omega) (fun e => by have := Option.some.inj e; omega), ?_, ?_, HO4.out.other hall (fun e => by have := Option.some.inj e; omega) (fun e => by have := Option.some.inj e; omega), ?_⟩
        · refine HM.out.perm.trans ?_
          rw [List.append_assoc]
          exact List.Perm.append_left ss HPERM.out
        · rw [HSS.out]
          exact ⟨(hall.block sb HS4.out.lt (fun e => by have := Option.some.inj e; omega)).trans HS4.out.blk, hu.2.1, HS4.out.len⟩
        · have h0 := HM.out.old
          have hg4 := HG4.out
          exact ⟨hall.os.trans (hg4.os.trans h0.os), hall.tape.trans (hg4.tape.trans h0.tape), hall.output.trans (hg4.output.trans h0.output), Nat.le_trans h0.size (Nat.le_trans hg4.size hall.size), fun i hi hne =>
            (hall.block i (by have := h0.size; have := hg4.size; omega) hne).trans ((hg4.block i (by have := h0.size; omega) (fun e => by have := Option.some.inj e; omega)).trans (h0.block i hi hne))⟩)
      have HHU := hide hu
      clear hu hbW h45 hl hb5 hall
      go_wp2_with fail
      rw [hW6]
      go_roundw
      case rel => exact ⟨left', _, HM6⟩
      case measure => rw [HM6.out.it.left_eq, HM.out.it.left_eq, HPERM.out.length_eq]; simp
end Go.Proofs.YticcfbeocepnpaaGreatDoor
