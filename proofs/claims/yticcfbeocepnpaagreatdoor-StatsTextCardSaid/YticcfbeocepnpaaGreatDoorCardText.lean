/-
  For every list of events and every day, bulletinlaw52.StatsText returns true and leaves its arguments as they were; the listed tables of math/bits, internal/strconv and unicode/utf8 and the two errors of strconv are tied to the program's text by the given tie.
-/
import Derived.Test.YticcfbeocepnpaaGreatDoorParse
import Derived.Test.YticcfbeocepnpaaGreatDoorCut
import Derived.Test.YticcfbeocepnpaaGreatDoorLawOrder
import Derived.Test.YticcfbeocepnpaaGreatDoorTextM
import Derived.Test.YticcfbeocepnpaaGreatDoorEq
import Derived.Test.YticcfbeocepnpaaGreatDoorRowC
import Derived.Test.YticcfbeocepnpaaGreatDoorTie
import Derived.Test.YticcfbeocepnpaaGreatDoorCards
import Derived.SevenTiedAt
set_option linter.unusedSimpArgs false
namespace Go.Proofs.YticcfbeocepnpaaGreatDoor
open Pl

/-! Names hold neither a space nor a line feed. -/
theorem partsL_mem (c : UInt8) : ∀ (l : List UInt8) (b : UInt8), b ∈ l → b = c ∨ ∃ p ∈ partsL c l, b ∈ p
  | [], b, h => by cases h
  | x :: r, b, h => by
    by_cases hx : x = c
    · rcases List.mem_cons.1 h with rfl | h
      · exact .inl hx
      · rcases partsL_mem c r b h with h1 | ⟨p, hp, hb⟩
        · exact .inl h1
        · exact .inr ⟨p, by rw [partsL, if_pos hx]; exact List.mem_cons_of_mem _ hp, hb⟩
    · rw [partsL, if_neg hx]
      cases hr : partsL c r with
      | nil => exact absurd hr (partsL_ne c r)
      | cons q t =>
        rcases List.mem_cons.1 h with rfl | h
        · exact .inr ⟨b :: q, by simp, by simp⟩
        · rcases partsL_mem c r b h with h1 | ⟨p, hp, hb⟩
          · exact .inl h1
          · rw [hr] at hp
            rcases List.mem_cons.1 hp with rfl | hp
            · exact .inr ⟨x :: p, by simp, by simp [hb]⟩
            · exact .inr ⟨p, by simp [hp], hb⟩
theorem clear_group {l : List UInt8} (h : chkL l = 0) : Clear l := by
  intro b hb
  unfold chkL at h
  split at h
  · cases h
  · split at h
    · rename_i ha
      rcases partsL_mem 46 l b hb with rfl | ⟨p, hp, hbp⟩
      · decide
      · have hc := List.all_eq_true.1 ha p hp
        unfold compL at hc
        simp only [Bool.and_eq_true] at hc
        have hq := permN_true (List.all_eq_true.1 hc.2 b hbp)
        constructor <;> (rintro rfl; revert hq; decide)
    · cases h
theorem clear_site {l : List UInt8} (h : (siteL l).2 = 0) : Clear l := by
  intro b hb
  unfold siteL at h
  split at h
  · cases h
  · split at h
    · cases h
    · split at h
      · cases h
      · rename_i hf
        obtain ⟨j, hj⟩ := List.getElem?_of_mem hb
        have hjl := (List.getElem?_eq_some_iff.1 hj).1
        unfold firstAt at hf
        rw [List.find?_eq_none] at hf
        have := hf j (by simpa using hjl)
        simp only [Bool.not_eq_true', Bool.not_eq_false] at this
        have hq := sitePermN_true this
        have e : atN l j = b.toNat := by unfold atN; rw [List.getD_eq_getElem?_getD, hj]; rfl
        rw [e] at hq
        constructor <;> (rintro rfl; revert hq; decide)
theorem clear_hex (au : List UInt8) : Clear (hexL au) := by
  intro b hb
  obtain ⟨x, _, hx⟩ := List.mem_flatMap.1 hb
  have hd : ∀ q, q < 16 → hexD.getD q 0 ≠ 32 ∧ hexD.getD q 0 ≠ 10 := by decide
  have h1 : x.toNat / 16 < 16 := by have := x.toNat_lt; omega
  have h2 : x.toNat % 16 < 16 := by omega
  unfold hexB at hx
  simp only [List.mem_cons, List.not_mem_nil, or_false] at hx
  rcases hx with rfl | rfl
  · exact hd _ h1
  · exact hd _ h2
theorem name_ok {e : Ev} (h : e.err = 0) (ha : e.au.length = 16) {k : Nat} (h1 : 1 ≤ k) (h3 : k ≤ 3) {x : ByteArray} (hx : x ∈ namesOf e (k : Int)) : NameOk k x := by
  obtain ⟨_, _, hg, hs⟩ := err_parts h
  have hk : k = 1 ∨ k = 2 ∨ k = 3 := by omega
  unfold namesOf at hx
  rcases hk with rfl | rfl | rfl
  · exact .inl ⟨rfl, hg x (by simpa using hx)⟩
  · exact .inr (.inl ⟨rfl, hs x (by simpa using hx)⟩)
  · refine .inr (.inr ⟨rfl, e.au, ha, ?_⟩)
    have : x = e.auth := by simpa using hx
    rw [this]; rfl
theorem nameOk_clear {k : Nat} {x : ByteArray} (h : NameOk k x) : Clear x.data.toList := by
  rcases h with ⟨_, h⟩ | ⟨_, h⟩ | ⟨_, au, _, rfl⟩
  · exact clear_group h
  · exact clear_site h
  · exact clear_hex au

/-! What is counted. -/
def CntOk (c : Ct) : Prop := 1 ≤ c.1 ∧ 0 ≤ c.2 ∧ c.2 ≤ c.1 * 65536
theorem cntAt_or {f : List (Ky × Ct)} (h : ∀ p ∈ f, CntOk p.2) (k : Ky) : CntOk (cntAt f k) ∨ cntAt f k = (0, 0) := by
  unfold cntAt
  cases hg : Mp.getM f k with
  | none => exact .inr rfl
  | some c => exact .inl (h _ (getM_mem hg))
theorem addK_cnt {f : List (Ky × Ct)} (h : ∀ p ∈ f, CntOk p.2) (k : Ky) {b : Int} (h1 : 0 ≤ b) (h2 : b ≤ 65536) : ∀ p ∈ addK f k b, CntOk p.2 := by
  intro p hp
  rcases mem_put hp with rfl | hp
  · have := cntAt_or h k
    unfold CntOk at this ⊢
    rcases this with ⟨a1, a2, a3⟩ | e
    · show 1 ≤ (cntAt f k).1 + 1 ∧ 0 ≤ (cntAt f k).2 + b ∧ (cntAt f k).2 + b ≤ ((cntAt f k).1 + 1) * 65536
      omega
    · show 1 ≤ (cntAt f k).1 + 1 ∧ 0 ≤ (cntAt f k).2 + b ∧ (cntAt f k).2 + b ≤ ((cntAt f k).1 + 1) * 65536
      rw [e]; simp only; omega
  · exact h p hp
theorem addKs_cnt {b : Int} (h1 : 0 ≤ b) (h2 : b ≤ 65536) : ∀ (ks : List Ky) (f : List (Ky × Ct)), (∀ p ∈ f, CntOk p.2) → ∀ p ∈ addKs f ks b, CntOk p.2
  | [], f, h => h
  | k :: r, f, h => by
    have := addKs_cnt h1 h2 r (addK f k b) (addK_cnt h k h1 h2)
    simpa [addKs] using this
theorem addEvs_cnt (l : List Ev) (he : ∀ e ∈ l, e.err = 0) : ∀ p ∈ addEvs l, CntOk p.2 := by
  have go : ∀ (l : List Ev) (f : List (Ky × Ct)), (∀ e ∈ l, e.err = 0) → (∀ p ∈ f, CntOk p.2) → ∀ p ∈ l.foldl addEv f, CntOk p.2 := by
    intro l
    induction l with
    | nil => intro f _ h; exact h
    | cons e r ih =>
      intro f he h
      have hb := evErr_bytes (he e (by simp))
      exact ih _ (fun x hx => he x (by simp [hx])) (addKs_cnt hb.1 hb.2 _ _ h)
  exact go l [] he (by simp)

/-! The lines. -/
def sizeLns (z : List Int) : Nat → List Ln
  | 0 => []
  | k + 1 => if 0 < z.getD k 0 then sizeLns z k ++ [.size k (z.getD k 0).toNat] else sizeLns z k
def keyLns (f : List (Ky × Ct)) (ks : List Ky) : List Ln := ks.map fun x => .key x (cntAt f x)
theorem keyLns_line (f : List (Ky × Ct)) (ks : List Ky) : (keyLns f ks).map Ln.line = ks.map fun x => keyLine x (cntAt f x) := by
  unfold keyLns; rw [List.map_map]; rfl
theorem sizeLns_line (z : List Int) : ∀ k, (sizeLns z k).map Ln.line = sizeLines z k
  | 0 => rfl
  | k + 1 => by
    rw [sizeLns, sizeLines]
    split
    · rw [List.map_append, sizeLns_line z k]
      congr 1
    · exact sizeLns_line z k
theorem okAll_append : ∀ (a b : List Ln) (s : PS), OkAll s (a ++ b) ↔ OkAll s a ∧ OkAll (a.foldl PS.step s) b
  | [], b, s => by simp [OkAll]
  | x :: r, b, s => by
    rw [List.cons_append, OkAll, OkAll, List.foldl_cons, okAll_append r b, and_assoc]
/-- What is behind the sizes below k. -/
theorem size_state (z : List Int) (hz : ∀ x ∈ z, 0 ≤ x ∧ x ≤ 1000000) (hl : z.length = 18) (s : PS) (hs : s.sz = -1) (h0 : s.z = List.replicate 18 0) : ∀ k, k ≤ 18 → OkAll s (sizeLns z k) ∧
    ((sizeLns z k).foldl PS.step s).sz < k ∧ ((sizeLns z k).foldl PS.step s).F = s.F ∧ ((sizeLns z k).foldl PS.step s).z = z.take k ++ List.replicate (18 - k) 0
  | 0, _ => by simp [sizeLns, OkAll, hs, h0]
  | k + 1, hk => by
    obtain ⟨i1, i2, i3, i4⟩ := size_state z hz hl s hs h0 k (by omega)
    have hkl : k < z.length := by omega
    have hx : z.getD k 0 ∈ z := by
      rw [List.getD_eq_getElem?_getD, List.getElem?_eq_getElem hkl]
      exact List.getElem_mem _
    have hr := hz _ hx
    have hg : z[k] = z.getD k 0 := by rw [List.getD_eq_getElem?_getD, List.getElem?_eq_getElem hkl]; rfl
    have ht : z.take (k + 1) = z.take k ++ [z.getD k 0] := by rw [List.take_succ_eq_append_getElem hkl, hg]
    have hrep : List.replicate (18 - k) (0 : Int) = 0 :: List.replicate (18 - (k + 1)) 0 := by
      rw [show 18 - k = (18 - (k + 1)) + 1 by omega, List.replicate_succ]
    rw [sizeLns]
    by_cases hp : 0 < z.getD k 0
    · rw [if_pos hp]
      have hn : (((z.getD k 0).toNat : Nat) : Int) = z.getD k 0 := by omega
      refine ⟨(okAll_append _ _ _).2 ⟨i1, ⟨by omega, by omega, by omega, i2⟩, trivial⟩, ?_, ?_, ?_⟩
      · rw [List.foldl_append]; show (k : Int) < _; omega
      · rw [List.foldl_append]; exact i3
      · rw [List.foldl_append]
        show (((sizeLns z k).foldl PS.step s).z).set k (((z.getD k 0).toNat : Nat) : Int) = _
        rw [i4, hn, ht, hrep, List.set_append_right _ _ (by rw [List.length_take]; omega), List.length_take, show k - min k z.length = 0 by omega, List.set_cons_zero, List.append_assoc]
        rfl
    · rw [if_neg hp]
      have hz0 : z.getD k 0 = 0 := by omega
      refine ⟨i1, by omega, i3, ?_⟩
      rw [i4, ht, hz0, hrep, List.append_assoc]
      rfl

/-! The keys. -/
/-- A name follows its day. -/
def Chain : Bool → Ky → List Ky → Prop
  | _, _, [] => True
  | any, last, k :: r => (k.2.1 = 0 ∨ (any = true ∧ last.1 = k.1)) ∧ Chain true k r
/-- What a line of a key says can be read. -/
def KeyGood (f : List (Ky × Ct)) (k : Ky) : Prop := keyOk k ∧ k.2.2.size ≤ 80 ∧ (∃ d : Nat, k.1 = (d : Int) ∧ d ≤ 73048) ∧ (∃ a b : Nat, cntAt f k = ((a : Int), (b : Int)) ∧ 1 ≤ a ∧ a ≤ 1000000 ∧ b ≤ a * 65536 ∧ b < 10000000000) ∧
  ((k.2.1 = 0 ∧ k.2.2 = ⟨#[]⟩) ∨ ∃ kd : Nat, 1 ≤ kd ∧ kd ≤ 3 ∧ k.2.1 = (kd : Int) ∧ NameOk kd k.2.2)
theorem key_state (f : List (Ky × Ct)) : ∀ (ks : List Ky) (s : PS), s.sz = -1 → (s.any = true → ∀ k ∈ ks, cmpK s.last k < 0) → (∀ k ∈ ks, k ∉ s.F.map (·.1)) → ks.Pairwise (fun a b => cmpK a b < 0) → Chain s.any s.last ks → (∀ k ∈ ks, KeyGood f k) →
    OkAll s (keyLns f ks) ∧ ((keyLns f ks).foldl PS.step s).sz = -1 ∧ ((keyLns f ks).foldl PS.step s).z = s.z ∧ ((keyLns f ks).foldl PS.step s).F = s.F ++ ks.map (fun x => (x, cntAt f x))
  | [], s, h1, _, _, _, _, _ => ⟨trivial, h1, rfl, by simp [keyLns]⟩
  | k :: r, s, h1, h2, h3, h4, h5, h6 => by
    rw [List.pairwise_cons] at h4
    obtain ⟨c1, c2⟩ := h5
    obtain ⟨i1, i2, i3, i4⟩ := key_state f r (s.step (.key k (cntAt f k))) rfl (fun _ x hx => h4.1 x hx) (by
      intro x hx hm
      have hm2 : x ∈ (s.F ++ [(k, cntAt f k)]).map (·.1) := hm
      rw [List.map_append, List.mem_append] at hm2
      rcases hm2 with hm2 | hm2
      · exact h3 x (by simp [hx]) hm2
      · have : x = k := by simpa using hm2
        exact cmp_ne (h4.1 x hx) this.symm) h4.2 c2 (fun x hx => h6 x (by simp [hx]))
    refine ⟨⟨?_, i1⟩, i2, i3, ?_⟩
    · obtain ⟨g1, g2, g3, g4, g5⟩ := h6 k (by simp)
      refine ⟨h1, fun ha => h2 ha k (by simp), h3 k (by simp), g1, ?_, g2, g3, g4, ?_⟩
      · rcases g5 with ⟨_, e⟩ | ⟨kd, _, _, _, hn⟩
        · rw [e]; exact Clear.nil
        · exact nameOk_clear hn
      · rcases g5 with h | ⟨kd, a1, a2, a3, hn⟩
        · exact .inl h
        · rcases c1 with h | ⟨h, h'⟩
          · exfalso; omega
          · exact .inr ⟨h, h', kd, a1, a2, a3, hn⟩
    · show (((keyLns f r).foldl PS.step (s.step (.key k (cntAt f k)))).F) = _
      rw [i4]
      show (s.F ++ [(k, cntAt f k)]) ++ _ = _
      simp
theorem chain_group {d : Int} : ∀ (ms R : List Ky) (last : Ky), last.1 = d → (∀ k ∈ ms, k.1 = d) → (∀ q, Chain true q R) → Chain true last (ms ++ R)
  | [], R, last, _, _, h => h last
  | k :: r, R, last, h1, h2, h => ⟨.inr ⟨rfl, by rw [h1, h2 k (by simp)]⟩, chain_group r R k (h2 k (by simp)) (fun x hx => h2 x (by simp [hx])) h⟩
theorem chain_keys (before : Int) (l : List Ev) : ∀ (ds : List Int) (any : Bool) (last : Ky), Chain any last (ds.flatMap (dayKeys before l))
  | [], _, _ => trivial
  | d :: r, any, last => by
    rw [List.flatMap_cons]
    unfold dayKeys
    refine ⟨.inl rfl, ?_⟩
    refine chain_group (d := d) _ _ _ rfl ?_ (fun q => chain_keys before l r true q)
    intro k hk
    split at hk
    · obtain ⟨j, _, _, hj⟩ := mid_mem.1 hk
      exact (kind_mem.1 hj).1
    · cases hk

theorem length_le_sum : ∀ (f : List (Ky × Ct)), (∀ p ∈ f, CntOk p.2) → (f.length : Int) ≤ sumA Prod.fst (fun _ => true) f
  | [], _ => by simp [sumA]
  | p :: r, h => by
    have ih := length_le_sum r (fun x hx => h x (by simp [hx]))
    have := (h p (by simp)).1
    simp only [sumA, if_true, List.length_cons]
    omega
theorem map_cnt : ∀ (f : List (Ky × Ct)), (f.map (·.1)).Nodup → (f.map (·.1)).map (fun x => (x, cntAt f x)) = f
  | f, hn => by
    rw [List.map_map]
    conv => rhs; rw [← List.map_id f]
    refine List.map_congr_left (fun p hp => ?_)
    show (p.1, cntAt f p.1) = p
    have : cntAt f p.1 = p.2 := by
      unfold cntAt
      rw [Mp.getM_some hn (show (p.1, p.2) ∈ f from hp)]
      rfl
    rw [this]
theorem catB_size {m : Nat} : ∀ (ls : List ByteArray), (∀ x ∈ ls, x.size ≤ m) → (catB ls).size ≤ m * ls.length
  | [], _ => Nat.zero_le _
  | x :: r, h => by
    have ih := catB_size r (fun y hy => h y (by simp [hy]))
    have := h x (by simp)
    rw [catB_cons, ByteArray.size_append, List.length_cons, Nat.mul_succ]
    omega
theorem sumTo_sumI (z : List Int) : ∀ k, k ≤ z.length → sumTo z k = sumI (z.take k)
  | 0, _ => by simp [sumTo, sumI]
  | k + 1, h => by rw [sumTo_succ (by omega), sumI_take_succ z k (by omega), sumTo_sumI z k (by omega)]
theorem sizeLns_length (z : List Int) : ∀ k, (sizeLns z k).length ≤ k
  | 0 => by simp [sizeLns]
  | k + 1 => by
    have := sizeLns_length z k
    rw [sizeLns]
    split
    · simp; omega
    · omega
theorem sizeLine_size {i : Nat} {n : Int} (hi : i < 18) (hn : n ≤ 1000000) : (sizeLine i n).size ≤ 110 := by
  have h1 := decB_20 (n := i) (by omega)
  have h2 := decB_20 (n := n.toNat) (by omega)
  unfold sizeLine
  simp only [ByteArray.size_append]
  have e1 : (⟨#[115, 105, 122, 101]⟩ : ByteArray).size = 4 := rfl
  have e2 : (⟨#[32]⟩ : ByteArray).size = 1 := rfl
  have e3 : (⟨#[10]⟩ : ByteArray).size = 1 := rfl
  omega
theorem keyLine_size {f : List (Ky × Ct)} {k : Ky} (h : KeyGood f k) : (keyLine k (cntAt f k)).size ≤ 110 := by
  obtain ⟨_, g2, ⟨d, hd, hd2⟩, ⟨a, b, hc, _, ha, _, hb⟩, _⟩ := h
  rw [hc]
  unfold keyLine
  have h1 := lineB_size (wordB k.2.1 ++ ⟨#[32]⟩ ++ nameB k) (a := a) (b := b) (by omega) hb
  have h2 := wordB_size k.2.1
  have h3 : (nameB k).size ≤ 80 := by
    unfold nameB
    split
    · have := decB_20 (n := k.1.toNat) (by omega)
      omega
    · exact g2
  have e2 : (⟨#[32]⟩ : ByteArray).size = 1 := rfl
  simp only [ByteArray.size_append] at h1
  show (lineB _ ((a : Int).toNat) ((b : Int).toNat)).size ≤ 110
  rw [Int.toNat_natCast, Int.toNat_natCast]
  omega

/-- The lines of what is left of events. -/
def lnsOf (before : Int) (l : List Ev) : List Ln := keyLns (forgetL before (addEvs l)) (keysM before l) ++ sizeLns (zOf l) 18
structure TextOk (before : Int) (l : List Ev) (fin : PS) : Prop where
  text : textL before l = catB ((lnsOf before l).map Ln.line)
  ok : OkAll s0 (lnsOf before l)
  state : stAt s0 (lnsOf before l) (lnsOf before l).length = fin
  z : fin.z = zOf l
  F : fin.F.Perm (forgetL before (addEvs l))
  size : (textL before l).size ≤ 16777216
  sum : sumTo fin.z 18 = (sumM isTotal fin.F).1
  tot : (sumM isTotal fin.F).1 ≤ 1000000
theorem law_text (before : Int) (l : List Ev) (he : ∀ e ∈ l, e.err = 0 ∧ e.au.length = 16) (hok : ∀ p ∈ forgetL before (addEvs l), keyOk p.1) (hfit : Fits (addEvs l) 11200) (hlen : l.length ≤ 1000) : ∃ fin, TextOk before l fin := by
  have he0 : ∀ e ∈ l, e.err = 0 := fun e h => (he e h).1
  have hcnt := addEvs_cnt l he0
  obtain ⟨f, hf⟩ : ∃ f, forgetL before (addEvs l) = f := ⟨_, rfl⟩
  have hfs : f.Sublist (addEvs l) := by rw [← hf]; exact List.filter_sublist
  have hnd : (f.map (·.1)).Nodup := (addEvs_nodup l).sublist (hfs.map _)
  have hks : (keysM before l).Perm (f.map (·.1)) := by rw [← hf, ← law_keys]; exact skeys_perm _
  have hsrt : (keysM before l).Pairwise (fun a b => cmpK a b < 0) := by rw [keysM_big]; exact (big_sorted l).sublist List.filter_sublist
  have hgood : ∀ k ∈ keysM before l, KeyGood f k := by
    intro k hk
    have hkf : k ∈ f.map (·.1) := hks.mem_iff.1 hk
    have hm := cntAt_mem hkf
    obtain ⟨_, e, hel, hke⟩ := keysM_right he hk
    obtain ⟨hd, hn⟩ := keys_of.1 hke
    have hday := ev_day (he0 e hel)
    obtain ⟨c1, c2, c3⟩ := hcnt _ (hfs.subset hm)
    have hle := sumA_mem (g := Prod.fst) (fun p hp => (hfit.pos p hp).1) (hfs.subset hm)
    have hl1 := hfit.le1
    simp only at c1 c2 c3 hle
    refine ⟨hok _ (by rw [hf]; exact hm), ?_, ⟨k.1.toNat, by omega, by omega⟩, ⟨(cntAt f k).1.toNat, (cntAt f k).2.toNat, ?_, by omega, by omega, by omega, by omega⟩, ?_⟩
    · rcases hn with ⟨_, e2⟩ | ⟨j, _, _, _, hj⟩
      · rw [e2]; decide
      · exact names_size (he0 e hel) (he e hel).2 _ _ hj
    · rw [Int.toNat_of_nonneg (by omega), Int.toNat_of_nonneg c2]
    · rcases hn with h | ⟨j, h1, h3, h4, hj⟩
      · exact .inl h
      · exact .inr ⟨j, h1, h3, h4, name_ok (he0 e hel) (he e hel).2 h1 h3 hj⟩
  obtain ⟨k1, k2, k3, k4⟩ := key_state f (keysM before l) s0 rfl (fun h => by cases h) (fun k _ h => by cases h) hsrt (chain_keys before l _ _ _) hgood
  have hzr : ∀ x ∈ zOf l, 0 ≤ x ∧ x ≤ 1000000 := fun x hx => by have := zOf_range l x hx; omega
  have hzl := zOf_length l
  obtain ⟨z1, _, z3, z4⟩ := size_state (zOf l) hzr hzl _ k2 (k3.trans rfl) 18 (Nat.le_refl _)
  have hlns : lnsOf before l = keyLns f (keysM before l) ++ sizeLns (zOf l) 18 := by unfold lnsOf; rw [hf]
  refine ⟨stAt s0 (lnsOf before l) (lnsOf before l).length, ?_⟩
  have hst : stAt s0 (lnsOf before l) (lnsOf before l).length = (sizeLns (zOf l) 18).foldl PS.step ((keyLns f (keysM before l)).foldl PS.step s0) := by
    unfold stAt
    rw [List.take_length, hlns, List.foldl_append]
  have hF : (stAt s0 (lnsOf before l) (lnsOf before l).length).F = (keysM before l).map (fun x => (x, cntAt f x)) := by
    rw [hst, z3, k4]; rfl
  have hz : (stAt s0 (lnsOf before l) (lnsOf before l).length).z = zOf l := by
    rw [hst, z4, List.take_of_length_le (by omega)]
    simp
  have hperm : (stAt s0 (lnsOf before l) (lnsOf before l).length).F.Perm f := by
    rw [hF]
    have h1 := hks.map (fun x => (x, cntAt f x))
    rw [map_cnt f hnd] at h1
    exact h1
  have htext : textL before l = catB ((lnsOf before l).map Ln.line) := by
    rw [← text_law before l he, hf, hlns, List.map_append, keyLns_line, sizeLns_line]
    unfold textS
    rw [← hf, law_keys]
  have htot : sumM isTotal (stAt s0 (lnsOf before l) (lnsOf before l).length).F = ofL 0 ⟨#[]⟩ 0 80000 l := by
    rw [← law_total2 before l he0, hf]
    unfold sumM
    rw [sumA_perm hperm, sumA_perm hperm]
  have hcount := ofL_count l he0
  refine ⟨htext, ?_, rfl, hz, by rw [hf]; exact hperm, ?_, ?_, ?_⟩
  · rw [hlns]; exact (okAll_append _ _ _).2 ⟨k1, z1⟩
  · rw [htext]
    have hsz : ∀ x ∈ (lnsOf before l).map Ln.line, x.size ≤ 110 := by
      rw [hlns, List.map_append, keyLns_line, sizeLns_line]
      intro x hx
      rcases List.mem_append.1 hx with hx | hx
      · obtain ⟨k, hk, rfl⟩ := List.mem_map.1 hx
        exact keyLine_size (hgood k hk)
      · have go : ∀ k, k ≤ 18 → ∀ x ∈ sizeLines (zOf l) k, x.size ≤ 110 := by
          intro k
          induction k with
          | zero => intro _ x hx; cases hx
          | succ k ih =>
            intro hk x hx
            rw [sizeLines] at hx
            split at hx
            · rcases List.mem_append.1 hx with hx | hx
              · exact ih (by omega) x hx
              · have : x = sizeLine k ((zOf l).getD k 0) := by simpa using hx
                rw [this]
                refine sizeLine_size (by omega) (hzr _ ?_).2
                rw [List.getD_eq_getElem?_getD, List.getElem?_eq_getElem (by omega)]
                exact List.getElem_mem _
            · exact ih (by omega) x hx
        exact go 18 (Nat.le_refl _) x hx
    have h1 := catB_size _ hsz
    have h2 : ((lnsOf before l).map Ln.line).length ≤ 11218 := by
      rw [List.length_map, hlns, List.length_append]
      have a1 : (keyLns f (keysM before l)).length = f.length := by
        unfold keyLns
        rw [List.length_map, hks.length_eq, List.length_map]
      have a2 := sizeLns_length (zOf l) 18
      have a3 := length_le_sum (addEvs l) hcnt
      have a4 := hfit.le1
      have a5 := hfs.length_le
      omega
    have h3 := Nat.mul_le_mul_left 110 h2
    omega
  · rw [hz, sumTo_sumI _ _ (by omega), List.take_of_length_le (by omega), zOf_sum l he0, htot, hcount]
  · rw [htot, hcount]; omega
end Go.Proofs.YticcfbeocepnpaaGreatDoor
set_option linter.unusedSimpArgs false
set_option maxRecDepth 100000
namespace Go.Proofs.YticcfbeocepnpaaGreatDoor
open Go.RowKit Go.Shelf Pl

theorem Small.forgetT {f : List (Ky × Ct)} (h : Small f) (before : Int) : Small (forgetL before f) :=
  ⟨fun p hp => h.pos p (List.mem_filter.1 hp).1, Int.le_trans (sumA_sub List.filter_sublist (fun p hp => (h.pos p hp).1)) h.le1, Int.le_trans (sumA_sub List.filter_sublist (fun p hp => (h.pos p hp).2)) h.le2⟩
theorem forget_lenT (before : Int) (f : List (Ky × Ct)) : (forgetL before f).length ≤ f.length := List.length_filter_le _ _
theorem TxtOk.perm {f g : List (Ky × Ct)} {z : List Int} (h : TxtOk f z) (hp : g.Perm f) : TxtOk g z := ⟨fun p hq => h.key p (hp.mem_iff.1 hq), h.z⟩
theorem Small.perm {f g : List (Ky × Ct)} (h : Small f) (hp : g.Perm f) : Small g :=
  ⟨fun p hq => h.pos p (hp.mem_iff.1 hq), by rw [sumA_perm hp]; exact h.le1, by rw [sumA_perm hp]; exact h.le2⟩

set_option maxHeartbeats 8000000 in
theorem statsText_any (a : Option Addr) (n c : Nat) (l : List EvC) (before : Int) (w : World) (h : EvsAt w a n c l) (hml : MLen w) (htab : Tab10 w) :
    Calls Tryz.prog 7 #[.slice a n c, .int .i64 before] w fun e w' => e = .returned (.bool true) ∧ Below w.heap.size w w' := by
  have HE := hide h
  have HML := hide hml
  have HTAB : Hid (∀ w', Below w.heap.size w w' → Tab10 w') := hide fun w' hb => htab.below hb
  clear h hml htab
  have HKN := hide (known_any w HML.out)
  go_enter Tryz.func7, Tryz.ntmps7
  go_wp2_with fail
  refine HKN.out.mono ?_
  rintro e w1 ⟨rfl, hb1⟩
  have HB1 := hide hb1
  clear hb1
  have HFW := hide (few_any a n c l w1 (HE.out.below HB1.out))
  have HKN1 := hide (known_any w1 (HML.out.below HB1.out))
  go_wp2_with fail
  refine HFW.out.mono ?_
  rintro e w1' ⟨b, rfl, hfew, rfl⟩
  have HFEW : Hid (b = true → fewOk l) := hide fun h => hfew (by first | exact h | trivial)
  clear hfew
  cases b
  · go_wp2_with fail
    refine HKN1.out.mono ?_
    rintro e w2 ⟨rfl, hb2⟩
    have HB2 := hide (HB1.out.trans (hb2.mono HB1.out.size))
    clear hb2
    go_wp2_with fail
    go_ret
    exact ⟨rfl, HB2.out⟩
  · have HFL : Hid (fewOk l) := hide (HFEW.out (by first | rfl | trivial))
    clear HFEW
    have HBD := hide (build2_any a n c l w1 (HE.out.below HB1.out) HFL.out.two (HML.out.below HB1.out))
    go_wp2_with fail
    refine HBD.out.mono ?_
    rintro e w2 ⟨sb, mb, z, oa, on, oc, rfl, q1, q2, q3, q4, q5, q6, q7, q8⟩
    have HC : Hid (Cut w w2 (okC l) sb mb z oa on oc) := hide (cut_of HFL.out.two q1 q2 q3 (HB1.out.trans (q4.mono HB1.out.size)) q5 q6 (Nat.le_trans HB1.out.size q7) (Nat.le_trans HB1.out.size q8))
    clear q1 q2 q3 q4 q5 q6 q7 q8
    obtain ⟨L, hL⟩ : ∃ L, okC l = L := ⟨_, rfl⟩
    rw [hL] at HC
    clear hL HBD HKN HKN1 HFW
    have hon : on ≤ 100 := by have h1 := HC.out.evs.len; have h2 := HC.out.len; omega
    have hon2 : on ≤ 1000 := by omega
    obtain ⟨V, hV⟩ : ∃ V, evsOf L = V := ⟨_, rfl⟩
    have HV := hide hV
    have hVl : V.length ≤ 1000 := by rw [← hV]; have := HC.out.len; simp [evsOf]; omega
    have HVO : Hid (∀ e ∈ V, e.err = 0 ∧ e.au.length = 16) := hide (by rw [← hV]; exact HC.out.oke)
    clear hV
    have hfit := HC.out.fits
    have hfl := HC.out.flen
    have hs := HC.out.s
    have htk := HC.out.txt
    have hzq : z = zOf V := by rw [HC.out.zq, show evsOf L = V from HV.out]
    rw [show evsOf L = V from HV.out] at hfit hfl hs htk
    have hsm := hfit.small (by decide)
    have hokf : ∀ p ∈ forgetL before (addEvs V), keyOk p.1 := fun p hp => keyOk_of hs.map p (List.mem_filter.1 hp).1
    obtain ⟨fin, hfin⟩ := law_text before V HVO.out hokf hfit hVl
    obtain ⟨t0, ht0⟩ : ∃ t0, textL 0 V = t0 := ⟨_, rfl⟩
    obtain ⟨tx, htx⟩ : ∃ tx, textL before V = tx := ⟨_, rfl⟩
    have htl0 : textS (addEvs V) z = t0 := by
      have := text_law 0 V HVO.out
      rw [forget_none (fun e he => (HVO.out e he).1), ← hzq, ht0] at this
      exact this
    have htl : textS (forgetL before (addEvs V)) z = tx := by rw [hzq, text_law before V HVO.out, htx]
    have hnd : (fin.F.map (·.1)).Nodup := ((hfin.F.map (·.1)).nodup_iff).2 ((addEvs_nodup V).sublist ((List.filter_sublist).map _))
    have htf : textS fin.F z = tx := by rw [textS_perm z hnd hfin.F, htl]
    obtain ⟨v1, v2, hv⟩ : ∃ v1 v2, sumM isTotal (forgetL before (addEvs V)) = (v1, v2) := ⟨_, _, rfl⟩
    have hvf : sumM isTotal fin.F = (v1, v2) := by rw [← hv]; unfold sumM; rw [sumA_perm hfin.F, sumA_perm hfin.F]
    have hzr : ∀ x ∈ z, 0 ≤ x ∧ x ≤ 4611686018427387904 := fun x hx => by have := HC.out.zr x hx; omega
    have hfz : fin.z = z := by rw [hfin.z, hzq]
    have HT0 : Hid (∀ w', SAt w' sb mb (addEvs V) z → Below w.heap.size w w' → Calls Tryz.prog 20 #[.pointer (some ⟨sb, 0, none⟩)] w' fun e w'' => e = .returned (.string t0) ∧ Below w'.heap.size w' w'') := hide fun w' h1 h2 => by
      have := stext_any sb mb _ z w' h1 hfl (HTAB.out _ h2) htk
      rw [htl0] at this
      exact this
    have HTM : Hid (∀ w', EvsAt w' oa on oc L → Calls Tryz.prog 21 #[.slice oa on oc, .int .i64 0] w' fun e w'' => e = .returned (.string t0) ∧ Below w'.heap.size w' w'') := hide fun w' h1 => by
      have := text_any 0 oa on oc L w' h1 HC.out.ok hon2
      rw [show evsOf L = V from HV.out, ht0] at this
      exact this
    have HF1 : Hid (∀ w', SAt w' sb mb (addEvs V) z → Calls Tryz.prog 19 #[.pointer (some ⟨sb, 0, none⟩), .int .i64 before] w' fun e w'' => (∃ x : Nat, e = .returned (.int .i64 (x : Int))) ∧ SAt w'' sb mb (forgetL before (addEvs V)) z ∧ w'.grownBy w'' (some mb)) := hide fun w' h1 =>
      (forget_any before sb mb _ z w' h1 hfl).mono (by rintro e w'' ⟨rfl, h3, h4⟩; exact ⟨⟨_, rfl⟩, h3, h4⟩)
    have HTT : Hid (∀ w', SAt w' sb mb (forgetL before (addEvs V)) z → Below w.heap.size w w' → Calls Tryz.prog 20 #[.pointer (some ⟨sb, 0, none⟩)] w' fun e w'' => e = .returned (.string tx) ∧ Below w'.heap.size w' w'') := hide fun w' h1 h2 => by
      have := stext_any sb mb _ z w' h1 (Nat.le_trans (forget_lenT before _) hfl) (HTAB.out _ h2) (htk.forget before)
      rw [htl] at this
      exact this
    have HPA : Hid (∀ w', MLen w' → Calls Tryz.prog 27 #[.string tx] w' fun e w'' => ∃ pb pm, e = .returned (.tuple #[.pointer (some ⟨pb, 0, none⟩), .int .i64 0, .int .i64 0]) ∧ SAt w'' pb pm fin.F z ∧ Below w'.heap.size w' w'') := hide fun w' h1 => by
      have := parse_any (lnsOf before V) fin hfin.state tx w' (by rw [← htx]; exact hfin.text) hfin.ok (by rw [← htx]; exact hfin.size) h1 (fun x hx => by rw [hfin.z] at hx; have := zOf_range V x hx; omega) hfin.sum hfin.tot ((hsm.forgetT before).perm hfin.F)
      exact this.mono (by rintro e w'' ⟨pb, pm, h3, h4, h5, _, _⟩; rw [hfz] at h4; exact ⟨pb, pm, h3, h4, h5⟩)
    have HEQ : Hid (∀ w' pb pm, SAt w' pb pm fin.F z → SAt w' sb mb (forgetL before (addEvs V)) z → Calls Tryz.prog 22 #[.pointer (some ⟨pb, 0, none⟩), .pointer (some ⟨sb, 0, none⟩)] w' fun e w'' => e = .returned (.bool true) ∧ Below w'.heap.size w' w'') := hide fun w' pb pm h1 h2 =>
      sequal_any pb pm sb mb _ _ z w' h1 h2 hfin.F hzr
    have HTF : Hid (∀ w' pb pm, SAt w' pb pm fin.F z → Below w.heap.size w w' → Calls Tryz.prog 20 #[.pointer (some ⟨pb, 0, none⟩)] w' fun e w'' => e = .returned (.string tx) ∧ Below w'.heap.size w' w'') := hide fun w' pb pm h1 h2 => by
      have := stext_any pb pm _ z w' h1 (by rw [hfin.F.length_eq]; exact Nat.le_trans (forget_lenT before _) hfl) (HTAB.out _ h2) ((htk.forget before).perm hfin.F)
      rw [htf] at this
      exact this
    have HTO : Hid (∀ w' sb mb (f : List (Ky × Ct)), SAt w' sb mb f z → f.Perm (forgetL before (addEvs V)) → Calls Tryz.prog 11 #[.pointer (some ⟨sb, 0, none⟩)] w' fun en w'' => en = .returned (.agg #[.int .i64 v1, .int .i64 v2]) ∧ Below w'.heap.size w' w'') := hide fun w' sb mb f h1 hp => by
      have := total_any sb mb f z w' h1 ((hsm.forgetT before).perm hp)
      have e : sumM isTotal f = (v1, v2) := by rw [← hv]; unfold sumM; rw [sumA_perm hp, sumA_perm hp]
      rw [e, cntV_mk] at this
      exact this
    have HFP : Hid (fin.F.Perm (forgetL before (addEvs V))) := hide hfin.F
    have HSS : Hid (∀ w' sb mb (f : List (Ky × Ct)), SAt w' sb mb f z → Calls Tryz.prog 16 #[.pointer (some ⟨sb, 0, none⟩)] w' fun en w'' => en = .returned (.agg (intsV z)) ∧ Below w'.heap.size w' w'') := hide fun w' sb mb f h1 => ssizes_any sb mb f z w' h1
    have HQ : Hid (∀ w' : World, (Op.equalIn 10000 41 (.agg (intsV z)) (.agg (intsV z))).run Tryz.prog w' = .ok true w') := hide fun w' => by
      have := sizes_equal z z hs.len hs.len (fun x hx => by have := hzr x hx; omega) (fun x hx => by have := hzr x hx; omega) w'
      simpa using this
    obtain ⟨zv, hzv⟩ : ∃ zv, intsV z = zv := ⟨_, rfl⟩
    rw [hzv] at HSS HQ
    have HS := hide hs
    clear hfit hfl hs htk hzq hsm hokf hfin ht0 htx htl0 htl hnd htf hv hvf hzr hfz hzv
    go_wp2_with fail
    refine (HT0.out w2 HS.out HC.out.below).mono ?_
    rintro e w3 ⟨rfl, hb3⟩
    have HB3 : Hid (Below w2.heap.size w2 w3) := hide hb3
    clear hb3
    go_wp2_with fail
    refine (HTM.out w3 (HC.out.evs.below HB3.out)).mono ?_
    rintro e w4 ⟨rfl, hb4⟩
    have HB4 : Hid (Below w2.heap.size w2 w4) := hide (HB3.out.trans (hb4.mono HB3.out.size))
    clear hb4
    go_wp2_with fail
    refine (HF1.out w4 (HS.out.below HB4.out)).mono ?_
    rintro e w5 ⟨⟨x, rfl⟩, hs5, hg5⟩
    have HS5 := hide hs5
    have HB5 : Hid (Below w.heap.size w w5) := hide (by
      have h1 := HC.out.below.trans (HB4.out.mono HC.out.below.size)
      exact h1.grown hg5 h1.size (fun q e => by cases e; exact HC.out.hmb))
    clear hs5 hg5
    go_wp2_with fail
    refine (HTT.out w5 HS5.out HB5.out).mono ?_
    rintro e w6 ⟨rfl, hb6⟩
    have HB6 : Hid (Below w5.heap.size w5 w6) := hide hb6
    clear hb6
    have HBW6 : Hid (Below w.heap.size w w6) := hide (HB5.out.trans (HB6.out.mono HB5.out.size))
    go_wp2_with fail
    refine (HPA.out w6 (HML.out.below HBW6.out)).mono ?_
    rintro e w7 ⟨pb, pm, rfl, hs7, hb7⟩
    have HS7 := hide hs7
    have HB7 : Hid (Below w5.heap.size w5 w7) := hide (HB6.out.trans (hb7.mono HB6.out.size))
    have HBW7 : Hid (Below w.heap.size w w7) := hide (HBW6.out.trans (hb7.mono HBW6.out.size))
    clear hs7 hb7
    go_wp2_with fail
    refine (HEQ.out w7 pb pm HS7.out (HS5.out.below HB7.out)).mono ?_
    rintro e w8 ⟨rfl, hb8⟩
    have HB8 : Hid (Below w7.heap.size w7 w8) := hide hb8
    clear hb8
    go_wp2_with fail
    refine (HTF.out w8 pb pm (HS7.out.below HB8.out) (HBW7.out.trans (HB8.out.mono HBW7.out.size))).mono ?_
    rintro e w9 ⟨rfl, hb9⟩
    have HB9 : Hid (Below w7.heap.size w7 w9) := hide (HB8.out.trans (hb9.mono HB8.out.size))
    clear hb9
    go_wp2_with fail
    refine (HTO.out w9 pb pm _ (HS7.out.below HB9.out) HFP.out).mono ?_
    rintro e w10 ⟨rfl, hb10⟩
    have HB10 : Hid (Below w7.heap.size w7 w10) := hide (HB9.out.trans (hb10.mono HB9.out.size))
    clear hb10
    go_wp2_with fail
    refine (HTO.out w10 sb mb _ ((HS5.out.below HB7.out).below HB10.out) (List.Perm.refl _)).mono ?_
    rintro e w11 ⟨rfl, hb11⟩
    have HB11 : Hid (Below w7.heap.size w7 w11) := hide (HB10.out.trans (hb11.mono HB10.out.size))
    clear hb11
    go_wp2_with fail
    refine (HSS.out w11 pb pm _ (HS7.out.below HB11.out)).mono ?_
    rintro e w12 ⟨rfl, hb12⟩
    have HB12 : Hid (Below w7.heap.size w7 w12) := hide (HB11.out.trans (hb12.mono HB11.out.size))
    clear hb12
    go_wp2_with fail
    refine (HSS.out w12 sb mb _ ((HS5.out.below HB7.out).below HB12.out)).mono ?_
    rintro e w13 ⟨rfl, hb13⟩
    have HB13 : Hid (Below w7.heap.size w7 w13) := hide (HB12.out.trans (hb13.mono HB12.out.size))
    clear hb13
    have hq := HQ.out
    go_wp2_with fail
    go_ret
    exact ⟨rfl, HBW7.out.trans (HB13.out.mono HBW7.out.size)⟩
end Go.Proofs.YticcfbeocepnpaaGreatDoor
set_option maxRecDepth 100000
namespace Go.Proofs.YticcfbeocepnpaaGreatDoor
open Go.ChangeShapes Go.WideShapes Go.ChangeAt Go.RowKit

theorem world_metT (os : Os) (args : Array Value) : laidMetH Tryz.prog Rows.statsTextRow.laid ((laidWorld os).forCall (fun _ _ => 0) ⟨#[], args, []⟩).memory :=
  laidMetH_of_parts3 (fuel := 8) (laidMet_of_run' 8 (by kernel_rfl) (by kernel_rfl)) (by kernel_rfl) (by kernel_rfl)
theorem tab_of_laidT {w : World} (h : laidMetH Tryz.prog Rows.statsTextRow.laid w.memory) : Tab10 w := by
  have h1 : laidMet Tryz.prog Rows.statsTextRow.laid w.memory := by
    unfold laidMetH at h
    rw [show (Rows.statsTextRow.laid.filter fun x => x.2.handleName?.isSome) = [] by kernel_rfl] at h
    exact h
  have h2 : laidMet Tryz.prog (("internal/strconv.uint64pow10", Lib.tabData .u64 Lib.pow10Tab) :: Rows.statsTextRow.laid.drop 3) w.memory := laidMet.tail (laidMet.tail h1)
  have h3 : Lib.TabIs Tryz.prog w.memory "internal/strconv.uint64pow10" .u64 Lib.pow10Tab := Lib.tabIs_of_head (g := 1) (t := 173) (e := 125) (n := 20) tab10_global (by kernel_rfl) Tryz.underlying173 Tryz.underlying125 (by kernel_rfl) (by kernel_rfl) h2
  exact h3

set_option maxHeartbeats 400000 in
theorem statsText_contract {H : Type} {enc : TypeId × Value → H} (W : World) (base : Nat) (args : Array Value) (ds gs : List (DataW H)) (before : List MemPlace)
    (hval : ∀ (j : Nat) t v, Tryz.f7.params[j]? = some t → args[j]? = some v → Value.okWide Tryz.prog W .any base t v)
    (hW : DataW.Whole enc Tryz.prog Tryz.f7.params.toList Rows.statsTextSpec.vars false W args.toList ds gs before) (hx : laidMetH Tryz.prog Rows.statsTextRow.laid W.memory) (hsh : W.ShapedOpen Tryz.prog) :
    Calls Tryz.prog 7 args W fun e W' => ∃ v, e = .returned v ∧ Rows.statsTextSpec.post enc Tryz.prog Tryz.f7 false true false false W args v W' := by
  have hW' := hW
  obtain ⟨p, q, hA, hV, rfl, hfz, hnd⟩ := hW
  rw [show Tryz.f7.params.toList = [22, 3] from rfl] at hA
  rw [show Tryz.f7.params = #[22, 3] from rfl] at hval
  obtain ⟨v0, r0, d0, e0, p0, q0, hargs, rfl, rfl, h0, hA1⟩ := trodAll_cons hA
  obtain ⟨v1, r1, d1, e1, p1, q1, rfl, rfl, rfl, h1, hA2⟩ := trodAll_cons hA1
  obtain ⟨rfl, rfl, rfl⟩ := trodAll_nil hA2
  obtain rfl : args = #[v0, v1] := by cases args; simp_all
  obtain ⟨xa, xn, xc, rfl⟩ := okWide_slice Tryz.underlying22 (hval 0 _ _ rfl rfl)
  obtain ⟨before0, rfl⟩ := okWide_int Tryz.underlying3 (hval 1 _ _ rfl rfl)
  obtain ⟨fuel, hf⟩ := h0
  obtain ⟨fuel1, hf1⟩ := h1
  obtain ⟨sa, sn, sc, l, hv, hevs⟩ := evs_open (show DataW.trod enc Tryz.prog W 0 (fun _ => true) true fuel 22 [.slice xa xn xc] = _ from hf)
  obtain ⟨rfl, rfl, rfl⟩ : xa = sa ∧ xn = sn ∧ xc = sc := by cases hv; exact ⟨rfl, rfl, rfl⟩
  exact (statsText_any xa xn xc l before0 W hevs (mlen_of_shape hsh) (tab_of_laidT hx)).mono fun e W' ⟨he, hb⟩ =>
    ⟨_, he, post_true row_laidOut (by kernel_rfl) rfl hW' hb rfl Tryz.underlying4 rfl⟩

set_option maxHeartbeats 400000 in
theorem statsText_lifted (os : Os) (started : os.Started) (H : Type) (enc : TypeId × Value → H) :
    ReturnsInHanded {} Tryz.checked os 7 .any (fun w args => (Rows.statsTextSpec.pre enc Tryz.prog Tryz.f7 [] false w args ∧ laidMetH Tryz.prog Rows.statsTextRow.laid w) ∧ sizedMet enc Tryz.prog Tryz.f7 (OpenSpec.ofChange Rows.statsTextSpec) false w args)
      (Rows.statsTextSpec.post enc Tryz.prog Tryz.f7 false true false false) :=
  returns_and_shaped2 (C := Tryz.checked) (X := fun w => laidMetH Tryz.prog Rows.statsTextRow.laid w) row_own started (by kernel_rfl) Tryz.func7
    (ChangeSpec.witness_shaped (enc := enc) (C := Tryz.checked) (os := os) (X := fun w _ => laidMetH Tryz.prog Rows.statsTextRow.laid w) false (laidWorld os) #[.slice none 0 0, .int .i64 0] 8 rfl (world_shaped os _) (by kernel_rfl) (by kernel_rfl) (by kernel_rfl) (world_metT os _))
    fun W base args ds gs before hval hW hx hsh => statsText_contract W base args ds gs before hval hW hx hsh

theorem statsText_holds : Rows.StatsTextSaid :=
  OpenClaim.holds_of_wide 7 Tryz.f7 rfl rfl rfl rfl rfl rfl rfl ⟨rfl, rfl, rfl, rfl, rfl⟩ rfl rfl rfl rfl rfl (by kernel_rfl) Tryz.func7 (by kernel_rfl)
    (of_decide_eq_true (by kernel_rfl)) (by unfold Func.isWrapper; first | (rw [if_pos (by decide +kernel)]; kernel_rfl) | (rw [if_neg (by decide +kernel)]; exact ⟨rfl, rfl⟩))
    (fun os started H enc _ => statsText_lifted os started H enc)
end Go.Proofs.YticcfbeocepnpaaGreatDoor
set_option maxRecDepth 100000
namespace Go.Proofs.YticcfbeocepnpaaGreatDoor
open Go

theorem statsText_card : Rows.StatsTextCardSaid :=
  Claim7.holds_tied_plain_at .later [] [.data, .data, .data, .data, .sentinel, .sentinel, .pinned] true (true, "2b61511dbc1443444d27901aed96fe35361df261b0181c07380dd05f3a061435") true
    statsText_holds (fun _ h => by cases h) (by kernel_rfl) (fun _ h => by cases h) statsText_row_tie rfl ⟨rfl, rfl⟩ (by kernel_rfl) rfl
    (fun f fn hf hfn => by
      obtain rfl : f = 7 := Option.some.inj ((show Tryz.prog.funcNamed Rows.statsTextRow.func = some 7 by kernel_rfl).symm.trans hf) |>.symm
      obtain rfl : fn = Tryz.f7 := (Option.some.inj (Tryz.func7.symm.trans hfn)).symm
      exact ⟨by kernel_rfl, fun j t ht => by
        have hm : t ∈ Tryz.f7.params := Array.mem_of_getElem? ht
        have hall : (Tryz.f7.params.all fun u => !Tryz.prog.wantsStandIn u) = true := by kernel_rfl
        have := (Array.all_eq_true_iff_forall_mem.1 hall) t hm
        exact (show Tryz.prog.wantsStandIn t = false by simpa using this)⟩)
    (by kernel_rfl)
#print axioms statsText_card
end Go.Proofs.YticcfbeocepnpaaGreatDoor
