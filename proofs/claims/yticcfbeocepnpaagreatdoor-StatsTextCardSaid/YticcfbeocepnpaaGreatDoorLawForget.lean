/-
  The keys in the order of the text, and what is forgotten. No program in sight.
-/
import Derived.Test.YticcfbeocepnpaaGreatDoorAll
import Derived.Test.YticcfbeocepnpaaGreatDoorLawAdd
import Derived.Test.YticcfbeocepnpaaGreatDoorForget
import Derived.Sort.Walk0
set_option linter.unusedSimpArgs false
namespace Go.Proofs.YticcfbeocepnpaaGreatDoor
open Pl

/-- Strings put one behind the other. -/
def catB (ls : List ByteArray) : ByteArray := ls.foldl (· ++ ·) ⟨#[]⟩
theorem catB_snoc (ls : List ByteArray) (x : ByteArray) : catB (ls ++ [x]) = catB ls ++ x := by simp [catB]
/-- The first word of the line of a kind. -/
def wordB (k : Int) : ByteArray := if k = 0 then ⟨#[100, 97, 121]⟩ else if k = 1 then ⟨#[103, 114, 111, 117, 112]⟩ else if k = 2 then ⟨#[115, 105, 116, 101]⟩ else ⟨#[97, 117, 116, 104, 111, 114]⟩
def nameB (k : Ky) : ByteArray := if k.2.1 = 0 then decB k.1.toNat else k.2.2
/-- The line of a key. -/
def keyLine (k : Ky) (c : Ct) : ByteArray := lineB (wordB k.2.1 ++ ⟨#[32]⟩ ++ nameB k) c.1.toNat c.2.toNat
/-- The line of a size. -/
def sizeLine (i : Nat) (n : Int) : ByteArray := ⟨#[115, 105, 122, 101]⟩ ++ ⟨#[32]⟩ ++ decB i ++ ⟨#[32]⟩ ++ decB n.toNat ++ ⟨#[10]⟩
/-- The lines of the sizes up to k. -/
def sizeLines (z : List Int) : Nat → List ByteArray
  | 0 => []
  | k + 1 => if 0 < z.getD k 0 then sizeLines z k ++ [sizeLine k (z.getD k 0)] else sizeLines z k

def cntL (l : List Ev) (k : Ky) : Ct := ofL k.2.1 k.2.2 k.1 k.1 l
def lineOf (l : List Ev) (k : Ky) : ByteArray := keyLine k (cntL l k)
def kindKeys (l : List Ev) (d : Int) (kind : Nat) : List Ky := (allL kind d d l).map fun nm => (d, (kind : Int), nm)
/-- The keys of a day by name, of the kinds below k. -/
def midKeys (l : List Ev) (d : Int) : Nat → List Ky
  | 0 => []
  | 1 => []
  | k + 2 => midKeys l d (k + 1) ++ kindKeys l d (k + 1)
theorem midKeys_succ (l : List Ev) (d : Int) {k : Nat} (h : 1 ≤ k) : midKeys l d (k + 1) = midKeys l d k ++ kindKeys l d k := by
  obtain ⟨j, rfl⟩ : ∃ j, k = j + 1 := ⟨k - 1, by omega⟩
  rfl
def dayKeys (before : Int) (l : List Ev) (d : Int) : List Ky := (d, 0, ⟨#[]⟩) :: (if before ≤ d then midKeys l d 4 else [])
def keysM (before : Int) (l : List Ev) : List Ky := (daysM (l.map (·.day))).flatMap (dayKeys before l)
/-- The text of the model. -/
def textL (before : Int) (l : List Ev) : ByteArray := catB ((keysM before l).map (lineOf l) ++ sizeLines (zOf l) 18)

theorem wordB_size (k : Int) : (wordB k).size ≤ 6 := by
  unfold wordB
  split
  · decide
  · split
    · decide
    · split <;> decide
theorem chkL_size {x : ByteArray} (h : chkL x.data.toList = 0) : x.size ≤ 80 := by
  unfold chkL at h
  split at h
  · cases h
  · have : x.data.toList.length = x.size := by simp
    omega
theorem siteL_size {x : ByteArray} (h : (siteL x.data.toList).2 = 0) : x.size ≤ 30 := by
  have e : x.data.toList.length = x.size := by simp
  unfold siteL at h
  split at h
  · cases h
  · split at h
    · cases h
    · omega
theorem names_size {e : Ev} (h : e.err = 0) (ha : e.au.length = 16) (kind : Int) : ∀ x ∈ namesOf e kind, x.size ≤ 80 := by
  obtain ⟨_, _, h3, h4⟩ := err_parts h
  intro x hx
  unfold namesOf at hx
  split at hx
  · rw [List.mem_singleton.1 hx]
    show (hexL e.au).toArray.size ≤ 80
    rw [List.size_toArray, hexL_length, ha]
    decide
  · split at hx
    · have := siteL_size (h4 x hx); omega
    · exact chkL_size (h3 x hx)
theorem insS_mem {l : List ByteArray} {s x : ByteArray} (h : x ∈ insS l s) : x ∈ l ∨ x = s := by
  unfold insS at h
  split at h
  · exact .inl h
  · simp only [List.mem_append, List.mem_singleton] at h
    rcases h with (h | h) | h
    · exact .inl (List.mem_of_mem_take h)
    · exact .inr h
    · exact .inl (List.mem_of_mem_drop h)
theorem foldl_insS_mem {x : ByteArray} : ∀ {ns l : List ByteArray}, x ∈ ns.foldl insS l → x ∈ l ∨ x ∈ ns
  | [], _, h => .inl h
  | y :: r, l, h => by
    rcases foldl_insS_mem (ns := r) h with h | h
    · rcases insS_mem h with h | rfl
      · exact .inl h
      · exact .inr (by simp)
    · exact .inr (by simp [h])
theorem allL_from {kind fro til : Int} {x : ByteArray} : ∀ {l : List Ev} {out : List ByteArray}, x ∈ l.foldl (allStep kind fro til) out → x ∈ out ∨ ∃ e ∈ l, x ∈ namesOf e kind ∧ inDays fro til e = true
  | [], _, h => .inl h
  | e :: r, out, h => by
    rcases allL_from (l := r) h with h | ⟨y, hy, h1, h2⟩
    · unfold allStep at h
      split at h
      · rename_i hd
        rcases foldl_insS_mem h with h | h
        · exact .inl h
        · exact .inr ⟨e, by simp, h, hd⟩
      · exact .inl h
    · exact .inr ⟨y, by simp [hy], h1, h2⟩
theorem allL_size {kind fro til : Int} {l : List Ev} (he : ∀ e ∈ l, e.err = 0 ∧ e.au.length = 16) : ∀ x ∈ allL kind fro til l, x.size ≤ 80 := by
  intro x hx
  rcases allL_from hx with h | ⟨e, he', h1, _⟩
  · cases h
  · exact names_size (he e he').1 (he e he').2 kind x h1
theorem foldl_insS_length : ∀ (ns l : List ByteArray), (ns.foldl insS l).length ≤ l.length + ns.length
  | [], l => by simp
  | y :: r, l => by
    have h1 := foldl_insS_length r (insS l y)
    have h2 := insS_length l y
    simp only [List.foldl_cons, List.length_cons]
    omega
theorem allL_length {kind fro til : Int} : ∀ (l : List Ev) (out : List ByteArray), (∀ e ∈ l, e.err = 0) → (l.foldl (allStep kind fro til) out).length ≤ out.length + 50 * l.length
  | [], out, _ => by simp
  | e :: r, out, h => by
    have h1 := allL_length (kind := kind) (fro := fro) (til := til) r (allStep kind fro til out e) (fun x hx => h x (by simp [hx]))
    have h2 := names_50 (h e (by simp)) kind
    have h3 := foldl_insS_length (namesOf e kind) out
    have h4 : (allStep kind fro til out e).length ≤ out.length + 50 := by
      unfold allStep
      split <;> omega
    simp only [List.foldl_cons, List.length_cons]
    omega
theorem daysM_mem {l : List Int} {d : Int} (h : d ∈ daysM l) : d ∈ l := by
  have := (daysM_foldl l [] (by simp)).2 d
  rw [show daysM l = l.foldl insD [] from rfl, this] at h
  simpa using h
end Go.Proofs.YticcfbeocepnpaaGreatDoor
set_option linter.unusedSimpArgs false
namespace Go.Proofs.YticcfbeocepnpaaGreatDoor
open Pl

/-! The order of names. -/
def cb (x y : ByteArray) : Int := Lib.compareBytes x.data.toList y.data.toList
theorem cb_tw : Ord.TW cb := Ord.bytes.comap (fun x : ByteArray => x.data.toList) bytes_inj
theorem less_cmp : ∀ (x y : List UInt8), Op.bytesLess x y = decide (Lib.compareBytes x y < 0)
  | [], [] => by simp [Op.bytesLess, Lib.compareBytes]
  | [], _ :: _ => by simp [Op.bytesLess, Lib.compareBytes]
  | _ :: _, [] => by simp [Op.bytesLess, Lib.compareBytes]
  | a :: x, b :: y => by
    rw [Op.bytesLess, Lib.compareBytes, less_cmp x y]
    by_cases h : a < b
    · simp [h]
    · by_cases h2 : b < a
      · have h3 : ¬ a = b := by rintro rfl; exact h h2
        simp [h, h2, h3]
      · have h3 : a = b := by
          rw [UInt8.lt_iff_toNat_lt] at h h2
          exact UInt8.toNat_inj.1 (by omega)
        simp [h3]
theorem ltS_eq (x s : ByteArray) : ltS x s = decide (cb x s < 0) := by
  unfold ltS cb
  rw [less_cmp, Lib.toList_data, Lib.toList_data]
def Srt (l : List ByteArray) : Prop := l.Pairwise fun a b => cb a b < 0
theorem atS_split (s : ByteArray) : ∀ {l : List ByteArray}, Srt l → (∀ x ∈ l.take (atS s l), cb x s < 0) ∧ ∀ y ∈ l.drop (atS s l), ¬ cb y s < 0
  | [], _ => by simp [atS]
  | x :: r, h => by
    have h' := List.pairwise_cons.1 h
    have ih := atS_split s (l := r) h'.2
    unfold atS
    rw [ltS_eq]
    by_cases hx : cb x s < 0
    · rw [if_pos (by simpa using hx)]
      refine ⟨fun y hy => ?_, fun y hy => ih.2 y (by simpa using hy)⟩
      rw [List.take_succ_cons] at hy
      rcases List.mem_cons.1 hy with rfl | hy
      · exact hx
      · exact ih.1 y hy
    · rw [if_neg (by simpa using hx)]
      refine ⟨by simp, fun y hy => ?_⟩
      rcases List.mem_cons.1 (by simpa using hy : y ∈ x :: r) with rfl | hy
      · exact hx
      · exact fun e => hx (cb_tw.trans x y s (h'.1 y hy) e)
theorem insS_sorted {l : List ByteArray} {s : ByteArray} (h : Srt l) : Srt (insS l s) ∧ ∀ x, x ∈ insS l s ↔ x ∈ l ∨ x = s := by
  have hsp := atS_split s h
  unfold insS
  by_cases e : l[atS s l]? = some s
  · rw [if_pos e]
    exact ⟨h, fun x => ⟨Or.inl, fun q => q.elim id (fun q => q ▸ List.mem_of_getElem? e)⟩⟩
  · rw [if_neg e]
    have hne : ∀ y ∈ l.drop (atS s l), cb s y < 0 := by
      intro y hy
      have h1 := hsp.2 y hy
      have h2 : y ≠ s := by
        rintro rfl
        have hq : ∀ (t : List ByteArray), Srt t → (∀ z ∈ t, ¬ cb z y < 0) → t[0]? ≠ some y → y ∈ t → False := by
          intro t ht hz h0 hy
          cases t with
          | nil => cases hy
          | cons a r =>
            rcases List.mem_cons.1 hy with rfl | hy
            · exact h0 rfl
            · exact hz a (by simp) ((List.pairwise_cons.1 ht).1 y hy)
        exact hq _ (List.Pairwise.sublist (List.drop_sublist _ _) h) hsp.2 (by rw [List.getElem?_drop]; exact e) hy
      have h3 : cb y s ≠ 0 := fun q => h2 ((cb_tw.eq y s).1 q)
      exact (cb_tw.anti s y).2 (by omega)
    constructor
    · unfold Srt
      rw [List.pairwise_append, List.pairwise_append]
      refine ⟨⟨List.Pairwise.sublist (List.take_sublist _ _) h, List.pairwise_singleton _ _, ?_⟩, List.Pairwise.sublist (List.drop_sublist _ _) h, ?_⟩
      · intro a ha b hb
        rw [List.mem_singleton.1 hb]; exact hsp.1 a ha
      · intro a ha b hb
        rcases List.mem_append.1 ha with ha | ha
        · exact cb_tw.trans a s b (hsp.1 a ha) (hne b hb)
        · rw [List.mem_singleton.1 ha]; exact hne b hb
    · intro x
      simp only [List.mem_append, List.mem_singleton]
      have := List.take_append_drop (atS s l) l
      constructor
      · rintro ((q | q) | q)
        · exact .inl (List.mem_of_mem_take q)
        · exact .inr q
        · exact .inl (List.mem_of_mem_drop q)
      · rintro (q | q)
        · rw [← this] at q
          rcases List.mem_append.1 q with q | q
          · exact .inl (.inl q)
          · exact .inr q
        · exact .inl (.inr q)
theorem foldS : ∀ (ns acc : List ByteArray), Srt acc → Srt (ns.foldl insS acc) ∧ ∀ x, x ∈ ns.foldl insS acc ↔ x ∈ acc ∨ x ∈ ns
  | [], acc, h => ⟨h, by simp⟩
  | y :: r, acc, h => by
    have h1 := insS_sorted (s := y) h
    have h2 := foldS r (insS acc y) h1.1
    refine ⟨h2.1, fun x => ?_⟩
    rw [List.foldl_cons, h2.2, h1.2, List.mem_cons, or_assoc]
theorem foldAll (kind fro til : Int) : ∀ (l : List Ev) (acc : List ByteArray), Srt acc → Srt (l.foldl (allStep kind fro til) acc) ∧ ∀ x, x ∈ l.foldl (allStep kind fro til) acc ↔ x ∈ acc ∨ ∃ e ∈ l, inDays fro til e = true ∧ x ∈ namesOf e kind
  | [], acc, h => ⟨h, by simp⟩
  | e :: r, acc, h => by
    have h1 : Srt (allStep kind fro til acc e) ∧ ∀ x, x ∈ allStep kind fro til acc e ↔ x ∈ acc ∨ (inDays fro til e = true ∧ x ∈ namesOf e kind) := by
      unfold allStep
      split
      · rename_i hd
        have := foldS (namesOf e kind) acc h
        exact ⟨this.1, fun x => by rw [this.2]; simp [hd]⟩
      · rename_i hd
        exact ⟨h, fun x => by simp [hd]⟩
    have h2 := foldAll kind fro til r _ h1.1
    refine ⟨h2.1, fun x => ?_⟩
    rw [List.foldl_cons, h2.2, h1.2]
    simp only [List.mem_cons, exists_eq_or_imp, or_assoc]
theorem allL_sorted (kind fro til : Int) (l : List Ev) : Srt (allL kind fro til l) := (foldAll kind fro til l [] List.Pairwise.nil).1
theorem allL_mem (kind fro til : Int) (l : List Ev) (x : ByteArray) : x ∈ allL kind fro til l ↔ ∃ e ∈ l, inDays fro til e = true ∧ x ∈ namesOf e kind := by
  rw [allL, (foldAll kind fro til l [] List.Pairwise.nil).2]; simp

/-! The order of keys. -/
theorem cmp_day {a b : Ky} (h : a.1 < b.1) : cmpK a b < 0 := by
  rw [cmpK_eq]
  have : Lib.compareInt a.1 b.1 = -1 := by unfold Lib.compareInt; rw [if_pos h]
  simp only [Ord.lex2, this]; rw [if_pos (by decide)]; decide
theorem cmp_kind {a b : Ky} (h0 : a.1 = b.1) (h : a.2.1 < b.2.1) : cmpK a b < 0 := by
  rw [cmpK_eq]
  have e1 : Lib.compareInt a.1 b.1 = 0 := (Ord.int.eq _ _).2 h0
  have : Lib.compareInt a.2.1 b.2.1 = -1 := by unfold Lib.compareInt; rw [if_pos h]
  simp only [Ord.lex2, this, e1]; rw [if_neg (by decide), if_pos (by decide)]; decide
theorem cmp_name {a b : Ky} (h0 : a.1 = b.1) (h1 : a.2.1 = b.2.1) (h : cb a.2.2 b.2.2 < 0) : cmpK a b < 0 := by
  rw [cmpK_eq]
  have e1 : Lib.compareInt a.1 b.1 = 0 := (Ord.int.eq _ _).2 h0
  have e2 : Lib.compareInt a.2.1 b.2.1 = 0 := (Ord.int.eq _ _).2 h1
  simp only [Ord.lex2, e1, e2]
  exact h
theorem kle_cmp {a b : Ky} (h : cmpK a b < 0) : kle a b = true := by
  unfold kle
  rw [Ord.TW.lt]
  have := (cmpK_tw.anti a b).1 h
  simp; omega
theorem cmp_ne {a b : Ky} (h : cmpK a b < 0) : a ≠ b := by
  rintro rfl
  have := (cmpK_tw.eq a a).2 rfl
  omega

/-! All keys. -/
def fullKeys (l : List Ev) (d : Int) : List Ky := (d, 0, ⟨#[]⟩) :: midKeys l d 4
theorem kind_mem {l : List Ev} {d : Int} {k : Nat} {x : Ky} : x ∈ kindKeys l d k ↔ x.1 = d ∧ x.2.1 = (k : Int) ∧ x.2.2 ∈ allL k d d l := by
  unfold kindKeys
  rw [List.mem_map]
  constructor
  · rintro ⟨n, hn, rfl⟩; exact ⟨rfl, rfl, hn⟩
  · obtain ⟨a, b, c⟩ := x
    rintro ⟨rfl, h2, h3⟩
    exact ⟨c, h3, by simp only at h2; rw [h2]⟩
theorem mid_mem {l : List Ev} {d : Int} {x : Ky} : x ∈ midKeys l d 4 ↔ ∃ k : Nat, 1 ≤ k ∧ k ≤ 3 ∧ x ∈ kindKeys l d k := by
  rw [show midKeys l d 4 = (([] ++ kindKeys l d 1) ++ kindKeys l d 2) ++ kindKeys l d 3 from rfl]
  simp only [List.mem_append, List.not_mem_nil, false_or]
  constructor
  · rintro ((h | h) | h)
    · exact ⟨1, by omega, by omega, h⟩
    · exact ⟨2, by omega, by omega, h⟩
    · exact ⟨3, by omega, by omega, h⟩
  · rintro ⟨k, h1, h3, h⟩
    obtain rfl | rfl | rfl : k = 1 ∨ k = 2 ∨ k = 3 := by omega
    · exact .inl (.inl h)
    · exact .inl (.inr h)
    · exact .inr h
theorem keys_of {e : Ev} {x : Ky} : x ∈ e.keys ↔ x.1 = e.day ∧ ((x.2.1 = 0 ∧ x.2.2 = ⟨#[]⟩) ∨ ∃ k : Nat, 1 ≤ k ∧ k ≤ 3 ∧ x.2.1 = (k : Int) ∧ x.2.2 ∈ namesOf e k) := by
  obtain ⟨a, b, c⟩ := x
  unfold Ev.keys
  simp only [List.mem_cons, List.mem_append, List.mem_map, List.not_mem_nil, or_false, Prod.mk.injEq]
  constructor
  · rintro (⟨rfl, rfl, rfl⟩ | (⟨g, h, rfl, rfl, rfl⟩ | ⟨g, h, rfl, rfl, rfl⟩) | ⟨rfl, rfl, rfl⟩)
    · exact ⟨rfl, .inl ⟨rfl, rfl⟩⟩
    · exact ⟨rfl, .inr ⟨1, by omega, by omega, rfl, by simpa [namesOf] using h⟩⟩
    · exact ⟨rfl, .inr ⟨2, by omega, by omega, rfl, by simpa [namesOf] using h⟩⟩
    · exact ⟨rfl, .inr ⟨3, by omega, by omega, rfl, by simp [namesOf]⟩⟩
  · rintro ⟨rfl, ⟨rfl, rfl⟩ | ⟨k, h1, h3, rfl, h⟩⟩
    · exact .inl ⟨rfl, rfl, rfl⟩
    · obtain rfl | rfl | rfl : k = 1 ∨ k = 2 ∨ k = 3 := by omega
      · exact .inr (.inl (.inl ⟨c, by simpa [namesOf] using h, rfl, rfl, rfl⟩))
      · exact .inr (.inl (.inr ⟨c, by simpa [namesOf] using h, rfl, rfl, rfl⟩))
      · exact .inr (.inr ⟨rfl, rfl, by simpa [namesOf] using h⟩)
theorem full_mem {l : List Ev} {d : Int} {x : Ky} (hd : ∃ e ∈ l, e.day = d) : x ∈ fullKeys l d ↔ x.1 = d ∧ ∃ e ∈ l, x ∈ e.keys := by
  unfold fullKeys
  rw [List.mem_cons, mid_mem]
  constructor
  · rintro (rfl | ⟨k, h1, h3, hk⟩)
    · obtain ⟨e, he, rfl⟩ := hd
      exact ⟨rfl, e, he, keys_of.2 ⟨rfl, .inl ⟨rfl, rfl⟩⟩⟩
    · obtain ⟨h4, h5, h6⟩ := kind_mem.1 hk
      obtain ⟨e, he, hin, hn⟩ := (allL_mem _ _ _ _ _).1 h6
      have : e.day = d := by simp [inDays] at hin; omega
      exact ⟨h4, e, he, keys_of.2 ⟨h4.trans this.symm, .inr ⟨k, h1, h3, h5, hn⟩⟩⟩
  · rintro ⟨h0, e, he, hx⟩
    obtain ⟨h1, ⟨h2, h3⟩ | ⟨k, k1, k3, h4, h5⟩⟩ := keys_of.1 hx
    · exact .inl (Prod.ext h0 (Prod.ext h2 h3))
    · exact .inr ⟨k, k1, k3, kind_mem.2 ⟨h0, h4, (allL_mem _ _ _ _ _).2 ⟨e, he, by simp [inDays]; omega, h5⟩⟩⟩
theorem full_day {l : List Ev} {d : Int} {x : Ky} (h : x ∈ fullKeys l d) : x.1 = d := by
  unfold fullKeys at h
  rw [List.mem_cons, mid_mem] at h
  rcases h with rfl | ⟨k, _, _, hk⟩
  · rfl
  · exact (kind_mem.1 hk).1
theorem kind_sorted (l : List Ev) (d : Int) (k : Nat) : (kindKeys l d k).Pairwise fun a b => cmpK a b < 0 := by
  unfold kindKeys
  rw [List.pairwise_map]
  exact List.Pairwise.imp (R := fun a b => cb a b < 0) (fun {a b} h => cmp_name (a := (d, (k : Int), a)) (b := (d, (k : Int), b)) rfl rfl h) (allL_sorted k d d l)
theorem full_sorted (l : List Ev) (d : Int) : (fullKeys l d).Pairwise fun a b => cmpK a b < 0 := by
  unfold fullKeys
  rw [List.pairwise_cons]
  constructor
  · intro x hx
    obtain ⟨k, h1, _, hk⟩ := mid_mem.1 hx
    obtain ⟨h4, h5, _⟩ := kind_mem.1 hk
    exact cmp_kind h4.symm (by rw [h5]; show (0 : Int) < _; omega)
  · rw [show midKeys l d 4 = (([] ++ kindKeys l d 1) ++ kindKeys l d 2) ++ kindKeys l d 3 from rfl, List.nil_append, List.pairwise_append, List.pairwise_append]
    have hlt : ∀ {i j : Nat}, i < j → ∀ {a b : Ky}, a ∈ kindKeys l d i → b ∈ kindKeys l d j → cmpK a b < 0 := by
      intro i j hij a b ha hb
      obtain ⟨a1, a2, _⟩ := kind_mem.1 ha
      obtain ⟨b1, b2, _⟩ := kind_mem.1 hb
      exact cmp_kind (a1.trans b1.symm) (by omega)
    refine ⟨⟨kind_sorted _ _ _, kind_sorted _ _ _, fun a ha b hb => hlt (by omega) ha hb⟩, kind_sorted _ _ _, fun a ha b hb => ?_⟩
    rcases List.mem_append.1 ha with ha | ha
    · exact hlt (by omega) ha hb
    · exact hlt (by omega) ha hb
def bigKeys (l : List Ev) : List Ky := (daysM (l.map (·.day))).flatMap (fullKeys l)
theorem days_has {l : List Ev} {d : Int} : d ∈ daysM (l.map (·.day)) ↔ ∃ e ∈ l, e.day = d := by
  have hD := (daysM_foldl (l.map (·.day)) [] (by simp)).2 d
  rw [show d ∈ daysM (l.map (·.day)) ↔ d ∈ ([] : List Int) ∨ d ∈ l.map (·.day) from hD]
  simp
theorem big_sorted (l : List Ev) : (bigKeys l).Pairwise fun a b => cmpK a b < 0 := by
  unfold bigKeys
  rw [List.pairwise_flatMap]
  refine ⟨fun d _ => full_sorted l d, ?_⟩
  refine (daysM_foldl (l.map (·.day)) [] (by simp)).1.imp ?_
  intro a b hab x hx y hy
  exact cmp_day (by rw [full_day hx, full_day hy]; exact hab)
theorem big_mem {l : List Ev} {x : Ky} : x ∈ bigKeys l ↔ x ∈ (addEvs l).map (·.1) := by
  unfold bigKeys addEvs
  rw [keys_mem, List.mem_flatMap]
  simp only [List.map_nil, List.not_mem_nil, false_or]
  constructor
  · rintro ⟨d, hd, hx⟩
    exact ((full_mem (days_has.1 hd)).1 hx).2
  · rintro ⟨e, he, hx⟩
    have : ∃ y ∈ l, y.day = e.day := ⟨e, he, rfl⟩
    exact ⟨e.day, days_has.2 this, (full_mem this).2 ⟨(keys_of.1 hx).1, e, he, hx⟩⟩
theorem addEvs_nodup (l : List Ev) : ((addEvs l).map (·.1)).Nodup := nodup_foldl l (f := []) (by simp)
theorem big_perm (l : List Ev) : (bigKeys l).Perm ((addEvs l).map (·.1)) :=
  (List.perm_ext_iff_of_nodup (List.nodup_iff_pairwise_ne.2 ((big_sorted l).imp cmp_ne)) (addEvs_nodup l)).2 fun _ => big_mem

/-! What is forgotten. -/
theorem keys_forget (before : Int) (f : List (Ky × Ct)) : (forgetL before f).map (·.1) = (f.map (·.1)).filter fun k => !goneK before k := by
  unfold forgetL
  rw [List.filter_map]; rfl
theorem gone_full (before : Int) (l : List Ev) (d : Int) : (fullKeys l d).filter (fun k => !goneK before k) = dayKeys before l d := by
  have hm : ∀ x ∈ midKeys l d 4, x.1 = d ∧ x.2.1 ≠ 0 := by
    intro x hx
    obtain ⟨k, h1, _, hk⟩ := mid_mem.1 hx
    obtain ⟨h4, h5, _⟩ := kind_mem.1 hk
    exact ⟨h4, by omega⟩
  unfold fullKeys dayKeys
  rw [List.filter_cons_of_pos (by simp [goneK])]
  congr 1
  split
  · rename_i hb
    rw [List.filter_eq_self]
    intro x hx
    have := hm x hx
    simp [goneK]; omega
  · rename_i hb
    rw [List.filter_eq_nil_iff]
    intro x hx
    have := hm x hx
    simp [goneK, this.2]; omega
def goneKeys (before : Int) (l : List Ev) (d : Int) : List Ky := if d < before then midKeys l d 4 else []
theorem full_gone (before : Int) (l : List Ev) (d : Int) : (fullKeys l d).filter (goneK before) = goneKeys before l d := by
  have hm : ∀ x ∈ midKeys l d 4, x.1 = d ∧ x.2.1 ≠ 0 := by
    intro x hx
    obtain ⟨k, h1, _, hk⟩ := mid_mem.1 hx
    obtain ⟨h4, h5, _⟩ := kind_mem.1 hk
    exact ⟨h4, by omega⟩
  unfold fullKeys goneKeys
  rw [List.filter_cons_of_neg (by simp [goneK])]
  split
  · rename_i hb
    rw [List.filter_eq_self]
    intro x hx
    have := hm x hx
    simp [goneK, this.2]; omega
  · rename_i hb
    rw [List.filter_eq_nil_iff]
    intro x hx
    have := hm x hx
    simp [goneK, this.2]; omega
theorem keysM_big (before : Int) (l : List Ev) : keysM before l = (bigKeys l).filter fun k => !goneK before k := by
  unfold keysM bigKeys
  rw [List.filter_flatMap]
  congr 1
  funext d
  exact (gone_full before l d).symm
/-- The keys of what is left, in order. -/
theorem law_keys (before : Int) (l : List Ev) : skeys ((forgetL before (addEvs l)).map (·.1)) = keysM before l := by
  refine sorted_unique (skeys_sorted _) ?_ ((skeys_perm _).trans ?_)
  · rw [keysM_big]
    exact ((big_sorted l).imp kle_cmp).sublist List.filter_sublist
  · rw [keysM_big, keys_forget]
    exact ((big_perm l).filter _).symm
/-- How many are forgotten. -/
def goneN (before : Int) (l : List Ev) : List Ky := (daysM (l.map (·.day))).flatMap (goneKeys before l)
theorem law_gone (before : Int) (l : List Ev) : ((addEvs l).map (·.1)).countP (goneK before) = (goneN before l).length := by
  rw [← (big_perm l).countP_eq, List.countP_eq_length_filter]
  unfold goneN bigKeys
  rw [List.filter_flatMap]
  congr 2
  funext d
  exact full_gone before l d
theorem law_again (before : Int) (f : List (Ky × Ct)) : ((forgetL before f).map (·.1)).countP (goneK before) = 0 := by
  rw [keys_forget, List.countP_eq_zero]
  intro x hx
  have := (List.mem_filter.1 hx).2
  simpa using this
theorem sumA_forget (g : Ct → Int) (before : Int) : ∀ (f : List (Ky × Ct)), sumA g isTotal (forgetL before f) = sumA g isTotal f
  | [] => rfl
  | p :: r => by
    have ih := sumA_forget g before r
    unfold forgetL at ih ⊢
    by_cases h : goneK before p.1 = true
    · rw [List.filter_cons_of_neg (by simp [h]), ih]
      have : isTotal p.1 = false := by
        unfold goneK at h
        simp at h
        simp [isTotal, h.1]
      simp [sumA, this]
    · rw [List.filter_cons_of_pos (by simpa using h)]
      simp only [sumA, ih]
theorem law_total2 (before : Int) (l : List Ev) (he : ∀ e ∈ l, e.err = 0) : sumM isTotal (forgetL before (addEvs l)) = ofL 0 ⟨#[]⟩ 0 80000 l := by
  rw [← law_total l he]
  unfold sumM
  rw [sumA_forget, sumA_forget]

/-! The count of a key. -/
theorem cntAt_cons (p : Ky × Ct) (r : List (Ky × Ct)) (x : Ky) : cntAt (p :: r) x = if p.1 = x then p.2 else cntAt r x := by
  unfold cntAt Mp.getM
  by_cases h : p.1 = x
  · rw [if_pos h, List.find?_cons_of_pos (by simpa using h)]; rfl
  · rw [if_neg h, List.find?_cons_of_neg (by simpa using h)]
theorem cntAt_forget (before : Int) {x : Ky} (hx : goneK before x = false) : ∀ (f : List (Ky × Ct)), cntAt (forgetL before f) x = cntAt f x
  | [] => rfl
  | p :: r => by
    have ih := cntAt_forget before hx r
    unfold forgetL at ih ⊢
    by_cases h : goneK before p.1 = true
    · rw [List.filter_cons_of_neg (by simp [h]), ih, cntAt_cons, if_neg]
      rintro rfl
      rw [hx] at h
      cases h
    · rw [List.filter_cons_of_pos (by simpa using h), cntAt_cons, cntAt_cons, ih]
theorem ofB_one (x k : Ky) : ofB x.2.1 x.2.2 x.1 x.1 k = true ↔ k = x := by
  obtain ⟨a, b, c⟩ := x
  obtain ⟨d, e, f⟩ := k
  simp only [ofB, Bool.and_eq_true, decide_eq_true_eq, beq_iff_eq, Prod.mk.injEq]
  constructor
  · intro h
    refine ⟨?_, ?_, ?_⟩ <;> (first | omega | (simp_all))
  · rintro ⟨rfl, rfl, rfl⟩
    simp
theorem sumA_one (g : Ct → Int) (hg : g (0, 0) = 0) (x : Ky) : ∀ (f : List (Ky × Ct)), (f.map (·.1)).Nodup → sumA g (ofB x.2.1 x.2.2 x.1 x.1) f = g (cntAt f x)
  | [], _ => by simp [sumA, cntAt, Mp.getM, hg]
  | p :: r, hn => by
    rw [List.map_cons, List.nodup_cons] at hn
    have ih := sumA_one g hg x r hn.2
    rw [cntAt_cons]
    simp only [sumA, ih]
    by_cases h : p.1 = x
    · rw [if_pos ((ofB_one x p.1).2 h), if_pos h]
      have h0 : cntAt r x = (0, 0) := by
        unfold cntAt
        rw [Mp.getM_none (by rintro q hq rfl; exact hn.1 (h ▸ List.mem_map_of_mem hq))]; rfl
      rw [h0, hg]; omega
    · rw [if_neg (fun e => h ((ofB_one x p.1).1 e)), if_neg h]; omega
theorem countP_day {e : Ev} (d : Int) : e.keys.countP (ofB 0 ⟨#[]⟩ d d) = if ofOne 0 ⟨#[]⟩ d d e = true then 1 else 0 := by
  have e3 : [((e.day, 3, e.auth) : Ky)] = [e.auth].map (fun g => ((e.day, 3, g) : Ky)) := rfl
  unfold Ev.keys
  rw [List.countP_cons, List.countP_append, List.countP_append, e3, countP_no _ _ _ _ _ _ e.gs (fun h => by omega), countP_no _ _ _ _ _ _ e.ss (fun h => by omega), countP_no _ _ _ _ _ _ [e.auth] (fun h => by omega)]
  have : ofB 0 ⟨#[]⟩ d d (e.day, 0, ⟨#[]⟩) = ofOne 0 ⟨#[]⟩ d d e := by simp [ofB, ofOne]
  rw [this]; simp
def rightK (x : Ky) : Prop := (x.2.1 = 0 ∧ x.2.2 = ⟨#[]⟩) ∨ (1 ≤ x.2.1 ∧ x.2.1 ≤ 3 ∧ x.2.2 ≠ ⟨#[]⟩)
theorem one_foldl (x : Ky) (hx : rightK x) : ∀ (l : List Ev) (f : List (Ky × Ct)), (f.map (·.1)).Nodup → (∀ e ∈ l, e.err = 0) →
    sumA Prod.fst (ofB x.2.1 x.2.2 x.1 x.1) (l.foldl addEv f) = sumA Prod.fst (ofB x.2.1 x.2.2 x.1 x.1) f + (cntL l x).1 ∧
    sumA Prod.snd (ofB x.2.1 x.2.2 x.1 x.1) (l.foldl addEv f) = sumA Prod.snd (ofB x.2.1 x.2.2 x.1 x.1) f + (cntL l x).2
  | [], f, _, _ => by simp [cntL, ofL]
  | e :: r, f, hn, he => by
    have h0 := he e (by simp)
    obtain ⟨i1, i2⟩ := one_foldl x hx r (addEv f e) (nodup_addKs _ hn) (fun x hx => he x (by simp [hx]))
    have hc : e.keys.countP (ofB x.2.1 x.2.2 x.1 x.1) = if ofOne x.2.1 x.2.2 x.1 x.1 e = true then 1 else 0 := by
      rcases hx with ⟨a, b⟩ | ⟨a, b, c⟩
      · rw [a, b]; exact countP_day x.1
      · exact countP_keys h0 _ _ _ _ a b c
    rw [List.foldl_cons, i1, i2]
    unfold addEv
    rw [sumA_addKs_fst _ _ _ _ hn, sumA_addKs_snd _ _ _ _ hn, hc]
    unfold cntL
    rw [ofL_cons]
    split <;> simp <;> omega
theorem names_right {e : Ev} (h : e.err = 0) (ha : e.au.length = 16) {x : Ky} (hx : x ∈ e.keys) : rightK x := by
  obtain ⟨_, h1 | ⟨k, k1, k3, h4, h5⟩⟩ := keys_of.1 hx
  · exact .inl h1
  · refine .inr ⟨by omega, by omega, fun hn => ?_⟩
    rw [hn] at h5
    obtain ⟨m1, m2⟩ := names_ne h
    unfold namesOf at h5
    split at h5
    · exact auth_ne ha (List.mem_singleton.1 h5).symm
    · split at h5
      · exact m2 h5
      · exact m1 h5
/-- The count of a key that is left. -/
theorem law_cnt (before : Int) (l : List Ev) (he : ∀ e ∈ l, e.err = 0 ∧ e.au.length = 16) {x : Ky} (hx : x ∈ keysM before l) : cntAt (forgetL before (addEvs l)) x = cntL l x := by
  rw [keysM_big] at hx
  obtain ⟨h1, h2⟩ := List.mem_filter.1 hx
  rw [cntAt_forget before (by simpa using h2)]
  have hr : rightK x := by
    have := big_mem.1 h1
    unfold addEvs at this
    rw [keys_mem] at this
    rcases this with h | ⟨e, hm, hk⟩
    · cases h
    · exact names_right (he e hm).1 (he e hm).2 hk
  have hs := one_foldl x hr l [] (by simp) (fun e h => (he e h).1)
  have e1 := sumA_one Prod.fst rfl x (addEvs l) (addEvs_nodup l)
  have e2 := sumA_one Prod.snd rfl x (addEvs l) (addEvs_nodup l)
  unfold addEvs at e1 e2 ⊢
  rw [hs.1] at e1
  rw [hs.2] at e2
  simp only [sumA] at e1 e2
  exact Prod.ext (by omega) (by omega)
theorem keysM_right {before : Int} {l : List Ev} (he : ∀ e ∈ l, e.err = 0 ∧ e.au.length = 16) {x : Ky} (hx : x ∈ keysM before l) : rightK x ∧ ∃ e ∈ l, x ∈ e.keys := by
  rw [keysM_big] at hx
  have := big_mem.1 (List.mem_filter.1 hx).1
  unfold addEvs at this
  rw [keys_mem] at this
  rcases this with h | ⟨e, hm, hk⟩
  · cases h
  · exact ⟨names_right (he e hm).1 (he e hm).2 hk, e, hm, hk⟩
end Go.Proofs.YticcfbeocepnpaaGreatDoor
