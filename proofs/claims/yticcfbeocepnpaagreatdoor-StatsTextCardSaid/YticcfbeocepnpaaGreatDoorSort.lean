/-
  The sorted keys of counts.
-/
import Derived.Test.YticcfbeocepnpaaGreatDoorCmp
import Derived.Test.YticcfbeocepnpaaGreatDoorOrd
import Derived.Test.YticcfbeocepnpaaGreatDoorShelfSort
import Derived.Sort.OwnSorted
set_option linter.unusedSimpArgs false
set_option maxRecDepth 100000
namespace Go.Proofs.YticcfbeocepnpaaGreatDoor
open Go.RowKit Go.Shelf Go.Sort Pl

theorem cmpK_eq : cmpK = fun x y => Ord.lex2 (Lib.compareInt x.1 y.1) (Ord.lex2 (Lib.compareInt x.2.1 y.2.1) (Lib.compareBytes x.2.2.data.toList y.2.2.data.toList)) := by
  funext x y; rfl
theorem bytes_inj (x y : ByteArray) (h : x.data.toList = y.data.toList) : x = y := by
  obtain ⟨⟨a⟩⟩ := x
  obtain ⟨⟨b⟩⟩ := y
  simp only at h
  rw [h]
theorem cmpK_tw : Ord.TW cmpK := by
  rw [cmpK_eq]
  exact Ord.int.lex (Ord.int.lex (Ord.bytes.comap (fun x : ByteArray => x.data.toList) bytes_inj))

/-- The keys in order. -/
def kle (x y : Ky) : Bool := !(ltOf cmpK y x)
def skeys (l : List Ky) : List Ky := l.mergeSort kle
theorem skeys_length (l : List Ky) : (skeys l).length = l.length := List.length_mergeSort _
theorem skeys_perm (l : List Ky) : (skeys l).Perm l := List.mergeSort_perm _ _

section
theorem flat_get {α : Type} (enc : α → List Value) (k : Nat) (hk : ∀ x, (enc x).length = k) (hk0 : 0 < k) : ∀ (l : List α) (j : Nat), (l.flatMap enc)[j]? = (l[j / k]?).bind fun x => (enc x)[j % k]?
  | [], j => by simp
  | x :: r, j => by
    rw [List.flatMap_cons, List.getElem?_append]
    by_cases h : j < (enc x).length
    · rw [if_pos h]
      rw [hk] at h
      rw [Nat.div_eq_of_lt h, Nat.mod_eq_of_lt h]; rfl
    · rw [if_neg h]
      rw [hk] at h
      rw [flat_get enc k hk hk0 r, hk, show j / k = (j - k) / k + 1 from by rw [← Nat.sub_add_cancel (show k ≤ j by omega), Nat.add_div_right _ hk0, Nat.add_sub_cancel], show j % k = (j - k) % k from by
        conv => lhs; rw [← Nat.sub_add_cancel (show k ≤ j by omega), Nat.add_mod_right]]
      rfl
theorem flat_length {α : Type} (enc : α → List Value) (k : Nat) (hk : ∀ x, (enc x).length = k) : ∀ l : List α, (l.flatMap enc).length = l.length * k
  | [] => by simp
  | x :: r => by rw [List.flatMap_cons, List.length_append, flat_length enc k hk r, hk, List.length_cons, Nat.add_mul]; omega
theorem flatK_flat {α : Type} [Inhabited α] (enc : α → List Value) (k : Nat) (hk : ∀ x, (enc x).length = k) (hk0 : 0 < k) (l : List α) : (flatK enc k l.toArray).toList = l.flatMap enc := by
  apply List.ext_getElem?
  intro j
  rw [flat_get enc k hk hk0]
  by_cases h : j < l.length * k
  · have h1 : j / k < l.length := Nat.div_lt_of_lt_mul (by rw [Nat.mul_comm]; exact h)
    have h2 := get_flatK enc k l.toArray j (by simpa using h)
    have h3 : j % k < k := Nat.mod_lt _ hk0
    rw [Array.getElem?_toList, Array.getElem?_eq_getElem (by rw [size_flatK]; simpa using h)]
    rw [getElem!_pos _ _ (by rw [size_flatK]; simpa using h)] at h2
    rw [h2, List.getElem?_eq_getElem h1]
    have h4 : j % k < (enc (l.toArray[j / k]!)).length := by rw [hk]; exact h3
    rw [getElem!_pos (enc (l.toArray[j / k]!)) (j % k) h4]
    have h5 : l.toArray[j / k]! = l[j / k] := by rw [getElem!_pos _ _ (by simpa using h1)]; simp
    simp only [h5, Option.bind_some]
    rw [List.getElem?_eq_getElem (by rw [hk]; exact h3)]
  · have h1 : l.length ≤ j / k := (Nat.le_div_iff_mul_le hk0).2 (by omega)
    rw [List.getElem?_eq_none (by rw [Array.length_toList, size_flatK]; simpa using h), List.getElem?_eq_none h1]; rfl
end
theorem keyC_len (x : Ky) : (keyC x).length = 3 := rfl

theorem holdsK_own {w : World} {base g cap : Nat} {ss : List Ky} (h : w.ownsRow base 64 3 (.slice (some ⟨g, 0, none⟩) ss.length cap) ss.length (ss.flatMap keyC)) : HoldsK keyC 3 w g 0 ss.toArray := by
  intro j hj
  rw [size_flatK] at hj
  have hj' : j < ss.length * 3 := by simpa using hj
  refine ⟨?_, by rw [Nat.zero_add]; exact h.frozenAt j⟩
  rw [Nat.zero_add, h.cellAt j hj', ← flatK_flat keyC 3 keyC_len (by omega), Array.getElem?_toList, Array.getElem?_eq_getElem (by rw [size_flatK]; simpa using hj'), getElem!_pos _ _ (by rw [size_flatK]; simpa using hj')]
  rfl
theorem grownBy_putK {w : World} {g n : Nat} {os : Array Obj} (d : Array Value) : w.grownBy (grow (putRow id (Sort.ahead w n) g 0 d) os) (some g) := by
  refine ⟨rfl, rfl, rfl, by simp, fun k hk hne => ?_⟩
  rw [heap_grow_old _ _ (by simpa using hk)]
  have : g ≠ k := fun e => hne (by rw [e])
  simp [putRow, mapBlock, Sort.ahead, Array.getElem?_modify, this]
theorem heap_putK {w : World} {g n : Nat} {os : Array Obj} {cur : Array Value} {e : TypeId} {fr : Nat × Nat} (d : Array Value) (hb : w.heap[g]? = some (.cells cur e fr)) :
    (grow (putRow id (Sort.ahead w n) g 0 d) os).heap[g]? = some (.cells (putCells id 0 d cur) e fr) := by
  have hg : g < w.heap.size := (Array.getElem?_eq_some_iff.1 hb).1
  rw [heap_grow_old _ _ (by simpa using hg)]
  simp [putRow, mapBlock, Sort.ahead, Array.getElem?_modify, hb, onCells]
theorem take_putK (cur d : Array Value) (h : d.size ≤ cur.size) : (putCells id 0 d cur).toList.take d.size = d.toList := by
  apply List.ext_getElem?
  intro j
  by_cases hj : j < d.size
  · rw [List.getElem?_take_of_lt hj, Array.getElem?_toList, Array.getElem?_toList]
    simp only [putCells, Array.getElem?_mapIdx]
    rw [Array.getElem?_eq_getElem (by omega)]
    simp [hj]
  · rw [List.getElem?_eq_none (by simp; omega), List.getElem?_eq_none (by simpa using hj)]
theorem ownsRow_putK {w : World} {base g cap n m : Nat} {e : TypeId} {os : Array Obj} {xs : List Value} {d : Array Value} (h : w.ownsRow base e 3 (.slice (some ⟨g, 0, none⟩) m cap) m xs) (hd : d.size = m * 3) :
    (grow (putRow id (Sort.ahead w n) g 0 d) os).ownsRow base e 3 (.slice (some ⟨g, 0, none⟩) m cap) m d.toList := by
  obtain ⟨h1, ⟨h2, _⟩ | ⟨g', cap', cur, h2, h3, h4, h5, h6, h7, h8⟩⟩ := h
  · cases h2
  · cases h2
    refine ⟨by rw [Array.length_toList, hd], .inr ⟨g, cap, _, rfl, h3, heap_putK d h4, h5, h6, by simp [putCells, h7], ?_⟩⟩
    rw [← hd]
    exact take_putK cur d (by rw [hd, h7]; exact Nat.mul_le_mul_right 3 h5)

theorem ownsRow_base {W : World} {base base' : Nat} {e : TypeId} {size : Nat} {v : Value} {k : Nat} {xs : List Value} (h : W.ownsRow base e size v k xs) (hb : base' ≤ base) : W.ownsRow base' e size v k xs := by
  refine ⟨h.1, ?_⟩
  rcases h.2 with hn | ⟨g, cap, cur, hv, hbg, rest⟩
  · exact .inl hn
  · exact .inr ⟨g, cap, cur, hv, Nat.le_trans hb hbg, rest⟩

theorem key_isAgg : ∀ w, (isAgg 64).run Tryz.prog w = .ok true w := fun w => by kernel_rfl
theorem key_sizeOf : ∀ w, (Go.sizeOf 64).run Tryz.prog w = .ok 3 w := fun w => by kernel_rfl

set_option maxHeartbeats 1000000 in
theorem sortFunc_any (base g cap : Nat) (ss : List Ky) (w : World) (h : w.ownsRow base 64 3 (.slice (some ⟨g, 0, none⟩) ss.length cap) ss.length (ss.flatMap keyC)) (hbase : base ≤ w.heap.size) (hss : ss.length ≤ 1000000) :
    Calls Tryz.prog 83 #[.slice (some ⟨g, 0, none⟩) ss.length cap, .func (.func 63) #[] #[]] w fun e w' =>
      e = .returned (.tuple #[]) ∧ w'.ownsRow base 64 3 (.slice (some ⟨g, 0, none⟩) ss.length cap) ss.length ((skeys ss).flatMap keyC) ∧ Below base w w' := by
  have hg := h.lt g rfl
  have hcmp : CmpLays Tryz.prog 63 #[] keyC 3 cmpK g 0 ss.toArray.size w := fun m os dk hs x y =>
    (compare_any x y _).mono fun e w' ⟨he, hl⟩ => ⟨he, grow_of_later hl⟩
  have hcon := AnyQ.slices_SortFunc_total Tryz.sortKeys 3 key_isAgg key_sizeOf keyC keyC_len (fun x v hv => by simp [keyC] at hv; rcases hv with rfl | rfl | rfl <;> rfl) cmpK cmpK_tw.swo 63 #[] g 0 cap ss.toArray w
    (enters_of Tryz.func63 (by kernel_rfl) rfl) hcmp (holdsK_own h) hg.2 (by simp; omega) cmpK_tw.total
  refine (show Calls Tryz.prog 83 #[.slice (some ⟨g, 0, none⟩) ss.length cap, .func (.func 63) #[] #[]] w _ from hcon).mono ?_
  rintro e w' ⟨rfl, n, os, rfl⟩
  have hsz : (flatK keyC 3 (skeys ss).toArray).size = ss.length * 3 := by rw [size_flatK]; simp [skeys_length]
  refine ⟨rfl, ?_, (Below.refl _ _).grown (grownBy_putK (flatK keyC 3 (skeys ss).toArray)) hbase (fun k e => by cases e; exact hg.1)⟩
  have := ownsRow_putK (n := n) (os := os) h hsz
  rw [flatK_flat keyC 3 keyC_len (by omega)] at this
  exact this
theorem kle_trans (a b c : Ky) : kle a b = true → kle b c = true → kle a c = true := by
  unfold kle
  simp only [Bool.not_eq_true']
  intro h1 h2
  exact cmpK_tw.swo.ntrans c b a h2 h1
theorem kle_total (a b : Ky) : (kle a b || kle b a) = true := by
  unfold kle
  cases h1 : ltOf cmpK b a
  · rfl
  · cases h2 : ltOf cmpK a b
    · rfl
    · have := cmpK_tw.swo.trans a b a h2 h1
      rw [cmpK_tw.swo.irrefl] at this
      cases this
theorem kle_antisymm (a b : Ky) (h1 : kle a b = true) (h2 : kle b a = true) : a = b := by
  unfold kle at h1 h2
  simp only [Bool.not_eq_true'] at h1 h2
  exact cmpK_tw.total a b h2 h1
theorem skeys_sorted (l : List Ky) : (skeys l).Pairwise fun a b => kle a b = true := List.pairwise_mergeSort kle_trans kle_total l
theorem sorted_unique : ∀ {a b : List Ky}, (a.Pairwise fun x y => kle x y = true) → (b.Pairwise fun x y => kle x y = true) → a.Perm b → a = b
  | [], b, _, _, h => (List.Perm.nil_eq h)
  | x :: r, [], _, _, h => by have := h.length_eq; simp at this
  | x :: r, y :: s, ha, hb, h => by
    rw [List.pairwise_cons] at ha hb
    have e : x = y := by
      have hx : x ∈ y :: s := h.subset (by simp)
      have hy : y ∈ x :: r := h.symm.subset (by simp)
      rcases List.mem_cons.1 hx with rfl | hx
      · rfl
      · rcases List.mem_cons.1 hy with rfl | hy
        · rfl
        · exact kle_antisymm x y (ha.1 y hy) (hb.1 x hx)
    subst e
    rw [sorted_unique ha.2 hb.2 (List.Perm.cons_inv h)]
theorem skeys_congr {a b : List Ky} (h : a.Perm b) : skeys a = skeys b := sorted_unique (skeys_sorted a) (skeys_sorted b) ((skeys_perm a).trans (h.trans (skeys_perm b).symm))

set_option maxHeartbeats 1000000 in
theorem sortedFunc_any (Bm b : Nat) (f : List (Ky × Ct)) (w : World) (hBm : Bm < w.heap.size) (hm : w.cell? ⟨Bm, 0, none⟩ = some (.map (some b))) (hown : CMap w b f) (hN : f.length ≤ 1000000) :
    Calls Tryz.prog 61 #[.func (.func 84) #[] #[.pointer (some ⟨Bm, 0, none⟩)], .func (.func 63) #[] #[]] w fun e w' => ∃ v : Value, e = .returned v ∧
      w'.ownsRow w.heap.size 64 3 v f.length ((skeys (f.map (·.1))).flatMap keyC) ∧ Below w.heap.size w w' := by
  have HC := hide (collect_any Bm b f w hBm hm hown hN)
  clear hm hown
  go_enter Tryz.func61, Tryz.ntmps61
  go_wp2_with fail
  refine HC.out.mono ?_
  rintro e w1 ⟨v, ss, rfl, hp, hrow, hnil, hb⟩
  have HP := hide hp
  have HROW := hide hrow
  have HB := hide hb
  have hlen : ss.length = f.length := by have := hp.length_eq; simpa using this
  have HLEN := hide hlen
  clear hp hb hlen
  rcases hrow.2 with ⟨rfl, hz⟩ | ⟨g, cap, cur, rfl, hr⟩
  · clear hrow hnil
    have HZ := hide hz
    clear hz
    have hs0 : ss = [] := List.eq_nil_of_length_eq_zero HZ.out
    have HS0 := hide hs0
    clear hs0
    have HN : Hid (∀ fv, Calls Tryz.prog 83 #[.slice none 0 0, fv] w1 fun e w' => e = .returned (.tuple #[]) ∧ w' = w1) := hide fun fv => AnyF.slices_SortFunc_none { Tryz.sortKeys with } none 0 fv w1
    go_wp2_with fail
    refine (HN.out _).mono ?_
    rintro e w2 ⟨rfl, rfl⟩
    go_wp2_with fail
    go_ret
    refine ⟨_, rfl, ?_, HB.out⟩
    rw [← HLEN.out, HS0.out, skeys_congr HP.out.symm, HS0.out, show skeys ([] : List Ky) = [] from by simp [skeys]]
    exact World.ownsRow_nil _ _ _ _
  · clear hrow hnil hr
    have HS := hide (sortFunc_any w.heap.size g cap ss w1 HROW.out HB.out.size (by rw [HLEN.out]; exact hN))
    go_wp2_with fail
    refine HS.out.mono ?_
    rintro e w2 ⟨rfl, h2, h3⟩
    have H2 := hide h2
    have H3 := hide h3
    clear h2 h3
    go_wp2_with fail
    go_ret
    refine ⟨_, rfl, ?_, HB.out.trans H3.out⟩
    rw [← HLEN.out, skeys_congr HP.out.symm]
    exact H2.out

set_option maxHeartbeats 1000000 in
/-- 'sorted'. -/
theorem sorted_any (sb mb : Nat) (f : List (Ky × Ct)) (z : List Int) (w : World) (hs : SAt w sb mb f z) (hN : f.length ≤ 1000000) :
    Calls Tryz.prog 36 #[.pointer (some ⟨sb, 0, none⟩)] w fun e w' => ∃ v : Value, e = .returned v ∧ w'.ownsRow w.heap.size 64 3 v f.length ((skeys (f.map (·.1))).flatMap keyC) ∧ Below w.heap.size w w' := by
  have hc0 := hs.c0
  have HM := hide hs.map
  clear hs
  have HB1 : Hid (Below w.heap.size w (w.alloc (.cells #[.map (some mb)] 70))) := hide ((Below.refl _ _).alloc (Nat.le_refl _) _)
  have HSF := hide (sortedFunc_any w.heap.size mb f (w.alloc (.cells #[.map (some mb)] 70)) (by simp) (by go_simp) (Mp.IsMap.below HM.out HB1.out) hN)
  have HK := hide (keys_any (some mb) w)
  go_enter Tryz.func36, Tryz.ntmps36
  go_wp2_with fail
  refine HK.out.mono ?_
  rintro e w1 ⟨rfl, rfl⟩
  go_wp2_with fail
  refine HSF.out.mono ?_
  rintro e w2 ⟨v, rfl, h2, h3⟩
  have H2 := hide h2
  have H3 := hide h3
  clear h2 h3
  go_wp2_with fail
  go_ret
  exact ⟨v, rfl, ownsRow_base H2.out (by simp), HB1.out.trans (H3.out.mono (by simp))⟩
end Go.Proofs.YticcfbeocepnpaaGreatDoor
