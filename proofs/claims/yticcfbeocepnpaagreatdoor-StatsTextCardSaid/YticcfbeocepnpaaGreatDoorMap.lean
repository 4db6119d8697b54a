/-
  Maps whose keys and elements are spelled by a Lean function: look-up, store, ranging. Over any program.
-/
import Derived.Maps.Range
import Derived.Maps.Own
import Derived.DeepKeys4
import Derived.WalkKit
namespace Go.Proofs.YticcfbeocepnpaaGreatDoor
namespace Mp
open Go.ChangeMaps Go.MapKept Go.RowKit
open Go.Maps (Keyed)
set_option linter.unusedSectionVars false
set_option linter.unusedSimpArgs false
variable {κ γ : Type} [DecidableEq κ] {P : Program} {k : TypeId} {eK : κ → Value} {eV : γ → Value} {ok : κ → Prop} {w : World} {b : Nat} {f : List (κ × γ)}

/-- How the keys of a map type are spelled. -/
structure Enc (P : Program) (k : TypeId) (eK : κ → Value) (ok : κ → Prop) : Prop where
  keyed : Keyed P k
  lit : ∀ a, ok a → ∃ l, keyOf P k (eK a) = some l
  inj : ∀ a c, eK a = eK c → a = c

def kv (e : MapEntry) : Value × Value := (e.key, e.val)
def pv (eK : κ → Value) (eV : γ → Value) (p : κ × γ) : Value × Value := (eK p.1, eV p.2)

/-- Block b of w is a map that reads as f. -/
def IsMap (eK : κ → Value) (eV : γ → Value) (ok : κ → Prop) (w : World) (b : Nat) (f : List (κ × γ)) : Prop :=
  ∃ es clock, w.heap[b]? = some (.map es clock) ∧ es.toList.map kv = f.map (pv eK eV) ∧ Stamped es clock ∧ ∀ p ∈ f, ok p.1

/-- The element of a key. -/
def getM (f : List (κ × γ)) (a : κ) : Option γ := (f.find? fun p => decide (p.1 = a)).map (·.2)
/-- The map with another element at a key. -/
def putM (f : List (κ × γ)) (a : κ) (c : γ) : List (κ × γ) :=
  if a ∈ f.map (·.1) then f.map (fun p => if p.1 = a then (a, c) else p) else f ++ [(a, c)]

theorem nodup_keys {es : Array MapEntry} {clock : Nat} (hs : Stamped es clock) (hm : es.toList.map kv = f.map (pv eK eV)) : (f.map (·.1)).Nodup := by
  have h3 := (stamped_iff es clock).1 hs |>.2.2
  have h4 : (es.toList.map (·.key)).Nodup := by
    rw [List.nodup_iff_pairwise_ne, List.pairwise_map]
    exact h3
  have h5 : es.toList.map (·.key) = (f.map (·.1)).map eK := by
    have := congrArg (List.map Prod.fst) hm
    simpa [List.map_map, Function.comp_def, kv, pv] using this
  rw [h5] at h4
  rw [List.nodup_iff_pairwise_ne, List.pairwise_map] at h4
  rw [List.nodup_iff_pairwise_ne]
  exact h4.imp (fun h e => h (by rw [e]))

theorem getM_none {a : κ} (h : ∀ p ∈ f, p.1 ≠ a) : getM f a = none := by
  unfold getM
  rw [List.find?_eq_none.2 (by intro p hp; simpa using h p hp)]; rfl
theorem getM_some {a : κ} {c : γ} (hn : (f.map (·.1)).Nodup) (h : (a, c) ∈ f) : getM f a = some c := by
  induction f with
  | nil => cases h
  | cons p r ih =>
    unfold getM at ih ⊢
    simp only [List.map_cons, List.nodup_cons] at hn
    by_cases hp : p.1 = a
    · rw [List.find?_cons_of_pos (by simpa using hp)]
      rcases List.mem_cons.1 h with rfl | h
      · rfl
      · exact absurd (List.mem_map.2 ⟨(a, c), h, hp.symm⟩) hn.1
    · rw [List.find?_cons_of_neg (by simpa using hp)]
      rcases List.mem_cons.1 h with rfl | h
      · exact absurd rfl hp
      · exact ih hn.2 h

theorem IsMap.keys (h : IsMap eK eV ok w b f) : (f.map (·.1)).Nodup := by
  obtain ⟨es, clock, _, hm, hs, _⟩ := h
  exact nodup_keys hs hm
theorem IsMap.lt (h : IsMap eK eV ok w b f) : b < w.heap.size := by
  obtain ⟨es, clock, hb, _⟩ := h
  exact (Array.getElem?_eq_some_iff.1 hb).1
theorem IsMap.of_block {w' : World} (h : IsMap eK eV ok w b f) (hb : w'.heap[b]? = w.heap[b]?) : IsMap eK eV ok w' b f := by
  obtain ⟨es, clock, h1, r⟩ := h
  exact ⟨es, clock, hb.trans h1, r⟩
theorem IsMap.below {w' : World} (h : IsMap eK eV ok w b f) (hb : Below w.heap.size w w') : IsMap eK eV ok w' b f := h.of_block (hb.block b h.lt)
theorem IsMap.grown {w' : World} {row : Option Nat} (h : IsMap eK eV ok w b f) (hg : w.grownBy w' row) (hr : some b ≠ row) : IsMap eK eV ok w' b f := h.of_block (hg.block b h.lt hr)
theorem isMap_made (w : World) (eK : κ → Value) (eV : γ → Value) (ok : κ → Prop) : IsMap eK eV ok (w.alloc (.map #[] 0)) w.heap.size [] :=
  ⟨#[], 0, heap_alloc_new w _, rfl, stamped_empty 0, by simp⟩

theorem entry_of {es : Array MapEntry} (hm : es.toList.map kv = f.map (pv eK eV)) {j : Nat} {e : MapEntry} (h : es.toList[j]? = some e) : ∃ p, f[j]? = some p ∧ e.key = eK p.1 ∧ e.val = eV p.2 := by
  have := congrArg (fun l => l[j]?) hm
  simp only [List.getElem?_map, h, Option.map_some] at this
  cases hp : f[j]? with
  | none => rw [hp] at this; simp at this
  | some p => rw [hp] at this; simp [kv, pv] at this; exact ⟨p, rfl, this.1, this.2⟩
theorem of_entry {es : Array MapEntry} (hm : es.toList.map kv = f.map (pv eK eV)) {j : Nat} {p : κ × γ} (h : f[j]? = some p) : ∃ e, es.toList[j]? = some e ∧ e.key = eK p.1 ∧ e.val = eV p.2 := by
  have := congrArg (fun l => l[j]?) hm
  simp only [List.getElem?_map, h, Option.map_some] at this
  cases he : es.toList[j]? with
  | none => rw [he] at this; simp at this
  | some e => rw [he] at this; simp [kv, pv] at this; exact ⟨e, rfl, this.1, this.2⟩
theorem keys_lit (E : Enc P k eK ok) {es : Array MapEntry} (hm : es.toList.map kv = f.map (pv eK eV)) (hok : ∀ p ∈ f, ok p.1) : ∀ e ∈ es.toList, ∃ l, keyOf P k e.key = some l := by
  intro e he
  obtain ⟨j, hj⟩ := List.getElem?_of_mem he
  obtain ⟨p, hp, h1, _⟩ := entry_of hm hj
  rw [h1]
  exact E.lit p.1 (hok p (List.mem_of_getElem? hp))

/-- What the search for a key comes to. -/
theorem find_cases (E : Enc P k eK ok) (w : World) {es : Array MapEntry} {clock : Nat} (hs : Stamped es clock) (hm : es.toList.map kv = f.map (pv eK eV)) (hok : ∀ p ∈ f, ok p.1) {a : κ} (ha : ok a) :
    ((Instr.findKey k (eK a) es.toList).run P w = .ok none w ∧ (∀ e ∈ es.toList, e.key ≠ eK a) ∧ getM f a = none ∧ a ∉ f.map (·.1)) ∨
    ∃ j e c, (Instr.findKey k (eK a) es.toList).run P w = .ok (some (j, e.val)) w ∧ es.toList[j]? = some e ∧ e.key = eK a ∧ e.val = eV c ∧ f[j]? = some (a, c) ∧ getM f a = some c := by
  obtain ⟨l, hl⟩ := E.lit a ha
  rcases E.keyed.find w hl es.toList (keys_lit E hm hok) with ⟨h1, h2⟩ | ⟨j, e, h1, h2, h3⟩
  · left
    have hne : ∀ p ∈ f, p.1 ≠ a := fun p hp he => by
      obtain ⟨j, hj⟩ := List.getElem?_of_mem hp
      obtain ⟨e, he', hk, _⟩ := of_entry hm hj
      exact h2 e (List.mem_of_getElem? he') (by rw [hk, he])
    refine ⟨h1, h2, getM_none hne, ?_⟩
    intro hmem
    obtain ⟨p, hp, hpa⟩ := List.mem_map.1 hmem
    exact hne p hp hpa
  · right
    obtain ⟨p, hp, hk, hv⟩ := entry_of hm h2
    have hpa : p.1 = a := E.inj _ _ (by rw [← hk, h3])
    obtain ⟨p1, p2⟩ := p
    simp only at hpa hv
    subst hpa
    exact ⟨j, e, p2, h1, h2, h3, hv, hp, getM_some (nodup_keys hs hm) (List.mem_of_getElem? hp)⟩

/-- 'm[k]'. -/
theorem IsMap.lookup (h : IsMap eK eV ok w b f) (E : Enc P k eK ok) {t e : TypeId} (ht : P.underlying t = some (.map k e)) {z : Value} (hz : (zeroValue e).run P w = .ok z w) {a : κ} (ha : ok a) :
    (Instr.lookup t (.map (some b)) (eK a) false).run P w = .ok (((getM f a).map eV).getD z) w := by
  obtain ⟨es, clock, hb, hm, hs, hok⟩ := h
  obtain ⟨l, hl⟩ := E.lit a ha
  rcases find_cases E w hs hm hok ha with ⟨h1, _, h3, _⟩ | ⟨j, e', c, h1, _, _, h4, _, h6⟩
  · simp [Instr.lookup, run_underlying ht, MapKept.run_getObj_map hb, E.keyed.check w _ hl, h1, hz, h3, Result.andThen]
  · simp [Instr.lookup, run_underlying ht, MapKept.run_getObj_map hb, E.keyed.check w _ hl, h1, h4, h6, Result.andThen]
/-- 'v, ok := m[k]'. -/
theorem IsMap.lookup_ok (h : IsMap eK eV ok w b f) (E : Enc P k eK ok) {t e : TypeId} (ht : P.underlying t = some (.map k e)) {z : Value} (hz : (zeroValue e).run P w = .ok z w) {a : κ} (ha : ok a) :
    (Instr.lookup t (.map (some b)) (eK a) true).run P w = .ok (.tuple #[((getM f a).map eV).getD z, .bool (getM f a).isSome]) w := by
  obtain ⟨es, clock, hb, hm, hs, hok⟩ := h
  obtain ⟨l, hl⟩ := E.lit a ha
  rcases find_cases E w hs hm hok ha with ⟨h1, _, h3, _⟩ | ⟨j, e', c, h1, _, _, h4, _, h6⟩
  · simp [Instr.lookup, run_underlying ht, MapKept.run_getObj_map hb, E.keyed.check w _ hl, h1, hz, h3, Result.andThen]
  · simp [Instr.lookup, run_underlying ht, MapKept.run_getObj_map hb, E.keyed.check w _ hl, h1, h4, h6, Result.andThen]

theorem modify_list {α : Type} (g : α → α) : ∀ (l : List α) (j : Nat), l.modify j g = l.mapIdx (fun i x => if i = j then g x else x)
  | l, j => by
    apply List.ext_getElem?
    intro i
    rw [List.getElem?_modify, List.getElem?_mapIdx]
    by_cases h : j = i
    · subst h; cases l[j]? <;> simp
    · have h' : ¬ i = j := fun e => h e.symm
      cases l[i]? <;> simp [h, h']

/-- 'm[k] = v'. -/
theorem IsMap.update (h : IsMap eK eV ok w b f) (E : Enc P k eK ok) {t e : TypeId} (ht : P.underlying t = some (.map k e)) {a : κ} (ha : ok a) (c : γ) :
    ∃ w', (Instr.mapUpdate t (.map (some b)) (eK a) (eV c)).run P w = .ok () w' ∧ IsMap eK eV ok w' b (putM f a c) ∧ w.grownBy w' (some b) := by
  obtain ⟨es, clock, hb, hm, hs, hok⟩ := h
  obtain ⟨l, hl⟩ := E.lit a ha
  have grow : ∀ o, w.grownBy (setBlock w b o) (some b) := fun o => ⟨rfl, rfl, rfl, by simp [setBlock], fun i _ hi => heap_setBlock_other hb _ (fun e => hi (by rw [e]))⟩
  rcases find_cases E w hs hm hok ha with ⟨h1, h2, h3, h4⟩ | ⟨j, e', c', h1, h2, h3, h4, h5, h6⟩
  · refine ⟨setBlock w b (.map (es.push ⟨eK a, eV c, clock⟩) (clock + 1)), ?_, ⟨_, _, heap_setBlock_same hb _, ?_, stamped_push hs h2, ?_⟩, grow _⟩
    · simp [Instr.mapUpdate, run_underlying ht, MapKept.run_getObj_map hb, E.keyed.check w false hl, h1, MapKept.run_setObj_map _ hb, Result.andThen, setBlock]
    · unfold putM
      rw [if_neg h4]
      simp [hm, kv, pv]
    · unfold putM
      rw [if_neg h4]
      intro p hp
      rcases List.mem_append.1 hp with hp | hp
      · exact hok p hp
      · simp at hp; rw [hp]; exact ha
  · have hmem : a ∈ f.map (·.1) := List.mem_map.2 ⟨(a, c'), List.mem_of_getElem? h5, rfl⟩
    have hej : es[j]? = some e' := by rw [← Array.getElem?_toList]; exact h2
    refine ⟨setBlock w b (.map (es.modify j fun e => { e with key := eK a, val := eV c }) clock), ?_, ⟨_, _, heap_setBlock_same hb _, ?_, ?_, ?_⟩, grow _⟩
    · simp [Instr.mapUpdate, run_underlying ht, MapKept.run_getObj_map hb, E.keyed.check w false hl, h1, hej, h3, E.keyed.stays w hl, MapKept.run_setObj_map _ hb, Result.andThen, setBlock]
    · have hnd := nodup_keys hs hm
      unfold putM
      rw [if_pos hmem]
      apply List.ext_getElem?
      intro i
      rw [Array.toList_modify, List.getElem?_map, List.getElem?_modify, List.getElem?_map, List.getElem?_map]
      have hi := congrArg (fun l => l[i]?) hm
      simp only [List.getElem?_map] at hi
      by_cases hij : j = i
      · subst hij
        rw [h2, h5]
        simp [kv, pv]
      · cases hfi : f[i]? with
        | none =>
          rw [hfi] at hi
          cases hei : es.toList[i]? with
          | none => simp [hei]
          | some x => rw [hei] at hi; simp at hi
        | some p =>
          obtain ⟨x, hx, k1, v1⟩ := of_entry hm hfi
          have hpa : p.1 ≠ a := by
            intro hpa
            have e1 : (f.map (·.1))[i]? = some a := by rw [List.getElem?_map, hfi]; simp [hpa]
            have e2 : (f.map (·.1))[j]? = some a := by rw [List.getElem?_map, h5]; rfl
            exact hij ((List.getElem?_inj (List.getElem?_eq_some_iff.1 e2).1 hnd).1 (by rw [e2, e1]))
          rw [hx]
          simp [hij, hpa, kv, pv, k1, v1]
    · exact stamped_modify hs j _ (fun _ _ => rfl) (fun x _ hx => by rw [hej] at hx; cases hx; exact h3.symm)
    · unfold putM
      rw [if_pos hmem]
      intro p hp
      obtain ⟨q, hq, rfl⟩ := List.mem_map.1 hp
      split
      · exact ha
      · exact hok q hq

/-- Block r of w ranges over the map in block b, which reads as f; `left` is still to come. -/
structure IterAt (eK : κ → Value) (eV : γ → Value) (ok : κ → Prop) (w : World) (b r : Nat) (f left : List (κ × γ)) : Prop where
  ex : ∃ es clock since seen c0, w.heap[b]? = some (.map es clock) ∧ es.toList.map kv = f.map (pv eK eV) ∧ Stamped es clock ∧ (∀ p ∈ f, ok p.1) ∧
    w.heap[r]? = some (.mapIter (some b) since seen c0) ∧ (∀ x ∈ es.toList, x.born < since) ∧ since ≤ c0 ∧ since ≤ clock ∧
    (es.toList.filter fun e => !seen.contains e.born).map kv = left.map (pv eK eV)
  sub : left.Sublist f

theorem IterAt.lt {r : Nat} {left : List (κ × γ)} (h : IterAt eK eV ok w b r f left) : b < w.heap.size ∧ r < w.heap.size ∧ b ≠ r := by
  obtain ⟨⟨es, clock, since, seen, c0, hb, _, _, _, hr, _⟩, _⟩ := h
  refine ⟨(Array.getElem?_eq_some_iff.1 hb).1, (Array.getElem?_eq_some_iff.1 hr).1, ?_⟩
  rintro rfl
  rw [hb] at hr
  cases hr
theorem IterAt.isMap {r : Nat} {left : List (κ × γ)} (h : IterAt eK eV ok w b r f left) : IsMap eK eV ok w b f := by
  obtain ⟨⟨es, clock, since, seen, c0, hb, hm, hs, hok, _⟩, _⟩ := h
  exact ⟨es, clock, hb, hm, hs, hok⟩
theorem IterAt.of_blocks {w' : World} {r : Nat} {left : List (κ × γ)} (h : IterAt eK eV ok w b r f left) (hb : w'.heap[b]? = w.heap[b]?) (hr : w'.heap[r]? = w.heap[r]?) : IterAt eK eV ok w' b r f left := by
  obtain ⟨⟨es, clock, since, seen, c0, h1, h2, h3, h4, h5, h6⟩, hs⟩ := h
  exact ⟨⟨es, clock, since, seen, c0, hb.trans h1, h2, h3, h4, hr.trans h5, h6⟩, hs⟩
theorem IterAt.below {w' : World} {r : Nat} {left : List (κ × γ)} (h : IterAt eK eV ok w b r f left) (hb : Below w.heap.size w w') : IterAt eK eV ok w' b r f left := h.of_blocks (hb.block b h.lt.1) (hb.block r h.lt.2.1)

theorem filter_out {es : List MapEntry} {seen : Array Nat} {e : MapEntry} (hn : (es.map (·.born)).Nodup) {l1 l2 : List MapEntry} (h : (es.filter fun x => !seen.contains x.born) = l1 ++ e :: l2) :
    (es.filter fun x => !(seen.push e.born).contains x.born) = l1 ++ l2 := by
  have e1 : (es.filter fun x => !(seen.push e.born).contains x.born) = (es.filter fun x => !seen.contains x.born).filter (fun x => !(x.born == e.born)) := by
    rw [List.filter_filter]
    congr 1
    funext x
    rw [contains_push]
    cases seen.contains x.born <;> cases (x.born == e.born) <;> rfl
  have hn2 : ((l1 ++ e :: l2).map (·.born)).Nodup := by
    rw [← h]
    exact hn.sublist ((List.filter_sublist).map _)
  rw [e1, h, List.filter_append, List.filter_cons]
  simp only [beq_self_eq_true, Bool.not_true, Bool.false_eq_true, if_false]
  rw [List.map_append, List.map_cons, List.nodup_append] at hn2
  obtain ⟨_, h2, h3⟩ := hn2
  rw [List.nodup_cons] at h2
  congr 1
  · refine List.filter_eq_self.2 fun x hx => ?_
    have := h3 x.born (List.mem_map.2 ⟨x, hx, rfl⟩) e.born (List.mem_cons_self ..)
    simpa using this
  · refine List.filter_eq_self.2 fun x hx => ?_
    have : x.born ≠ e.born := fun he => h2.1 (List.mem_map.2 ⟨x, hx, he⟩)
    simpa using this

theorem IsMap.range (h : IsMap eK eV ok w b f) {t k' e : TypeId} (ht : P.underlying t = some (.map k' e)) :
    ∃ w', (Instr.range t (.map (some b))).run P w = .ok (.pointer (some ⟨w.heap.size, 0, none⟩)) w' ∧ IterAt eK eV ok w' b w.heap.size f f ∧ w.grownBy w' none ∧ w'.heap.size = w.heap.size + 1 := by
  have hlt := h.lt
  obtain ⟨es, clock, hb, hm, hs, hok⟩ := h
  refine ⟨_, run_range_map w t k' e b es clock ht hb, ⟨⟨es, clock, clock, #[], clock, ((MapKept.heap_alloc w _).2 b hlt).trans hb, hm, hs, hok, (MapKept.heap_alloc w _).1, ((stamped_iff es clock).1 hs).1, Nat.le_refl _, Nat.le_refl _, ?_⟩, List.Sublist.refl _⟩, World.grownBy_alloc w _ none, by simp⟩
  rw [← hm]
  congr 1
  exact List.filter_eq_self.2 fun x _ => by simp

theorem IterAt.next {r : Nat} {left : List (κ × γ)} (h : IterAt eK eV ok w b r f left) (ty : TypeId) :
    (left = [] ∧ (Instr.next (.pointer (some ⟨r, 0, none⟩)) false ty).run P w = .ok (.tuple #[.bool false]) w) ∨
    ∃ p left' w', left.Perm (p :: left') ∧ (Instr.next (.pointer (some ⟨r, 0, none⟩)) false ty).run P w = .ok (.tuple #[.bool true, eK p.1, eV p.2]) w' ∧
      IterAt eK eV ok w' b r f left' ∧ p ∈ f ∧ w.grownBy w' (some r) ∧ w'.heap.size = w.heap.size ∧ (Instr.entry (.pointer (some ⟨r, 0, none⟩))).run P w' = .ok (.tuple #[eK p.1, eV p.2]) w' := by
  have hne := h.lt.2.2
  obtain ⟨⟨es, clock, since, seen, c0, hb, hm, hs, hok, hr, hold, hsc, hsk, hl⟩, hsub⟩ := h
  have hleft : (leftOf es seen).toList = es.toList.filter fun e => !seen.contains e.born := by unfold leftOf; rw [Array.toList_filter]
  rcases run_next_at (P := P) w ty r b since c0 seen es clock hr hb hold hsc with ⟨h0, hrun⟩ | ⟨e, he, w1, hal, hrun⟩
  · refine Or.inl ⟨?_, hrun⟩
    have : (leftOf es seen).toList.length = 0 := by rw [Array.length_toList]; exact h0
    rw [hleft] at this
    have h2 := congrArg List.length hl
    rw [List.length_map, List.length_map, this] at h2
    exact List.eq_nil_of_length_eq_zero h2.symm
  · have hem := (mem_left he).1
    have hnd := ((stamped_iff es clock).1 hs).2.1
    rw [hleft] at he
    obtain ⟨l1, l2, hsplit⟩ := List.append_of_mem he
    rw [hsplit, List.map_append, List.map_cons] at hl
    obtain ⟨m1, m2, rfl, hm1, hm2⟩ := List.map_eq_append_iff.1 hl.symm
    obtain ⟨p, m3, rfl, hp, hm3⟩ := List.map_eq_cons_iff.1 hm2
    have hk : e.key = eK p.1 := (congrArg Prod.fst hp).symm
    have hv : e.val = eV p.2 := (congrArg Prod.snd hp).symm
    have hr1 : w1.heap[r]? = some (.mapIter (some b) since seen c0) := by rcases hal with rfl | rfl <;> exact hr
    have hb1 : w1.heap[b]? = some (.map es clock) := by rcases hal with rfl | rfl <;> exact hb
    have hset := heap_set (o' := .mapIter (some b) since (seen.push e.born) clock) hr1
    have hb' : (setBlock w1 r (.mapIter (some b) since (seen.push e.born) clock)).heap[b]? = some (.map es clock) := (hset.2 b hne).trans hb1
    refine Or.inr ⟨p, m1 ++ m3, _, List.perm_middle, by rw [← hk, ← hv]; exact hrun, ⟨⟨es, clock, since, seen.push e.born, clock, hb', hm, hs, hok, hset.1, hold, hsk, hsk, ?_⟩, ?_⟩, ?_, ?_, ?_, ?_⟩
    · rw [filter_out hnd hsplit, List.map_append, List.map_append, hm1, hm3]
    · exact (List.Sublist.append_left (List.sublist_cons_self p m3) m1).trans hsub
    · exact hsub.subset (by simp)
    · rcases hal with rfl | rfl <;> exact ⟨rfl, rfl, rfl, by simp [setBlock], fun i _ hi => hset.2 i (fun e1 => hi (by rw [e1]))⟩
    · rcases hal with rfl | rfl <;> simp [setBlock]
    · rw [← hk, ← hv]
      exact run_entry_at _ r b since seen es clock e hset.1 hb' hem hnd

theorem IterAt.left_eq {r : Nat} {left : List (κ × γ)} (h : IterAt eK eV ok w b r f left) : w.rangeLeft b r = left.length := by
  obtain ⟨⟨es, clock, since, seen, c0, hb, hm, hs, hok, hr, hold, hsc, hsk, hl⟩, hsub⟩ := h
  simp only [World.rangeLeft, hb, hr]
  have h2 := congrArg List.length hl
  rw [List.length_map, List.length_map] at h2
  rw [← h2, ← Array.length_toList]
  unfold leftOf
  rw [Array.toList_filter]

section ops
variable {ops : Array Oper} {rest : List Oper} {o : Oper} {a : Act} {Q : Exit → Act → World → Prop}
theorem wpList_range_is (hg : o.guard = none) (m : Operand) (t : TypeId) (hop : o.op = Op.range t m) (k' e : TypeId) (ht : P.underlying t = some (.map k' e)) 
    (hm : a.eval m = .map (some b)) (h : IsMap eK eV ok w b f)
    (hK : ∀ w', IterAt eK eV ok w' b w.heap.size f f → w.grownBy w' none → w'.heap.size = w.heap.size + 1 → wpList P ops Q rest (a.put o.dst (.pointer (some ⟨w.heap.size, 0, none⟩))) w') :
    wpList P ops Q (o :: rest) a w := by
  refine wpList_plain hg fun K' hK' => ?_
  obtain ⟨w', hrun, r1, r2, r3⟩ := h.range (P := P) ht
  unfold Oper.wp
  simp [execOp, hop, hm, hrun, Result.andThen]
  exact hK' _ _ (hK w' r1 r2 r3)

theorem wpList_next_is (hg : o.guard = none) (it : Operand) (hop : o.op = Op.next it false) {r : Nat} {left : List (κ × γ)} (hit : a.eval it = .pointer (some ⟨r, 0, none⟩)) (h : IterAt eK eV ok w b r f left)
    (hDone : left = [] → wpList P ops Q rest (a.put o.dst (.tuple #[.bool false])) w)
    (hMore : ∀ p left' w', left.Perm (p :: left') → IterAt eK eV ok w' b r f left' → p ∈ f → w.grownBy w' (some r) → w'.heap.size = w.heap.size → 
      (Instr.entry (.pointer (some ⟨r, 0, none⟩))).run P w' = .ok (.tuple #[eK p.1, eV p.2]) w' → wpList P ops Q rest (a.put o.dst (.tuple #[.bool true, eK p.1, eV p.2])) w') :
    wpList P ops Q (o :: rest) a w := by
  refine wpList_plain hg fun K' hK' => ?_
  unfold Oper.wp
  rcases h.next (P := P) o.type with ⟨h0, hrun⟩ | ⟨p, left', w', h1, hrun, h2, h3, h4, h5, h6⟩
  · simp [execOp, hop, hit, hrun, Result.andThen]
    exact hK' _ _ (hDone h0)
  · simp [execOp, hop, hit, hrun, Result.andThen]
    exact hK' _ _ (hMore p left' w' h1 h2 h3 h4 h5 h6)

theorem wpList_update_is (hg : o.guard = none) (m x v : Operand) (t : TypeId) (hop : o.op = Op.mapUpdate t m x v) (E : Enc P k eK ok) (e : TypeId) (ht : P.underlying t = some (.map k e)) 
    (hm : a.eval m = .map (some b)) (h : IsMap eK eV ok w b f) (y : κ) (hy : ok y) (hx : a.eval x = eK y) (c : γ) (hv : a.eval v = eV c)
    (hK : ∀ w', IsMap eK eV ok w' b (putM f y c) → w.grownBy w' (some b) → wpList P ops Q rest (a.put o.dst (.tuple #[])) w') :
    wpList P ops Q (o :: rest) a w := by
  refine wpList_plain hg fun K' hK' => ?_
  obtain ⟨w', hrun, r1, r2⟩ := h.update E ht hy c
  unfold Oper.wp
  simp [execOp, hop, hm, hx, hv, hrun, Result.andThen]
  exact hK' _ _ (hK w' r1 r2)
end ops
end Mp
end Go.Proofs.YticcfbeocepnpaaGreatDoor
