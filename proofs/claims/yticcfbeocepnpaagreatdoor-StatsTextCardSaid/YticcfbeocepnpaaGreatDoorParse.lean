/-
  Parse.
-/
import Derived.Test.YticcfbeocepnpaaGreatDoorMap
import Derived.Test.YticcfbeocepnpaaGreatDoorText
import Derived.Test.YticcfbeocepnpaaGreatDoorLawAdd
import Derived.Lib.Atoi
import Derived.Test.YticcfbeocepnpaaGreatDoorShelfNum
import Derived.Lib.AtoiErrMem
import Derived.Shelf.Strings.SlTrimAscii
import Derived.Deep.RegionWith
import Derived.BigQuiet
import Derived.Test.YticcfbeocepnpaaGreatDoorEq
import Derived.Test.YticcfbeocepnpaaGreatDoorIter
import Derived.RangeFuncNested
import Derived.RangeFuncBound
import Derived.RangeFuncCalls
import Derived.RangeFuncLeaves
import Derived.Shelf.Abstract
import Derived.Shelf.RegionOpen
import Derived.WalkKit
import Derived.OwnWalkIn
import Derived.TacticsInMore
import Derived.LoopNIn
import Derived.LoopIn
import Derived.Lib.IndexLaws
set_option linter.unusedSimpArgs false
set_option linter.unusedSectionVars false
namespace Go.Proofs.YticcfbeocepnpaaGreatDoor
open Go.RowKit
namespace Mp
open Go.ChangeMaps Go.MapKept
variable {κ γ : Type} [DecidableEq κ] {P : Program} {k : TypeId} {eK : κ → Value} {eV : γ → Value} {ok : κ → Prop} {w : World} {b : Nat} {f : List (κ × γ)}

theorem born_last {es : Array MapEntry} {clock : Nat} (hs : Stamped es clock) (p q : Value) : (es.push ⟨p, q, clock⟩).findIdx? (fun e => ((e.born : Nat) : Int) == ((clock : Nat) : Int)) = some es.size := by
  have h1 := ((stamped_iff es clock).1 hs).1
  have h0 : es.findIdx? (fun e => ((e.born : Nat) : Int) == ((clock : Nat) : Int)) = none := by
    rw [Array.findIdx?_eq_none_iff]
    intro e he
    have := h1 e (by simpa using he)
    simp only [beq_eq_false_iff_ne, ne_eq, Int.natCast_inj]
    omega
  rw [← Array.append_singleton, Array.findIdx?_append, h0]
  simp
theorem modify_push {α : Type} (xs : Array α) (a : α) (g : α → α) : (xs.push a).modify xs.size g = xs.push (g a) := by
  apply Array.ext_getElem?
  intro i
  rw [Array.getElem?_modify, Array.getElem?_push, Array.getElem?_push]
  by_cases h : xs.size = i
  · subst h; simp
  · have h2 : ¬ i = xs.size := fun e => h e.symm
    simp [h, h2]

/-- The entry made. -/
structure EntryAt (eK : κ → Value) (eV : γ → Value) (ok : κ → Prop) (w : World) (b : Nat) (f : List (κ × γ)) (a : κ) (st : Nat) : Prop where
  ex : ∃ (es : Array MapEntry) (z : Value), w.heap[b]? = some (.map (es.push ⟨eK a, z, st⟩) (st + 1)) ∧ es.toList.map kv = f.map (pv eK eV) ∧ Stamped es st
  new : ∀ (es : Array MapEntry) (z : Value), w.heap[b]? = some (.map (es.push ⟨eK a, z, st⟩) (st + 1)) → ∀ e ∈ es.toList, e.key ≠ eK a
  oks : ∀ p ∈ f, ok p.1
  ok1 : ok a

theorem IsMap.entry (h : IsMap eK eV ok w b f) (E : Enc P k eK ok) {t e : TypeId} (ht : P.underlying t = some (.map k e)) {z : Value} (hz : (zeroValue e).run P w = .ok z w) {a : κ} (ha : ok a) (hn : a ∉ f.map (·.1)) :
    ∃ (st : Nat) (w' : World), (Instr.mapEntry t (.map (some b)) (eK a)).run P w = .ok (.tuple #[z, goInt st]) w' ∧ EntryAt eK eV ok w' b f a st ∧ w.grownBy w' (some b) ∧ w'.heap.size = w.heap.size := by
  obtain ⟨es, clock, hb, hm, hs, hok⟩ := h
  obtain ⟨l, hl⟩ := E.lit a ha
  rcases find_cases E w hs hm hok ha with ⟨h1, h2, h3, h4⟩ | ⟨j, e', c', h1, h2, h3, h4, h5, h6⟩
  · refine ⟨clock, setBlock w b (.map (es.push ⟨eK a, z, clock⟩) (clock + 1)), ?_, ⟨⟨es, z, heap_setBlock_same hb _, hm, hs⟩, ?_, hok, ha⟩, ⟨rfl, rfl, rfl, by simp [setBlock], fun i _ hi => heap_setBlock_other hb _ (fun e => hi (by rw [e]))⟩, by simp [setBlock]⟩
    · simp [Instr.mapEntry, run_underlying ht, MapKept.run_getObj_map hb, E.keyed.check w false hl, h1, hz, MapKept.run_setObj_map _ hb, Result.andThen, setBlock]
    · intro es' z' h' e he
      rw [heap_setBlock_same hb] at h'
      simp only [Option.some.injEq, Obj.map.injEq] at h'
      have h7 := congrArg Array.toList h'.1
      rw [Array.toList_push, Array.toList_push] at h7
      have h8 := List.append_inj_left' h7 rfl
      exact h2 e (by rw [h8]; exact he)
  · exact absurd (List.mem_map.2 ⟨(a, c'), List.mem_of_getElem? h5, rfl⟩) hn
theorem EntryAt.of_block {w' : World} {a : κ} {st : Nat} (h : EntryAt eK eV ok w b f a st) (hb : w'.heap[b]? = w.heap[b]?) : EntryAt eK eV ok w' b f a st :=
  ⟨by rw [hb]; exact h.ex, by rw [hb]; exact h.new, h.oks, h.ok1⟩
theorem EntryAt.store {a : κ} {st : Nat} (h : EntryAt eK eV ok w b f a st) (t : TypeId) (c : γ) :
    ∃ w', (Instr.entryStore t (.map (some b)) (goInt st) (eV c)).run P w = .ok () w' ∧ IsMap eK eV ok w' b (f ++ [(a, c)]) ∧ w.grownBy w' (some b) ∧ w'.heap.size = w.heap.size := by
  obtain ⟨es, z, hb, hm, hs⟩ := h.ex
  have h2 := h.new es z hb
  refine ⟨setBlock w b (.map (es.push ⟨eK a, eV c, st⟩) (st + 1)), ?_, ⟨_, _, heap_setBlock_same hb _, ?_, stamped_push hs h2, ?_⟩, ⟨rfl, rfl, rfl, by simp [setBlock], fun i _ hi => heap_setBlock_other hb _ (fun e => hi (by rw [e]))⟩, by simp [setBlock]⟩
  · have hidx := born_last hs (eK a) z
    have hmod := modify_push es (⟨eK a, z, st⟩ : MapEntry) (fun e => { e with val := eV c })
    simp [Instr.entryStore, MapKept.run_getObj_map hb, asInt, asIntOf, goInt, hidx, hmod, MapKept.run_setObj_map _ hb, Result.andThen, setBlock]
  · simp [hm, kv, pv]
  · intro p hp
    rcases List.mem_append.1 hp with hp | hp
    · exact h.oks p hp
    · simp at hp; rw [hp]; exact h.ok1
end Mp
end Go.Proofs.YticcfbeocepnpaaGreatDoor
set_option linter.unusedSimpArgs false
set_option maxRecDepth 100000
namespace Go.Proofs.YticcfbeocepnpaaGreatDoor
open Go.RowKit Go.Shelf Pl

theorem ofNat48 {u : Nat} (h : u < 10) : (UInt8.ofNat (48 + u)).toNat = 48 + u := by
  rw [UInt8.toNat_ofNat']; omega
theorem dec_all : ∀ (n : Nat), ∀ b ∈ Lib.decDigits n, 48 ≤ b.toNat ∧ b.toNat ≤ 57 := by
  intro n
  induction n using Nat.strongRecOn with
  | _ n ih =>
    intro b hb
    rw [Lib.decDigits] at hb
    split at hb
    · rename_i h
      rw [List.mem_singleton.1 hb, ofNat48 h]; omega
    · rcases List.mem_append.1 hb with hb | hb
      · exact ih (n / 10) (by omega) b hb
      · rw [List.mem_singleton.1 hb, ofNat48 (Nat.mod_lt n (by omega))]
        have := Nat.mod_lt n (show 0 < 10 by omega)
        omega
theorem digitVal_dec {u : Nat} (h : u < 10) : Lib.digitVal (UInt8.ofNat (48 + u)) = some u := by
  unfold Lib.digitVal
  rw [ofNat48 h, if_pos (by omega)]
  congr 1; omega
theorem decFrom_snoc : ∀ (l : List UInt8) (acc m d : Nat) (b : UInt8), Lib.decFrom acc l = some m → Lib.digitVal b = some d → Lib.decFrom acc (l ++ [b]) = some (m * 10 + d)
  | [], acc, m, d, b, h, hb => by
    simp only [Lib.decFrom, Option.some.injEq] at h
    subst h
    simp [Lib.decFrom, hb]
  | x :: r, acc, m, d, b, h, hb => by
    rw [List.cons_append]
    unfold Lib.decFrom at h ⊢
    cases hx : Lib.digitVal x with
    | none => rw [hx] at h; cases h
    | some v => rw [hx] at h; exact decFrom_snoc r _ m d b h hb
theorem decFrom_dec : ∀ (n : Nat), Lib.decFrom 0 (Lib.decDigits n) = some n := by
  intro n
  induction n using Nat.strongRecOn with
  | _ n ih =>
    rw [Lib.decDigits]
    split
    · rename_i h
      unfold Lib.decFrom
      rw [digitVal_dec h]
      simp [Lib.decFrom]
    · rename_i h
      rw [decFrom_snoc _ 0 (n / 10) (n % 10) _ (ih (n / 10) (by omega)) (digitVal_dec (Nat.mod_lt n (by omega)))]
      congr 1; omega
theorem dec_ne (n : Nat) : ∃ b r, Lib.decDigits n = b :: r ∧ (b.toNat = 48 → n = 0 ∧ r = []) := by
  induction n using Nat.strongRecOn with
  | _ n ih =>
    rw [Lib.decDigits]
    split
    · rename_i h
      exact ⟨_, [], rfl, fun e => by rw [ofNat48 h] at e; exact ⟨by omega, rfl⟩⟩
    · rename_i h
      obtain ⟨b, r, e, hb⟩ := ih (n / 10) (by omega)
      refine ⟨b, r ++ [UInt8.ofNat (48 + n % 10)], by rw [e]; rfl, fun h0 => ?_⟩
      have := (hb h0).1
      omega
theorem atoi_dec (n : Nat) : Lib.atoi (Lib.decDigits n) = some (n : Int) := by
  obtain ⟨b, r, e, _⟩ := dec_ne n
  have hb := dec_all n b (by rw [e]; simp)
  have hd := decFrom_dec n
  rw [e] at hd ⊢
  have h1 : (b == 45) = false := by
    simp only [beq_eq_false_iff_ne, ne_eq]
    rintro rfl
    simp at hb
  have h2 : (b == 43) = false := by
    simp only [beq_eq_false_iff_ne, ne_eq]
    rintro rfl
    simp at hb
  simp [Lib.atoi, h1, h2, Lib.decNat, hd]
theorem dec_mem (b : UInt8) (h : 48 ≤ b.toNat ∧ b.toNat ≤ 57) : ([48, 49, 50, 51, 52, 53, 54, 55, 56, 57] : List UInt8).contains b = true := by
  have : ∀ k : Fin 256, 48 ≤ k.val → k.val ≤ 57 → ([48, 49, 50, 51, 52, 53, 54, 55, 56, 57] : List UInt8).contains (UInt8.ofNat k.val) = true := by decide
  have h2 := this ⟨b.toNat, b.toNat_lt⟩ h.1 h.2
  simpa using h2

set_option maxHeartbeats 2000000 in
/-- 'count'. -/
theorem scount_any (a b : Int) (w : World) (h1 : 1 ≤ a) (h2 : a ≤ 1000000) (h3 : b ≤ a * 65536) :
    Calls Tryz.prog 96 #[.agg #[.int .i64 a, .int .i64 b]] w fun e w' => e = .returned (.int .i64 0) ∧ Below w.heap.size w w' := by
  have hw : IntKind.i64.wrap (a * 65536) = a * 65536 := IntWalk.i64_in _ (by omega)
  go_enter Tryz.func96, Tryz.ntmps96
  go_wp2_with fail
  go_ret
  exact ⟨rfl, by (repeat (first | exact Below.refl _ _ | with_reducible assumption | (refine Below.setCell ?_ (by simp <;> omega) _) | (refine Below.alloc ?_ (by simp <;> omega) _)))⟩
set_option maxHeartbeats 2000000 in
/-- 'digit'. -/
theorem cdigit_lo (n : Nat) (w : World) (h : n < 10) : Calls Tryz.prog 147 #[.int .u8 (48 + (n : Int))] w fun e w' => e = .returned (.int .i64 (n : Int)) ∧ w' = w := by
  have hw : IntKind.u8.wrap (48 + (n : Int) - 48) = (n : Int) := by rw [IntWalk.u8_in _ (by omega)]; omega
  have hw2 : IntKind.i64.wrap (n : Int) = (n : Int) := IntWalk.i64_in _ (by omega)
  have h1 : (48 : Int) ≤ 48 + (n : Int) := by omega
  have h2 : 48 + (n : Int) ≤ 57 := by omega
  go_enter Tryz.func147, Tryz.ntmps147
  go_wp2_with fail
  go_ret
  exact ⟨rfl, rfl⟩
set_option maxHeartbeats 2000000 in
theorem cdigit_hi (n : Nat) (w : World) (h : n < 6) : Calls Tryz.prog 147 #[.int .u8 (97 + (n : Int))] w fun e w' => e = .returned (.int .i64 ((n : Int) + 10)) ∧ w' = w := by
  have hw : IntKind.u8.wrap (97 + (n : Int) - 97) = (n : Int) := by rw [IntWalk.u8_in _ (by omega)]; omega
  have hw2 : IntKind.i64.wrap (n : Int) = (n : Int) := IntWalk.i64_in _ (by omega)
  have hw3 : IntKind.i64.wrap ((n : Int) + 10) = (n : Int) + 10 := IntWalk.i64_in _ (by omega)
  have h1 : (48 : Int) ≤ 97 + (n : Int) := by omega
  have h2 : ¬ 97 + (n : Int) ≤ 57 := by omega
  have h3 : (97 : Int) ≤ 97 + (n : Int) := by omega
  have h4 : 97 + (n : Int) ≤ 102 := by omega
  go_enter Tryz.func147, Tryz.ntmps147
  go_wp2_with fail
  go_ret
  exact ⟨rfl, rfl⟩
set_option maxHeartbeats 4000000 in
/-- 'number' of a numeral. -/
theorem snumber_any (n : Nat) (w : World) (h : n < 10000000000) : Calls Tryz.prog 94 #[.string (decB n)] w fun e w' => e = .returned (.tuple #[.int .i64 (n : Int), .bool true]) ∧ Below w.heap.size w w' := by
  obtain ⟨b, r, hbr, hb0⟩ := dec_ne n
  have hsz := decB_20 h
  have hdl : (decB n).data.toList = Lib.decDigits n := by unfold decB; simp
  have h1 : 1 ≤ (decB n).size := by
    have : (decB n).data.toList.length = (decB n).size := by simp
    rw [hdl, hbr, List.length_cons] at this; omega
  have HTR : Hid (∀ w, Calls Tryz.prog 115 #[.string (decB n), .string ⟨#[48, 49, 50, 51, 52, 53, 54, 55, 56, 57]⟩] w fun e w' => e = .returned (.string ⟨#[]⟩) ∧ Below w.heap.size w w') := hide fun w => by
    have := Any.strings_Trim_laid Tryz.lays160 (by kernel_rfl) (decB n) ⟨#[48, 49, 50, 51, 52, 53, 54, 55, 56, 57]⟩ w (by omega) (by decide) (ascii_of_all (by decide))
    have e1 : Lib.trimS (decB n).data.toList (⟨#[48, 49, 50, 51, 52, 53, 54, 55, 56, 57]⟩ : ByteArray).data.toList = [] := by
      rw [hdl]
      have hd : ∀ l : List UInt8, (∀ x ∈ l, 48 ≤ x.toNat ∧ x.toNat ≤ 57) → l.dropWhile (([48, 49, 50, 51, 52, 53, 54, 55, 56, 57] : List UInt8).contains ·) = [] := by
        intro l
        induction l with
        | nil => intro _; rfl
        | cons x r ih =>
          intro hx
          rw [List.dropWhile_cons_of_pos (dec_mem x (hx x (by simp)))]
          exact ih (fun y hy => hx y (by simp [hy]))
      have hr : Lib.trimRightS (Lib.decDigits n) [48, 49, 50, 51, 52, 53, 54, 55, 56, 57] = [] := by
        unfold Lib.trimRightS
        rw [hd _ (fun x hx => dec_all n x (List.mem_reverse.1 hx))]; rfl
      unfold Lib.trimS
      rw [show (⟨#[48, 49, 50, 51, 52, 53, 54, 55, 56, 57]⟩ : ByteArray).data.toList = [48, 49, 50, 51, 52, 53, 54, 55, 56, 57] from rfl, hr]
      rfl
    rw [e1] at this
    exact this
  have HAT : Hid (∀ w, Calls Tryz.prog 116 #[.string (decB n)] w fun e w' => e = .returned (.tuple #[.int .i64 (n : Int), .nilIface]) ∧ Below w.heap.size w w') := hide fun w => by
    have := Any.strconv_Atoi Tryz.lays172 (decB n) (n : Int) (by omega) (by rw [hdl]; exact atoi_dec n) w
    refine (show Calls Tryz.prog 116 #[.string (decB n)] w _ from this).mono ?_
    rintro e w' ⟨rfl, t, rfl⟩
    exact ⟨rfl, Lib.bytesWorld_below _ _ _⟩
  obtain ⟨s, hs⟩ : ∃ s, decB n = s := ⟨_, rfl⟩
  rw [hs] at HTR HAT hsz h1 hdl ⊢
  clear hs
  have hne : s.toList.isEmpty = false := by
    rw [Lib.toList_data, hdl, hbr]; rfl
  have h15 : ¬ (15 : Int) < (s.size : Int) := by omega
  by_cases h2 : (1 : Int) < (s.size : Int)
  · have hlt : 0 < s.size := by omega
    have h48 : ¬ (((s[0]'hlt).toNat : Nat) : Int) = 48 := by
      intro e
      have h3 : s.data.toList[0]? = some (s[0]'hlt) := by
        have := get_data s 0 hlt
        simpa using this
      rw [hdl, hbr] at h3
      simp at h3
      have h4 := hb0 (by rw [h3]; omega)
      have h5 : s.data.toList.length = s.size := by simp
      rw [hdl, hbr, h4.2] at h5
      simp at h5
      omega
    clear hb0
    go_enter Tryz.func94, Tryz.ntmps94
    go_wp2_with fail
    refine (HTR.out w).mono ?_
    rintro e w1 ⟨rfl, hb1⟩
    have HB1 := hide hb1
    clear hb1
    go_wp2_with fail
    refine (HAT.out w1).mono ?_
    rintro e w2 ⟨rfl, hb2⟩
    have HB2 := hide (HB1.out.trans (hb2.mono HB1.out.size))
    clear hb2
    go_wp2_with fail
    go_region
    all_goals
      go_wp2_with fail
      go_ret2
      exact ⟨rfl, HB2.out.drew⟩
  · clear hb0
    go_enter Tryz.func94, Tryz.ntmps94
    go_wp2_with fail
    refine (HTR.out w).mono ?_
    rintro e w1 ⟨rfl, hb1⟩
    have HB1 := hide hb1
    clear hb1
    go_wp2_with fail
    refine (HAT.out w1).mono ?_
    rintro e w2 ⟨rfl, hb2⟩
    have HB2 := hide (HB1.out.trans (hb2.mono HB1.out.size))
    clear hb2
    go_wp2_with fail
    go_region
    all_goals
      go_wp2_with fail
      go_ret2
      exact ⟨rfl, HB2.out.drew⟩

theorem results_row3 {P : Program} {fn : Func} {p u v : Tmp} {ty : TypeId} (h : fn.results = #[.cell p ty, .tmp u, .tmp v]) (tmps : Array Value) (w : World) (g : Nat) (t : TypeId) (cs : Array Value) (fr : Nat × Nat) (d : TypeDesc)
    (hp : tmps.getD p undef = .pointer (some ⟨g, 0, none⟩)) (hg : w.heap[g]? = some (.cells cs t fr))
    (hu : P.underlying ty = some d) (hd : (match d with | .struct _ | .array _ _ => true | _ => false) = true) (hi : (P.info? ty).map (·.size) = some cs.size) :
    (results fn tmps).run P w = .ok (.tuple #[.agg cs, tmps.getD u undef, tmps.getD v undef]) w := by
  have hp' : tmps[p]?.getD undef = .pointer (some ⟨g, 0, none⟩) := by simpa using hp
  simp [results, h, hp', asAddr, run_loadVar_row w g t ty cs fr d hg hu hd hi]
theorem hexL_at (au : List UInt8) (k : Nat) (hk : k < 2 * au.length) : ∃ q, q < 16 ∧ (hexL au)[k]? = some (hexD.getD q 0) := by
  induction au generalizing k with
  | nil => simp at hk
  | cons x r ih =>
    have e : hexL (x :: r) = hexD.getD (x.toNat / 16) 0 :: hexD.getD (x.toNat % 16) 0 :: hexL r := rfl
    have hx := x.toNat_lt
    match k with
    | 0 => exact ⟨x.toNat / 16, by omega, by rw [e]; rfl⟩
    | 1 => exact ⟨x.toNat % 16, by omega, by rw [e]; rfl⟩
    | k + 2 =>
      obtain ⟨q, h1, h2⟩ := ih k (by simp at hk; omega)
      exact ⟨q, h1, by rw [e]; simpa using h2⟩
theorem hexD_val (q : Nat) (h : q < 16) : ((hexD.getD q 0).toNat : Int) = if q < 10 then 48 + (q : Int) else 97 + ((q - 10 : Nat) : Int) := by
  have : ∀ q : Fin 16, ((hexD.getD q.val 0).toNat : Int) = if q.val < 10 then 48 + (q.val : Int) else 97 + ((q.val - 10 : Nat) : Int) := by decide
  exact this ⟨q, h⟩
def u8V (xs : List Int) : Array Value := (xs.map (Value.int .u8)).toArray
theorem u8V_set (xs : List Int) (k : Nat) (v : Int) : (u8V xs).setIfInBounds k (.int .u8 v) = u8V (xs.set k v) := by
  simp [u8V, List.map_set]
theorem u8V_same {w : World} {g k : Nat} {xs : List Int} {t : TypeId} {v : Int} (h : w.heap[g]? = some (.cells (u8V xs) t (0, 0))) : (w.setCell ⟨g, k, none⟩ (.int .u8 v)).heap[g]? = some (.cells (u8V (xs.set k v)) t (0, 0)) := by
  rw [heap_setCell_same _ _ _ _ _ _ h, u8V_set]
set_option maxHeartbeats 4000000 in
/-- 'ParseAuthor' of an author's text. -/
theorem parseAuthor_any (au : List UInt8) (ha : au.length = 16) (w : World) :
    Calls Tryz.prog 117 #[.string ⟨(hexL au).toArray⟩] w fun e w' => ∃ xs : List Int, xs.length = 16 ∧ e = .returned (.tuple #[.agg (u8V xs), .int .i64 0, .int .i64 0]) ∧ Below w.heap.size w w' := by
  have hl : (⟨(hexL au).toArray⟩ : ByteArray).size = 32 := by show (hexL au).toArray.size = 32; rw [List.size_toArray, hexL_length, ha]
  have HD : Hid (∀ k, (h : k < (⟨(hexL au).toArray⟩ : ByteArray).size) → ∃ q : Nat, q < 16 ∧ ((((⟨(hexL au).toArray⟩ : ByteArray)[k]'h).toNat : Nat) : Int) = if q < 10 then 48 + (q : Int) else 97 + ((q - 10 : Nat) : Int)) := hide fun k h => by
    obtain ⟨q, h1, h2⟩ := hexL_at au k (by omega)
    have h3 := get_data _ k h
    have h4 : (⟨(hexL au).toArray⟩ : ByteArray).data.toList = hexL au := by simp
    rw [h4, h2] at h3
    refine ⟨q, h1, ?_⟩
    rw [← hexD_val q h1, Option.some.inj h3]
  obtain ⟨s, hs⟩ : ∃ s : ByteArray, ⟨(hexL au).toArray⟩ = s := ⟨_, rfl⟩
  rw [hs] at hl HD ⊢
  clear hs
  have hsl : (s.size : Int) = 32 := by omega
  go_enter Tryz.func117, Tryz.ntmps117
  go_wp2_with fail
  have HZ0 : Hid (u8V (List.replicate 16 0) = #[.int .u8 0, .int .u8 0, .int .u8 0, .int .u8 0, .int .u8 0, .int .u8 0, .int .u8 0, .int .u8 0, .int .u8 0, .int .u8 0, .int .u8 0, .int .u8 0, .int .u8 0, .int .u8 0, .int .u8 0, .int .u8 0]) := hide rfl
  go_loopw [10] (fun i wr => ∃ (k : Nat) (xs : List Int), k ≤ 32 ∧ i = .int .i64 k ∧ xs.length = 16 ∧ Hid (wr.heap[w.heap.size]? = some (.cells (u8V xs) 24 (0, 0))) ∧ Hid (Below w.heap.size w wr)) (fun i _ => 32 - (intOf i).toNat)
  case atStart => exact ⟨0, List.replicate 16 0, Nat.zero_le _, rfl, by simp, hide (by rw [HZ0.out]; exact heap_alloc_new _ _), hide (by (repeat (first | exact Below.refl _ _ | with_reducible assumption | (refine Below.setCell ?_ (by simp <;> omega) _) | (refine Below.alloc ?_ (by simp <;> omega) _))))⟩
  case round =>
    obtain ⟨k, xs, hk, rfl, hxl, HR, HB⟩ := hrel
    by_cases hlt : k < 32
    · have hks : k < s.size := by omega
      obtain ⟨q, hq, hc⟩ := HD.out k hks
      have hk0 : (0 : Int) ≤ (k : Int) := by omega
      have hk32 : (k : Int) < 32 := by omega
      obtain ⟨d, hd⟩ : ∃ d : Nat, d = k / 2 := ⟨_, rfl⟩
      have c1 : wr.cell? ⟨w.heap.size, k / 2, none⟩ = some (.int .u8 (xs.getD (k / 2) 0)) := by
        rw [cell_of_row wr _ (k / 2) _ _ _ HR.out]
        simp [u8V, List.getElem?_eq_getElem (show k / 2 < xs.length by omega)]
      have c2 : wr.frozen? ⟨w.heap.size, k / 2, none⟩ = false := frozen_of_row wr _ (k / 2) _ _ HR.out
      clear hd
      by_cases h10 : q < 10
      · rw [if_pos h10] at hc
        go_wp2_with fail
        refine (cdigit_lo q wr h10).mono ?_
        rintro e w' ⟨rfl, rfl⟩
        go_wp2_with fail
        go_roundw
        case rel => exact ⟨k + 1, _, by omega, by go_num, by rw [List.length_set]; exact hxl, hide (u8V_same HR.out), hide (HB.out.setCell (Nat.le_refl _) _)⟩
        case measure => simp [intOf]; omega
      · rw [if_neg h10] at hc
        obtain ⟨m, hm⟩ : ∃ m : Nat, m = q - 10 := ⟨_, rfl⟩
        rw [← hm] at hc
        have hm6 : m < 6 := by omega
        clear hm
        go_wp2_with fail
        refine (cdigit_hi m wr hm6).mono ?_
        rintro e w' ⟨rfl, rfl⟩
        have hmp : ¬ (m : Int) + 10 < 0 := by omega
        go_wp2_with fail
        go_roundw
        case rel => exact ⟨k + 1, _, by omega, by go_num, by rw [List.length_set]; exact hxl, hide (u8V_same HR.out), hide (HB.out.setCell (Nat.le_refl _) _)⟩
        case measure => simp [intOf]; omega
    · obtain rfl : k = 32 := by omega
      have HI2 : Hid ((Tryz.prog.info? 24).map (·.size) = some (u8V xs).size) := hide (by rw [show (u8V xs).size = 16 by simp [u8V, hxl]]; rfl)
      have H1 : Hid ((u8V xs).all (·.oneCell') = true) := hide (by simp [u8V, Value.oneCell'])
      obtain ⟨cs, hcs⟩ : ∃ cs, u8V xs = cs := ⟨_, rfl⟩
      rw [hcs] at HR HI2 H1
      have HCS := hide hcs
      clear hcs
      go_wp2_with (first | (refine wpList_load_row rfl 24 _ rfl w.heap.size rfl _ _ _ _ HR.out Tryz.underlying24 rfl HI2.out ?_) | (refine wpList_store_row rfl 24 _ _ rfl w.heap.size _ rfl rfl _ _ HR.out HI2.out rfl H1.out ?_))
      (try simp only [Exit.inBlock, Exit.then])
      refine bodyPost_ret (results_row3 rfl _ _ w.heap.size 24 _ (0, 0) _ rfl (setRow_heap _ _ _ _ _ _ HR.out) Tryz.underlying24 rfl HI2.out) rfl ?_
      exact ⟨xs, hxl, by rw [HCS.out]; rfl, below_setRow HB.out (Nat.le_refl _) _⟩
set_option maxHeartbeats 4000000 in
/-- 'valid' of a group's name. -/
theorem valid_group (x : ByteArray) (w : World) (h : chkL x.data.toList = 0) (hs : x.size ≤ maxLen) (hm : MLen w) : Calls Tryz.prog 95 #[.int .i64 1, .string x] w fun e w' => e = .returned (.bool true) ∧ Below w.heap.size w w' := by
  have HG := hide (gCheck_any x w hs hm)
  rw [h] at HG
  go_enter Tryz.func95, Tryz.ntmps95
  go_wp2_with fail
  refine HG.out.mono ?_
  rintro e w1 ⟨rfl, hb1⟩
  have HB := hide hb1
  clear hb1
  go_wp2_with fail
  go_ret
  exact ⟨rfl, HB.out⟩
set_option maxHeartbeats 4000000 in
theorem valid_site (x : ByteArray) (w : World) (h : (siteL x.data.toList).2 = 0) (hs : x.size ≤ maxLen) : Calls Tryz.prog 95 #[.int .i64 2, .string x] w fun e w' => e = .returned (.bool true) ∧ Below w.heap.size w w' := by
  have HG := hide (msite_any x w hs)
  rw [h] at HG
  obtain ⟨y, hy⟩ : ∃ y, (siteL x.data.toList).1 = y := ⟨_, rfl⟩
  rw [hy] at HG
  clear h hy
  go_enter Tryz.func95, Tryz.ntmps95
  go_wp2_with fail
  refine HG.out.mono ?_
  rintro e w1 ⟨rfl, rfl⟩
  go_wp2_with fail
  go_ret
  exact ⟨rfl, Below.refl _ _⟩
set_option maxHeartbeats 4000000 in
theorem valid_author (au : List UInt8) (ha : au.length = 16) (w : World) : Calls Tryz.prog 95 #[.int .i64 3, .string ⟨(hexL au).toArray⟩] w fun e w' => e = .returned (.bool true) ∧ Below w.heap.size w w' := by
  have HG := hide (parseAuthor_any au ha w)
  obtain ⟨s, hs⟩ : ∃ s : ByteArray, ⟨(hexL au).toArray⟩ = s := ⟨_, rfl⟩
  rw [hs] at HG ⊢
  clear hs
  go_enter Tryz.func95, Tryz.ntmps95
  go_wp2_with fail
  refine HG.out.mono ?_
  rintro e w1 ⟨xs, hxl, rfl, hb1⟩
  have HB := hide hb1
  have HI2 : Hid ((Tryz.prog.info? 24).map (·.size) = some (u8V xs).size) := hide (by rw [show (u8V xs).size = 16 by simp [u8V, hxl]]; rfl)
  have HL : Hid (16 = (u8V xs).size) := hide (by simp [u8V, hxl])
  have H1 : Hid ((u8V xs).all (·.oneCell') = true) := hide (by simp [u8V, Value.oneCell'])
  obtain ⟨cs, hcs⟩ : ∃ cs, u8V xs = cs := ⟨_, rfl⟩
  rw [hcs] at HI2 H1 HL ⊢
  clear hcs hb1 hxl
  go_wp2_with (first | (refine wpList_store_row rfl 24 _ _ rfl w1.heap.size _ rfl rfl _ _ (heap_alloc_new _ _) HI2.out HL.out H1.out ?_))
  go_wp2_with fail
  go_ret
  exact ⟨rfl, below_setRow (below_al HB.out _) HB.out.size _⟩
set_option maxHeartbeats 4000000 in
/-- 'valid' of the numeral of a day. -/
theorem valid_day (x : ByteArray) (w : World) : Calls Tryz.prog 95 #[.int .i64 0, .string x] w fun e w' => e = .returned (.bool true) ∧ Below w.heap.size w w' := by
  go_enter Tryz.func95, Tryz.ntmps95
  go_wp2_with fail
  go_ret
  exact ⟨rfl, Below.refl _ _⟩
end Go.Proofs.YticcfbeocepnpaaGreatDoor
set_option linter.unusedSimpArgs false
set_option maxRecDepth 100000
namespace Go.Proofs.YticcfbeocepnpaaGreatDoor
open Go.RowKit Go.Shelf Pl

theorem results_rows3 {P : Program} {fn : Func} {p q v : Tmp} {ty ty2 : TypeId} (h : fn.results = #[.cell p ty, .cell q ty2, .tmp v]) (tmps : Array Value) (w : World) (g g2 : Nat) (t t2 : TypeId) (cs cs2 : Array Value) (fr fr2 : Nat × Nat) (d d2 : TypeDesc)
    (hp : tmps.getD p undef = .pointer (some ⟨g, 0, none⟩)) (hq : tmps.getD q undef = .pointer (some ⟨g2, 0, none⟩)) (hg : w.heap[g]? = some (.cells cs t fr)) (hg2 : w.heap[g2]? = some (.cells cs2 t2 fr2))
    (hu : P.underlying ty = some d) (hd : (match d with | .struct _ | .array _ _ => true | _ => false) = true) (hi : (P.info? ty).map (·.size) = some cs.size)
    (hu2 : P.underlying ty2 = some d2) (hd2 : (match d2 with | .struct _ | .array _ _ => true | _ => false) = true) (hi2 : (P.info? ty2).map (·.size) = some cs2.size) :
    (results fn tmps).run P w = .ok (.tuple #[.agg cs, .agg cs2, tmps.getD v undef]) w := by
  have hp' : tmps[p]?.getD undef = .pointer (some ⟨g, 0, none⟩) := by simpa using hp
  have hq' : tmps[q]?.getD undef = .pointer (some ⟨g2, 0, none⟩) := by simpa using hq
  simp [results, h, hp', hq', asAddr, run_loadVar_row w g t ty cs fr d hg hu hd hi, run_loadVar_row w g2 t2 ty2 cs2 fr2 d2 hg2 hu2 hd2 hi2]

theorem five_heap {w : World} {g : Nat} {x0 x1 x2 y0 y1 : Value} {t t2 : TypeId} (h6 : w.heap[g]? = some (.cells #[x0, x1, x2] t (0, 0))) (h7 : w.heap[g + 1]? = some (.cells #[y0, y1] t2 (0, 0))) (a0 a1 a2 b0 b1 : Value) :
    (((((w.setCell ⟨g, 0, none⟩ a0).setCell ⟨g, 1, none⟩ a1).setCell ⟨g, 2, none⟩ a2).setCell ⟨g + 1, 0, none⟩ b0).setCell ⟨g + 1, 1, none⟩ b1).heap[g]? = some (.cells #[a0, a1, a2] t (0, 0)) ∧
    (((((w.setCell ⟨g, 0, none⟩ a0).setCell ⟨g, 1, none⟩ a1).setCell ⟨g, 2, none⟩ a2).setCell ⟨g + 1, 0, none⟩ b0).setCell ⟨g + 1, 1, none⟩ b1).heap[g + 1]? = some (.cells #[b0, b1] t2 (0, 0)) := by
  have h1 := heap_setCell_same _ g 2 _ t a2 (heap_setCell_same _ g 1 _ t a1 (heap_setCell_same w g 0 _ t a0 h6))
  have h2 : (((w.setCell ⟨g, 0, none⟩ a0).setCell ⟨g, 1, none⟩ a1).setCell ⟨g, 2, none⟩ a2).heap[g + 1]? = some (.cells #[y0, y1] t2 (0, 0)) := by
    rw [heap_setCell_other _ _ _ _ (by show g + 1 ≠ g; omega), heap_setCell_other _ _ _ _ (by show g + 1 ≠ g; omega), heap_setCell_other _ _ _ _ (by show g + 1 ≠ g; omega)]; exact h7
  refine ⟨?_, ?_⟩
  · rw [heap_setCell_other _ _ _ _ (by show g ≠ g + 1; omega), heap_setCell_other _ _ _ _ (by show g ≠ g + 1; omega), h1]; rfl
  · rw [heap_setCell_same _ (g + 1) 1 _ t2 b1 (heap_setCell_same _ (g + 1) 0 _ t2 b0 h2)]; rfl
/-- A row of strings that can be read. -/
def WordsAt (w : World) (lb : Nat) (ws : List ByteArray) : Prop := ∀ (j : Nat) x, ws[j]? = some x → w.cell? ⟨lb, j, none⟩ = some (.string x)
theorem WordsAt.below {w w' : World} {lb : Nat} {ws : List ByteArray} (h : WordsAt w lb ws) (hb : Below w.heap.size w w') : WordsAt w' lb ws := fun j x hx => (hb.cell (block_lt_of_cell (h j x hx))).trans (h j x hx)

set_option maxHeartbeats 8000000 in
/-- 'key' of a line by name. -/
theorem pkey_name (pb lb kd a b c : Nat) (ld : Nat) (wd nm : ByteArray) (w : World) (hp : w.cell? ⟨pb, 1, none⟩ = some (.int .i64 (ld : Int))) (hw : WordsAt w lb [wd, nm, decB a, decB b]) (hk1 : 1 ≤ kd) (hk3 : kd ≤ 3)
    (ha : 1 ≤ a) (ha2 : a ≤ 1000000) (hb : b ≤ a * 65536) (hb2 : b < 10000000000) (hld : ld ≤ 73048)
    (hv : ∀ w', Below w.heap.size w w' → Calls Tryz.prog 95 #[.int .i64 (kd : Int), .string nm] w' fun e w'' => e = .returned (.bool true) ∧ Below w'.heap.size w' w'') :
    Calls Tryz.prog 77 #[.pointer (some ⟨pb, 0, none⟩), .int .i64 (kd : Int), .slice (some ⟨lb, 0, none⟩) 4 c] w fun e w' => e = .returned (.tuple #[.agg #[.int .i64 (ld : Int), .int .i64 (kd : Int), .string nm], .agg #[.int .i64 (a : Int), .int .i64 (b : Int)], .int .i64 0]) ∧ Below w.heap.size w w' := by
  have HV := hide hv
  have HWA := hide hw
  obtain ⟨W, hW⟩ : ∃ W, W = (w.alloc (.cells #[.int .i64 0, .int .i64 0, .string ⟨#[]⟩] 64)).alloc (.cells #[.int .i64 0, .int .i64 0] 34) := ⟨_, rfl⟩
  have HW : Hid (Below w.heap.size w W) := hide (by rw [hW]; (repeat (first | exact Below.refl _ _ | with_reducible assumption | (refine Below.setCell ?_ (by simp <;> omega) _) | (refine Below.alloc ?_ (by simp <;> omega) _))))
  have HP : Hid (W.cell? ⟨pb, 1, none⟩ = some (.int .i64 (ld : Int))) := hide ((HW.out.cell (block_lt_of_cell hp)).trans hp)
  have p1 := HP.out
  have p2 : W.cell? ⟨lb, 1, none⟩ = some (.string nm) := (hw.below HW.out) 1 nm rfl
  have HK : Hid (∀ w', Below W.heap.size W w' → w'.cell? ⟨pb, 1, none⟩ = some (.int .i64 (ld : Int)) ∧ w'.cell? ⟨lb, 1, none⟩ = some (.string nm)) := hide fun w' hb => ⟨(hb.cell (block_lt_of_cell p1)).trans p1, (hb.cell (block_lt_of_cell p2)).trans p2⟩
  have HWW := hide hW
  have hkb : ((kd : Int) == 0) = false := by simp; omega
  clear hv hw hW hp
  go_enter Tryz.func77, Tryz.ntmps77
  go_upto_region 3 with fail
  rw [← HWW.out]
  go_cut [9] (fun s9 wx => ∃ kb, s9 = .pointer (some ⟨kb, 0, none⟩) ∧ Hid (wx.heap[kb]? = some (.cells #[.int .i64 (ld : Int), .int .i64 (kd : Int), .string nm] 64 (0, 0))) ∧ W.heap.size ≤ kb ∧ Hid (Below W.heap.size W wx))
  case first =>
    go_region_held3 (fun w' => w'.cell? ⟨pb, 1, none⟩ = some (.int .i64 (ld : Int)) ∧ w'.cell? ⟨lb, 1, none⟩ = some (.string nm))
      (first | exact HK.out _ (Below.refl _ _).drew | exact HK.out _ (below_al (Below.refl _ _) _).drew)
      ((first | fail))
    all_goals
      have hcb : Hid (((W.alloc (.cells #[.int .i64 (ld : Int), .int .i64 (kd : Int), .string nm] 64)).drew).heap[W.heap.size]? = some (.cells #[.int .i64 (ld : Int), .int .i64 (kd : Int), .string nm] 64 (0, 0))) := hide (heap_alloc_new W _)
      have hbx : Hid (Below W.heap.size W ((W.alloc (.cells #[.int .i64 (ld : Int), .int .i64 (kd : Int), .string nm] 64)).drew)) := hide (below_al (Below.refl _ _) _).drew
      go_wp2_with fail
      go_meet
      exact ⟨_, rfl, hcb, Nat.le_refl _, hbx⟩
  case rest =>
    obtain ⟨kb, rfl, HKB, hkbl, HBX⟩ := hcut
    have HBW : Hid (Below w.heap.size w wc) := hide (HW.out.trans (HBX.out.mono HW.out.size))
    have hkl : kb < wc.heap.size := (Array.getElem?_eq_some_iff.1 HKB.out).1
    have hWs : W.heap.size = w.heap.size + 1 + 1 := by rw [HWW.out]; simp
    have H6 : Hid (wc.heap[w.heap.size]? = some (.cells #[.int .i64 0, .int .i64 0, .string ⟨#[]⟩] 64 (0, 0))) := hide (by
      rw [HBX.out.block _ (by omega), HWW.out, heap_alloc2_old])
    have H7 : Hid (wc.heap[w.heap.size + 1]? = some (.cells #[.int .i64 0, .int .i64 0] 34 (0, 0))) := hide (by
      rw [HBX.out.block _ (by omega), HWW.out, heap_alloc2_new])
    have c2 : wc.cell? ⟨lb, 2, none⟩ = some (.string (decB a)) := (HWA.out.below HBW.out) 2 _ rfl
    clear p1 p2
    go_wp2_with fail
    refine (snumber_any a wc (by omega)).mono ?_
    rintro e w4 ⟨rfl, hb4⟩
    have HB4 : Hid (Below wc.heap.size wc w4) := hide hb4
    have c3 : w4.cell? ⟨lb, 3, none⟩ = some (.string (decB b)) := (HWA.out.below (HBW.out.trans (hb4.mono HBW.out.size))) 3 _ rfl
    clear hb4 c2
    go_wp2_with fail
    refine (snumber_any b w4 hb2).mono ?_
    rintro e w5 ⟨rfl, hb5⟩
    have HB5 : Hid (Below wc.heap.size wc w5) := hide (HB4.out.trans (hb5.mono HB4.out.size))
    have c1 : w5.cell? ⟨lb, 1, none⟩ = some (.string nm) := (HWA.out.below (HBW.out.trans (HB5.out.mono HBW.out.size))) 1 _ rfl
    clear hb5 c3
    go_wp2_with fail
    refine (HV.out w5 (HBW.out.trans (HB5.out.mono HBW.out.size))).mono ?_
    rintro e w6 ⟨rfl, hb6⟩
    have HB6 : Hid (Below wc.heap.size wc w6) := hide (HB5.out.trans (hb6.mono HB5.out.size))
    have hs6 := HB6.out.size
    have h9 : w6.heap[kb]? = _ := (HB6.out.block kb hkl).trans HKB.out
    have q0 : w6.cell? ⟨kb, 0, none⟩ = some (.int .i64 (ld : Int)) := (cell_of_row w6 kb 0 _ _ _ h9).trans rfl
    have q1 : w6.cell? ⟨kb, 1, none⟩ = some (.int .i64 (kd : Int)) := (cell_of_row w6 kb 1 _ _ _ h9).trans rfl
    have q2 : w6.cell? ⟨kb, 2, none⟩ = some (.string nm) := (cell_of_row w6 kb 2 _ _ _ h9).trans rfl
    have hld2 : ¬ (73048 : Int) < (ld : Int) := by omega
    have HC : Hid (∀ w', Below w6.heap.size w6 w' → Calls Tryz.prog 96 #[.agg #[.int .i64 (a : Int), .int .i64 (b : Int)]] w' fun e w'' => e = .returned (.int .i64 0) ∧ w''.heap[w.heap.size]? = some (.cells #[.int .i64 0, .int .i64 0, .string ⟨#[]⟩] 64 (0, 0)) ∧ w''.heap[w.heap.size + 1]? = some (.cells #[.int .i64 0, .int .i64 0] 34 (0, 0)) ∧ w''.heap[kb]? = some (.cells #[.int .i64 (ld : Int), .int .i64 (kd : Int), .string nm] 64 (0, 0)) ∧ Below w.heap.size w w'') := hide fun w' hb =>
      (scount_any (a : Int) (b : Int) w' (by omega) (by omega) (by omega)).mono (by
        rintro e w'' ⟨rfl, hq⟩
        have hbb := HB6.out.trans ((hb.trans (hq.mono hb.size)).mono HB6.out.size)
        exact ⟨rfl, (hbb.block _ (by have := HBX.out.size; omega)).trans H6.out, (hbb.block _ (by have := HBX.out.size; omega)).trans H7.out, (hbb.block kb hkl).trans HKB.out, HBW.out.trans (hbb.mono HBW.out.size)⟩)
    clear hb6 c1 h9
    go_upto_region 16 with fail
    go_region_with ((go_at_call 96; refine (HC.out _ (Below.refl _ _).drew).mono ?_; rintro e w7 ⟨rfl, g6, g7, g9, hb7⟩; have r0 : w7.cell? ⟨w.heap.size, 0, none⟩ = some (.int .i64 0) := (cell_of_row w7 w.heap.size 0 _ _ _ g6).trans rfl; have r1 : w7.cell? ⟨w.heap.size, 1, none⟩ = some (.int .i64 0) := (cell_of_row w7 w.heap.size 1 _ _ _ g6).trans rfl; have r2 : w7.cell? ⟨w.heap.size, 2, none⟩ = some (.string ⟨#[]⟩) := (cell_of_row w7 w.heap.size 2 _ _ _ g6).trans rfl; have r3 : w7.cell? ⟨w.heap.size + 1, 0, none⟩ = some (.int .i64 0) := (cell_of_row w7 (w.heap.size + 1) 0 _ _ _ g7).trans rfl; have r4 : w7.cell? ⟨w.heap.size + 1, 1, none⟩ = some (.int .i64 0) := (cell_of_row w7 (w.heap.size + 1) 1 _ _ _ g7).trans rfl; have t0 : w7.cell? ⟨kb, 0, none⟩ = some (.int .i64 (ld : Int)) := (cell_of_row w7 kb 0 _ _ _ g9).trans rfl; have t1 : w7.cell? ⟨kb, 1, none⟩ = some (.int .i64 (kd : Int)) := (cell_of_row w7 kb 1 _ _ _ g9).trans rfl; have t2 : w7.cell? ⟨kb, 2, none⟩ = some (.string nm) := (cell_of_row w7 kb 2 _ _ _ g9).trans rfl; have f0 := frozen_of_row w7 w.heap.size 0 _ _ g6; have f1 := frozen_of_row w7 w.heap.size 1 _ _ g6; have f2 := frozen_of_row w7 w.heap.size 2 _ _ g6; have f3 := frozen_of_row w7 (w.heap.size + 1) 0 _ _ g7; have f4 := frozen_of_row w7 (w.heap.size + 1) 1 _ _ g7; have G6 := hide g6; have G7 := hide g7; have HB7 := hide hb7; clear g6 g7 g9 hb7))
    all_goals
      go_wp2_with fail
      (try simp only [Exit.inBlock, Exit.then])
      refine bodyPost_ret (results_rows3 rfl _ _ w.heap.size (w.heap.size + 1) 64 34 #[.int .i64 (ld : Int), .int .i64 (kd : Int), .string nm] #[.int .i64 (a : Int), .int .i64 (b : Int)] (0, 0) (0, 0) _ _ rfl rfl ?_ ?_ Tryz.underlying64 rfl (by kernel_rfl) Tryz.underlying34 rfl (by kernel_rfl)) rfl ?_
      · exact (five_heap G6.out G7.out _ _ _ _ _).1
      · exact (five_heap G6.out G7.out _ _ _ _ _).2
      · exact ⟨rfl, (((((HB7.out.setCell (Nat.le_refl _) _).setCell (Nat.le_refl _) _).setCell (Nat.le_refl _) _).setCell (Nat.le_succ _) _).setCell (Nat.le_succ _) _)⟩
set_option maxHeartbeats 8000000 in
/-- 'key' of a line of a day. -/
theorem pkey_day (pb lb a b c dn : Nat) (ld : Int) (wd : ByteArray) (w : World) (hp : w.cell? ⟨pb, 1, none⟩ = some (.int .i64 ld)) (hw : WordsAt w lb [wd, decB dn, decB a, decB b])
    (ha : 1 ≤ a) (ha2 : a ≤ 1000000) (hb : b ≤ a * 65536) (hb2 : b < 10000000000) (hdn : dn ≤ 73048) :
    Calls Tryz.prog 77 #[.pointer (some ⟨pb, 0, none⟩), .int .i64 0, .slice (some ⟨lb, 0, none⟩) 4 c] w fun e w' => e = .returned (.tuple #[.agg #[.int .i64 (dn : Int), .int .i64 0, .string ⟨#[]⟩], .agg #[.int .i64 (a : Int), .int .i64 (b : Int)], .int .i64 0]) ∧ Below w.heap.size w w' := by
  have HWA := hide hw
  obtain ⟨W, hW⟩ : ∃ W, W = (w.alloc (.cells #[.int .i64 0, .int .i64 0, .string ⟨#[]⟩] 64)).alloc (.cells #[.int .i64 0, .int .i64 0] 34) := ⟨_, rfl⟩
  have HW : Hid (Below w.heap.size w W) := hide (by rw [hW]; (repeat (first | exact Below.refl _ _ | with_reducible assumption | (refine Below.setCell ?_ (by simp <;> omega) _) | (refine Below.alloc ?_ (by simp <;> omega) _))))
  have HP : Hid (W.cell? ⟨pb, 1, none⟩ = some (.int .i64 ld)) := hide ((HW.out.cell (block_lt_of_cell hp)).trans hp)
  have p1 := HP.out
  have p2 : W.cell? ⟨lb, 1, none⟩ = some (.string (decB dn)) := (hw.below HW.out) 1 _ rfl
  have HK : Hid (∀ w', Below W.heap.size W w' → w'.cell? ⟨pb, 1, none⟩ = some (.int .i64 ld) ∧ w'.cell? ⟨lb, 1, none⟩ = some (.string (decB dn))) := hide fun w' hb => ⟨(hb.cell (block_lt_of_cell p1)).trans p1, (hb.cell (block_lt_of_cell p2)).trans p2⟩
  have HWW := hide hW
  clear hw hW hp
  go_enter Tryz.func77, Tryz.ntmps77
  go_upto_region 3 with fail
  rw [← HWW.out]
  go_cut [9] (fun s9 wx => ∃ kb, s9 = .pointer (some ⟨kb, 0, none⟩) ∧ Hid (wx.heap[kb]? = some (.cells #[.int .i64 ld, .int .i64 0, .string (decB dn)] 64 (0, 0))) ∧ W.heap.size ≤ kb ∧ Hid (Below W.heap.size W wx))
  case first =>
    go_region_held3 (fun w' => w'.cell? ⟨pb, 1, none⟩ = some (.int .i64 ld) ∧ w'.cell? ⟨lb, 1, none⟩ = some (.string (decB dn)))
      (first | exact HK.out _ (Below.refl _ _).drew | exact HK.out _ (below_al (Below.refl _ _) _).drew)
      ((first | fail))
    all_goals
      have hcb : Hid (((W.alloc (.cells #[.int .i64 ld, .int .i64 0, .string (decB dn)] 64)).drew).heap[W.heap.size]? = some (.cells #[.int .i64 ld, .int .i64 0, .string (decB dn)] 64 (0, 0))) := hide (heap_alloc_new W _)
      have hbx : Hid (Below W.heap.size W ((W.alloc (.cells #[.int .i64 ld, .int .i64 0, .string (decB dn)] 64)).drew)) := hide (below_al (Below.refl _ _) _).drew
      go_wp2_with fail
      go_meet
      exact ⟨_, rfl, hcb, Nat.le_refl _, hbx⟩
  case rest =>
    obtain ⟨kb, rfl, HKB, hkbl, HBX⟩ := hcut
    have HBW : Hid (Below w.heap.size w wc) := hide (HW.out.trans (HBX.out.mono HW.out.size))
    have hkl : kb < wc.heap.size := (Array.getElem?_eq_some_iff.1 HKB.out).1
    have hWs : W.heap.size = w.heap.size + 1 + 1 := by rw [HWW.out]; simp
    have H6 : Hid (wc.heap[w.heap.size]? = some (.cells #[.int .i64 0, .int .i64 0, .string ⟨#[]⟩] 64 (0, 0))) := hide (by
      rw [HBX.out.block _ (by omega), HWW.out, heap_alloc2_old])
    have H7 : Hid (wc.heap[w.heap.size + 1]? = some (.cells #[.int .i64 0, .int .i64 0] 34 (0, 0))) := hide (by
      rw [HBX.out.block _ (by omega), HWW.out, heap_alloc2_new])
    have g0 : wc.cell? ⟨kb, 2, none⟩ = some (.string (decB dn)) := (cell_of_row wc kb 2 _ _ _ HKB.out).trans rfl
    have g1 : wc.frozen? ⟨kb, 2, none⟩ = false := frozen_of_row wc kb 2 _ _ HKB.out
    have c1 : wc.cell? ⟨lb, 1, none⟩ = some (.string (decB dn)) := (HWA.out.below HBW.out) 1 _ rfl
    have hlk : lb ≠ kb := by
      have h1 := block_lt_of_cell (HWA.out 1 _ rfl)
      simp only at h1
      have := HW.out.size
      omega
    obtain ⟨W3, hW3⟩ : ∃ W3, W3 = wc.setCell ⟨kb, 2, none⟩ (.string ⟨#[]⟩) := ⟨_, rfl⟩
    have HB3 : Hid (Below w.heap.size w W3) := hide (by rw [hW3]; exact HBW.out.setCell (by have := HW.out.size; show w.heap.size ≤ kb; omega) _)
    have H93 : Hid (W3.heap[kb]? = some (.cells #[.int .i64 ld, .int .i64 0, .string ⟨#[]⟩] 64 (0, 0))) := hide (by rw [hW3, heap_setCell_same _ kb 2 _ _ _ HKB.out]; rfl)
    have H63 : Hid (W3.heap[w.heap.size]? = some (.cells #[.int .i64 0, .int .i64 0, .string ⟨#[]⟩] 64 (0, 0))) := hide (by rw [hW3, heap_setCell_other _ _ _ _ (by show w.heap.size ≠ kb; omega)]; exact H6.out)
    have H73 : Hid (W3.heap[w.heap.size + 1]? = some (.cells #[.int .i64 0, .int .i64 0] 34 (0, 0))) := hide (by rw [hW3, heap_setCell_other _ _ _ _ (by show w.heap.size + 1 ≠ kb; omega)]; exact H7.out)
    have hW3s : W3.heap.size = wc.heap.size := by rw [hW3]; simp
    have c13 : W3.cell? ⟨lb, 1, none⟩ = some (.string (decB dn)) := (HWA.out.below HB3.out) 1 _ rfl
    have HW3 := hide hW3
    clear p1 p2 hW3
    go_wp2_with fail
    rw [← HW3.out]
    refine (snumber_any dn W3 (by omega)).mono ?_
    rintro e w3 ⟨rfl, hb3⟩
    have HBq : Hid (Below W3.heap.size W3 w3) := hide hb3
    have hsq := hb3.size
    have g93 : w3.heap[kb]? = _ := (hb3.block kb (by omega)).trans H93.out
    have g63 : w3.heap[w.heap.size]? = _ := (hb3.block _ (by omega)).trans H63.out
    have g73 : w3.heap[w.heap.size + 1]? = _ := (hb3.block _ (by omega)).trans H73.out
    have g2 : w3.cell? ⟨kb, 0, none⟩ = some (.int .i64 ld) := (cell_of_row w3 kb 0 _ _ _ g93).trans rfl
    have g3 : w3.frozen? ⟨kb, 0, none⟩ = false := frozen_of_row w3 kb 0 _ _ g93
    obtain ⟨W4, hW4⟩ : ∃ W4, W4 = w3.setCell ⟨kb, 0, none⟩ (.int .i64 (dn : Int)) := ⟨_, rfl⟩
    have HB4w : Hid (Below w.heap.size w W4) := hide (by rw [hW4]; exact (HB3.out.trans (hb3.mono HB3.out.size)).setCell (by have := HW.out.size; show w.heap.size ≤ kb; omega) _)
    have H94 : Hid (W4.heap[kb]? = some (.cells #[.int .i64 (dn : Int), .int .i64 0, .string ⟨#[]⟩] 64 (0, 0))) := hide (by rw [hW4, heap_setCell_same _ kb 0 _ _ _ g93]; rfl)
    have H64 : Hid (W4.heap[w.heap.size]? = some (.cells #[.int .i64 0, .int .i64 0, .string ⟨#[]⟩] 64 (0, 0))) := hide (by rw [hW4, heap_setCell_other _ _ _ _ (by show w.heap.size ≠ kb; omega)]; exact g63)
    have H74 : Hid (W4.heap[w.heap.size + 1]? = some (.cells #[.int .i64 0, .int .i64 0] 34 (0, 0))) := hide (by rw [hW4, heap_setCell_other _ _ _ _ (by show w.heap.size + 1 ≠ kb; omega)]; exact g73)
    have hW4s : W4.heap.size = w3.heap.size := by rw [hW4]; simp
    have c2 : W4.cell? ⟨lb, 2, none⟩ = some (.string (decB a)) := (HWA.out.below HB4w.out) 2 _ rfl
    have HW4 := hide hW4
    clear hb3 g93 g63 g73 hW4 g0 g1 c1 c13
    go_upto_region 8 with fail
    rw [← HW4.out]
    go_wp2_with fail
    refine (snumber_any a W4 (by omega)).mono ?_
    rintro e w4 ⟨rfl, hb4⟩
    have HB4 : Hid (Below W4.heap.size W4 w4) := hide hb4
    have c3 : w4.cell? ⟨lb, 3, none⟩ = some (.string (decB b)) := (HWA.out.below (HB4w.out.trans (hb4.mono HB4w.out.size))) 3 _ rfl
    clear hb4 c2 g2 g3
    go_wp2_with fail
    refine (snumber_any b w4 hb2).mono ?_
    rintro e w5 ⟨rfl, hb5⟩
    have HB5 : Hid (Below W4.heap.size W4 w5) := hide (HB4.out.trans (hb5.mono HB4.out.size))
    have c1 : w5.cell? ⟨lb, 1, none⟩ = some (.string (decB dn)) := (HWA.out.below (HB4w.out.trans (HB5.out.mono HB4w.out.size))) 1 _ rfl
    clear hb5 c3
    go_wp2_with fail
    refine (valid_day (decB dn) w5).mono ?_
    rintro e w6 ⟨rfl, hb6⟩
    have HB6 : Hid (Below W4.heap.size W4 w6) := hide (HB5.out.trans (hb6.mono HB5.out.size))
    have hs6 := HB6.out.size
    have h9 : w6.heap[kb]? = _ := (HB6.out.block kb (by omega)).trans H94.out
    have q0 : w6.cell? ⟨kb, 0, none⟩ = some (.int .i64 (dn : Int)) := (cell_of_row w6 kb 0 _ _ _ h9).trans rfl
    have q1 : w6.cell? ⟨kb, 1, none⟩ = some (.int .i64 0) := (cell_of_row w6 kb 1 _ _ _ h9).trans rfl
    have q2 : w6.cell? ⟨kb, 2, none⟩ = some (.string ⟨#[]⟩) := (cell_of_row w6 kb 2 _ _ _ h9).trans rfl
    have hld2 : ¬ (73048 : Int) < (dn : Int) := by omega
    have HC : Hid (∀ w', Below w6.heap.size w6 w' → Calls Tryz.prog 96 #[.agg #[.int .i64 (a : Int), .int .i64 (b : Int)]] w' fun e w'' => e = .returned (.int .i64 0) ∧ w''.heap[w.heap.size]? = some (.cells #[.int .i64 0, .int .i64 0, .string ⟨#[]⟩] 64 (0, 0)) ∧ w''.heap[w.heap.size + 1]? = some (.cells #[.int .i64 0, .int .i64 0] 34 (0, 0)) ∧ w''.heap[kb]? = some (.cells #[.int .i64 (dn : Int), .int .i64 0, .string ⟨#[]⟩] 64 (0, 0)) ∧ Below w.heap.size w w'') := hide fun w' hb =>
      (scount_any (a : Int) (b : Int) w' (by omega) (by omega) (by omega)).mono (by
        rintro e w'' ⟨rfl, hq⟩
        have hbb := HB6.out.trans ((hb.trans (hq.mono hb.size)).mono HB6.out.size)
        exact ⟨rfl, (hbb.block _ (by omega)).trans H64.out, (hbb.block _ (by omega)).trans H74.out, (hbb.block kb (by omega)).trans H94.out, HB4w.out.trans (hbb.mono HB4w.out.size)⟩)
    clear hb6 c1 h9
    go_upto_region 16 with fail
    go_region_with ((go_at_call 96; refine (HC.out _ (Below.refl _ _).drew).mono ?_; rintro e w7 ⟨rfl, g6, g7, g9, hb7⟩; have r0 : w7.cell? ⟨w.heap.size, 0, none⟩ = some (.int .i64 0) := (cell_of_row w7 w.heap.size 0 _ _ _ g6).trans rfl; have r1 : w7.cell? ⟨w.heap.size, 1, none⟩ = some (.int .i64 0) := (cell_of_row w7 w.heap.size 1 _ _ _ g6).trans rfl; have r2 : w7.cell? ⟨w.heap.size, 2, none⟩ = some (.string ⟨#[]⟩) := (cell_of_row w7 w.heap.size 2 _ _ _ g6).trans rfl; have r3 : w7.cell? ⟨w.heap.size + 1, 0, none⟩ = some (.int .i64 0) := (cell_of_row w7 (w.heap.size + 1) 0 _ _ _ g7).trans rfl; have r4 : w7.cell? ⟨w.heap.size + 1, 1, none⟩ = some (.int .i64 0) := (cell_of_row w7 (w.heap.size + 1) 1 _ _ _ g7).trans rfl; have t0 : w7.cell? ⟨kb, 0, none⟩ = some (.int .i64 (dn : Int)) := (cell_of_row w7 kb 0 _ _ _ g9).trans rfl; have t1 : w7.cell? ⟨kb, 1, none⟩ = some (.int .i64 0) := (cell_of_row w7 kb 1 _ _ _ g9).trans rfl; have t2 : w7.cell? ⟨kb, 2, none⟩ = some (.string ⟨#[]⟩) := (cell_of_row w7 kb 2 _ _ _ g9).trans rfl; have f0 := frozen_of_row w7 w.heap.size 0 _ _ g6; have f1 := frozen_of_row w7 w.heap.size 1 _ _ g6; have f2 := frozen_of_row w7 w.heap.size 2 _ _ g6; have f3 := frozen_of_row w7 (w.heap.size + 1) 0 _ _ g7; have f4 := frozen_of_row w7 (w.heap.size + 1) 1 _ _ g7; have G6 := hide g6; have G7 := hide g7; have HB7 := hide hb7; clear g6 g7 g9 hb7))
    all_goals
      go_wp2_with fail
      (try simp only [Exit.inBlock, Exit.then])
      refine bodyPost_ret (results_rows3 rfl _ _ w.heap.size (w.heap.size + 1) 64 34 #[.int .i64 (dn : Int), .int .i64 0, .string ⟨#[]⟩] #[.int .i64 (a : Int), .int .i64 (b : Int)] (0, 0) (0, 0) _ _ rfl rfl ?_ ?_ Tryz.underlying64 rfl (by kernel_rfl) Tryz.underlying34 rfl (by kernel_rfl)) rfl ?_
      · exact (five_heap G6.out G7.out _ _ _ _ _).1
      · exact (five_heap G6.out G7.out _ _ _ _ _).2
      · exact ⟨rfl, (((((HB7.out.setCell (Nat.le_refl _) _).setCell (Nat.le_refl _) _).setCell (Nat.le_refl _) _).setCell (Nat.le_succ _) _).setCell (Nat.le_succ _) _)⟩
end Go.Proofs.YticcfbeocepnpaaGreatDoor
set_option linter.unusedSimpArgs false
set_option maxRecDepth 100000
namespace Go.Proofs.YticcfbeocepnpaaGreatDoor
open Go.RowKit Go.Shelf Pl

/-- The parser's state. -/
structure PAt (w : World) (pb sb mb : Nat) (F : List (Ky × Ct)) (z : List Int) (last : Ky) (sz : Int) (any : Bool) : Prop where
  blk : w.heap[pb]? = some (.cells #[.pointer (some ⟨sb, 0, none⟩), .int .i64 last.1, .int .i64 last.2.1, .string last.2.2, .int .i64 sz, .bool any] 98 (0, 0))
  s : SAt w sb mb F z
theorem PAt.below {w w' : World} {pb sb mb : Nat} {F : List (Ky × Ct)} {z : List Int} {last : Ky} {sz : Int} {any : Bool} (h : PAt w pb sb mb F z last sz any) (hb : Below w.heap.size w w') : PAt w' pb sb mb F z last sz any :=
  ⟨(hb.block pb (Array.getElem?_eq_some_iff.1 h.blk).1).trans h.blk, h.s.below hb⟩
theorem PAt.lt {w : World} {pb sb mb : Nat} {F : List (Ky × Ct)} {z : List Int} {last : Ky} {sz : Int} {any : Bool} (h : PAt w pb sb mb F z last sz any) : pb < w.heap.size := (Array.getElem?_eq_some_iff.1 h.blk).1
theorem PAt.ne {w : World} {pb sb mb : Nat} {F : List (Ky × Ct)} {z : List Int} {last : Ky} {sz : Int} {any : Bool} (h : PAt w pb sb mb F z last sz any) : pb ≠ sb := by
  rintro rfl
  have h1 := h.blk
  rw [h.s.blk] at h1
  simp at h1
theorem SAt.setSz {w : World} {sb mb : Nat} {f : List (Ky × Ct)} {z : List Int} (h : SAt w sb mb f z) (j : Nat) (v : Int) : SAt (w.setCell ⟨sb, 1 + j, none⟩ (.int .i64 v)) sb mb f (z.set j v) := by
  refine ⟨?_, Mp.IsMap.of_block h.map (heap_setCell_other _ _ _ _ (fun e => h.ne e.symm)), by simp [h.len]⟩
  rw [heap_setCell_same w sb (1 + j) _ 72 (.int .i64 v) h.blk]
  congr 2
  apply Array.toList_inj.1
  rw [Array.toList_setIfInBounds]
  show List.set (Value.map (some mb) :: z.map (Value.int .i64)) (1 + j) _ = _
  rw [Nat.add_comm, List.set_cons_succ]
  simp [List.map_set]
set_option maxHeartbeats 4000000 in
/-- 'sized'. -/
theorem psized_any (pb sb mb lb k n c : Nat) (F : List (Ky × Ct)) (z : List Int) (last : Ky) (sz : Int) (any : Bool) (wd : ByteArray) (w : World) (hp : PAt w pb sb mb F z last sz any) (hw : WordsAt w lb [wd, decB k, decB n])
    (hk : k < 18) (hn1 : 1 ≤ n) (hn2 : n ≤ 1000000) (hs : sz < (k : Int)) :
    Calls Tryz.prog 75 #[.pointer (some ⟨pb, 0, none⟩), .slice (some ⟨lb, 0, none⟩) 3 c] w fun e w' => e = .returned (.int .i64 0) ∧ PAt w' pb sb mb F (z.set k (n : Int)) last k any ∧ But2 w w' pb sb := by
  have HP := hide hp
  have HWA := hide hw
  have c1 : w.cell? ⟨lb, 1, none⟩ = some (.string (decB k)) := hw 1 _ rfl
  have hne := hp.ne
  have hpl := hp.lt
  have hsl := hp.s.lt
  clear hp hw
  go_enter Tryz.func75, Tryz.ntmps75
  go_wp2_with fail
  refine (snumber_any k w (by omega)).mono ?_
  rintro e w1 ⟨rfl, hb1⟩
  have HB1 := hide hb1
  have c2 : w1.cell? ⟨lb, 2, none⟩ = some (.string (decB n)) := (HWA.out.below hb1) 2 _ rfl
  clear hb1 c1
  go_wp2_with fail
  refine (snumber_any n w1 (by omega)).mono ?_
  rintro e w2 ⟨rfl, hb2⟩
  have HB2 := hide (HB1.out.trans (hb2.mono HB1.out.size))
  have HP2 := hide (HP.out.below HB2.out)
  have p0 : w2.cell? ⟨pb, 0, none⟩ = some (.pointer (some ⟨sb, 0, none⟩)) := (cell_of_row w2 pb 0 _ _ _ HP2.out.blk).trans rfl
  have p4 : w2.cell? ⟨pb, 4, none⟩ = some (.int .i64 sz) := (cell_of_row w2 pb 4 _ _ _ HP2.out.blk).trans rfl
  have f4 : w2.frozen? ⟨pb, 4, none⟩ = false := frozen_of_row w2 pb 4 _ _ HP2.out.blk
  obtain ⟨y, hy⟩ : ∃ y, z[k]? = some y := ⟨_, List.getElem?_eq_getElem (by rw [HP2.out.s.len]; exact hk)⟩
  have s1 : w2.cell? ⟨sb, 1 + k, none⟩ = some (.int .i64 y) := (cell_of_row w2 sb (1 + k) _ _ _ HP2.out.s.blk).trans (by rw [List.getElem?_toArray, Nat.add_comm, List.getElem?_cons_succ, List.getElem?_map, hy]; rfl)
  have f1 : w2.frozen? ⟨sb, 1 + k, none⟩ = false := frozen_of_row w2 sb (1 + k) _ _ HP2.out.s.blk
  have hk0 : (0 : Int) ≤ (k : Int) := by omega
  have hk18 : (k : Int) < 18 := by omega
  clear hb2 c2 hy
  go_wp2_with fail
  go_ret
  have hpm : pb ≠ mb := not_map_block HP2.out.s.map p0
  have h1 := HP2.out.s.setSz k (n : Int)
  refine ⟨rfl, ⟨?_, ⟨?_, ?_, h1.len⟩⟩, ?_⟩
  · rw [heap_setCell_same _ pb 4 _ 98 (.int .i64 (k : Int)) ((heap_setCell_other _ _ _ _ hne).trans HP2.out.blk)]; rfl
  · rw [heap_setCell_other _ _ _ _ (fun e => hne e.symm)]; exact h1.blk
  · exact Mp.IsMap.of_block h1.map (heap_setCell_other _ _ _ _ (fun e => hpm e.symm))
  · exact ⟨HB2.out.os, HB2.out.tape, HB2.out.output, by simpa using HB2.out.size, fun i hi h1 h2 => by
      rw [heap_setCell_other _ _ _ _ h1, heap_setCell_other _ _ _ _ h2]; exact HB2.out.block i hi⟩
end Go.Proofs.YticcfbeocepnpaaGreatDoor
set_option linter.unusedSimpArgs false
set_option maxRecDepth 100000
namespace Go.Proofs.YticcfbeocepnpaaGreatDoor
open Go.RowKit Go.Shelf Pl

theorem parts_inj {ps qs : List ByteArray} (h : ps.map (·.data.toList) = qs.map (·.data.toList)) : ps = qs := by
  have hi : Function.Injective (fun x : ByteArray => x.data.toList) := fun a b e => ByteArray.ext (Array.toList_inj.1 e)
  exact (List.map_inj_right (fun a b e => hi e)).1 h
theorem wordsAt_cells {w : World} {b : Nat} {ps : List ByteArray} (h : CellsS w b 0 ps) : WordsAt w b ps := fun j x hx => by
  have h1 := h j x hx
  rwa [Nat.zero_add] at h1
def sizeB : ByteArray := ⟨#[115, 105, 122, 101]⟩
theorem But2.first {x y z : World} {a b : Nat} (h : Below x.heap.size x y) (k : But2 y z a b) : But2 x z a b := (But2.of_below h).trans k
set_option maxHeartbeats 4000000 in
/-- 'line' at a line of a size. -/
theorem pline_size (pb sb mb k n : Nat) (F : List (Ky × Ct)) (z : List Int) (last : Ky) (sz : Int) (any : Bool) (s : ByteArray) (w : World) (hp : PAt w pb sb mb F z last sz any) (hm : MLen w) (hs : s.size < 4294967281)
    (hL : partsL 32 s.data.toList = [sizeB, decB k, decB n].map (·.data.toList)) (hk : k < 18) (hn1 : 1 ≤ n) (hn2 : n ≤ 1000000) (hsz : sz < (k : Int)) :
    Calls Tryz.prog 54 #[.pointer (some ⟨pb, 0, none⟩), .string s] w fun e w' => e = .returned (.int .i64 0) ∧ PAt w' pb sb mb F (z.set k (n : Int)) last k any ∧ But2 w w' pb sb := by
  have HP := hide hp
  have HL := hide hL
  have HM := hide hm
  clear hp hL hm
  go_enter Tryz.func54, Tryz.ntmps54
  go_wp2_with fail
  refine (split_any s 32 w hs HM.out).mono ?_
  rintro e w1 ⟨ps, hsp, rfl⟩
  obtain rfl : ps = [sizeB, decB k, decB n] := parts_inj (hsp.parts.trans HL.out)
  have HW := hide (wordsAt_cells hsp.cells)
  have HB := hide hsp.below
  obtain ⟨lb, hlb⟩ : ∃ lb, w.heap.size = lb := ⟨_, rfl⟩
  rw [hlb] at HW ⊢
  clear hsp
  have c0 : w1.cell? ⟨lb, 0, none⟩ = some (.string ⟨#[115, 105, 122, 101]⟩) := HW.out 0 _ rfl
  have HS := hide (psized_any pb sb mb lb k n 3 F z last sz any sizeB w1 (HP.out.below HB.out) HW.out hk hn1 hn2 hsz)
  clear hsz hk hn1 hn2 hs hlb
  go_wp2_with fail
  refine HS.out.mono ?_
  rintro e w2 ⟨rfl, h1, h2⟩
  have H1 := hide h1
  have H2 := hide h2
  clear h1 h2
  go_wp2_with fail
  go_ret
  exact ⟨rfl, H1.out, But2.first HB.out H2.out⟩

theorem MLen.of_but2 {w w' : World} {a b : Nat} (h : MLen w) (hb : But2 w w' a b) (ha : 0 ≠ a) (hb0 : 0 ≠ b) : MLen w' := by
  obtain ⟨m, hm⟩ := h
  exact ⟨m, (World.cell?_of_block (hb.block 0 (block_lt_of_cell hm) ha hb0)).trans hm⟩
def wordsB : List ByteArray := [⟨#[100, 97, 121]⟩, ⟨#[103, 114, 111, 117, 112]⟩, ⟨#[115, 105, 116, 101]⟩, ⟨#[97, 117, 116, 104, 111, 114]⟩]
theorem idx_word {kd : Nat} (h : kd ≤ 3) : Lib.idxOfS (wordsB.take 4) (wordB (kd : Int)) = (kd : Int) := by
  have : kd = 0 ∨ kd = 1 ∨ kd = 2 ∨ kd = 3 := by omega
  rcases this with rfl | rfl | rfl | rfl <;> decide
theorem index_words (b kd : Nat) (w : World) (h : kd ≤ 3) (hb : w.heap[b]? = some (.cells (wordsB.map Value.string).toArray 84 (0, 0))) :
    Calls Tryz.prog 76 #[.slice (some ⟨b, 0, none⟩) 4 4, .string (wordB (kd : Int))] w fun e w' => e = .returned (.int .i64 (kd : Int)) ∧ w' = w := by
  refine (Tryz.slices_Index_string b 0 4 4 wordsB (wordB (kd : Int)) w (Nat.le_refl _) (by decide) ?_).mono ?_
  · intro j hj
    have h1 : (wordsB.map Value.string).toArray[j]? = some (.string (wordsB.getD j ByteArray.empty)) := by
      rw [List.getElem?_toArray, List.getElem?_map, List.getD_eq_getElem?_getD, List.getElem?_eq_getElem hj]; rfl
    rw [Nat.zero_add]
    exact (cell_of_row w b j _ _ _ hb).trans h1
  · rintro e w' ⟨rfl, rfl⟩
    exact ⟨by rw [idx_word h], rfl⟩
theorem step_run {P : Program} {ops : Array Oper} {o : Oper} {a : Act} {w w' : World} {K : Act → World → Prop} {Q : Exit → Act → World → Prop} {E : Prop} (hw : Region.wanted o (yielded ops a.tmps) = true) {v : Value}
    (hrun : (execOp a.eval o).run P w = .ok (.value v) w') (h : K (a.put o.dst v) w') : if Region.wanted o (yielded ops a.tmps) = true then Oper.wp P o a w K Q else E := by
  rw [if_pos hw]
  unfold Oper.wp
  rw [hrun]
  exact h
theorem step_skip {P : Program} {ops : Array Oper} {o : Oper} {a : Act} {w w' : World} {K : Act → World → Prop} {Q : Exit → Act → World → Prop} {E : Prop} (hw : Region.wanted o (yielded ops a.tmps) = true)
    (hrun : (execOp a.eval o).run P w = .ok .skip w') (h : K (a.put o.dst undef) w') : if Region.wanted o (yielded ops a.tmps) = true then Oper.wp P o a w K Q else E := by
  rw [if_pos hw]
  unfold Oper.wp
  rw [hrun]
  exact h
theorem run_mapEntry_op {P : Program} {o : Oper} {a : Act} {w w' : World} {t : TypeId} {m k : Operand} {mv kv v : Value} (ho : o.op = .mapEntry t m k) (hm : a.eval m = mv) (hk : a.eval k = kv)
    (hrun : (Instr.mapEntry t mv kv).run P w = .ok v w') : (execOp a.eval o).run P w = .ok (.value v) w' := by
  subst hm hk
  unfold execOp
  simp [ho, hrun, Result.andThen]
theorem run_entryStore_op {P : Program} {o : Oper} {a : Act} {w w' : World} {t : TypeId} {m s x : Operand} {mv sv xv : Value} (ho : o.op = .entryStore t m s x) (hm : a.eval m = mv) (hs : a.eval s = sv) (hx : a.eval x = xv)
    (hrun : (Instr.entryStore t mv sv xv).run P w = .ok () w') : (execOp a.eval o).run P w = .ok .skip w' := by
  subst hm hs hx
  unfold execOp
  simp [ho, hrun, Result.andThen]
theorem cell_setCell_off (w : World) (b i j : Nat) (v : Value) (h : i ≠ j) : (w.setCell ⟨b, i, none⟩ v).cell? ⟨b, j, none⟩ = w.cell? ⟨b, j, none⟩ :=
  World.cell?_setCell_other _ _ _ _ (by simp [h])
set_option maxHeartbeats 8000000 in
/-- 'line' at a line of a key. -/
theorem pline_key (pb sb mb kd : Nat) (F : List (Ky × Ct)) (z : List Int) (last k : Ky) (any : Bool) (c : Ct) (nm a b : ByteArray) (s : ByteArray) (w : World) (hp : PAt w pb sb mb F z last (-1) any) (hm : MLen w) (hs : s.size < 4294967281)
    (hL : partsL 32 s.data.toList = [wordB (kd : Int), nm, a, b].map (·.data.toList)) (hkd : kd ≤ 3) (hany : any = false → kd = 0) (hlt : any = true → cmpK last k < 0) (hnew : k ∉ F.map (·.1)) (hok : keyOk k)
    (hkey : ∀ w' lb, Below w.heap.size w w' → WordsAt w' lb [wordB (kd : Int), nm, a, b] → Calls Tryz.prog 77 #[.pointer (some ⟨pb, 0, none⟩), .int .i64 (kd : Int), .slice (some ⟨lb, 0, none⟩) 4 4] w' fun e w'' => e = .returned (.tuple #[keyV k, cntV c, .int .i64 0]) ∧ Below w'.heap.size w' w'') :
    Calls Tryz.prog 54 #[.pointer (some ⟨pb, 0, none⟩), .string s] w fun e w' => e = .returned (.int .i64 0) ∧ PAt w' pb sb mb (F ++ [(k, c)]) z k (-1) true ∧ But2 w w' pb mb := by
  have HP := hide hp
  have HL := hide hL
  have HM := hide hm
  have HKEY := hide hkey
  have HANY := hide hany
  have HLT := hide hlt
  have HNEW := hide hnew
  have HOK := hide hok
  clear hp hL hm hkey hany hlt hnew hok
  go_enter Tryz.func54, Tryz.ntmps54
  go_wp2_with fail
  refine (split_any s 32 w hs HM.out).mono ?_
  rintro e w1 ⟨ps, hsp, rfl⟩
  obtain rfl : ps = [wordB (kd : Int), nm, a, b] := parts_inj (hsp.parts.trans HL.out)
  have HW := hide (wordsAt_cells hsp.cells)
  have HB := hide hsp.below
  obtain ⟨lb, hlb⟩ : ∃ lb, w.heap.size = lb := ⟨_, rfl⟩
  rw [hlb] at HW ⊢
  clear hsp
  have hne : ((wordB (kd : Int)).toList == [115, 105, 122, 101]) = false := by
    have h1 : [115, 105, 122, 101] = (⟨#[115, 105, 122, 101]⟩ : ByteArray).toList := by rw [ByteArray.toList_eq]
    have h2 : wordB (kd : Int) ≠ ⟨#[115, 105, 122, 101]⟩ := by
      have : kd = 0 ∨ kd = 1 ∨ kd = 2 ∨ kd = 3 := by omega
      rcases this with rfl | rfl | rfl | rfl <;> decide
    rw [h1, toList_beq]
    simpa using h2
  have c0 : w1.cell? ⟨lb, 0, none⟩ = some (.string (wordB (kd : Int))) := HW.out 0 _ rfl
  clear hs
  have HLB := hide hlb
  clear hlb
  go_wp2_with fail
  refine (words_any w1).mono ?_
  rintro e w2 ⟨rfl, hb2⟩
  unfold wordsV
  have c02 : w2.cell? ⟨lb, 0, none⟩ = some (.string (wordB (kd : Int))) := (HW.out.below hb2) 0 _ rfl
  have HB2 := hide hb2
  clear hb2 c0
  go_upto_region 5 with fail
  obtain ⟨w3, hw3⟩ : ∃ w3, w2.alloc (.cells #[.string ⟨#[100, 97, 121]⟩, .string ⟨#[103, 114, 111, 117, 112]⟩, .string ⟨#[115, 105, 116, 101]⟩, .string ⟨#[97, 117, 116, 104, 111, 114]⟩] 84) = w3 := ⟨_, rfl⟩
  have hn3 : w3.heap[w2.heap.size]? = some (.cells (wordsB.map Value.string).toArray 84 (0, 0)) := by rw [← hw3]; exact heap_alloc_new w2 _
  have hb3 : Below w2.heap.size w2 w3 := by rw [← hw3]; exact (Below.refl _ w2).alloc (Nat.le_refl _) _
  have c03 : w3.cell? ⟨lb, 0, none⟩ = some (.string (wordB (kd : Int))) := (hb3.cell (block_lt_of_cell c02)).trans c02
  rw [hw3]
  have HIX : Hid (∀ w', Below w3.heap.size w3 w' → Calls Tryz.prog 76 #[.slice (some ⟨w2.heap.size, 0, none⟩) 4 4, .string (wordB (kd : Int))] w' fun e w'' => e = .returned (.int .i64 (kd : Int)) ∧ w' = w'') := hide fun w' hb =>
    (index_words w2.heap.size kd w' hkd ((hb.block _ (Array.getElem?_eq_some_iff.1 hn3).1).trans hn3)).mono (by rintro e w'' ⟨rfl, rfl⟩; exact ⟨rfl, rfl⟩)
  have HB3 : Hid (Below w.heap.size w w3) := hide (HB.out.trans ((HB2.out.trans (hb3.mono HB2.out.size)).mono HB.out.size))
  have HK3 : Hid (∀ w', Below w3.heap.size w3 w' → w'.cell? ⟨lb, 0, none⟩ = some (.string (wordB (kd : Int)))) := hide fun w' hb => (hb.cell (block_lt_of_cell c03)).trans c03
  have HW3 : Hid (WordsAt w3 lb [wordB (kd : Int), nm, a, b]) := hide ((HW.out.below HB2.out).below hb3)
  clear hw3 hn3 hb3 c02
  go_region_held3 (fun w' => w'.cell? ⟨lb, 0, none⟩ = some (.string (wordB (kd : Int)))) (exact HK3.out _ (Below.refl _ _).drew)
    ((go_at_call 76; refine (HIX.out _ (Below.refl _ _).drew).mono ?_; rintro e w4 ⟨rfl, rfl⟩))
  have hk0 : ¬ (kd : Int) < 0 := by omega
  have HKY := hide (HKEY.out w3.drew lb (HB3.out.trans ((Below.refl _ w3).drew.mono HB3.out.size)) (HW3.out.below (Below.refl _ w3).drew))
  clear c03
  go_wp2_with fail
  refine HKY.out.mono ?_
  rintro e w5 ⟨rfl, hb5⟩
  have HB5 := hide (HB3.out.trans ((((Below.refl _ w3).drew).trans hb5).mono HB3.out.size))
  obtain ⟨k1, k2, k3⟩ := k
  obtain ⟨c1, c2⟩ := c
  obtain ⟨l1, l2, l3⟩ := last
  rw [keyV_mk, cntV_mk]
  have hs5 : w3.heap.size ≤ w5.heap.size := hb5.size
  clear hb5 hk0
  have hpl : pb < w5.heap.size := Nat.lt_of_lt_of_le HP.out.lt HB5.out.size
  have HP5 := hide (HP.out.below HB5.out)
  have p2 : w5.cell? ⟨pb, 4, none⟩ = some (.int .i64 (-1)) := (cell_of_row w5 pb 4 _ _ _ HP5.out.blk).trans rfl
  have p3 : w5.cell? ⟨pb, 5, none⟩ = some (.bool any) := (cell_of_row w5 pb 5 _ _ _ HP5.out.blk).trans rfl
  have q0 : w5.cell? ⟨pb, 1, none⟩ = some (.int .i64 l1) := (cell_of_row w5 pb 1 _ _ _ HP5.out.blk).trans rfl
  have q1 : w5.cell? ⟨pb, 2, none⟩ = some (.int .i64 l2) := (cell_of_row w5 pb 2 _ _ _ HP5.out.blk).trans rfl
  have q2 : w5.cell? ⟨pb, 3, none⟩ = some (.string l3) := (cell_of_row w5 pb 3 _ _ _ HP5.out.blk).trans rfl
  clear hs5
  go_upto_region 11 with fail
  obtain ⟨w6, hw6⟩ : ∃ w6, (w5.alloc (.cells #[.int .i64 k1, .int .i64 k2, .string k3] 64)).alloc (.cells #[.int .i64 c1, .int .i64 c2] 34) = w6 := ⟨_, rfl⟩
  have hb6 : Below w5.heap.size w5 w6 := by rw [← hw6]; exact ((Below.refl _ w5).alloc (Nat.le_refl _) _).alloc (by simp) _
  have hk6 : w6.heap[w5.heap.size]? = some (.cells #[.int .i64 k1, .int .i64 k2, .string k3] 64 (0, 0)) := by rw [← hw6]; exact heap_alloc2_old _ _ _
  have hc6 : w6.heap[w5.heap.size + 1]? = some (.cells #[.int .i64 c1, .int .i64 c2] 34 (0, 0)) := by rw [← hw6]; exact heap_alloc2_new _ _ _
  rw [hw6]
  have HP6 := hide (HP5.out.below hb6)
  have HB6 := hide (HB5.out.trans (hb6.mono HB5.out.size))
  have HK6 := hide hk6
  have HC6 := hide hc6
  have HS : Hid (∀ w', Below w6.heap.size w6 w' → w'.cell? ⟨pb, 4, none⟩ = some (.int .i64 (-1)) ∧ w'.cell? ⟨pb, 5, none⟩ = some (.bool any) ∧ w'.cell? ⟨pb, 1, none⟩ = some (.int .i64 l1) ∧ w'.cell? ⟨pb, 2, none⟩ = some (.int .i64 l2) ∧ w'.cell? ⟨pb, 3, none⟩ = some (.string l3) ∧
      w'.cell? ⟨w5.heap.size, 0, none⟩ = some (.int .i64 k1) ∧ w'.cell? ⟨w5.heap.size, 1, none⟩ = some (.int .i64 k2) ∧ w'.cell? ⟨w5.heap.size, 2, none⟩ = some (.string k3) ∧ Below w6.heap.size w6 w') := hide fun w' hb =>
    have hp' := (HP6.out.below hb).blk
    have hk' := (hb.block _ (Array.getElem?_eq_some_iff.1 HK6.out).1).trans HK6.out
    ⟨(cell_of_row w' pb 4 _ _ _ hp').trans rfl, (cell_of_row w' pb 5 _ _ _ hp').trans rfl, (cell_of_row w' pb 1 _ _ _ hp').trans rfl, (cell_of_row w' pb 2 _ _ _ hp').trans rfl, (cell_of_row w' pb 3 _ _ _ hp').trans rfl,
      (cell_of_row w' _ 0 _ _ _ hk').trans rfl, (cell_of_row w' _ 1 _ _ _ hk').trans rfl, (cell_of_row w' _ 2 _ _ _ hk').trans rfl, hb⟩
  obtain ⟨p2, p3, q0, q1, q2, r0, r1, r2, _⟩ := HS.out w6 (Below.refl _ _)
  clear hw6 hb6 hk6 hc6
  go_cut [40] (fun s40 wx => s40 = .bool false ∧ Hid (Below w6.heap.size w6 wx))
  case first =>
    cases any
    · have hk0 := HANY.out rfl
      subst hk0
      go_quiet (fail)
      all_goals
        go_wp2_with fail
        go_meet
        exact ⟨rfl, hide (below_drewNg _ _)⟩
    · obtain ⟨r, hr⟩ : ∃ r, cmpK (l1, l2, l3) (k1, k2, k3) = r := ⟨_, rfl⟩
      have hlt := HLT.out rfl
      rw [hr] at hlt
      have hlt2 : ¬ (0 : Int) ≤ r := by omega
      have HCP : Hid (∀ w', Below w6.heap.size w6 w' → Calls Tryz.prog 63 #[.agg #[.int .i64 l1, .int .i64 l2, .string l3], .agg #[.int .i64 k1, .int .i64 k2, .string k3]] w' fun e w'' => e = .returned (.int .i64 r) ∧ Below w6.heap.size w6 w'') := hide fun w' hb =>
        (compare_any (l1, l2, l3) (k1, k2, k3) w').mono (by rintro e w'' ⟨rfl, hq⟩; exact ⟨by rw [hr], hb.trans (hq.1.mono hb.size)⟩)
      clear hr hlt
      refine wp_region_held_drew (S := (fun w' => w'.cell? ⟨pb, 4, none⟩ = some (.int .i64 (-1)) ∧ w'.cell? ⟨pb, 5, none⟩ = some (.bool true) ∧ w'.cell? ⟨pb, 1, none⟩ = some (.int .i64 l1) ∧ w'.cell? ⟨pb, 2, none⟩ = some (.int .i64 l2) ∧ w'.cell? ⟨pb, 3, none⟩ = some (.string l3) ∧ w'.cell? ⟨w5.heap.size, 0, none⟩ = some (.int .i64 k1) ∧ w'.cell? ⟨w5.heap.size, 1, none⟩ = some (.int .i64 k2) ∧ w'.cell? ⟨w5.heap.size, 2, none⟩ = some (.string k3) ∧ Below w6.heap.size w6 w')) (by kernel_rfl) (HS.out _ (Below.refl _ _).drew) (fun hS0 => ?_)
      refine wpAnyH_take (i := 0) (v := .pointer (some ⟨pb, 0, none⟩)) rfl (by kernel_rfl) (by kernel_rfl) (by kernel_rfl) (fun _ _ _ h => h) (Or.inl ⟨by rfl, fun w' _ => by first | rfl | go_simp⟩) hS0 ?_
      simp only [Act.put, List.getElem_toArray, List.getElem_cons_succ, List.getElem_cons_zero, List.setIfInBounds_toArray, List.set_cons_zero, List.set_cons_succ]
      refine wpAnyH_take (i := 1) (v := .pointer (some ⟨pb, 0, none⟩)) rfl (by kernel_rfl) (by kernel_rfl) (by kernel_rfl) (fun _ _ _ h => h) (Or.inl ⟨by rfl, fun w' _ => by first | rfl | go_simp⟩) hS0 ?_
      simp only [Act.put, List.getElem_toArray, List.getElem_cons_succ, List.getElem_cons_zero, List.setIfInBounds_toArray, List.set_cons_zero, List.set_cons_succ]
      refine wpAnyH_take (i := 2) (v := .pointer (some ⟨pb, 4, none⟩)) rfl (by kernel_rfl) (by kernel_rfl) (by kernel_rfl) (fun _ _ _ h => h) (Or.inl ⟨by rfl, fun w' _ => by first | rfl | go_simp⟩) hS0 ?_
      simp only [Act.put, List.getElem_toArray, List.getElem_cons_succ, List.getElem_cons_zero, List.setIfInBounds_toArray, List.set_cons_zero, List.set_cons_succ]
      refine wpAnyH_take (i := 3) (v := .int .i64 (-1)) rfl (by kernel_rfl) (by kernel_rfl) (by kernel_rfl) (fun _ _ _ h => h) (Or.inl ⟨by rfl, fun w' h => by have hc0 := h.1; go_simp⟩) hS0 ?_
      simp only [Act.put, List.getElem_toArray, List.getElem_cons_succ, List.getElem_cons_zero, List.setIfInBounds_toArray, List.set_cons_zero, List.set_cons_succ]
      refine wpAnyH_take (i := 4) (v := .bool false) rfl (by kernel_rfl) (by kernel_rfl) (by kernel_rfl) (fun _ _ _ h => h) (Or.inl ⟨by rfl, fun w' _ => by first | rfl | go_simp⟩) hS0 ?_
      simp only [Act.put, List.getElem_toArray, List.getElem_cons_succ, List.getElem_cons_zero, List.setIfInBounds_toArray, List.set_cons_zero, List.set_cons_succ]
      refine wpAnyH_take (i := 5) (v := .bool false) rfl (by kernel_rfl) (by kernel_rfl) (by kernel_rfl) (fun _ _ _ h => h) (Or.inl ⟨by rfl, fun w' _ => by first | rfl | go_simp⟩) hS0 ?_
      simp only [Act.put, List.getElem_toArray, List.getElem_cons_succ, List.getElem_cons_zero, List.setIfInBounds_toArray, List.set_cons_zero, List.set_cons_succ]
      refine wpAnyH_take (i := 6) (v := .pointer (some ⟨pb, 0, none⟩)) rfl (by kernel_rfl) (by kernel_rfl) (by kernel_rfl) (fun _ _ _ h => h) (Or.inl ⟨by rfl, fun w' _ => by first | rfl | go_simp⟩) hS0 ?_
      simp only [Act.put, List.getElem_toArray, List.getElem_cons_succ, List.getElem_cons_zero, List.setIfInBounds_toArray, List.set_cons_zero, List.set_cons_succ]
      refine wpAnyH_take (i := 7) (v := .pointer (some ⟨pb, 0, none⟩)) rfl (by kernel_rfl) (by kernel_rfl) (by kernel_rfl) (fun _ _ _ h => h) (Or.inl ⟨by rfl, fun w' _ => by first | rfl | go_simp⟩) hS0 ?_
      simp only [Act.put, List.getElem_toArray, List.getElem_cons_succ, List.getElem_cons_zero, List.setIfInBounds_toArray, List.set_cons_zero, List.set_cons_succ]
      refine wpAnyH_take (i := 8) (v := .pointer (some ⟨pb, 5, none⟩)) rfl (by kernel_rfl) (by kernel_rfl) (by kernel_rfl) (fun _ _ _ h => h) (Or.inl ⟨by rfl, fun w' _ => by first | rfl | go_simp⟩) hS0 ?_
      simp only [Act.put, List.getElem_toArray, List.getElem_cons_succ, List.getElem_cons_zero, List.setIfInBounds_toArray, List.set_cons_zero, List.set_cons_succ]
      refine wpAnyH_take (i := 9) (v := .bool true) rfl (by kernel_rfl) (by kernel_rfl) (by kernel_rfl) (fun _ _ _ h => h) (Or.inl ⟨by rfl, fun w' h => by have hc0 := h.2.1; go_simp⟩) hS0 ?_
      simp only [Act.put, List.getElem_toArray, List.getElem_cons_succ, List.getElem_cons_zero, List.setIfInBounds_toArray, List.set_cons_zero, List.set_cons_succ]
      refine wpAnyH_take (i := 10) (v := .bool false) rfl (by kernel_rfl) (by kernel_rfl) (by kernel_rfl) (fun _ _ _ h => h) (Or.inl ⟨by rfl, fun w' _ => by first | rfl | go_simp⟩) hS0 ?_
      simp only [Act.put, List.getElem_toArray, List.getElem_cons_succ, List.getElem_cons_zero, List.setIfInBounds_toArray, List.set_cons_zero, List.set_cons_succ]
      refine wpAnyH_take (i := 11) (v := .bool false) rfl (by kernel_rfl) (by kernel_rfl) (by kernel_rfl) (fun _ _ _ h => h) (Or.inl ⟨by rfl, fun w' _ => by first | rfl | go_simp⟩) hS0 ?_
      simp only [Act.put, List.getElem_toArray, List.getElem_cons_succ, List.getElem_cons_zero, List.setIfInBounds_toArray, List.set_cons_zero, List.set_cons_succ]
      refine wpAnyH_take (i := 12) (v := undef) rfl (by kernel_rfl) (by kernel_rfl) (by kernel_rfl) (fun _ _ _ h => h) (Or.inr ⟨by rfl, rfl⟩) hS0 ?_
      simp only [Act.put, List.getElem_toArray, List.getElem_cons_succ, List.getElem_cons_zero, List.setIfInBounds_toArray, List.set_cons_zero, List.set_cons_succ]
      refine wpAnyH_take (i := 13) (v := undef) rfl (by kernel_rfl) (by kernel_rfl) (by kernel_rfl) (fun _ _ _ h => h) (Or.inr ⟨by rfl, rfl⟩) hS0 ?_
      simp only [Act.put, List.getElem_toArray, List.getElem_cons_succ, List.getElem_cons_zero, List.setIfInBounds_toArray, List.set_cons_zero, List.set_cons_succ]
      refine wpAnyH_take (i := 14) (v := .bool false) rfl (by kernel_rfl) (by kernel_rfl) (by kernel_rfl) (fun _ _ _ h => h) (Or.inl ⟨by rfl, fun w' _ => by first | rfl | go_simp⟩) hS0 ?_
      simp only [Act.put, List.getElem_toArray, List.getElem_cons_succ, List.getElem_cons_zero, List.setIfInBounds_toArray, List.set_cons_zero, List.set_cons_succ]
      refine wpAnyH_take (i := 15) (v := .bool false) rfl (by kernel_rfl) (by kernel_rfl) (by kernel_rfl) (fun _ _ _ h => h) (Or.inl ⟨by rfl, fun w' _ => by first | rfl | go_simp⟩) hS0 ?_
      simp only [Act.put, List.getElem_toArray, List.getElem_cons_succ, List.getElem_cons_zero, List.setIfInBounds_toArray, List.set_cons_zero, List.set_cons_succ]
      refine wpAnyH_take (i := 16) (v := .bool false) rfl (by kernel_rfl) (by kernel_rfl) (by kernel_rfl) (fun _ _ _ h => h) (Or.inl ⟨by rfl, fun w' _ => by first | rfl | go_simp⟩) hS0 ?_
      simp only [Act.put, List.getElem_toArray, List.getElem_cons_succ, List.getElem_cons_zero, List.setIfInBounds_toArray, List.set_cons_zero, List.set_cons_succ]
      refine wpAnyH_take (i := 17) (v := .pointer (some ⟨pb, 0, none⟩)) rfl (by kernel_rfl) (by kernel_rfl) (by kernel_rfl) (fun _ _ _ h => h) (Or.inl ⟨by rfl, fun w' _ => by first | rfl | go_simp⟩) hS0 ?_
      simp only [Act.put, List.getElem_toArray, List.getElem_cons_succ, List.getElem_cons_zero, List.setIfInBounds_toArray, List.set_cons_zero, List.set_cons_succ]
      refine wpAnyH_take (i := 18) (v := .pointer (some ⟨pb, 0, none⟩)) rfl (by kernel_rfl) (by kernel_rfl) (by kernel_rfl) (fun _ _ _ h => h) (Or.inl ⟨by rfl, fun w' _ => by first | rfl | go_simp⟩) hS0 ?_
      simp only [Act.put, List.getElem_toArray, List.getElem_cons_succ, List.getElem_cons_zero, List.setIfInBounds_toArray, List.set_cons_zero, List.set_cons_succ]
      refine wpAnyH_take (i := 19) (v := .pointer (some ⟨pb, 5, none⟩)) rfl (by kernel_rfl) (by kernel_rfl) (by kernel_rfl) (fun _ _ _ h => h) (Or.inl ⟨by rfl, fun w' _ => by first | rfl | go_simp⟩) hS0 ?_
      simp only [Act.put, List.getElem_toArray, List.getElem_cons_succ, List.getElem_cons_zero, List.setIfInBounds_toArray, List.set_cons_zero, List.set_cons_succ]
      refine wpAnyH_take (i := 20) (v := .bool true) rfl (by kernel_rfl) (by kernel_rfl) (by kernel_rfl) (fun _ _ _ h => h) (Or.inl ⟨by rfl, fun w' h => by have hc0 := h.2.1; go_simp⟩) hS0 ?_
      simp only [Act.put, List.getElem_toArray, List.getElem_cons_succ, List.getElem_cons_zero, List.setIfInBounds_toArray, List.set_cons_zero, List.set_cons_succ]
      refine wpAnyH_take (i := 21) (v := .bool true) rfl (by kernel_rfl) (by kernel_rfl) (by kernel_rfl) (fun _ _ _ h => h) (Or.inl ⟨by rfl, fun w' _ => by first | rfl | go_simp⟩) hS0 ?_
      simp only [Act.put, List.getElem_toArray, List.getElem_cons_succ, List.getElem_cons_zero, List.setIfInBounds_toArray, List.set_cons_zero, List.set_cons_succ]
      refine wpAnyH_take (i := 22) (v := .pointer (some ⟨pb, 0, none⟩)) rfl (by kernel_rfl) (by kernel_rfl) (by kernel_rfl) (fun _ _ _ h => h) (Or.inl ⟨by rfl, fun w' _ => by first | rfl | go_simp⟩) hS0 ?_
      simp only [Act.put, List.getElem_toArray, List.getElem_cons_succ, List.getElem_cons_zero, List.setIfInBounds_toArray, List.set_cons_zero, List.set_cons_succ]
      refine wpAnyH_take (i := 23) (v := .pointer (some ⟨pb, 0, none⟩)) rfl (by kernel_rfl) (by kernel_rfl) (by kernel_rfl) (fun _ _ _ h => h) (Or.inl ⟨by rfl, fun w' _ => by first | rfl | go_simp⟩) hS0 ?_
      simp only [Act.put, List.getElem_toArray, List.getElem_cons_succ, List.getElem_cons_zero, List.setIfInBounds_toArray, List.set_cons_zero, List.set_cons_succ]
      refine wpAnyH_take (i := 24) (v := .pointer (some ⟨pb, 1, none⟩)) rfl (by kernel_rfl) (by kernel_rfl) (by kernel_rfl) (fun _ _ _ h => h) (Or.inl ⟨by rfl, fun w' _ => by first | rfl | go_simp⟩) hS0 ?_
      simp only [Act.put, List.getElem_toArray, List.getElem_cons_succ, List.getElem_cons_zero, List.setIfInBounds_toArray, List.set_cons_zero, List.set_cons_succ]
      refine wpAnyH_take (i := 25) (v := .agg #[.int .i64 l1, .int .i64 l2, .string l3]) rfl (by kernel_rfl) (by kernel_rfl) (by kernel_rfl) (fun _ _ _ h => h) (Or.inl ⟨by rfl, fun w' h => by have hc0 := h.2.2.1; have hc1 := h.2.2.2.1; have hc2 := h.2.2.2.2.1; go_simp⟩) hS0 ?_
      simp only [Act.put, List.getElem_toArray, List.getElem_cons_succ, List.getElem_cons_zero, List.setIfInBounds_toArray, List.set_cons_zero, List.set_cons_succ]
      refine wpAnyH_take (i := 26) (v := .agg #[.int .i64 k1, .int .i64 k2, .string k3]) rfl (by kernel_rfl) (by kernel_rfl) (by kernel_rfl) (fun _ _ _ h => h) (Or.inl ⟨by rfl, fun w' h => by have hc0 := h.2.2.2.2.2.1; have hc1 := h.2.2.2.2.2.2.1; have hc2 := h.2.2.2.2.2.2.2.1; go_simp⟩) hS0 ?_
      simp only [Act.put, List.getElem_toArray, List.getElem_cons_succ, List.getElem_cons_zero, List.setIfInBounds_toArray, List.set_cons_zero, List.set_cons_succ]
      refine wpAnyH_ready (rs := [27]) (by kernel_rfl) (by simp) ?_
      refine AllReadyH.cons rfl (fun K hK => ?_) AllReadyH.nil
      refine step_call2 (by rfl) 63 (.tmp 66) (.tmp 67) _ rfl _ _ rfl rfl (fun args w' => Tryz.call63 args w') (HCP.out _ (Below.refl _ _).drew) ?_
      rintro en w7 ⟨rfl, hb7⟩
      have HB7 := hide hb7
      refine ⟨_, rfl, hK.out _ _ (HS.out _ hb7) (fun hS => ?_)⟩
      clear hK K hb7
      simp only [Act.put, List.getElem_toArray, List.getElem_cons_succ, List.getElem_cons_zero, List.setIfInBounds_toArray, List.set_cons_zero, List.set_cons_succ]
      refine wpAnyH_take (i := 28) (v := .bool false) rfl (by kernel_rfl) (by kernel_rfl) (by kernel_rfl) (fun _ _ _ h => h) (Or.inl ⟨by rfl, fun w' h => by have hc0 := hlt2; go_simp⟩) hS ?_
      simp only [Act.put, List.getElem_toArray, List.getElem_cons_succ, List.getElem_cons_zero, List.setIfInBounds_toArray, List.set_cons_zero, List.set_cons_succ]
      refine wpAnyH_take (i := 29) (v := .bool false) rfl (by kernel_rfl) (by kernel_rfl) (by kernel_rfl) (fun _ _ _ h => h) (Or.inl ⟨by rfl, fun w' _ => by first | rfl | go_simp⟩) hS ?_
      simp only [Act.put, List.getElem_toArray, List.getElem_cons_succ, List.getElem_cons_zero, List.setIfInBounds_toArray, List.set_cons_zero, List.set_cons_succ]
      refine wpAnyH_take (i := 30) (v := .bool false) rfl (by kernel_rfl) (by kernel_rfl) (by kernel_rfl) (fun _ _ _ h => h) (Or.inl ⟨by rfl, fun w' _ => by first | rfl | go_simp⟩) hS ?_
      simp only [Act.put, List.getElem_toArray, List.getElem_cons_succ, List.getElem_cons_zero, List.setIfInBounds_toArray, List.set_cons_zero, List.set_cons_succ]
      refine wpAnyH_take (i := 31) (v := .bool false) rfl (by kernel_rfl) (by kernel_rfl) (by kernel_rfl) (fun _ _ _ h => h) (Or.inl ⟨by rfl, fun w' _ => by first | rfl | go_simp⟩) hS ?_
      simp only [Act.put, List.getElem_toArray, List.getElem_cons_succ, List.getElem_cons_zero, List.setIfInBounds_toArray, List.set_cons_zero, List.set_cons_succ]
      refine wpAnyH_done (by kernel_rfl) ?_ _
      go_wp2_with fail
      go_meet
      exact ⟨rfl, HB7⟩
  case rest =>
    obtain ⟨rfl, HBX⟩ := hcut
    clear p2 p3 q0 q1 q2 r0 r1 r2
    have HPX : Hid (PAt wc.drew pb sb mb F z (l1, l2, l3) (-1) any) := hide (HP6.out.below (HBX.out.drew))
    have HKX : Hid (wc.drew.heap[w5.heap.size]? = some (.cells #[.int .i64 k1, .int .i64 k2, .string k3] 64 (0, 0))) := hide ((HBX.out.drew.block _ (Array.getElem?_eq_some_iff.1 HK6.out).1).trans HK6.out)
    have HCX : Hid (wc.drew.heap[w5.heap.size + 1]? = some (.cells #[.int .i64 c1, .int .i64 c2] 34 (0, 0))) := hide ((HBX.out.drew.block _ (Array.getElem?_eq_some_iff.1 HC6.out).1).trans HC6.out)
    have hpk : pb ≠ w5.heap.size := by omega
    have hpc : pb ≠ w5.heap.size + 1 := by omega
    obtain ⟨st, W1, hrun1, hent1, hg1, hz1⟩ := HPX.out.s.map.entry key_enc Tryz.underlying70 (count_zero wc.drew) HOK.out HNEW.out
    have hm1 := fun {b o v} (h : wc.drew.cell? ⟨b, o, none⟩ = some v) => not_map_block HPX.out.s.map h
    have go1 : ∀ {b o v}, wc.drew.cell? ⟨b, o, none⟩ = some v → W1.cell? ⟨b, o, none⟩ = some v := fun {b o v} h => (cell_grown hg1 (block_lt_of_cell h) (by simpa using hm1 h)).trans h
    obtain ⟨W2, hrun2, hmap2, hg2, hz2⟩ := hent1.store (P := Tryz.prog) 70 (c1, c2)
    have go2 : ∀ {b o v}, wc.drew.cell? ⟨b, o, none⟩ = some v → W2.cell? ⟨b, o, none⟩ = some v := fun {b o v} h => (cell_grown hg2 (block_lt_of_cell (go1 h)) (by simpa using hm1 h)).trans (go1 h)
    have hgg : wc.drew.grownBy W2 (some mb) := hg1.trans hg2
    have hpm : pb ≠ mb := map_block_ne HPX.out.s.map HPX.out.blk
    have hsm : sb ≠ mb := HPX.out.s.ne
    have hps : pb ≠ sb := HPX.out.ne
    have hbp2 : W2.heap[pb]? = _ := (hgg.block pb HPX.out.lt (by simpa using hpm)).trans HPX.out.blk
    have hbs2 : W2.heap[sb]? = _ := (hgg.block sb HPX.out.s.lt (by simpa using hsm)).trans HPX.out.s.blk
    have HS0 : Hid (wc.drew.cell? ⟨pb, 0, none⟩ = some (.pointer (some ⟨sb, 0, none⟩)) ∧ wc.drew.cell? ⟨sb, 0, none⟩ = some (.map (some mb)) ∧ wc.drew.cell? ⟨w5.heap.size, 0, none⟩ = some (.int .i64 k1) ∧ wc.drew.cell? ⟨w5.heap.size, 1, none⟩ = some (.int .i64 k2) ∧ wc.drew.cell? ⟨w5.heap.size, 2, none⟩ = some (.string k3) ∧ wc.drew.cell? ⟨w5.heap.size + 1, 0, none⟩ = some (.int .i64 c1) ∧ wc.drew.cell? ⟨w5.heap.size + 1, 1, none⟩ = some (.int .i64 c2)) :=
      hide ⟨(cell_of_row _ pb 0 _ _ _ HPX.out.blk).trans rfl, (cell_of_row _ sb 0 _ _ _ HPX.out.s.blk).trans rfl, (cell_of_row _ _ 0 _ _ _ HKX.out).trans rfl, (cell_of_row _ _ 1 _ _ _ HKX.out).trans rfl, (cell_of_row _ _ 2 _ _ _ HKX.out).trans rfl, (cell_of_row _ _ 0 _ _ _ HCX.out).trans rfl, (cell_of_row _ _ 1 _ _ _ HCX.out).trans rfl⟩
    have HS1 := hide (let h := HS0.out; (⟨go1 h.1, go1 h.2.1, go1 h.2.2.1, go1 h.2.2.2.1, go1 h.2.2.2.2.1, go1 h.2.2.2.2.2.1, go1 h.2.2.2.2.2.2⟩ : W1.cell? ⟨pb, 0, none⟩ = some (.pointer (some ⟨sb, 0, none⟩)) ∧ W1.cell? ⟨sb, 0, none⟩ = some (.map (some mb)) ∧ W1.cell? ⟨w5.heap.size, 0, none⟩ = some (.int .i64 k1) ∧ W1.cell? ⟨w5.heap.size, 1, none⟩ = some (.int .i64 k2) ∧ W1.cell? ⟨w5.heap.size, 2, none⟩ = some (.string k3) ∧ W1.cell? ⟨w5.heap.size + 1, 0, none⟩ = some (.int .i64 c1) ∧ W1.cell? ⟨w5.heap.size + 1, 1, none⟩ = some (.int .i64 c2)))
    have HS2 := hide (let h := HS0.out; (⟨go2 h.1, go2 h.2.1, go2 h.2.2.1, go2 h.2.2.2.1, go2 h.2.2.2.2.1, go2 h.2.2.2.2.2.1, go2 h.2.2.2.2.2.2⟩ : W2.cell? ⟨pb, 0, none⟩ = some (.pointer (some ⟨sb, 0, none⟩)) ∧ W2.cell? ⟨sb, 0, none⟩ = some (.map (some mb)) ∧ W2.cell? ⟨w5.heap.size, 0, none⟩ = some (.int .i64 k1) ∧ W2.cell? ⟨w5.heap.size, 1, none⟩ = some (.int .i64 k2) ∧ W2.cell? ⟨w5.heap.size, 2, none⟩ = some (.string k3) ∧ W2.cell? ⟨w5.heap.size + 1, 0, none⟩ = some (.int .i64 c1) ∧ W2.cell? ⟨w5.heap.size + 1, 1, none⟩ = some (.int .i64 c2)))
    have far : ∀ (W : World) (i : Nat) (v : Value), i ≠ 0 → (W.cell? ⟨pb, 0, none⟩ = some (.pointer (some ⟨sb, 0, none⟩)) ∧ W.cell? ⟨sb, 0, none⟩ = some (.map (some mb)) ∧ W.cell? ⟨w5.heap.size, 0, none⟩ = some (.int .i64 k1) ∧ W.cell? ⟨w5.heap.size, 1, none⟩ = some (.int .i64 k2) ∧ W.cell? ⟨w5.heap.size, 2, none⟩ = some (.string k3) ∧ W.cell? ⟨w5.heap.size + 1, 0, none⟩ = some (.int .i64 c1) ∧ W.cell? ⟨w5.heap.size + 1, 1, none⟩ = some (.int .i64 c2)) → ((W.setCell ⟨pb, i, none⟩ v).cell? ⟨pb, 0, none⟩ = some (.pointer (some ⟨sb, 0, none⟩)) ∧ (W.setCell ⟨pb, i, none⟩ v).cell? ⟨sb, 0, none⟩ = some (.map (some mb)) ∧ (W.setCell ⟨pb, i, none⟩ v).cell? ⟨w5.heap.size, 0, none⟩ = some (.int .i64 k1) ∧ (W.setCell ⟨pb, i, none⟩ v).cell? ⟨w5.heap.size, 1, none⟩ = some (.int .i64 k2) ∧ (W.setCell ⟨pb, i, none⟩ v).cell? ⟨w5.heap.size, 2, none⟩ = some (.string k3) ∧ (W.setCell ⟨pb, i, none⟩ v).cell? ⟨w5.heap.size + 1, 0, none⟩ = some (.int .i64 c1) ∧ (W.setCell ⟨pb, i, none⟩ v).cell? ⟨w5.heap.size + 1, 1, none⟩ = some (.int .i64 c2)) := fun W i v hi h => by
      obtain ⟨a1, a2, a3, a4, a5, a6, a7⟩ := h
      refine ⟨?_, ?_, ?_, ?_, ?_, ?_, ?_⟩
      · rw [cell_setCell_off _ _ _ _ _ (fun e => hi e)]; exact a1
      all_goals (rw [World.cell?_setCell_far _ _ _ _ (by first | exact hps | exact hpk | exact hpc)]; assumption)
    have FAR := hide far
    have HR1 := hide hrun1
    have HR2 := hide hrun2
    have HM2 := hide hmap2
    have HGG := hide hgg
    have HBP2 := hide hbp2
    have HBS2 := hide hbs2
    clear hrun1 hrun2 hmap2 hent1 hg1 hg2 hz1 hz2 go1 go2 hm1 hgg far hbp2 hbs2
    go_upto_region 13 with fail
    refine wp_region_held_drew (S := (fun w' => w'.cell? ⟨pb, 0, none⟩ = some (.pointer (some ⟨sb, 0, none⟩)) ∧ w'.cell? ⟨sb, 0, none⟩ = some (.map (some mb)) ∧ w'.cell? ⟨w5.heap.size, 0, none⟩ = some (.int .i64 k1) ∧ w'.cell? ⟨w5.heap.size, 1, none⟩ = some (.int .i64 k2) ∧ w'.cell? ⟨w5.heap.size, 2, none⟩ = some (.string k3) ∧ w'.cell? ⟨w5.heap.size + 1, 0, none⟩ = some (.int .i64 c1) ∧ w'.cell? ⟨w5.heap.size + 1, 1, none⟩ = some (.int .i64 c2))) (by kernel_rfl) HS0.out (fun hS0 => ?_)
    refine wpAnyH_take (i := 0) (v := .pointer (some ⟨pb, 0, none⟩)) rfl (by kernel_rfl) (by kernel_rfl) (by kernel_rfl) (fun _ _ _ h => h) (Or.inl ⟨by rfl, fun w' _ => by first | rfl | go_simp⟩) hS0 ?_
    simp only [Act.put, List.getElem_toArray, List.getElem_cons_succ, List.getElem_cons_zero, List.setIfInBounds_toArray, List.set_cons_zero, List.set_cons_succ]
    refine wpAnyH_take (i := 1) (v := .pointer (some ⟨pb, 0, none⟩)) rfl (by kernel_rfl) (by kernel_rfl) (by kernel_rfl) (fun _ _ _ h => h) (Or.inl ⟨by rfl, fun w' _ => by first | rfl | go_simp⟩) hS0 ?_
    simp only [Act.put, List.getElem_toArray, List.getElem_cons_succ, List.getElem_cons_zero, List.setIfInBounds_toArray, List.set_cons_zero, List.set_cons_succ]
    refine wpAnyH_take (i := 2) (v := .pointer (some ⟨pb, 0, none⟩)) rfl (by kernel_rfl) (by kernel_rfl) (by kernel_rfl) (fun _ _ _ h => h) (Or.inl ⟨by rfl, fun w' _ => by first | rfl | go_simp⟩) hS0 ?_
    simp only [Act.put, List.getElem_toArray, List.getElem_cons_succ, List.getElem_cons_zero, List.setIfInBounds_toArray, List.set_cons_zero, List.set_cons_succ]
    refine wpAnyH_take (i := 3) (v := .pointer (some ⟨sb, 0, none⟩)) rfl (by kernel_rfl) (by kernel_rfl) (by kernel_rfl) (fun _ _ _ h => h) (Or.inl ⟨by rfl, fun w' h => by have hc0 := h.1; go_simp⟩) hS0 ?_
    simp only [Act.put, List.getElem_toArray, List.getElem_cons_succ, List.getElem_cons_zero, List.setIfInBounds_toArray, List.set_cons_zero, List.set_cons_succ]
    refine wpAnyH_take (i := 4) (v := .pointer (some ⟨sb, 0, none⟩)) rfl (by kernel_rfl) (by kernel_rfl) (by kernel_rfl) (fun _ _ _ h => h) (Or.inl ⟨by rfl, fun w' _ => by first | rfl | go_simp⟩) hS0 ?_
    simp only [Act.put, List.getElem_toArray, List.getElem_cons_succ, List.getElem_cons_zero, List.setIfInBounds_toArray, List.set_cons_zero, List.set_cons_succ]
    refine wpAnyH_take (i := 5) (v := .pointer (some ⟨sb, 0, none⟩)) rfl (by kernel_rfl) (by kernel_rfl) (by kernel_rfl) (fun _ _ _ h => h) (Or.inl ⟨by rfl, fun w' _ => by first | rfl | go_simp⟩) hS0 ?_
    simp only [Act.put, List.getElem_toArray, List.getElem_cons_succ, List.getElem_cons_zero, List.setIfInBounds_toArray, List.set_cons_zero, List.set_cons_succ]
    refine wpAnyH_take (i := 6) (v := .map (some mb)) rfl (by kernel_rfl) (by kernel_rfl) (by kernel_rfl) (fun _ _ _ h => h) (Or.inl ⟨by rfl, fun w' h => by have hc0 := h.2.1; go_simp⟩) hS0 ?_
    simp only [Act.put, List.getElem_toArray, List.getElem_cons_succ, List.getElem_cons_zero, List.setIfInBounds_toArray, List.set_cons_zero, List.set_cons_succ]
    refine wpAnyH_take (i := 7) (v := .agg #[.int .i64 k1, .int .i64 k2, .string k3]) rfl (by kernel_rfl) (by kernel_rfl) (by kernel_rfl) (fun _ _ _ h => h) (Or.inl ⟨by rfl, fun w' h => by have hc0 := h.2.2.1; have hc1 := h.2.2.2.1; have hc2 := h.2.2.2.2.1; go_simp⟩) hS0 ?_
    simp only [Act.put, List.getElem_toArray, List.getElem_cons_succ, List.getElem_cons_zero, List.setIfInBounds_toArray, List.set_cons_zero, List.set_cons_succ]
    refine wpAnyH_take (i := 8) (v := .pointer (some ⟨pb, 0, none⟩)) rfl (by kernel_rfl) (by kernel_rfl) (by kernel_rfl) (fun _ _ _ h => h) (Or.inl ⟨by rfl, fun w' _ => by first | rfl | go_simp⟩) hS0 ?_
    simp only [Act.put, List.getElem_toArray, List.getElem_cons_succ, List.getElem_cons_zero, List.setIfInBounds_toArray, List.set_cons_zero, List.set_cons_succ]
    refine wpAnyH_take (i := 9) (v := .pointer (some ⟨pb, 0, none⟩)) rfl (by kernel_rfl) (by kernel_rfl) (by kernel_rfl) (fun _ _ _ h => h) (Or.inl ⟨by rfl, fun w' _ => by first | rfl | go_simp⟩) hS0 ?_
    simp only [Act.put, List.getElem_toArray, List.getElem_cons_succ, List.getElem_cons_zero, List.setIfInBounds_toArray, List.set_cons_zero, List.set_cons_succ]
    refine wpAnyH_take (i := 10) (v := .agg #[.int .i64 c1, .int .i64 c2]) rfl (by kernel_rfl) (by kernel_rfl) (by kernel_rfl) (fun _ _ _ h => h) (Or.inl ⟨by rfl, fun w' h => by have hc0 := h.2.2.2.2.2.1; have hc1 := h.2.2.2.2.2.2; go_simp⟩) hS0 ?_
    simp only [Act.put, List.getElem_toArray, List.getElem_cons_succ, List.getElem_cons_zero, List.setIfInBounds_toArray, List.set_cons_zero, List.set_cons_succ]
    refine wpAnyH_take (i := 11) (v := .agg #[.int .i64 k1, .int .i64 k2, .string k3]) rfl (by kernel_rfl) (by kernel_rfl) (by kernel_rfl) (fun _ _ _ h => h) (Or.inl ⟨by rfl, fun w' h => by have hc0 := h.2.2.1; have hc1 := h.2.2.2.1; have hc2 := h.2.2.2.2.1; go_simp⟩) hS0 ?_
    simp only [Act.put, List.getElem_toArray, List.getElem_cons_succ, List.getElem_cons_zero, List.setIfInBounds_toArray, List.set_cons_zero, List.set_cons_succ]
    refine wpAnyH_ready (rs := [12]) (by kernel_rfl) (by simp) ?_
    refine AllReadyH.cons rfl (fun K hK => ?_) AllReadyH.nil
    refine step_run (by rfl) (v := .tuple #[.agg #[.int .i64 0, .int .i64 0], goInt st]) (w' := W1) (run_mapEntry_op rfl rfl rfl HR1.out) (hK.out _ _ HS1.out (fun hS => ?_))
    clear hK K
    simp only [Act.put, List.getElem_toArray, List.getElem_cons_succ, List.getElem_cons_zero, List.setIfInBounds_toArray, List.set_cons_zero, List.set_cons_succ]
    refine wpAnyH_take (i := 13) (v := goInt st) rfl (by kernel_rfl) (by kernel_rfl) (by kernel_rfl) (fun _ _ _ h => h) (Or.inl ⟨by rfl, fun w' _ => by first | rfl | go_simp⟩) hS ?_
    simp only [Act.put, List.getElem_toArray, List.getElem_cons_succ, List.getElem_cons_zero, List.setIfInBounds_toArray, List.set_cons_zero, List.set_cons_succ]
    refine wpAnyH_ready (rs := [14]) (by kernel_rfl) (by simp) ?_
    refine AllReadyH.cons rfl (fun K hK => ?_) AllReadyH.nil
    refine step_skip (by rfl) (w' := W2) (run_entryStore_op rfl rfl rfl rfl HR2.out) (hK.out _ _ HS2.out (fun hS2 => ?_))
    clear hK K
    simp only [Act.put, List.getElem_toArray, List.getElem_cons_succ, List.getElem_cons_zero, List.setIfInBounds_toArray, List.set_cons_zero, List.set_cons_succ]
    refine wpAnyH_take (i := 15) (v := .pointer (some ⟨pb, 0, none⟩)) rfl (by kernel_rfl) (by kernel_rfl) (by kernel_rfl) (fun _ _ _ h => h) (Or.inl ⟨by rfl, fun w' _ => by first | rfl | go_simp⟩) hS2 ?_
    simp only [Act.put, List.getElem_toArray, List.getElem_cons_succ, List.getElem_cons_zero, List.setIfInBounds_toArray, List.set_cons_zero, List.set_cons_succ]
    refine wpAnyH_take (i := 16) (v := .pointer (some ⟨pb, 1, none⟩)) rfl (by kernel_rfl) (by kernel_rfl) (by kernel_rfl) (fun _ _ _ h => h) (Or.inl ⟨by rfl, fun w' _ => by first | rfl | go_simp⟩) hS2 ?_
    simp only [Act.put, List.getElem_toArray, List.getElem_cons_succ, List.getElem_cons_zero, List.setIfInBounds_toArray, List.set_cons_zero, List.set_cons_succ]
    obtain ⟨W3, hW3⟩ : ∃ W3, ((W2.setCell ⟨pb, 1, none⟩ (.int .i64 k1)).setCell ⟨pb, 2, none⟩ (.int .i64 k2)).setCell ⟨pb, 3, none⟩ (.string k3) = W3 := ⟨_, rfl⟩
    have hb3 : W3.heap[pb]? = some (.cells #[.pointer (some ⟨sb, 0, none⟩), .int .i64 k1, .int .i64 k2, .string k3, .int .i64 (-1), .bool any] 98 (0, 0)) := by
      rw [← hW3, heap_setCell_same _ pb 3 _ 98 _ (heap_setCell_same _ pb 2 _ 98 _ (heap_setCell_same W2 pb 1 _ 98 _ HBP2.out))]; rfl
    have hs3 := FAR.out _ 3 (.string k3) (by decide) (FAR.out _ 2 (.int .i64 k2) (by decide) (FAR.out W2 1 (.int .i64 k1) (by decide) hS2))
    rw [hW3] at hs3
    have HS3 := hide hs3
    clear hs3
    have HW3 := hide hW3
    have HB3 := hide hb3
    refine wpAnyH_ready (rs := [17]) (by kernel_rfl) (by simp) ?_
    refine AllReadyH.cons rfl (fun K hK => ?_) AllReadyH.nil
    refine step_skip (by rfl) (w' := W3) ?_ (hK.out _ _ HS3.out (fun hS3 => ?_))
    · have s1 : W2.cell? ⟨pb, 1, none⟩ = some (.int .i64 l1) := (cell_of_row W2 pb 1 _ _ _ HBP2.out).trans rfl
      have s2 : W2.cell? ⟨pb, 2, none⟩ = some (.int .i64 l2) := (cell_of_row W2 pb 2 _ _ _ HBP2.out).trans rfl
      have s3 : W2.cell? ⟨pb, 3, none⟩ = some (.string l3) := (cell_of_row W2 pb 3 _ _ _ HBP2.out).trans rfl
      have f1 := frozen_of_row W2 pb 1 _ _ HBP2.out
      have f2 := frozen_of_row W2 pb 2 _ _ HBP2.out
      have f3 := frozen_of_row W2 pb 3 _ _ HBP2.out
      rw [← hW3]
      clear hS hS0 hS2 hW3 hb3
      go_simp
    clear hK K hW3 hb3
    simp only [Act.put, List.getElem_toArray, List.getElem_cons_succ, List.getElem_cons_zero, List.setIfInBounds_toArray, List.set_cons_zero, List.set_cons_succ]
    refine wpAnyH_take (i := 18) (v := .pointer (some ⟨pb, 0, none⟩)) rfl (by kernel_rfl) (by kernel_rfl) (by kernel_rfl) (fun _ _ _ h => h) (Or.inl ⟨by rfl, fun w' _ => by first | rfl | go_simp⟩) hS3 ?_
    simp only [Act.put, List.getElem_toArray, List.getElem_cons_succ, List.getElem_cons_zero, List.setIfInBounds_toArray, List.set_cons_zero, List.set_cons_succ]
    refine wpAnyH_take (i := 19) (v := .pointer (some ⟨pb, 5, none⟩)) rfl (by kernel_rfl) (by kernel_rfl) (by kernel_rfl) (fun _ _ _ h => h) (Or.inl ⟨by rfl, fun w' _ => by first | rfl | go_simp⟩) hS3 ?_
    simp only [Act.put, List.getElem_toArray, List.getElem_cons_succ, List.getElem_cons_zero, List.setIfInBounds_toArray, List.set_cons_zero, List.set_cons_succ]
    refine wpAnyH_ready (rs := [20]) (by kernel_rfl) (by simp) ?_
    refine AllReadyH.cons rfl (fun K hK => ?_) AllReadyH.nil
    refine step_skip (by rfl) (w' := W3.setCell ⟨pb, 5, none⟩ (.bool true)) ?_ (hK.out _ _ (FAR.out W3 5 (.bool true) (by decide) HS3.out) (fun hS4 => ?_))
    · have s5 : W3.cell? ⟨pb, 5, none⟩ = some (.bool any) := (cell_of_row W3 pb 5 _ _ _ HB3.out).trans rfl
      have f5 := frozen_of_row W3 pb 5 _ _ HB3.out
      clear hS hS0 hS2 hS3
      go_simp
    clear hK K
    simp only [Act.put, List.getElem_toArray, List.getElem_cons_succ, List.getElem_cons_zero, List.setIfInBounds_toArray, List.set_cons_zero, List.set_cons_succ]
    refine wpAnyH_done (by kernel_rfl) ?_ _
    clear hS hS0 hS2 hS3 hS4
    go_wp2_with fail
    go_ret
    have ho3 : ∀ j, j ≠ pb → W3.heap[j]? = W2.heap[j]? := fun j hj => by
      rw [← HW3.out, heap_setCell_other _ _ _ _ hj, heap_setCell_other _ _ _ _ hj, heap_setCell_other _ _ _ _ hj]
    refine ⟨rfl, ⟨?_, ⟨?_, ?_, HPX.out.s.len⟩⟩, ?_⟩
    · rw [heap_setCell_same _ pb 5 _ 98 _ HB3.out]; rfl
    · rw [heap_setCell_other _ _ _ _ (fun e => hps e.symm), ho3 _ (fun e => hps e.symm)]; exact HBS2.out
    · exact Mp.IsMap.of_block HM2.out (by rw [heap_setCell_other _ _ _ _ (fun e => hpm e.symm), ho3 _ (fun e => hpm e.symm)])
    · have hbx := HB6.out.trans (HBX.out.mono HB6.out.size)
      refine But2.first hbx ((But2.of_below (Below.refl _ _).drew).trans ?_)
      refine ⟨by rw [← HW3.out]; exact HGG.out.os, by rw [← HW3.out]; exact HGG.out.tape, by rw [← HW3.out]; exact HGG.out.output, by rw [← HW3.out]; simpa using HGG.out.size, fun i hi h1 h2 => ?_⟩
      rw [heap_setCell_other _ _ _ _ h1, ho3 _ h1]
      exact HGG.out.block i hi (by simpa using h2)
end Go.Proofs.YticcfbeocepnpaaGreatDoor
set_option linter.unusedSimpArgs false
set_option maxRecDepth 100000
namespace Go.Proofs.YticcfbeocepnpaaGreatDoor
open Go.RowKit Go.Shelf Pl
attribute [local go_sem] Oper.semAt_some

/-- Nothing but block b, of those below B, has turned. -/
structure Rest (B b : Nat) (W W' : World) : Prop where
  os : W'.os = W.os
  tape : W'.tape = W.tape
  output : W'.output = W.output
  size : W.heap.size ≤ W'.heap.size
  block : ∀ i, i < B → i ≠ b → W'.heap[i]? = W.heap[i]?
theorem Rest.putObj {B b : Nat} (W : World) (l : Nat) (o : Obj) (h : B ≤ l) : Rest B b W (W.putObj l o) :=
  ⟨rfl, rfl, rfl, by simp, fun i hi _ => World.putObj_heap_other (by omega)⟩
theorem Rest.alloc {B b : Nat} (W : World) (o : Obj) (h : B ≤ W.heap.size) : Rest B b W (W.alloc o) :=
  ⟨rfl, rfl, rfl, by simp, fun i hi _ => Below.heap_alloc W o i (by omega)⟩
theorem Rest.setCell {B b : Nat} (W : World) (i : Nat) (v : Value) : Rest B b W (W.setCell ⟨b, i, none⟩ v) :=
  ⟨rfl, rfl, rfl, by simp, fun j hj hb => heap_setCell_other _ _ _ _ hb⟩
theorem Rest.trans {B b : Nat} {x y z : World} (h : Rest B b x y) (k : Rest B b y z) : Rest B b x z :=
  ⟨k.os.trans h.os, k.tape.trans h.tape, k.output.trans h.output, Nat.le_trans h.size k.size, fun i hi hb => (k.block i hi hb).trans (h.block i hi hb)⟩

/-- How a round may end. -/
def roundOk (B b : Nat) (I : World → Prop) (W : World) : Exit → Act → World → Prop
  | .normal, _, W' => KeepsFrom B W W' ∧ I W' ∧ W'.heap[b]? = W.heap[b]?
  | .ret, _, _ => False
  | .exit _, _, _ => False
  | .goto _, _, _ => False
  | .panic _, _, _ => False
  | .outgrown, _, _ => False

/-- What an iterator that keeps its rest in block b owes. -/
def SeqBox (F : Fence) (n : Nat) (P : Program) (g : Nat) (lb : Array Value) (ls : List ByteArray) (B b : Nat) (w : World) : Prop :=
  ∀ (l : Nat) (J : Nat → World → Prop) (W : World), Rest B B w W → W.heap[b]? = w.heap[b]? → B ≤ W.heap.size →
    (∀ k x W1, ls[k]? = some x → J k W1 → YieldAt F (n - 1) P l #[.string x] W1 fun e W' => e = .returned (.bool true) ∧ J (k + 1) W' ∧ W'.heap[b]? = W1.heap[b]?) →
    (∀ k W1 W2, J k W1 → Rest (W.heap.size) b W1 W2 → J k W2) → J 0 W →
    CallsIn F n P g (#[.func (.yield l) #[] #[]] ++ lb) W fun e W' => (∃ v, e = .returned v) ∧ J ls.length W'

theorem wpIn_range_box {F : Fence} {n : Nat} {P : Program} {g : Operand} {ps : Array Tmp} {assign body : Code} {Q : Exit → Act → World → Prop} {a : Act} {w : World}
    (hro : F.round = none) (h1 : 1 ≤ n) {gf : Nat} {lb : Array Value} (hg : a.eval g = .func (.func gf) #[] lb) (hFg : F.fn gf) (eg : ∀ args w, (callFunc gf args).run P w = .ok (.enter gf args) w)
    {ls : List ByteArray} {b : Nat} (hb : b < w.heap.size) (hseq : SeqBox F (n - 1) P gf lb ls w.heap.size b w) (hps : ps.size = 1)
    (I : Nat → World → Prop) (hI : ∀ k W W', I k W → Rest w.heap.size b W W' → I k W') (h0 : I 0 w) (a₁ : ByteArray → Act)
    (hassign : ∀ (l : Nat) (x : ByteArray) (W : World) (K : Act → World → Prop), K (a₁ x) W →
      assign.wpIn (F.inRound l) (n - 1 - 1) P (Exit.then K (fun _ _ _ => False)) { tmps := (ps.zip #[Value.string x]).foldl (fun t (p, v) => t.setIfInBounds p v) a.tmps, defers := [] } W)
    (hbody : ∀ (l k : Nat) (x : ByteArray) (W : World), I k W → ls[k]? = some x → w.heap.size ≤ W.heap.size → body.wpIn (F.inRound l) (n - 1 - 1) P (roundOk w.heap.size b (I (k + 1)) W) (a₁ x) W)
    (hdone : ∀ (D : Nat) (W : World), w.heap.size ≤ D → I ls.length W → W.heap[D]? = some (.deferred (some [])) → Q .normal { a with defers := { target := .collected D, args := #[] } :: a.defers } W) :
    (Code.rangeFunc g ps assign body).wpIn F n P Q a w := by
  refine wpIn_rangeFunc ?_
  intro fn hfn
  rw [hro]
  obtain ⟨rec, hrec⟩ : ∃ rec : LoopState → Loop, rec = fun st => { state := st, pending := none, fn, tmps := a.tmps, params := ps, assign, body, defers := w.heap.size } := ⟨_, rfl⟩
  obtain ⟨W1, hW1⟩ : ∃ W1, (w.alloc (.deferred (some []))).alloc (.loop (rec .ready)) = W1 := ⟨_, rfl⟩
  have hL : W1.heap[w.heap.size + 1]? = some (.loop (rec .ready)) := by
    rw [← hW1]
    have := World.alloc_heap_new (w.alloc (.deferred (some []))) (.loop (rec .ready))
    rwa [World.size_alloc] at this
  have hD : W1.heap[w.heap.size]? = some (.deferred (some [])) := by
    rw [← hW1]
    exact (Below.heap_alloc _ _ _ (by simp)).trans (World.alloc_heap_new w _)
  have hsz : W1.heap.size = w.heap.size + 1 + 1 := by rw [← hW1]; simp
  have hr1 : Rest w.heap.size w.heap.size w W1 := by
    rw [← hW1]; exact (Rest.alloc w _ (Nat.le_refl _)).trans (Rest.alloc _ _ (by simp))
  have hr1b : Rest w.heap.size b w W1 := ⟨hr1.os, hr1.tape, hr1.output, hr1.size, fun i hi _ => hr1.block i hi (by omega)⟩
  refine ⟨w.heap.size + 1, [{ target := .collected w.heap.size, args := #[] }], W1, { target := .fn (.func gf) lb, args := #[.func (.yield (w.heap.size + 1)) #[] #[]] }, W1, gf,
    #[.func (.yield (w.heap.size + 1)) #[] #[]] ++ lb, W1, ?_, ?_, ?_, ?_, fun _ => h1, ?_⟩
  · rw [← hW1, hrec]; exact run_enterLoop_outer _ _ _ _ _
  · simp only [resolve, hg]
    simp [go_sem]
  · intro f' hf'; simp [Target.leads] at hf'; subst hf'; exact hFg
  · simp [invoke, go_sem, eg]
  · refine (hseq (w.heap.size + 1) (fun k W => I k W ∧ w.heap.size ≤ W.heap.size ∧ W.heap[w.heap.size + 1]? = some (.loop (rec .ready)) ∧ W.heap[w.heap.size]? = some (.deferred (some []))) W1 hr1 (hr1.block b hb (by omega)) hr1.size ?_ ?_ ⟨hI _ _ _ h0 hr1b, hr1.size, hL, hD⟩).mono ?_
    · rintro k x W hx ⟨hi, hs, hl, hd⟩
      have hlt : w.heap.size + 1 < W.heap.size := (Array.getElem?_eq_some_iff.1 hl).1
      have hy := run_yield (P := P) (args := #[Value.string x]) hl (by rw [hrec]; exact hps.symm)
      rw [hrec] at hy
      refine ⟨fn, _, assign, body, hy, roundIn_of_wpIn hfn (hassign _ x W _ ⟨_, run_beginRound hl (by rw [hrec]), ?_⟩)⟩
      obtain ⟨W2, hW2⟩ : ∃ W2, W.putObj (w.heap.size + 1) (.loop { rec .ready with state := .busy }) = W2 := ⟨_, rfl⟩
      have hl2 : W2.heap[w.heap.size + 1]? = some (.loop { rec .ready with state := .busy }) := by rw [← hW2]; exact World.putObj_heap_same hlt
      have hd2 : W2.heap[w.heap.size]? = some (.deferred (some [])) := by rw [← hW2]; exact (World.putObj_heap_other (by omega)).trans hd
      have hb2 : W2.heap[b]? = W.heap[b]? := by rw [← hW2]; exact World.putObj_heap_other (by omega)
      have hi2 : I k W2 := by rw [← hW2]; exact hI _ _ _ hi (Rest.putObj _ _ _ (by omega))
      have hs2 : w.heap.size ≤ W2.heap.size := by rw [← hW2]; simpa using hs
      rw [hW2]
      refine wpIn_mono (hbody _ k x W2 hi2 hx hs2) ?_
      rintro e a3 W3 hp
      cases e with
      | normal =>
        obtain ⟨hk3, hi3, hb3⟩ := hp
        have hl3 := hk3.same _ _ (by omega) hl2 rfl
        have he := run_endRound (P := P) none hl3
        refine ⟨_, _, he, rfl, ⟨hI _ _ _ hi3 (Rest.putObj _ _ _ (by omega)), by have := hk3.size; simp; omega, ?_, (World.putObj_heap_other (by omega)).trans (hk3.same _ _ (Nat.le_refl _) hd2 rfl)⟩, ?_⟩
        · rw [hrec]; exact World.putObj_heap_same (Array.getElem?_eq_some_iff.1 hl3).1
        · rw [World.putObj_heap_other (by omega), hb3, hb2]
      | ret => exact hp.elim
      | exit id => exact hp.elim
      | goto t => exact hp.elim
      | panic ch => exact hp.elim
      | outgrown => exact hp.elim
    · rintro k A C ⟨hi, hs, hl, hd⟩ hr
      exact ⟨hI _ _ _ hi ⟨hr.os, hr.tape, hr.output, hr.size, fun i hi2 hib => hr.block i (by omega) hib⟩, Nat.le_trans hs hr.size, (hr.block _ (by omega) (by omega)).trans hl, (hr.block _ (by omega) (by omega)).trans hd⟩
    · rintro e W2 ⟨⟨v, rfl⟩, hi, hs, hl, hd⟩
      exact ⟨none, _, by have := run_endLoop (P := P) hl (by rw [hrec]; simp); rw [hrec] at this; exact this, hdone _ _ (Nat.le_refl _) (hI _ _ _ hi (Rest.putObj _ _ _ (by omega))) ((World.putObj_heap_other (by omega)).trans hd)⟩
end Go.Proofs.YticcfbeocepnpaaGreatDoor
set_option linter.unusedSimpArgs false
set_option maxRecDepth 100000
namespace Go.Proofs.YticcfbeocepnpaaGreatDoor
open Go.RowKit Go.Shelf Pl
attribute [local go_sem] Oper.semAt_some

/-- Lines that end with a line feed and hold no other. -/
def LineOk (x : ByteArray) : Prop := ∃ y : List UInt8, x.data.toList = y ++ [10] ∧ (10 : UInt8) ∉ y
theorem data_app (a b : ByteArray) : (a ++ b).data.toList = a.data.toList ++ b.data.toList := by simp
theorem catB_data : ∀ (ls : List ByteArray), (catB ls).data.toList = ls.flatMap (·.data.toList) := by
  have go : ∀ (ls : List ByteArray) (a : ByteArray), (ls.foldl (· ++ ·) a).data.toList = a.data.toList ++ ls.flatMap (·.data.toList) := by
    intro ls
    induction ls with
    | nil => intro a; simp
    | cons x r ih => intro a; rw [List.foldl_cons, ih, data_app, List.flatMap_cons, List.append_assoc]
  intro ls
  unfold catB
  rw [go]; rfl
theorem ba_ext {a b : ByteArray} (h : a.data.toList = b.data.toList) : a = b := ByteArray.ext (Array.toList_inj.1 h)
theorem catB_cons (x : ByteArray) (r : List ByteArray) : catB (x :: r) = x ++ catB r := by
  apply ba_ext
  rw [catB_data, data_app, catB_data, List.flatMap_cons]
theorem catB_drop {ls : List ByteArray} {k : Nat} {x : ByteArray} (h : ls[k]? = some x) : catB (ls.drop k) = x ++ catB (ls.drop (k + 1)) := by
  obtain ⟨h1, h2⟩ := List.getElem?_eq_some_iff.1 h
  rw [List.drop_eq_getElem_cons h1, h2, catB_cons]
theorem lineOk_size {x : ByteArray} (h : LineOk x) : 1 ≤ x.size := by
  obtain ⟨y, hy, _⟩ := h
  have := congrArg List.length hy
  simp at this
  omega
theorem index_line {x r : ByteArray} (h : LineOk x) : Lib.indexByte (x ++ r).data.toList 10 = ((x.size - 1 : Nat) : Int) := by
  obtain ⟨y, hy, hn⟩ := h
  have hs : x.size = y.length + 1 := by have := congrArg List.length hy; simpa using this
  have go : ∀ (y l : List UInt8), (10 : UInt8) ∉ y → Lib.indexByte (y ++ 10 :: l) 10 = (y.length : Int) := by
    intro y
    induction y with
    | nil => intro l _; simp [Lib.indexByte]
    | cons a t ih =>
      intro l hn
      have h1 : (a == (10 : UInt8)) = false := by simp; intro e; exact hn (by simp [e])
      have h2 := ih l (fun e => hn (List.mem_cons_of_mem _ e))
      rw [List.cons_append, Lib.indexByte, h2, h1]
      have h3 : ((t.length : Int) == -1) = false := by simp
      rw [h3]
      simp
  rw [data_app, hy, List.append_assoc, List.singleton_append, go y _ hn, hs]
  rfl
theorem extract_left (x r : ByteArray) : (x ++ r).extract 0 x.size = x := by
  apply ba_ext
  have h : x.data.toList.length = x.size := by simp
  simp only [ByteArray.data_extract, Array.toList_extract, data_app, List.extract_eq_take_drop, Nat.sub_zero, List.drop_zero]
  rw [List.take_left' h]
theorem extract_right (x r : ByteArray) : (x ++ r).extract x.size (x ++ r).size = r := by
  apply ba_ext
  have h : x.data.toList.length = x.size := by simp
  have h2 : r.data.toList.length = r.size := by simp
  simp only [ByteArray.data_extract, Array.toList_extract, data_app, List.extract_eq_take_drop, ByteArray.size_append]
  rw [List.drop_left' h, List.take_of_length_le (by omega)]

theorem Rest.drew {B b : Nat} {W W' : World} (h : Rest B b W W') : Rest B b W W'.drew := ⟨h.os, h.tape, h.output, h.size, h.block⟩
/-- How long what is left is. -/
def boxLen (W : World) (b : Nat) : Nat := match W.cell? ⟨b, 0, none⟩ with | some (.string s) => s.size | _ => 0

set_option maxHeartbeats 2000000 in
theorem lines1_box (ls : List ByteArray) (hls : ∀ x ∈ ls, LineOk x) (b B n : Nat) (hn : 2 ≤ n) (w : World) (hbox : w.heap[b]? = some (.cells #[.string (catB ls)] 9 (0, 0))) (hsz : (catB ls).size ≤ 16777216) :
    SeqBox Fence.wide n Tryz.prog 71 #[.pointer (some ⟨b, 0, none⟩)] ls B b w := by
  intro l J W hrw hbk hBW hY hJ h0
  have h1 : 1 ≤ n := by omega
  refine callsIn_of_wp Tryz.func71 rfl trivial ?_ rfl
  simp only [Tryz.ntmps71, List.size_toArray, List.length_cons, List.length_nil, Nat.reduceAdd, Nat.reduceSub, Array.replicate_succ, Array.replicate_zero, List.push_toArray, List.append_toArray, List.nil_append, List.cons_append]
  have HJ := hide hJ
  have HY := hide hY
  have H0 := hide h0
  have HBX : Hid (W.heap[b]? = some (.cells #[.string (catB ls)] 9 (0, 0))) := hide (hbk.trans hbox)
  clear hJ hY h0 hrw hbk hbox
  gi_wp2
  gi_loopw [3] (fun _ wr => ∃ k, k ≤ ls.length ∧ J k wr ∧ wr.heap[b]? = some (.cells #[.string (catB (ls.drop k))] 9 (0, 0))) (fun _ wr => boxLen wr b)
  case atStart => exact ⟨0, Nat.zero_le _, H0.out, HBX.out⟩
  case round =>
    obtain ⟨k, hk, hJk, hbk⟩ := hrel
    have HJK := hide hJk
    have HBK := hide hbk
    have cb : wr.cell? ⟨b, 0, none⟩ = some (.string (catB (ls.drop k))) := (cell_of_row wr b 0 _ _ _ hbk).trans rfl
    have fb := frozen_of_row wr b 0 _ _ hbk
    rcases Nat.eq_or_lt_of_le hk with hke | hkl
    · have he : catB (ls.drop k) = ⟨#[]⟩ := by rw [hke, List.drop_length]; rfl
      rw [he] at cb
      have HKE := hide hke
      clear hke hk hJk hbk fb he
      gi_wp2
      go_end0
      exact ⟨⟨_, rfl⟩, by rw [← HKE.out]; exact HJK.out⟩
    · obtain ⟨x, hx⟩ : ∃ x, ls[k]? = some x := ⟨_, List.getElem?_eq_getElem hkl⟩
      have hd := catB_drop hx
      have hxo := hls x (List.mem_of_getElem? hx)
      have hx1 := lineOk_size hxo
      obtain ⟨r, hr⟩ : ∃ r, catB (ls.drop (k + 1)) = r := ⟨_, rfl⟩
      rw [hr] at hd
      rw [hd] at cb
      have hxs : (x ++ r).size ≤ 16777216 := by
        rw [← hd]
        have e : (catB ls).data.toList = (ls.take k).flatMap (·.data.toList) ++ (ls.drop k).flatMap (·.data.toList) := by rw [catB_data, ← List.flatMap_append, List.take_append_drop]
        have e3 := congrArg List.length e
        rw [List.length_append, ← catB_data (ls.drop k)] at e3
        simp only [Array.length_toList] at e3
        have e4 : (catB ls).data.size = (catB ls).size := rfl
        have e5 : (catB (ls.drop k)).data.size = (catB (ls.drop k)).size := rfl
        omega
      have hsa : (x ++ r).size = x.size + r.size := ByteArray.size_append
      have HX := hide hx
      have HD := hide hd
      have HXO := hide hxo
      have HR := hide hr
      obtain ⟨m, hm⟩ : ∃ m, x.size = m + 1 := ⟨x.size - 1, by omega⟩
      have HIB : Hid (Calls Tryz.prog 72 #[.string (x ++ r), .int .u8 10] wr fun e w' => e = .returned (.int .i64 (m : Int)) ∧ wr = w') := hide ((Tryz.strings_IndexByte (x ++ r) 10 wr).mono (by
        rintro e w' ⟨rfl, rfl⟩
        refine ⟨?_, rfl⟩
        have e1 : (Int.toNat 10).toUInt8 = (10 : UInt8) := rfl
        rw [e1, index_line hxo, hm]
        rfl))
      have hm1 : m ≤ 16777216 := by omega
      have hrs : r.size ≤ 16777216 := by omega
      have HM := hide hm
      have hx2 : (0 : Int) < (x.size : Int) + (r.size : Int) := by omega
      clear hm hx1 hsa hxs
      clear hx hd hxo hr hJk hbk
      gi_wp2
      refine ⟨trivial, ?_⟩
      refine (callsIn_wide.2 HIB.out).mono ?_
      rintro e w' ⟨rfl, rfl⟩
      have hm2 : (m : Int) + 1 ≤ (x.size : Int) + (r.size : Int) := by have := HM.out; omega
      have hm3 : (m : Int) ≤ 16777216 := by omega
      gi_wp2
      gi_region
      have e1 : (x ++ r).extract 0 (m + 1) = x := by rw [← HM.out]; exact extract_left x r
      have e2 : (x ++ r).extract (m + 1) (x.size + r.size) = r := by rw [← HM.out, ← ByteArray.size_append]; exact extract_right x r
      rw [e1, e2]
      obtain ⟨W1, hW1⟩ : ∃ W1, (wr.setCell ⟨b, 0, none⟩ (.string r)).drew = W1 := ⟨_, rfl⟩
      rw [hW1]
      have hb1 : W1.heap[b]? = some (.cells #[.string r] 9 (0, 0)) := by
        rw [← hW1]; show (wr.setCell ⟨b, 0, none⟩ (.string r)).heap[b]? = _
        rw [heap_setCell_same _ b 0 _ 9 _ HBK.out]; rfl
      have hj1 : J k W1 := HJ.out k wr W1 HJK.out (by rw [← hW1]; exact (Rest.setCell wr 0 _).drew)
      have hle : boxLen W1 b < boxLen wr b := by
        have c1 : W1.cell? ⟨b, 0, none⟩ = some (.string r) := (cell_of_row W1 b 0 _ _ _ hb1).trans rfl
        unfold boxLen
        rw [c1, cb]
        show r.size < (x ++ r).size
        rw [ByteArray.size_append, HM.out]; omega
      obtain ⟨fn, tmps, assign, body, hy, hR⟩ := HY.out k x W1 HX.out hj1
      have HRR := hide hR
      have HB1 := hide hb1
      have HLE := hide hle
      clear hR hb1 hj1 hle e1 e2 hW1 cb fb hm1 hm2 hm3 hx2
      gi_wp2
      refine HRR.out.mono ?_
      rintro e W3 ⟨rfl, hj3, hb3⟩
      have HJ3 := hide hj3
      have HB3 := hide hb3
      clear hj3 hb3 hy
      gi_wp2
      go_roundw
      case rel => exact ⟨k + 1, hkl, HJ3.out, by rw [HB3.out, HR.out]; exact HB1.out⟩
      case measure =>
        have e3 : boxLen W3 b = boxLen W1 b := by
          unfold boxLen
          rw [World.cell?_of_block HB3.out]
        rw [e3]; exact HLE.out

set_option maxHeartbeats 1000000 in
/-- 'strings.Lines(s)': the string is boxed; the function value captures the box. -/
theorem lines_any (s : ByteArray) (w : World) :
    Calls Tryz.prog 52 #[.string s] w fun e w' => e = .returned (.func (.func 71) #[] #[.pointer (some ⟨w.heap.size, 0, none⟩)]) ∧ w.alloc (.cells #[.string s] 9) = w' := by
  go_enter Tryz.func52, Tryz.ntmps52
  go_wp2_with fail
  go_ret
  exact ⟨rfl, rfl⟩
end Go.Proofs.YticcfbeocepnpaaGreatDoor
set_option linter.unusedSimpArgs false
set_option maxRecDepth 100000
namespace Go.Proofs.YticcfbeocepnpaaGreatDoor
open Go.RowKit Go.Shelf Pl

theorem partsL_none {c : UInt8} : ∀ {x : List UInt8}, c ∉ x → partsL c x = [x]
  | [], _ => rfl
  | a :: r, h => by
    have h1 : ¬ a = c := fun e => h (by simp [e])
    rw [partsL, if_neg h1, partsL_none (fun e => h (List.mem_cons_of_mem _ e))]
theorem partsL_app {c : UInt8} : ∀ {x : List UInt8} (y : List UInt8), c ∉ x → partsL c (x ++ c :: y) = x :: partsL c y
  | [], y, _ => by simp [partsL]
  | a :: r, y, h => by
    have h1 : ¬ a = c := fun e => h (by simp [e])
    rw [List.cons_append, partsL, if_neg h1, partsL_app y (fun e => h (List.mem_cons_of_mem _ e))]

/-- Neither a space nor a line feed. -/
def Clear (l : List UInt8) : Prop := ∀ b ∈ l, b ≠ 32 ∧ b ≠ 10
theorem clear_dec (n : Nat) : Clear (decB n).data.toList := fun b hb => by
  have h := dec_all n b (by simpa [decB] using hb)
  constructor <;> (rintro rfl; revert h; decide)
theorem clear_word (k : Int) : Clear (wordB k).data.toList := by
  unfold wordB
  split
  · unfold Clear; decide
  · split
    · unfold Clear; decide
    · split <;> (unfold Clear; decide)
theorem clear_size : Clear sizeB.data.toList := by unfold Clear; decide
theorem Clear.sp {l : List UInt8} (h : Clear l) : (32 : UInt8) ∉ l := fun e => (h _ e).1 rfl
theorem Clear.nl {l : List UInt8} (h : Clear l) : (10 : UInt8) ∉ l := fun e => (h _ e).2 rfl
theorem Clear.nil : Clear [] := fun b hb => by cases hb

theorem parts4 {a b c d : List UInt8} (ha : Clear a) (hb : Clear b) (hc : Clear c) (hd : Clear d) : partsL 32 (a ++ 32 :: (b ++ 32 :: (c ++ 32 :: d))) = [a, b, c, d] := by
  rw [partsL_app _ ha.sp, partsL_app _ hb.sp, partsL_app _ hc.sp, partsL_none hd.sp]
theorem parts3 {a b c : List UInt8} (ha : Clear a) (hb : Clear b) (hc : Clear c) : partsL 32 (a ++ 32 :: (b ++ 32 :: c)) = [a, b, c] := by
  rw [partsL_app _ ha.sp, partsL_app _ hb.sp, partsL_none hc.sp]

/-- A line. -/
inductive Ln where
  | key (k : Ky) (c : Ct)
  | size (i n : Nat)
def Ln.line : Ln → ByteArray
  | .key k c => keyLine k c
  | .size i n => sizeLine i (n : Int)
/-- The line without its end. -/
def Ln.body : Ln → ByteArray
  | .key k c => wordB k.2.1 ++ ⟨#[32]⟩ ++ nameB k ++ ⟨#[32]⟩ ++ decB c.1.toNat ++ ⟨#[32]⟩ ++ decB c.2.toNat
  | .size i n => sizeB ++ ⟨#[32]⟩ ++ decB i ++ ⟨#[32]⟩ ++ decB n
theorem ln_line (x : Ln) : x.line = x.body ++ ⟨#[10]⟩ := by
  cases x with
  | key k c => rfl
  | size i n => rfl

/-- The parser's state. -/
structure PS where
  F : List (Ky × Ct)
  z : List Int
  last : Ky
  sz : Int
  any : Bool
def PS.step (s : PS) : Ln → PS
  | .key k c => ⟨s.F ++ [(k, c)], s.z, k, -1, true⟩
  | .size i n => ⟨s.F, s.z.set i (n : Int), s.last, i, s.any⟩

/-- The name of a kind. -/
def NameOk (kd : Nat) (nm : ByteArray) : Prop := (kd = 1 ∧ chkL nm.data.toList = 0) ∨ (kd = 2 ∧ (siteL nm.data.toList).2 = 0) ∨ (kd = 3 ∧ ∃ au : List UInt8, au.length = 16 ∧ nm = ⟨(hexL au).toArray⟩)
/-- A line that can be read in a state. -/
def Ln.Ok (s : PS) : Ln → Prop
  | .key k c => s.sz = -1 ∧ (s.any = true → cmpK s.last k < 0) ∧ k ∉ s.F.map (·.1) ∧ keyOk k ∧ Clear k.2.2.data.toList ∧ k.2.2.size ≤ 80 ∧
      (∃ d : Nat, k.1 = (d : Int) ∧ d ≤ 73048) ∧ (∃ a b : Nat, c = ((a : Int), (b : Int)) ∧ 1 ≤ a ∧ a ≤ 1000000 ∧ b ≤ a * 65536 ∧ b < 10000000000) ∧
      ((k.2.1 = 0 ∧ k.2.2 = ⟨#[]⟩) ∨ (s.any = true ∧ s.last.1 = k.1 ∧ ∃ kd : Nat, 1 ≤ kd ∧ kd ≤ 3 ∧ k.2.1 = (kd : Int) ∧ NameOk kd k.2.2))
  | .size i n => i < 18 ∧ 1 ≤ n ∧ n ≤ 1000000 ∧ s.sz < (i : Int)

theorem name_clear {k : Ky} (h : Clear k.2.2.data.toList) : Clear (nameB k).data.toList := by
  unfold nameB
  split
  · exact clear_dec _
  · exact h
theorem key_data (k : Ky) (c : Ct) : (Ln.body (.key k c)).data.toList = (wordB k.2.1).data.toList ++ 32 :: ((nameB k).data.toList ++ 32 :: ((decB c.1.toNat).data.toList ++ 32 :: (decB c.2.toNat).data.toList)) := by
  unfold Ln.body
  simp [data_app]
theorem size_data (i n : Nat) : (Ln.body (.size i n)).data.toList = sizeB.data.toList ++ 32 :: ((decB i).data.toList ++ 32 :: (decB n).data.toList) := by
  unfold Ln.body
  simp [data_app]
theorem ln_clear {s : PS} {x : Ln} (h : x.Ok s) : (10 : UInt8) ∉ x.body.data.toList := by
  cases x with
  | key k c =>
    obtain ⟨_, _, _, _, hc, _⟩ := h
    rw [key_data]
    have h1 := (clear_word k.2.1).nl
    have h2 := (name_clear hc).nl
    have h3 := (clear_dec c.1.toNat).nl
    have h4 := (clear_dec c.2.toNat).nl
    simp only [List.mem_append, List.mem_cons, not_or]
    exact ⟨h1, by decide, h2, by decide, h3, by decide, h4⟩
  | size i n =>
    rw [size_data]
    have h1 := clear_size.nl
    have h3 := (clear_dec i).nl
    have h4 := (clear_dec n).nl
    simp only [List.mem_append, List.mem_cons, not_or]
    exact ⟨h1, by decide, h3, by decide, h4⟩
theorem lineOk_ln {s : PS} {x : Ln} (h : x.Ok s) : LineOk x.line := ⟨x.body.data.toList, by rw [ln_line, data_app], ln_clear h⟩

/-- 'CutSuffix' of a line. -/
theorem cut_line (x : Ln) (hs : x.line.size ≤ 16777216) (w : World) :
    Calls Tryz.prog 53 #[.string x.line, .string ⟨#[10]⟩] w fun e w' => e = .returned (.tuple #[.string x.body, .bool true]) ∧ w = w' := by
  refine (Tryz.strings_CutSuffix x.line ⟨#[10]⟩ w (by omega)).mono ?_
  rintro e w' ⟨rfl, rfl⟩
  have hx : Lib.hasSuffix x.line.data.toList [10] = true := by
    unfold Lib.hasSuffix
    rw [List.isSuffixOf_iff_suffix, ln_line, data_app]
    exact List.suffix_append _ _
  have ht : Lib.trimSuffix x.line.data.toList [10] = x.body.data.toList := by
    unfold Lib.trimSuffix
    rw [hx, if_pos rfl, ln_line, data_app]
    simp
  refine ⟨?_, rfl⟩
  show Ending.returned (.tuple #[.string ⟨(Lib.trimSuffix x.line.data.toList [10]).toArray⟩, .bool (Lib.hasSuffix x.line.data.toList [10])]) = _
  rw [hx, ht]

/-- Nothing but three blocks has turned. -/
structure But3 (w w' : World) (a b c : Nat) : Prop where
  os : w'.os = w.os
  tape : w'.tape = w.tape
  output : w'.output = w.output
  size : w.heap.size ≤ w'.heap.size
  block : ∀ i, i < w.heap.size → i ≠ a → i ≠ b → i ≠ c → w'.heap[i]? = w.heap[i]?
theorem valid_any (kd : Nat) (nm : ByteArray) (w : World) (h : NameOk kd nm) (hs : nm.size ≤ 80) (hm : MLen w) : Calls Tryz.prog 95 #[.int .i64 (kd : Int), .string nm] w fun e w' => e = .returned (.bool true) ∧ Below w.heap.size w w' := by
  rcases h with ⟨rfl, h⟩ | ⟨rfl, h⟩ | ⟨rfl, au, ha, rfl⟩
  · exact valid_group nm w h (by unfold maxLen; omega) hm
  · exact valid_site nm w h (by unfold maxLen; omega)
  · exact valid_author au ha w
/-- 'line' at a line that can be read. -/
theorem pline_any (pb sb mb : Nat) (s : PS) (x : Ln) (w : World) (hp : PAt w pb sb mb s.F s.z s.last s.sz s.any) (hm : MLen w) (hx : x.Ok s) (hs : x.body.size ≤ 16777216) :
    Calls Tryz.prog 54 #[.pointer (some ⟨pb, 0, none⟩), .string x.body] w fun e w' => e = .returned (.int .i64 0) ∧ PAt w' pb sb mb (s.step x).F (s.step x).z (s.step x).last (s.step x).sz (s.step x).any ∧ But3 w w' pb sb mb := by
  cases x with
  | size i n =>
    obtain ⟨h1, h2, h3, h4⟩ := hx
    refine (pline_size pb sb mb i n s.F s.z s.last s.sz s.any _ w hp hm (by omega) ?_ h1 h2 h3 h4).mono ?_
    · rw [size_data, parts3 clear_size (clear_dec i) (clear_dec n)]; rfl
    · rintro e w' ⟨rfl, hq, hb⟩
      exact ⟨rfl, hq, ⟨hb.os, hb.tape, hb.output, hb.size, fun j hj h1 h2 _ => hb.block j hj h1 h2⟩⟩
  | key k c =>
    obtain ⟨k1, k2, k3⟩ := k
    obtain ⟨g1, g2, g3, g4, g5, g6, ⟨d, gd, gd2⟩, ⟨a, b, rfl, ga, ga2, gb, gb2⟩, g7⟩ := hx
    simp only at g5 g6 gd g7
    subst gd
    have hkd : ∃ kd : Nat, k2 = (kd : Int) ∧ kd ≤ 3 := by
      rcases g7 with ⟨h, _⟩ | ⟨_, _, kd, h1, h2, h3, _⟩
      · exact ⟨0, h, by omega⟩
      · exact ⟨kd, h3, h2⟩
    obtain ⟨kd, rfl, hkd⟩ := hkd
    rw [g1] at hp
    have hq1 : ∀ w', Below w.heap.size w w' → w'.cell? ⟨pb, 1, none⟩ = some (.int .i64 s.last.1) := fun w' hb => (cell_of_row w' pb 1 _ _ _ (hp.below hb).blk).trans rfl
    refine (pline_key pb sb mb kd s.F s.z s.last ((d : Int), (kd : Int), k3) s.any ((a : Int), (b : Int)) (nameB ((d : Int), (kd : Int), k3)) (decB a) (decB b) _ w hp hm (by omega) ?_ hkd ?_ g2 g3 g4 ?_).mono ?_
    · rw [key_data, parts4 (clear_word _) (name_clear g5) (clear_dec _) (clear_dec _)]; rfl
    · intro hf
      rcases g7 with ⟨h, _⟩ | ⟨h, _⟩
      · have : (kd : Int) = 0 := h
        omega
      · rw [hf] at h; cases h
    · intro w' lb hb hw
      rcases g7 with ⟨h, h'⟩ | ⟨h1, h2, kd', h3, h4, h5, h6⟩
      · have h0 : kd = 0 := by have : (kd : Int) = 0 := h; omega
        have h'' : k3 = ⟨#[]⟩ := h'
        subst h0 h''
        exact pkey_day pb lb a b 4 d s.last.1 (wordB 0) w' (hq1 w' hb) hw ga ga2 gb gb2 gd2
      · have h7 : kd' = kd := by have : (kd : Int) = (kd' : Int) := h5; omega
        subst h7
        have hn : nameB ((d : Int), (kd' : Int), k3) = k3 := by
          unfold nameB
          have h8 : ¬ (kd' : Int) = 0 := by omega
          simp only [h8, if_false]
        rw [hn] at hw
        have hl : s.last.1 = (d : Int) := h2
        have := pkey_name pb lb kd' a b 4 d (wordB (kd' : Int)) k3 w' (by rw [hq1 w' hb, hl]) hw h3 h4 ga ga2 gb gb2 gd2 (fun w'' hb2 => valid_any kd' k3 w'' h6 g6 ((hm.below hb).below hb2))
        exact this
    · rintro e w' ⟨rfl, hq, hb⟩
      exact ⟨rfl, hq, ⟨hb.os, hb.tape, hb.output, hb.size, fun j hj h1 _ h2 => hb.block j hj h1 h2⟩⟩
end Go.Proofs.YticcfbeocepnpaaGreatDoor
set_option linter.unusedSimpArgs false
set_option maxRecDepth 100000
namespace Go.Proofs.YticcfbeocepnpaaGreatDoor
open Go.RowKit Go.Shelf Pl
attribute [local go_sem] Oper.semAt_some

def OkAll : PS → List Ln → Prop
  | _, [] => True
  | s, x :: r => x.Ok s ∧ OkAll (s.step x) r
def stAt (s : PS) (l : List Ln) (k : Nat) : PS := (l.take k).foldl PS.step s
theorem okAll_at : ∀ (l : List Ln) (s : PS) (k : Nat) (x : Ln), OkAll s l → l[k]? = some x → x.Ok (stAt s l k)
  | [], _, _, _, _, h => by simp at h
  | y :: r, s, 0, x, ho, h => by simp at h; subst h; exact ho.1
  | y :: r, s, k + 1, x, ho, h => by
    simp at h
    exact okAll_at r (s.step y) k x ho.2 h
theorem stAt_succ {s : PS} {l : List Ln} {k : Nat} {x : Ln} (h : l[k]? = some x) : stAt s l (k + 1) = (stAt s l k).step x := by
  unfold stAt
  rw [List.take_add_one, h]
  simp
def s0 : PS := ⟨[], List.replicate 18 0, (0, 0, ⟨#[]⟩), -1, false⟩

/-- Between two lines. -/
structure PInv (w : World) (pb vb nb sb mb : Nat) (l : List Ln) (k : Nat) (W : World) : Prop where
  p : PAt W pb sb mb (stAt s0 l k).F (stAt s0 l k).z (stAt s0 l k).last (stAt s0 l k).sz (stAt s0 l k).any
  v : W.heap[vb]? = some (.cells #[.pointer (some ⟨pb, 0, none⟩)] 96 (0, 0))
  n : W.heap[nb]? = some (.cells #[.int .i64 (k : Int)] 3 (0, 0))
  r0 : W.heap[w.heap.size]? = some (.cells #[.pointer none] 30 (0, 0))
  r1 : W.heap[w.heap.size + 1]? = some (.cells #[.int .i64 0] 3 (0, 0))
  r2 : W.heap[w.heap.size + 2]? = some (.cells #[.int .i64 0] 53 (0, 0))
  m : MLen W
  below : Below w.heap.size w W

theorem PAt.of_blocks {w w' : World} {pb sb mb : Nat} {F : List (Ky × Ct)} {z : List Int} {last : Ky} {sz : Int} {any : Bool} (h : PAt w pb sb mb F z last sz any) (h1 : w'.heap[pb]? = w.heap[pb]?) (h2 : w'.heap[sb]? = w.heap[sb]?) (h3 : w'.heap[mb]? = w.heap[mb]?) : PAt w' pb sb mb F z last sz any :=
  ⟨h1.trans h.blk, ⟨h2.trans h.s.blk, Mp.IsMap.of_block h.s.map h3, h.s.len⟩⟩
theorem PInv.rest {w W W' : World} {pb vb nb sb mb k B b : Nat} {l : List Ln} (h : PInv w pb vb nb sb mb l k W) (hr : Rest B b W W') (hw : w.heap.size + 3 ≤ B) (hb : w.heap.size + 3 ≤ b) (h1 : pb < B ∧ pb ≠ b) (h2 : vb < B ∧ vb ≠ b) (h3 : nb < B ∧ nb ≠ b) (h4 : sb < B ∧ sb ≠ b) (h5 : mb < B ∧ mb ≠ b) (h0 : 0 < w.heap.size) : PInv w pb vb nb sb mb l k W' :=
  ⟨h.p.of_blocks (hr.block _ h1.1 h1.2) (hr.block _ h4.1 h4.2) (hr.block _ h5.1 h5.2), (hr.block _ h2.1 h2.2).trans h.v, (hr.block _ h3.1 h3.2).trans h.n,
    (hr.block _ (by omega) (by omega)).trans h.r0, (hr.block _ (by omega) (by omega)).trans h.r1, (hr.block _ (by omega) (by omega)).trans h.r2,
    (by obtain ⟨m, hm⟩ := h.m; exact ⟨m, (World.cell?_of_block (hr.block 0 (by omega) (by omega))).trans hm⟩),
    ⟨hr.os.trans h.below.os, hr.tape.trans h.below.tape, hr.output.trans h.below.output, Nat.le_trans h.below.size hr.size, fun i hi => (hr.block i (by omega) (by omega)).trans (h.below.block i hi)⟩⟩
theorem lines_le : ∀ (ls : List ByteArray), (∀ x ∈ ls, LineOk x) → ls.length ≤ (catB ls).size
  | [], _ => Nat.zero_le _
  | x :: r, h => by
    have h1 := lineOk_size (h x (by simp))
    have h2 := lines_le r (fun y hy => h y (by simp [hy]))
    rw [catB_cons, ByteArray.size_append, List.length_cons]
    omega
theorem parse_results (tmps : Array Value) (w : World) (g0 g1 g2 : Nat) (v0 v1 v2 : Value) (h2 : tmps[2]?.getD undef = .pointer (some ⟨g0, 0, none⟩)) (h3 : tmps[3]?.getD undef = .pointer (some ⟨g1, 0, none⟩)) (h4 : tmps[4]?.getD undef = .pointer (some ⟨g2, 0, none⟩))
    (c0 : w.cell? ⟨g0, 0, none⟩ = some v0) (c1 : w.cell? ⟨g1, 0, none⟩ = some v1) (c2 : w.cell? ⟨g2, 0, none⟩ = some v2) :
    (results Tryz.f27 tmps).run Tryz.prog w = .ok (.tuple #[v0, v1, v2]) w := by
  have hr : Tryz.f27.results = #[.cell 2 30, .cell 3 3, .cell 4 53] := rfl
  simp [results, h2, h3, h4, asAddr]
  go_simp
/-- The sum of the first k. -/
def sumTo (z : List Int) (k : Nat) : Int := (z.take k).foldl (· + ·) 0
theorem sumTo_succ {z : List Int} {k : Nat} (h : k < z.length) : sumTo z (k + 1) = sumTo z k + z.getD k 0 := by
  unfold sumTo
  rw [List.take_succ_eq_append_getElem h, List.foldl_append, List.getD_eq_getElem?_getD, List.getElem?_eq_getElem h]
  rfl
theorem sumTo_le {z : List Int} (h : ∀ x ∈ z, 0 ≤ x ∧ x ≤ 1000000) : ∀ k, 0 ≤ sumTo z k ∧ sumTo z k ≤ k * 1000000
  | 0 => by simp [sumTo]
  | k + 1 => by
    have ih := sumTo_le h k
    by_cases hk : k < z.length
    · have hx : z.getD k 0 ∈ z := by
        rw [List.getD_eq_getElem?_getD, List.getElem?_eq_getElem hk]
        exact List.getElem_mem _
      have := h _ hx
      rw [sumTo_succ hk]
      omega
    · have : sumTo z (k + 1) = sumTo z k := by unfold sumTo; rw [List.take_of_length_le (by omega), List.take_of_length_le (by omega)]
      rw [this]; omega

set_option maxHeartbeats 8000000 in
theorem parse_in (l : List Ln) (fin : PS) (hfin : stAt s0 l l.length = fin) (t : ByteArray) (w : World) (ht : t = catB (l.map Ln.line)) (hok : OkAll s0 l) (hsz : t.size ≤ 16777216) (hm : MLen w)
    (hzr : ∀ x ∈ fin.z, 0 ≤ x ∧ x ≤ 1000000) (hsum : sumTo fin.z 18 = (sumM isTotal fin.F).1) (htot : (sumM isTotal fin.F).1 ≤ 1000000) (hsml : Small fin.F) :
    CallsIn Fence.wide 8 Tryz.prog 27 #[.string t] w fun e w' => ∃ sb mb, e = .returned (.tuple #[.pointer (some ⟨sb, 0, none⟩), .int .i64 0, .int .i64 0]) ∧ SAt w' sb mb fin.F fin.z ∧ Below w.heap.size w w' ∧ w.heap.size ≤ sb ∧ w.heap.size ≤ mb := by
  refine callsIn_of_wp_marks Tryz.func27 rfl trivial ?_ rfl
  simp only [Tryz.ntmps27, List.size_toArray, List.length_cons, List.length_nil, Nat.reduceAdd, Nat.reduceSub, Array.replicate_succ, Array.replicate_zero, List.push_toArray, List.append_toArray, List.nil_append, List.cons_append]
  rw [wpIn_wide]
  have HFIN := hide hfin
  have HT := hide ht
  have HOK := hide hok
  have HM := hide hm
  clear ht hok hm hfin
  have hsz2 : ¬ (16777216 : Int) < (t.size : Int) := by omega
  go_wp2_with fail
  obtain ⟨W1, hW1⟩ : ∃ W1, ((w.alloc (.cells #[.pointer none] 30)).alloc (.cells #[.int .i64 0] 3)).alloc (.cells #[.int .i64 0] 53) = W1 := ⟨_, rfl⟩
  have h10 : Below w.heap.size w W1 := by rw [← hW1]; exact (((Below.refl _ w).alloc (Nat.le_refl _) _).alloc (by simp) _).alloc (by simp; omega) _
  have h11 : W1.heap[w.heap.size]? = some (.cells #[.pointer none] 30 (0, 0)) := by
    rw [← hW1, Below.heap_alloc _ _ _ (by simp; omega)]; exact heap_alloc2_old _ _ _
  have h12 : W1.heap[w.heap.size + 1]? = some (.cells #[.int .i64 0] 3 (0, 0)) := by
    rw [← hW1, Below.heap_alloc _ _ _ (by simp)]; exact heap_alloc2_new _ _ _
  have h13 : W1.heap[w.heap.size + 2]? = some (.cells #[.int .i64 0] 53 (0, 0)) := by
    rw [← hW1]
    have := heap_alloc_new ((w.alloc (.cells #[.pointer none] 30)).alloc (.cells #[.int .i64 0] 3)) (.cells #[.int .i64 0] 53)
    simpa using this
  have hs1 : W1.heap.size = w.heap.size + 3 := by rw [← hW1]; simp
  rw [hW1]
  have H10 := hide h10
  have H11 := hide h11
  have H12 := hide h12
  have H13 := hide h13
  have HS1 := hide hs1
  clear hW1 h10 h11 h12 h13 hs1
  refine (snew_any W1).mono ?_
  rintro e w2 ⟨sb, mb, rfl, hs2, hb2, hsb, hmb, hne⟩
  have H2 := hide hs2
  have HB2 := hide hb2
  clear hs2 hb2
  go_wp2_with fail
  refine (lines_any t _).mono ?_
  rintro e w4 ⟨rfl, hw4⟩
  have HW4 := hide hw4
  clear hw4
  go_wp2_with fail
  have hls : ∀ x ∈ l.map Ln.line, LineOk x := fun x hx => by
    obtain ⟨y, hy, rfl⟩ := List.mem_map.1 hx
    obtain ⟨j, hj⟩ := List.getElem?_of_mem hy
    exact lineOk_ln (okAll_at l s0 j y HOK.out hj)
  have hll : l.length ≤ t.size := by have := lines_le _ hls; rw [List.length_map, ← HT.out] at this; exact this
  have hsbl : sb < w2.heap.size := H2.out.lt
  have hmbl : mb < w2.heap.size := H2.out.map.lt
  have hz4 : w4.heap.size = w2.heap.size + 4 := by rw [← HW4.out]; simp
  have hz2 : w.heap.size + 3 ≤ w2.heap.size := by have := HB2.out.size; rw [HS1.out] at this; exact this
  have hsb3 : w.heap.size + 3 ≤ sb := by rw [← HS1.out]; exact hsb
  have hmb3 : w.heap.size + 3 ≤ mb := by rw [← HS1.out]; exact hmb
  have hw0 : 0 < w.heap.size := by obtain ⟨m, hm⟩ := HM.out; exact block_lt_of_cell hm
  have hn : ∀ i, i < w2.heap.size → w4.heap[i]? = w2.heap[i]? := fun i hi => by
    rw [← HW4.out, Below.heap_alloc _ _ _ (by simp only [World.size_alloc]; omega), Below.heap_alloc _ _ _ (by simp only [World.size_alloc]; omega), Below.heap_alloc _ _ _ (by simp only [World.size_alloc]; omega), Below.heap_alloc _ _ _ hi]
  have hpb : w4.heap[w2.heap.size]? = some (.cells #[.pointer (some ⟨sb, 0, none⟩), .int .i64 0, .int .i64 0, .string ⟨#[]⟩, .int .i64 (-1), .bool false] 98 (0, 0)) := by
    rw [← HW4.out, Below.heap_alloc _ _ _ (by simp only [World.size_alloc]; omega), Below.heap_alloc _ _ _ (by simp only [World.size_alloc]; omega), Below.heap_alloc _ _ _ (by simp only [World.size_alloc]; omega)]
    exact heap_alloc_new _ _
  have hvb : w4.heap[w2.heap.size + 1]? = some (.cells #[.pointer (some ⟨w2.heap.size, 0, none⟩)] 96 (0, 0)) := by
    rw [← HW4.out, Below.heap_alloc _ _ _ (by simp only [World.size_alloc]; omega), Below.heap_alloc _ _ _ (by simp only [World.size_alloc]; omega)]
    have := heap_alloc_new (w2.alloc (.cells #[.pointer (some ⟨sb, 0, none⟩), .int .i64 0, .int .i64 0, .string ⟨#[]⟩, .int .i64 (-1), .bool false] 98)) (.cells #[.pointer (some ⟨w2.heap.size, 0, none⟩)] 96)
    simpa using this
  have hnb : w4.heap[w2.heap.size + 1 + 1]? = some (.cells #[.int .i64 0] 3 (0, 0)) := by
    rw [← HW4.out, Below.heap_alloc _ _ _ (by simp only [World.size_alloc]; omega)]
    have := heap_alloc_new ((w2.alloc (.cells #[.pointer (some ⟨sb, 0, none⟩), .int .i64 0, .int .i64 0, .string ⟨#[]⟩, .int .i64 (-1), .bool false] 98)).alloc (.cells #[.pointer (some ⟨w2.heap.size, 0, none⟩)] 96)) (.cells #[.int .i64 0] 3)
    simpa using this
  have hbb : w4.heap[w2.heap.size + 1 + 1 + 1]? = some (.cells #[.string t] 9 (0, 0)) := by
    rw [← HW4.out]
    have := heap_alloc_new (((w2.alloc (.cells #[.pointer (some ⟨sb, 0, none⟩), .int .i64 0, .int .i64 0, .string ⟨#[]⟩, .int .i64 (-1), .bool false] 98)).alloc (.cells #[.pointer (some ⟨w2.heap.size, 0, none⟩)] 96)).alloc (.cells #[.int .i64 0] 3)) (.cells #[.string t] 9)
    simpa using this
  have hb4 : Below w2.heap.size w2 w4 := by
    rw [← HW4.out]
    exact ((((Below.refl _ w2).alloc (Nat.le_refl _) _).alloc (by simp) _).alloc (by simp only [World.size_alloc]; omega) _).alloc (by simp only [World.size_alloc]; omega) _
  have hB2 := HB2.out
  have h12 : Below w.heap.size w w2 := H10.out.trans (HB2.out.mono H10.out.size)
  have hI0 : PInv w w2.heap.size (w2.heap.size + 1) (w2.heap.size + 1 + 1) sb mb l 0 w4 :=
    ⟨⟨hpb, H2.out.below hb4⟩, hvb, hnb, (hn _ (by omega)).trans ((HB2.out.block _ (by rw [HS1.out]; omega)).trans H11.out), (hn _ (by omega)).trans ((HB2.out.block _ (by rw [HS1.out]; omega)).trans H12.out), (hn _ (by omega)).trans ((HB2.out.block _ (by rw [HS1.out]; omega)).trans H13.out),
      HM.out.below (h12.trans (hb4.mono h12.size)), h12.trans (hb4.mono h12.size)⟩
  have HI0 := hide hI0
  have HBB := hide hbb
  have HLS := hide hls
  clear hI0 hbb hls hn hpb hvb hnb hb4 hB2 h12
  refine (wpIn_wide (n := 8)).1 (wpIn_range_box (ls := l.map Ln.line) (b := w2.heap.size + 1 + 1 + 1) rfl (by decide) (gf := 71) (lb := #[.pointer (some ⟨w2.heap.size + 1 + 1 + 1, 0, none⟩)]) rfl trivial (enters_of Tryz.func71 (by kernel_rfl) rfl)
    (by omega) (lines1_box _ HLS.out _ _ 7 (by decide) w4 (by rw [HBB.out, HT.out]) (by rw [← HT.out]; exact hsz)) rfl
    (PInv w w2.heap.size (w2.heap.size + 1) (w2.heap.size + 1 + 1) sb mb l)
    (fun k W W' h hr => h.rest hr (by omega) (by omega) ⟨by omega, by omega⟩ ⟨by omega, by omega⟩ ⟨by omega, by omega⟩ ⟨by omega, by omega⟩ ⟨by omega, by omega⟩ hw0)
    HI0.out
    (fun x => { tmps := #[.string t, undef, .pointer (some ⟨w.heap.size, 0, none⟩), .pointer (some ⟨w.heap.size + 1, 0, none⟩), .pointer (some ⟨w.heap.size + 1 + 1, 0, none⟩), .pointer (some ⟨w2.heap.size + 1, 0, none⟩), .pointer (some ⟨w2.heap.size + 1 + 1, 0, none⟩), .string x, undef, undef, undef, undef, undef, undef, undef, .string t, .int .i64 (t.size : Int), .bool false, .pointer (some ⟨sb, 0, none⟩), .agg #[.pointer (some ⟨sb, 0, none⟩), .int .i64 0, .int .i64 0, .string ⟨#[]⟩, .int .i64 (-1), .bool false], .pointer (some ⟨w2.heap.size, 0, none⟩), .string t, .func (.func 71) #[] #[.pointer (some ⟨w2.heap.size + 1 + 1 + 1, 0, none⟩)], .string x, undef, undef, undef, undef, undef, undef, undef, undef, undef, undef, undef, undef, undef, undef, undef, undef, undef, undef, undef, undef, undef, undef, undef, undef, undef, undef, undef, undef, undef, undef, undef, undef, undef, undef, undef, undef, undef, undef, undef, undef, undef, undef, undef, undef, undef, undef, undef, undef, undef, undef], defers := [] })
    ?assign ?body ?done)
  case assign =>
    intro l' x W K hK
    have HK := hide hK
    clear hK
    gi_wp2
    exact HK.out
  case body =>
    intro l' k x W hi hx hs
    obtain ⟨y, hy, rfl⟩ : ∃ y, l[k]? = some y ∧ Ln.line y = x := by
      rw [List.getElem?_map] at hx
      cases hy : l[k]? with
      | none => rw [hy] at hx; cases hx
      | some y => rw [hy] at hx; exact ⟨y, rfl, by simpa using hx⟩
    have hyo := okAll_at l s0 k y HOK.out hy
    have hkl : k < l.length := (List.getElem?_eq_some_iff.1 hy).1
    have hlsz : y.line.size ≤ 16777216 := by
      have h1 := catB_drop hx
      have h2 : (catB ((l.map Ln.line).drop k)).size ≤ (catB (l.map Ln.line)).size := by
        have e : (catB (l.map Ln.line)).data.toList = ((l.map Ln.line).take k).flatMap (·.data.toList) ++ ((l.map Ln.line).drop k).flatMap (·.data.toList) := by rw [catB_data, ← List.flatMap_append, List.take_append_drop]
        have e3 := congrArg List.length e
        rw [List.length_append, ← catB_data ((l.map Ln.line).drop k)] at e3
        simp only [Array.length_toList] at e3
        have e4 : (catB (l.map Ln.line)).data.size = (catB (l.map Ln.line)).size := rfl
        have e5 : (catB ((l.map Ln.line).drop k)).data.size = (catB ((l.map Ln.line).drop k)).size := rfl
        omega
      rw [h1, ByteArray.size_append, ← HT.out] at h2
      omega
    have hbsz : y.body.size ≤ 16777216 := by
      rw [ln_line, ByteArray.size_append] at hlsz
      omega
    have HI := hide hi
    have cn : W.cell? ⟨w2.heap.size + 1 + 1, 0, none⟩ = some (.int .i64 (k : Int)) := (cell_of_row W _ 0 _ _ _ hi.n).trans rfl
    have fn := frozen_of_row W _ 0 _ _ hi.n
    have hk64 : (k : Int) ≤ 16777216 := by omega
    have HCUT := hide (fun w' => cut_line y hlsz w')
    have HYO := hide hyo
    have HY := hide hy
    clear hi hx hyo hlsz hy hkl
    gi_wp2
    refine ⟨trivial, ?_⟩
    refine (CallsIn.inRound l' (callsIn_wide.2 (HCUT.out _))).mono ?_
    rintro e V ⟨rfl, hV⟩
    have hnV : V.heap[w2.heap.size + 1 + 1]? = some (.cells #[.int .i64 ((k : Int) + 1)] 3 (0, 0)) := by
      rw [← hV, heap_setCell_same _ _ 0 _ 3 _ HI.out.n]; rfl
    have hoV : ∀ i, i ≠ w2.heap.size + 1 + 1 → V.heap[i]? = W.heap[i]? := fun i hi => by rw [← hV]; exact heap_setCell_other _ _ _ _ hi
    have hpV : PAt V w2.heap.size sb mb (stAt s0 l k).F (stAt s0 l k).z (stAt s0 l k).last (stAt s0 l k).sz (stAt s0 l k).any := HI.out.p.of_blocks (hoV _ (by omega)) (hoV _ (by omega)) (hoV _ (by omega))
    have hvV : V.heap[w2.heap.size + 1]? = some (.cells #[.pointer (some ⟨w2.heap.size, 0, none⟩)] 96 (0, 0)) := (hoV _ (by omega)).trans HI.out.v
    have hmV : MLen V := by obtain ⟨m, hm⟩ := HI.out.m; exact ⟨m, (World.cell?_of_block (hoV 0 (by omega))).trans hm⟩
    have hsV : V.heap.size = W.heap.size := by rw [← hV]; simp
    have cv : V.cell? ⟨w2.heap.size + 1, 0, none⟩ = some (.pointer (some ⟨w2.heap.size, 0, none⟩)) := (cell_of_row V _ 0 _ _ _ hvV).trans rfl
    have HPL := hide (pline_any w2.heap.size sb mb (stAt s0 l k) y V hpV hmV HYO.out hbsz)
    have HNV := hide hnV
    have HOV := hide hoV
    have HVV := hide hvV
    have HMV := hide hmV
    have HV : Hid (V.os = W.os ∧ V.tape = W.tape ∧ V.output = W.output) := hide (by rw [← hV]; exact ⟨rfl, rfl, rfl⟩)
    have HSV := hide hsV
    clear hV hnV hoV hpV hvV hmV hsV cn fn
    gi_wp2
    refine ⟨trivial, ?_⟩
    refine (CallsIn.inRound l' (callsIn_wide.2 HPL.out)).mono ?_
    rintro e X ⟨rfl, hpX, hb3⟩
    have HPX := hide hpX
    have HB3 := hide hb3
    clear hpX hb3 cv
    gi_wp2
    have hoX : ∀ i, i < W.heap.size → i ≠ w2.heap.size → i ≠ sb → i ≠ mb → i ≠ w2.heap.size + 1 + 1 → X.heap[i]? = W.heap[i]? := fun i h1 h2 h3 h4 h5 =>
      (HB3.out.block i (by rw [HSV.out]; exact h1) h2 h3 h4).trans (HOV.out i h5)
    have hsX : W.heap.size ≤ X.heap.size := by rw [← HSV.out]; exact HB3.out.size
    have hst := stAt_succ (s := s0) HY.out
    refine ⟨⟨hsX, fun i o hB hi _ => (hoX i (Array.getElem?_eq_some_iff.1 hi).1 (by omega) (by omega) (by omega) (by omega)).trans hi⟩, ⟨by rw [hst]; exact HPX.out, (hoX _ (by omega) (by omega) (by omega) (by omega) (by omega)).trans HI.out.v, ?_, (hoX _ (by omega) (by omega) (by omega) (by omega) (by omega)).trans HI.out.r0,
      (hoX _ (by omega) (by omega) (by omega) (by omega) (by omega)).trans HI.out.r1, (hoX _ (by omega) (by omega) (by omega) (by omega) (by omega)).trans HI.out.r2, ?_, ?_⟩, hoX _ (by omega) (by omega) (by omega) (by omega) (by omega)⟩
    · rw [HB3.out.block _ (by rw [HSV.out]; omega) (by omega) (by omega) (by omega), HNV.out]; rfl
    · obtain ⟨m, hm⟩ := HMV.out
      exact ⟨m, (World.cell?_of_block (HB3.out.block 0 (by rw [HSV.out]; omega) (by omega) (by omega) (by omega))).trans hm⟩
    · exact ⟨HB3.out.os.trans (HV.out.1.trans HI.out.below.os), HB3.out.tape.trans (HV.out.2.1.trans HI.out.below.tape), HB3.out.output.trans (HV.out.2.2.trans HI.out.below.output), Nat.le_trans HI.out.below.size hsX,
        fun i hi => (hoX i (by omega) (by omega) (by omega) (by omega) (by omega)).trans (HI.out.below.block i hi)⟩
  case done =>
    intro D W hD hi hd
    rw [List.length_map] at hi
    dsimp only
    have hp := hi.p
    rw [HFIN.out] at hp
    have HP := hide hp
    have HIN := hide hi
    have HD := hide hd
    have cv : W.cell? ⟨w2.heap.size + 1, 0, none⟩ = some (.pointer (some ⟨w2.heap.size, 0, none⟩)) := (cell_of_row W _ 0 _ _ _ hi.v).trans rfl
    have cp : W.cell? ⟨w2.heap.size, 0, none⟩ = some (.pointer (some ⟨sb, 0, none⟩)) := (cell_of_row W _ 0 _ _ _ hp.blk).trans rfl
    have HZL : Hid (fin.z.length = 18) := hide hp.s.len
    have HX : Hid (∀ (j : Nat) (v : Value), (fin.z.map (Value.int .i64))[j]? = some v → ((.map (some mb) :: fin.z.map (.int .i64)).toArray : Array Value)[1 + j]? = some v) := hide (by
      intro j v hv
      rw [List.getElem?_toArray, Nat.add_comm, List.getElem?_cons_succ]; exact hv)
    have HI : Hid ((Tryz.prog.info? 41).map (·.size) = some (fin.z.map (Value.int .i64)).length) := hide (by rw [List.length_map, HZL.out]; rfl)
    have HIX : Hid (∀ (j : Nat), j < 18 → ∀ w', (Instr.index 41 (.agg (fin.z.map (Value.int .i64)).toArray) (.int .i64 (j : Int))).run Tryz.prog w' = .ok (.int .i64 (fin.z.getD j 0)) w') := hide fun j hj w' => run_index_i64 w' fin.z j hj HZL.out
    obtain ⟨zl, hzl⟩ : ∃ zl, fin.z.map (Value.int .i64) = zl := ⟨_, rfl⟩
    rw [hzl] at HX HI HIX
    have HBLK2 : Hid (W.heap[sb]? = some (.cells (.map (some mb) :: zl).toArray 72 (0, 0))) := hide (by rw [← hzl]; exact hp.s.blk)
    have HTT : Hid (∀ w', Below W.heap.size W w' → Calls Tryz.prog 11 #[.pointer (some ⟨sb, 0, none⟩)] w' fun e w'' => e = .returned (cntV (sumM isTotal fin.F)) ∧ Below w'.heap.size w' w'') := hide fun w' hb => total_any sb mb fin.F fin.z w' (hp.s.below hb) hsml
    obtain ⟨T1, T2, hT⟩ : ∃ T1 T2, sumM isTotal fin.F = (T1, T2) := ⟨_, _, rfl⟩
    rw [hT] at HTT hsum htot
    simp only at hsum htot
    have HSM := hide hsum
    have HZR := hide hzr
    clear hi hp hd hzl hsum hzr hT hsml
    go_wp2_with (first | (refine wpList_load_off rfl 41 _ rfl sb 1 rfl _ _ _ _ _ HBLK2.out (fun j v hv => by have := HX.out j v hv; simpa using this) Tryz.underlying41 rfl HI.out ?_))
    obtain ⟨za, hza⟩ : ∃ za, zl.toArray = za := ⟨_, rfl⟩
    rw [hza] at HIX ⊢
    have HZA := hide hza
    clear hza
    go_wp2_with fail
    go_loopw [11, 48] (fun so i wl => ∃ (j : Nat), j ≤ 18 ∧ i = .int .i64 j ∧ so = .int .i64 (sumTo fin.z j) ∧ W = wl) (fun _ i _ => 18 - (intOf i).toNat)
    case atStart => exact ⟨0, by omega, rfl, rfl, rfl⟩
    case round =>
      obtain ⟨j, hj, rfl, rfl, rfl⟩ := hrel
      by_cases hlj : j < 18
      · have hix := HIX.out j hlj
        have hs1 := sumTo_le HZR.out j
        have hs2 := sumTo_le HZR.out (j + 1)
        have hs3 := sumTo_succ (z := fin.z) (k := j) (by rw [HZL.out]; exact hlj)
        obtain ⟨x, hx⟩ : ∃ x, fin.z.getD j 0 = x := ⟨_, rfl⟩
        obtain ⟨q, hq⟩ : ∃ q, sumTo fin.z j = q := ⟨_, rfl⟩
        rw [hx] at hix hs3
        rw [hq] at hs1 hs3 ⊢
        have HS3 := hide hs3
        have hq0 : -1000000000 ≤ q ∧ q ≤ 1000000000 := by omega
        have hx0 : -1000000000 ≤ x ∧ x ≤ 1000000000 := by omega
        obtain ⟨hq1, hq2⟩ := hq0
        obtain ⟨hx1, hx2⟩ := hx0
        clear hs1 hs2 hs3 hx hq
        go_wp2_with fail
        go_roundw
        case rel => exact ⟨j + 1, by omega, by go_num, by rw [HS3.out], by first | rfl | trivial⟩
        case measure => simp [intOf]; omega
      · obtain rfl : j = 18 := by omega
        rw [HSM.out]
        have hT1 : T1 ≤ 1000000 := htot
        have hT2 : ¬ (1000000 : Int) < T1 := by omega
        clear htot
        go_wp2_with fail
        refine (HTT.out W (Below.refl _ _)).mono ?_
        rintro e V ⟨rfl, hbV⟩
        rw [cntV_mk]
        have hvV := (hbV.block _ (Array.getElem?_eq_some_iff.1 HIN.out.v).1).trans HIN.out.v
        have hpV := HP.out.below hbV
        have h0V := (hbV.block _ (Array.getElem?_eq_some_iff.1 HIN.out.r0).1).trans HIN.out.r0
        have h1V := (hbV.block _ (Array.getElem?_eq_some_iff.1 HIN.out.r1).1).trans HIN.out.r1
        have h2V := (hbV.block _ (Array.getElem?_eq_some_iff.1 HIN.out.r2).1).trans HIN.out.r2
        have cvV : V.cell? ⟨w2.heap.size + 1, 0, none⟩ = some (.pointer (some ⟨w2.heap.size, 0, none⟩)) := (cell_of_row V _ 0 _ _ _ hvV).trans rfl
        have cpV : V.cell? ⟨w2.heap.size, 0, none⟩ = some (.pointer (some ⟨sb, 0, none⟩)) := (cell_of_row V _ 0 _ _ _ hpV.blk).trans rfl
        have r0V : V.cell? ⟨w.heap.size, 0, none⟩ = some (.pointer none) := (cell_of_row V _ 0 _ _ _ h0V).trans rfl
        have r1V : V.cell? ⟨w.heap.size + 1, 0, none⟩ = some (.int .i64 0) := (cell_of_row V _ 0 _ _ _ h1V).trans rfl
        have r2V : V.cell? ⟨w.heap.size + 1 + 1, 0, none⟩ = some (.int .i64 0) := (cell_of_row V _ 0 _ _ _ h2V).trans rfl
        have g0V := frozen_of_row V _ 0 _ _ h0V
        have g1V := frozen_of_row V _ 0 _ _ h1V
        have g2V : V.frozen? ⟨w.heap.size + 1 + 1, 0, none⟩ = false := frozen_of_row V _ 0 _ _ h2V
        have HBV := hide hbV
        have HPV := hide hpV
        have H0V := hide h0V
        have H1V := hide h1V
        have H2V := hide h2V
        have hfld : ∀ w', (Instr.field 34 (.agg #[.int .i64 T1, .int .i64 T2]) 0).run Tryz.prog w' = .ok (.int .i64 T1) w' := fun _ => by kernel_rfl
        clear hbV hvV hpV h0V h1V h2V cv cp
        go_wp2_with fail
        have hDV : V.heap[D]? = some (.deferred (some [])) := (HBV.out.block D (Array.getElem?_eq_some_iff.1 HD.out).1).trans HD.out
        obtain ⟨Z, hZ⟩ : ∃ Z, ((V.setCell ⟨w.heap.size, 0, none⟩ (.pointer (some ⟨sb, 0, none⟩))).setCell ⟨w.heap.size + 1, 0, none⟩ (.int .i64 0)).setCell ⟨w.heap.size + 1 + 1, 0, none⟩ (.int .i64 0) = Z := ⟨_, rfl⟩
        have hoZ : ∀ i, i ≠ w.heap.size → i ≠ w.heap.size + 1 → i ≠ w.heap.size + 1 + 1 → Z.heap[i]? = V.heap[i]? := fun i h0 h1 h2 => by
          rw [← hZ, heap_setCell_other _ _ _ _ h2, heap_setCell_other _ _ _ _ h1, heap_setCell_other _ _ _ _ h0]
        have hZ0 : Z.cell? ⟨w.heap.size, 0, none⟩ = some (.pointer (some ⟨sb, 0, none⟩)) := by
          rw [← hZ, World.cell?_setCell_far _ _ _ _ (by show w.heap.size + 1 + 1 ≠ w.heap.size; omega), World.cell?_setCell_far _ _ _ _ (by show w.heap.size + 1 ≠ w.heap.size; omega)]
          exact (cell_of_row _ _ 0 _ _ _ (heap_setCell_same V _ 0 _ 30 _ H0V.out)).trans rfl
        have hZ1 : Z.cell? ⟨w.heap.size + 1, 0, none⟩ = some (.int .i64 0) := by
          rw [← hZ, World.cell?_setCell_far _ _ _ _ (by show w.heap.size + 1 + 1 ≠ w.heap.size + 1; omega)]
          exact (cell_of_row _ _ 0 _ _ _ (heap_setCell_same _ _ 0 _ 3 _ ((heap_setCell_other V _ _ _ (by show w.heap.size + 1 ≠ w.heap.size; omega)).trans H1V.out))).trans rfl
        have hZ2 : Z.cell? ⟨w.heap.size + 1 + 1, 0, none⟩ = some (.int .i64 0) := by
          rw [← hZ]
          exact (cell_of_row _ _ 0 _ _ _ (heap_setCell_same _ _ 0 _ 53 _ ((heap_setCell_other _ _ _ _ (by show w.heap.size + 1 + 1 ≠ w.heap.size + 1; omega)).trans ((heap_setCell_other V _ _ _ (by show w.heap.size + 1 + 1 ≠ w.heap.size; omega)).trans H2V.out)))).trans rfl
        have hbZ : Below w.heap.size w Z := by
          rw [← hZ]
          have hb := HIN.out.below.trans (HBV.out.mono HIN.out.below.size)
          exact ((hb.setCell (p := ⟨w.heap.size, 0, none⟩) (Nat.le_refl _) _).setCell (p := ⟨w.heap.size + 1, 0, none⟩) (Nat.le_succ _) _).setCell (p := ⟨w.heap.size + 1 + 1, 0, none⟩) (by show w.heap.size ≤ w.heap.size + 1 + 1; omega) _
        have hDZ : Z.heap[D]? = some (.deferred (some [])) := (hoZ D (by omega) (by omega) (by omega)).trans hDV
        have hsZ : SAt Z sb mb fin.F fin.z := ⟨(hoZ _ (by omega) (by omega) (by omega)).trans HPV.out.s.blk, Mp.IsMap.of_block HPV.out.s.map (hoZ _ (by omega) (by omega) (by omega)), HPV.out.s.len⟩
        rw [hZ]
        refine ⟨by simp, .inl ⟨_, _, rfl, run_takeDeferred hDZ, ?_⟩⟩
        have hpo : ∀ i, i ≠ D → (Z.putObj D (.deferred none)).heap[i]? = Z.heap[i]? := fun i hi => World.putObj_heap_other hi
        refine ⟨_, parse_results _ _ w.heap.size (w.heap.size + 1) (w.heap.size + 1 + 1) _ _ _ rfl rfl rfl ((World.cell?_of_block (hpo _ (by show w.heap.size ≠ D; omega))).trans hZ0) ((World.cell?_of_block (hpo _ (by show w.heap.size + 1 ≠ D; omega))).trans hZ1) ((World.cell?_of_block (hpo _ (by show w.heap.size + 1 + 1 ≠ D; omega))).trans hZ2),
          sb, mb, rfl, ⟨(hpo _ (by omega)).trans hsZ.blk, Mp.IsMap.of_block hsZ.map (hpo _ (by omega)), hsZ.len⟩, ⟨hbZ.os, hbZ.tape, hbZ.output, by simpa using hbZ.size, fun i hi => (hpo i (by omega)).trans (hbZ.block i hi)⟩, by omega, by omega⟩

/-- 'Parse'. -/
theorem parse_any (l : List Ln) (fin : PS) (hfin : stAt s0 l l.length = fin) (t : ByteArray) (w : World) (ht : t = catB (l.map Ln.line)) (hok : OkAll s0 l) (hsz : t.size ≤ 16777216) (hm : MLen w)
    (hzr : ∀ x ∈ fin.z, 0 ≤ x ∧ x ≤ 1000000) (hsum : sumTo fin.z 18 = (sumM isTotal fin.F).1) (htot : (sumM isTotal fin.F).1 ≤ 1000000) (hsml : Small fin.F) :
    Calls Tryz.prog 27 #[.string t] w fun e w' => ∃ sb mb, e = .returned (.tuple #[.pointer (some ⟨sb, 0, none⟩), .int .i64 0, .int .i64 0]) ∧ SAt w' sb mb fin.F fin.z ∧ Below w.heap.size w w' ∧ w.heap.size ≤ sb ∧ w.heap.size ≤ mb :=
  callsIn_wide.1 (parse_in l fin hfin t w ht hok hsz hm hzr hsum htot hsml)
end Go.Proofs.YticcfbeocepnpaaGreatDoor
