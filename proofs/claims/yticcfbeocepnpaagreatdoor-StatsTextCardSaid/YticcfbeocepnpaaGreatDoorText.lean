/-
  Text.
-/
import Derived.Test.YticcfbeocepnpaaGreatDoorApp
import Derived.Test.YticcfbeocepnpaaGreatDoorLine
import Derived.Shelf.Strings.BuilderK
import Derived.Test.YticcfbeocepnpaaGreatDoorLawForget
import Derived.Test.YticcfbeocepnpaaGreatDoorArr
set_option linter.unusedSimpArgs false
set_option maxRecDepth 100000
namespace Go.Proofs.YticcfbeocepnpaaGreatDoor
open Go.RowKit Go.Shelf Pl

theorem below_below_at {w w' : World} {row : Option Nat} (h : Below w.heap.size w w') : w.grownBy w' row := ⟨h.os, h.tape, h.output, h.size, fun i hi _ => h.block i hi⟩
/-- A builder that holds a string. -/
def BS (w : World) (b : Nat) (s : ByteArray) : Prop := Lib.IsBuilderF 77 5 b b (Lib.byteCells s.data.toList) w
theorem BS.lt {w : World} {b : Nat} {s : ByteArray} (h : BS w b s) : b < w.heap.size := h.elim (·.lt) (·.lt)
theorem bsAt_below {p : Value} {B b : Nat} {bs : List Value} {W W' : World} (h : Lib.BuilderAtF 77 5 B b p bs W) (hb : Below W.heap.size W W') : Lib.BuilderAtF 77 5 B b p bs W' := by
  have hlt := h.lt
  obtain ⟨hB, v, hv, hown, hne⟩ := h
  exact ⟨hB, v, (hb.block b hlt).trans hv, hown.kept (row := none) (below_below_at hb) (Classical.em _), hne⟩
theorem BS.below {w w' : World} {b : Nat} {s : ByteArray} (h : BS w b s) (hb : Below w.heap.size w w') : BS w' b s := h.elim (fun x => .inl (bsAt_below x hb)) (fun x => .inr (bsAt_below x hb))
theorem bs_fresh (w : World) : BS (w.alloc (.cells #[.pointer none, .slice none 0 0] 77)) w.heap.size ⟨#[]⟩ := Lib.IsBuilderF.of (Lib.fresh_isBuilder 77 5 w)
theorem kept_below {w w' : World} {e : TypeId} {b : Option Nat} (h : Below w.heap.size w w') : Lib.OthersKept e b w w' := fun k o hk _ _ => by
  have hlt : k < w.heap.size := (Array.getElem?_eq_some_iff.1 hk).1
  exact (h.block k hlt).trans hk
theorem ws_any (b : Nat) (s x : ByteArray) (w : World) (h : BS w b s) (hl : s.size + x.size ≤ 140737488355328) :
    Calls Tryz.prog 39 #[.pointer (some ⟨b, 0, none⟩), .string x] w fun e w' => e = .returned (.tuple #[.int .i64 x.size, .nilIface]) ∧ BS w' b (s ++ x) ∧ Below b w w' ∧ Lib.OthersKept 5 (some b) w w' := by
  have hlt := h.lt
  refine (Any.Builder_WriteString_k { Tryz.lays156 with } Tryz.Builder_Extra_156 b b (Lib.byteCells s.data.toList) x w h (by rw [Lib.byteCells_length]; simpa using hl) (by omega)).mono ?_
  rintro e w' ⟨rfl, h1, h2, h3⟩
  refine ⟨rfl, Or.inr ?_, h2, h3⟩
  have e1 : Lib.byteCells (s ++ x).data.toList = Lib.byteCells s.data.toList ++ Lib.strCells x := by simp [Lib.byteCells, Lib.strCells]
  rw [e1]
  exact h1
theorem bstring_any (b : Nat) (s : ByteArray) (w : World) (h : BS w b s) :
    Calls Tryz.prog 42 #[.pointer (some ⟨b, 0, none⟩)] w fun e w' => e = .returned (.string s) ∧ Below b w w' := by
  have hlt := h.lt
  exact (Any.Builder_String_any_k { Tryz.lays156 with } Tryz.Builder_Extra_156 b b s.data.toList w h (by omega)).mono (by rintro e w' ⟨rfl, _, h2, _⟩; exact ⟨rfl, h2⟩)
/-- The table of the powers of ten. -/
def Tab10 (w : World) : Prop := Lib.TabIs Tryz.prog w "internal/strconv.uint64pow10" .u64 Lib.pow10Tab
theorem below_grew (w : World) (k : Nat) (os : Array Obj) : Below w.heap.size w (Go.Sort.grow (w.drewN k) os) :=
  ⟨rfl, rfl, rfl, by first | (simp [Go.Sort.grow]; done) | (simp [Go.Sort.grow]; omega), fun i hi => by
    show ((w.drewN k).heap ++ os)[i]? = _
    rw [Array.getElem?_append_left (by show i < w.heap.size; omega)]
    rfl⟩
theorem itoa_any (n : Nat) (hn : n < 9223372036854775808) (w : World) (ht : Tab10 w) :
    Calls Tryz.prog 38 #[.int .i64 (n : Int)] w fun e w' => e = .returned (.string (decB n)) ∧ Below w.heap.size w w' := by
  refine (Tryz.strconv_Itoa n (by omega) (by omega) w ht).mono ?_
  rintro e w' ⟨rfl, k, os, rfl⟩
  exact ⟨by rw [Lib.itoa_nonneg]; rfl, below_grew w k os⟩
theorem join_flat (xs : List ByteArray) (sep : ByteArray) : ∀ (a : ByteArray), (⟨(Lib.join ((a :: xs).map (·.data.toList)) sep.data.toList).toArray⟩ : ByteArray) = xs.foldl (fun s x => s ++ sep ++ x) a := by
  intro a
  apply ByteArray.ext
  apply Array.toList_inj.1
  have : ∀ (xs : List ByteArray) (a : ByteArray), (xs.foldl (fun s x => s ++ sep ++ x) a).data.toList = a.data.toList ++ (xs.map fun x => sep.data.toList ++ x.data.toList).flatten := by
    intro xs
    induction xs with
    | nil => intro a; simp
    | cons x r ih => intro a; rw [List.foldl_cons, ih]; simp
  rw [this]
  unfold Lib.join
  have h2 : ∀ (l : List ByteArray) (a : ByteArray), sep.data.toList.intercalate ((a :: l).map (·.data.toList)) = a.data.toList ++ (l.map fun x => sep.data.toList ++ x.data.toList).flatten := by
    intro l
    induction l with
    | nil => intro a; simp [List.intercalate]
    | cons x r ih => 
      intro a
      have := ih x
      simp only [List.map_cons, List.intercalate, List.intersperse_cons_cons, List.flatten_cons] at this ⊢
      rw [this, List.append_assoc]
  simpa using h2 xs a
theorem join_any (g n : Nat) (a : ByteArray) (xs : List ByteArray) (w : World) (fz : Nat × Nat) (h : w.heap[g]? = some (.cells ((a :: xs).map Value.string).toArray 9 fz)) (hn : (a :: xs).length = n) (hl : (xs.foldl (fun s x => s ++ (⟨#[32]⟩ : ByteArray) ++ x) a).size ≤ 140737488355328) (hn2 : n ≤ 1000) :
    Calls Tryz.prog 40 #[.slice (some ⟨g, 0, none⟩) n n, .string ⟨#[32]⟩] w fun e w' => e = .returned (.string (xs.foldl (fun s x => s ++ (⟨#[32]⟩ : ByteArray) ++ x) a)) ∧ Below w.heap.size w w' := by
  subst hn
  have hg : g < w.heap.size := (Array.getElem?_eq_some_iff.1 h).1
  have e1 := join_flat xs ⟨#[32]⟩ a
  have := Tryz.strings_Join g 0 (a :: xs).length (a :: xs) ⟨#[32]⟩ w (fun j x hx => by
    rw [cell_of_row w g (0 + j) _ _ _ h]
    have e2 : ((a :: xs).map Value.string)[j]? = some (.string x) := by rw [List.getElem?_map, hx]; rfl
    simpa using e2) hg (by omega) (Nat.le_refl _) (by rw [← e1] at hl; exact hl)
  rw [e1] at this
  exact this
theorem tab10_global : Tryz.prog.globalNamed "internal/strconv.uint64pow10" = some 1 := by kernel_rfl
theorem Tab10.below {w w' : World} (h : Tab10 w) (hb : Below w.heap.size w w') : Tab10 w' := by
  unfold Tab10 Lib.TabIs World.var? at h ⊢
  rw [tab10_global] at h ⊢
  simp only [Option.bind_some] at h ⊢
  have hlt : 1 < w.heap.size := by
    rcases Nat.lt_or_ge 1 w.heap.size with h' | h'
    · exact h'
    · rw [Array.getElem?_eq_none h'] at h; cases h
  rw [hb.block _ hlt]
  exact h
/-- The first words of the lines. -/
def wordsV : Value := .agg #[.string ⟨#[100, 97, 121]⟩, .string ⟨#[103, 114, 111, 117, 112]⟩, .string ⟨#[115, 105, 116, 101]⟩, .string ⟨#[97, 117, 116, 104, 111, 114]⟩]
set_option maxHeartbeats 1000000 in
theorem words_any (w : World) : Calls Tryz.prog 41 #[] w fun e w' => e = .returned wordsV ∧ Below w.heap.size w w' := by
  go_enter Tryz.func41, Tryz.ntmps41
  go_wp2_with fail
  (try simp only [Exit.inBlock, Exit.then])
  refine bodyPost_ret (results_cell_row rfl _ _ w.heap.size 84 _ (0, 0) _ rfl (heap_alloc_new _ _) Tryz.underlying84 rfl (by kernel_rfl)) rfl ?_
  exact ⟨rfl, by (repeat (first | exact Below.refl _ _ | with_reducible assumption | (refine Below.setCell ?_ (by simp <;> omega) _) | (refine Below.alloc ?_ (by simp <;> omega) _)))⟩
end Go.Proofs.YticcfbeocepnpaaGreatDoor
set_option linter.unusedSimpArgs false
set_option maxRecDepth 100000
namespace Go.Proofs.YticcfbeocepnpaaGreatDoor
open Go.RowKit Go.Shelf Pl

/-- The text of counts. -/
def textS (f : List (Ky × Ct)) (z : List Int) : ByteArray := catB ((skeys (f.map (·.1))).map (fun x => keyLine x (cntAt f x)) ++ sizeLines z 18)
/-- Counts of which a text can be made. -/
structure TxtOk (f : List (Ky × Ct)) (z : List Int) : Prop where
  key : ∀ p ∈ f, 0 ≤ p.1.1 ∧ p.1.1 < 10000000000 ∧ 0 ≤ p.1.2.1 ∧ p.1.2.1 ≤ 3 ∧ p.1.2.2.size ≤ 80 ∧ 0 ≤ p.2.1 ∧ p.2.1 < 10000000000 ∧ 0 ≤ p.2.2 ∧ p.2.2 < 10000000000
  z : ∀ x ∈ z, 0 ≤ x ∧ x < 10000000000
theorem below_al {w w' : World} (h : Below w.heap.size w w') (o : Obj) : Below w.heap.size w (w'.alloc o) := h.alloc h.size o
theorem cntAt_mem {f : List (Ky × Ct)} {x : Ky} (h : x ∈ f.map (·.1)) : (x, cntAt f x) ∈ f := by
  induction f with
  | nil => cases h
  | cons p r ih =>
    rw [cntAt_cons]
    by_cases e : p.1 = x
    · rw [if_pos e, ← e]; simp
    · rw [if_neg e]
      rw [List.map_cons, List.mem_cons] at h
      exact List.mem_cons_of_mem _ (ih (h.resolve_left (fun q => e q.symm)))
theorem wordsI {kd : Nat} (h : kd ≤ 3) (w : World) : (Instr.index 84 wordsV (.int .i64 (kd : Int))).run Tryz.prog w = .ok (.string (wordB kd)) w := by
  obtain rfl | rfl | rfl | rfl : kd = 0 ∨ kd = 1 ∨ kd = 2 ∨ kd = 3 := by omega
  · kernel_rfl
  · kernel_rfl
  · kernel_rfl
  · kernel_rfl
/-- A line of a key, as Join makes it. -/
def keyJoin (wd nm : ByteArray) (p q : Nat) : ByteArray := wd ++ ⟨#[32]⟩ ++ nm ++ ⟨#[32]⟩ ++ decB p ++ ⟨#[32]⟩ ++ decB q
theorem keyJoin_size {wd nm : ByteArray} {p q : Nat} (hw : wd.size ≤ 6) (hn : nm.size ≤ 80) (hp : p < 10000000000) (hq : q < 10000000000) : (keyJoin wd nm p q).size ≤ 109 := by
  have h1 := decB_20 hp
  have h2 := decB_20 hq
  unfold keyJoin
  simp only [ByteArray.size_append]
  have e1 : (⟨#[32]⟩ : ByteArray).size = 1 := rfl
  omega
def sizeJoin (p q : Nat) : ByteArray := ⟨#[115, 105, 122, 101]⟩ ++ ⟨#[32]⟩ ++ decB p ++ ⟨#[32]⟩ ++ decB q
theorem sizeJoin_size {p q : Nat} (hp : p < 10000000000) (hq : q < 10000000000) : (sizeJoin p q).size ≤ 26 := by
  have h1 := decB_20 hp
  have h2 := decB_20 hq
  unfold sizeJoin
  simp only [ByteArray.size_append]
  have e1 : (⟨#[32]⟩ : ByteArray).size = 1 := rfl
  have e2 : (⟨#[115, 105, 122, 101]⟩ : ByteArray).size = 4 := rfl
  omega

set_option maxHeartbeats 8000000 in
/-- 'Text'. -/
theorem stext_any (sb mb : Nat) (f : List (Ky × Ct)) (z : List Int) (w : World) (hs : SAt w sb mb f z) (hN : f.length ≤ 1000000) (ht : Tab10 w) (hk : TxtOk f z) :
    Calls Tryz.prog 20 #[.pointer (some ⟨sb, 0, none⟩)] w fun e w' => e = .returned (.string (textS f z)) ∧ Below w.heap.size w w' := by
  obtain ⟨W0, hW0⟩ : ∃ W0, W0 = w.alloc (.cells #[.pointer none, .slice none 0 0] 77) := ⟨_, rfl⟩
  have HB0 : Hid (Below w.heap.size w W0) := hide (by rw [hW0]; (repeat (first | exact Below.refl _ _ | with_reducible assumption | (refine Below.setCell ?_ (by simp <;> omega) _) | (refine Below.alloc ?_ (by simp <;> omega) _))))
  have hw0 : w.heap.size < W0.heap.size := by rw [hW0]; simp
  have HS0 := hide (hs.below HB0.out)
  have HSRT := hide (sorted_any sb mb f z W0 HS0.out hN)
  have HBS0 : Hid (BS W0 w.heap.size ⟨#[]⟩) := hide (by rw [hW0]; exact bs_fresh w)
  have HTAB : Hid (∀ w', Below w.heap.size w w' → Tab10 w') := hide fun w' hb => ht.below hb
  have HKO := hide hk
  have HOKF := hide (keyOk_of hs.map)
  have hsl : sb < w.heap.size := hs.lt
  have HZL := hide hs.len
  have HSA := hide hs
  clear hs ht hk
  have hlen : (skeys (f.map (·.1))).length = f.length := by rw [skeys_length, List.length_map]
  obtain ⟨ks, hks⟩ : ∃ ks, skeys (f.map (·.1)) = ks := ⟨_, rfl⟩
  have HKF : Hid (∀ x ∈ ks, (x, cntAt f x) ∈ f) := hide (by
    intro x hx
    rw [← hks] at hx
    exact cntAt_mem ((skeys_perm _).mem_iff.1 hx))
  have HTX : Hid (textS f z = catB (ks.map (fun x => keyLine x (cntAt f x)) ++ sizeLines z 18)) := hide (by rw [textS, hks])
  rw [hks] at HSRT hlen
  clear hks
  obtain ⟨n, hn⟩ : ∃ n, f.length = n := ⟨_, rfl⟩
  rw [hn] at HSRT hlen hN
  have HLEN := hide hlen
  have HWW := hide hW0
  clear hn hlen hW0
  go_enter Tryz.func20, Tryz.ntmps20
  go_wp2_with fail
  rw [← HWW.out]
  refine HSRT.out.mono ?_
  rintro e w1 ⟨v, rfl, hrow, hb1⟩
  obtain ⟨A, c, rfl⟩ := own_form hrow
  have HROW := hide hrow
  have HBS1 := hide (HBS0.out.below hb1)
  have HB1 : Hid (Below w.heap.size w w1) := hide (HB0.out.trans (hb1.mono HB0.out.size))
  have HGC : Hid (0 < n → ∃ g cur, A = some ⟨g, 0, none⟩ ∧ w.heap.size < g ∧ w1.heap[g]? = some (.cells cur 64 (0, 0))) := hide (fun hn => by
    rcases HROW.out.2 with ⟨h, h0⟩ | ⟨g, cap, cur, h, hg1, h2, _⟩
    · omega
    · cases h
      exact ⟨g, cur, rfl, by omega, h2⟩)
  clear hrow hb1
  go_wp2_with fail
  go_loopw [15] (fun i wr => ∃ (k : Nat) (s : ByteArray), k ≤ n ∧ i = .int .i64 k ∧ Hid (s = catB ((ks.take k).map (fun x => keyLine x (cntAt f x)))) ∧ s.size ≤ k * 120 ∧ Hid (BS wr w.heap.size s) ∧ Hid (Below w.heap.size w wr) ∧ Hid (Lib.OthersKept 5 (some w.heap.size) w1 wr)) (fun i _ => n - (intOf i).toNat)
  case atStart => exact ⟨0, ⟨#[]⟩, Nat.zero_le _, rfl, rfl, Nat.le_refl _, HBS1, HB1, Lib.OthersKept.refl _ _ _⟩
  case round =>
    obtain ⟨k, s, hk, rfl, HS, hsz, HBS, HB, HOKP⟩ := hrel
    have hszw := HB.out.size
    by_cases hlt : k < n
    · obtain ⟨g, cur, rfl, hgB, hgc⟩ := HGC.out (by omega)
      obtain ⟨x, hx⟩ : ∃ x, ks[k]? = some x := ⟨_, List.getElem?_eq_getElem (by rw [HLEN.out]; exact hlt)⟩
      have hgw : wr.heap[g]? = w1.heap[g]? := (HOKP.out g _ hgc (by intro e; have := Option.some.inj e; omega) (by intro c' fz e; cases e)).trans hgc.symm
      have hgl : g < wr.heap.size := by
        rcases Nat.lt_or_ge g wr.heap.size with h | h
        · exact h
        · rw [Array.getElem?_eq_none h, hgc] at hgw; cases hgw
      obtain ⟨c0, c1, c2⟩ := keys_at HROW.out hx
      have c0 : wr.cell? ⟨g, k * 3, none⟩ = _ := (World.cell?_of_block (w := w1) hgw).trans c0
      have c1 : wr.cell? ⟨g, k * 3 + 1, none⟩ = _ := (World.cell?_of_block (w := w1) hgw).trans c1
      have c2 : wr.cell? ⟨g, k * 3 + 2, none⟩ = _ := (World.cell?_of_block (w := w1) hgw).trans c2
      have hfx := HKF.out x (List.mem_of_getElem? hx)
      have HXOK := hide (HOKF.out _ hfx)
      obtain ⟨k1, k2, k3, k4, k5, k6, k7, k8, k9⟩ := HKO.out.key _ hfx
      obtain ⟨⟨a1, a2⟩, ha⟩ : ∃ a, cntAt f x = a := ⟨_, rfl⟩
      have HTK : Hid ((ks.take (k + 1)).map (fun x => keyLine x (cntAt f x)) = (ks.take k).map (fun x => keyLine x (cntAt f x)) ++ [keyLine x (a1, a2)]) := hide (by rw [List.take_add_one, hx, ← ha]; simp)
      have HA := hide ha
      rw [ha] at k6 k7 k8 k9 hfx
      clear hx hgw hgc hfx ha
      obtain ⟨x1, x2, x3⟩ := x
      dsimp only at c0 c1 c2 k1 k2 k3 k4 k5 k6 k7 k8 k9
      obtain ⟨dn, rfl⟩ : ∃ dn : Nat, x1 = dn := ⟨x1.toNat, by omega⟩
      obtain ⟨kd, rfl⟩ : ∃ kd : Nat, x2 = kd := ⟨x2.toNat, by omega⟩
      obtain ⟨p, rfl⟩ : ∃ p : Nat, a1 = p := ⟨a1.toNat, by omega⟩
      obtain ⟨q, rfl⟩ : ∃ q : Nat, a2 = q := ⟨a2.toNat, by omega⟩
      obtain ⟨nm, hnm⟩ : ∃ nm, nameB ((dn : Int), (kd : Int), x3) = nm := ⟨_, rfl⟩
      have hnm1 : (kd : Int) = 0 → decB dn = nm := fun h => by rw [← hnm, nameB, if_pos h]; rfl
      have hnm2 : ¬ (kd : Int) = 0 → x3 = nm := fun h => by rw [← hnm, nameB, if_neg h]
      have hnms : nm.size ≤ 80 := by
        by_cases h : (kd : Int) = 0
        · rw [← hnm1 h]; have := decB_20 (n := dn) (by omega); omega
        · rw [← hnm2 h]; exact k5
      have HNM1 := hide hnm1
      have HNM2 := hide hnm2
      have HLNE : Hid (keyLine ((dn : Int), (kd : Int), x3) ((p : Int), (q : Int)) = keyJoin (wordB kd) nm p q ++ ⟨#[10]⟩) := hide (by
        unfold keyLine lineB keyJoin
        rw [hnm]; rfl)
      clear hnm hnm1 hnm2
      obtain ⟨WK, hWK⟩ : ∃ WK, WK = wr.alloc (.cells #[.int .i64 (dn : Int), .int .i64 (kd : Int), .string x3] 64) := ⟨_, rfl⟩
      have HBK : Hid (Below wr.heap.size wr WK) := hide (by rw [hWK]; (repeat (first | exact Below.refl _ _ | with_reducible assumption | (refine Below.setCell ?_ (by simp <;> omega) _) | (refine Below.alloc ?_ (by simp <;> omega) _))))
      have hwk : wr.heap.size < WK.heap.size := by rw [hWK]; simp
      have q0 : WK.cell? ⟨wr.heap.size, 0, none⟩ = some (.int .i64 (dn : Int)) := by rw [hWK]; simp [go_sem]
      have q1 : WK.cell? ⟨wr.heap.size, 1, none⟩ = some (.int .i64 (kd : Int)) := by rw [hWK]; simp [go_sem]
      have q2 : WK.cell? ⟨wr.heap.size, 2, none⟩ = some (.string x3) := by rw [hWK]; simp [go_sem]
      have HKB : Hid (WK.heap[wr.heap.size]? = some (.cells #[.int .i64 (dn : Int), .int .i64 (kd : Int), .string x3] 64 (0, 0))) := hide (by rw [hWK]; exact heap_alloc_new _ _)
      have HWK := hide hWK
      clear hWK
      have hk0 : (0 : Int) ≤ (k : Int) := by omega
      have hkn : (k : Int) < (n : Int) := by omega
      go_upto_if 23 with fail
      rw [← HWK.out]
      go_cut [6, 15] (fun s6 s15 wx => s6 = .string nm ∧ s15 = .int .i64 (k : Int) ∧ Hid (Below WK.heap.size WK wx))
      case first =>
        by_cases h0 : (kd : Int) = 0
        · have hb : ((kd : Int) == 0) = true := by simp [h0]
          have hnm := HNM1.out h0
          rw [hb]
          clear h0 hb
          go_wp2_with fail
          refine (itoa_any dn (by omega) WK (HTAB.out _ (HB.out.trans (HBK.out.mono HB.out.size)))).mono ?_
          rintro e w3 ⟨rfl, hb3⟩
          go_wp2_with fail
          go_meet
          exact ⟨rfl, rfl, hb3⟩
        · have hb : ((kd : Int) == 0) = false := by simpa using h0
          have hnm := HNM2.out h0
          rw [hb]
          clear h0 hb
          go_wp2_with fail
          go_meet
          exact ⟨rfl, rfl, Below.refl _ _⟩
      case rest =>
        obtain ⟨rfl, rfl, HBC⟩ := hcut
        have HBW : Hid (Below w.heap.size w wc) := hide ((HB.out.trans (HBK.out.mono HB.out.size)).trans (HBC.out.mono (Nat.le_trans HB.out.size HBK.out.size)))
        have q0 := (HBC.out.cell (block_lt_of_cell q0)).trans q0
        have q1 := (HBC.out.cell (block_lt_of_cell q1)).trans q1
        have q2 := (HBC.out.cell (block_lt_of_cell q2)).trans q2
        have HSW := hide (HSA.out.below HBW.out)
        have q3 := HSW.out.c0
        have hszc := HBC.out.size
        have HLK : Hid (∀ w', Below wc.heap.size wc w' → (Instr.lookup 70 (.map (some mb)) (.agg #[.int .i64 (dn : Int), .int .i64 (kd : Int), .string x3]) false).run Tryz.prog w' = .ok (.agg #[.int .i64 (p : Int), .int .i64 (q : Int)]) w') := hide (fun w' hb => by
          have := lookup_cnt (w := w') (Mp.IsMap.below HSW.out.map hb) HXOK.out
          rw [HA.out] at this
          exact this)
        have hl1 := HLK.out _ (Below.refl _ _).drew
        have hl2 := HLK.out _ (below_al (Below.refl _ _) (.cells #[.int .i64 0, .int .i64 0] 34)).drew
        have HK : Hid (∀ w', Below wc.heap.size wc w' → w'.cell? ⟨wr.heap.size, 0, none⟩ = some (.int .i64 (dn : Int)) ∧ w'.cell? ⟨wr.heap.size, 1, none⟩ = some (.int .i64 (kd : Int)) ∧ w'.cell? ⟨wr.heap.size, 2, none⟩ = some (.string x3) ∧ w'.cell? ⟨sb, 0, none⟩ = some (.map (some mb))) := hide fun w' hb =>
          ⟨(hb.cell (block_lt_of_cell q0)).trans q0, (hb.cell (block_lt_of_cell q1)).trans q1, (hb.cell (block_lt_of_cell q2)).trans q2, (hb.cell (block_lt_of_cell q3)).trans q3⟩
        go_upto_region 10 with fail
        go_cut [6, 7, 15] (fun s6 s7 s15 wx => s6 = .string nm ∧ s15 = .int .i64 (k : Int) ∧ ∃ cb, s7 = .pointer (some ⟨cb, 0, none⟩) ∧ Hid (wx.heap[cb]? = some (.cells #[.int .i64 (p : Int), .int .i64 (q : Int)] 34 (0, 0))) ∧ w.heap.size < cb ∧ Hid (Below wc.heap.size wc wx))
        case first =>
          go_region_held3 (fun w' => w'.cell? ⟨wr.heap.size, 0, none⟩ = some (.int .i64 (dn : Int)) ∧ w'.cell? ⟨wr.heap.size, 1, none⟩ = some (.int .i64 (kd : Int)) ∧ w'.cell? ⟨wr.heap.size, 2, none⟩ = some (.string x3) ∧ w'.cell? ⟨sb, 0, none⟩ = some (.map (some mb)))
            (first | exact HK.out _ (Below.refl _ _).drew | exact HK.out _ (below_al (Below.refl _ _) _).drew)
            ((first | fail))
          all_goals
            have hcb : Hid (((wc.alloc (.cells #[.int .i64 (p : Int), .int .i64 (q : Int)] 34)).drew).heap[wc.heap.size]? = some (.cells #[.int .i64 (p : Int), .int .i64 (q : Int)] 34 (0, 0))) := hide (heap_alloc_new wc _)
            have hbx : Hid (Below wc.heap.size wc ((wc.alloc (.cells #[.int .i64 (p : Int), .int .i64 (q : Int)] 34)).drew)) := hide (below_al (Below.refl _ _) _).drew
            have hlw : w.heap.size < wc.heap.size := by omega
            go_wp2_with fail
            go_meet
            exact ⟨rfl, rfl, _, rfl, hcb, hlw, hbx⟩
        case rest =>
          obtain ⟨rfl, rfl, cb, rfl, HCB, hcbl, HBX⟩ := hcut
          have HBY : Hid (Below w.heap.size w wc) := hide (HBW.out.trans (HBX.out.mono HBW.out.size))
          have HRY : Hid (Below wr.heap.size wr wc) := hide (((HBK.out.trans (HBC.out.mono HBK.out.size))).trans (HBX.out.mono (Nat.le_trans HBK.out.size HBC.out.size)))
          have HKBY : Hid (wc.heap[wr.heap.size]? = some (.cells #[.int .i64 (dn : Int), .int .i64 (kd : Int), .string x3] 64 (0, 0))) := hide (by
            rw [HBX.out.block _ (by omega), HBC.out.block _ hwk]; exact HKB.out)
          have HBSY : Hid (BS wc w.heap.size s) := hide (HBS.out.below HRY.out)
          have HOKY : Hid (Lib.OthersKept 5 (some w.heap.size) w1 wc) := hide (HOKP.out.trans (kept_below HRY.out))
          have hwd := wordB_size kd
          have hbl := HBS.out.lt
          have hjs := keyJoin_size (wd := wordB kd) (nm := nm) (p := p) (q := q) hwd hnms (by omega) (by omega)
          have hix : ∀ w', (Instr.index 84 wordsV (.int .i64 (kd : Int))).run Tryz.prog w' = .ok (.string (wordB kd)) w' := fun w' => wordsI (by omega) w'
          have HWD : Hid (∀ w', Below wc.heap.size wc w' → Calls Tryz.prog 41 #[] w' fun e w'' => e = .returned wordsV ∧ Below wc.heap.size wc w'') := hide fun w' hb => (words_any w').mono (by rintro e w'' ⟨rfl, hq⟩; exact ⟨rfl, hb.trans (hq.mono hb.size)⟩)
          have HIT : Hid (∀ (v : Nat) w', (v = p ∨ v = q) → Below wc.heap.size wc w' → Calls Tryz.prog 38 #[.int .i64 (v : Int)] w' fun e w'' => e = .returned (.string (decB v)) ∧ Below wc.heap.size wc w'') := hide fun v w' hv hb => (itoa_any v (by omega) w' (HTAB.out _ (HBY.out.trans (hb.mono HBY.out.size)))).mono (by rintro e w'' ⟨rfl, hq⟩; exact ⟨rfl, hb.trans (hq.mono hb.size)⟩)
          have HJN : Hid (∀ w', Below wc.heap.size wc w' → Calls Tryz.prog 40 #[.slice (some ⟨w'.heap.size, 0, none⟩) 4 4, .string ⟨#[32]⟩] (w'.alloc (.cells #[.string (wordB kd), .string nm, .string (decB p), .string (decB q)] 9)) fun e w'' => e = .returned (.string (keyJoin (wordB kd) nm p q)) ∧ Below wc.heap.size wc w'') := hide fun w' hb => by
            have := join_any w'.heap.size 4 (wordB kd) [nm, decB p, decB q] _ (0, 0) (heap_alloc_new w' (.cells #[.string (wordB kd), .string nm, .string (decB p), .string (decB q)] 9)) rfl (Nat.le_trans hjs (by decide)) (by decide)
            exact this.mono (by rintro e w'' ⟨rfl, hq⟩; exact ⟨rfl, (below_al hb _).trans (hq.mono (below_al hb _).size)⟩)
          have hsz2 : s.size ≤ 120000000 := Nat.le_trans hsz (Nat.le_trans (Nat.mul_le_mul_right 120 (Nat.le_trans hk hN)) (by decide))
          obtain ⟨jn, hjn⟩ : ∃ jn, keyJoin (wordB kd) nm p q = jn := ⟨_, rfl⟩
          rw [hjn] at HJN hjs HLNE
          have z1 : (⟨#[10]⟩ : ByteArray).size = 1 := rfl
          have ha : Op.stringOp .add jn ⟨#[10]⟩ = pure (.string (jn ++ ⟨#[10]⟩)) := add_str _ _ (by omega)
          have hls : (jn ++ ⟨#[10]⟩).size ≤ 120 := by rw [ByteArray.size_append]; omega
          obtain ⟨ln, hln⟩ : ∃ ln, jn ++ (⟨#[10]⟩ : ByteArray) = ln := ⟨_, rfl⟩
          rw [hln] at ha hls HLNE
          have HSF : Hid (∀ (w' : World), w'.heap[wr.heap.size]? = wc.heap[wr.heap.size]? → w'.heap[cb]? = wc.heap[cb]? → w'.cell? ⟨wr.heap.size, 1, none⟩ = some (.int .i64 (kd : Int)) ∧ w'.cell? ⟨cb, 0, none⟩ = some (.int .i64 (p : Int)) ∧ w'.cell? ⟨cb, 1, none⟩ = some (.int .i64 (q : Int))) := hide fun w' h1 h2 =>
            ⟨(cell_of_row w' _ 1 _ _ _ (h1.trans HKBY.out)).trans rfl, (cell_of_row w' _ 0 _ _ _ (h2.trans HCB.out)).trans rfl, (cell_of_row w' _ 1 _ _ _ (h2.trans HCB.out)).trans rfl⟩
          have HK2 : Hid (∀ w', Below wc.heap.size wc w' → w'.cell? ⟨wr.heap.size, 1, none⟩ = some (.int .i64 (kd : Int)) ∧ w'.cell? ⟨cb, 0, none⟩ = some (.int .i64 (p : Int)) ∧ w'.cell? ⟨cb, 1, none⟩ = some (.int .i64 (q : Int))) := hide fun w' hb =>
            HSF.out w' (hb.block _ (Array.getElem?_eq_some_iff.1 HKBY.out).1) (hb.block _ (Array.getElem?_eq_some_iff.1 HCB.out).1)
          have HWS : Hid (∀ w', Below wc.heap.size wc w' → Calls Tryz.prog 39 #[.pointer (some ⟨w.heap.size, 0, none⟩), .string ln] w' fun e w'' => e = .returned (.tuple #[.int .i64 ln.size, .nilIface]) ∧ (w''.cell? ⟨wr.heap.size, 1, none⟩ = some (.int .i64 (kd : Int)) ∧ w''.cell? ⟨cb, 0, none⟩ = some (.int .i64 (p : Int)) ∧ w''.cell? ⟨cb, 1, none⟩ = some (.int .i64 (q : Int))) ∧ Hid (BS w'' w.heap.size (s ++ ln)) ∧ Hid (Below w.heap.size w w'') ∧ Hid (Lib.OthersKept 5 (some w.heap.size) w1 w'')) := hide fun w' hb => by
            refine (ws_any w.heap.size s ln w' (HBSY.out.below hb) (by omega)).mono ?_
            rintro e w'' ⟨rfl, h1, h2, h3⟩
            have h4 : Lib.OthersKept 5 (some w.heap.size) wc w'' := (kept_below hb).trans h3
            refine ⟨rfl, HSF.out w'' ((h4 _ _ HKBY.out (by intro e; have := Option.some.inj e; omega) (by intro c' fz e; cases e)).trans HKBY.out.symm) ((h4 _ _ HCB.out (by intro e; have := Option.some.inj e; omega) (by intro c' fz e; cases e)).trans HCB.out.symm), h1, (HBY.out.trans (hb.mono HBY.out.size)).trans h2, HOKY.out.trans h4⟩
          have HS5 : Hid (s ++ ln = catB ((ks.take (k + 1)).map (fun x => keyLine x (cntAt f x)))) := hide (by
            rw [HTK.out, catB_snoc, HLNE.out, ← HS.out])
          have hs5 : (s ++ ln).size ≤ (k + 1) * 120 := by rw [ByteArray.size_append, Nat.succ_mul]; exact Nat.add_le_add hsz hls
          clear hjn hln hl1 hl2 hwd z1 q0 q1 q2 q3
          go_upto_region 11 with fail
          go_region_held3 (fun w' => w'.cell? ⟨wr.heap.size, 1, none⟩ = some (.int .i64 (kd : Int)) ∧ w'.cell? ⟨cb, 0, none⟩ = some (.int .i64 (p : Int)) ∧ w'.cell? ⟨cb, 1, none⟩ = some (.int .i64 (q : Int)))
            (first | assumption | exact HK2.out _ (by assumption) | exact HK2.out _ (Below.refl _ _).drew | exact HK2.out _ (below_al (by assumption) _) | exact HK2.out _ (Below.refl _ _))
            ((first
              | (go_at_call 41; refine (HWD.out _ ?_).mono ?_; (· (first | assumption | exact (Below.refl _ _).drew)); rintro e w4 ⟨rfl, hb4⟩)
              | (go_at_call 38; refine (HIT.out _ _ ?_ ?_).mono ?_; (· first | exact Or.inl rfl | exact Or.inr rfl); (· (first | assumption | exact (Below.refl _ _).drew)); rintro e w4 ⟨rfl, hb4⟩)
              | (go_at_call 40; refine (HJN.out _ ?_).mono ?_; (· (first | assumption | exact (Below.refl _ _).drew)); rintro e w4 ⟨rfl, hb4⟩)
              | (go_at_call 39; refine (HWS.out _ ?_).mono ?_; (· (first | assumption | exact (Below.refl _ _).drew)); rintro e w5 ⟨rfl, hS5, HBS5, HB5, HOK5⟩)))
          all_goals
            go_wp2_with fail
            go_roundw
            case rel => exact ⟨k + 1, s ++ ln, by omega, by go_num, HS5, hs5, HBS5, HB5, HOK5⟩
            case measure => simp [intOf]; omega
    · obtain rfl : k = n := by omega
      have HS1 : Hid (s = catB (ks.map (fun x => keyLine x (cntAt f x)))) := hide (by rw [HS.out, List.take_of_length_le (by rw [HLEN.out]; exact Nat.le_refl _)])
      have hs1 : s.size ≤ 120000000 := Nat.le_trans hsz (Nat.le_trans (Nat.mul_le_mul_right 120 hN) (by decide))
      have HBLK := hide (HSA.out.below HB.out).blk
      have HX : Hid (∀ (j : Nat) (v : Value), (z.map (Value.int .i64))[j]? = some v → ((.map (some mb) :: z.map (.int .i64)).toArray : Array Value)[1 + j]? = some v) := hide (by
        intro j v hv
        rw [List.getElem?_toArray, Nat.add_comm, List.getElem?_cons_succ]; exact hv)
      have HI : Hid ((Tryz.prog.info? 41).map (·.size) = some (z.map (Value.int .i64)).length) := hide (by rw [List.length_map, HZL.out]; rfl)
      have HIX : Hid (∀ (j : Nat), j < 18 → ∀ w', (Instr.index 41 (.agg (z.map (Value.int .i64)).toArray) (.int .i64 (j : Int))).run Tryz.prog w' = .ok (.int .i64 (z.getD j 0)) w') := hide fun j hj w' => run_index_i64 w' z j hj HZL.out
      obtain ⟨zl, hzl⟩ : ∃ zl, z.map (Value.int .i64) = zl := ⟨_, rfl⟩
      rw [hzl] at HX HI HIX
      have HBLK2 : Hid (wr.heap[sb]? = some (.cells (.map (some mb) :: zl).toArray 72 (0, 0))) := hide (by rw [← hzl]; exact HBLK.out)
      obtain ⟨pre, hpre⟩ : ∃ pre, ks.map (fun x => keyLine x (cntAt f x)) = pre := ⟨_, rfl⟩
      have HTX2 : Hid (textS f z = catB (pre ++ sizeLines z 18)) := hide (by rw [HTX.out, hpre])
      rw [hpre] at HS1
      have HPRE := hide hpre
      clear hpre hzl hsz
      go_wp2_with (first | (refine wpList_load_off rfl 41 _ rfl sb 1 rfl _ _ _ _ _ HBLK2.out (fun j v hv => by have := HX.out j v hv; simpa using this) Tryz.underlying41 rfl HI.out ?_))
      obtain ⟨za, hza⟩ : ∃ za, zl.toArray = za := ⟨_, rfl⟩
      rw [hza] at HIX ⊢
      have HZA := hide hza
      clear hza
      go_wp2_with fail
      go_loopw [53] (fun i wl => ∃ (j : Nat) (s : ByteArray), j ≤ 18 ∧ i = .int .i64 j ∧ Hid (s = catB (pre ++ sizeLines z j)) ∧ s.size ≤ 120000000 + j * 60 ∧ Hid (BS wl w.heap.size s) ∧ Hid (Below w.heap.size w wl)) (fun i _ => 18 - (intOf i).toNat)
      case atStart =>
        have hq : s.size ≤ 120000000 + 0 * 60 := hs1
        have hh : Hid (s = catB (pre ++ sizeLines z 0)) := hide (by rw [HS1.out]; simp [sizeLines])
        exact ⟨0, s, Nat.zero_le _, rfl, hh, hq, HBS, HB⟩
      case round =>
        obtain ⟨j, s4, hj, rfl, HS4, hs4, HBS4, HB4⟩ := hrel
        by_cases hlj : j < 18
        · obtain ⟨m, hm, hm1⟩ : ∃ m : Nat, z.getD j 0 = m ∧ m < 10000000000 := by
            have hx : z.getD j 0 ∈ z := by
              rw [List.getD_eq_getElem?_getD, List.getElem?_eq_getElem (by rw [HZL.out]; exact hlj)]
              exact List.getElem_mem _
            have := HKO.out.z _ hx
            exact ⟨(z.getD j 0).toNat, by omega, by omega⟩
          have HZQ : Hid (sizeLines z (j + 1) = if 0 < (m : Int) then sizeLines z j ++ [sizeLine j (m : Int)] else sizeLines z j) := hide (by rw [sizeLines, hm])
          have hix := HIX.out j hlj
          rw [hm] at hix
          clear hm
          by_cases hmp : 0 < (m : Int)
          · have hjs := sizeJoin_size (p := j) (q := m) (by omega) hm1
            have HLN : Hid (sizeLine j (m : Int) = sizeJoin j m ++ ⟨#[10]⟩) := hide (by unfold sizeLine sizeJoin; rfl)
            have HJN : Hid (∀ (w' : World), Calls Tryz.prog 40 #[.slice (some ⟨w'.heap.size, 0, none⟩) 3 3, .string ⟨#[32]⟩] (w'.alloc (.cells #[.string ⟨#[115, 105, 122, 101]⟩, .string (decB j), .string (decB m)] 9)) fun e w'' => e = .returned (.string (sizeJoin j m)) ∧ Below w'.heap.size w' w'') := hide fun w' => by
              have := join_any w'.heap.size 3 ⟨#[115, 105, 122, 101]⟩ [decB j, decB m] _ (0, 0) (heap_alloc_new w' (.cells #[.string ⟨#[115, 105, 122, 101]⟩, .string (decB j), .string (decB m)] 9)) rfl (Nat.le_trans hjs (by decide)) (by decide)
              exact this.mono (by rintro e w'' ⟨rfl, hq⟩; exact ⟨rfl, (below_al (Below.refl _ _) _).trans (hq.mono (below_al (Below.refl _ _) _).size)⟩)
            obtain ⟨jn, hjn⟩ : ∃ jn, sizeJoin j m = jn := ⟨_, rfl⟩
            rw [hjn] at HJN hjs HLN
            have z1 : (⟨#[10]⟩ : ByteArray).size = 1 := rfl
            have ha : Op.stringOp .add jn ⟨#[10]⟩ = pure (.string (jn ++ ⟨#[10]⟩)) := add_str _ _ (by omega)
            have hls : (jn ++ ⟨#[10]⟩).size ≤ 60 := by rw [ByteArray.size_append]; omega
            obtain ⟨ln, hln⟩ : ∃ ln, jn ++ (⟨#[10]⟩ : ByteArray) = ln := ⟨_, rfl⟩
            rw [hln] at ha hls HLN
            clear hjn hln z1 hjs
            go_wp2_with fail
            refine (itoa_any j (by omega) _ (HTAB.out _ HB4.out)).mono ?_
            rintro e w4 ⟨rfl, hb4⟩
            have HB5 : Hid (Below wr.heap.size wr w4) := hide hb4
            clear hb4
            go_wp2_with fail
            refine (itoa_any m (by omega) _ (HTAB.out _ (HB4.out.trans (HB5.out.mono HB4.out.size)))).mono ?_
            rintro e w5 ⟨rfl, hb5⟩
            have HB6 : Hid (Below wr.heap.size wr w5) := hide (HB5.out.trans (hb5.mono HB5.out.size))
            clear hb5
            go_wp2_with fail
            refine (HJN.out w5).mono ?_
            rintro e w6 ⟨rfl, hb6⟩
            have HB7 : Hid (Below wr.heap.size wr w6) := hide (HB6.out.trans (hb6.mono HB6.out.size))
            clear hb6
            go_wp2_with fail
            refine (ws_any w.heap.size s4 ln w6 (HBS4.out.below HB7.out) (Nat.le_trans (Nat.add_le_add hs4 hls) (by omega))).mono ?_
            rintro e w8 ⟨rfl, h1, h2, h3⟩
            have HBS8 := hide h1
            have HB8 : Hid (Below w.heap.size w w8) := hide ((HB4.out.trans (HB7.out.mono HB4.out.size)).trans h2)
            clear h1 h2 h3
            have HS5 : Hid (s4 ++ ln = catB (pre ++ sizeLines z (j + 1))) := hide (by
              rw [HZQ.out, if_pos hmp, ← List.append_assoc, catB_snoc, HLN.out, ← HS4.out])
            have hs5 : (s4 ++ ln).size ≤ 120000000 + (j + 1) * 60 := by
              rw [ByteArray.size_append, Nat.succ_mul, ← Nat.add_assoc]
              exact Nat.add_le_add hs4 hls
            go_wp2_with fail
            go_roundw
            case rel => exact ⟨j + 1, s4 ++ ln, by omega, by go_num, HS5, hs5, HBS8, HB8⟩
            case measure => simp [intOf]; omega
          · have HS5 : Hid (s4 = catB (pre ++ sizeLines z (j + 1))) := hide (by rw [HZQ.out, if_neg hmp, ← HS4.out])
            have hs5 : s4.size ≤ 120000000 + (j + 1) * 60 := Nat.le_trans hs4 (by omega)
            go_wp2_with fail
            go_roundw
            case rel => exact ⟨j + 1, s4, by omega, by go_num, HS5, hs5, HBS4, HB4⟩
            case measure => simp [intOf]; omega
        · obtain rfl : j = 18 := by omega
          have HFIN : Hid (s4 = textS f z) := hide (HS4.out.trans HTX2.out.symm)
          go_wp2_with fail
          refine (bstring_any w.heap.size s4 _ HBS4.out).mono ?_
          rintro e w9 ⟨rfl, hb9⟩
          have HB9 := hide (HB4.out.trans hb9)
          clear hb9
          go_wp2_with fail
          go_ret
          exact ⟨by rw [← HFIN.out]; rfl, HB9.out⟩
end Go.Proofs.YticcfbeocepnpaaGreatDoor
