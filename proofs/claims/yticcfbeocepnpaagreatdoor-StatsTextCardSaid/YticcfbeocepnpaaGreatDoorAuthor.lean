/-
  The text of an author: bulletinref17.Author, control.AuthorText.
-/
import Derived.Test.YticcfbeocepnpaaGreatDoorProg
import Derived.Test.YticcfbeocepnpaaGreatDoorParts
import Derived.Test.YticcfbeocepnpaaGreatDoorShelf
import Derived.Outline
import Derived.Deep.RegionLaw
import Derived.WalkSpells
import Derived.Maps.AppendAt
import Derived.Deep.Light
import Derived.Deep.DeepCutAuto
import Derived.Deep.QuietTactic
import Derived.BigQuiet
set_option linter.unusedSimpArgs false
set_option maxRecDepth 100000
namespace Go.Proofs.YticcfbeocepnpaaGreatDoor
open Go.RowKit Pl





/-- append onto a row of the call's own, as one step of a region that draws its order. -/
theorem step_append_own {P : Program} {ops : Array Oper} {o : Oper} {a : Act} {w : World} {K : Act → World → Prop} {Q : Exit → Act → World → Prop} {E : Prop}
    (hg : o.guard = none) (s x : Operand) (t : TypeId) (hop : o.op = Op.call { callee := Callee.builtin Builtin.append, args := #[s, x], argTypes := #[t, t] })
    (base : Nat) (e : TypeId) (i : TypeInfo) (z : Value) (size bytes : Nat) (h1 : P.underlying t = some (.slice e)) (h2 : P.info? e = some i) (h3 : i.zero = some z) (h4 : i.size = size) (h5 : i.bytes = bytes) (h6 : z.cells.size = size) (h7 : 0 < size)
    (v : Value) (n : Nat) (xs : List Value) (hs : a.eval s = v) (hown : w.ownsRow base e size v n xs)
    (ad : Addr) (m c : Nat) (news : List Value) (hx : a.eval x = .slice (some ad) m c) (hn : news.length = m * size) (hc : ∀ j u, news[j]? = some u → w.cell? (ad.add j) = some u) (h1c : ∀ u ∈ news, u.oneCell' = true)
    (b1 : n + m ≤ maxLen) (b2 : (n + m) * bytes ≤ 140737488355328) (hbase : base ≤ w.heap.size)
    (hK : ∀ v' w', w'.ownsRow base e size v' (n + m) (xs ++ news) → w.grownBy w' v.ownBlock → K (a.put o.dst v') w') :
    if Region.wanted o (yielded ops a.tmps) = true then Oper.wp P o a w K Q else E := by
  have hw : Region.wanted o (yielded ops a.tmps) = true := by simp [Region.wanted, hg]
  rw [if_pos hw]
  exact wp_append_own w s x t hop base e i z size bytes h1 h2 h3 h4 h5 h6 h7 v n xs hs hown ad m c news hx hn hc h1c b1 b2 hbase (fun v' w' r1 r2 _ => hK v' w' r1 r2)
theorem cell_two_new (w : World) (x y : Value) (t : TypeId) : ∀ j u, [x, y][j]? = some u → (w.alloc (.cells #[x, y] t)).cell? ((⟨w.heap.size, 0, none⟩ : Addr).add j) = some u := by
  intro j u hj
  rw [Addr.add_lit, Nat.zero_add, World.cell?_alloc_new]
  simpa using hj

/-- An element of an array of bytes. -/
theorem run_index_bytes {P : Program} (w : World) (T e : TypeId) (n : Nat) (cs : Array Value) (k : Nat) (v : Value) (hT : P.underlying T = some (.array n e)) (he : P.underlying e = some (.int .u8))
    (hi : (P.info? e).map (·.size) = some 1) (hk : k < n) (hv : cs[k]? = some v) : (Instr.index T (.agg cs) (.int .i64 (k : Int))).run P w = .ok v w := by
  cases hq : P.info? e with
  | none => simp [hq] at hi
  | some i =>
    have hs : i.size = 1 := by simpa [hq] using hi
    have h2 : (0 : Int) ≤ (k : Int) ∧ (k : Int) < n := by omega
    have hagg : (isAgg e).run P w = .ok false w := by
      unfold isAgg
      rw [Sem.run_bind, run_underlying he w]
      simp
    simp [Instr.index, asIntOf, run_underlying hT, sizeOf, typeInfo, hq, hs, part, hagg, hv, h2, hk]

def hexD : List UInt8 := [48, 49, 50, 51, 52, 53, 54, 55, 56, 57, 97, 98, 99, 100, 101, 102]
def hexB (b : UInt8) : List UInt8 := [hexD.getD (b.toNat / 16) 0, hexD.getD (b.toNat % 16) 0]
def hexL (l : List UInt8) : List UInt8 := l.flatMap hexB
theorem hexL_length (l : List UInt8) : (hexL l).length = 2 * l.length := by
  induction l with
  | nil => rfl
  | cons x r ih => simp [hexL, hexB] at ih ⊢; omega
theorem hexL_snoc (l : List UInt8) (b : UInt8) : hexL (l ++ [b]) = hexL l ++ hexB b := by simp [hexL]
/-- The cells of an array of bytes. -/
def BytesIn (cs : Array Value) (off : Nat) (l : List UInt8) : Prop := ∀ (j : Nat) x, l[j]? = some x → cs[off + j]? = some (.int .u8 (x.toNat : Int))

theorem hex_const : ∀ q : Nat, q < 16 → ((⟨#[48, 49, 50, 51, 52, 53, 54, 55, 56, 57, 97, 98, 99, 100, 101, 102]⟩ : ByteArray).extract q (q + 1)).data.toList = [hexD.getD q 0] := by
  intro q hq
  rw [Lib.extract_data]
  revert q
  decide
theorem string_of_list {st : ByteArray} {l : List UInt8} (h : st.data.toList = l) : st = ⟨l.toArray⟩ := by
  subst h; cases st; simp

set_option maxHeartbeats 1000000 in
theorem author17_any (cs : Array Value) (l : List UInt8) (w : World) (hl : l.length = 16) (hc : BytesIn cs 0 l) :
    Calls Tryz.prog 29 #[.agg cs] w fun e w' => e = .returned (.string ⟨(hexL l).toArray⟩) ∧ Below w.heap.size w w' := by
  have HL := hide hl
  have HC := hide hc
  clear hl hc
  obtain ⟨W, hW⟩ : ∃ W, w.alloc (.cells cs 23) = W := ⟨_, rfl⟩
  have HW := hide hW
  clear hW
  go_enter Tryz.func29, Tryz.ntmps29
  go_wp2_with fail
  go_loopw [4, 5] (fun s i wr => ∃ (k : Nat) (st : ByteArray), k ≤ 16 ∧ i = .int .i64 k ∧ s = .string st ∧ st.data.toList = hexL (l.take k) ∧ Below (w.alloc (.cells cs 23)).heap.size (w.alloc (.cells cs 23)) wr) (fun _ i _ => 16 - (intOf i).toNat)
  case atStart => exact ⟨0, ⟨#[]⟩, by omega, rfl, rfl, rfl, Below.refl _ _⟩
  case round =>
    obtain ⟨k, st, hk, rfl, rfl, hst, hbel⟩ := hrel
    have HSt := hide hst
    have HB := hide hbel
    clear hst hbel
    by_cases hlt : k < 16
    · obtain ⟨x, hx⟩ : ∃ x, l[k]? = some x := ⟨_, List.getElem?_eq_getElem (by rw [HL.out]; exact hlt)⟩
      have hcell : wr.cell? ⟨w.heap.size, k, none⟩ = some (.int .u8 (x.toNat : Int)) := by
        have := HC.out k x hx
        rw [Nat.zero_add] at this
        rw [HB.out.cell (p := ⟨w.heap.size, k, none⟩) (by simp), World.cell?_alloc_new]; exact this
      have HX := hide hx
      have hx1 : x.toNat < 256 := x.toNat_lt
      obtain ⟨n, hn⟩ : ∃ n, x.toNat = n := ⟨_, rfl⟩
      rw [hn] at hcell hx1
      have HN := hide hn
      clear hx hn
      have hsz : st.size ≤ 32 := by
        have : st.data.toList.length = (hexL (l.take k)).length := by rw [HSt.out]
        rw [len_data, hexL_length, List.length_take, HL.out] at this; omega
      have e1 : IntKind.u8.wrap ((n : Int) / 16 + 1) = (n : Int) / 16 + 1 := IntWalk.u8_in _ (by omega)
      have e2 : IntKind.u8.wrap ((n : Int) % 16 + 1) = (n : Int) % 16 + 1 := IntWalk.u8_in _ (by omega)
      go_wp2_with fail
      go_quiet (fail)
      go_wp2_with fail
      go_roundw
      case rel =>
        refine ⟨k + 1, _, by omega, by go_num, rfl, ?_, HB.out.trans (below_drewNg wr nq |>.mono HB.out.size)⟩
        have hxk := HX.out
        obtain ⟨hk1, hk2⟩ := List.getElem?_eq_some_iff.1 hxk
        rw [data_append, data_append, hex_const (n / 16) (by omega), hex_const (n % 16) (by omega), HSt.out, List.take_succ_eq_append_getElem hk1, hexL_snoc, hk2]
        simp [hexB, HN.out]
      case measure => simp [intOf]; omega
    · obtain rfl : k = 16 := by omega
      go_wp2_with fail
      go_ret
      rw [List.take_of_length_le (by rw [HL.out]; exact Nat.le_refl _)] at HSt
      exact ⟨ret_str (string_of_list HSt.out), ((Below.refl _ _).alloc (Nat.le_refl _) _).trans (HB.out.mono (by simp))⟩

theorem Tryz.infoU8 : (Tryz.prog.info? 5).map (fun i => (i.zero, i.size, i.bytes)) = some (some (.int .u8 0), 1, 1) := by kernel_rfl

theorem const_at (q : Nat) (h : q < (⟨#[48, 49, 50, 51, 52, 53, 54, 55, 56, 57, 97, 98, 99, 100, 101, 102]⟩ : ByteArray).size) :
    ((⟨#[48, 49, 50, 51, 52, 53, 54, 55, 56, 57, 97, 98, 99, 100, 101, 102]⟩ : ByteArray)[q]'h) = hexD.getD q 0 := by
  have := get_data _ q h
  rw [List.getD_eq_getElem?_getD]
  have e : (⟨#[48, 49, 50, 51, 52, 53, 54, 55, 56, 57, 97, 98, 99, 100, 101, 102]⟩ : ByteArray).data.toList = hexD := rfl
  rw [e] at this
  rw [this]; rfl
theorem bits_15 (n : Nat) (h : n < 256) : bits BinOp.and IntKind.u8 (n : Int) 15 = (n : Int) % 16 := by
  revert n
  decide +kernel

theorem foldl_push : ∀ (xs : List UInt8) (s : ByteArray), ((xs.map fun b => (b.toNat : Int)).foldl (fun r n => r.push (UInt8.ofNat n.toNat)) s) = ⟨s.data ++ xs.toArray⟩
  | [], s => by cases s; simp
  | x :: r, s => by
    rw [List.map_cons, List.foldl_cons, foldl_push r]
    simp [ByteArray.push, UInt8.ofNat_toNat]
/-- string(b) of a row of bytes that the call itself has laid. -/
theorem run_convert_own {P : Program} {w : World} {base e : Nat} {v : Value} {n : Nat} {xs : List UInt8} (src dst : TypeId) (hs : P.underlying src = some (.slice e)) (he : P.underlying e = some (.int .u8)) (hd : P.underlying dst = some .string)
    (h : w.ownsRow base e 1 v n (xs.map fun b => Value.int .u8 (b.toNat : Int))) (hn : 0 < n) : (convert src dst v).run P w = .ok (.string ⟨xs.toArray⟩) w := by
  have h' := h
  obtain ⟨h1, h2⟩ := h
  rcases h2 with ⟨_, h0⟩ | ⟨g, cap, cur, rfl, hg, hh, h3, h4, h5, h6⟩
  · omega
  · rw [run_convert_bytes_string w src dst e _ _ _ hs he hd]
    have hl : n = (xs.map fun b => Value.int .u8 (b.toNat : Int)).length := by rw [h1]; omega
    have hm : (xs.map fun b => Value.int .u8 (b.toNat : Int)) = (xs.map fun b => (b.toNat : Int)).map (Value.int .u8) := by simp
    have hload := run_loadCells_list (P := P) w ⟨g, 0, none⟩ (xs.map fun b => Value.int .u8 (b.toNat : Int)) (h'.cells (g := g) rfl)
    rw [← hl, hm] at hload
    rw [run_bytesToString w _ n cap _ hload, foldl_push]
    simp

set_option maxHeartbeats 1000000 in
theorem authorText_any (cs : Array Value) (l : List UInt8) (w : World) (hl : l.length = 16) (hsz : cs.size = 16) (hc : BytesIn cs 0 l) :
    Calls Tryz.prog 50 #[.agg cs] w fun e w' => e = .returned (.string ⟨(hexL l).toArray⟩) ∧ Below w.heap.size w w' := by
  have HL := hide hl
  have HC := hide hc
  clear hl hc
  have HSZ := hide hsz
  clear hsz
  obtain ⟨i0, hi, hz0, hz1, hz2⟩ := info_parts Tryz.infoU8
  have HH := hide (heap_alloc_new w (.cells cs 24))
  go_enter Tryz.func50, Tryz.ntmps50
  go_wp2_with (refine wpList_load_row rfl 24 _ rfl w.heap.size rfl 24 cs (0, 0) _ HH.out Tryz.underlying24 rfl ?h1 ?_)
  case h1 => rw [HSZ.out]; kernel_rfl
  go_loopw [3, 5, 7] (fun v _ i wr => ∃ k : Nat, k ≤ 16 ∧ i = .int .i64 k ∧ wr.ownsRow (w.heap.size + 1) 5 1 v (2 * k) ((hexL (l.take k)).map fun b => Value.int .u8 (b.toNat : Int)) ∧ Below (w.heap.size + 1) (w.alloc (.cells cs 24)) wr) (fun _ _ i _ => 16 - (intOf i).toNat)
  case atStart => exact ⟨0, by omega, rfl, World.ownsRow_nil _ _ _ _, Below.refl _ _⟩
  case round =>
    obtain ⟨k, hk, rfl, hown, hbel⟩ := hrel
    have HO := hide hown
    have HB := hide hbel
    clear hown hbel
    by_cases hlt : k < 16
    · obtain ⟨x, hx⟩ : ∃ x, l[k]? = some x := ⟨_, List.getElem?_eq_getElem (by rw [HL.out]; exact hlt)⟩
      have hcell := HC.out k x hx
      rw [Nat.zero_add] at hcell
      have HX := hide hx
      have hx1 : x.toNat < 256 := x.toNat_lt
      obtain ⟨n, hn⟩ : ∃ n, x.toNat = n := ⟨_, rfl⟩
      rw [hn] at hcell hx1
      have HN := hide hn
      clear hx hn
      have hix := run_index_bytes wr 24 5 16 cs k _ Tryz.underlying24 Tryz.underlying5 (by kernel_rfl) hlt hcell
      go_wp2_with fail
      have b1 : (0 : Int) ≤ (n : Int) / 16 ∧ (n : Int) / 16 < 16 := by omega
      have b2 : (0 : Int) ≤ (n : Int) % 16 ∧ (n : Int) % 16 < 16 := by omega
      have b3 : bits BinOp.and IntKind.u8 (n : Int) 15 = (n : Int) % 16 := bits_15 n hx1
      have hbs : w.heap.size + 1 ≤ wr.heap.size := by have := HB.out.size; simp at this; exact this
      go_region_law (refine step_append_own rfl (.tmp 10) (.tmp 17) 75 rfl (w.heap.size + 1) 5 i0 (.int .u8 0) 1 1 Tryz.underlying75 hi hz0 hz1 hz2 rfl (by decide) u3 (2 * k) _ ?_ (HO.out.alloc _) ⟨wr.heap.size, 0, none⟩ 2 2 _ ?_ ?_ (cell_two_new _ _ _ _) ?_ ?_ ?_ ?_ ?_; (· rfl); (· rfl); (· rfl); (· (intro u hu; simp at hu; rcases hu with rfl | rfl <;> rfl)); (· (simp only [maxLen]; omega)); (· omega); (· (simp; omega)); intro v' w' hown1 hgr1)
      all_goals
        go_wp2_with fail
        go_roundw
        case rel =>
          refine ⟨k + 1, by omega, by go_num, ?_, ((HB.out.alloc hbs _).drew).grown hgr1 (by simp; omega) (fun q hq => ((HO.out.alloc (.cells #[] 5)).lt q hq).1)⟩
          have hxk := HX.out
          obtain ⟨hk1, hk2⟩ := List.getElem?_eq_some_iff.1 hxk
          rw [List.take_succ_eq_append_getElem hk1, hexL_snoc, hk2, List.map_append]
          have hq : [Value.int IntKind.u8 (((⟨#[48, 49, 50, 51, 52, 53, 54, 55, 56, 57, 97, 98, 99, 100, 101, 102]⟩ : ByteArray)[((n : Int) / 16).toNat]'(by show _ < 16; omega)).toNat : Int), Value.int IntKind.u8 (((⟨#[48, 49, 50, 51, 52, 53, 54, 55, 56, 57, 97, 98, 99, 100, 101, 102]⟩ : ByteArray)[((n : Int) % 16).toNat]'(by show _ < 16; omega)).toNat : Int)] = (hexB x).map fun b => Value.int .u8 (b.toNat : Int) := by
            rw [const_at, const_at, show ((n : Int) / 16).toNat = n / 16 from by omega, show ((n : Int) % 16).toNat = n % 16 from by omega]
            simp [hexB, HN.out]
          rw [← hq, show 2 * (k + 1) = 2 * k + 2 from by omega]
          exact hown1
        case measure => simp [intOf]; omega
    · obtain rfl : k = 16 := by omega
      have HH2 := HO.out
      rw [List.take_of_length_le (by rw [HL.out]; exact Nat.le_refl _)] at HH2
      have HO2 := hide HH2
      clear HH2
      have hcv := run_convert_own 75 9 Tryz.underlying75 Tryz.underlying5 Tryz.underlying9 HO2.out (by omega)
      go_wp2_with fail
      go_ret
      exact ⟨rfl, ((Below.refl _ _).alloc (Nat.le_refl _) _).trans (HB.out.mono (by simp))⟩
end Go.Proofs.YticcfbeocepnpaaGreatDoor
