/-
  The model's side: few, has, of. A list of events in memory.
-/
import Derived.Test.YticcfbeocepnpaaGreatDoorProg
import Derived.Test.YticcfbeocepnpaaGreatDoorAdd3
import Derived.Laws.AppendOwn
set_option linter.unusedSimpArgs false
set_option maxRecDepth 100000
namespace Go.Proofs.YticcfbeocepnpaaGreatDoor
open Go.RowKit Pl

theorem EvAt.ofBelow {w w' : World} {cs : Array Value} {ev : Ev} {ga : Option Addr} {gn gc : Nat} {sa : Option Addr} {sn sc : Nat} (h : EvIs w cs ev ga gn gc sa sn sc) (hb : Below w.heap.size w w') : EvIs w' cs ev ga gn gc sa sn sc :=
  ⟨h.at_.below hb, h.au, h.aul, h.len⟩

/-- An event with its cells. -/
structure EvC where
  cs : Array Value
  ev : Ev
  ga : Option Addr
  gn : Nat
  gc : Nat
  sa : Option Addr
  sn : Nat
  sc : Nat
/-- A slice of events, nil or not. -/
structure EvsAt (w : World) (a : Option Addr) (n c : Nat) (l : List EvC) : Prop where
  len : l.length = n
  room : n ≤ c
  capm : c ≤ 9223372036854775807
  cells : 0 < n → ∃ b o, a = some ⟨b, o, none⟩ ∧ ∀ (i : Nat) e, l[i]? = some e → ∀ (j : Nat) v, e.cs[j]? = some v → w.cell? ⟨b, o + i * 20 + j, none⟩ = some v
  evs : ∀ e ∈ l, EvIs w e.cs e.ev e.ga e.gn e.gc e.sa e.sn e.sc
theorem EvsAt.below {w w' : World} {a : Option Addr} {n c : Nat} {l : List EvC} (h : EvsAt w a n c l) (hb : Below w.heap.size w w') : EvsAt w' a n c l :=
  ⟨h.len, h.room, h.capm, fun hn => let ⟨b, o, ha, hc⟩ := h.cells hn; ⟨b, o, ha, fun i e he j v hv => (hb.cell (block_lt_of_cell (hc i e he j v hv))).trans (hc i e he j v hv)⟩, fun e he => EvAt.ofBelow (h.evs e he) hb⟩
theorem EvsAt.at {w : World} {a : Option Addr} {n c : Nat} {l : List EvC} (h : EvsAt w a n c l) {k : Nat} (hk : k < n) :
    ∃ b o e, a = some ⟨b, o, none⟩ ∧ l[k]? = some e ∧ EvIs w e.cs e.ev e.ga e.gn e.gc e.sa e.sn e.sc ∧ ∀ (j : Nat) v, e.cs[j]? = some v → w.cell? ⟨b, o + k * 20 + j, none⟩ = some v := by
  obtain ⟨b, o, ha, hc⟩ := h.cells (by omega)
  have hk' : k < l.length := by rw [h.len]; exact hk
  exact ⟨b, o, l[k], ha, List.getElem?_eq_getElem hk', h.evs _ (List.getElem_mem hk'), hc k _ (List.getElem?_eq_getElem hk')⟩

def fewOk (l : List EvC) : Prop := l.length ≤ 20 ∧ ∀ e ∈ l, e.gn ≤ 30 ∧ e.sn ≤ 80

def FewPost (l : List EvC) (w : World) (e : Ending) (w' : World) : Prop := ∃ b : Bool, e = .returned (.bool b) ∧ (b = true → fewOk l) ∧ w = w'

set_option maxHeartbeats 2000000 in
theorem few_any (a : Option Addr) (n c : Nat) (l : List EvC) (w : World) (h : EvsAt w a n c l) :
    Calls Tryz.prog 9 #[.slice a n c] w (FewPost l w) := by
  have HE := hide h
  have hr := h.room
  have hc := h.capm
  have hl := h.len
  clear h
  go_enter Tryz.func9, Tryz.ntmps9
  go_wp2_with fail
  go_loopw [3] (fun i wr => ∃ k : Nat, k ≤ n ∧ i = .int .i64 k ∧ w = wr ∧ ∀ (j : Nat) e, j < k → l[j]? = some e → e.gn ≤ 30 ∧ e.sn ≤ 80) (fun i _ => n - (intOf i).toNat)
  case atStart => exact ⟨0, by omega, rfl, rfl, fun j e hj => by omega⟩
  case round =>
    obtain ⟨k, hk, rfl, rfl, hall⟩ := hrel
    have HA := hide hall
    clear hall
    by_cases hlt : k < n
    · obtain ⟨b, o, ⟨cs, ev, ga, gn, gc, sa, sn, sc⟩, ha, he, hev, hcells⟩ := HE.out.at hlt
      simp only at hev hcells
      have c17 := hcells 17 _ hev.at_.c17
      have c18 := hcells 18 _ hev.at_.c18
      have HEV := hide hev
      have HGET := hide he
      clear hcells hev he
      subst ha
      have hgr := HEV.out.at_.gs.room
      have hgm := HEV.out.at_.gs.capm
      have hsr := HEV.out.at_.ss.room
      have hsm := HEV.out.at_.ss.capm
      go_wp2_with fail
      go_loopw [4, 5] (fun y i wr => ∃ (q : Nat) (s : Int), q ≤ gn ∧ i = .int .i64 q ∧ y = .int .i64 s ∧ w = wr) (fun _ i _ => gn - (intOf i).toNat)
      case atStart => exact ⟨0, 0, by omega, rfl, rfl, rfl⟩
      case round =>
        obtain ⟨q, s, hq, rfl, rfl, rfl⟩ := hrel
        by_cases hq2 : q < gn
        · obtain ⟨gb, go, x, hga, hx, hxs, hcell, _⟩ := HEV.out.at_.gs.at hq2
          subst hga
          simp only [maxLen] at hxs
          go_wp2_with fail
          go_roundw
          case rel => exact ⟨q + 1, _, by omega, by go_num, rfl, (by first | rfl | trivial)⟩
          case measure => simp [intOf]; omega
        · obtain rfl : q = gn := by omega
          clear hq hq2
          go_wp2_with fail
          go_loopw [4, 6] (fun y i wr => ∃ (r : Nat) (s : Int), r ≤ sn ∧ i = .int .i64 r ∧ y = .int .i64 s ∧ w = wr) (fun _ i _ => sn - (intOf i).toNat)
          case atStart => exact ⟨0, s, by omega, rfl, rfl, rfl⟩
          case round =>
            obtain ⟨r, s, hrr, rfl, rfl, rfl⟩ := hrel
            by_cases hr2 : r < sn
            · obtain ⟨gb, go, x, hga, hx, hxs, hcell, _⟩ := HEV.out.at_.ss.at hr2
              subst hga
              simp only [maxLen] at hxs
              go_wp2_with fail
              go_roundw
              case rel => exact ⟨r + 1, _, by omega, by go_num, rfl, (by first | rfl | trivial)⟩
              case measure => simp [intOf]; omega
            · obtain rfl : r = sn := by omega
              clear hrr hr2
              by_cases h30 : 30 < q
              · go_wp2_with fail
                go_ret
                exact ⟨false, rfl, by simp, rfl⟩
              · by_cases h80 : 80 < r
                · go_wp2_with fail
                  go_ret
                  exact ⟨false, rfl, by simp, rfl⟩
                · by_cases h4 : 4000 < s
                  · go_wp2_with fail
                    go_ret
                    exact ⟨false, rfl, by simp, rfl⟩
                  · go_wp2_with fail
                    go_roundw
                    case rel =>
                      refine ⟨k + 1, by omega, by go_num, (by first | rfl | trivial), fun j e hj he => ?_⟩
                      rcases Nat.lt_succ_iff_lt_or_eq.1 hj with hj | rfl
                      · exact HA.out j e hj he
                      · rw [HGET.out] at he; cases he; exact ⟨by simp only; omega, by simp only; omega⟩
                    case measure => simp [intOf]; omega
    · obtain rfl : k = n := by omega
      by_cases h20 : k ≤ 20
      · go_wp2_with fail
        go_ret
        refine ⟨true, by simp; omega, fun _ => ⟨by omega, fun e he => ?_⟩, rfl⟩
        obtain ⟨j, hj, rfl⟩ := List.mem_iff_getElem.1 he
        exact HA.out j _ (by omega) (List.getElem?_eq_getElem hj)
      · go_wp2_with fail
        go_ret
        exact ⟨false, by simp; omega, by simp, rfl⟩
end Go.Proofs.YticcfbeocepnpaaGreatDoor
