/-
  Guarded operations without parting: a test's answer is kept as a Bool of its own; a guarded operation's slot holds 'cond c v undef'; '&&' and '||' come out as Bools.
-/
import Derived.WalkKit
import Derived.WalkLawsBesides
namespace Go.Proofs.YticcfbeocepnpaaGreatDoor
open Go.RowKit
section
variable {P : Program} {ops : Array Oper} {Q : Exit → Act → World → Prop} {rest : List Oper} {o : Oper} {a : Act} {w : World}

theorem mg_step {v : Value} (hw : Region.wanted o (yielded ops a.tmps) = true) (hr : (execOp a.eval o).run P w = .ok (.value v) w)
    (h : wpList P ops Q rest (a.put o.dst v) w) : wpList P ops Q (o :: rest) a w := by
  unfold wpList
  rw [if_pos hw]
  left
  unfold Oper.wp
  rw [hr]
  exact h

def isCmp : Op → Bool
  | .binOp .lss .. | .binOp .leq .. | .binOp .gtr .. | .binOp .geq .. | .binOp .eql .. | .binOp .neq .. => true
  | _ => false
/- GUARDED OPERATIONS, by genmg.py: the guard's slot may itself be guarded, twice. -/
theorem mg_t {j d dj : Nat} {oj : Oper} {b1 : Bool} {v : Value} (hg : o.guard = some (j, true)) (hd : o.dst = some d) (hoj : ops[j]? = some oj) (hdj : oj.dst = some dj)
    (hv : a.tmps[dj]? = some (.bool b1)) (hr : b1 = true → (execOp a.eval o).run P w = .ok (.value v) w)
    (h : wpList P ops Q rest (a.put (some d) (cond b1 (v) undef)) w) : wpList P ops Q (o :: rest) a w := by
  have hy : yielded ops a.tmps j = some b1 := by simp [yielded, hoj, hdj, hv]
  cases b1 with
  | true => exact mg_step (by simp [Region.wanted, hg, hy]) (hr rfl) (by rw [hd]; exact h)
  | false => exact wpList_skip (by simp [Region.wanted, hg, hy]) (by rw [hd]; exact h)
theorem mg_f {j d dj : Nat} {oj : Oper} {b1 : Bool} {v : Value} (hg : o.guard = some (j, false)) (hd : o.dst = some d) (hoj : ops[j]? = some oj) (hdj : oj.dst = some dj)
    (hv : a.tmps[dj]? = some (.bool b1)) (hr : b1 = false → (execOp a.eval o).run P w = .ok (.value v) w)
    (h : wpList P ops Q rest (a.put (some d) (cond b1 undef (v))) w) : wpList P ops Q (o :: rest) a w := by
  have hy : yielded ops a.tmps j = some b1 := by simp [yielded, hoj, hdj, hv]
  cases b1 with
  | false => exact mg_step (by simp [Region.wanted, hg, hy]) (hr rfl) (by rw [hd]; exact h)
  | true => exact wpList_skip (by simp [Region.wanted, hg, hy]) (by rw [hd]; exact h)
theorem mg_tt {j d dj : Nat} {oj : Oper} {b1 b2 : Bool} {v : Value} (hg : o.guard = some (j, true)) (hd : o.dst = some d) (hoj : ops[j]? = some oj) (hdj : oj.dst = some dj)
    (hv : a.tmps[dj]? = some (cond b1 (.bool b2) undef)) (hr : b1 = true → b2 = true → (execOp a.eval o).run P w = .ok (.value v) w)
    (h : wpList P ops Q rest (a.put (some d) (cond b1 (cond b2 (v) undef) undef)) w) : wpList P ops Q (o :: rest) a w := by
  cases b1 with
  | true => exact mg_t hg hd hoj hdj hv (hr rfl) h
  | false => exact wpList_skip (by simp [Region.wanted, hg, yielded, hoj, hdj, hv, undef]) (by rw [hd]; exact h)
theorem mg_tf {j d dj : Nat} {oj : Oper} {b1 b2 : Bool} {v : Value} (hg : o.guard = some (j, false)) (hd : o.dst = some d) (hoj : ops[j]? = some oj) (hdj : oj.dst = some dj)
    (hv : a.tmps[dj]? = some (cond b1 (.bool b2) undef)) (hr : b1 = true → b2 = false → (execOp a.eval o).run P w = .ok (.value v) w)
    (h : wpList P ops Q rest (a.put (some d) (cond b1 (cond b2 undef (v)) undef)) w) : wpList P ops Q (o :: rest) a w := by
  cases b1 with
  | true => exact mg_f hg hd hoj hdj hv (hr rfl) h
  | false => exact wpList_skip (by simp [Region.wanted, hg, yielded, hoj, hdj, hv, undef]) (by rw [hd]; exact h)
theorem mg_ft {j d dj : Nat} {oj : Oper} {b1 b2 : Bool} {v : Value} (hg : o.guard = some (j, true)) (hd : o.dst = some d) (hoj : ops[j]? = some oj) (hdj : oj.dst = some dj)
    (hv : a.tmps[dj]? = some (cond b1 undef (.bool b2))) (hr : b1 = false → b2 = true → (execOp a.eval o).run P w = .ok (.value v) w)
    (h : wpList P ops Q rest (a.put (some d) (cond b1 undef (cond b2 (v) undef))) w) : wpList P ops Q (o :: rest) a w := by
  cases b1 with
  | false => exact mg_t hg hd hoj hdj hv (hr rfl) h
  | true => exact wpList_skip (by simp [Region.wanted, hg, yielded, hoj, hdj, hv, undef]) (by rw [hd]; exact h)
theorem mg_ff {j d dj : Nat} {oj : Oper} {b1 b2 : Bool} {v : Value} (hg : o.guard = some (j, false)) (hd : o.dst = some d) (hoj : ops[j]? = some oj) (hdj : oj.dst = some dj)
    (hv : a.tmps[dj]? = some (cond b1 undef (.bool b2))) (hr : b1 = false → b2 = false → (execOp a.eval o).run P w = .ok (.value v) w)
    (h : wpList P ops Q rest (a.put (some d) (cond b1 undef (cond b2 undef (v)))) w) : wpList P ops Q (o :: rest) a w := by
  cases b1 with
  | false => exact mg_f hg hd hoj hdj hv (hr rfl) h
  | true => exact wpList_skip (by simp [Region.wanted, hg, yielded, hoj, hdj, hv, undef]) (by rw [hd]; exact h)
theorem mg_ttt {j d dj : Nat} {oj : Oper} {b1 b2 b3 : Bool} {v : Value} (hg : o.guard = some (j, true)) (hd : o.dst = some d) (hoj : ops[j]? = some oj) (hdj : oj.dst = some dj)
    (hv : a.tmps[dj]? = some (cond b1 (cond b2 (.bool b3) undef) undef)) (hr : b1 = true → b2 = true → b3 = true → (execOp a.eval o).run P w = .ok (.value v) w)
    (h : wpList P ops Q rest (a.put (some d) (cond b1 (cond b2 (cond b3 (v) undef) undef) undef)) w) : wpList P ops Q (o :: rest) a w := by
  cases b1 with
  | true => exact mg_tt hg hd hoj hdj hv (hr rfl) h
  | false => exact wpList_skip (by simp [Region.wanted, hg, yielded, hoj, hdj, hv, undef]) (by rw [hd]; exact h)
theorem mg_ttf {j d dj : Nat} {oj : Oper} {b1 b2 b3 : Bool} {v : Value} (hg : o.guard = some (j, false)) (hd : o.dst = some d) (hoj : ops[j]? = some oj) (hdj : oj.dst = some dj)
    (hv : a.tmps[dj]? = some (cond b1 (cond b2 (.bool b3) undef) undef)) (hr : b1 = true → b2 = true → b3 = false → (execOp a.eval o).run P w = .ok (.value v) w)
    (h : wpList P ops Q rest (a.put (some d) (cond b1 (cond b2 (cond b3 undef (v)) undef) undef)) w) : wpList P ops Q (o :: rest) a w := by
  cases b1 with
  | true => exact mg_tf hg hd hoj hdj hv (hr rfl) h
  | false => exact wpList_skip (by simp [Region.wanted, hg, yielded, hoj, hdj, hv, undef]) (by rw [hd]; exact h)
theorem mg_tft {j d dj : Nat} {oj : Oper} {b1 b2 b3 : Bool} {v : Value} (hg : o.guard = some (j, true)) (hd : o.dst = some d) (hoj : ops[j]? = some oj) (hdj : oj.dst = some dj)
    (hv : a.tmps[dj]? = some (cond b1 (cond b2 undef (.bool b3)) undef)) (hr : b1 = true → b2 = false → b3 = true → (execOp a.eval o).run P w = .ok (.value v) w)
    (h : wpList P ops Q rest (a.put (some d) (cond b1 (cond b2 undef (cond b3 (v) undef)) undef)) w) : wpList P ops Q (o :: rest) a w := by
  cases b1 with
  | true => exact mg_ft hg hd hoj hdj hv (hr rfl) h
  | false => exact wpList_skip (by simp [Region.wanted, hg, yielded, hoj, hdj, hv, undef]) (by rw [hd]; exact h)
theorem mg_tff {j d dj : Nat} {oj : Oper} {b1 b2 b3 : Bool} {v : Value} (hg : o.guard = some (j, false)) (hd : o.dst = some d) (hoj : ops[j]? = some oj) (hdj : oj.dst = some dj)
    (hv : a.tmps[dj]? = some (cond b1 (cond b2 undef (.bool b3)) undef)) (hr : b1 = true → b2 = false → b3 = false → (execOp a.eval o).run P w = .ok (.value v) w)
    (h : wpList P ops Q rest (a.put (some d) (cond b1 (cond b2 undef (cond b3 undef (v))) undef)) w) : wpList P ops Q (o :: rest) a w := by
  cases b1 with
  | true => exact mg_ff hg hd hoj hdj hv (hr rfl) h
  | false => exact wpList_skip (by simp [Region.wanted, hg, yielded, hoj, hdj, hv, undef]) (by rw [hd]; exact h)
theorem mg_ftt {j d dj : Nat} {oj : Oper} {b1 b2 b3 : Bool} {v : Value} (hg : o.guard = some (j, true)) (hd : o.dst = some d) (hoj : ops[j]? = some oj) (hdj : oj.dst = some dj)
    (hv : a.tmps[dj]? = some (cond b1 undef (cond b2 (.bool b3) undef))) (hr : b1 = false → b2 = true → b3 = true → (execOp a.eval o).run P w = .ok (.value v) w)
    (h : wpList P ops Q rest (a.put (some d) (cond b1 undef (cond b2 (cond b3 (v) undef) undef))) w) : wpList P ops Q (o :: rest) a w := by
  cases b1 with
  | false => exact mg_tt hg hd hoj hdj hv (hr rfl) h
  | true => exact wpList_skip (by simp [Region.wanted, hg, yielded, hoj, hdj, hv, undef]) (by rw [hd]; exact h)
theorem mg_ftf {j d dj : Nat} {oj : Oper} {b1 b2 b3 : Bool} {v : Value} (hg : o.guard = some (j, false)) (hd : o.dst = some d) (hoj : ops[j]? = some oj) (hdj : oj.dst = some dj)
    (hv : a.tmps[dj]? = some (cond b1 undef (cond b2 (.bool b3) undef))) (hr : b1 = false → b2 = true → b3 = false → (execOp a.eval o).run P w = .ok (.value v) w)
    (h : wpList P ops Q rest (a.put (some d) (cond b1 undef (cond b2 (cond b3 undef (v)) undef))) w) : wpList P ops Q (o :: rest) a w := by
  cases b1 with
  | false => exact mg_tf hg hd hoj hdj hv (hr rfl) h
  | true => exact wpList_skip (by simp [Region.wanted, hg, yielded, hoj, hdj, hv, undef]) (by rw [hd]; exact h)
theorem mg_fft {j d dj : Nat} {oj : Oper} {b1 b2 b3 : Bool} {v : Value} (hg : o.guard = some (j, true)) (hd : o.dst = some d) (hoj : ops[j]? = some oj) (hdj : oj.dst = some dj)
    (hv : a.tmps[dj]? = some (cond b1 undef (cond b2 undef (.bool b3)))) (hr : b1 = false → b2 = false → b3 = true → (execOp a.eval o).run P w = .ok (.value v) w)
    (h : wpList P ops Q rest (a.put (some d) (cond b1 undef (cond b2 undef (cond b3 (v) undef)))) w) : wpList P ops Q (o :: rest) a w := by
  cases b1 with
  | false => exact mg_ft hg hd hoj hdj hv (hr rfl) h
  | true => exact wpList_skip (by simp [Region.wanted, hg, yielded, hoj, hdj, hv, undef]) (by rw [hd]; exact h)
theorem mg_fff {j d dj : Nat} {oj : Oper} {b1 b2 b3 : Bool} {v : Value} (hg : o.guard = some (j, false)) (hd : o.dst = some d) (hoj : ops[j]? = some oj) (hdj : oj.dst = some dj)
    (hv : a.tmps[dj]? = some (cond b1 undef (cond b2 undef (.bool b3)))) (hr : b1 = false → b2 = false → b3 = false → (execOp a.eval o).run P w = .ok (.value v) w)
    (h : wpList P ops Q rest (a.put (some d) (cond b1 undef (cond b2 undef (cond b3 undef (v))))) w) : wpList P ops Q (o :: rest) a w := by
  cases b1 with
  | false => exact mg_ff hg hd hoj hdj hv (hr rfl) h
  | true => exact wpList_skip (by simp [Region.wanted, hg, yielded, hoj, hdj, hv, undef]) (by rw [hd]; exact h)
theorem mgc_t {j d dj : Nat} {oj : Oper} {b1 e : Bool} (_ : isCmp o.op = true) (hg : o.guard = some (j, true)) (hd : o.dst = some d) (hoj : ops[j]? = some oj) (hdj : oj.dst = some dj)
    (hv : a.tmps[dj]? = some (.bool b1)) (hr : b1 = true → (execOp a.eval o).run P w = .ok (.value (.bool e)) w)
    (h : ∀ x, Hid (x = e) → wpList P ops Q rest (a.put (some d) (cond b1 (.bool x) undef)) w) : wpList P ops Q (o :: rest) a w := 
  mg_t hg hd hoj hdj hv hr (h e rfl)
theorem mgc_f {j d dj : Nat} {oj : Oper} {b1 e : Bool} (_ : isCmp o.op = true) (hg : o.guard = some (j, false)) (hd : o.dst = some d) (hoj : ops[j]? = some oj) (hdj : oj.dst = some dj)
    (hv : a.tmps[dj]? = some (.bool b1)) (hr : b1 = false → (execOp a.eval o).run P w = .ok (.value (.bool e)) w)
    (h : ∀ x, Hid (x = e) → wpList P ops Q rest (a.put (some d) (cond b1 undef (.bool x))) w) : wpList P ops Q (o :: rest) a w := 
  mg_f hg hd hoj hdj hv hr (h e rfl)
theorem mgc_tt {j d dj : Nat} {oj : Oper} {b1 b2 e : Bool} (_ : isCmp o.op = true) (hg : o.guard = some (j, true)) (hd : o.dst = some d) (hoj : ops[j]? = some oj) (hdj : oj.dst = some dj)
    (hv : a.tmps[dj]? = some (cond b1 (.bool b2) undef)) (hr : b1 = true → b2 = true → (execOp a.eval o).run P w = .ok (.value (.bool e)) w)
    (h : ∀ x, Hid (x = e) → wpList P ops Q rest (a.put (some d) (cond b1 (cond b2 (.bool x) undef) undef)) w) : wpList P ops Q (o :: rest) a w := 
  mg_tt hg hd hoj hdj hv hr (h e rfl)
theorem mgc_tf {j d dj : Nat} {oj : Oper} {b1 b2 e : Bool} (_ : isCmp o.op = true) (hg : o.guard = some (j, false)) (hd : o.dst = some d) (hoj : ops[j]? = some oj) (hdj : oj.dst = some dj)
    (hv : a.tmps[dj]? = some (cond b1 (.bool b2) undef)) (hr : b1 = true → b2 = false → (execOp a.eval o).run P w = .ok (.value (.bool e)) w)
    (h : ∀ x, Hid (x = e) → wpList P ops Q rest (a.put (some d) (cond b1 (cond b2 undef (.bool x)) undef)) w) : wpList P ops Q (o :: rest) a w := 
  mg_tf hg hd hoj hdj hv hr (h e rfl)
theorem mgc_ft {j d dj : Nat} {oj : Oper} {b1 b2 e : Bool} (_ : isCmp o.op = true) (hg : o.guard = some (j, true)) (hd : o.dst = some d) (hoj : ops[j]? = some oj) (hdj : oj.dst = some dj)
    (hv : a.tmps[dj]? = some (cond b1 undef (.bool b2))) (hr : b1 = false → b2 = true → (execOp a.eval o).run P w = .ok (.value (.bool e)) w)
    (h : ∀ x, Hid (x = e) → wpList P ops Q rest (a.put (some d) (cond b1 undef (cond b2 (.bool x) undef))) w) : wpList P ops Q (o :: rest) a w := 
  mg_ft hg hd hoj hdj hv hr (h e rfl)
theorem mgc_ff {j d dj : Nat} {oj : Oper} {b1 b2 e : Bool} (_ : isCmp o.op = true) (hg : o.guard = some (j, false)) (hd : o.dst = some d) (hoj : ops[j]? = some oj) (hdj : oj.dst = some dj)
    (hv : a.tmps[dj]? = some (cond b1 undef (.bool b2))) (hr : b1 = false → b2 = false → (execOp a.eval o).run P w = .ok (.value (.bool e)) w)
    (h : ∀ x, Hid (x = e) → wpList P ops Q rest (a.put (some d) (cond b1 undef (cond b2 undef (.bool x)))) w) : wpList P ops Q (o :: rest) a w := 
  mg_ff hg hd hoj hdj hv hr (h e rfl)
theorem mgc_ttt {j d dj : Nat} {oj : Oper} {b1 b2 b3 e : Bool} (_ : isCmp o.op = true) (hg : o.guard = some (j, true)) (hd : o.dst = some d) (hoj : ops[j]? = some oj) (hdj : oj.dst = some dj)
    (hv : a.tmps[dj]? = some (cond b1 (cond b2 (.bool b3) undef) undef)) (hr : b1 = true → b2 = true → b3 = true → (execOp a.eval o).run P w = .ok (.value (.bool e)) w)
    (h : ∀ x, Hid (x = e) → wpList P ops Q rest (a.put (some d) (cond b1 (cond b2 (cond b3 (.bool x) undef) undef) undef)) w) : wpList P ops Q (o :: rest) a w := 
  mg_ttt hg hd hoj hdj hv hr (h e rfl)
theorem mgc_ttf {j d dj : Nat} {oj : Oper} {b1 b2 b3 e : Bool} (_ : isCmp o.op = true) (hg : o.guard = some (j, false)) (hd : o.dst = some d) (hoj : ops[j]? = some oj) (hdj : oj.dst = some dj)
    (hv : a.tmps[dj]? = some (cond b1 (cond b2 (.bool b3) undef) undef)) (hr : b1 = true → b2 = true → b3 = false → (execOp a.eval o).run P w = .ok (.value (.bool e)) w)
    (h : ∀ x, Hid (x = e) → wpList P ops Q rest (a.put (some d) (cond b1 (cond b2 (cond b3 undef (.bool x)) undef) undef)) w) : wpList P ops Q (o :: rest) a w := 
  mg_ttf hg hd hoj hdj hv hr (h e rfl)
theorem mgc_tft {j d dj : Nat} {oj : Oper} {b1 b2 b3 e : Bool} (_ : isCmp o.op = true) (hg : o.guard = some (j, true)) (hd : o.dst = some d) (hoj : ops[j]? = some oj) (hdj : oj.dst = some dj)
    (hv : a.tmps[dj]? = some (cond b1 (cond b2 undef (.bool b3)) undef)) (hr : b1 = true → b2 = false → b3 = true → (execOp a.eval o).run P w = .ok (.value (.bool e)) w)
    (h : ∀ x, Hid (x = e) → wpList P ops Q rest (a.put (some d) (cond b1 (cond b2 undef (cond b3 (.bool x) undef)) undef)) w) : wpList P ops Q (o :: rest) a w := 
  mg_tft hg hd hoj hdj hv hr (h e rfl)
theorem mgc_tff {j d dj : Nat} {oj : Oper} {b1 b2 b3 e : Bool} (_ : isCmp o.op = true) (hg : o.guard = some (j, false)) (hd : o.dst = some d) (hoj : ops[j]? = some oj) (hdj : oj.dst = some dj)
    (hv : a.tmps[dj]? = some (cond b1 (cond b2 undef (.bool b3)) undef)) (hr : b1 = true → b2 = false → b3 = false → (execOp a.eval o).run P w = .ok (.value (.bool e)) w)
    (h : ∀ x, Hid (x = e) → wpList P ops Q rest (a.put (some d) (cond b1 (cond b2 undef (cond b3 undef (.bool x))) undef)) w) : wpList P ops Q (o :: rest) a w := 
  mg_tff hg hd hoj hdj hv hr (h e rfl)
theorem mgc_ftt {j d dj : Nat} {oj : Oper} {b1 b2 b3 e : Bool} (_ : isCmp o.op = true) (hg : o.guard = some (j, true)) (hd : o.dst = some d) (hoj : ops[j]? = some oj) (hdj : oj.dst = some dj)
    (hv : a.tmps[dj]? = some (cond b1 undef (cond b2 (.bool b3) undef))) (hr : b1 = false → b2 = true → b3 = true → (execOp a.eval o).run P w = .ok (.value (.bool e)) w)
    (h : ∀ x, Hid (x = e) → wpList P ops Q rest (a.put (some d) (cond b1 undef (cond b2 (cond b3 (.bool x) undef) undef))) w) : wpList P ops Q (o :: rest) a w := 
  mg_ftt hg hd hoj hdj hv hr (h e rfl)
theorem mgc_ftf {j d dj : Nat} {oj : Oper} {b1 b2 b3 e : Bool} (_ : isCmp o.op = true) (hg : o.guard = some (j, false)) (hd : o.dst = some d) (hoj : ops[j]? = some oj) (hdj : oj.dst = some dj)
    (hv : a.tmps[dj]? = some (cond b1 undef (cond b2 (.bool b3) undef))) (hr : b1 = false → b2 = true → b3 = false → (execOp a.eval o).run P w = .ok (.value (.bool e)) w)
    (h : ∀ x, Hid (x = e) → wpList P ops Q rest (a.put (some d) (cond b1 undef (cond b2 (cond b3 undef (.bool x)) undef))) w) : wpList P ops Q (o :: rest) a w := 
  mg_ftf hg hd hoj hdj hv hr (h e rfl)
theorem mgc_fft {j d dj : Nat} {oj : Oper} {b1 b2 b3 e : Bool} (_ : isCmp o.op = true) (hg : o.guard = some (j, true)) (hd : o.dst = some d) (hoj : ops[j]? = some oj) (hdj : oj.dst = some dj)
    (hv : a.tmps[dj]? = some (cond b1 undef (cond b2 undef (.bool b3)))) (hr : b1 = false → b2 = false → b3 = true → (execOp a.eval o).run P w = .ok (.value (.bool e)) w)
    (h : ∀ x, Hid (x = e) → wpList P ops Q rest (a.put (some d) (cond b1 undef (cond b2 undef (cond b3 (.bool x) undef)))) w) : wpList P ops Q (o :: rest) a w := 
  mg_fft hg hd hoj hdj hv hr (h e rfl)
theorem mgc_fff {j d dj : Nat} {oj : Oper} {b1 b2 b3 e : Bool} (_ : isCmp o.op = true) (hg : o.guard = some (j, false)) (hd : o.dst = some d) (hoj : ops[j]? = some oj) (hdj : oj.dst = some dj)
    (hv : a.tmps[dj]? = some (cond b1 undef (cond b2 undef (.bool b3)))) (hr : b1 = false → b2 = false → b3 = false → (execOp a.eval o).run P w = .ok (.value (.bool e)) w)
    (h : ∀ x, Hid (x = e) → wpList P ops Q rest (a.put (some d) (cond b1 undef (cond b2 undef (cond b3 undef (.bool x))))) w) : wpList P ops Q (o :: rest) a w := 
  mg_fff hg hd hoj hdj hv hr (h e rfl)
theorem ret_bool {a b : Bool} (h : a = b) : Ending.returned (.bool a) = .returned (.bool b) := by rw [h]
theorem ret_int {k : IntKind} {a b : Int} (h : a = b) : Ending.returned (.int k a) = .returned (.int k b) := by rw [h]
theorem ret_str {a b : ByteArray} (h : a = b) : Ending.returned (.string a) = .returned (.string b) := by rw [h]

/-- A comparison that is not guarded: its answer under a name of its own. -/
theorem mg_cmp {d : Nat} {e : Bool} (_ : isCmp o.op = true) (hg : o.guard = none) (hd : o.dst = some d) (hr : (execOp a.eval o).run P w = .ok (.value (.bool e)) w)
    (h : ∀ b, Hid (b = e) → wpList P ops Q rest (a.put (some d) (.bool b)) w) : wpList P ops Q (o :: rest) a w :=
  mg_step (by simp [Region.wanted, hg]) hr (by rw [hd]; exact h e rfl)
/-- What 'pick' gives behind '&&', behind '||'. -/
theorem run_pick_and {ρ : Operand → Value} {c x y : Operand} {p u v : Bool} {z : Value} (ho : o.op = .pick c x y) (hc : ρ c = .bool p) (hx : ρ x = cond p (.bool u) z) (hy : ρ y = .bool v) :
    (execOp ρ o).run P w = .ok (.value (.bool (cond p u v))) w := by
  unfold execOp
  rw [ho]
  simp only [hc, hx, hy]
  cases p <;> simp [asBool]
theorem run_pick_or {ρ : Operand → Value} {c x y : Operand} {p u v : Bool} {z : Value} (ho : o.op = .pick c x y) (hc : ρ c = .bool p) (hx : ρ x = .bool u) (hy : ρ y = cond p z (.bool v)) :
    (execOp ρ o).run P w = .ok (.value (.bool (cond p u v))) w := by
  unfold execOp
  rw [ho]
  simp only [hc, hx, hy]
  cases p <;> simp [asBool]
theorem run_pick_bool {ρ : Operand → Value} {c x y : Operand} {p u v : Bool} (ho : o.op = .pick c x y) (hc : ρ c = .bool p) (hx : ρ x = .bool u) (hy : ρ y = .bool v) :
    (execOp ρ o).run P w = .ok (.value (.bool (cond p u v))) w := by
  unfold execOp
  rw [ho]
  simp only [hc, hx, hy]
  cases p <;> simp [asBool]
theorem mg_pick_and {d : Nat} {c x y : Operand} {p u v : Bool} {z : Value} (ho : o.op = .pick c x y) (hg : o.guard = none) (hd : o.dst = some d) (hc : a.eval c = .bool p)
    (hx : a.eval x = cond p (.bool u) z) (hy : a.eval y = .bool v) (h : ∀ q, Hid (q = cond p u v) → wpList P ops Q rest (a.put (some d) (.bool q)) w) : wpList P ops Q (o :: rest) a w :=
  mg_step (by simp [Region.wanted, hg]) (run_pick_and ho hc hx hy) (by rw [hd]; exact h _ rfl)
theorem mg_pick_or {d : Nat} {c x y : Operand} {p u v : Bool} {z : Value} (ho : o.op = .pick c x y) (hg : o.guard = none) (hd : o.dst = some d) (hc : a.eval c = .bool p)
    (hx : a.eval x = .bool u) (hy : a.eval y = cond p z (.bool v)) (h : ∀ q, Hid (q = cond p u v) → wpList P ops Q rest (a.put (some d) (.bool q)) w) : wpList P ops Q (o :: rest) a w :=
  mg_step (by simp [Region.wanted, hg]) (run_pick_or ho hc hx hy) (by rw [hd]; exact h _ rfl)
theorem mg_pick_true {d : Nat} {c x y : Operand} (ho : o.op = .pick c x y) (hg : o.guard = none) (hd : o.dst = some d) (hc : a.eval c = .bool true)
    (h : wpList P ops Q rest (a.put (some d) (a.eval x)) w) : wpList P ops Q (o :: rest) a w :=
  mg_step (by simp [Region.wanted, hg]) (by unfold execOp; rw [ho]; simp [hc, asBool]; rfl) (by rw [hd]; exact h)
theorem mg_pick_false {d : Nat} {c x y : Operand} (ho : o.op = .pick c x y) (hg : o.guard = none) (hd : o.dst = some d) (hc : a.eval c = .bool false)
    (h : wpList P ops Q rest (a.put (some d) (a.eval y)) w) : wpList P ops Q (o :: rest) a w :=
  mg_step (by simp [Region.wanted, hg]) (by unfold execOp; rw [ho]; simp [hc, asBool]; rfl) (by rw [hd]; exact h)
/-- A byte of a string, by its place. -/
def bAt (s : ByteArray) (i : Int) : Int := ((s.data.toList.getD i.toNat 0).toNat : Int)
theorem bAt_eq (s : ByteArray) (k : Nat) (h : k < s.size) : bAt s (k : Int) = (s[k].toNat : Int) := by
  have e : s.data.toList[k]? = some s[k] := by
    rw [List.getElem?_eq_getElem (by exact h)]; rfl
  simp [bAt, List.getD_eq_getElem?_getD, e]
theorem run_index_str {ρ : Operand → Value} {T : TypeId} {x y : Operand} {s : ByteArray} {i : Int} (ho : o.op = .index T x y) (hT : P.underlying T = some .string)
    (hx : ρ x = .string s) (hy : ρ y = .int .i64 i) (h0 : 0 ≤ i) (h1 : i < s.size) : (execOp ρ o).run P w = .ok (.value (.int .u8 (bAt s i))) w := by
  obtain ⟨k, rfl⟩ := Int.eq_ofNat_of_zero_le h0
  have hk : k < s.size := by omega
  rw [bAt_eq s k hk]
  unfold execOp
  rw [ho]
  simp only [hx, hy]
  simp [run_index_string w T s .i64 (k : Int) hT, hk]
end
@[go_sem] theorem mg_and (b x y : Bool) (u : Value) : (if b = true then cond b (Value.bool x) u else Value.bool y) = Value.bool (cond b x y) := by cases b <;> rfl
@[go_sem] theorem mg_or (b x y : Bool) (u : Value) : (if b = true then Value.bool y else cond b u (Value.bool x)) = Value.bool (cond b y x) := by cases b <;> rfl
end Go.Proofs.YticcfbeocepnpaaGreatDoor
