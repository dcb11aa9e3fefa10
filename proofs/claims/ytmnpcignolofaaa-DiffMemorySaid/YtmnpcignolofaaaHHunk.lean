/- diff's hunks: what changes on a way; diff.Hunks. -/
import Derived.Test.YtmnpcignolofaaaHPts
namespace Go.Proofs.Ytmnpcignolofaaa
set_option linter.unusedVariables false
set_option linter.unusedSimpArgs false
open Go.RowKit Go.Proofs.YtmnpcignolofaaaW.PrintWords Go.Proofs.YtmnpcignolofaaaW.PrintMore
/-- The hunks behind a point p; 'o': where an open one began. -/
def hk : Option Pn → Pn → List Pn → List (Pn × Pn)
  | o, p, [] => (match o with | none => [] | some f => [(f, p)])
  | o, p, q :: r => if q = (p.1 + 1, p.2 + 1) then (match o with | none => hk none q r | some f => (f, p) :: hk none q r) else hk (some (o.getD p)) q r
def hks (a b : List ByteArray) : List (Pn × Pn) := hk none (0, 0) (wayW a b 0 0)
/-- The hunks behind the i-th point. -/
def hkAt (w : List Pn) (o : Option Pn) (i : Nat) : List (Pn × Pn) := hk o (w.getD i (0, 0)) (w.drop (i + 1))
theorem hkAt_0 (a b : List ByteArray) : hkAt (wayP a b) none 0 = hks a b := rfl
theorem hkAt_end {w : List Pn} {i : Nat} (o : Option Pn) (h : w.length = i + 1) : hkAt w o i = (match o with | none => [] | some f => [(f, w.getD i (0, 0))]) := by
  unfold hkAt
  rw [List.drop_of_length_le (by omega)]
  cases o <;> rfl
theorem hkAt_go {a b : List ByteArray} {w : List Pn} {i x y dx dy : Nat} (o : Option Pn) (h : i + 1 < w.length) (t : Two a b w i x y dx dy) :
    hkAt w o i = if dx = 1 ∧ dy = 1 then (match o with | none => hkAt w none (i + 1) | some f => (f, w.getD i (0, 0)) :: hkAt w none (i + 1)) else hkAt w (some (o.getD (w.getD i (0, 0)))) (i + 1) := by
  have e : w.drop (i + 1) = w.getD (i + 1) (0, 0) :: w.drop (i + 1 + 1) := by
    rw [List.drop_eq_getElem_cons h]
    simp [List.getD_eq_getElem?_getD, List.getElem?_eq_getElem h]
  conv => lhs; unfold hkAt
  rw [e]
  have hd1 := t.d1
  have hd2 := t.d2
  have c : (w.getD (i + 1) (0, 0) = ((w.getD i (0, 0)).1 + 1, (w.getD i (0, 0)).2 + 1)) ↔ (dx = 1 ∧ dy = 1) := by
    rw [t.q, t.p, Prod.mk.injEq]
    constructor
    · intro h; simp only at h; omega
    · rintro ⟨rfl, rfl⟩; exact ⟨rfl, rfl⟩
  rw [hk.eq_def]
  dsimp only
  by_cases hc : dx = 1 ∧ dy = 1
  · rw [if_pos (c.2 hc), if_pos hc]
    rfl
  · rw [if_neg (fun e => hc (c.1 e)), if_neg hc]
    rfl
theorem infoR : (Try.prog.info? 62).map (fun i => (i.zero, i.size, i.bytes)) = some (some (.agg #[.complex .f64 0 0, .complex .f64 0 0]), 2, 32) := by kernel_rfl
end Go.Proofs.Ytmnpcignolofaaa
