/- diff's hunks: what changes on a way; diff.Hunks. -/
import Derived.Test.YtanfodjjfajobaaHLong
namespace Go.Proofs.Ytanfodjjfajobaa
set_option linter.unusedVariables false
set_option linter.unusedSimpArgs false
open Go.RowKit Go.Proofs.YtanfodjjfajobaaW.PrintWords Go.Proofs.YtanfodjjfajobaaW.PrintMore
abbrev Pn := Nat × Nat
/-- The hunks behind a point p; 'o': where an open one began. -/
def hk : Option Pn → Pn → List Pn → List (Pn × Pn)
  | o, p, [] => (match o with | none => [] | some f => [(f, p)])
  | o, p, q :: r => if q = (p.1 + 1, p.2 + 1) then (match o with | none => hk none q r | some f => (f, p) :: hk none q r) else hk (some (o.getD p)) q r
def hks (a b : List ByteArray) : List (Pn × Pn) := hk none (0, 0) (wayW a b 0 0)
/-- Two points that follow. -/
structure Two (a b : List ByteArray) (w : List Pn) (i x y dx dy : Nat) : Prop where
  p : w.getD i (0, 0) = (x, y)
  q : w.getD (i + 1) (0, 0) = (x + dx, y + dy)
  st : stepD a b x y = (dx, dy)
  hx : x + dx ≤ a.length
  hy : y + dy ≤ b.length
  one : 1 ≤ dx + dy
  d1 : dx ≤ 1
  d2 : dy ≤ 1
theorem two_of (a b : List ByteArray) : ∀ (k x y i : Nat), a.length + b.length - (x + y) = k → x ≤ a.length → y ≤ b.length → i + 1 < ((x, y) :: wayW a b x y).length → ∃ u v dx dy, Two a b ((x, y) :: wayW a b x y) i u v dx dy := by
  intro k
  induction k using Nat.strongRecOn with
  | _ k ih =>
    intro x y i hk hx hy hi
    by_cases h : x = a.length ∧ y = b.length
    · rw [h.1, h.2, wayW_end] at hi
      simp at hi
    · have hin := stepD_in hx hy h
      have hgo := wayW_go hx hy h
      rcases i with _ | i
      · rw [hgo]
        exact ⟨x, y, (stepD a b x y).1, (stepD a b x y).2, ⟨rfl, rfl, rfl, hin.1, hin.2.1, hin.2.2.1, hin.2.2.2.1, hin.2.2.2.2⟩⟩
      · rw [hgo] at hi ⊢
        obtain ⟨u, v, dx, dy, t⟩ := ih _ (by omega) (x + (stepD a b x y).1) (y + (stepD a b x y).2) i rfl hin.1 hin.2.1 (by simpa using hi)
        exact ⟨u, v, dx, dy, ⟨t.p, t.q, t.st, t.hx, t.hy, t.one, t.d1, t.d2⟩⟩
theorem two_at (a b : List ByteArray) (i : Nat) (h : i + 1 < (wayP a b).length) : ∃ u v dx dy, Two a b (wayP a b) i u v dx dy := two_of a b _ 0 0 i rfl (by omega) (by omega) h
theorem wayP_len (a b : List ByteArray) : 1 ≤ (wayP a b).length ∧ (wayP a b).length ≤ a.length + b.length + 1 := by
  have h := way_len a b _ 0 0 rfl (by omega) (by omega)
  unfold wayP
  simp only [List.length_cons]
  omega
/-- The hunks behind the i-th point. -/
def hkAt (w : List Pn) (o : Option Pn) (i : Nat) : List (Pn × Pn) := hk o (w.getD i (0, 0)) (w.drop (i + 1))
theorem hkAt_0 (a b : List ByteArray) : hkAt (wayP a b) none 0 = hks a b := rfl
theorem hkAt_end {w : List Pn} {i : Nat} (o : Option Pn) (h : w.length = i + 1) : hkAt w o i = (match o with | none => [] | some f => [(f, w.getD i (0, 0))]) := by
  unfold hkAt
  rw [List.drop_of_length_le (by omega)]
  cases o <;> rfl
theorem hkAt_go {a b : List ByteArray} {w : List Pn} {i x y dx dy : Nat} (o : Option Pn) (h : i + 1 < w.length) (t : Two a b w i x y dx dy) :
    hkAt w o i = if dx = 1 ∧ dy = 1 then (match o with | none => hkAt w none (i + 1) | some f => (f, w.getD i (0, 0)) :: hkAt w none (i + 1)) else hkAt w (some (o.getD (w.getD i (0, 0)))) (i + 1) := by
  have e : w.drop (i + 1) = w.getD (i + 1) (0, 0) :: w.drop (i + 1 + 1) := by
    rw [List.drop_eq_getElem_cons h]
    simp [List.getD_eq_getElem?_getD, List.getElem?_eq_getElem h]
  conv => lhs; unfold hkAt
  rw [e]
  have hd1 := t.d1
  have hd2 := t.d2
  have c : (w.getD (i + 1) (0, 0) = ((w.getD i (0, 0)).1 + 1, (w.getD i (0, 0)).2 + 1)) ↔ (dx = 1 ∧ dy = 1) := by
    rw [t.q, t.p, Prod.mk.injEq]
    constructor
    · intro h; simp only at h; omega
    · rintro ⟨rfl, rfl⟩; exact ⟨rfl, rfl⟩
  rw [hk.eq_def]
  dsimp only
  by_cases hc : dx = 1 ∧ dy = 1
  · rw [if_pos (c.2 hc), if_pos hc]
    rfl
  · rw [if_neg (fun e => hc (c.1 e)), if_neg hc]
    rfl
/-- The cells of hunks. -/
def hc (l : List (Pn × Pn)) : List Value := l.flatMap fun h => [pt h.1, pt h.2]
theorem hc_append (l m : List (Pn × Pn)) : hc (l ++ m) = hc l ++ hc m := by simp [hc]
theorem hc_one (p q : Pn) : hc [(p, q)] = [pt p, pt q] := rfl
theorem hc_length (l : List (Pn × Pn)) : (hc l).length = l.length * 2 := by
  induction l with
  | nil => rfl
  | cons h l ih =>
    rw [show h :: l = [h] ++ l from rfl, hc_append, List.length_append, ih, List.length_append]
    show 2 + l.length * 2 = (1 + l.length) * 2
    omega
theorem eq_guardC (op : BinOp) (u v : Operand) (x y z t : Nat) (w : World) : (eqGuard op 30 u v (.complex .f64 x y) (.complex .f64 z t)).run Try.prog w = .ok () w := by
  cases u <;> cases v <;> cases op <;> rfl
theorem k11_11 (w : World) : (binOp .eql 30 (.complex .f64 4607182418800017408 4607182418800017408) (.complex .f64 4607182418800017408 4607182418800017408)).run Try.prog w = .ok (.bool true) w := by kernel_rfl
theorem k10_11 (w : World) : (binOp .eql 30 (.complex .f64 4607182418800017408 0) (.complex .f64 4607182418800017408 4607182418800017408)).run Try.prog w = .ok (.bool false) w := by kernel_rfl
theorem k01_11 (w : World) : (binOp .eql 30 (.complex .f64 0 4607182418800017408) (.complex .f64 4607182418800017408 4607182418800017408)).run Try.prog w = .ok (.bool false) w := by kernel_rfl
theorem k10_10 (w : World) : (binOp .eql 30 (.complex .f64 4607182418800017408 0) (.complex .f64 4607182418800017408 0)).run Try.prog w = .ok (.bool true) w := by kernel_rfl
theorem k01_10 (w : World) : (binOp .eql 30 (.complex .f64 0 4607182418800017408) (.complex .f64 4607182418800017408 0)).run Try.prog w = .ok (.bool false) w := by kernel_rfl
theorem n11_11 (w : World) : (binOp .neq 30 (.complex .f64 4607182418800017408 4607182418800017408) (.complex .f64 4607182418800017408 4607182418800017408)).run Try.prog w = .ok (.bool false) w := by kernel_rfl
theorem n10_11 (w : World) : (binOp .neq 30 (.complex .f64 4607182418800017408 0) (.complex .f64 4607182418800017408 4607182418800017408)).run Try.prog w = .ok (.bool true) w := by kernel_rfl
theorem n01_11 (w : World) : (binOp .neq 30 (.complex .f64 0 4607182418800017408) (.complex .f64 4607182418800017408 4607182418800017408)).run Try.prog w = .ok (.bool true) w := by kernel_rfl
theorem infoH : (Try.prog.info? 60).map (fun i => (i.zero, i.size, i.bytes)) = some (some (.agg #[.complex .f64 0 0, .complex .f64 0 0]), 2, 32) := by kernel_rfl
theorem infoR : (Try.prog.info? 62).map (fun i => (i.zero, i.size, i.bytes)) = some (some (.agg #[.complex .f64 0 0, .complex .f64 0 0]), 2, 32) := by kernel_rfl
end Go.Proofs.Ytanfodjjfajobaa
