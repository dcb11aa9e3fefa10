/- codicilref08.take, place: a delta under way. -/
import Derived.Test.YtiocipmnmjpkfaaHApply
import Derived.Deep.QuietTactic
import Derived.BigQuiet
namespace Go.Proofs.Ytiocipmnmjpkfaa
set_option linter.unusedVariables false
set_option linter.unusedSimpArgs false
open Go.RowKit Go.Proofs.YtiocipmnmjpkfaaW.PrintWords Go.Proofs.YtiocipmnmjpkfaaW.PrintMore

/-- A delta under way at block g: its bytes, where it is read, what has come out, what was met. -/
def Tl (W : World) (g : Nat) (dv : Value) (at_ : Int) (ov : Value) (e : Int) : Prop := W.heap[g]? = some (.cells #[dv, .int .i64 at_, ov, .int .i64 e] 64 (0, 0))
theorem Tl.c0 {W : World} {g : Nat} {dv ov : Value} {a e : Int} (h : Tl W g dv a ov e) : W.cell? ⟨g, 0, none⟩ = some dv := (blk_cell h 0).trans rfl
theorem Tl.c1 {W : World} {g : Nat} {dv ov : Value} {a e : Int} (h : Tl W g dv a ov e) : W.cell? ⟨g, 1, none⟩ = some (.int .i64 a) := (blk_cell h 1).trans rfl
theorem Tl.c2 {W : World} {g : Nat} {dv ov : Value} {a e : Int} (h : Tl W g dv a ov e) : W.cell? ⟨g, 2, none⟩ = some ov := (blk_cell h 2).trans rfl
theorem Tl.c3 {W : World} {g : Nat} {dv ov : Value} {a e : Int} (h : Tl W g dv a ov e) : W.cell? ⟨g, 3, none⟩ = some (.int .i64 e) := (blk_cell h 3).trans rfl
theorem Tl.f {W : World} {g : Nat} {dv ov : Value} {a e : Int} (h : Tl W g dv a ov e) (j : Nat) : W.frozen? ⟨g, j, none⟩ = false := blk_frozen h j
theorem Tl.set1 {W : World} {g : Nat} {dv ov : Value} {a e : Int} (h : Tl W g dv a ov e) (x : Int) : Tl (W.setCell ⟨g, 1, none⟩ (.int .i64 x)) g dv x ov e := blk_set h 1 _
theorem Tl.set2 {W : World} {g : Nat} {dv ov : Value} {a e : Int} (h : Tl W g dv a ov e) (x : Value) : Tl (W.setCell ⟨g, 2, none⟩ x) g dv a x e := blk_set h 2 _
theorem Tl.set3 {W : World} {g : Nat} {dv ov : Value} {a e : Int} (h : Tl W g dv a ov e) (x : Int) : Tl (W.setCell ⟨g, 3, none⟩ (.int .i64 x)) g dv a ov x := blk_set h 3 _
theorem Tl.drewN {W : World} {g : Nat} {dv ov : Value} {a e : Int} (h : Tl W g dv a ov e) (n : Nat) : Tl (W.drewN n) g dv a ov e := h
/-- W' is W but for the block g. -/
structure OnlyG (g : Nat) (W W' : World) : Prop where
  os : W'.os = W.os
  tape : W'.tape = W.tape
  output : W'.output = W.output
  size : W'.heap.size = W.heap.size
  keep : ∀ i, i ≠ g → W'.heap[i]? = W.heap[i]?
theorem OnlyG.refl (g : Nat) (W : World) : OnlyG g W W := ⟨rfl, rfl, rfl, rfl, fun _ _ => rfl⟩
theorem OnlyG.trans {g : Nat} {W W1 W2 : World} (h : OnlyG g W W1) (k : OnlyG g W1 W2) : OnlyG g W W2 :=
  ⟨k.os.trans h.os, k.tape.trans h.tape, k.output.trans h.output, k.size.trans h.size, fun i hi => (k.keep i hi).trans (h.keep i hi)⟩
theorem OnlyG.set {g : Nat} {W W1 : World} (h : OnlyG g W W1) (j : Nat) (u : Value) : OnlyG g W (W1.setCell ⟨g, j, none⟩ u) :=
  ⟨h.os, h.tape, h.output, (by simp [World.setCell]; exact h.size), fun i hi => (Below.heap_setCell W1 ⟨g, j, none⟩ u i hi).trans (h.keep i hi)⟩
theorem OnlyG.drewN {g : Nat} {W W1 : World} (h : OnlyG g W W1) (n : Nat) : OnlyG g W (W1.drewN n) := ⟨h.os, h.tape, h.output, h.size, h.keep⟩
theorem OnlyG.below {g B : Nat} {W W' : World} (h : OnlyG g W W') (hB : B ≤ g) : Below B W W' := ⟨h.os, h.tape, h.output, Nat.le_of_eq h.size.symm, fun i hi => h.keep i (by omega)⟩
/-- take: the byte, and what the delta under way is then. -/
def tk (l : List Int) (n : Nat) (e : Int) : Int × Nat × Int := if e = 0 then (if n < l.length then (l.getD n 0, n + 1, 0) else (0, n, 5)) else (0, n, e)
set_option maxHeartbeats 2000000 in
theorem take_calls (w0 W : World) (g : Nat) (A : Option Addr) (c : Nat) (l : List Int) (n : Nat) (ov : Value) (e : Int) (hT : Tl W g (.slice A l.length c) n ov e) (hB : Below w0.heap.size w0 W) (hg : w0.heap.size ≤ g)
    (hl : ReadsInt w0 .u8 A l.length l) (hm : l.length ≤ 1099511627776) (hn : n ≤ l.length) (hby : ∀ x ∈ l, 0 ≤ x ∧ x < 256) :
    Calls Try.prog 64 #[.pointer (some ⟨g, 0, none⟩)] W fun en W' => en = .returned (.int .i64 (tk l n e).1) ∧ OnlyG g W W' ∧ Tl W' g (.slice A l.length c) ((tk l n e).2.1 : Nat) ov (tk l n e).2.2 := by
  have h0 := hT.c0
  have h1 := hT.c1
  have h3 := hT.c3
  have f1 := hT.f 1
  have f3 := hT.f 3
  have HT := Lib.hid hT
  clear hT
  by_cases he : e = 0
  · subst he
    by_cases hlt : n < l.length
    · have htk : tk l n 0 = (l.getD n 0, n + 1, 0) := by simp [tk, hlt]
      rw [htk]
      obtain ⟨ad, rfl, hcell⟩ := hl.2.2 (by omega)
      have hb : 0 ≤ l.getD n 0 ∧ l.getD n 0 < 256 := by
        rw [show l.getD n 0 = l[n] from by simp [hlt]]
        exact hby _ (List.getElem_mem hlt)
      have hc := hcell n hlt
      have hne : ad.block ≠ g := Nat.ne_of_lt (Nat.lt_of_lt_of_le (by have := World.block_lt_of_cell? _ _ hc; rwa [add_block] at this) hg)
      have hc2 := pw_cell_below hB hc
      have hx := (cell_far (W := W) (p := ⟨g, 1, none⟩) (by show (Addr.add _ _).block ≠ _; rw [add_block]; exact hne) (.int .i64 ((n : Int) + 1))).trans hc2
      have hy := fun (m : Nat) => (show ((W.drewN m).setCell ⟨g, 1, none⟩ (.int .i64 ((n : Int) + 1))).cell? _ = some _ from hx)
      generalize l.getD n 0 = x at *
      clear hcell hl hc hc2 hne
      go_enter Try.func64, Try.ntmps64
      go_wp2
      repeat (go_quiet (fail); try go_wp2)
      go_ret
      exact ⟨rfl, by repeat (first | exact OnlyG.refl _ _ | apply OnlyG.drewN | apply OnlyG.set), by repeat (first | exact HT.out | apply Tl.drewN | apply Tl.set1 | apply Tl.set3)⟩
    · have htk : tk l n 0 = (0, n, 5) := by simp [tk, hlt]
      rw [htk]
      go_enter Try.func64, Try.ntmps64
      go_wp2
      repeat (go_quiet (fail); try go_wp2)
      go_ret
      exact ⟨rfl, by repeat (first | exact OnlyG.refl _ _ | apply OnlyG.drewN | apply OnlyG.set), by repeat (first | exact HT.out | apply Tl.drewN | apply Tl.set1 | apply Tl.set3)⟩
  · have htk : tk l n e = (0, n, e) := by simp [tk, he]
    rw [htk]
    clear hl
    go_enter Try.func64, Try.ntmps64
    go_wp2
    repeat (go_quiet (fail); try go_wp2)
    go_ret
    exact ⟨rfl, by repeat (first | exact OnlyG.refl _ _ | apply OnlyG.drewN | apply OnlyG.set), by repeat (first | exact HT.out | apply Tl.drewN | apply Tl.set1 | apply Tl.set3)⟩
/-- How place picks: the value, where it is read, what was met, when i bits are over. -/
theorem tk_ok (l : List Int) (n : Nat) (h : n < l.length) : tk l n 0 = (l.getD n 0, n + 1, 0) := by simp [tk, h]
theorem tk_end (l : List Int) (n : Nat) (h : ¬ n < l.length) : tk l n 0 = (0, n, 5) := by simp [tk, h]
theorem tk_err (l : List Int) (n : Nat) : tk l n 5 = (0, n, 5) := by simp [tk]
end Go.Proofs.Ytiocipmnmjpkfaa
