/- The writer of bits: what has been written is a number T of N bits; number puts n bits behind it. -/
import Derived.Test.YtkdklcamgcmifaaDoorHConst

import Derived.Test.YtkdklcamgcmifaaDoorProg
import Derived.WalkKit
import Derived.KernelRfl
import Derived.Outline
import Derived.Deep.RegionHeld3
import Derived.Deep.AppendLies
import Derived.Deep.LoopGhost
import Derived.Laws.BitsAllLaws
import Derived.Laws.BitsLemmas
namespace Go.Proofs.YtkdklcamgcmifaaDoor
set_option linter.unusedVariables false
set_option linter.unusedSimpArgs false
open Go.RowKit Go.Proofs.YtkdklcamgcmifaaDoorW.PrintWords Go.Proofs.YtkdklcamgcmifaaDoorW.PrintMore

/-- The first k bytes of T, the lowest first. -/
def leB (k T : Nat) : List Int := (List.range k).map fun i => ((T / 256 ^ i % 256 : Nat) : Int)
theorem leB_length (k T : Nat) : (leB k T).length = k := by simp [leB]
theorem leB_succ (k T : Nat) : leB (k + 1) T = leB k T ++ [((T / 256 ^ k % 256 : Nat) : Int)] := by simp [leB, List.range_succ]
theorem leB_add (k T x N : Nat) (h : 8 * k ≤ N) : leB k (T + x * 2 ^ N) = leB k T := by
  unfold leB
  apply List.map_congr_left
  intro i hi
  rw [List.mem_range] at hi
  have e : (2 : Nat) ^ N = 256 ^ i * (256 * 2 ^ (N - 8 * i - 8)) := by
    have h1 : (256 : Nat) ^ i = 2 ^ (8 * i) := by rw [show (256 : Nat) = 2 ^ 8 from rfl, ← Nat.pow_mul]
    rw [h1, show (256 : Nat) = 2 ^ 8 from rfl, ← Nat.pow_add, ← Nat.pow_add]
    congr 1
    omega
  have hp : 0 < 256 ^ i := Nat.pow_pos (by decide)
  rw [e, Nat.mul_left_comm, Nat.add_mul_div_left _ _ hp, Nat.mul_left_comm, Nat.add_mul_mod_self_left]

/-- The block of a row that stands in a state's first cell. -/
def rowOf (W : World) (g : Nat) : Option Nat := match W.heap[g]? with
  | some (.cells cs _ _) => (cs[0]?).bind Value.ownBlock
  | _ => none
theorem rowOf_eq {W : World} {g : Nat} {cs : Array Value} {t : TypeId} {m : Nat × Nat} {v : Value} (h : W.heap[g]? = some (.cells cs t m)) (h0 : cs[0]? = some v) : rowOf W g = v.ownBlock := by simp [rowOf, h, h0]
/-- W' is W but for the state g, its row, and what is new. -/
structure SF (g : Nat) (W W' : World) : Prop where
  os : W'.os = W.os
  tape : W'.tape = W.tape
  output : W'.output = W.output
  size : W.heap.size ≤ W'.heap.size
  keep : ∀ i, i < W.heap.size → i ≠ g → rowOf W g ≠ some i → W'.heap[i]? = W.heap[i]?
  row : rowOf W' g = rowOf W g ∨ ∃ b, rowOf W' g = some b ∧ W.heap.size ≤ b
theorem SF.refl (g : Nat) (W : World) : SF g W W := ⟨rfl, rfl, rfl, Nat.le_refl _, fun _ _ _ _ => rfl, .inl rfl⟩
theorem SF.trans {g : Nat} {W W1 W2 : World} (h : SF g W W1) (k : SF g W1 W2) : SF g W W2 := by
  refine ⟨k.os.trans h.os, k.tape.trans h.tape, k.output.trans h.output, Nat.le_trans h.size k.size, fun i hi hg hr => ?_, ?_⟩
  · refine (k.keep i (Nat.lt_of_lt_of_le hi h.size) hg ?_).trans (h.keep i hi hg hr)
    rcases h.row with e | ⟨b, e, hb⟩
    · rw [e]; exact hr
    · rw [e]
      intro hc
      cases hc
      omega
  · rcases k.row with e | ⟨b, e, hb⟩
    · rcases h.row with e2 | ⟨b, e2, hb⟩
      · exact .inl (e.trans e2)
      · exact .inr ⟨b, e.trans e2, hb⟩
    · exact .inr ⟨b, e, Nat.le_trans h.size hb⟩
theorem SF.below {g B : Nat} {w W W' : World} (h : SF g W W') (hb : Below B w W) (hB : B ≤ W.heap.size) (hg : B ≤ g) (hr : ∀ i, rowOf W g = some i → B ≤ i) : Below B w W' :=
  ⟨h.os.trans hb.os, h.tape.trans hb.tape, h.output.trans hb.output, Nat.le_trans hb.size h.size, fun i hi => (h.keep i (by omega) (by omega) (fun e => by have := hr i e; omega)).trans (hb.block i hi)⟩
theorem SF.put {g : Nat} {W W1 : World} (h : SF g W W1) {cs : Array Value} {t : TypeId} (hb : W1.heap[g]? = some (.cells cs t (0, 0))) (j : Nat) (u : Value)
    (hr : ((cs.setIfInBounds j u)[0]?).bind Value.ownBlock = rowOf W1 g ∨ ∃ b, ((cs.setIfInBounds j u)[0]?).bind Value.ownBlock = some b ∧ W.heap.size ≤ b) : SF g W (W1.setCell ⟨g, j, none⟩ u) := by
  have hb2 := blk_set hb j u
  have hrow : rowOf (W1.setCell ⟨g, j, none⟩ u) g = ((cs.setIfInBounds j u)[0]?).bind Value.ownBlock := by simp only [rowOf, hb2]
  refine ⟨h.os, h.tape, h.output, by simpa [World.setCell] using h.size, fun i hi hg hri => (Below.heap_setCell W1 ⟨g, j, none⟩ u i hg).trans (h.keep i hi hg hri), ?_⟩
  rw [hrow]
  rcases hr with e | e
  · rw [e]; exact h.row
  · exact .inr e
theorem SF.grow {g : Nat} {W W1 W2 : World} (h : SF g W W1) (hlt : g < W1.heap.size) (hg : W1.grownBy W2 (rowOf W1 g)) (hne : rowOf W1 g ≠ some g) : SF g W W2 := by
  have hrow : rowOf W2 g = rowOf W1 g := by
    have := hg.block g hlt (fun e => hne e.symm)
    simp only [rowOf, this]
  refine ⟨hg.os.trans h.os, hg.tape.trans h.tape, hg.output.trans h.output, Nat.le_trans h.size hg.size, fun i hi hgi hri => ?_, by rw [hrow]; exact h.row⟩
  refine (hg.block i (Nat.lt_of_lt_of_le hi h.size) fun e => ?_).trans (h.keep i hi hgi hri)
  rcases h.row with e2 | ⟨b, e2, hb⟩
  · rw [e2] at e; exact hri e.symm
  · rw [e2] at e
    cases e
    omega
theorem SF.alloc {g : Nat} {W W1 : World} (h : SF g W W1) (hlt : g < W1.heap.size) (o : Obj) : SF g W (W1.alloc o) := by
  have hrow : rowOf (W1.alloc o) g = rowOf W1 g := by
    have := Below.heap_alloc W1 o g hlt
    simp only [rowOf, this]
  refine ⟨h.os, h.tape, h.output, Nat.le_trans h.size (by simp), fun i hi hgi hri => (Below.heap_alloc W1 o i (Nat.lt_of_lt_of_le hi h.size)).trans (h.keep i hi hgi hri), by rw [hrow]; exact h.row⟩
theorem SF.drew {g : Nat} {W W1 : World} (h : SF g W W1) : SF g W W1.drew := ⟨h.os, h.tape, h.output, h.size, h.keep, h.row⟩
theorem SF.drewN {g : Nat} {W W1 : World} (h : SF g W W1) (n : Nat) : SF g W (W1.drewN n) := ⟨h.os, h.tape, h.output, h.size, h.keep, h.row⟩
/-- The writer at g: T, of N bits, has been written. -/
def Wr (base g : Nat) (W : World) (T N : Nat) : Prop := ∃ v, W.heap[g]? = some (.cells #[v, .int .u32 ((T / 2 ^ (8 * (N / 8)) : Nat) : Int), .int .i64 ((N % 8 : Nat) : Int)] 79 (0, 0)) ∧ Bs 5 W base v (leB (N / 8) T) ∧ base ≤ g ∧ T < 2 ^ N
theorem Wr.keep {base g : Nat} {W W' : World} {T N : Nat} (h : Wr base g W T N) (hg : W'.heap[g]? = W.heap[g]?) (hr : ∀ i, rowOf W g = some i → W'.heap[i]? = W.heap[i]?) : Wr base g W' T N := by
  obtain ⟨v, hb, ho, hbg, hT⟩ := h
  exact ⟨v, hg.trans hb, own_move ho fun k hk => hr k (by rw [rowOf_eq hb rfl]; exact hk), hbg, hT⟩
theorem Wr.drewN {base g : Nat} {W : World} {T N : Nat} (h : Wr base g W T N) (n : Nat) : Wr base g (W.drewN n) T N := h.keep rfl (fun _ _ => rfl)
theorem Wr.row_ge {base g : Nat} {W : World} {T N : Nat} (h : Wr base g W T N) : ∀ i, rowOf W g = some i → base ≤ i ∧ i < W.heap.size := by
  obtain ⟨v, hb, ho, hbg, hT⟩ := h
  intro i hi
  rw [rowOf_eq hb rfl] at hi
  exact ⟨own_base ho i hi, own_lt ho i hi⟩
theorem Wr.lt {base g : Nat} {W : World} {T N : Nat} (h : Wr base g W T N) : g < W.heap.size := by
  obtain ⟨v, hb, ho, hbg, hT⟩ := h
  exact blk_lt hb
/-- The n low bits of v, the other way round. -/
def rev : Nat → Nat → Nat
  | 0, _ => 0
  | n + 1, v => v % 2 * 2 ^ n + rev n (v / 2)
theorem rev_lt : ∀ n v, rev n v < 2 ^ n := by
  intro n
  induction n with
  | zero => intro v; simp [rev]
  | succ n ih =>
    intro v
    have := ih (v / 2)
    simp only [rev]
    have h2 : v % 2 < 2 := Nat.mod_lt _ (by decide)
    have h3 : v % 2 * 2 ^ n ≤ 1 * 2 ^ n := Nat.mul_le_mul_right _ (by omega)
    rw [Nat.pow_succ]
    omega
theorem and_mask64 (v e : Nat) (he : e ≤ 20) (hv : v < 2 ^ 40) : bits .and .i64 (v : Int) (((2 ^ e : Nat) : Int) - 1) = ((v % 2 ^ e : Nat) : Int) := by
  have h := bits_mask .i64 40 (by decide) (fun n h0 h1 => by rw [IntKind.wrap_i64]; omega) e (by omega) (v : Int) (by omega) (by omega)
  simpa using h
end Go.Proofs.YtkdklcamgcmifaaDoor
