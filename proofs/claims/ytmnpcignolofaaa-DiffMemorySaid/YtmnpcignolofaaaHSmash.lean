/- Writing over rows of the call's own: whatever lies elsewhere stays. -/
import Derived.Test.YtmnpcignolofaaaHRow
namespace Go.Proofs.Ytmnpcignolofaaa
set_option linter.unusedVariables false
set_option linter.unusedSimpArgs false
open Go.RowKit Go.Proofs.YtmnpcignolofaaaW.PrintWords

/-- How many cells a block has. -/
def blockLen (W : World) (k : Nat) : Nat := match W.heap[k]? with
  | some (.cells c _ _) => c.size
  | _ => 0
/-- w is W but for what the blocks in G hold (rows of cells of type e). -/
structure Smash (e : Nat) (G : List Nat) (W w : World) : Prop where
  os : w.os = W.os
  tape : w.tape = W.tape
  output : w.output = W.output
  size : w.heap.size = W.heap.size
  keep : ∀ k, k ∉ G → w.heap[k]? = W.heap[k]?
  rows : ∀ k, k ∈ G → ∃ cur, w.heap[k]? = some (.cells cur e (0, 0)) ∧ cur.size = blockLen W k
theorem Smash.refl {e : Nat} {G : List Nat} {W : World} (h : ∀ k, k ∈ G → ∃ cur, W.heap[k]? = some (.cells cur e (0, 0))) : Smash e G W W :=
  ⟨rfl, rfl, rfl, rfl, fun _ _ => rfl, fun k hk => by
    obtain ⟨cur, hc⟩ := h k hk
    exact ⟨cur, hc, by simp [blockLen, hc]⟩⟩
theorem Smash.set {e : Nat} {G : List Nat} {W w : World} (h : Smash e G W w) {g : Nat} (hg : g ∈ G) (j : Nat) (u : Value) : Smash e G W (w.setCell ⟨g, j, none⟩ u) := by
  refine ⟨h.os, h.tape, h.output, by simpa [World.setCell] using h.size, fun k hk => ?_, fun k hk => ?_⟩
  · rw [Below.heap_setCell w ⟨g, j, none⟩ u k (fun e => hk (by simp only at e; rw [e]; exact hg))]
    exact h.keep k hk
  · obtain ⟨cur, hc, hs⟩ := h.rows k hk
    by_cases e : k = g
    · subst e
      exact ⟨_, blk_set hc j u, by simpa using hs⟩
    · exact ⟨cur, (Below.heap_setCell w ⟨g, j, none⟩ u k e).trans hc, hs⟩
theorem Smash.cell {e : Nat} {G : List Nat} {W w : World} (h : Smash e G W w) {g j : Nat} (hg : g ∈ G) (hj : j < blockLen W g) : ∃ u, w.cell? ⟨g, j, none⟩ = some u ∧ w.frozen? ⟨g, j, none⟩ = false := by
  obtain ⟨cur, hc, hs⟩ := h.rows g hg
  refine ⟨cur[j]'(by omega), ?_, blk_frozen hc j⟩
  rw [blk_cell hc, Array.getElem?_eq_getElem]
theorem Smash.below {e : Nat} {G : List Nat} {W w w0 : World} {B : Nat} (h : Smash e G W w) (hb : Below B w0 W) (hG : ∀ k, k ∈ G → B ≤ k) : Below B w0 w :=
  ⟨h.os.trans hb.os, h.tape.trans hb.tape, h.output.trans hb.output, by rw [h.size]; exact hb.size, fun k hk => (h.keep k (fun hm => by have := hG k hm; omega)).trans (hb.block k hk)⟩
theorem Smash.own {e : Nat} {G : List Nat} {W w : World} {b e' size n : Nat} {v : Value} {xs : List Value} (h : Smash e G W w) (ho : W.ownsRow b e' size v n xs) (hG : ∀ k, v.ownBlock = some k → k ∉ G) : w.ownsRow b e' size v n xs :=
  own_move ho fun k hk => h.keep k (hG k hk)
/-- A slice that may be written over. -/
def MaySmash (G : List Nat) (W : World) (v : Value) : Prop := ∃ A n c, v = .slice A n c ∧ n ≤ 9223372036854775807 ∧ (0 < n → ∃ g, A = some ⟨g, 0, none⟩ ∧ g ∈ G ∧ n ≤ blockLen W g)
theorem own_smash {W : World} {base e n : Nat} {v : Value} {xs : List Value} {G : List Nat} (h : W.ownsRow base e 1 v n xs) (hG : ∀ k, v.ownBlock = some k → k ∈ G) : MaySmash G W v := by
  rcases h.2 with ⟨rfl, rfl⟩ | ⟨g, cap, cur, rfl, hb, hh, h1, h2, h3, _⟩
  · exact ⟨none, 0, 0, rfl, by omega, fun h => absurd h (by omega)⟩
  · refine ⟨_, n, cap, rfl, by simp only [maxLen] at h2; omega, fun _ => ⟨g, rfl, hG g rfl, ?_⟩⟩
    simp [blockLen, hh]
    omega
/-- Rows that may be written over, and the blocks that they lie in. -/
def OwnAll (e : Nat) (W : World) (vs : List Value) : Prop := ∀ v, v ∈ vs → ∃ base n xs, W.ownsRow base e 1 v n xs
def blocksOf (vs : List Value) : List Nat := vs.filterMap Value.ownBlock
theorem mem_blocksOf {vs : List Value} {k : Nat} : k ∈ blocksOf vs ↔ ∃ v, v ∈ vs ∧ v.ownBlock = some k := by simp [blocksOf]
theorem OwnAll.smash {e : Nat} {W : World} {vs : List Value} (h : OwnAll e W vs) : Smash e (blocksOf vs) W W :=
  Smash.refl fun k hk => by
    obtain ⟨v, hv, hb⟩ := mem_blocksOf.1 hk
    obtain ⟨base, n, xs, ho⟩ := h v hv
    exact own_typed ho k hb
theorem OwnAll.may {e : Nat} {W : World} {vs : List Value} (h : OwnAll e W vs) (k : Nat) (hk : k < vs.length) : ∃ A n c, vs[k]? = some (.slice A n c) ∧ n ≤ 9223372036854775807 ∧ (0 < n → ∃ g, A = some ⟨g, 0, none⟩ ∧ g ∈ blocksOf vs ∧ n ≤ blockLen W g) := by
  have hv : vs[k] ∈ vs := List.getElem_mem hk
  obtain ⟨base, n, xs, ho⟩ := h _ hv
  obtain ⟨A, n', c, e1, e2, e3⟩ := own_smash (G := blocksOf vs) ho (fun j hj => mem_blocksOf.2 ⟨_, hv, hj⟩)
  exact ⟨A, n', c, by rw [List.getElem?_eq_getElem hk, e1], e2, e3⟩
/-- A cell of a block that is not written over. -/
theorem Smash.cell_far {e : Nat} {G : List Nat} {W w : World} (h : Smash e G W w) {b j : Nat} {t : TypeId} {cs : Array Value} (hb : W.heap[b]? = some (.cells cs t (0, 0))) (hG : b ∉ G) : w.cell? ⟨b, j, none⟩ = cs[j]? :=
  blk_cell ((h.keep b hG).trans hb) j
theorem own_cells {W : World} {base e n : Nat} {v : Value} {xs : List Value} (h : W.ownsRow base e 1 v n xs) : ∀ k, v.ownBlock = some k → ∃ cur, W.heap[k]? = some (.cells cur e (0, 0)) := own_typed h
end Go.Proofs.Ytmnpcignolofaaa
