/- Rows of one-cell elements, whole: what copy, clear and append leave of them. -/
import Derived.Shelf.Spec.SlicesInsert
import Derived.Lib.AppendZerosOnto
import Derived.RangeFuncBox
import Derived.Test.YtmnpcignolofaaaHAppQ
namespace Go.Proofs.Ytmnpcignolofaaa
set_option linter.unusedVariables false
set_option linter.unusedSimpArgs false
open Go.RowKit Go.Proofs.YtmnpcignolofaaaW.PrintWords Go.Proofs.YtmnpcignolofaaaW.PrintMore
/-- Block g holds just the cells L; nothing of it is frozen. -/
def Rw (w : World) (g : Nat) (e : TypeId) (L : List Value) : Prop := w.heap[g]? = some (.cells L.toArray e (0, 0))
/-- vs laid into L from o on. -/
def put (L : List Value) (o : Nat) (vs : List Value) : List Value := L.take o ++ vs ++ L.drop (o + vs.length)
theorem put_len {L vs : List Value} {o : Nat} (h : o + vs.length ≤ L.length) : (put L o vs).length = L.length := by
  unfold put
  simp only [List.length_append, List.length_take, List.length_drop]
  omega
theorem put_get {L vs : List Value} {o : Nat} (h : o + vs.length ≤ L.length) (i : Nat) : (put L o vs)[i]? = if i < o then L[i]? else if i < o + vs.length then vs[i - o]? else L[i]? := by
  unfold put
  rw [List.append_assoc, List.getElem?_append, List.length_take, Nat.min_eq_left (by omega), List.getElem?_take]
  by_cases h1 : i < o
  · rw [if_pos h1, if_pos h1, if_pos h1]
  · rw [if_neg h1, if_neg h1, List.getElem?_append, List.getElem?_drop]
    by_cases h2 : i < o + vs.length
    · rw [if_pos (by omega), if_pos h2]
    · rw [if_neg (by omega), if_neg h2]
      congr 1
      omega
theorem get3 (X vs tl : List Value) (x : Nat) (hx : x ≤ X.length) (i : Nat) : (X.take x ++ vs ++ tl)[i]? = if i < x then X[i]? else if i < x + vs.length then vs[i - x]? else tl[i - (x + vs.length)]? := by
  rw [List.append_assoc, List.getElem?_append, List.length_take, Nat.min_eq_left hx, List.getElem?_take]
  by_cases h1 : i < x
  · rw [if_pos h1, if_pos h1, if_pos h1]
  · rw [if_neg h1, if_neg h1, List.getElem?_append]
    by_cases h2 : i < x + vs.length
    · rw [if_pos (by omega), if_pos h2]
    · rw [if_neg (by omega), if_neg h2]
      congr 1
      omega
/-- Both parts laid: the new values first .. -/
theorem put_vt (Y vs tl : List Value) (x : Nat) (h : x + vs.length + tl.length ≤ Y.length) : (put (put Y x vs) (x + vs.length) tl).take (x + vs.length + tl.length) = Y.take x ++ vs ++ tl := by
  have l1 : (put Y x vs).length = Y.length := put_len (by omega)
  refine List.ext_getElem? fun i => ?_
  rw [List.getElem?_take, put_get (by omega), put_get (by omega), get3 _ _ _ _ (by omega)]
  by_cases h1 : i < x + vs.length + tl.length
  · rw [if_pos h1]
    by_cases h2 : i < x
    · rw [if_pos (by omega), if_pos h2, if_pos h2]
    · rw [if_neg h2, if_neg h2]
      by_cases h3 : i < x + vs.length
      · rw [if_pos h3, if_pos h3, if_pos h3]
      · rw [if_neg h3, if_pos h1, if_neg h3]
  · rw [if_neg h1, if_neg (by omega), if_neg (by omega), List.getElem?_eq_none (by omega)]
/-- .. or the rest first. -/
theorem put_tv (Y vs tl : List Value) (x : Nat) (h : x + vs.length + tl.length ≤ Y.length) : (put (put Y (x + vs.length) tl) x vs).take (x + vs.length + tl.length) = Y.take x ++ vs ++ tl := by
  have l1 : (put Y (x + vs.length) tl).length = Y.length := put_len (by omega)
  refine List.ext_getElem? fun i => ?_
  rw [List.getElem?_take, put_get (by omega), put_get (by omega), get3 _ _ _ _ (by omega)]
  by_cases h1 : i < x + vs.length + tl.length
  · rw [if_pos h1]
    by_cases h2 : i < x
    · rw [if_pos h2, if_pos (by omega), if_pos h2]
    · rw [if_neg h2, if_neg h2]
      by_cases h3 : i < x + vs.length
      · rw [if_pos h3, if_pos h3]
      · rw [if_neg h3, if_neg h3, if_neg h3, if_pos h1]
  · rw [if_neg h1, if_neg (by omega), if_neg (by omega), List.getElem?_eq_none (by omega)]
theorem put_keep (Y vs : List Value) (o n : Nat) (hn : n ≤ o) (h : o + vs.length ≤ Y.length) : (put Y o vs).take n = Y.take n := by
  unfold put
  rw [List.append_assoc, List.take_append_of_le_length (by rw [List.length_take]; omega), List.take_take, Nat.min_eq_left hn]
theorem put_end (Y vs : List Value) (x : Nat) (h : x + vs.length ≤ Y.length) : (put Y x vs).take (x + vs.length) = Y.take x ++ vs := by
  unfold put
  rw [List.take_append_of_le_length (by simp only [List.length_append, List.length_take]; omega), List.take_of_length_le (by simp only [List.length_append, List.length_take]; omega)]
theorem Rw.cell {w : World} {g : Nat} {e : TypeId} {L : List Value} (h : Rw w g e L) (j : Nat) : w.cell? ⟨g, j, none⟩ = L[j]? := by
  rw [cell_of_row w g j _ _ _ h]
  simp
theorem Rw.has {w : World} {g : Nat} {e : TypeId} {L : List Value} (h : Rw w g e L) {j : Nat} (hj : j < L.length) : (w.cell? ⟨g, j, none⟩).isSome = true := by
  rw [h.cell, List.getElem?_eq_getElem hj]
  rfl
theorem Rw.frozen {w : World} {g : Nat} {e : TypeId} {L : List Value} (h : Rw w g e L) (j : Nat) : w.frozen? ⟨g, j, none⟩ = false := frozen_of_row w g j _ _ h
theorem Rw.shape {w : World} {g : Nat} {e : TypeId} {L : List Value} (h : Rw w g e L) : w.shape? g = some (e, L.length) := by
  unfold World.shape?
  rw [h]
  simp
theorem Rw.lt {w : World} {g : Nat} {e : TypeId} {L : List Value} (h : Rw w g e L) : g < w.heap.size := (Array.getElem?_eq_some_iff.1 h).1
theorem Rw.drew {w : World} {g : Nat} {e : TypeId} {L : List Value} (h : Rw w g e L) : Rw w.drew g e L := h
theorem Rw.set {w : World} {g : Nat} {e : TypeId} {L : List Value} (h : Rw w g e L) (o : Nat) (v : Value) : Rw (w.setCell ⟨g, o, none⟩ v) g e (L.set o v) := by
  unfold Rw
  rw [heap_setCell_same w g o _ e v h]
  simp
theorem Rw.sets {g : Nat} {e : TypeId} : ∀ (vs : List Value) (o : Nat) (w : World) (L : List Value), Rw w g e L → o + vs.length ≤ L.length → Rw (w.setCells g o vs) g e (put L o vs)
  | [], o, w, L, h, hl => by
    have e1 : put L o [] = L := by unfold put; simp
    rw [e1]
    exact h
  | v :: r, o, w, L, h, hl => by
    simp only [List.length_cons] at hl
    have ih := Rw.sets r (o + 1) _ _ (h.set o v) (by rw [List.length_set]; omega)
    have e1 : put (L.set o v) (o + 1) r = put L o (v :: r) := by
      refine List.ext_getElem? fun i => ?_
      rw [put_get (by rw [List.length_set]; omega), put_get (by simp only [List.length_cons]; omega)]
      simp only [List.length_cons, List.getElem?_set]
      by_cases h1 : i < o
      · rw [if_pos (by omega), if_pos h1, if_neg (by omega)]
      · rw [if_neg h1]
        by_cases h2 : i = o
        · subst h2
          rw [if_pos (by omega), if_pos rfl, if_pos (by omega), if_pos (by omega), Nat.sub_self]
          rfl
        · rw [if_neg (by omega)]
          by_cases h3 : i < o + (r.length + 1)
          · rw [if_pos (by omega), if_pos h3]
            obtain ⟨k, rfl⟩ : ∃ k, i = o + 1 + k := ⟨i - (o + 1), by omega⟩
            rw [show o + 1 + k - o = k + 1 by omega, show o + 1 + k - (o + 1) = k by omega]
            rfl
          · rw [if_neg (by omega), if_neg h3, if_neg (by omega)]
    rw [e1] at ih
    exact ih
theorem grown_sets (g : Nat) : ∀ (vs : List Value) (o : Nat) (w : World), w.grownBy (w.setCells g o vs) (some g)
  | [], _, w => ⟨rfl, rfl, rfl, Nat.le_refl _, fun _ _ _ => rfl⟩
  | v :: r, o, w => by
    have ih := grown_sets g r (o + 1) (w.setCell ⟨g, o, none⟩ v)
    exact ⟨ih.os, ih.tape, ih.output, by have := ih.size; rwa [World.size_setCell] at this, fun k hk hne => (ih.block k (by rw [World.size_setCell]; exact hk) hne).trans (heap_setCell_other w _ k v (fun e => hne (by rw [e])))⟩
theorem grown_trans {w1 w2 w3 : World} {r : Option Nat} (h : w1.grownBy w2 r) (k : w2.grownBy w3 r) : w1.grownBy w3 r :=
  ⟨k.os.trans h.os, k.tape.trans h.tape, k.output.trans h.output, Nat.le_trans h.size k.size, fun i hi hn => (k.block i (Nat.lt_of_lt_of_le hi h.size) hn).trans (h.block i hi hn)⟩
theorem grown_drew (w : World) (r : Option Nat) : w.grownBy w.drew r := ⟨rfl, rfl, rfl, Nat.le_refl _, fun _ _ _ => rfl⟩
/-- A row is its owner's. -/
theorem Rw.own {w : World} {g base n cap : Nat} {e : TypeId} {L : List Value} (h : Rw w g e L) (hb : base ≤ g) (hL : L.length = cap) (hn : n ≤ cap) (hm : cap ≤ maxLen) : w.ownsRow base e 1 (.slice (some ⟨g, 0, none⟩) n cap) n (L.take n) := by
  refine ⟨by rw [List.length_take]; omega, .inr ⟨g, cap, L.toArray, rfl, hb, h, hn, hm, by simp [hL], by simp⟩⟩
theorem own_rw {w : World} {base n : Nat} {e : TypeId} {v : Value} {xs : List Value} (h : w.ownsRow base e 1 v n xs) : (v = .slice none 0 0 ∧ n = 0 ∧ xs = []) ∨ ∃ g cap L, v = .slice (some ⟨g, 0, none⟩) n cap ∧ base ≤ g ∧ Rw w g e L ∧ n ≤ cap ∧ cap ≤ maxLen ∧ L.length = cap ∧ L.take n = xs := by
  obtain ⟨h1, ⟨rfl, rfl⟩ | ⟨g, cap, cur, rfl, hb, hg, hn, hm, hs, ht⟩⟩ := h
  · exact .inl ⟨rfl, rfl, List.eq_nil_of_length_eq_zero (by omega)⟩
  · refine .inr ⟨g, cap, cur.toList, rfl, hb, ?_, hn, hm, ?_, ?_⟩
    · unfold Rw
      rw [hg]
    · rw [Array.length_toList]; omega
    · rw [← ht]; simp
/-- 'copy' into a row. -/
theorem Rw.copy {P : Program} {W : World} {g : Nat} {e : TypeId} {L : List Value} (h : Rw W g e L) (T ty : TypeId) (hT : P.underlying T = some (.slice e)) (hs : (P.info? e).map (·.size) = some 1) (o dl dc : Nat) (a : Addr) (sl sc : Nat) (cs : List Value)
    (hn : cs.length = Nat.min sl dl) (hsrc : ∀ j v, cs[j]? = some v → W.cell? (a.add j) = some v) (h1 : ∀ v ∈ cs, v.oneCell' = true) (hf : o + cs.length ≤ L.length) :
    (Builtin.copy_ #[T, T] ty #[.slice (some ⟨g, o, none⟩) dl dc, .slice (some a) sl sc]).run P W = .ok (goInt cs.length) (W.setCells g o cs) :=
  run_copy_cells W T T ty e g o dl dc a sl sc cs hT hs hn hsrc (fun j hj => h.has (by omega)) (fun j _ => h.frozen _) h1
theorem run_overlaps_row {P : Program} (w : World) (tS tR e : TypeId) (ht : P.underlying tS = some (.slice e)) (size : Nat) (hz : ∀ w, (Go.sizeOf e).run P w = .ok size w) (a b : Addr) (la ca lb cb : Nat) (hne : a.block ≠ b.block) (tA tB : TypeId) (kA kB : Nat)
    (hsa : w.shape? a.block = some (tA, kA)) (hkA : kA ≠ 0) (hsb : w.shape? b.block = some (tB, kB)) (hkB : kB ≠ 0) (hfb : w.frozen? b = false) (hfe : w.frozen? { block := b.block, off := kB } = false) :
    (Extern.SlicesOverlaps.overlaps #[tS, tS] #[tR] #[.slice (some a) la ca, .slice (some b) lb cb]).run P w = .ok (.bool false) w := by
  have hnb : (a.block != b.block) = true := by simpa using hne
  have hnb' : (a.block == b.block) = false := by simpa using hne
  obtain ⟨kA, rfl⟩ : ∃ k, kA = k + 1 := ⟨kA - 1, by omega⟩
  obtain ⟨kB, rfl⟩ : ∃ k, kB = k + 1 := ⟨kB - 1, by omega⟩
  change Sem.run P (Bind.bind (underlying tS) _) w = _
  rw [Sem.run_bind, run_underlying ht]
  by_cases h0 : la = 0 ∨ lb = 0 ∨ size = 0
  · simp [hz, h0]
  · cases h1 : w.frozen? a <;> cases h2 : w.frozen? { block := a.block, off := kA + 1 } <;>
      simp [hz, h0, hnb, hnb', frozen, noView, viewAt, mayBeOne, stringish, shape, Sem.run, hsa, hsb, hfb, hfe, h1, h2]
end Go.Proofs.Ytmnpcignolofaaa
