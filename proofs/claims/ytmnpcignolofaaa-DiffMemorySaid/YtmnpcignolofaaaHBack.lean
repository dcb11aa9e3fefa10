/- slices.Backward over hunks, as an iterator. -/
import Derived.Test.YtmnpcignolofaaaHSeqO
import Derived.Test.YtmnpcignolofaaaHPts
import Derived.RangeFuncBox
import Derived.Shelf.RegionOpen
import Derived.OwnWalkIn
import Derived.TacticsInMore
import Derived.LoopNIn
import Derived.LoopIn
namespace Go.Proofs.Ytmnpcignolofaaa
set_option linter.unusedVariables false
set_option linter.unusedSimpArgs false
open Go.RowKit Go.Shelf Go.Proofs.YtmnpcignolofaaaW.PrintWords Go.Proofs.YtmnpcignolofaaaW.PrintMore
attribute [local go_sem] Oper.semAt_some
abbrev Hk := Pn × Pn
def hkD (l : List Hk) (i : Nat) : Hk := l.getD i ((0, 0), (0, 0))
def hkV (l : List Hk) (i : Nat) : Array Value := #[.int .i64 (i : Int), .agg #[.complex .f64 (fl (hkD l i).1.1) (fl (hkD l i).1.2), .complex .f64 (fl (hkD l i).2.1) (fl (hkD l i).2.2)]]
/-- The indices from the last one down to j. -/
def revs (n j : Nat) : List Nat := ((List.range n).drop j).reverse
theorem revs_step {n j : Nat} (h : j < n) : revs n j = revs n (j + 1) ++ [j] := by
  unfold revs
  rw [List.drop_eq_getElem_cons (by rw [List.length_range]; exact h), List.reverse_cons, List.getElem_range]
theorem revs_len (n j : Nat) : (revs n j).length = n - j := by unfold revs; rw [List.length_reverse, List.length_drop, List.length_range]
theorem revs_all (n : Nat) : revs n n = [] := by
  unfold revs
  rw [List.drop_of_length_le (by rw [List.length_range]; exact Nat.le_refl _)]
  rfl
set_option maxHeartbeats 1000000 in
theorem back_in (n : Nat) (A : Option Addr) (m c : Nat) (w : World) :
    CallsIn Fence.wide n Try.prog 39 #[.slice A m c] w fun e w' => e = .returned (.func (.func 48) #[] #[.pointer (some ⟨w.heap.size, 0, none⟩)]) ∧ w' = w.alloc (.cells #[.slice A m c] 35) := by
  refine callsIn_of_wp Try.func39 rfl trivial ?_ rfl
  simp only [Try.ntmps39, List.size_toArray, List.length_cons, List.length_nil, Nat.reduceAdd, Nat.reduceSub, Array.replicate_succ, Array.replicate_zero, List.push_toArray, List.append_toArray, List.nil_append, List.cons_append]
  gi_wp2
  go_ret
  exact ⟨rfl, rfl⟩
/-- What a round keeps. -/
def Kc (n0 kb : Nat) (W W' : World) : Prop := Below n0 W W' ∧ W'.heap[kb]? = W.heap[kb]?
theorem Kc.trans {n0 kb : Nat} {A B C : World} (h : Kc n0 kb A B) (k : Kc n0 kb B C) : Kc n0 kb A C := ⟨h.1.trans k.1, k.2.trans h.2⟩
set_option maxRecDepth 100000 in
set_option maxHeartbeats 4000000 in
theorem back_seq (n : Nat) (hn : 1 ≤ n) (w0 w : World) (base : Nat) (A : Option Addr) (c : Nat) (l : List Hk) (hl : w0.ownsRow base 60 2 (.slice A l.length c) l.length (hc l)) (hm : l.length ≤ 1000) (kb : Nat) (hw : Below w0.heap.size w0 w) (hk : w0.heap.size ≤ kb)
    (h1 : w.heap[kb]? = some (.cells #[.slice A l.length c] 35 (0, 0))) :
    SeqOk Fence.wide n Try.prog 48 #[.pointer (some ⟨kb, 0, none⟩)] (hkV l) (Kc w0.heap.size kb) none (fun xs => xs = revs l.length 0) (fun pre x => x < l.length ∧ pre = revs l.length (x + 1)) w := by
  intro q J W hW hJs hY h0
  have k1 := (hW.block kb (blk_lt h1)).trans h1
  have hB0 : Below w0.heap.size w0 W := hw.trans (hW.mono hw.size)
  have HY := Lib.hid hY
  have HL := Lib.hid hl
  have HS0 := Lib.hid (And.intro k1 (And.intro hB0 (show J (revs l.length l.length) W by rw [revs_all]; exact h0)))
  have c1 : W.cell? ⟨kb, 0, none⟩ = some (.slice A l.length c) := blk_cell k1 0
  have wl : IntKind.i64.wrap ((l.length : Int) - 1) = (l.length : Int) - 1 := by rw [IntKind.wrap_i64]; omega
  clear k1 h1 hY hJs hl hw hW h0 hB0
  refine callsIn_of_wp Try.func48 rfl trivial ?_ rfl
  simp only [Try.ntmps48, List.size_toArray, List.length_cons, List.length_nil, Nat.reduceAdd, Nat.reduceSub, Array.replicate_succ, Array.replicate_zero, List.push_toArray, List.append_toArray, List.nil_append, List.cons_append]
  gi_wp2
  gi_loopw [3] (fun v3 wr => ∃ j : Nat, v3 = .int .i64 ((j : Int) - 1) ∧ j ≤ l.length ∧ Hid (wr.heap[kb]? = some (.cells #[.slice A l.length c] 35 (0, 0)) ∧ Below w0.heap.size w0 wr ∧ J (revs l.length j) wr)) (fun v3 wr => (intOf v3 + 1).toNat)
  case atStart => exact ⟨l.length, rfl, Nat.le_refl _, HS0⟩
  case round =>
    clear HS0 c1
    obtain ⟨j, rfl, hj, HS⟩ := hrel
    rcases Nat.eq_zero_or_pos j with h0 | h0
    · subst h0
      gi_wp2
      go_end0
      exact ⟨⟨_, rfl⟩, _, rfl, HS.out.2.2⟩
    · obtain ⟨i, rfl⟩ : ∃ i, j = i + 1 := ⟨j - 1, by omega⟩
      have hji : ((i + 1 : Nat) : Int) - 1 = (i : Int) := by omega
      rw [hji]
      obtain ⟨k1, hb, hJ⟩ := HS.out
      have c1 : wr.cell? ⟨kb, 0, none⟩ = some (.slice A l.length c) := blk_cell k1 0
      obtain ⟨g, cap, hg⟩ := own_pos HL.out (by omega)
      injection hg with hg1 _ hg2
      subst hg1 hg2
      have hc2 := own_cells2 (pw_own_below HL.out hb) i (by omega)
      have d1 : wr.cell? ⟨g, i * 2, none⟩ = some (.complex .f64 (fl (hkD l i).1.1) (fl (hkD l i).1.2)) := hc2.1
      have d2 : wr.cell? ⟨g, i * 2 + 1, none⟩ = some (.complex .f64 (fl (hkD l i).2.1) (fl (hkD l i).2.2)) := hc2.2
      obtain ⟨fn, tmps, assign, body, hy, hR⟩ := HY.out (revs l.length (i + 1)) i wr hJ ⟨by omega, rfl⟩
      dsimp only [hkV] at hy
      have HR := Lib.hid hR
      have i0 : (0 : Int) ≤ (i : Int) := by omega
      have i1 : (i : Int) < (l.length : Int) := by omega
      have wi : IntKind.i64.wrap ((i : Int) - 1) = (i : Int) - 1 := by rw [IntKind.wrap_i64]; omega
      have HBK := Lib.hid (And.intro k1 hb)
      clear hR hc2 k1 hb hJ
      gi_wp2
      refine HR.out.mono ?_
      rintro e W3 ⟨rfl, hJ3, hk3⟩
      have HM := Lib.hid (And.intro (hk3.2.trans HBK.out.1) (And.intro (HBK.out.2.trans hk3.1) (show J (revs l.length i) W3 by rw [revs_step (by omega)]; exact hJ3)))
      clear hJ3 hk3 hy d1 d2 c1
      gi_wp2
      exact ⟨⟨i, rfl, by omega, HM⟩, by simp only [intOf]; omega⟩
end Go.Proofs.Ytmnpcignolofaaa
