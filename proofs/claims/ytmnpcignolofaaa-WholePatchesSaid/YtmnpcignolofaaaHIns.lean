/- slices.Insert at []string: of a row of its own, in place or grown. -/
import Derived.Test.YtmnpcignolofaaaHClone
import Derived.Shelf.RegionOpenPlain
namespace Go.Proofs.Ytmnpcignolofaaa
set_option linter.unusedVariables false
set_option linter.unusedSimpArgs false
open Go.RowKit Go.Shelf Go.Proofs.YtmnpcignolofaaaW.PrintWords Go.Proofs.YtmnpcignolofaaaW.PrintMore
/-- What comes back: a row of its own with the lines R; of what was there only v's row has changed. -/
def RepPost (w : World) (base : Nat) (v : Value) (R : List ByteArray) (e : Ending) (w' : World) : Prop :=
  ∃ v', e = .returned v' ∧ w'.ownsRow base 9 1 v' R.length (encs Value.string R) ∧ w.grownBy w' v.ownBlock
theorem shape_of_cell {w : World} {a : Addr} {v : Value} (h : w.cell? a = some v) : ∃ t k, w.shape? a.block = some (t, k) ∧ k ≠ 0 := by
  unfold World.cell? at h
  unfold World.shape?
  split at h
  · next c t f e =>
    refine ⟨t, c.size, rfl, fun h0 => ?_⟩
    split at h
    · cases h
    · rw [Array.getElem?_eq_none (by omega)] at h
      cases h
  · cases h
theorem add0_block (a : Addr) : (a.add 0).block = a.block := by
  unfold Addr.add
  split <;> rfl
theorem sizeS (w : World) : (Go.sizeOf 9).run Try.prog w = .ok 1 w := by
  obtain ⟨i0, hi0, hz0, hz1, hz2⟩ := info_parts infoS
  simp [Go.sizeOf, typeInfo, hi0, hz1]
theorem szS : (Try.prog.info? 9).map (·.size) = some 1 := by
  obtain ⟨i0, hi0, hz0, hz1, hz2⟩ := info_parts infoS
  rw [hi0]; simp [hz1]
theorem oneS (l : List ByteArray) : ∀ v ∈ encs Value.string l, v.oneCell' = true := by
  intro v hv
  obtain ⟨s, _, rfl⟩ := List.mem_map.1 hv
  rfl
theorem encs_get {l : List ByteArray} {j : Nat} {u : Value} (h : (encs Value.string l)[j]? = some u) : j < l.length ∧ u = .string (l.getD j ByteArray.empty) := by
  unfold encs at h
  rw [List.getElem?_map] at h
  obtain ⟨s, hs, rfl⟩ := Option.map_eq_some_iff.1 h
  obtain ⟨hj, rfl⟩ := List.getElem?_eq_some_iff.1 hs
  exact ⟨hj, by simp [List.getD_eq_getElem?_getD, List.getElem?_eq_getElem hj]⟩
theorem src_of {w : World} {ad : Addr} {m : Nat} {ys : List ByteArray} (h : ReadsOf Value.string ByteArray.empty w (some ad) m ys) : ∀ j u, (encs Value.string ys)[j]? = some u → w.cell? (ad.add j) = some u := by
  intro j u hj
  obtain ⟨h1, rfl⟩ := encs_get hj
  have hm := h.1
  obtain ⟨ad', e, hc⟩ := h.2.2 (by omega)
  cases e
  exact hc j (by omega)
set_option maxRecDepth 20000 in
set_option maxHeartbeats 4000000 in
theorem ins_end (w : World) (base : Nat) (v : Value) (l ys : List ByteArray) (hv : w.ownsRow base 9 1 v l.length (encs Value.string l)) (hb : base ≤ w.heap.size) (A : Option Addr) (mc : Nat) (hy : ReadsOf Value.string ByteArray.empty w A ys.length ys) (hm : 0 < ys.length) (hl : l.length ≤ 1000) (hyl : ys.length ≤ 1000) :
    Calls Try.prog 49 #[v, .int .i64 l.length, .slice A ys.length mc] w (RepPost w base v (l ++ ys)) := by
  obtain ⟨B, c, rfl⟩ := own_slice hv
  have HV := Lib.hid hv
  have HY := Lib.hid hy
  have hz1 : ¬ ((ys.length : Int) = 0) := by omega
  have hcc := own_cap hv
  clear hv hy
  go_enter Try.func49, Try.ntmps49
  go_wp2_with (
    at_builtin
    refine print_append_row_of (w0 := w) Value.string ByteArray.empty base rfl _ _ 22 9 (.string .empty) 16 rfl Try.underlying22 infoS rfl (by decide) (fun _ => rfl) (.slice B l.length c) l ys A ys.length mc rfl rfl HV.out HY.out (Below.refl _ _) hb (by omega) ?_
    intro v1 w1 hown hbel hgrow hat
    have HO := Lib.hid hown
    have HB := Lib.hid hgrow
    clear hown hbel hgrow hat)
  all_goals (go_ret; exact ⟨v1, rfl, HO.out, by cases B <;> exact HB.out⟩)
set_option maxRecDepth 100000 in
set_option maxHeartbeats 40000000 in
theorem ins_shift (w : World) (base g cap : Nat) (L : List Value) (l ys : List ByteArray) (x : Nat) (hr : Rw w g 9 L) (hg : base ≤ g) (hL : L.length = cap) (hm : cap ≤ maxLen) (hlt : L.take l.length = encs Value.string l)
    (hx : x < l.length) (hroom : l.length + ys.length ≤ cap) (ad : Addr) (mc : Nat) (hy : ReadsOf Value.string ByteArray.empty w (some ad) ys.length ys) (hy0 : 0 < ys.length) (hne : ad.block ≠ g) (hl : l.length ≤ 1000) (hyl : ys.length ≤ 1000) :
    Calls Try.prog 49 #[.slice (some ⟨g, 0, none⟩) l.length cap, .int .i64 x, .slice (some ad) ys.length mc] w (RepPost w base (.slice (some ⟨g, 0, none⟩) l.length cap) (l.take x ++ ys ++ l.drop x)) := by
  obtain ⟨n, hn⟩ : ∃ n, n = l.length := ⟨_, rfl⟩
  obtain ⟨m, hmm⟩ : ∃ m, m = ys.length := ⟨_, rfl⟩
  have hsrc := src_of hy
  have hyr := hy
  rw [← hmm] at hyr
  obtain ⟨tA, kA, hsA, hkA⟩ := shape_of_cell (hsrc 0 (.string (ys.getD 0 ByteArray.empty)) (by unfold encs; rw [List.getElem?_map, List.getElem?_eq_getElem hy0]; simp [List.getD_eq_getElem?_getD, List.getElem?_eq_getElem hy0]))
  rw [add0_block] at hsA
  have hcap : cap ≤ 9223372036854775807 := by unfold maxLen at hm; omega
  have hov : ∀ lb cb, (callFunc 50 #[.slice (some ad) m mc, .slice (some ⟨g, x + m, none⟩) lb cb]).run Try.prog w = .ok (.value (.bool false)) w := fun lb cb => by
    rw [run_callFunc_extern Try.func50 (by kernel_rfl) (by kernel_rfl) (by kernel_rfl) (e := Extern.SlicesOverlaps.overlaps #[22, 22] #[4]) (by kernel_rfl),
      run_overlaps_row w 22 4 9 Try.underlying22 1 sizeS ad ⟨g, x + m, none⟩ m mc lb cb hne tA 9 kA L.length hsA hkA hr.shape (by omega) (hr.frozen _) (hr.frozen _)]
    rfl
  obtain ⟨tl, htl⟩ : ∃ tl, tl = encs Value.string (l.drop x) := ⟨_, rfl⟩
  obtain ⟨vs, hvs⟩ : ∃ vs, vs = encs Value.string ys := ⟨_, rfl⟩
  have htll : tl.length = n - x := by rw [htl, encs_length, List.length_drop, hn]
  have hvsl : vs.length = m := by rw [hvs, encs_length, hmm]
  have htlc : ∀ j v, tl[j]? = some v → w.cell? ((⟨g, x, none⟩ : Addr).add j) = some v := fun j v hj => by
    rw [Addr.add_lit, hr.cell]
    have h1 : (L.take l.length)[x + j]? = some v := by
      rw [hlt]
      rw [htl] at hj
      unfold encs at hj ⊢
      rw [List.map_drop, List.getElem?_drop] at hj
      exact hj
    rw [List.getElem?_take] at h1
    split at h1
    · exact h1
    · cases h1
  have hc1 : ∀ ty dc sc, (Builtin.copy_ #[22, 22] ty #[.slice (some ⟨g, x + m, none⟩) (n + m - (x + m)) dc, .slice (some ⟨g, x, none⟩) (n + m - x) sc]).run Try.prog w.drew = .ok (goInt tl.length) (w.drew.setCells g (x + m) tl) := fun ty dc sc =>
    hr.drew.copy 22 ty Try.underlying22 szS (x + m) _ dc ⟨g, x, none⟩ _ sc tl (by rw [htll]; simp only [Nat.min_def]; split <;> omega) htlc (by rw [htl]; exact oneS _) (by omega)
  have hR1 : Rw (w.drew.setCells g (x + m) tl) g 9 (put L (x + m) tl) := Rw.sets tl (x + m) _ _ hr.drew (by omega)
  have hG1 : w.grownBy (w.drew.setCells g (x + m) tl) (some g) := grown_trans (grown_drew w _) (grown_sets g tl (x + m) w.drew)
  have hpl : (put L (x + m) tl).length = cap := by rw [put_len (by omega), hL]
  obtain ⟨W1, hW1⟩ : ∃ W1, W1 = w.drew.setCells g (x + m) tl := ⟨_, rfl⟩
  rw [← hW1] at hc1 hR1 hG1
  have hsrc1 : ∀ j u, vs[j]? = some u → W1.cell? (ad.add j) = some u := fun j u hj => by
    have h0 := hsrc j u (by rw [← hvs]; exact hj)
    rw [← h0]
    refine World.cell?_of_block (hG1.block _ (World.block_lt_of_cell? w _ h0) ?_)
    intro e
    have e2 : (ad.add j).block = ad.block := by unfold Addr.add; split <;> rfl
    rw [e2] at e
    exact hne (Option.some.inj e)
  have hc2 : ∀ ty dc, (Builtin.copy_ #[22, 22] ty #[.slice (some ⟨g, x, none⟩) (n + m - x) dc, .slice (some ad) m mc]).run Try.prog W1 = .ok (goInt vs.length) (W1.setCells g x vs) := fun ty dc =>
    hR1.copy 22 ty Try.underlying22 szS x _ dc ad m mc vs (by rw [hvsl]; simp only [Nat.min_def]; split <;> omega) hsrc1 (by rw [hvs]; exact oneS _) (by omega)
  have hR2 : Rw (W1.setCells g x vs) g 9 (put (put L (x + m) tl) x vs) := Rw.sets vs x _ _ hR1 (by omega)
  have hG2 : w.grownBy (W1.setCells g x vs) (some g) := grown_trans hG1 (grown_sets g vs x W1)
  have hfin : (put (put L (x + m) tl) x vs).take (n + m) = encs Value.string (l.take x ++ ys ++ l.drop x) := by
    have h := put_tv L vs tl x (by omega)
    rw [hvsl, htll, show x + m + (n - x) = n + m by omega] at h
    rw [h, encs_append, encs_append, ← hvs, ← htl]
    congr 2
    have h2 : (L.take l.length).take x = (encs Value.string l).take x := by rw [hlt]
    rw [List.take_take, Nat.min_eq_left (by omega)] at h2
    rw [h2]
    unfold encs
    rw [List.map_take]
  have hown : (W1.setCells g x vs).ownsRow base 9 1 (.slice (some ⟨g, 0, none⟩) (n + m) cap) (l.take x ++ ys ++ l.drop x).length (encs Value.string (l.take x ++ ys ++ l.drop x)) := by
    have h := hR2.own (base := base) (n := n + m) (cap := cap) hg (by rw [put_len (by omega), hpl]) (by omega) hm
    rw [hfin] at h
    rw [show (l.take x ++ ys ++ l.drop x).length = n + m by simp only [List.length_append, List.length_take, List.length_drop]; omega]
    exact h
  have HF := Lib.hid (And.intro hown hG2)
  have hz1 : ¬ ((m : Int) = 0) := by omega
  have hz2 : ¬ ((x : Int) = (n : Int)) := by omega
  have hw0 : IntKind.i64.wrap ((n : Int) + (m : Int)) = (n : Int) + (m : Int) := by rw [IntKind.wrap_i64]; omega
  have hw1 : IntKind.i64.wrap ((x : Int) + (m : Int)) = (x : Int) + (m : Int) := by rw [IntKind.wrap_i64]; omega
  have hz3 : ¬ ((cap : Int) < (n : Int) + (m : Int)) := by omega
  have hb1 : (0 : Int) ≤ (x : Int) + (m : Int) := by omega
  have hb5 : (0 : Int) ≤ (n : Int) + (m : Int) := by omega
  have hb6 : (n : Int) + (m : Int) ≤ (cap : Int) := by omega
  have hxn : (x : Int) ≤ (n : Int) := by omega
  have htn : ((x : Int) + (m : Int)).toNat = x + m := by omega
  have htn2 : ((n : Int) + (m : Int)).toNat = n + m := by omega
  have hb2 : ¬ (cap = x + m) := by omega
  have hb3 : (x : Int) ≤ (n : Int) + (m : Int) := by omega
  have hb4 : ¬ (cap = x) := by omega
  have hb7 : (x : Int) + (m : Int) ≤ (n : Int) + (m : Int) := by omega
  rw [← hn, ← hmm]
  have mixed : Try.prog.follows Departure.mixedOrders = true := by kernel_rfl
  have HNM := Lib.hid (And.intro hn hmm)
  clear hn hmm
  clear hsrc hyr hy hlt hfin hown hG1 hG2 hR1 hR2 hsrc1 htlc htl hvs hsA hr hL hpl htll hvsl
  go_enter Try.func49, Try.ntmps49
  go_wp2_with (simp only [hov])
  go_region_law_o (refine step_copy_runI rfl _ _ 22 22 rfl _ _ (by simp [Act.eval, Act.put]) (by simp [Act.eval, Act.put]) (hc1 _ _ _) ?_)
  rw [← hW1]
  clear hW1 hc1
  go_wp2_with (at_builtin; refine wpList_copy_runI _ rfl _ _ 22 22 rfl _ _ rfl rfl (hc2 _ _) ?_)
  go_ret
  exact ⟨_, rfl, HF.out.1, HF.out.2⟩
theorem grown_new {w W : World} {N : Nat} (h : w.grownBy W none) (hN : w.heap.size ≤ N) (o : Nat) (vs : List Value) : w.grownBy (W.setCells N o vs) none := by
  have hs := grown_sets N vs o W
  exact ⟨hs.os.trans h.os, hs.tape.trans h.tape, hs.output.trans h.output, Nat.le_trans h.size hs.size, fun k hk hn => (hs.block k (Nat.lt_of_lt_of_le hk h.size) (by intro e; have := Option.some.inj e; omega)).trans (h.block k hk hn)⟩
theorem grown_any {w W : World} (h : w.grownBy W none) (r : Option Nat) : w.grownBy W r := ⟨h.os, h.tape, h.output, h.size, fun k hk _ => h.block k hk (by simp)⟩
theorem grown_cell {w W : World} (h : w.grownBy W none) {a : Addr} {v : Value} (hc : w.cell? a = some v) : W.cell? a = some v := h.cell hc (by simp)
theorem addn_block (a : Addr) (j : Nat) : (a.add j).block = a.block := by
  unfold Addr.add
  split <;> rfl
/-- The first cells of a row, as what append reads. -/
theorem rw_first {w : World} {g n cap : Nat} {L : List Value} (h : Rw w g 9 L) (hl : n ≤ L.length) : (Builtin.firstCells 1 n (.slice (some ⟨g, 0, none⟩) n cap)).run Try.prog w = .ok (L.take n).toArray w :=
  run_firstCells_some w 1 n ⟨g, 0, none⟩ n cap (L.take n) (by rw [List.length_take]; omega) (fun j v hj => by
    rw [Addr.add_lit, Nat.zero_add, h.cell]
    rw [List.getElem?_take] at hj
    split at hj
    · exact hj
    · cases hj)
/-- The cells from z on of the lines that a row holds. -/
theorem rw_tail {w : World} {g z : Nat} {e : TypeId} {L : List Value} {l : List ByteArray} (h : Rw w g e L) (hlt : L.take l.length = encs Value.string l) : ∀ j v, (encs Value.string (l.drop z))[j]? = some v → w.cell? ((⟨g, z, none⟩ : Addr).add j) = some v := by
  intro j v hj
  rw [Addr.add_lit, h.cell]
  have h1 : (L.take l.length)[z + j]? = some v := by
    rw [hlt]
    unfold encs at hj ⊢
    rw [List.map_drop, List.getElem?_drop] at hj
    exact hj
  rw [List.getElem?_take] at h1
  split at h1
  · exact h1
  · cases h1
theorem take_encs {L : List Value} {l : List ByteArray} (hlt : L.take l.length = encs Value.string l) {x : Nat} (hx : x ≤ l.length) : L.take x = encs Value.string (l.take x) := by
  have h2 : (L.take l.length).take x = (encs Value.string l).take x := by rw [hlt]
  rw [List.take_take, Nat.min_eq_left hx] at h2
  rw [h2]
  unfold encs
  rw [List.map_take]
/-- A new row of x lines and empty ones: what append of a make lays. -/
structure Grown (w : World) (W : World) (G : Nat) (R0 : List Value) (olds : List Value) (tot : Nat) : Prop where
  rw : Rw W w.heap.size 9 R0
  len : R0.length = G
  tot : tot ≤ G
  max : G ≤ maxLen
  old : R0.take olds.length = olds
  gr : w.grownBy W none
theorem append_make (w : World) (g cap x tot : Nat) (L : List Value) (hr : Rw w g 9 L) (hL : L.length = cap) (hx : x < tot) (hxc : x ≤ cap) (hc : cap < tot) (ht : tot ≤ 3000) : ∃ G W R0, Grown w W G R0 (L.take x) tot ∧
    ∀ ty, (Builtin.append_ #[22, 3] ty #[.slice (some ⟨g, 0, none⟩) x cap, .int .i64 ((tot : Int) - (x : Int))]).run Try.prog w = .ok (.slice (some ⟨w.heap.size, 0, none⟩) tot G) W := by
  obtain ⟨i0, hi0, hz0, hz1, hz2⟩ := info_parts infoS
  have hold := rw_first (cap := cap) hr.drew (n := x) (by omega)
  have h := fun ty => Lib.run_append_grow_zeros (P := Try.prog) w 22 3 ty 9 i0 _ .i64 .i64 Try.underlying22 Try.underlying3 hi0 hz0 (some ⟨g, 0, none⟩) x cap (L.take x) (by rw [hz1]; exact hold) (tot - x) (by omega) (by omega) (by omega) (by omega) (by rw [hz2]; omega) (by rw [hz2, show x + (tot - x) = tot by omega]; exact growslice_fits hc (by omega))
  rw [show x + (tot - x) = tot by omega] at h
  obtain ⟨G, hG⟩ : ∃ G, G = grownCap w tot cap 9 := ⟨_, rfl⟩
  obtain ⟨ROW, hROW⟩ : ∃ ROW : Array Value, ROW = (L.take x).toArray ++ Builtin.zeroCells (Value.string ByteArray.empty).cells (tot - x) ++ Builtin.zeroCells (Value.string ByteArray.empty).cells (G - tot) := ⟨_, rfl⟩
  rw [← hG, ← hROW] at h
  have hG1 : tot ≤ G := by rw [hG]; exact grownCap_ge w _ _ _
  have hG2 : G ≤ maxLen := by rw [hG]; exact grownCap_le_maxLen w _ _ _ (by unfold maxLen; omega)
  have hxl : (L.take x).length = x := by rw [List.length_take]; omega
  refine ⟨G, w.drew.alloc (.cells ROW 9), ROW.toList, ⟨?_, ?_, hG1, hG2, ?_, ?_⟩, fun ty => ?_⟩
  · show (w.drew.alloc (.cells ROW 9)).heap[w.heap.size]? = some (.cells ROW.toList.toArray 9 (0, 0))
    rw [show ROW.toList.toArray = ROW by simp]
    exact heap_alloc_new w.drew _
  · rw [Array.length_toList, hROW]
    simp only [Array.size_append, List.size_toArray, hxl, Builtin.zeroCells, Value.cells, Array.size_ofFn]
    simp
    omega
  · rw [hROW]
    simp only [Array.toList_append, List.append_assoc]
    rw [List.take_append_of_le_length (Nat.le_refl _), List.take_of_length_le (Nat.le_refl _)]
  · exact grown_trans (grown_drew w none) (World.grownBy_alloc w.drew _ none)
  · rw [show ((tot : Int) - (x : Int)) = ((tot - x : Nat) : Int) by omega]
    exact h ty
end Go.Proofs.Ytmnpcignolofaaa
