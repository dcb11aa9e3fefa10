/- slices.Insert and slices.Replace at []string: of a row of its own. -/
import Derived.Test.YtmnpcignolofaaaHClone
import Derived.Shelf.RegionOpenPlain
/-! HIns: slices.Insert at []string: of a row of its own, in place or grown. -/
namespace Go.Proofs.Ytmnpcignolofaaa
set_option linter.unusedVariables false
set_option linter.unusedSimpArgs false
open Go.RowKit Go.Shelf Go.Proofs.YtmnpcignolofaaaW.PrintWords Go.Proofs.YtmnpcignolofaaaW.PrintMore
/-- What comes back: a row of its own with the lines R; of what was there only v's row has changed. -/
def RepPost (w : World) (base : Nat) (v : Value) (R : List ByteArray) (e : Ending) (w' : World) : Prop :=
  ∃ v', e = .returned v' ∧ w'.ownsRow base 9 1 v' R.length (encs Value.string R) ∧ w.grownBy w' v.ownBlock
theorem shape_of_cell {w : World} {a : Addr} {v : Value} (h : w.cell? a = some v) : ∃ t k, w.shape? a.block = some (t, k) ∧ k ≠ 0 := by
  unfold World.cell? at h
  unfold World.shape?
  split at h
  · next c t f e =>
    refine ⟨t, c.size, rfl, fun h0 => ?_⟩
    split at h
    · cases h
    · rw [Array.getElem?_eq_none (by omega)] at h
      cases h
  · cases h
theorem add0_block (a : Addr) : (a.add 0).block = a.block := by
  unfold Addr.add
  split <;> rfl
theorem sizeS (w : World) : (Go.sizeOf 9).run Try.prog w = .ok 1 w := by
  obtain ⟨i0, hi0, hz0, hz1, hz2⟩ := info_parts infoS
  simp [Go.sizeOf, typeInfo, hi0, hz1]
theorem szS : (Try.prog.info? 9).map (·.size) = some 1 := by
  obtain ⟨i0, hi0, hz0, hz1, hz2⟩ := info_parts infoS
  rw [hi0]; simp [hz1]
theorem oneS (l : List ByteArray) : ∀ v ∈ encs Value.string l, v.oneCell' = true := by
  intro v hv
  obtain ⟨s, _, rfl⟩ := List.mem_map.1 hv
  rfl
theorem encs_get {l : List ByteArray} {j : Nat} {u : Value} (h : (encs Value.string l)[j]? = some u) : j < l.length ∧ u = .string (l.getD j ByteArray.empty) := by
  unfold encs at h
  rw [List.getElem?_map] at h
  obtain ⟨s, hs, rfl⟩ := Option.map_eq_some_iff.1 h
  obtain ⟨hj, rfl⟩ := List.getElem?_eq_some_iff.1 hs
  exact ⟨hj, by simp [List.getD_eq_getElem?_getD, List.getElem?_eq_getElem hj]⟩
theorem src_of {w : World} {ad : Addr} {m : Nat} {ys : List ByteArray} (h : ReadsOf Value.string ByteArray.empty w (some ad) m ys) : ∀ j u, (encs Value.string ys)[j]? = some u → w.cell? (ad.add j) = some u := by
  intro j u hj
  obtain ⟨h1, rfl⟩ := encs_get hj
  have hm := h.1
  obtain ⟨ad', e, hc⟩ := h.2.2 (by omega)
  cases e
  exact hc j (by omega)
set_option maxRecDepth 20000 in
set_option maxHeartbeats 4000000 in
theorem ins_end (w : World) (base : Nat) (v : Value) (l ys : List ByteArray) (hv : w.ownsRow base 9 1 v l.length (encs Value.string l)) (hb : base ≤ w.heap.size) (A : Option Addr) (mc : Nat) (hy : ReadsOf Value.string ByteArray.empty w A ys.length ys) (hm : 0 < ys.length) (hl : l.length ≤ 1000) (hyl : ys.length ≤ 1000) :
    Calls Try.prog 49 #[v, .int .i64 l.length, .slice A ys.length mc] w (RepPost w base v (l ++ ys)) := by
  obtain ⟨B, c, rfl⟩ := own_slice hv
  have HV := Lib.hid hv
  have HY := Lib.hid hy
  have hz1 : ¬ ((ys.length : Int) = 0) := by omega
  have hcc := own_cap hv
  clear hv hy
  go_enter Try.func49, Try.ntmps49
  go_wp2_with (
    at_builtin
    refine print_append_row_of (w0 := w) Value.string ByteArray.empty base rfl _ _ 22 9 (.string .empty) 16 rfl Try.underlying22 infoS rfl (by decide) (fun _ => rfl) (.slice B l.length c) l ys A ys.length mc rfl rfl HV.out HY.out (Below.refl _ _) hb (by omega) ?_
    intro v1 w1 hown hbel hgrow hat
    have HO := Lib.hid hown
    have HB := Lib.hid hgrow
    clear hown hbel hgrow hat)
  all_goals (go_ret; exact ⟨v1, rfl, HO.out, by cases B <;> exact HB.out⟩)
set_option maxRecDepth 100000 in
set_option maxHeartbeats 40000000 in
theorem ins_shift (w : World) (base g cap : Nat) (L : List Value) (l ys : List ByteArray) (x : Nat) (hr : Rw w g 9 L) (hg : base ≤ g) (hL : L.length = cap) (hm : cap ≤ maxLen) (hlt : L.take l.length = encs Value.string l)
    (hx : x < l.length) (hroom : l.length + ys.length ≤ cap) (ad : Addr) (mc : Nat) (hy : ReadsOf Value.string ByteArray.empty w (some ad) ys.length ys) (hy0 : 0 < ys.length) (hne : ad.block ≠ g) (hl : l.length ≤ 1000) (hyl : ys.length ≤ 1000) :
    Calls Try.prog 49 #[.slice (some ⟨g, 0, none⟩) l.length cap, .int .i64 x, .slice (some ad) ys.length mc] w (RepPost w base (.slice (some ⟨g, 0, none⟩) l.length cap) (l.take x ++ ys ++ l.drop x)) := by
  obtain ⟨n, hn⟩ : ∃ n, n = l.length := ⟨_, rfl⟩
  obtain ⟨m, hmm⟩ : ∃ m, m = ys.length := ⟨_, rfl⟩
  have hsrc := src_of hy
  have hyr := hy
  rw [← hmm] at hyr
  obtain ⟨tA, kA, hsA, hkA⟩ := shape_of_cell (hsrc 0 (.string (ys.getD 0 ByteArray.empty)) (by unfold encs; rw [List.getElem?_map, List.getElem?_eq_getElem hy0]; simp [List.getD_eq_getElem?_getD, List.getElem?_eq_getElem hy0]))
  rw [add0_block] at hsA
  have hcap : cap ≤ 9223372036854775807 := by unfold maxLen at hm; omega
  have hov : ∀ lb cb, (callFunc 50 #[.slice (some ad) m mc, .slice (some ⟨g, x + m, none⟩) lb cb]).run Try.prog w = .ok (.value (.bool false)) w := fun lb cb => by
    rw [run_callFunc_extern Try.func50 (by kernel_rfl) (by kernel_rfl) (by kernel_rfl) (e := Extern.SlicesOverlaps.overlaps #[22, 22] #[4]) (by kernel_rfl),
      run_overlaps_row w 22 4 9 Try.underlying22 1 sizeS ad ⟨g, x + m, none⟩ m mc lb cb hne tA 9 kA L.length hsA hkA hr.shape (by omega) (hr.frozen _) (hr.frozen _)]
    rfl
  obtain ⟨tl, htl⟩ : ∃ tl, tl = encs Value.string (l.drop x) := ⟨_, rfl⟩
  obtain ⟨vs, hvs⟩ : ∃ vs, vs = encs Value.string ys := ⟨_, rfl⟩
  have htll : tl.length = n - x := by rw [htl, encs_length, List.length_drop, hn]
  have hvsl : vs.length = m := by rw [hvs, encs_length, hmm]
  have htlc : ∀ j v, tl[j]? = some v → w.cell? ((⟨g, x, none⟩ : Addr).add j) = some v := fun j v hj => by
    rw [Addr.add_lit, hr.cell]
    have h1 : (L.take l.length)[x + j]? = some v := by
      rw [hlt]
      rw [htl] at hj
      unfold encs at hj ⊢
      rw [List.map_drop, List.getElem?_drop] at hj
      exact hj
    rw [List.getElem?_take] at h1
    split at h1
    · exact h1
    · cases h1
  have hc1 : ∀ ty dc sc, (Builtin.copy_ #[22, 22] ty #[.slice (some ⟨g, x + m, none⟩) (n + m - (x + m)) dc, .slice (some ⟨g, x, none⟩) (n + m - x) sc]).run Try.prog w.drew = .ok (goInt tl.length) (w.drew.setCells g (x + m) tl) := fun ty dc sc =>
    hr.drew.copy 22 ty Try.underlying22 szS (x + m) _ dc ⟨g, x, none⟩ _ sc tl (by rw [htll]; simp only [Nat.min_def]; split <;> omega) htlc (by rw [htl]; exact oneS _) (by omega)
  have hR1 : Rw (w.drew.setCells g (x + m) tl) g 9 (put L (x + m) tl) := Rw.sets tl (x + m) _ _ hr.drew (by omega)
  have hG1 : w.grownBy (w.drew.setCells g (x + m) tl) (some g) := grown_trans (grown_drew w _) (grown_sets g tl (x + m) w.drew)
  have hpl : (put L (x + m) tl).length = cap := by rw [put_len (by omega), hL]
  obtain ⟨W1, hW1⟩ : ∃ W1, W1 = w.drew.setCells g (x + m) tl := ⟨_, rfl⟩
  rw [← hW1] at hc1 hR1 hG1
  have hsrc1 : ∀ j u, vs[j]? = some u → W1.cell? (ad.add j) = some u := fun j u hj => by
    have h0 := hsrc j u (by rw [← hvs]; exact hj)
    rw [← h0]
    refine World.cell?_of_block (hG1.block _ (World.block_lt_of_cell? w _ h0) ?_)
    intro e
    have e2 : (ad.add j).block = ad.block := by unfold Addr.add; split <;> rfl
    rw [e2] at e
    exact hne (Option.some.inj e)
  have hc2 : ∀ ty dc, (Builtin.copy_ #[22, 22] ty #[.slice (some ⟨g, x, none⟩) (n + m - x) dc, .slice (some ad) m mc]).run Try.prog W1 = .ok (goInt vs.length) (W1.setCells g x vs) := fun ty dc =>
    hR1.copy 22 ty Try.underlying22 szS x _ dc ad m mc vs (by rw [hvsl]; simp only [Nat.min_def]; split <;> omega) hsrc1 (by rw [hvs]; exact oneS _) (by omega)
  have hR2 : Rw (W1.setCells g x vs) g 9 (put (put L (x + m) tl) x vs) := Rw.sets vs x _ _ hR1 (by omega)
  have hG2 : w.grownBy (W1.setCells g x vs) (some g) := grown_trans hG1 (grown_sets g vs x W1)
  have hfin : (put (put L (x + m) tl) x vs).take (n + m) = encs Value.string (l.take x ++ ys ++ l.drop x) := by
    have h := put_tv L vs tl x (by omega)
    rw [hvsl, htll, show x + m + (n - x) = n + m by omega] at h
    rw [h, encs_append, encs_append, ← hvs, ← htl]
    congr 2
    have h2 : (L.take l.length).take x = (encs Value.string l).take x := by rw [hlt]
    rw [List.take_take, Nat.min_eq_left (by omega)] at h2
    rw [h2]
    unfold encs
    rw [List.map_take]
  have hown : (W1.setCells g x vs).ownsRow base 9 1 (.slice (some ⟨g, 0, none⟩) (n + m) cap) (l.take x ++ ys ++ l.drop x).length (encs Value.string (l.take x ++ ys ++ l.drop x)) := by
    have h := hR2.own (base := base) (n := n + m) (cap := cap) hg (by rw [put_len (by omega), hpl]) (by omega) hm
    rw [hfin] at h
    rw [show (l.take x ++ ys ++ l.drop x).length = n + m by simp only [List.length_append, List.length_take, List.length_drop]; omega]
    exact h
  have HF := Lib.hid (And.intro hown hG2)
  have hz1 : ¬ ((m : Int) = 0) := by omega
  have hz2 : ¬ ((x : Int) = (n : Int)) := by omega
  have hw0 : IntKind.i64.wrap ((n : Int) + (m : Int)) = (n : Int) + (m : Int) := by rw [IntKind.wrap_i64]; omega
  have hw1 : IntKind.i64.wrap ((x : Int) + (m : Int)) = (x : Int) + (m : Int) := by rw [IntKind.wrap_i64]; omega
  have hz3 : ¬ ((cap : Int) < (n : Int) + (m : Int)) := by omega
  have hb1 : (0 : Int) ≤ (x : Int) + (m : Int) := by omega
  have hb5 : (0 : Int) ≤ (n : Int) + (m : Int) := by omega
  have hb6 : (n : Int) + (m : Int) ≤ (cap : Int) := by omega
  have hxn : (x : Int) ≤ (n : Int) := by omega
  have htn : ((x : Int) + (m : Int)).toNat = x + m := by omega
  have htn2 : ((n : Int) + (m : Int)).toNat = n + m := by omega
  have hb2 : ¬ (cap = x + m) := by omega
  have hb3 : (x : Int) ≤ (n : Int) + (m : Int) := by omega
  have hb4 : ¬ (cap = x) := by omega
  have hb7 : (x : Int) + (m : Int) ≤ (n : Int) + (m : Int) := by omega
  rw [← hn, ← hmm]
  have mixed : Try.prog.follows Departure.mixedOrders = true := by kernel_rfl
  have HNM := Lib.hid (And.intro hn hmm)
  clear hn hmm
  clear hsrc hyr hy hlt hfin hown hG1 hG2 hR1 hR2 hsrc1 htlc htl hvs hsA hr hL hpl htll hvsl
  go_enter Try.func49, Try.ntmps49
  go_wp2_with (simp only [hov])
  go_region_law_o (refine step_copy_runI rfl _ _ 22 22 rfl _ _ (by simp [Act.eval, Act.put]) (by simp [Act.eval, Act.put]) (hc1 _ _ _) ?_)
  rw [← hW1]
  clear hW1 hc1
  go_wp2_with (at_builtin; refine wpList_copy_runI _ rfl _ _ 22 22 rfl _ _ rfl rfl (hc2 _ _) ?_)
  go_ret
  exact ⟨_, rfl, HF.out.1, HF.out.2⟩
theorem grown_new {w W : World} {N : Nat} (h : w.grownBy W none) (hN : w.heap.size ≤ N) (o : Nat) (vs : List Value) : w.grownBy (W.setCells N o vs) none := by
  have hs := grown_sets N vs o W
  exact ⟨hs.os.trans h.os, hs.tape.trans h.tape, hs.output.trans h.output, Nat.le_trans h.size hs.size, fun k hk hn => (hs.block k (Nat.lt_of_lt_of_le hk h.size) (by intro e; have := Option.some.inj e; omega)).trans (h.block k hk hn)⟩
theorem grown_any {w W : World} (h : w.grownBy W none) (r : Option Nat) : w.grownBy W r := ⟨h.os, h.tape, h.output, h.size, fun k hk _ => h.block k hk (by simp)⟩
theorem grown_cell {w W : World} (h : w.grownBy W none) {a : Addr} {v : Value} (hc : w.cell? a = some v) : W.cell? a = some v := h.cell hc (by simp)
theorem addn_block (a : Addr) (j : Nat) : (a.add j).block = a.block := by
  unfold Addr.add
  split <;> rfl
/-- The first cells of a row, as what append reads. -/
theorem rw_first {w : World} {g n cap : Nat} {L : List Value} (h : Rw w g 9 L) (hl : n ≤ L.length) : (Builtin.firstCells 1 n (.slice (some ⟨g, 0, none⟩) n cap)).run Try.prog w = .ok (L.take n).toArray w :=
  run_firstCells_some w 1 n ⟨g, 0, none⟩ n cap (L.take n) (by rw [List.length_take]; omega) (fun j v hj => by
    rw [Addr.add_lit, Nat.zero_add, h.cell]
    rw [List.getElem?_take] at hj
    split at hj
    · exact hj
    · cases hj)
/-- The cells from z on of the lines that a row holds. -/
theorem rw_tail {w : World} {g z : Nat} {e : TypeId} {L : List Value} {l : List ByteArray} (h : Rw w g e L) (hlt : L.take l.length = encs Value.string l) : ∀ j v, (encs Value.string (l.drop z))[j]? = some v → w.cell? ((⟨g, z, none⟩ : Addr).add j) = some v := by
  intro j v hj
  rw [Addr.add_lit, h.cell]
  have h1 : (L.take l.length)[z + j]? = some v := by
    rw [hlt]
    unfold encs at hj ⊢
    rw [List.map_drop, List.getElem?_drop] at hj
    exact hj
  rw [List.getElem?_take] at h1
  split at h1
  · exact h1
  · cases h1
theorem take_encs {L : List Value} {l : List ByteArray} (hlt : L.take l.length = encs Value.string l) {x : Nat} (hx : x ≤ l.length) : L.take x = encs Value.string (l.take x) := by
  have h2 : (L.take l.length).take x = (encs Value.string l).take x := by rw [hlt]
  rw [List.take_take, Nat.min_eq_left hx] at h2
  rw [h2]
  unfold encs
  rw [List.map_take]
/-- A new row of x lines and empty ones: what append of a make lays. -/
structure Grown (w : World) (W : World) (G : Nat) (R0 : List Value) (olds : List Value) (tot : Nat) : Prop where
  rw : Rw W w.heap.size 9 R0
  len : R0.length = G
  tot : tot ≤ G
  max : G ≤ maxLen
  old : R0.take olds.length = olds
  gr : w.grownBy W none
theorem append_make (w : World) (g cap x tot : Nat) (L : List Value) (hr : Rw w g 9 L) (hL : L.length = cap) (hx : x < tot) (hxc : x ≤ cap) (hc : cap < tot) (ht : tot ≤ 3000) : ∃ G W R0, Grown w W G R0 (L.take x) tot ∧
    ∀ ty, (Builtin.append_ #[22, 3] ty #[.slice (some ⟨g, 0, none⟩) x cap, .int .i64 ((tot : Int) - (x : Int))]).run Try.prog w = .ok (.slice (some ⟨w.heap.size, 0, none⟩) tot G) W := by
  obtain ⟨i0, hi0, hz0, hz1, hz2⟩ := info_parts infoS
  have hold := rw_first (cap := cap) hr.drew (n := x) (by omega)
  have h := fun ty => Lib.run_append_grow_zeros (P := Try.prog) w 22 3 ty 9 i0 _ .i64 .i64 Try.underlying22 Try.underlying3 hi0 hz0 (some ⟨g, 0, none⟩) x cap (L.take x) (by rw [hz1]; exact hold) (tot - x) (by omega) (by omega) (by omega) (by omega) (by rw [hz2]; omega) (by rw [hz2, show x + (tot - x) = tot by omega]; exact growslice_fits hc (by omega))
  rw [show x + (tot - x) = tot by omega] at h
  obtain ⟨G, hG⟩ : ∃ G, G = grownCap w tot cap 9 := ⟨_, rfl⟩
  obtain ⟨ROW, hROW⟩ : ∃ ROW : Array Value, ROW = (L.take x).toArray ++ Builtin.zeroCells (Value.string ByteArray.empty).cells (tot - x) ++ Builtin.zeroCells (Value.string ByteArray.empty).cells (G - tot) := ⟨_, rfl⟩
  rw [← hG, ← hROW] at h
  have hG1 : tot ≤ G := by rw [hG]; exact grownCap_ge w _ _ _
  have hG2 : G ≤ maxLen := by rw [hG]; exact grownCap_le_maxLen w _ _ _ (by unfold maxLen; omega)
  have hxl : (L.take x).length = x := by rw [List.length_take]; omega
  refine ⟨G, w.drew.alloc (.cells ROW 9), ROW.toList, ⟨?_, ?_, hG1, hG2, ?_, ?_⟩, fun ty => ?_⟩
  · show (w.drew.alloc (.cells ROW 9)).heap[w.heap.size]? = some (.cells ROW.toList.toArray 9 (0, 0))
    rw [show ROW.toList.toArray = ROW by simp]
    exact heap_alloc_new w.drew _
  · rw [Array.length_toList, hROW]
    simp only [Array.size_append, List.size_toArray, hxl, Builtin.zeroCells, Value.cells, Array.size_ofFn]
    simp
    omega
  · rw [hROW]
    simp only [Array.toList_append, List.append_assoc]
    rw [List.take_append_of_le_length (Nat.le_refl _), List.take_of_length_le (Nat.le_refl _)]
  · exact grown_trans (grown_drew w none) (World.grownBy_alloc w.drew _ none)
  · rw [show ((tot : Int) - (x : Int)) = ((tot - x : Nat) : Int) by omega]
    exact h ty
end Go.Proofs.Ytmnpcignolofaaa

/-! HInsG: slices.Insert at []string where there is no room: a new row. -/
namespace Go.Proofs.Ytmnpcignolofaaa
set_option linter.unusedVariables false
set_option linter.unusedSimpArgs false
open Go.RowKit Go.Shelf Go.Proofs.YtmnpcignolofaaaW.PrintWords Go.Proofs.YtmnpcignolofaaaW.PrintMore
set_option maxRecDepth 100000 in
set_option maxHeartbeats 40000000 in
theorem ins_grow (w : World) (base g cap : Nat) (L : List Value) (l ys : List ByteArray) (x : Nat) (hr : Rw w g 9 L) (hb : base ≤ w.heap.size) (hL : L.length = cap) (hm : cap ≤ maxLen) (hlt : L.take l.length = encs Value.string l) (hlc : l.length ≤ cap)
    (hx : x < l.length) (hroom : cap < l.length + ys.length) (ad : Addr) (mc : Nat) (hy : ReadsOf Value.string ByteArray.empty w (some ad) ys.length ys) (hy0 : 0 < ys.length) (hl : l.length ≤ 1000) (hyl : ys.length ≤ 1000) :
    Calls Try.prog 49 #[.slice (some ⟨g, 0, none⟩) l.length cap, .int .i64 x, .slice (some ad) ys.length mc] w (RepPost w base (.slice (some ⟨g, 0, none⟩) l.length cap) (l.take x ++ ys ++ l.drop x)) := by
  obtain ⟨n, hn⟩ : ∃ n, n = l.length := ⟨_, rfl⟩
  obtain ⟨m, hmm⟩ : ∃ m, m = ys.length := ⟨_, rfl⟩
  have hsrc := src_of hy
  have hcap : cap ≤ 9223372036854775807 := by unfold maxLen at hm; omega
  obtain ⟨G, W1, R0, HG, happ⟩ := append_make w g cap x (n + m) L hr hL (by omega) (by omega) (by omega) (by omega)
  obtain ⟨tl, htl⟩ : ∃ tl, tl = encs Value.string (l.drop x) := ⟨_, rfl⟩
  obtain ⟨vs, hvs⟩ : ∃ vs, vs = encs Value.string ys := ⟨_, rfl⟩
  have htll : tl.length = n - x := by rw [htl, encs_length, List.length_drop, hn]
  have hvsl : vs.length = m := by rw [hvs, encs_length, hmm]
  have hGt := HG.tot
  have hGm := HG.max
  have hGl := HG.len
  have hG63 : G ≤ 9223372036854775807 := by unfold maxLen at hGm; omega
  have hc1 : ∀ ty dc, (Builtin.copy_ #[22, 22] ty #[.slice (some ⟨w.heap.size, x, none⟩) (n + m - x) dc, .slice (some ad) m mc]).run Try.prog W1 = .ok (goInt vs.length) (W1.setCells w.heap.size x vs) := fun ty dc =>
    HG.rw.copy 22 ty Try.underlying22 szS x _ dc ad m mc vs (by rw [hvsl]; simp only [Nat.min_def]; split <;> omega) (fun j u hj => grown_cell HG.gr (hsrc j u (by rw [← hvs]; exact hj))) (by rw [hvs]; exact oneS _) (by omega)
  have hR1 : Rw (W1.setCells w.heap.size x vs) w.heap.size 9 (put R0 x vs) := Rw.sets vs x _ _ HG.rw (by omega)
  have hg1 : w.grownBy (W1.setCells w.heap.size x vs) none := grown_new HG.gr (Nat.le_refl _) x vs
  have hp1 : (put R0 x vs).length = G := by rw [put_len (by omega), hGl]
  obtain ⟨W2, hW2⟩ : ∃ W2, W2 = W1.setCells w.heap.size x vs := ⟨_, rfl⟩
  rw [← hW2] at hc1 hR1 hg1
  have htlc : ∀ j v, tl[j]? = some v → W2.drew.cell? ((⟨g, x, none⟩ : Addr).add j) = some v := fun j v hj => grown_cell hg1 (rw_tail hr hlt j v (by rw [← htl]; exact hj))
  have hc2 : ∀ ty dc sc, (Builtin.copy_ #[22, 22] ty #[.slice (some ⟨w.heap.size, x + m, none⟩) (n + m - (x + m)) dc, .slice (some ⟨g, x, none⟩) (n - x) sc]).run Try.prog W2.drew = .ok (goInt tl.length) (W2.drew.setCells w.heap.size (x + m) tl) := fun ty dc sc =>
    hR1.drew.copy 22 ty Try.underlying22 szS (x + m) _ dc ⟨g, x, none⟩ _ sc tl (by rw [htll]; simp only [Nat.min_def]; split <;> omega) htlc (by rw [htl]; exact oneS _) (by omega)
  have hR2 : Rw (W2.drew.setCells w.heap.size (x + m) tl) w.heap.size 9 (put (put R0 x vs) (x + m) tl) := Rw.sets tl (x + m) _ _ hR1.drew (by omega)
  have hg2 : w.grownBy (W2.drew.setCells w.heap.size (x + m) tl) none := grown_new (grown_trans hg1 (grown_drew W2 none)) (Nat.le_refl _) _ tl
  have hfin : (put (put R0 x vs) (x + m) tl).take (n + m) = encs Value.string (l.take x ++ ys ++ l.drop x) := by
    have h := put_vt R0 vs tl x (by omega)
    rw [hvsl, htll, show x + m + (n - x) = n + m by omega] at h
    have ho := HG.old
    rw [show (L.take x).length = x by rw [List.length_take]; omega] at ho
    rw [h, encs_append, encs_append, ← hvs, ← htl, ho, take_encs hlt (by omega)]
  have hown : (W2.drew.setCells w.heap.size (x + m) tl).ownsRow base 9 1 (.slice (some ⟨w.heap.size, 0, none⟩) (n + m) G) (l.take x ++ ys ++ l.drop x).length (encs Value.string (l.take x ++ ys ++ l.drop x)) := by
    have h := hR2.own (base := base) (n := n + m) (cap := G) hb (by rw [put_len (by omega), hp1]) hGt hGm
    rw [hfin] at h
    rw [show (l.take x ++ ys ++ l.drop x).length = n + m by simp only [List.length_append, List.length_take, List.length_drop]; omega]
    exact h
  have HF := Lib.hid (And.intro hown (grown_any hg2 (some g)))
  have hz1 : ¬ ((m : Int) = 0) := by omega
  have hz2 : ¬ ((x : Int) = (n : Int)) := by omega
  have hw0 : IntKind.i64.wrap ((n : Int) + (m : Int)) = (n : Int) + (m : Int) := by rw [IntKind.wrap_i64]; omega
  have hw2 : IntKind.i64.wrap ((n : Int) + (m : Int) - (x : Int)) = (n : Int) + (m : Int) - (x : Int) := by rw [IntKind.wrap_i64]; omega
  have hw1 : IntKind.i64.wrap ((x : Int) + (m : Int)) = (x : Int) + (m : Int) := by rw [IntKind.wrap_i64]; omega
  have hz3 : (cap : Int) < (n : Int) + (m : Int) := by omega
  have hb1 : (0 : Int) ≤ (x : Int) + (m : Int) := by omega
  have hxn : (x : Int) ≤ (n : Int) := by omega
  have hxc : (x : Int) ≤ (cap : Int) := by omega
  have htn : ((x : Int) + (m : Int)).toNat = x + m := by omega
  have hb2 : ¬ (G = x + m) := by omega
  have hb8 : ¬ (G = x) := by omega
  have hb3 : (x : Int) ≤ (n : Int) + (m : Int) := by omega
  have hb4 : ¬ (cap = x) := by omega
  have hb7 : (x : Int) + (m : Int) ≤ (n : Int) + (m : Int) := by omega
  have mixed : Try.prog.follows Departure.mixedOrders = true := by kernel_rfl
  have hcst : (((n + m : Nat) : Int) - (x : Int)) = (n : Int) + (m : Int) - (x : Int) := by omega
  rw [hcst] at happ
  have HNM := Lib.hid (And.intro hn hmm)
  rw [← hn, ← hmm]
  clear hsrc hy hlt hfin hown hg1 hg2 hR1 hR2 htlc htl hvs hr hL hp1 htll hvsl HG hGl hGm hcst hn hmm hW2
  go_enter Try.func49, Try.ntmps49
  go_wp2_with (first
    | (at_builtin; refine Lib.wpList_append_run _ rfl _ _ _ _ rfl _ _ rfl rfl _ _ (happ _) ?_)
    | (at_builtin; refine wpList_copy_runI _ rfl _ _ 22 22 rfl _ _ rfl rfl (hc1 _ _) ?_))
  go_region_law_o (refine step_copy_runI rfl _ _ 22 22 rfl (.slice (some ⟨w.heap.size, x + m, none⟩) (n + m - (x + m)) (G - (x + m))) (.slice (some ⟨g, x, none⟩) (n - x) (cap - x)) (by simp [Act.eval, Act.put]) (by simp [Act.eval, Act.put]) (hc2 3 (G - (x + m)) (cap - x)) ?_)
  go_wp2_with fail
  go_ret
  exact ⟨_, rfl, HF.out.1, HF.out.2⟩
end Go.Proofs.Ytmnpcignolofaaa

/-! HRepA: slices.Replace at []string: in place (the rest moved up), and a new row. -/
namespace Go.Proofs.Ytmnpcignolofaaa
set_option linter.unusedVariables false
set_option linter.unusedSimpArgs false
open Go.RowKit Go.Shelf Go.Proofs.YtmnpcignolofaaaW.PrintWords Go.Proofs.YtmnpcignolofaaaW.PrintMore
theorem ins_calls (w : World) (base : Nat) (v : Value) (l ys : List ByteArray) (x : Nat) (hv : w.ownsRow base 9 1 v l.length (encs Value.string l)) (hb : base ≤ w.heap.size) (hx : x ≤ l.length) (ad : Addr) (mc : Nat) (hy : ReadsOf Value.string ByteArray.empty w (some ad) ys.length ys) (hm : 0 < ys.length) (hne : some ad.block ≠ v.ownBlock) (hl : l.length ≤ 1000) (hyl : ys.length ≤ 1000) :
    Calls Try.prog 49 #[v, .int .i64 x, .slice (some ad) ys.length mc] w (RepPost w base v (l.take x ++ ys ++ l.drop x)) := by
  rcases Nat.lt_or_eq_of_le hx with h | h
  · rcases own_rw hv with ⟨_, h0, _⟩ | ⟨g, cap, L, rfl, hg, hr, hn, hmx, hL, ht⟩
    · omega
    · rcases Nat.lt_or_ge cap (l.length + ys.length) with h1 | h1
      · exact ins_grow w base g cap L l ys x hr hb hL hmx ht hn h h1 ad mc hy hm hl hyl
      · exact ins_shift w base g cap L l ys x hr hg hL hmx ht h h1 ad mc hy hm (fun e => hne (by rw [e]; rfl)) hl hyl
  · subst h
    have h := ins_end w base v l ys hv hb (some ad) mc hy hm hl hyl
    rw [List.take_length, List.drop_length, List.append_nil]
    exact h
/-- What Replace says: the lines from x to z give way to ys. -/
structure RepIn (w : World) (base g cap : Nat) (L : List Value) (l ys : List ByteArray) (x z n m q : Nat) (A : Option Addr) : Prop where
  r : Rw w g 9 L
  hb : base ≤ w.heap.size
  hg : base ≤ g
  hL : L.length = cap
  hm : cap ≤ maxLen
  ht : L.take l.length = encs Value.string l
  hlc : n ≤ cap
  hx : x < z
  hz : z + q = n
  hn : n = l.length
  hmm : m = ys.length
  hy : ReadsOf Value.string ByteArray.empty w A m ys
  hne : 0 < m → ∀ ad, A = some ad → ad.block ≠ g
  hl : n ≤ 1000
  hyl : m ≤ 1000
set_option maxRecDepth 100000 in
set_option maxHeartbeats 40000000 in
theorem rep_grow (w : World) (base g cap : Nat) (L : List Value) (l ys : List ByteArray) (x z n m q : Nat) (ad : Addr) (mc : Nat) (h : RepIn w base g cap L l ys x z n m q (some ad)) (hq : 0 < q) (hroom : cap < x + m + q) :
    Calls Try.prog 40 #[.slice (some ⟨g, 0, none⟩) n cap, .int .i64 x, .int .i64 z, .slice (some ad) m mc] w (RepPost w base (.slice (some ⟨g, 0, none⟩) n cap) (l.take x ++ ys ++ l.drop z)) := by
  obtain ⟨hr, hb, hg, hL, hm, hlt, hlc, hx, hz, hn, hmm, hy, hne, hl, hyl⟩ := h
  have hcap : cap ≤ 9223372036854775807 := by unfold maxLen at hm; omega
  have hnz : n - z = q := by omega
  have hz1 : ¬ ((x : Int) = (z : Int)) := by omega
  have hz2 : ¬ ((z : Int) = (n : Int)) := by omega
  have hw1 : IntKind.i64.wrap ((x : Int) + (m : Int)) = (x : Int) + (m : Int) := by rw [IntKind.wrap_i64]; omega
  have hw0 : IntKind.i64.wrap ((x : Int) + (m : Int) + (q : Int)) = (x : Int) + (m : Int) + (q : Int) := by rw [IntKind.wrap_i64]; omega
  have hw2 : IntKind.i64.wrap ((x : Int) + (m : Int) + (q : Int) - (x : Int)) = (x : Int) + (m : Int) + (q : Int) - (x : Int) := by rw [IntKind.wrap_i64]; omega
  have hz3 : (cap : Int) < (x : Int) + (m : Int) + (q : Int) := by omega
  have hb1 : (0 : Int) ≤ (x : Int) + (m : Int) := by omega
  have hxz : (x : Int) ≤ (z : Int) := by omega
  have hzn : (z : Int) ≤ (n : Int) := by omega
  have hzc : (z : Int) ≤ (cap : Int) := by omega
  have hxc : (x : Int) ≤ (cap : Int) := by omega
  have htn : ((x : Int) + (m : Int)).toNat = x + m := by omega
  have hb3 : (x : Int) ≤ (x : Int) + (m : Int) + (q : Int) := by omega
  have hb4 : ¬ (cap = x) := by omega
  have hb9 : ¬ (cap = z) := by omega
  have hb7 : (x : Int) + (m : Int) ≤ (x : Int) + (m : Int) + (q : Int) := by omega
  have mixed : Try.prog.follows Departure.mixedOrders = true := by kernel_rfl
  have HH := Lib.hid (And.intro hr (And.intro hy (And.intro hn (And.intro hmm (And.intro hlt hz)))))
  clear hr hy hn hmm hlt hz
  go_enter Try.func40, Try.ntmps40
  go_wp2_with fail
  go_quiet (fail)
  obtain ⟨hr0, hy0, hn, hmm, hlt, hz⟩ := HH.out
  have hr : Rw (w.drewN nq) g 9 L := hr0
  have hy : ReadsOf Value.string ByteArray.empty (w.drewN nq) (some ad) m ys := hy0
  have hb0 : base ≤ (w.drewN nq).heap.size := hb
  have hgr : w.grownBy (w.drewN nq) none := ⟨rfl, rfl, rfl, Nat.le_refl _, fun _ _ _ => rfl⟩
  clear hr0 hy0 HH
  generalize w.drewN nq = w0 at *
  have hsrc := src_of hy
  obtain ⟨G, W1, R0, HG, happ⟩ := append_make w0 g cap x (x + m + q) L hr hL (by omega) (by omega) (by omega) (by omega)
  obtain ⟨tl, htl⟩ : ∃ tl, tl = encs Value.string (l.drop z) := ⟨_, rfl⟩
  obtain ⟨vs, hvs⟩ : ∃ vs, vs = encs Value.string ys := ⟨_, rfl⟩
  have htll : tl.length = q := by rw [htl, encs_length, List.length_drop]; omega
  have hvsl : vs.length = m := by rw [hvs, encs_length, hmm]
  have hGt := HG.tot
  have hGm := HG.max
  have hGl := HG.len
  have hG63 : G ≤ 9223372036854775807 := by unfold maxLen at hGm; omega
  have hc1 : ∀ ty dc, (Builtin.copy_ #[22, 22] ty #[.slice (some ⟨w0.heap.size, x, none⟩) (x + m + q - x) dc, .slice (some ad) m mc]).run Try.prog W1 = .ok (goInt vs.length) (W1.setCells w0.heap.size x vs) := fun ty dc =>
    HG.rw.copy 22 ty Try.underlying22 szS x _ dc ad m mc vs (by rw [hvsl]; simp only [Nat.min_def]; split <;> omega) (fun j u hj => grown_cell HG.gr (hsrc j u (by rw [← hvs]; exact hj))) (by rw [hvs]; exact oneS _) (by omega)
  have hR1 : Rw (W1.setCells w0.heap.size x vs) w0.heap.size 9 (put R0 x vs) := Rw.sets vs x _ _ HG.rw (by omega)
  have hg1 : w0.grownBy (W1.setCells w0.heap.size x vs) none := grown_new HG.gr (Nat.le_refl _) x vs
  have hp1 : (put R0 x vs).length = G := by rw [put_len (by omega), hGl]
  obtain ⟨W2, hW2⟩ : ∃ W2, W2 = W1.setCells w0.heap.size x vs := ⟨_, rfl⟩
  rw [← hW2] at hc1 hR1 hg1
  have htlc : ∀ j v, tl[j]? = some v → W2.drew.cell? ((⟨g, z, none⟩ : Addr).add j) = some v := fun j v hj => grown_cell hg1 (rw_tail hr hlt j v (by rw [← htl]; exact hj))
  have hc2 : ∀ ty dc sc, (Builtin.copy_ #[22, 22] ty #[.slice (some ⟨w0.heap.size, x + m, none⟩) q dc, .slice (some ⟨g, z, none⟩) q sc]).run Try.prog W2.drew = .ok (goInt tl.length) (W2.drew.setCells w0.heap.size (x + m) tl) := fun ty dc sc =>
    hR1.drew.copy 22 ty Try.underlying22 szS (x + m) _ dc ⟨g, z, none⟩ _ sc tl (by rw [htll]; simp only [Nat.min_def]; split <;> omega) htlc (by rw [htl]; exact oneS _) (by omega)
  have hR2 : Rw (W2.drew.setCells w0.heap.size (x + m) tl) w0.heap.size 9 (put (put R0 x vs) (x + m) tl) := Rw.sets tl (x + m) _ _ hR1.drew (by omega)
  have hg2 : w0.grownBy (W2.drew.setCells w0.heap.size (x + m) tl) none := grown_new (grown_trans hg1 (grown_drew W2 none)) (Nat.le_refl _) _ tl
  have hfin : (put (put R0 x vs) (x + m) tl).take (x + m + q) = encs Value.string (l.take x ++ ys ++ l.drop z) := by
    have h := put_vt R0 vs tl x (by omega)
    rw [hvsl, htll] at h
    have ho := HG.old
    rw [show (L.take x).length = x by rw [List.length_take]; omega] at ho
    rw [h, encs_append, encs_append, ← hvs, ← htl, ho, take_encs hlt (by omega)]
  have hown : (W2.drew.setCells w0.heap.size (x + m) tl).ownsRow base 9 1 (.slice (some ⟨w0.heap.size, 0, none⟩) (x + m + q) G) (l.take x ++ ys ++ l.drop z).length (encs Value.string (l.take x ++ ys ++ l.drop z)) := by
    have h := hR2.own (base := base) (n := x + m + q) (cap := G) hb0 (by rw [put_len (by omega), hp1]) hGt hGm
    rw [hfin] at h
    rw [show (l.take x ++ ys ++ l.drop z).length = x + m + q by simp only [List.length_append, List.length_take, List.length_drop]; omega]
    exact h
  have HF := Lib.hid (And.intro hown (grown_any (grown_trans hgr hg2) (some g)))
  have hb2 : ¬ (G = x + m) := by omega
  have hb8 : ¬ (G = x) := by omega
  have hcst : (((x + m + q : Nat) : Int) - (x : Int)) = (x : Int) + (m : Int) + (q : Int) - (x : Int) := by omega
  rw [hcst] at happ
  clear hsrc hy hlt hfin hown hg1 hg2 hR1 hR2 htlc htl hvs hr hL hp1 htll hvsl HG hGl hGm hcst hn hmm hW2 hz hne hgr hb0
  go_wp2_with (first
    | (at_builtin; refine Lib.wpList_append_run _ rfl _ _ _ _ rfl _ _ rfl rfl _ _ (happ _) ?_)
    | (at_builtin; refine wpList_copy_runI _ rfl _ _ 22 22 rfl _ _ rfl rfl (hc1 _ _) ?_))
  go_region_law_o (refine step_copy_runI rfl _ _ 22 22 rfl _ _ (by simp [Act.eval, Act.put]) (by simp [Act.eval, Act.put]) (hc2 _ _ _) ?_)
  go_wp2_with fail
  go_ret
  exact ⟨_, rfl, HF.out.1, HF.out.2⟩
end Go.Proofs.Ytmnpcignolofaaa

/-! HRepB: slices.Replace at []string: in place, the rest moved up. -/
namespace Go.Proofs.Ytmnpcignolofaaa
set_option linter.unusedVariables false
set_option linter.unusedSimpArgs false
open Go.RowKit Go.Shelf Go.Proofs.YtmnpcignolofaaaW.PrintWords Go.Proofs.YtmnpcignolofaaaW.PrintMore
theorem grown_srcs {w W : World} {g : Nat} {ad : Addr} {vs : List Value} (h : w.grownBy W (some g)) (hne : ad.block ≠ g) (hs : ∀ j u, vs[j]? = some u → w.cell? (ad.add j) = some u) : ∀ j u, vs[j]? = some u → W.cell? (ad.add j) = some u := fun j u hj =>
  h.cell (hs j u hj) (by rw [addn_block]; intro e; exact hne (Option.some.inj e))
set_option maxRecDepth 100000 in
set_option maxHeartbeats 40000000 in
theorem rep_room (w : World) (base g cap : Nat) (L : List Value) (l ys : List ByteArray) (x z n m q : Nat) (ad : Addr) (mc : Nat) (h : RepIn w base g cap L l ys x z n m q (some ad)) (hq : 0 < q) (hroom : x + m + q ≤ cap) (hbig : z < x + m) :
    Calls Try.prog 40 #[.slice (some ⟨g, 0, none⟩) n cap, .int .i64 x, .int .i64 z, .slice (some ad) m mc] w (RepPost w base (.slice (some ⟨g, 0, none⟩) n cap) (l.take x ++ ys ++ l.drop z)) := by
  obtain ⟨hr, hb, hg, hL, hm, hlt, hlc, hx, hz, hn, hmm, hy, hne, hl, hyl⟩ := h
  have hcap : cap ≤ 9223372036854775807 := by unfold maxLen at hm; omega
  have hnz : n - z = q := by omega
  have hz1 : ¬ ((x : Int) = (z : Int)) := by omega
  have hz2 : ¬ ((z : Int) = (n : Int)) := by omega
  have hw1 : IntKind.i64.wrap ((x : Int) + (m : Int)) = (x : Int) + (m : Int) := by rw [IntKind.wrap_i64]; omega
  have hw0 : IntKind.i64.wrap ((x : Int) + (m : Int) + (q : Int)) = (x : Int) + (m : Int) + (q : Int) := by rw [IntKind.wrap_i64]; omega
  have hz3 : ¬ ((cap : Int) < (x : Int) + (m : Int) + (q : Int)) := by omega
  have hz4 : ¬ ((x : Int) + (m : Int) ≤ (z : Int)) := by omega
  have hb0 : (0 : Int) ≤ (x : Int) + (m : Int) + (q : Int) := by omega
  have hb1 : (0 : Int) ≤ (x : Int) + (m : Int) := by omega
  have hb6 : (x : Int) + (m : Int) + (q : Int) ≤ (cap : Int) := by omega
  have hxz : (x : Int) ≤ (z : Int) := by omega
  have hzn : (z : Int) ≤ (n : Int) := by omega
  have hzc : (z : Int) ≤ (cap : Int) := by omega
  have hxc : (x : Int) ≤ (cap : Int) := by omega
  have htn : ((x : Int) + (m : Int)).toNat = x + m := by omega
  have htn2 : ((x : Int) + (m : Int) + (q : Int)).toNat = x + m + q := by omega
  have hb3 : (x : Int) ≤ (x : Int) + (m : Int) + (q : Int) := by omega
  have hb2 : ¬ (cap = x + m) := by omega
  have hb4 : ¬ (cap = x) := by omega
  have hb9 : ¬ (cap = z) := by omega
  have hb7 : (x : Int) + (m : Int) ≤ (x : Int) + (m : Int) + (q : Int) := by omega
  have mixed : Try.prog.follows Departure.mixedOrders = true := by kernel_rfl
  have HH := Lib.hid (And.intro hr (And.intro hy (And.intro hn (And.intro hmm (And.intro hlt hz)))))
  clear hr hy hn hmm hlt hz
  go_enter Try.func40, Try.ntmps40
  go_wp2_with fail
  go_quiet (fail)
  obtain ⟨hr0, hy0, hn, hmm, hlt, hz⟩ := HH.out
  have hr : Rw (w.drewN nq) g 9 L := hr0
  have hy : ReadsOf Value.string ByteArray.empty (w.drewN nq) (some ad) m ys := hy0
  have hb0 : base ≤ (w.drewN nq).heap.size := hb
  have hgr : w.grownBy (w.drewN nq) none := ⟨rfl, rfl, rfl, Nat.le_refl _, fun _ _ _ => rfl⟩
  clear hr0 hy0 HH
  generalize w.drewN nq = w0 at *
  have hsrc := src_of hy
  obtain ⟨tl, htl⟩ : ∃ tl, tl = encs Value.string (l.drop z) := ⟨_, rfl⟩
  obtain ⟨vs, hvs⟩ : ∃ vs, vs = encs Value.string ys := ⟨_, rfl⟩
  have htll : tl.length = q := by rw [htl, encs_length, List.length_drop]; omega
  have hvsl : vs.length = m := by rw [hvs, encs_length, hmm]
  rw [← hvs] at hsrc
  obtain ⟨tA, kA, hsA, hkA⟩ : ∃ t k, w0.shape? ad.block = some (t, k) ∧ k ≠ 0 := by
    have h0 := hsrc 0 _ (List.getElem?_eq_getElem (by omega))
    have h1 := shape_of_cell h0
    rw [add0_block] at h1
    exact h1
  have hov : ∀ lb cb, (callFunc 50 #[.slice (some ⟨g, x + m, none⟩) lb cb, .slice (some ad) m mc]).run Try.prog w0 = .ok (.value (.bool false)) w0 := fun lb cb => by
    rw [run_callFunc_extern Try.func50 (by kernel_rfl) (by kernel_rfl) (by kernel_rfl) (e := Extern.SlicesOverlaps.overlaps #[22, 22] #[4]) (by kernel_rfl),
      Lib.run_overlaps_apart w0 22 4 9 Try.underlying22 1 sizeS ⟨g, x + m, none⟩ ad lb cb m mc (fun e => hne (by omega) ad rfl e.symm) 9 tA L.length kA hr.shape hsA hkA (hr.frozen _) (hr.frozen _)]
    rfl
  have hc1 : ∀ ty dc sc, (Builtin.copy_ #[22, 22] ty #[.slice (some ⟨g, x + m, none⟩) q dc, .slice (some ⟨g, z, none⟩) q sc]).run Try.prog w0.drew = .ok (goInt tl.length) (w0.drew.setCells g (x + m) tl) := fun ty dc sc =>
    hr.drew.copy 22 ty Try.underlying22 szS (x + m) _ dc ⟨g, z, none⟩ _ sc tl (by rw [htll]; simp only [Nat.min_def]; split <;> omega) (fun j v hj => rw_tail hr.drew hlt j v (by rw [← htl]; exact hj)) (by rw [htl]; exact oneS _) (by omega)
  have hR1 : Rw (w0.drew.setCells g (x + m) tl) g 9 (put L (x + m) tl) := Rw.sets tl (x + m) _ _ hr.drew (by omega)
  have hG1 : w0.grownBy (w0.drew.setCells g (x + m) tl) (some g) := grown_trans (grown_drew w0 _) (grown_sets g tl (x + m) w0.drew)
  have hpl : (put L (x + m) tl).length = cap := by rw [put_len (by omega), hL]
  obtain ⟨W1, hW1⟩ : ∃ W1, W1 = w0.drew.setCells g (x + m) tl := ⟨_, rfl⟩
  rw [← hW1] at hc1 hR1 hG1
  have hc2 : ∀ ty dc, (Builtin.copy_ #[22, 22] ty #[.slice (some ⟨g, x, none⟩) (x + m + q - x) dc, .slice (some ad) m mc]).run Try.prog W1 = .ok (goInt vs.length) (W1.setCells g x vs) := fun ty dc =>
    hR1.copy 22 ty Try.underlying22 szS x _ dc ad m mc vs (by rw [hvsl]; simp only [Nat.min_def]; split <;> omega) (grown_srcs hG1 (hne (by omega) ad rfl) hsrc) (by rw [hvs]; exact oneS _) (by omega)
  have hR2 : Rw (W1.setCells g x vs) g 9 (put (put L (x + m) tl) x vs) := Rw.sets vs x _ _ hR1 (by omega)
  have hG2 : w0.grownBy (W1.setCells g x vs) (some g) := grown_trans hG1 (grown_sets g vs x W1)
  have hfin : (put (put L (x + m) tl) x vs).take (x + m + q) = encs Value.string (l.take x ++ ys ++ l.drop z) := by
    have h := put_tv L vs tl x (by omega)
    rw [hvsl, htll] at h
    rw [h, encs_append, encs_append, ← hvs, ← htl, take_encs hlt (by omega)]
  have hown : (W1.setCells g x vs).ownsRow base 9 1 (.slice (some ⟨g, 0, none⟩) (x + m + q) cap) (l.take x ++ ys ++ l.drop z).length (encs Value.string (l.take x ++ ys ++ l.drop z)) := by
    have h := hR2.own (base := base) (n := x + m + q) (cap := cap) hg (by rw [put_len (by omega), hpl]) (by omega) hm
    rw [hfin] at h
    rw [show (l.take x ++ ys ++ l.drop z).length = x + m + q by simp only [List.length_append, List.length_take, List.length_drop]; omega]
    exact h
  have HF := Lib.hid (And.intro hown (grown_trans (grown_any hgr (some g)) hG2))
  clear hsrc hy hlt hfin hown hG1 hG2 hR1 hR2 htl hvs hr hL hpl htll hvsl hn hmm hW1 hz hne hgr hb0 hsA hkA
  go_wp2_with (first | simp only [hov] | (at_builtin; refine wpList_copy_runI _ rfl _ _ 22 22 rfl _ _ rfl rfl (hc2 _ _) ?_))
  go_region_law_o (refine step_copy_runI rfl _ _ 22 22 rfl _ _ (by simp [Act.eval, Act.put]) (by simp [Act.eval, Act.put]) (hc1 _ _ _) ?_)
  go_wp2_with (first | simp only [hov] | (at_builtin; refine wpList_copy_runI _ rfl _ _ 22 22 rfl _ _ rfl rfl (hc2 _ _) ?_))
  go_ret
  exact ⟨_, rfl, HF.out.1, HF.out.2⟩
end Go.Proofs.Ytmnpcignolofaaa

/-! HRepC: slices.Replace at []string: in place, the rest moved down; at the end. -/
namespace Go.Proofs.Ytmnpcignolofaaa
set_option linter.unusedVariables false
set_option linter.unusedSimpArgs false
open Go.RowKit Go.Shelf Go.Proofs.YtmnpcignolofaaaW.PrintWords Go.Proofs.YtmnpcignolofaaaW.PrintMore
theorem run_clear_empty (w : World) (ty : TypeId) (B : Option Addr) (c : Nat) : (Builtin.clear_ #[22] ty #[.slice B 0 c]).run Try.prog w = .ok (.tuple #[]) w := by
  cases B <;> simp [Builtin.clear_, run_underlying Try.underlying22]
theorem zeroS (w : World) : (zeroValue 9).run Try.prog w = .ok (.string .empty) w := by
  obtain ⟨i0, hi0, hz0, hz1, hz2⟩ := info_parts infoS
  simp [zeroValue, typeInfo, hi0, hz0]
/-- clear of the cells of a row from o on. -/
theorem Rw.clear {W : World} {g : Nat} {L : List Value} (h : Rw W g 9 L) (ty : TypeId) (o d c : Nat) (hd : o + d ≤ L.length) (B : Option Addr) (hB : 0 < d → B = some ⟨g, o, none⟩) :
    (Builtin.clear_ #[22] ty #[.slice B d c]).run Try.prog W = .ok (.tuple #[]) (W.setCells g o (List.replicate d (.string .empty))) := by
  rcases Nat.eq_zero_or_pos d with h0 | h0
  · subst h0
    exact run_clear_empty W ty B c
  · rw [hB h0]
    exact Lib.run_clear_slice W 22 9 ty (.string .empty) Try.underlying22 zeroS rfl rfl g o d c h0 (fun j hj => h.has (by omega)) (fun j _ => h.frozen _)
/-- 'copy' of what may be nothing. -/
theorem Rw.copyN {W : World} {g : Nat} {L : List Value} (h : Rw W g 9 L) (ty : TypeId) (o dl dc : Nat) (A : Option Addr) (m sc : Nat) (ys : List ByteArray) (hy : ReadsOf Value.string ByteArray.empty W A m ys) (hd : m ≤ dl) (hf : o + m ≤ L.length) :
    (Builtin.copy_ #[22, 22] ty #[.slice (some ⟨g, o, none⟩) dl dc, .slice A m sc]).run Try.prog W = .ok (goInt (encs Value.string ys).length) (W.setCells g o (encs Value.string ys)) := by
  have hm := hy.1
  have hl : (encs Value.string ys).length = m := by rw [encs_length, hm]
  rcases Nat.eq_zero_or_pos m with h0 | h0
  · have h1 : ys = [] := List.eq_nil_of_length_eq_zero (by omega)
    subst h1 h0
    exact run_copy_none W 22 22 ty 9 _ A dl dc 0 sc Try.underlying22 szS (by simp)
  · obtain ⟨ad, rfl, _⟩ := hy.2.2 h0
    exact h.copy 22 ty Try.underlying22 szS o dl dc ad m sc _ (by rw [hl]; simp only [Nat.min_def]; split <;> omega) (src_of hy) (oneS _) (by omega)
set_option maxRecDepth 100000 in
set_option maxHeartbeats 40000000 in
theorem rep_small (w : World) (base g cap : Nat) (L : List Value) (l ys : List ByteArray) (x z n m q : Nat) (A : Option Addr) (mc : Nat) (h : RepIn w base g cap L l ys x z n m q A) (hq : 0 < q) (hsm : x + m ≤ z) :
    Calls Try.prog 40 #[.slice (some ⟨g, 0, none⟩) n cap, .int .i64 x, .int .i64 z, .slice A m mc] w (RepPost w base (.slice (some ⟨g, 0, none⟩) n cap) (l.take x ++ ys ++ l.drop z)) := by
  obtain ⟨hr, hb, hg, hL, hm, hlt, hlc, hx, hz, hn, hmm, hy, hne, hl, hyl⟩ := h
  have hcap : cap ≤ 9223372036854775807 := by unfold maxLen at hm; omega
  have hnz : n - z = q := by omega
  have hz1 : ¬ ((x : Int) = (z : Int)) := by omega
  have hz2 : ¬ ((z : Int) = (n : Int)) := by omega
  have hw1 : IntKind.i64.wrap ((x : Int) + (m : Int)) = (x : Int) + (m : Int) := by rw [IntKind.wrap_i64]; omega
  have hw0 : IntKind.i64.wrap ((x : Int) + (m : Int) + (q : Int)) = (x : Int) + (m : Int) + (q : Int) := by rw [IntKind.wrap_i64]; omega
  have hz3 : ¬ ((cap : Int) < (x : Int) + (m : Int) + (q : Int)) := by omega
  have hz4 : (x : Int) + (m : Int) ≤ (z : Int) := by omega
  have hb00 : (0 : Int) ≤ (x : Int) + (m : Int) + (q : Int) := by omega
  have hb1 : (0 : Int) ≤ (x : Int) + (m : Int) := by omega
  have hb6 : (x : Int) + (m : Int) + (q : Int) ≤ (cap : Int) := by omega
  have hxz : (x : Int) ≤ (z : Int) := by omega
  have hzn : (z : Int) ≤ (n : Int) := by omega
  have hzc : (z : Int) ≤ (cap : Int) := by omega
  have hxc : (x : Int) ≤ (cap : Int) := by omega
  have htn : ((x : Int) + (m : Int)).toNat = x + m := by omega
  have htn2 : ((x : Int) + (m : Int) + (q : Int)).toNat = x + m + q := by omega
  have hb3 : (x : Int) ≤ (x : Int) + (m : Int) + (q : Int) := by omega
  have hb2 : ¬ (cap = x + m) := by omega
  have hb4 : ¬ (cap = x) := by omega
  have hb9 : ¬ (cap = z) := by omega
  have hb7 : (x : Int) + (m : Int) ≤ (x : Int) + (m : Int) + (q : Int) := by omega
  obtain ⟨d, hd⟩ : ∃ d, d = n - (x + m + q) := ⟨_, rfl⟩
  have hd2 : n - (x + m + q) = d := hd.symm
  have hb10 : (x : Int) + (m : Int) + (q : Int) ≤ (n : Int) := by omega
  have mixed : Try.prog.follows Departure.mixedOrders = true := by kernel_rfl
  have HH := Lib.hid (And.intro hr (And.intro hy (And.intro hn (And.intro hmm (And.intro hlt (And.intro hz hd))))))
  clear hr hy hn hmm hlt hz hd
  go_enter Try.func40, Try.ntmps40
  go_wp2_with fail
  go_quiet (fail)
  obtain ⟨hr0, hy0, hn, hmm, hlt, hz, hd⟩ := HH.out
  have hr : Rw (w.drewN nq) g 9 L := hr0
  have hy : ReadsOf Value.string ByteArray.empty (w.drewN nq) A m ys := hy0
  have hgr : w.grownBy (w.drewN nq) none := ⟨rfl, rfl, rfl, Nat.le_refl _, fun _ _ _ => rfl⟩
  clear hr0 hy0 HH
  generalize w.drewN nq = w0 at *
  obtain ⟨tl, htl⟩ : ∃ tl, tl = encs Value.string (l.drop z) := ⟨_, rfl⟩
  obtain ⟨vs, hvs⟩ : ∃ vs, vs = encs Value.string ys := ⟨_, rfl⟩
  have htll : tl.length = q := by rw [htl, encs_length, List.length_drop]; omega
  have hvsl : vs.length = m := by rw [hvs, encs_length, hmm]
  have hc1 : ∀ ty dl dc, m ≤ dl → (Builtin.copy_ #[22, 22] ty #[.slice (some ⟨g, x, none⟩) dl dc, .slice A m mc]).run Try.prog w0 = .ok (goInt vs.length) (w0.setCells g x vs) := fun ty dl dc hdl => by
    rw [hvs]
    exact hr.copyN ty x _ dc A m mc ys hy hdl (by omega)
  have hc1 := fun ty dc => hc1 ty (x + m + q - x) dc (by omega)
  have hR1 : Rw (w0.setCells g x vs) g 9 (put L x vs) := Rw.sets vs x _ _ hr (by omega)
  have hG1 : w0.grownBy (w0.setCells g x vs) (some g) := grown_sets g vs x w0
  have hpl : (put L x vs).length = cap := by rw [put_len (by omega), hL]
  obtain ⟨W1, hW1⟩ : ∃ W1, W1 = w0.setCells g x vs := ⟨_, rfl⟩
  rw [← hW1] at hc1 hR1 hG1
  have htlc : ∀ j v, tl[j]? = some v → W1.drew.cell? ((⟨g, z, none⟩ : Addr).add j) = some v := fun j v hj => by
    have h0 := rw_tail hr hlt j v (by rw [← htl]; exact hj)
    rw [Addr.add_lit, hr.cell] at h0
    rw [Addr.add_lit, hR1.drew.cell, put_get (by omega), if_neg (by omega), if_neg (by omega)]
    exact h0
  have hc2 : ∀ ty dc sc, (Builtin.copy_ #[22, 22] ty #[.slice (some ⟨g, x + m, none⟩) q dc, .slice (some ⟨g, z, none⟩) q sc]).run Try.prog W1.drew = .ok (goInt tl.length) (W1.drew.setCells g (x + m) tl) := fun ty dc sc =>
    hR1.drew.copy 22 ty Try.underlying22 szS (x + m) _ dc ⟨g, z, none⟩ _ sc tl (by rw [htll]; simp only [Nat.min_def]; split <;> omega) htlc (by rw [htl]; exact oneS _) (by omega)
  have hR2 : Rw (W1.drew.setCells g (x + m) tl) g 9 (put (put L x vs) (x + m) tl) := Rw.sets tl (x + m) _ _ hR1.drew (by omega)
  have hG2 : w0.grownBy (W1.drew.setCells g (x + m) tl) (some g) := grown_trans hG1 (grown_trans (grown_drew W1 _) (grown_sets g tl (x + m) W1.drew))
  have hp2 : (put (put L x vs) (x + m) tl).length = cap := by rw [put_len (by omega), hpl]
  obtain ⟨W2, hW2⟩ : ∃ W2, W2 = W1.drew.setCells g (x + m) tl := ⟨_, rfl⟩
  rw [← hW2] at hc2 hR2 hG2
  have hcl : ∀ ty c B, (0 < d → B = some ⟨g, x + m + q, none⟩) → (Builtin.clear_ #[22] ty #[.slice B d c]).run Try.prog W2 = .ok (.tuple #[]) (W2.setCells g (x + m + q) (List.replicate d (.string .empty))) := fun ty c B hB =>
    hR2.clear ty (x + m + q) d c (by omega) B hB
  have hR3 : Rw (W2.setCells g (x + m + q) (List.replicate d (.string .empty))) g 9 (put (put (put L x vs) (x + m) tl) (x + m + q) (List.replicate d (.string .empty))) := Rw.sets _ _ _ _ hR2 (by rw [List.length_replicate]; omega)
  have hG3 : w0.grownBy (W2.setCells g (x + m + q) (List.replicate d (.string .empty))) (some g) := grown_trans hG2 (grown_sets g _ _ W2)
  have hfin : (put (put (put L x vs) (x + m) tl) (x + m + q) (List.replicate d (.string .empty))).take (x + m + q) = encs Value.string (l.take x ++ ys ++ l.drop z) := by
    rw [put_keep _ _ _ _ (Nat.le_refl _) (by rw [List.length_replicate]; omega)]
    have h := put_vt L vs tl x (by omega)
    rw [hvsl, htll] at h
    rw [h, encs_append, encs_append, ← hvs, ← htl, take_encs hlt (by omega)]
  obtain ⟨W3, hW3⟩ : ∃ W3, W3 = W2.setCells g (x + m + q) (List.replicate d (.string .empty)) := ⟨_, rfl⟩
  rw [← hW3] at hcl hR3 hG3
  have hown : W3.ownsRow base 9 1 (.slice (some ⟨g, 0, none⟩) (x + m + q) cap) (l.take x ++ ys ++ l.drop z).length (encs Value.string (l.take x ++ ys ++ l.drop z)) := by
    have h := hR3.own (base := base) (n := x + m + q) (cap := cap) hg (by rw [put_len (by rw [List.length_replicate]; omega), hp2]) (by omega) hm
    rw [hfin] at h
    rw [show (l.take x ++ ys ++ l.drop z).length = x + m + q by simp only [List.length_append, List.length_take, List.length_drop]; omega]
    exact h
  have HF := Lib.hid (And.intro hown (grown_trans (grown_any hgr (some g)) hG3))
  have HD := Lib.hid (show cap = x + m + q → d = 0 by omega)
  clear hy hlt hfin hown hG1 hG2 hG3 hR1 hR2 hR3 htl hvs hr hL hpl hp2 htll hvsl hn hmm hW1 hW2 hW3 hz hne hgr hd htlc
  by_cases hct : cap = x + m + q
  · have hcl1 := fun ty c => hcl ty c (some ⟨g, 0, none⟩) (fun h => by have := HD.out hct; omega)
    have hct1 : (cap = x + m + q) = True := eq_true hct
    clear hct hcl
    go_wp2_with (at_builtin; refine wpList_copy_runI _ rfl _ _ 22 22 rfl _ _ rfl rfl (hc1 _ _) ?_)
    go_region_law_o (refine step_copy_runI rfl _ _ 22 22 rfl _ _ (by simp [Act.eval, Act.put]) (by simp [Act.eval, Act.put]) (hc2 _ _ _) ?_)
    go_wp2_with fail
    go_ret
    exact ⟨_, rfl, HF.out.1, HF.out.2⟩
  · have hcl1 := fun ty c => hcl ty c (some ⟨g, x + m + q, none⟩) (fun _ => rfl)
    have hct1 : (cap = x + m + q) = False := eq_false hct
    clear hct hcl
    go_wp2_with (at_builtin; refine wpList_copy_runI _ rfl _ _ 22 22 rfl _ _ rfl rfl (hc1 _ _) ?_)
    go_region_law_o (refine step_copy_runI rfl _ _ 22 22 rfl _ _ (by simp [Act.eval, Act.put]) (by simp [Act.eval, Act.put]) (hc2 _ _ _) ?_)
    go_wp2_with fail
    go_ret
    exact ⟨_, rfl, HF.out.1, HF.out.2⟩
end Go.Proofs.Ytmnpcignolofaaa

/-! HRepD: slices.Replace at []string: at the end; all cases. -/
namespace Go.Proofs.Ytmnpcignolofaaa
set_option linter.unusedVariables false
set_option linter.unusedSimpArgs false
open Go.RowKit Go.Shelf Go.Proofs.YtmnpcignolofaaaW.PrintWords Go.Proofs.YtmnpcignolofaaaW.PrintMore
theorem src_opt {w : World} {A : Option Addr} {m mc : Nat} {ys : List ByteArray} (hy : ReadsOf Value.string ByteArray.empty w A m ys) : Src Try.prog 1 22 (.slice A m mc) m (encs Value.string ys) w := by
  have hm := hy.1
  cases A with
  | some ad => exact Src.ofSlice w Try.underlying22 ad m mc _ (by rw [encs_length, hm]; omega) (src_of hy) (oneS _)
  | none =>
    have h0 : m = 0 := by
      rcases Nat.eq_zero_or_pos m with h0 | h0
      · exact h0
      · obtain ⟨ad, h, _⟩ := hy.2.2 h0
        cases h
    subst h0
    rw [List.eq_nil_of_length_eq_zero hm]
    exact Src.ofNil w Try.underlying22 mc
set_option maxRecDepth 100000 in
set_option maxHeartbeats 40000000 in
theorem rep_end (w : World) (base g cap : Nat) (L : List Value) (l ys : List ByteArray) (x n m : Nat) (A : Option Addr) (mc : Nat) (h : RepIn w base g cap L l ys x n n m 0 A) :
    Calls Try.prog 40 #[.slice (some ⟨g, 0, none⟩) n cap, .int .i64 x, .int .i64 n, .slice A m mc] w (RepPost w base (.slice (some ⟨g, 0, none⟩) n cap) (l.take x ++ ys ++ l.drop n)) := by
  obtain ⟨hr, hb, hg, hL, hm, hlt, hlc, hx, hz, hn, hmm, hy, hne, hl, hyl⟩ := h
  obtain ⟨i0, hi0, hz0, hz1, hz2⟩ := info_parts infoS
  have hcap : cap ≤ 9223372036854775807 := by unfold maxLen at hm; omega
  have hnl : (l.take x ++ ys ++ l.drop n).length = x + m := by simp only [List.length_append, List.length_take, List.length_drop]; omega
  have hne1 : ¬ ((x : Int) = (n : Int)) := by omega
  have hxn : (x : Int) ≤ (n : Int) := by omega
  have hnc : (n : Int) ≤ (cap : Int) := by omega
  have hxc : (x : Int) ≤ (cap : Int) := by omega
  have hb4 : ¬ (cap = x) := by omega
  obtain ⟨vs, hvs⟩ : ∃ vs, vs = encs Value.string ys := ⟨_, rfl⟩
  have hvsl : vs.length = m := by rw [hvs, encs_length, hmm]
  have hS := src_opt (mc := mc) hy
  rw [← hvs] at hS
  have hdr : l.drop n = [] := List.drop_of_length_le (by omega)
  rcases Nat.lt_or_ge cap (x + m) with hroom | hroom
  · -- a new row
    have hold := rw_first (cap := cap) hr.drew (n := x) (by omega)
    have happ := fun ty => run_append_grow_src (P := Try.prog) w 22 22 ty 9 i0 _ Try.underlying22 hi0 hz0 (some ⟨g, 0, none⟩) x cap (L.take x) (by rw [hz1]; exact hold) (.slice A m mc) m vs (by rw [hz1]; exact hS) hroom (by omega) (by rw [hz2]; exact growslice_fits hroom (by omega))
    obtain ⟨G, hG⟩ : ∃ G, G = grownCap w (x + m) cap 9 := ⟨_, rfl⟩
    have hG1 : x + m ≤ G := by rw [hG]; exact grownCap_ge w _ _ _
    have hG2 : G ≤ maxLen := by rw [hG]; exact grownCap_le_maxLen w _ _ _ (by unfold maxLen; omega)
    rw [← hG] at happ
    obtain ⟨ROW, hROW⟩ : ∃ ROW : Array Value, ROW = (L.take x ++ vs).toArray ++ Builtin.zeroCells (Value.string ByteArray.empty).cells (G - (x + m)) := ⟨_, rfl⟩
    rw [← hROW] at happ
    have hlv : (L.take x ++ vs).length = x + m := by rw [List.length_append, List.length_take]; omega
    have hRw : Rw (w.drew.alloc (.cells ROW 9)) w.heap.size 9 ROW.toList := by
      show (w.drew.alloc (.cells ROW 9)).heap[w.heap.size]? = some (.cells ROW.toList.toArray 9 (0, 0))
      rw [show ROW.toList.toArray = ROW by simp]
      exact heap_alloc_new w.drew _
    have hRl : ROW.toList.length = G := by
      rw [Array.length_toList, hROW]
      simp only [Array.size_append, List.size_toArray, hlv, Builtin.zeroCells, Value.cells, Array.size_ofFn]
      simp
      omega
    have hRt : ROW.toList.take (x + m) = encs Value.string (l.take x ++ ys ++ l.drop n) := by
      rw [hROW]
      simp only [Array.toList_append]
      rw [← hlv, List.take_append_of_le_length (Nat.le_refl _), List.take_of_length_le (Nat.le_refl _), hdr, List.append_nil, encs_append, ← hvs, take_encs hlt (by omega)]
    have hg2 : w.grownBy (w.drew.alloc (.cells ROW 9)) none := grown_trans (grown_drew w none) (World.grownBy_alloc w.drew _ none)
    have hown : (w.drew.alloc (.cells ROW 9)).ownsRow base 9 1 (.slice (some ⟨w.heap.size, 0, none⟩) (x + m) G) (l.take x ++ ys ++ l.drop n).length (encs Value.string (l.take x ++ ys ++ l.drop n)) := by
      have h := hRw.own (base := base) (n := x + m) (cap := G) hb hRl hG1 hG2
      rw [hRt] at h
      rw [hnl]
      exact h
    obtain ⟨W1, hW1⟩ : ∃ W1, W1 = w.drew.alloc (.cells ROW 9) := ⟨_, rfl⟩
    rw [← hW1] at happ hown hg2
    have HF := Lib.hid (And.intro hown (grown_any hg2 (some g)))
    have hc1 : ¬ ((x : Int) + (m : Int) < (n : Int)) := by omega
    clear hr hy hn hmm hlt hz hvs hS hdr hRw hRl hRt hown hg2 hW1 hROW hG hold hi0 hz0 hz1 hz2 hlv hvsl hnl hL hne
    go_enter Try.func40, Try.ntmps40
    go_wp2_with (at_builtin; refine Lib.wpList_append_run _ rfl _ _ _ _ rfl _ _ rfl rfl _ _ (happ _) ?_)
    go_ret
    exact ⟨_, rfl, by rw [← List.append_assoc]; exact HF.out.1, HF.out.2⟩
  · -- in place
    have happ := fun ty => run_append_room_src (P := Try.prog) w 22 22 ty 9 i0 Try.underlying22 hi0 g 0 x cap (.slice A m mc) m vs (by rw [hz1]; exact hS) hroom (fun j hj => hr.has (by rw [hz1]; omega)) (fun j _ => hr.frozen _)
    rw [hz1, Nat.mul_one, Nat.zero_add] at happ
    have hR1 : Rw (w.setCells g x vs) g 9 (put L x vs) := Rw.sets vs x _ _ hr (by omega)
    have hG1 : w.grownBy (w.setCells g x vs) (some g) := grown_sets g vs x w
    have hpl : (put L x vs).length = cap := by rw [put_len (by omega), hL]
    obtain ⟨W1, hW1⟩ : ∃ W1, W1 = w.setCells g x vs := ⟨_, rfl⟩
    rw [← hW1] at happ hR1 hG1
    obtain ⟨d, hd⟩ : ∃ d, d = n - (x + m) := ⟨_, rfl⟩
    have hcl : ∀ ty c, (Builtin.clear_ #[22] ty #[.slice (some ⟨g, x + m, none⟩) d c]).run Try.prog W1 = .ok (.tuple #[]) (W1.setCells g (x + m) (List.replicate d (.string .empty))) := fun ty c =>
      hR1.clear ty (x + m) d c (by omega) _ (fun _ => rfl)
    have hR3 : Rw (W1.setCells g (x + m) (List.replicate d (.string .empty))) g 9 (put (put L x vs) (x + m) (List.replicate d (.string .empty))) := Rw.sets _ _ _ _ hR1 (by rw [List.length_replicate]; omega)
    have hG3 : w.grownBy (W1.setCells g (x + m) (List.replicate d (.string .empty))) (some g) := grown_trans hG1 (grown_sets g _ _ W1)
    have hfin0 : (put L x vs).take (x + m) = encs Value.string (l.take x ++ ys ++ l.drop n) := by
      have h := put_end L vs x (by omega)
      rw [hvsl] at h
      rw [h, hdr, List.append_nil, encs_append, ← hvs, take_encs hlt (by omega)]
    have hfin : (put (put L x vs) (x + m) (List.replicate d (.string .empty))).take (x + m) = encs Value.string (l.take x ++ ys ++ l.drop n) := by
      rw [put_keep _ _ _ _ (Nat.le_refl _) (by rw [List.length_replicate]; omega), hfin0]
    obtain ⟨W3, hW3⟩ : ∃ W3, W3 = W1.setCells g (x + m) (List.replicate d (.string .empty)) := ⟨_, rfl⟩
    rw [← hW3] at hcl hR3 hG3
    have hown1 : W1.ownsRow base 9 1 (.slice (some ⟨g, 0, none⟩) (x + m) cap) (l.take x ++ ys ++ l.drop n).length (encs Value.string (l.take x ++ ys ++ l.drop n)) := by
      have h := hR1.own (base := base) (n := x + m) (cap := cap) hg hpl hroom hm
      rw [hfin0] at h
      rw [hnl]
      exact h
    have hown3 : W3.ownsRow base 9 1 (.slice (some ⟨g, 0, none⟩) (x + m) cap) (l.take x ++ ys ++ l.drop n).length (encs Value.string (l.take x ++ ys ++ l.drop n)) := by
      have h := hR3.own (base := base) (n := x + m) (cap := cap) hg (by rw [put_len (by rw [List.length_replicate]; omega), hpl]) hroom hm
      rw [hfin] at h
      rw [hnl]
      exact h
    have H1 := Lib.hid (And.intro hown1 hG1)
    have H3 := Lib.hid (And.intro hown3 hG3)
    have hd2 : n - (x + m) = d := hd.symm
    have hlt2 : x + m < n ∨ n ≤ x + m := Nat.lt_or_ge _ _
    clear hr hy hn hmm hlt hz hvs hS hdr hR1 hR3 hG1 hG3 hfin hfin0 hW1 hW3 hown1 hown3 hi0 hz0 hz1 hz2 hvsl hnl hL hne hpl hd
    rcases hlt2 with hlt2 | hlt2
    · have hc1 : (x : Int) + (m : Int) < (n : Int) := by omega
      have hc2 : ¬ (cap = x + m) := by omega
      have hc3 : (0 : Int) ≤ (x : Int) + (m : Int) := by omega
      have hc4 : ((x : Int) + (m : Int)).toNat = x + m := by omega
      have hc5 : (x : Int) + (m : Int) ≤ (n : Int) := by omega
      clear hlt2
      go_enter Try.func40, Try.ntmps40
      go_wp2_with (at_builtin; refine Lib.wpList_append_run _ rfl _ _ _ _ rfl _ _ rfl rfl _ _ (happ _) ?_)
      go_ret
      exact ⟨_, rfl, H3.out.1, H3.out.2⟩
    · have hc1 : ¬ ((x : Int) + (m : Int) < (n : Int)) := by omega
      clear hlt2
      go_enter Try.func40, Try.ntmps40
      go_wp2_with (at_builtin; refine Lib.wpList_append_run _ rfl _ _ _ _ rfl _ _ rfl rfl _ _ (happ _) ?_)
      go_ret
      exact ⟨_, rfl, by rw [← List.append_assoc]; exact H1.out.1, H1.out.2⟩
set_option maxRecDepth 100000 in
set_option maxHeartbeats 40000000 in
/-- slices.Replace of a row of its own: the lines from x to z give way to ys. -/
theorem rep_calls (w : World) (base : Nat) (v : Value) (l ys : List ByteArray) (x z : Nat) (hv : w.ownsRow base 9 1 v l.length (encs Value.string l)) (hb : base ≤ w.heap.size) (hx : x ≤ z) (hz : z ≤ l.length) (A : Option Addr) (mc : Nat) (hy : ReadsOf Value.string ByteArray.empty w A ys.length ys) (hne : 0 < ys.length → ∀ ad, A = some ad → some ad.block ≠ v.ownBlock) (hm : x < z ∨ 0 < ys.length) (hl : l.length ≤ 1000) (hyl : ys.length ≤ 1000) :
    Calls Try.prog 40 #[v, .int .i64 x, .int .i64 z, .slice A ys.length mc] w (RepPost w base v (l.take x ++ ys ++ l.drop z)) := by
  rcases Nat.lt_or_eq_of_le hx with h | h
  · rcases own_rw hv with ⟨_, h0, _⟩ | ⟨g, cap, L, rfl, hg, hr, hn, hmx, hL, ht⟩
    · omega
    · have hne2 : 0 < ys.length → ∀ ad, A = some ad → ad.block ≠ g := fun h0 ad e e2 => hne h0 ad e (by rw [e2]; rfl)
      have R := fun q hq => (⟨hr, hb, hg, hL, hmx, ht, hn, h, hq, rfl, rfl, hy, hne2, hl, hyl⟩ : RepIn w base g cap L l ys x z l.length ys.length q A)
      rcases Nat.lt_or_eq_of_le hz with h1 | h1
      · rcases Nat.lt_or_ge z (x + ys.length) with h2 | h2
        · obtain ⟨ad, rfl, _⟩ := hy.2.2 (by omega)
          rcases Nat.lt_or_ge cap (x + ys.length + (l.length - z)) with h3 | h3
          · exact rep_grow w base g cap L l ys x z _ _ _ ad mc (R (l.length - z) (by omega)) (by omega) h3
          · exact rep_room w base g cap L l ys x z _ _ _ ad mc (R (l.length - z) (by omega)) (by omega) h3 h2
        · exact rep_small w base g cap L l ys x z _ _ _ A mc (R (l.length - z) (by omega)) (by omega) h2
      · subst h1
        exact rep_end w base g cap L l ys x _ _ A mc (R 0 rfl)
  · subst h
    obtain ⟨ad, rfl, _⟩ := hy.2.2 (by omega)
    obtain ⟨B, c, rfl⟩ := own_slice hv
    have hcc := own_cap hv
    have hxl : (x : Int) ≤ (l.length : Int) := by omega
    have hxc : (x : Int) ≤ (c : Int) := by omega
    have hI := Lib.hid (ins_calls w base _ l ys x hv hb hz ad mc hy (by omega) (hne (by omega) ad rfl) hl hyl)
    obtain ⟨n, hn⟩ : ∃ n, n = l.length := ⟨_, rfl⟩
    obtain ⟨m, hm2⟩ : ∃ n, n = ys.length := ⟨_, rfl⟩
    obtain ⟨R, hR⟩ : ∃ R, R = l.take x ++ ys ++ l.drop x := ⟨_, rfl⟩
    rw [← hn, ← hm2, ← hR] at hI
    rw [← hn, ← hm2, ← hR]
    rw [← hn] at hxl hcc
    clear hv hy hne hn hm2 hR hz hl hyl hm
    by_cases hcx : c = x
    · subst hcx
      go_enter Try.func40, Try.ntmps40
      go_wp2_with fail
      refine hI.out.mono ?_
      rintro e w' ⟨v', rfl, ho, hg⟩
      have HO := Lib.hid (And.intro ho hg)
      clear ho hg hI
      go_wp2_with fail
      go_ret
      exact ⟨_, rfl, HO.out.1, HO.out.2⟩
    · go_enter Try.func40, Try.ntmps40
      go_wp2_with fail
      refine hI.out.mono ?_
      rintro e w' ⟨v', rfl, ho, hg⟩
      have HO := Lib.hid (And.intro ho hg)
      clear ho hg hI
      go_wp2_with fail
      go_ret
      exact ⟨_, rfl, HO.out.1, HO.out.2⟩
end Go.Proofs.Ytmnpcignolofaaa
