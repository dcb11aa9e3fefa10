/- inflate: build, slices.Repeat, fixed. -/
import Derived.Test.YtkdklcamgcmifaaDoorHIA
import Derived.Laws.CopyOwn
import Derived.Test.YtkdklcamgcmifaaDoorWZeros
import Derived.LoopN
import Derived.Deep.DeepMust
import Derived.Laws.Slices
import Derived.Deep.RegionLaw
import Derived.Deep.WholeRow
/-! HTabP: A table of codes as it is built: counts, first places, symbols put in one by one. In plain Lean. -/
namespace Go.Proofs.YtkdklcamgcmifaaDoor
set_option linter.unusedVariables false
set_option linter.unusedSimpArgs false

theorem flatMap_congr' {f g : Nat → List Nat} {r : List Nat} (h : ∀ x ∈ r, f x = g x) : r.flatMap f = r.flatMap g := by
  induction r with
  | nil => rfl
  | cons x r ih => rw [List.flatMap_cons, List.flatMap_cons, h x List.mem_cons_self, ih fun y hy => h y (List.mem_cons_of_mem _ hy)]
theorem idxs_snoc (v : Nat) (m : List Nat) (x : Nat) : idxs v (m ++ [x]) = idxs v m ++ (if x = v then [m.length] else []) := by
  unfold idxs
  rw [List.length_append, List.length_singleton, List.range_succ, List.filter_append]
  congr 1
  · apply List.filter_congr
    intro i hi
    rw [List.mem_range] at hi
    simp [List.getD_eq_getElem?_getD, List.getElem?_append_left hi]
  · by_cases h : x = v
    · subst h; simp
    · simp [h]
theorem count_snoc (v : Nat) (m : List Nat) (x : Nat) : (m ++ [x]).count v = m.count v + if x = v then 1 else 0 := by
  rw [List.count_append]
  by_cases h : x = v
  · subst h; simp
  · simp [h]
theorem flatMap_len {f : Nat → List Nat} {l : List Nat} (h : ∀ n, (f n).length = l.count (n + 1)) : ∀ N, ((List.range N).flatMap f).length = sumT l N := by
  intro N
  induction N with
  | zero => rfl
  | succ N ih => rw [List.range_succ, List.flatMap_append, List.length_append, ih]; simp [sumT, idxs_len, h]
theorem flatMap_set {f : Nat → List Nat} {l : List Nat} (h : ∀ n, (f n).length = l.count (n + 1)) (k j a : Nat) (hj : j < (f k).length) : ∀ N, k < N →
    ((List.range N).flatMap f).set (sumT l k + j) a = (List.range N).flatMap fun i => if i = k then (f i).set j a else f i := by
  intro N
  induction N with
  | zero => intro h; omega
  | succ N ih =>
    intro hk
    rw [List.range_succ, List.flatMap_append, List.flatMap_append]
    have hl := flatMap_len h N
    rcases Nat.lt_or_ge k N with h1 | h1
    · have h2 : sumT l (k + 1) ≤ sumT l N := sumT_mono l h1
      have h3 : sumT l (k + 1) = sumT l k + (f k).length := by simp only [sumT, idxs_len, h]
      rw [List.set_append_left _ _ (by omega), ih h1]
      congr 1
      simp only [List.flatMap_cons, List.flatMap_nil, List.append_nil]
      rw [if_neg (by omega)]
    · obtain rfl : k = N := by omega
      rw [List.set_append_right _ _ (by omega), hl]
      congr 1
      · apply flatMap_congr'
        intro i hi
        rw [List.mem_range] at hi
        rw [if_neg (by omega)]
      · simp
/-- The symbols, the first s put in. -/
def fillF (l : List Nat) (s n : Nat) : List Nat := idxs (n + 1) (l.take s) ++ List.replicate (l.count (n + 1) - (l.take s).count (n + 1)) 0
def fillT (l : List Nat) (s : Nat) : List Nat := (List.range 15).flatMap (fillF l s)
theorem take_count (l : List Nat) (s v : Nat) : (l.take s).count v ≤ l.count v := (List.take_sublist s l).count_le v
theorem fillF_len (l : List Nat) (s n : Nat) : (fillF l s n).length = l.count (n + 1) := by
  have := take_count l s (n + 1)
  simp only [fillF, List.length_append, idxs_len, List.length_replicate]
  omega
theorem fillT_len (l : List Nat) (s : Nat) : (fillT l s).length = (symT l).length := by rw [symT_len, fillT, flatMap_len (fillF_len l s)]
theorem fillT_zero (l : List Nat) : fillT l 0 = List.replicate (symT l).length 0 := by
  rw [← fillT_len l 0]
  apply List.eq_replicate_of_mem
  intro b hb
  simp only [fillT, List.mem_flatMap, fillF, List.take_zero] at hb
  obtain ⟨n, _, hb⟩ := hb
  simp [idxs] at hb
  exact hb.2
theorem fillT_all (l : List Nat) : fillT l l.length = symT l := by
  unfold fillT symT fillF
  simp
theorem take_snoc {l : List Nat} {s x : Nat} (h : l[s]? = some x) : l.take (s + 1) = l.take s ++ [x] := by
  rw [List.take_add_one, h]; rfl
theorem fillT_zero_step {l : List Nat} {s : Nat} (h : l[s]? = some 0) : fillT l (s + 1) = fillT l s := by
  unfold fillT
  apply flatMap_congr'
  intro n _
  unfold fillF
  rw [take_snoc h, idxs_snoc, count_snoc, if_neg (by omega), if_neg (by omega)]
  simp
theorem fillT_step {l : List Nat} {s x : Nat} (h : l[s]? = some x) (h0 : 0 < x) (hx : x < 16) : fillT l (s + 1) = (fillT l s).set (sumT l (x - 1) + (l.take s).count x) s := by
  have hs : s < l.length := by
    rcases Nat.lt_or_ge s l.length with h1 | h1
    · exact h1
    · rw [List.getElem?_eq_none h1] at h; cases h
  have hc : (l.take s).count x < l.count x := by
    have h1 := take_count l (s + 1) x
    rw [take_snoc h, count_snoc, if_pos rfl] at h1
    omega
  unfold fillT
  rw [flatMap_set (fillF_len l s) (x - 1) ((l.take s).count x) s (by rw [fillF_len, show x - 1 + 1 = x from by omega]; exact hc) 15 (by omega)]
  apply flatMap_congr'
  intro n hn
  by_cases hnx : n = x - 1
  · subst hnx
    rw [if_pos rfl]
    unfold fillF
    rw [take_snoc h, show x - 1 + 1 = x from by omega, idxs_snoc, if_pos rfl, count_snoc, if_pos rfl]
    rw [List.set_append_right _ _ (by rw [idxs_len]; exact Nat.le_refl _), idxs_len, Nat.sub_self]
    have hr : List.replicate (l.count x - (l.take s).count x) 0 = 0 :: List.replicate (l.count x - ((l.take s).count x + 1)) 0 := by
      rw [show l.count x - (l.take s).count x = (l.count x - ((l.take s).count x + 1)) + 1 from by omega, List.replicate_succ]
    rw [hr, List.set_cons_zero, List.length_take, Nat.min_eq_left (by omega)]
    simp
  · rw [if_neg hnx]
    unfold fillF
    rw [take_snoc h, idxs_snoc, if_neg (by omega), count_snoc, if_neg (by omega)]
    simp
theorem place_lt {l : List Nat} {s x : Nat} (h : l[s]? = some x) (h0 : 0 < x) (hx : x < 16) : sumT l (x - 1) + (l.take s).count x < (symT l).length := by
  have hc : (l.take s).count x < l.count x := by
    have h1 := take_count l (s + 1) x
    rw [take_snoc h, count_snoc, if_pos rfl] at h1
    omega
  have := cnt_le l (x - 1) (by omega)
  rw [show x - 1 + 1 = x from by omega, cntT, if_neg (by omega)] at this
  omega
/-- All lengths are below 16: those that are not 0 have symbols. -/
theorem used_eq {l : List Nat} (h : ∀ x ∈ l, x < 16) : l.count 0 + (symT l).length = l.length := by
  have key : ∀ n, sumT l n + l.count 0 + (l.countP fun x => decide (n < x)) = l.length := by
    intro n
    induction n with
    | zero =>
      have : l.length = l.count 0 + l.countP fun x => decide (0 < x) := by
        clear h
        induction l with
        | nil => rfl
        | cons x l ih =>
          rw [List.length_cons, List.count_cons, List.countP_cons, ih]
          by_cases h1 : x = 0
          · subst h1; simp; omega
          · have h2 : 0 < x := by omega
            simp [h1, h2]; omega
      simp only [sumT]
      omega
    | succ n ih =>
      have e : (l.countP fun x => decide (n < x)) = l.count (n + 1) + l.countP fun x => decide (n + 1 < x) := by
        clear ih h
        induction l with
        | nil => rfl
        | cons x l ih =>
          rw [List.countP_cons, List.countP_cons, List.count_cons, ih]
          by_cases h1 : x = n + 1
          · subst h1; simp; omega
          · by_cases h2 : n < x
            · have h3 : n + 1 < x := by omega
              simp [h1, h2, h3]; omega
            · have h3 : ¬ n + 1 < x := by omega
              simp [h1, h2, h3]
      simp only [sumT, idxs_len]
      omega
  have h15 : (l.countP fun x => decide (15 < x)) = 0 := by
    rw [List.countP_eq_zero]
    intro x hx
    have := h x hx
    simp; omega
  have := key 15
  rw [symT_len]
  omega
theorem leftT_bound (l : List Nat) (n : Nat) : leftT l n ≤ 2 ^ n := by
  induction n with
  | zero => simp [leftT]
  | succ n ih =>
    simp only [leftT, Int.pow_succ]
    omega
/-- Cells while the lengths are counted. -/
def cntC (m : List Nat) (v : Value) : List Value := (List.range 16).map (fun n => Value.int .i64 ((m.count n : Nat) : Int)) ++ [v]
theorem cntC_get {m : List Nat} {v : Value} {n : Nat} (h : n < 16) : (cntC m v)[n]? = some (.int .i64 ((m.count n : Nat) : Int)) := by
  unfold cntC
  rw [List.getElem?_append_left (by simpa using h)]
  simp [h]
theorem cntC_step {m : List Nat} {v : Value} {x : Nat} (h : x < 16) : (cntC m v).set x (.int .i64 (((m.count x : Nat) : Int) + 1)) = cntC (m ++ [x]) v := by
  apply List.ext_getElem (by simp [cntC])
  intro i h1 h2
  rw [List.getElem_set]
  have hl : (cntC m v).length = 17 := by simp [cntC]
  have hi : i < 17 := by rw [List.length_set, hl] at h1; exact h1
  by_cases hx : x = i
  · subst hx
    rw [if_pos rfl]
    have := cntC_get (m := m ++ [x]) (v := v) h
    rw [List.getElem?_eq_getElem h2] at this
    injection this with this
    rw [this, count_snoc, if_pos rfl]
    simp
  · rw [if_neg hx]
    rcases Nat.lt_or_ge i 16 with h16 | h16
    · have e1 := cntC_get (m := m) (v := v) h16
      have e2 := cntC_get (m := m ++ [x]) (v := v) h16
      rw [List.getElem?_eq_getElem (by omega)] at e1
      rw [List.getElem?_eq_getElem h2] at e2
      injection e1 with e1
      injection e2 with e2
      rw [e1, e2, count_snoc, if_neg hx]
      simp
    · have : i = 16 := by omega
      subst this
      simp [cntC]
theorem cntC_tab (l : List Nat) (v : Value) : (cntC l v).set 0 (.int .i64 0) = tabC l v := by
  unfold cntC tabC
  rw [List.range_succ_eq_map]
  simp [cntT]
/-- The cells of the first places: those up to n are known. -/
def nxtC (l : List Nat) (n : Nat) : List Value := (List.range 17).map fun j => Value.int .i64 (((if j ≤ n then sumT l (j - 1) else 0 : Nat)) : Int)
theorem nxtC_get {l : List Nat} {n j : Nat} (h : j < 17) : (nxtC l n)[j]? = some (.int .i64 (((if j ≤ n then sumT l (j - 1) else 0 : Nat)) : Int)) := by simp [nxtC, h]
theorem nxtC_step {l : List Nat} {n : Nat} (h : n < 16) : (nxtC l n).set (n + 1) (.int .i64 ((sumT l n : Nat) : Int)) = nxtC l (n + 1) := by
  apply List.ext_getElem (by simp [nxtC])
  intro i h1 h2
  have hi : i < 17 := by simpa [nxtC] using h2
  rw [List.getElem_set]
  by_cases hx : n + 1 = i
  · subst hx
    simp [nxtC]
  · rw [if_neg hx]
    simp only [nxtC, List.getElem_map, List.getElem_range]
    congr 2
    by_cases h3 : i ≤ n
    · rw [if_pos h3, if_pos (by omega)]
    · rw [if_neg h3, if_neg (by omega)]
/-- The cells of the next places, the first s symbols put in. -/
def plcC (l : List Nat) (s : Nat) : List Value := (List.range 17).map fun j => Value.int .i64 ((sumT l (j - 1) + (if j = 0 ∨ j = 16 then 0 else (l.take s).count j) : Nat) : Int)
theorem plcC_get {l : List Nat} {s j : Nat} (h : 0 < j) (h2 : j < 16) : (plcC l s)[j]? = some (.int .i64 ((sumT l (j - 1) + (l.take s).count j : Nat) : Int)) := by
  simp only [plcC, List.getElem?_map, List.getElem?_range (show j < 17 by omega), Option.map_some]
  rw [if_neg (by omega)]
theorem plcC_zero (l : List Nat) : nxtC l 16 = plcC l 0 := by
  unfold nxtC plcC
  apply List.map_congr_left
  intro j hj
  rw [List.mem_range] at hj
  rw [if_pos (by omega)]
  simp
theorem plcC_zero_step {l : List Nat} {s : Nat} (h : l[s]? = some 0) : plcC l (s + 1) = plcC l s := by
  unfold plcC
  apply List.map_congr_left
  intro j hj
  rw [take_snoc h, count_snoc]
  by_cases h0 : j = 0 ∨ j = 16
  · rw [if_pos h0, if_pos h0]
  · rw [if_neg h0, if_neg h0, if_neg (by omega)]; rfl
theorem plcC_step {l : List Nat} {s x : Nat} (h : l[s]? = some x) (h0 : 0 < x) (hx : x < 16) : (plcC l s).set x (.int .i64 (((sumT l (x - 1) + (l.take s).count x : Nat) : Int) + 1)) = plcC l (s + 1) := by
  apply List.ext_getElem (by simp [plcC])
  intro i h1 h2
  have hi : i < 17 := by simpa [plcC] using h2
  rw [List.getElem_set]
  by_cases he : x = i
  · subst he
    rw [if_pos rfl]
    simp only [plcC, List.getElem_map, List.getElem_range]
    rw [if_neg (by omega), take_snoc h, count_snoc, if_pos rfl]
    congr 1
  · rw [if_neg he]
    simp only [plcC, List.getElem_map, List.getElem_range]
    rw [take_snoc h, count_snoc, if_neg he]
    simp
end Go.Proofs.YtkdklcamgcmifaaDoor

/-! HBuild: inflate.build: the table of lengths, and whether they are right. -/
namespace Go.Proofs.YtkdklcamgcmifaaDoor
set_option linter.unusedVariables false
set_option linter.unusedSimpArgs false
open Go.RowKit Go.Proofs.YtkdklcamgcmifaaDoorW.PrintWords Go.Proofs.YtkdklcamgcmifaaDoorW.PrintMore
theorem blk_setL {W : World} {g : Nat} {cs : List Value} {t : TypeId} (h : W.heap[g]? = some (.cells cs.toArray t (0, 0))) (j : Nat) (u : Value) : (W.setCell ⟨g, j, none⟩ u).heap[g]? = some (.cells (cs.set j u).toArray t (0, 0)) := by
  have := blk_set h j u
  simpa using this
theorem results_cell_tmp {P : Program} {fn : Func} {p r : Tmp} {ty : TypeId} (h : fn.results = #[.cell p ty, .tmp r]) (tmps : Array Value) (w : World) (g : Nat) (t : TypeId) (cs : Array Value) (fr : Nat × Nat) (d : TypeDesc)
    (hp : tmps.getD p undef = .pointer (some ⟨g, 0, none⟩)) (hg : w.heap[g]? = some (.cells cs t fr))
    (hu : P.underlying ty = some d) (hd : (match d with | .struct _ | .array _ _ => true | _ => false) = true) (hi : (P.info? ty).map (·.size) = some cs.size) :
    (results fn tmps).run P w = .ok (.tuple #[.agg cs, tmps.getD r undef]) w := by
  have hp' : tmps[p]?.getD undef = .pointer (some ⟨g, 0, none⟩) := by simpa using hp
  simp [results, h, hp', asAddr, run_loadVar_row w g t ty cs fr d hg hu hd hi]
theorem infoTab : (Tryd.prog.info? 59).map (·.size) = some 17 := by kernel_rfl
theorem infoIntB : (Tryd.prog.info? 3).map (fun i => (i.zero, i.size, i.bytes)) = some (some (.int .i64 0), 1, 8) := by kernel_rfl
theorem tabC_size (l : List Nat) (v : Value) : (tabC l v).toArray.size = 17 := by simp [tabC]
theorem cntC_size (l : List Nat) (v : Value) : (cntC l v).toArray.size = 17 := by simp [cntC]
theorem tabC_one (l : List Nat) (A : Option Addr) (n c : Nat) : (tabC l (.slice A n c)).toArray.all (·.oneCell') = true := by
  rw [Array.all_eq_true_iff_forall_mem]
  intro v hv
  simp only [tabC, List.mem_toArray, List.mem_append, List.mem_map, List.mem_singleton] at hv
  rcases hv with ⟨n, _, rfl⟩ | rfl <;> rfl
/-- What build tells. -/
def BuildT (w : World) (l : List Nat) (nn : Bool) (ee : Ending) (w' : World) : Prop :=
  ∃ v, ee = .returned (.tuple #[.agg (tabC l v).toArray, .bool (okT l nn)]) ∧ Hid (okT l nn = true → w'.ownsRow w.heap.size 3 1 v (symT l).length (nums .i64 (natI (symT l)))) ∧ Hid (Below w.heap.size w w') ∧ Hid (∃ A n c, v = .slice A n c)
/-- build's three blocks. -/
structure Bw (w W : World) (cT cX : List Value) : Prop where
  r : W.heap[w.heap.size]? = some (.cells (cntC [] (.slice none 0 0)).toArray 59 (0, 0))
  t : W.heap[w.heap.size + 1]? = some (.cells cT.toArray 59 (0, 0))
  x : W.heap[w.heap.size + 1 + 1]? = some (.cells cX.toArray 105 (0, 0))
  below : Below w.heap.size w W
  size : w.heap.size + 3 ≤ W.heap.size
theorem Bw.setT {w W : World} {cT cX : List Value} (h : Bw w W cT cX) (j : Nat) (u : Value) : Bw w (W.setCell ⟨w.heap.size + 1, j, none⟩ u) (cT.set j u) cX :=
  ⟨(Below.heap_setCell W _ u _ (by show w.heap.size ≠ w.heap.size + 1; omega)).trans h.r, blk_setL h.t j u, (Below.heap_setCell W _ u _ (by show w.heap.size + 1 + 1 ≠ w.heap.size + 1; omega)).trans h.x,
    Below.setCell h.below (by show w.heap.size ≤ w.heap.size + 1; omega) u, by simpa [World.setCell] using h.size⟩
theorem Bw.setX {w W : World} {cT cX : List Value} (h : Bw w W cT cX) (j : Nat) (u : Value) : Bw w (W.setCell ⟨w.heap.size + 1 + 1, j, none⟩ u) cT (cX.set j u) :=
  ⟨(Below.heap_setCell W _ u _ (by show w.heap.size ≠ w.heap.size + 1 + 1; omega)).trans h.r, (Below.heap_setCell W _ u _ (by show w.heap.size + 1 ≠ w.heap.size + 1 + 1; omega)).trans h.t, blk_setL h.x j u,
    Below.setCell h.below (by show w.heap.size ≤ w.heap.size + 1 + 1; omega) u, by simpa [World.setCell] using h.size⟩
theorem Bw.drewN {w W : World} {cT cX : List Value} (h : Bw w W cT cX) (n : Nat) : Bw w (W.drewN n) cT cX := ⟨h.r, h.t, h.x, pw_below_drewN h.below n, h.size⟩
theorem Bw.drew {w W : World} {cT cX : List Value} (h : Bw w W cT cX) : Bw w W.drew cT cX := ⟨h.r, h.t, h.x, below_drew h.below, h.size⟩
theorem Bw.start (w : World) : Bw w (((w.alloc (.cells (cntC [] (.slice none 0 0)).toArray 59)).alloc (.cells (cntC [] (.slice none 0 0)).toArray 59)).alloc (.cells (nxtC [] 0).toArray 105)) (cntC [] (.slice none 0 0)) (nxtC [] 0) := by
  refine ⟨?_, ?_, ?_, below_alloc (below_alloc (below_alloc (Below.refl _ _) _) _) _, by simp⟩
  · exact (Below.heap_alloc _ _ _ (by simp; omega)).trans ((Below.heap_alloc _ _ _ (by simp)).trans (heap_alloc_new w _))
  · exact (Below.heap_alloc _ _ _ (by simp)).trans (by have := heap_alloc_new (w.alloc (.cells (cntC [] (.slice none 0 0)).toArray 59)) (.cells (cntC [] (.slice none 0 0)).toArray 59); simpa using this)
  · have := heap_alloc_new ((w.alloc (.cells (cntC [] (.slice none 0 0)).toArray 59)).alloc (.cells (cntC [] (.slice none 0 0)).toArray 59)) (.cells (nxtC [] 0).toArray 105)
    simpa using this
/-- build's blocks, the first s symbols put in. -/
structure Fl (w W : World) (l : List Nat) (S s : Nat) : Prop where
  b : Bw w W (tabC l (.slice (some ⟨S, 0, none⟩) (symT l).length (symT l).length)) (plcC l s)
  own : W.ownsRow w.heap.size 3 1 (.slice (some ⟨S, 0, none⟩) (symT l).length (symT l).length) (symT l).length (nums .i64 (natI (fillT l s)))
  far : w.heap.size + 3 ≤ S
theorem Fl.drewN {w W : World} {l : List Nat} {S s : Nat} (h : Fl w W l S s) (n : Nat) : Fl w (W.drewN n) l S s := ⟨h.b.drewN n, own_move h.own fun _ _ => rfl, h.far⟩
theorem Fl.drew {w W : World} {l : List Nat} {S s : Nat} (h : Fl w W l S s) : Fl w W.drew l S s := ⟨h.b.drew, own_move h.own fun _ _ => rfl, h.far⟩
theorem tab_put {l : List Nat} {v u : Value} : (tabC l v).set 16 u = tabC l u := by
  unfold tabC
  rw [List.set_append_right _ _ (by simp)]
  simp
theorem Fl.start {w W : World} {l : List Nat} (h : Bw w W (tabC l (.slice none 0 0)) (nxtC l 16)) (hl : (symT l).length ≤ 1000) :
    Fl w ((W.alloc (.cells (madeCells #[.int .i64 0] (symT l).length) 3)).setCell ⟨w.heap.size + 1, 16, none⟩ (.slice (some ⟨W.heap.size, 0, none⟩) (symT l).length (symT l).length)) l W.heap.size 0 := by
  have hs := h.size
  have h1 : Bw w (W.alloc (.cells (madeCells #[.int .i64 0] (symT l).length) 3)) (tabC l (.slice none 0 0)) (nxtC l 16) :=
    ⟨(Below.heap_alloc _ _ _ (by omega)).trans h.r, (Below.heap_alloc _ _ _ (by omega)).trans h.t, (Below.heap_alloc _ _ _ (by omega)).trans h.x, below_alloc h.below _, by simp; omega⟩
  have h2 := h1.setT 16 (.slice (some ⟨W.heap.size, 0, none⟩) (symT l).length (symT l).length)
  rw [tab_put, plcC_zero] at h2
  refine ⟨h2, ?_, hs⟩
  have ho := own_made W w.heap.size 3 .i64 (symT l).length (by omega) (by omega)
  have e : natI (fillT l 0) = List.replicate (symT l).length 0 := by rw [fillT_zero]; simp [natI]
  rw [e]
  refine own_move ho fun k hk => Below.heap_setCell _ _ _ k ?_
  have : k = W.heap.size := by simpa [Value.ownBlock] using hk.symm
  show k ≠ w.heap.size + 1
  omega
theorem natI_set (l : List Nat) (j v : Nat) : (natI l).set j (v : Int) = natI (l.set j v) := by simp [natI, List.map_set]
theorem Fl.step {w W : World} {l : List Nat} {S s x pl : Nat} (h : Fl w W l S s) (hx : l[s]? = some x) (h0 : 0 < x) (h16 : x < 16) (hp : sumT l (x - 1) + (l.take s).count x = pl) :
    Fl w ((W.setCell ⟨S, pl, none⟩ (.int .i64 s)).setCell ⟨w.heap.size + 1 + 1, x, none⟩ (.int .i64 ((pl : Int) + 1))) l S (s + 1) := by
  have hf := h.far
  have hst := own_store h.own (pl : Int) (s : Int)
  rw [Int.toNat_natCast] at hst
  have h1 : Bw w (W.setCell ⟨S, pl, none⟩ (.int .i64 s)) (tabC l (.slice (some ⟨S, 0, none⟩) (symT l).length (symT l).length)) (plcC l s) :=
    ⟨(Below.heap_setCell W _ _ _ (by show w.heap.size ≠ S; omega)).trans h.b.r, (Below.heap_setCell W _ _ _ (by show w.heap.size + 1 ≠ S; omega)).trans h.b.t, (Below.heap_setCell W _ _ _ (by show w.heap.size + 1 + 1 ≠ S; omega)).trans h.b.x,
      Below.setCell h.b.below (by show w.heap.size ≤ S; omega) _, by simpa [World.setCell] using h.b.size⟩
  have h2 := h1.setX x (.int .i64 ((pl : Int) + 1))
  rw [← hp, plcC_step hx h0 h16, hp] at h2
  refine ⟨h2, ?_, hf⟩
  have h3 := hst.1
  rw [natI_set, ← hp, ← fillT_step hx h0 h16, hp] at h3
  refine own_move h3 fun k hk => Below.heap_setCell _ _ _ k ?_
  have : k = S := by simpa [Value.ownBlock] using hk.symm
  show k ≠ w.heap.size + 1 + 1
  omega
theorem nat_cell {w W : World} {ad : Addr} {l : List Nat} (hr : ReadsInt w .i64 (some ad) l.length (natI l)) (hb : Below w.heap.size w W) {i : Nat} (hi : i < l.length) : W.cell? (ad.add i) = some (.int .i64 ((l.getD i 0 : Nat) : Int)) := by
  obtain ⟨ad', e, hc⟩ := (hr.below hb).2.2 (by omega)
  cases e
  rw [hc i hi]
  simp only [natI, List.getD_eq_getElem?_getD, List.getElem?_map]
  cases l[i]? <;> rfl
theorem getD_mem {l : List Nat} {i : Nat} (h : i < l.length) : l.getD i 0 ∈ l := by
  rw [List.getD_eq_getElem?_getD, List.getElem?_eq_getElem h]
  exact List.getElem_mem h
theorem getD_get {l : List Nat} {i x : Nat} (h : i < l.length) (hx : l.getD i 0 = x) : l[i]? = some x := by
  rw [List.getD_eq_getElem?_getD, List.getElem?_eq_getElem h] at hx
  rw [List.getElem?_eq_getElem h]
  exact congrArg some hx
theorem build_end {w W : World} {l : List Nat} {S : Nat} {nn res b : Bool} (h : Fl w W l S l.length) (hr : res = okT l nn) (hv : res = b) :
    BuildT w l nn (.returned (.tuple #[.agg (tabC l (.slice (some ⟨S, 0, none⟩) (symT l).length (symT l).length)).toArray, .bool b])) (W.setRow w.heap.size (tabC l (.slice (some ⟨S, 0, none⟩) (symT l).length (symT l).length)).toArray) := by
  refine ⟨_, by rw [← hr, hv], Lib.hid fun _ => ?_, Lib.hid (below_setRow h.b.below (Nat.le_refl _) _), Lib.hid ⟨_, _, _, rfl⟩⟩
  have ho := h.own
  rw [fillT_all] at ho
  refine own_move ho fun k hk => setRow_other _ _ _ _ ?_
  have : k = S := by simpa [Value.ownBlock] using hk.symm
  have := h.far
  omega
set_option maxRecDepth 8000 in
set_option maxHeartbeats 4000000 in
theorem build_calls (w : World) (A : Option Addr) (c : Nat) (l : List Nat) (nn : Bool) (hr : ReadsInt w .i64 A l.length (natI l)) (hl : l.length ≤ 1000) (hx : ∀ x ∈ l, x < 16) :
    Calls Tryd.prog 68 #[.slice A l.length c, .bool nn] w fun ee w' => BuildT w l nn ee w' := by
  have HR := Lib.hid hr
  have HL := Lib.hid hl
  have HX := Lib.hid hx
  clear hr hl hx
  go_enter Tryd.func68, Tryd.ntmps68
  go_wp2_with fail
  have hB0 : Bw w (((w.alloc (.cells #[.int .i64 0, .int .i64 0, .int .i64 0, .int .i64 0, .int .i64 0, .int .i64 0, .int .i64 0, .int .i64 0, .int .i64 0, .int .i64 0, .int .i64 0, .int .i64 0, .int .i64 0, .int .i64 0, .int .i64 0, .int .i64 0, .slice none 0 0] 59)).alloc (.cells #[.int .i64 0, .int .i64 0, .int .i64 0, .int .i64 0, .int .i64 0, .int .i64 0, .int .i64 0, .int .i64 0, .int .i64 0, .int .i64 0, .int .i64 0, .int .i64 0, .int .i64 0, .int .i64 0, .int .i64 0, .int .i64 0, .slice none 0 0] 59)).alloc (.cells #[.int .i64 0, .int .i64 0, .int .i64 0, .int .i64 0, .int .i64 0, .int .i64 0, .int .i64 0, .int .i64 0, .int .i64 0, .int .i64 0, .int .i64 0, .int .i64 0, .int .i64 0, .int .i64 0, .int .i64 0, .int .i64 0, .int .i64 0] 105)) (cntC [] (.slice none 0 0)) (nxtC [] 0) := Bw.start w
  generalize (((w.alloc _).alloc _).alloc _) = W0 at hB0 ⊢
  have HB0 := Lib.hid hB0
  clear hB0
  go_loopw [18] (fun v wr => ∃ i : Nat, v = .int .i64 i ∧ i ≤ l.length ∧ Hid (Bw w wr (cntC (l.take i) (.slice none 0 0)) (nxtC [] 0))) (fun v _ => l.length - (intOf v).toNat)
  case atStart => exact ⟨0, rfl, by omega, HB0⟩
  case round =>
    obtain ⟨i, rfl, hi, HB⟩ := hrel
    by_cases hlt : i < l.length
    · have ilt : (i : Int) < (l.length : Int) := by omega
      obtain ⟨ad, rfl, _⟩ := HR.out.2.2 (by omega)
      have hci := nat_cell HR.out HB.out.below hlt
      have hx16 := HX.out _ (getD_mem hlt)
      generalize hgx : l.getD i 0 = x at hci hx16
      have HG := Lib.hid (getD_get hlt hgx)
      have hcT : wr.cell? ⟨w.heap.size + 1, x, none⟩ = some (.int .i64 (((l.take i).count x : Nat) : Int)) := blk_cellL HB.out.t (cntC_get hx16)
      have hfT : wr.frozen? ⟨w.heap.size + 1, x, none⟩ = false := blk_frozen HB.out.t x
      have hcl : (l.take i).count x ≤ 1000 := Nat.le_trans List.count_le_length (by rw [List.length_take]; have := HL.out; omega)
      generalize hgc : (l.take i).count x = ct at *
      have HGC := Lib.hid hgc
      clear hgx hgc
      have hx0 : (0 : Int) ≤ (x : Int) := by omega
      go_wp2_with fail
      have hwi : wrap64 ((i : Int) + 1) = ((i + 1 : Nat) : Int) := by rw [IntWalk.wrap64_in _ (by have := HL.out; omega)]; omega
      rw [hwi]
      clear hwi
      go_roundw
      case rel =>
        refine ⟨i + 1, rfl, by omega, Lib.hid ?_⟩
        · have h := HB.out.setT x (.int .i64 ((ct : Int) + 1))
          rw [← HGC.out, cntC_step hx16, ← take_snoc HG.out] at h
          rw [← HGC.out]
          exact h
      case measure =>
        simp [intOf]
        omega
    · have ilt : ¬ (i : Int) < (l.length : Int) := by omega
      obtain rfl : i = l.length := by omega
      have hBl := HB.out
      rw [List.take_length] at hBl
      have hcT : wr.cell? ⟨w.heap.size + 1, 0, none⟩ = some (.int .i64 ((l.count 0 : Nat) : Int)) := blk_cellL hBl.t (cntC_get (by omega))
      have hfT : wr.frozen? ⟨w.heap.size + 1, 0, none⟩ = false := blk_frozen hBl.t 0
      have hcl : l.count 0 ≤ l.length := List.count_le_length
      have hused := used_eq HX.out
      have hb2 : Bw w (wr.setCell ⟨w.heap.size + 1, 0, none⟩ (.int .i64 0)) (tabC l (.slice none 0 0)) (nxtC l 1) := by
        have h := hBl.setT 0 (.int .i64 0)
        rw [cntC_tab] at h
        have e : nxtC [] 0 = nxtC l 1 := by
          unfold nxtC
          apply List.map_congr_left
          intro j _
          congr 2
          by_cases h1 : j ≤ 1
          · rw [if_pos h1, show j - 1 = 0 from by omega]
            by_cases h2 : j ≤ 0
            · rw [if_pos h2]; rfl
            · rw [if_neg h2]; rfl
          · rw [if_neg h1, if_neg (by omega)]
        rw [e] at h
        exact h
      have HB2 := Lib.hid hb2
      have HU := Lib.hid hused
      generalize hgc : l.count 0 = c0 at *
      have hl1 : l.length ≤ 1000 := HL.out
      clear hBl hb2 hused HB hgc
      go_wp2_with fail
      rw [show (l.length : Int) - (c0 : Int) = ((symT l).length : Int) from by have := HU.out; omega]
      generalize wr.setCell ⟨w.heap.size + 1, 0, none⟩ (.int .i64 0) = W1 at *
      clear hcT hfT hcl hl1
      go_loopw [11, 12] (fun vl vn wr => ∃ n : Nat, vn = .int .i64 n ∧ 1 ≤ n ∧ n ≤ 16 ∧ vl = .int .i64 (leftT l (n - 1)) ∧ Hid (∀ j, j < n → 0 ≤ leftT l j) ∧ Hid (Bw w wr (tabC l (.slice none 0 0)) (nxtC l n))) (fun _ v _ => 16 - (intOf v).toNat)
      case atStart => exact ⟨1, rfl, by omega, by omega, rfl, Lib.hid (fun j hj => by rw [show j = 0 from by omega]; simp [leftT]), HB2⟩
      case round =>
        clear HB2
        obtain ⟨n, rfl, hn1, hn2, rfl, HP, HB⟩ := hrel
        have hbp := leftT_bound l (n - 1)
        have hpw : (2 : Int) ^ (n - 1) ≤ 32768 := by
          have h1 : 2 ^ (n - 1) ≤ 32768 := Nat.pow_le_pow_right (n := 2) (by decide) (show n - 1 ≤ 15 by omega)
          have h2 : (2 : Int) ^ (n - 1) = ((2 ^ (n - 1) : Nat) : Int) := by simp
          rw [h2]
          omega
        have h0l := HP.out (n - 1) (by omega)
        have HBP := Lib.hid (And.intro h0l (show leftT l (n - 1) ≤ 32768 by omega))
        clear hbp hpw h0l
        by_cases hn16 : n < 16
        · have i16 : (n : Int) < 16 := by omega
          have hc1 : wr.cell? ⟨w.heap.size + 1, n, none⟩ = some (.int .i64 ((cntT l n : Nat) : Int)) := blk_cellL HB.out.t (tab_get hn16)
          have hx1 : wr.cell? ⟨w.heap.size + 1 + 1, n, none⟩ = some (.int .i64 ((sumT l (n - 1) : Nat) : Int)) := by
            have := blk_cellL HB.out.x (nxtC_get (l := l) (n := n) (j := n) (by omega))
            rw [if_pos (Nat.le_refl n)] at this
            exact this
          have hfx : wr.frozen? ⟨w.heap.size + 1 + 1, n + 1, none⟩ = false := blk_frozen HB.out.x (n + 1)
          have hx2 : wr.cell? ⟨w.heap.size + 1 + 1, n + 1, none⟩ = some (.int .i64 0) := by
            have := blk_cellL HB.out.x (nxtC_get (l := l) (n := n) (j := n + 1) (by omega))
            rw [if_neg (by omega)] at this
            exact this
          have hcle : cntT l n ≤ 1000 := by
            have := cnt_le l (n - 1) (by omega)
            rw [show n - 1 + 1 = n from by omega] at this
            have := symT_le l
            have := HL.out
            omega
          have hsum : sumT l (n - 1) + cntT l n = sumT l n := by
            have := cnt_sum l (n - 1) (by omega)
            rw [show n - 1 + 1 = n from by omega] at this
            exact this.symm
          have hsle : sumT l (n - 1) ≤ 1000 := by
            have := sumT_mono l (show n - 1 ≤ 15 by omega)
            rw [← symT_len] at this
            have := symT_le l
            have := HL.out
            omega
          have hln : leftT l n = 2 * leftT l (n - 1) - (cntT l n : Int) := by
            obtain ⟨m, rfl⟩ : ∃ m, n = m + 1 := ⟨n - 1, by omega⟩
            simp [leftT, cntT]
          have HSUM := Lib.hid hsum
          have HLN := Lib.hid hln
          generalize hlf : leftT l (n - 1) = lf at *
          generalize hct : cntT l n = ct at *
          generalize hsm : sumT l (n - 1) = sm at *
          have hl1 : lf ≤ 32768 := HBP.out.2
          have hl0 : 0 ≤ lf := HBP.out.1
          have hn0 : (0 : Int) ≤ (n : Int) := by omega
          clear hsum hln hlf hct hsm
          by_cases hneg : 2 * lf - (ct : Int) < 0
          · go_wp2_with (first
              | (refine wpList_load_row rfl 59 (.tmp 6) rfl (w.heap.size + 1) rfl 59 _ (0, 0) _ HB.out.t Tryd.underlying59 rfl (by rw [tabC_size]; exact infoTab) ?_)
              | (refine wpList_store_row rfl 59 (.tmp 4) (.tmp 51) rfl w.heap.size (tabC l (.slice none 0 0)).toArray rfl rfl 59 _ HB.out.r (by rw [tabC_size]; exact infoTab) (by rw [tabC_size, cntC_size]) (tabC_one l none 0 0) ?_))
            have hb3 := setRow_heap wr w.heap.size _ (tabC l (.slice none 0 0)).toArray _ _ HB.out.r
            refine bodyPost_ret (results_cell_tmp rfl _ _ w.heap.size 59 _ (0, 0) _ rfl hb3 Tryd.underlying59 rfl (by rw [tabC_size]; exact infoTab)) rfl ?_
            have hno : okT l nn = false := by
              unfold okT
              have h1 : (List.range 15).all (fun n => decide (0 ≤ leftT l (n + 1))) = false := by
                rw [List.all_eq_false]
                refine ⟨n - 1, by rw [List.mem_range]; omega, ?_⟩
                rw [show n - 1 + 1 = n from by omega, HLN.out]
                simp
                omega
              rw [h1]
              rfl
            refine ⟨.slice none 0 0, ?_, Lib.hid (fun h => by rw [hno] at h; cases h), Lib.hid (below_setRow HB.out.below (Nat.le_refl _) _), Lib.hid ⟨_, _, _, rfl⟩⟩
            rw [hno]
            rfl
          · obtain ⟨hwn, hws⟩ : IntKind.i64.wrap ((n : Int) + 1) = ((n + 1 : Nat) : Int) ∧ IntKind.i64.wrap ((sm : Int) + (ct : Int)) = ((sm + ct : Nat) : Int) := ⟨by rw [IntKind.wrap_i64]; omega, by rw [IntKind.wrap_i64]; omega⟩
            have hn17 : ((n + 1 : Nat) : Int) < 17 := by omega
            have hn17a : (n : Int) < 17 := by omega
            generalize hn1' : n + 1 = n1 at *
            generalize hsc : sm + ct = sc at *
            go_wp2_with fail
            go_still_tail 11, (by kernel_rfl)
            go_wp2_with fail
            go_roundw
            case rel =>
              refine ⟨n1, rfl, by omega, by omega, ?_, Lib.hid (fun j hj => ?_), Lib.hid ?_⟩
              · rw [show n1 - 1 = n from by omega, HLN.out]
              · rcases Nat.lt_or_ge j n with h | h
                · exact HP.out j h
                · rw [show j = n from by omega, HLN.out]
                  omega
              · have h := HB.out.setX (n + 1) (.int .i64 ((sumT l n : Nat) : Int))
                rw [nxtC_step hn16, hn1', ← HSUM.out] at h
                exact h.drew
            case measure => simp [intOf]; omega
        · have i16 : ¬ (n : Int) < 16 := by omega
          obtain rfl : n = 16 := by omega
          have hmi := print_make (P := Tryd.prog) 51 3 .i64 8 Tryd.underlying51 infoIntB (by decide) (symT l).length (by have := symT_le l; have := HL.out; omega)
          have hS1 : (symT l).length ≤ 1000 := by have := symT_le l; have := HL.out; omega
          have HS1 := Lib.hid hS1
          have hF0 := Fl.start HB.out hS1
          have HF0 := Lib.hid hF0
          have hft : (wr.alloc (.cells (madeCells #[.int .i64 0] (symT l).length) 3)).frozen? ⟨w.heap.size + 1, 16, none⟩ = false := blk_frozen ((Below.heap_alloc _ _ _ (by have := HB.out.size; omega)).trans HB.out.t) 16
          have hct : (wr.alloc (.cells (madeCells #[.int .i64 0] (symT l).length) 3)).cell? ⟨w.heap.size + 1, 16, none⟩ = some (.slice none 0 0) := blk_cellL ((Below.heap_alloc _ _ _ (by have := HB.out.size; omega)).trans HB.out.t) tab_sym
          clear hS1 hF0
          go_wp2_with fail
          generalize (wr.alloc _).setCell _ _ = W2 at HF0 ⊢
          generalize wr.heap.size = S at *
          clear hmi hft hct
          obtain ⟨res, hres⟩ : ∃ res, res = okT l nn := ⟨_, rfl⟩
          have hall : (List.range 15).all (fun n => decide (0 ≤ leftT l (n + 1))) = true := by
            rw [List.all_eq_true]
            intro m hm
            rw [List.mem_range] at hm
            simpa using HP.out (m + 1) (by omega)
          have hok : res = (leftT l 15 == 0 || ((symT l).length == 1 && l.count 1 == 1) || (nn && (symT l).length == 0)) := by
            rw [hres]
            unfold okT
            rw [hall]
            rfl
          have HOK := Lib.hid hok
          have HRES := Lib.hid hres
          clear hall hok hres
          go_loopw [68] (fun v wr => ∃ s : Nat, v = .int .i64 s ∧ s ≤ l.length ∧ Hid (Fl w wr l S s)) (fun v _ => l.length - (intOf v).toNat)
          case atStart => exact ⟨0, rfl, by omega, HF0⟩
          case round =>
            clear HF0
            obtain ⟨s, rfl, hs, HF⟩ := hrel
            by_cases hlt : s < l.length
            · have ilt : (s : Int) < (l.length : Int) := by omega
              obtain ⟨ad, rfl, _⟩ := HR.out.2.2 (by omega)
              have hci := nat_cell HR.out HF.out.b.below hlt
              have hx16 := HX.out _ (getD_mem hlt)
              generalize hgx : l.getD s 0 = x at hci hx16
              have HG := Lib.hid (getD_get hlt hgx)
              have hwi : wrap64 ((s : Int) + 1) = ((s + 1 : Nat) : Int) := by rw [IntWalk.wrap64_in _ (by have := HL.out; omega)]; omega
              have HWI := Lib.hid hwi
              clear hgx hwi
              by_cases hx0 : x = 0
              · subst hx0
                go_wp2_with fail
                rw [HWI.out]
                go_roundw
                case rel =>
                  refine ⟨s + 1, rfl, by omega, Lib.hid ⟨?_, ?_, HF.out.far⟩⟩
                  · rw [plcC_zero_step HG.out]; exact HF.out.b
                  · rw [fillT_zero_step HG.out]; exact HF.out.own
                case measure => simp [intOf]; omega
              · have hx1 : (0 : Int) < (x : Int) := by omega
                have hxa : (x : Int) < 16 := by omega
                have hxb : (x : Int) < 17 := by omega
                have hp := place_lt HG.out (by omega) hx16
                have hc16 : wr.cell? ⟨w.heap.size + 1, 16, none⟩ = some (.slice (some ⟨S, 0, none⟩) (symT l).length (symT l).length) := blk_cellL HF.out.b.t tab_sym
                have hcp : wr.cell? ⟨w.heap.size + 1 + 1, x, none⟩ = some (.int .i64 ((sumT l (x - 1) + (l.take s).count x : Nat) : Int)) := blk_cellL HF.out.b.x (plcC_get (by omega) hx16)
                have hfp : wr.frozen? ⟨w.heap.size + 1 + 1, x, none⟩ = false := blk_frozen HF.out.b.x x
                have hSne : ∀ pl : Nat, pl < (symT l).length → ∃ z, wr.cell? ⟨S, pl, none⟩ = some (.int .i64 z) ∧ wr.frozen? ⟨S, pl, none⟩ = false := fun pl hpl => by
                  have h := own_at HF.out.own (pl : Int) (by omega) (by omega)
                  rw [Int.toNat_natCast] at h
                  exact ⟨_, h.1, h.2⟩
                obtain ⟨z, hz1, hz2⟩ := hSne _ hp
                have HF2 := Lib.hid (HF.out.drew.step HG.out (by omega) hx16 rfl)
                generalize sumT l (x - 1) + (l.take s).count x = pl at *
                have hpl : (pl : Int) < ((symT l).length : Int) := by omega
                have hSX : S ≠ w.heap.size + 1 + 1 := by have := HF.out.far; omega
                have hcp2 : (wr.setCell ⟨S, pl, none⟩ (.int .i64 s)).cell? ⟨w.heap.size + 1 + 1, x, none⟩ = some (.int .i64 (pl : Int)) := by
                  rw [← hcp]
                  unfold World.cell?
                  rw [Below.heap_setCell wr ⟨S, pl, none⟩ _ (w.heap.size + 1 + 1) (fun e => hSX e.symm)]
                have hfp2 : (wr.setCell ⟨S, pl, none⟩ (.int .i64 s)).frozen? ⟨w.heap.size + 1 + 1, x, none⟩ = false := by
                  rw [← hfp]
                  unfold World.frozen?
                  rw [Below.heap_setCell wr ⟨S, pl, none⟩ _ (w.heap.size + 1 + 1) (fun e => hSX e.symm)]
                have hpl1 : pl < 1000 := by have := HS1.out; omega
                have hp0 : (0 : Int) ≤ (pl : Int) := by omega
                clear hSne
                go_wp2_with fail
                go_still_tail 7, (by kernel_rfl)
                go_wp2_with fail
                rw [HWI.out]
                go_roundw
                case rel => exact ⟨s + 1, rfl, by omega, HF2⟩
                case measure => simp [intOf]; omega
            · obtain rfl : s = l.length := by omega
              rw [show leftT l (16 - 1) = leftT l 15 from rfl]
              have ilt : ¬ (l.length : Int) < (l.length : Int) := by omega
              have hc1 : wr.cell? ⟨w.heap.size + 1, 1, none⟩ = some (.int .i64 ((l.count 1 : Nat) : Int)) := blk_cellL HF.out.b.t (tab_get (by omega))
              by_cases h1 : leftT l 15 = 0
              · have b1 : (leftT l 15 == 0) = true := by simp [h1]
                have HV : Hid (res = true) := Lib.hid (by rw [HOK.out, b1]; rfl)
                go_wp2_with (first
                  | (refine wpList_load_row rfl 59 (.tmp 6) rfl (w.heap.size + 1) rfl 59 _ (0, 0) _ HF.out.b.t Tryd.underlying59 rfl (by rw [tabC_size]; exact infoTab) ?_)
                  | (refine wpList_store_row rfl 59 (.tmp 4) (.tmp 107) rfl w.heap.size (tabC l (.slice (some ⟨S, 0, none⟩) (symT l).length (symT l).length)).toArray rfl rfl 59 _ HF.out.b.r (by rw [tabC_size]; exact infoTab) (by rw [tabC_size, cntC_size]) (tabC_one l _ _ _) ?_))
                have hb3 := setRow_heap wr w.heap.size _ (tabC l (.slice (some ⟨S, 0, none⟩) (symT l).length (symT l).length)).toArray _ _ HF.out.b.r
                refine bodyPost_ret (results_cell_tmp rfl _ _ w.heap.size 59 _ (0, 0) _ rfl hb3 Tryd.underlying59 rfl (by rw [tabC_size]; exact infoTab)) rfl ?_
                exact build_end HF.out HRES.out HV.out
              have b1 : (leftT l 15 == 0) = false := by simp [h1]
              by_cases h2 : (symT l).length = 1
              · have b2 : (((symT l).length : Int) == 1) = true := by simp [h2]
                have b4 : (((symT l).length : Int) == 0) = false := by simp [h2]
                have H2 := Lib.hid h2
                clear h2
                by_cases h3 : l.count 1 = 1
                · have b3 : (((l.count 1 : Nat) : Int) == 1) = true := by simp [h3]
                  have HV : Hid (res = true) := Lib.hid (by rw [HOK.out, H2.out, h3]; simp)
                  go_wp2_with (first
                    | (refine wpList_load_row rfl 59 (.tmp 6) rfl (w.heap.size + 1) rfl 59 _ (0, 0) _ HF.out.b.t Tryd.underlying59 rfl (by rw [tabC_size]; exact infoTab) ?_)
                    | (refine wpList_store_row rfl 59 (.tmp 4) (.tmp 107) rfl w.heap.size (tabC l (.slice (some ⟨S, 0, none⟩) (symT l).length (symT l).length)).toArray rfl rfl 59 _ HF.out.b.r (by rw [tabC_size]; exact infoTab) (by rw [tabC_size, cntC_size]) (tabC_one l _ _ _) ?_))
                  have hb3 := setRow_heap wr w.heap.size _ (tabC l (.slice (some ⟨S, 0, none⟩) (symT l).length (symT l).length)).toArray _ _ HF.out.b.r
                  refine bodyPost_ret (results_cell_tmp rfl _ _ w.heap.size 59 _ (0, 0) _ rfl hb3 Tryd.underlying59 rfl (by rw [tabC_size]; exact infoTab)) rfl ?_
                  exact build_end HF.out HRES.out HV.out
                have b3 : (((l.count 1 : Nat) : Int) == 1) = false := beq_eq_false_iff_ne.2 (by omega)
                have HV : Hid (res = false) := Lib.hid (by rw [HOK.out, b1, H2.out]; simp [h3])
                cases nn
                · skip
                  go_wp2_with (first
                    | (refine wpList_load_row rfl 59 (.tmp 6) rfl (w.heap.size + 1) rfl 59 _ (0, 0) _ HF.out.b.t Tryd.underlying59 rfl (by rw [tabC_size]; exact infoTab) ?_)
                    | (refine wpList_store_row rfl 59 (.tmp 4) (.tmp 107) rfl w.heap.size (tabC l (.slice (some ⟨S, 0, none⟩) (symT l).length (symT l).length)).toArray rfl rfl 59 _ HF.out.b.r (by rw [tabC_size]; exact infoTab) (by rw [tabC_size, cntC_size]) (tabC_one l _ _ _) ?_))
                  have hb3 := setRow_heap wr w.heap.size _ (tabC l (.slice (some ⟨S, 0, none⟩) (symT l).length (symT l).length)).toArray _ _ HF.out.b.r
                  refine bodyPost_ret (results_cell_tmp rfl _ _ w.heap.size 59 _ (0, 0) _ rfl hb3 Tryd.underlying59 rfl (by rw [tabC_size]; exact infoTab)) rfl ?_
                  exact build_end HF.out HRES.out HV.out
                · skip
                  go_wp2_with (first
                    | (refine wpList_load_row rfl 59 (.tmp 6) rfl (w.heap.size + 1) rfl 59 _ (0, 0) _ HF.out.b.t Tryd.underlying59 rfl (by rw [tabC_size]; exact infoTab) ?_)
                    | (refine wpList_store_row rfl 59 (.tmp 4) (.tmp 107) rfl w.heap.size (tabC l (.slice (some ⟨S, 0, none⟩) (symT l).length (symT l).length)).toArray rfl rfl 59 _ HF.out.b.r (by rw [tabC_size]; exact infoTab) (by rw [tabC_size, cntC_size]) (tabC_one l _ _ _) ?_))
                  have hb3 := setRow_heap wr w.heap.size _ (tabC l (.slice (some ⟨S, 0, none⟩) (symT l).length (symT l).length)).toArray _ _ HF.out.b.r
                  refine bodyPost_ret (results_cell_tmp rfl _ _ w.heap.size 59 _ (0, 0) _ rfl hb3 Tryd.underlying59 rfl (by rw [tabC_size]; exact infoTab)) rfl ?_
                  exact build_end HF.out HRES.out HV.out
              have b2 : (((symT l).length : Int) == 1) = false := beq_eq_false_iff_ne.2 (by omega)
              cases nn
              · have HV : Hid (res = false) := Lib.hid (by rw [HOK.out, b1]; simp [h2])
                go_wp2_with (first
                  | (refine wpList_load_row rfl 59 (.tmp 6) rfl (w.heap.size + 1) rfl 59 _ (0, 0) _ HF.out.b.t Tryd.underlying59 rfl (by rw [tabC_size]; exact infoTab) ?_)
                  | (refine wpList_store_row rfl 59 (.tmp 4) (.tmp 107) rfl w.heap.size (tabC l (.slice (some ⟨S, 0, none⟩) (symT l).length (symT l).length)).toArray rfl rfl 59 _ HF.out.b.r (by rw [tabC_size]; exact infoTab) (by rw [tabC_size, cntC_size]) (tabC_one l _ _ _) ?_))
                have hb3 := setRow_heap wr w.heap.size _ (tabC l (.slice (some ⟨S, 0, none⟩) (symT l).length (symT l).length)).toArray _ _ HF.out.b.r
                refine bodyPost_ret (results_cell_tmp rfl _ _ w.heap.size 59 _ (0, 0) _ rfl hb3 Tryd.underlying59 rfl (by rw [tabC_size]; exact infoTab)) rfl ?_
                exact build_end HF.out HRES.out HV.out
              by_cases h4 : (symT l).length = 0
              · have b4 : (((symT l).length : Int) == 0) = true := by simp [h4]
                have HV : Hid (res = true) := Lib.hid (by rw [HOK.out, h4]; simp)
                clear h4
                go_wp2_with (first
                  | (refine wpList_load_row rfl 59 (.tmp 6) rfl (w.heap.size + 1) rfl 59 _ (0, 0) _ HF.out.b.t Tryd.underlying59 rfl (by rw [tabC_size]; exact infoTab) ?_)
                  | (refine wpList_store_row rfl 59 (.tmp 4) (.tmp 107) rfl w.heap.size (tabC l (.slice (some ⟨S, 0, none⟩) (symT l).length (symT l).length)).toArray rfl rfl 59 _ HF.out.b.r (by rw [tabC_size]; exact infoTab) (by rw [tabC_size, cntC_size]) (tabC_one l _ _ _) ?_))
                have hb3 := setRow_heap wr w.heap.size _ (tabC l (.slice (some ⟨S, 0, none⟩) (symT l).length (symT l).length)).toArray _ _ HF.out.b.r
                refine bodyPost_ret (results_cell_tmp rfl _ _ w.heap.size 59 _ (0, 0) _ rfl hb3 Tryd.underlying59 rfl (by rw [tabC_size]; exact infoTab)) rfl ?_
                exact build_end HF.out HRES.out HV.out
              have b4 : (((symT l).length : Int) == 0) = false := beq_eq_false_iff_ne.2 (by omega)
              have HV : Hid (res = false) := Lib.hid (by rw [HOK.out, b1, show ((symT l).length == 1) = false from beq_eq_false_iff_ne.2 h2, show ((symT l).length == 0) = false from beq_eq_false_iff_ne.2 h4]; rfl)
              go_wp2_with (first
                | (refine wpList_load_row rfl 59 (.tmp 6) rfl (w.heap.size + 1) rfl 59 _ (0, 0) _ HF.out.b.t Tryd.underlying59 rfl (by rw [tabC_size]; exact infoTab) ?_)
                | (refine wpList_store_row rfl 59 (.tmp 4) (.tmp 107) rfl w.heap.size (tabC l (.slice (some ⟨S, 0, none⟩) (symT l).length (symT l).length)).toArray rfl rfl 59 _ HF.out.b.r (by rw [tabC_size]; exact infoTab) (by rw [tabC_size, cntC_size]) (tabC_one l _ _ _) ?_))
              have hb3 := setRow_heap wr w.heap.size _ (tabC l (.slice (some ⟨S, 0, none⟩) (symT l).length (symT l).length)).toArray _ _ HF.out.b.r
              refine bodyPost_ret (results_cell_tmp rfl _ _ w.heap.size 59 _ (0, 0) _ rfl hb3 Tryd.underlying59 rfl (by rw [tabC_size]; exact infoTab)) rfl ?_
              exact build_end HF.out HRES.out HV.out
end Go.Proofs.YtkdklcamgcmifaaDoor

/-! HRepeat: slices.Repeat, Grow, Concat over whole numbers, as inflate calls them. -/
namespace Go.Proofs.YtkdklcamgcmifaaDoor
set_option linter.unusedVariables false
set_option linter.unusedSimpArgs false
open Go.RowKit Go.Proofs.YtkdklcamgcmifaaDoorW.PrintWords Go.Proofs.YtkdklcamgcmifaaDoorW.PrintMore
set_option maxRecDepth 8000 in
set_option maxHeartbeats 1000000 in
theorem mul64_calls (n : Nat) (w : World) (hn : n ≤ 1000) :
    Calls Tryd.prog 88 #[.int .u64 1, .int .u64 n] w fun e w' => e = .returned (.tuple #[.int .u64 0, .int .u64 n]) ∧ w' = w := by
  have h1 : bits .and .u64 (n : Int) 4294967295 = (n : Int) := by
    have h := bits_mask .u64 40 (by decide) (fun n h0 h1 => by rw [IntKind.wrap_u64]; omega) 32 (by omega) (n : Int) (by omega) (by omega)
    have h' : bits .and .u64 (n : Int) 4294967295 = (n : Int) % 4294967296 := by simpa using h
    rw [h']; omega
  have h2 : (n : Int) / 4294967296 = 0 := by omega
  go_enter Tryd.func88, Tryd.ntmps88
  go_wp2_with fail
  refine bodyPost_ret (results_tmp2 rfl _ _ _) rfl ?_
  refine ⟨?_, rfl⟩
  have h3 : bits .and .u64 1 4294967295 = 1 := by decide
  have h4 : IntKind.u64.wrap (n : Int) = (n : Int) := by rw [IntKind.wrap_u64]; omega
  have h5 : IntKind.u64.wrap 0 = 0 := by decide
  have h6 : bits .and .u64 0 4294967295 = 0 := by decide
  simp [h3, h4, h5, h6, h2]
theorem mul_calls (n : Nat) (w : World) (hn : n ≤ 1000) :
    Calls Tryd.prog 81 #[.int .u64 1, .int .u64 n] w fun e w' => e = .returned (.tuple #[.int .u64 0, .int .u64 n]) ∧ w' = w := by
  have HN := Lib.hid hn
  go_enter Tryd.func81, Tryd.ntmps81
  go_wp2_with fail
  refine (mul64_calls n w HN.out).mono ?_
  rintro e w' ⟨rfl, rfl⟩
  go_wp2_with fail
  refine bodyPost_ret (results_tmp2 rfl _ _ _) rfl ?_
  exact ⟨rfl, rfl⟩
/-- A row while it is filled. -/
def repL (v : Int) (n k : Nat) : List Value := nums .i64 (List.replicate k v ++ List.replicate (n - k) 0)
theorem repL_len (v : Int) {n k : Nat} (h : k ≤ n) : (repL v n k).length = n := by simp [repL, nums]; omega
theorem repL_splice (v : Int) {n k m : Nat} (h : k + m ≤ n) : splice (repL v n k) k (List.replicate m (.int .i64 v)) = repL v n (k + m) := by
  have e : repL v n k = List.replicate k (.int .i64 v) ++ (List.replicate m (.int .i64 0) ++ List.replicate (n - (k + m)) (.int .i64 0)) := by
    rw [List.replicate_append_replicate]
    simp only [repL, nums, List.map_append, List.map_replicate]
    rw [show m + (n - (k + m)) = n - k from by omega]
  have e2 : (repL v n k).drop (k + m) = List.replicate (n - (k + m)) (.int .i64 0) := by rw [e, ← List.append_assoc, List.drop_left' (by simp)]
  unfold splice
  rw [List.length_replicate, e2, e, List.take_left' (by simp)]
  simp only [repL, nums, List.map_append, List.map_replicate]
  rw [← List.append_assoc, List.replicate_append_replicate]
theorem repL_get (v : Int) {n k j : Nat} (h : j < k) : (repL v n k)[j]? = some (.int .i64 v) := by
  simp only [repL, nums, List.map_append, List.map_replicate]
  rw [List.getElem?_append_left (by simpa using h)]
  simp [h]
theorem own_of_block {W : World} {base g m : Nat} {e : TypeId} {xs : List Value} (hm : xs.length = m) (hb : base ≤ g) (hl : m ≤ maxLen) (h : W.heap[g]? = some (.cells xs.toArray e (0, 0))) : W.ownsRow base e 1 (.slice (some ⟨g, 0, none⟩) m m) m xs :=
  ⟨by simpa using hm, .inr ⟨g, m, xs.toArray, rfl, hb, h, Nat.le_refl _, hl, by simp [hm], by simp [← hm]⟩⟩
set_option maxRecDepth 8000 in
set_option maxHeartbeats 4000000 in
theorem repeat_int_calls (w : World) (b n : Nat) (v : Int) (hc : w.cell? ⟨b, 0, none⟩ = some (.int .i64 v)) (hn : 1 ≤ n ∧ n ≤ 1000) :
    Calls Tryd.prog 67 #[.slice (some ⟨b, 0, none⟩) 1 1, .int .i64 n] w fun e w' => ∃ c, e = .returned (.slice (some ⟨w.heap.size, 0, none⟩) n c) ∧ Hid (w'.ownsRow w.heap.size 3 1 (.slice (some ⟨w.heap.size, 0, none⟩) n c) n (nums .i64 (List.replicate n v))) ∧ Hid (Below w.heap.size w w') := by
  have HC := Lib.hid hc
  have HN := Lib.hid hn
  have hn1 : n ≤ 1000 := hn.2
  have hn0 : 1 ≤ n := hn.1
  have hwu : IntKind.u64.wrap (n : Int) = (n : Int) := by rw [IntKind.wrap_u64]; omega
  have hmi := print_make (P := Tryd.prog) 51 3 .i64 8 Tryd.underlying51 infoIntB (by decide) n (by omega)
  clear hc hn
  go_enter Tryd.func67, Tryd.ntmps67
  go_wp2_with fail
  refine (mul_calls n w HN.out.2).mono ?_
  rintro e w1 ⟨rfl, rfl⟩
  clear hwu
  have hww : IntKind.i64.wrap (n : Int) = (n : Int) := by rw [IntKind.wrap_i64]; omega
  have hg0 : (w1.alloc (.cells (madeCells #[.int .i64 0] n) 3)).heap[w1.heap.size]? = some (.cells (repL v n 0).toArray 3 (0, 0)) := by
    have h := heap_alloc_new w1 (.cells (madeCells #[.int .i64 0] n) 3)
    have hl : (madeCells #[Value.int .i64 0] n) = (repL v n 0).toArray := by
      apply Array.ext_getElem?
      intro i
      by_cases hi : i < n
      · simp [madeCells, repL, nums, hi, Nat.mod_one]
      · simp [madeCells, repL, nums, hi]
    rw [h, hl]
  have hsrc : (w1.alloc (.cells (madeCells #[.int .i64 0] n) 3)).cell? ⟨b, 0, none⟩ = some (.int .i64 v) := pw_cell_below (below_alloc (Below.refl _ _) _) HC.out
  have HG0 := Lib.hid hg0
  have HSRC := Lib.hid hsrc
  have HB0 : Hid (Below w1.heap.size w1 (w1.alloc (.cells (madeCells #[.int .i64 0] n) 3))) := Lib.hid (below_alloc (Below.refl _ _) _)
  clear hg0 hsrc
  go_wp2_with (first | (refine wpList_copy_splice rfl (.tmp 31) (.tmp 32) 51 51 rfl 3 Tryd.underlying51 (by rfl) (some ⟨w1.heap.size, 0, none⟩) (some ⟨b, 0, none⟩) n n 1 1 rfl rfl w1.heap.size 0 (repL v n 0) 3 HG0.out (List.replicate 1 (.int .i64 v)) (by rw [List.length_replicate]; exact (Nat.min_eq_left HN.out.1).symm) (fun _ => ⟨rfl, ⟨b, 0, none⟩, rfl, fun j u hj => by (cases j with | zero => simp at hj; rw [← hj]; exact HSRC.out | succ j => simp at hj)⟩) (by rw [repL_len v (by omega), List.length_replicate]; have := HN.out; omega) (by simp [Value.oneCell']) w1.heap.size w1 HB0.out (Nat.le_refl _) ?_; intro w2 hg2 hb2; have HG2 := Lib.hid hg2.out; have HB2 := Lib.hid hb2; clear hg2 hb2))
  clear hmi hww HB0
  have e01 : splice (repL v n 0) 0 (List.replicate 1 (.int .i64 v)) = repL v n 1 := repL_splice v (by have := HN.out; omega)
  have HG3 : Hid (w2.heap[w1.heap.size]? = some (.cells (repL v n 1).toArray 3 (0, 0))) := Lib.hid (by rw [← e01]; exact HG2.out)
  clear HG2 e01 HG0 HSRC
  go_loopw [8] (fun vk wr => ∃ k : Nat, vk = .int .i64 k ∧ 1 ≤ k ∧ k ≤ n ∧ Hid (wr.heap[w1.heap.size]? = some (.cells (repL v n k).toArray 3 (0, 0))) ∧ Hid (Below w1.heap.size w1 wr)) (fun vk _ => n - (intOf vk).toNat)
  case atStart => exact ⟨1, rfl, by omega, HN.out.1, HG3, HB2⟩
  case round =>
    clear HG3 HB2
    obtain ⟨k, rfl, hk1, hkn, HG, HB⟩ := hrel
    by_cases hlt : k < n
    · have ilt : (k : Int) < (n : Int) := by omega
      have k0 : (0 : Int) ≤ (k : Int) := by omega
      have kn : (k : Int) ≤ (n : Int) := by omega
      obtain ⟨m, hm⟩ : ∃ m, m = Nat.min k (n - k) := ⟨_, rfl⟩
      have HM := Lib.hid hm
      have hm1 : 1 ≤ m ∧ m ≤ k ∧ k + m ≤ n := by
        rw [hm]
        have h1 := Nat.min_le_left k (n - k)
        have h2 := Nat.min_le_right k (n - k)
        have h3 : 1 ≤ Nat.min k (n - k) := Nat.le_min.2 ⟨hk1, by omega⟩
        exact ⟨h3, h1, by change Nat.min k (n - k) ≤ n - k at h2; omega⟩
      have HM1 := Lib.hid hm1
      clear hm hm1
      go_wp2_with fail
      have HBD : Hid (Below w1.heap.size w1 wr.drew) := Lib.hid (below_drew HB.out)
      have HGD : Hid (wr.drew.heap[w1.heap.size]? = some (.cells (repL v n k).toArray 3 (0, 0))) := Lib.hid HG.out
      have HPOS : Hid (∀ j u, (List.replicate m (Value.int .i64 v))[j]? = some u → wr.drew.cell? ((⟨w1.heap.size, 0, none⟩ : Addr).add j) = some u) := Lib.hid (fun j u hj => by
        have hjm : j < m := by
          apply Nat.lt_of_not_le
          intro h
          rw [List.getElem?_eq_none (by simpa using h)] at hj
          cases hj
        rw [add_plain]
        try rw [Nat.zero_add]
        rw [blk_cellL HGD.out (repL_get v (show j < k by have := HM1.out; omega)), ← hj]
        simp [hjm])
      have HIF : Hid ((if n = k then some (⟨w1.heap.size, 0, none⟩ : Addr) else some ⟨w1.heap.size, k, none⟩) = some ⟨w1.heap.size, k, none⟩) := Lib.hid (if_neg (by omega))
      have HLEN : Hid ((List.replicate m (Value.int .i64 v)).length = Nat.min k (n - k)) := Lib.hid (by rw [List.length_replicate]; exact HM.out)
      have HFIT : Hid (k + (List.replicate m (Value.int .i64 v)).length ≤ (repL v n k).length) := Lib.hid (by rw [repL_len v (by omega), List.length_replicate]; have := HM1.out; omega)
      have HONE : Hid (∀ u ∈ List.replicate m (Value.int .i64 v), u.oneCell' = true) := Lib.hid (by intro u hu; rw [List.eq_of_mem_replicate hu]; rfl)
      go_region_law (refine step_copy_splice rfl (.tmp 41) (.tmp 44) 51 51 rfl 3 Tryd.underlying51 (by rfl) (if n = k then some ⟨w1.heap.size, 0, none⟩ else some ⟨w1.heap.size, k, none⟩) (some ⟨w1.heap.size, 0, none⟩) (n - k) (n - k) k n (by simp [Act.eval, Act.put]) (by simp [Act.eval, Act.put]) w1.heap.size k (repL v n k) 3 HGD.out (List.replicate m (.int .i64 v)) HLEN.out (fun _ => ⟨by exact HIF.out, ⟨w1.heap.size, 0, none⟩, rfl, HPOS.out⟩) HFIT.out HONE.out w1.heap.size w1 HBD.out (Nat.le_refl _) ?_; intro w3 hg3 hb3; have HG3 := Lib.hid hg3.out; have HB3 := Lib.hid hb3; clear hg3 hb3)
      obtain ⟨k2, hk2⟩ : ∃ k2, k2 = k + m := ⟨_, rfl⟩
      have hwk : IntKind.i64.wrap ((k : Int) + (m : Int)) = (k2 : Int) := by rw [IntKind.wrap_i64]; have := HM1.out; have := HN.out; omega
      have HK2 := Lib.hid hk2
      try rw [List.length_replicate]
      clear HGD HBD hk2
      go_wp2_with fail
      have e2 : splice (repL v n k) k (List.replicate m (.int .i64 v)) = repL v n k2 := by rw [HK2.out]; exact repL_splice v HM1.out.2.2
      refine ⟨⟨k2, rfl, by have := HK2.out; have := HM1.out; omega, by have := HK2.out; have := HM1.out; omega, Lib.hid (by rw [← e2]; exact HG3.out)⟩, ?_⟩
      simp [intOf]
      have := HK2.out
      have := HM1.out
      omega
    · obtain rfl : k = n := by omega
      go_wp2_with fail
      go_ret
      refine ⟨k, rfl, Lib.hid ?_, HB⟩
      have e : repL v k k = nums .i64 (List.replicate k v) := by unfold repL; rw [Nat.sub_self, List.replicate_zero, List.append_nil]
      have hg := HG.out
      rw [e] at hg
      exact own_of_block (by rw [nums_length, List.length_replicate]) (Nat.le_refl _) (by have := HN.out; show k ≤ 9223372036854775807; omega) hg
end Go.Proofs.YtkdklcamgcmifaaDoor

/-! HFix: inflate.fixed: the tables that each reader knows; slices.Grow and Concat as it calls them. -/
namespace Go.Proofs.YtkdklcamgcmifaaDoor
set_option linter.unusedVariables false
set_option linter.unusedSimpArgs false
open Go.RowKit Go.Proofs.YtkdklcamgcmifaaDoorW.PrintWords Go.Proofs.YtkdklcamgcmifaaDoorW.PrintMore
set_option maxRecDepth 8000 in
set_option maxHeartbeats 1000000 in
theorem growI_calls (n : Nat) (w : World) (h0 : 0 < n) (hn : n ≤ 1000) :
    Calls Tryd.prog 80 #[.slice none 0 0, .int .i64 n] w fun e w' => ∃ v, e = .returned v ∧ Hid (w'.ownsRow w.heap.size 3 1 v 0 []) ∧ Hid (Below w.heap.size w w') := by
  have h1 : ¬ ((n : Int) < 0) := by omega
  have h2 : (0 : Int) < (n : Int) := by omega
  go_enter Tryd.func80, Tryd.ntmps80
  go_wp2_with (at_builtin; refine Kd.R_append_zeros (Kd.int .i64) w.heap.size rfl (.tmp 20) (.tmp 21) 51 3 3 (.int .i64 0) 8 rfl Tryd.underlying51 Tryd.underlying3 infoIntB rfl (by decide) (by decide) (.slice none 0 0) [] 0 (n : Int) (fun _ => True) rfl rfl rfl (fun _ _ => trivial) (Kd.R_nil _ _ _ _ _) (by omega) (Below.refl w.heap.size w) (Nat.le_refl _) (by simp; omega) ?_; go_must (intro v1 w1 hR hB1 _ _; obtain ⟨A1, c1, hv1, hcap1, _⟩ := Kd.R_reads hR; have hlen1 : ([] ++ List.replicate (n : Int).toNat (0 : Int)).length = n := (by simp); rw [hlen1] at hv1 hcap1; subst hv1; have HR := Lib.hid hR; clear hR hlen1))
  go_ret
  have h2 := Kd.R_take HR.out (m := 0) (by simp)
  have h3 : w1.ownsRow w.heap.size 3 1 (.slice A1 0 c1) 0 [] := Kd.own_of_R (enc := Value.int .i64) h2
  exact ⟨_, rfl, Lib.hid h3, Lib.hid hB1⟩
/-- Four rows stand in a row of rows. -/
structure Four (w : World) (b : Nat) (A : Nat → Option Addr) (n c : Nat → Nat) (X : Nat → List Int) : Prop where
  cell : ∀ j, j < 4 → w.cell? ⟨b, j, none⟩ = some (.slice (A j) (n j) (c j))
  rd : ∀ j, j < 4 → ReadsInt w .i64 (A j) (n j) (X j)
  len : ∀ j, j < 4 → 0 < n j ∧ n j ≤ 200 ∧ (X j).length = n j
theorem Four.below {w w' : World} {b : Nat} {A : Nat → Option Addr} {n c : Nat → Nat} {X : Nat → List Int} (h : Four w b A n c X) (hb : Below w.heap.size w w') : Four w' b A n c X :=
  ⟨fun j hj => pw_cell_below hb (h.cell j hj), fun j hj => (h.rd j hj).below hb, h.len⟩
def catX (X : Nat → List Int) (i : Nat) : List Int := (List.range i).flatMap X
theorem catX_succ (X : Nat → List Int) (i : Nat) : catX X (i + 1) = catX X i ++ X i := by simp [catX, List.range_succ]
set_option maxRecDepth 8000 in
set_option maxHeartbeats 4000000 in
theorem concat4_calls (w : World) (b : Nat) (A : Nat → Option Addr) (n c : Nat → Nat) (X : Nat → List Int) (h : Four w b A n c X) :
    Calls Tryd.prog 66 #[.slice (some ⟨b, 0, none⟩) 4 4] w fun e w' => ∃ v, e = .returned v ∧ Hid (w'.ownsRow w.heap.size 3 1 v (X 0 ++ X 1 ++ X 2 ++ X 3).length (nums .i64 (X 0 ++ X 1 ++ X 2 ++ X 3))) ∧ Hid (Below w.heap.size w w') := by
  have HF := Lib.hid h
  clear h
  go_enter Tryd.func66, Tryd.ntmps66
  go_wp2_with fail
  go_loopw [3, 11] (fun vs vi wr => ∃ i s : Nat, vi = .int .i64 i ∧ vs = .int .i64 s ∧ i ≤ 4 ∧ Hid (s ≤ 200 * i ∧ i ≤ s) ∧ Hid (w = wr)) (fun _ vi _ => 4 - (intOf vi).toNat)
  case atStart => exact ⟨0, 0, rfl, rfl, by omega, Lib.hid (by omega), by first | exact Lib.hid rfl | exact Lib.hid trivial⟩
  case round =>
    obtain ⟨i, s, rfl, rfl, hi, HS, HW⟩ := hrel
    obtain rfl := HW.out
    by_cases hlt : i < 4
    · have ilt : (i : Int) < 4 := by omega
      have i0 : (0 : Int) ≤ (i : Int) := by omega
      have hc := HF.out.cell i hlt
      have hl := HF.out.len i hlt
      generalize hgA : A i = Ai at *
      generalize hgn : n i = ni at *
      generalize hgc : c i = ci at *
      have hl1 : ni ≤ 200 := hl.2.1
      have hs1 : s ≤ 1000 := by have := HS.out; omega
      have HL := Lib.hid hl.1
      clear hl hgA hgn hgc
      go_wp2_with fail
      go_roundw
      case rel => exact ⟨i + 1, s + ni, by go_num, by go_num, by omega, Lib.hid (by have := HS.out; have := HL.out; omega), by first | exact Lib.hid rfl | exact Lib.hid trivial⟩
      case measure => simp [intOf]; omega
    · obtain rfl : i = 4 := by omega
      have hs0 : 0 < s := by have := HS.out; omega
      have hs1 : s ≤ 1000 := by have := HS.out; omega
      have HSS := Lib.hid (And.intro hs0 hs1)
      clear hs0 hs1
      go_wp2_with fail
      refine (growI_calls s w HSS.out.1 HSS.out.2).mono ?_
      rintro e w1 ⟨v1, rfl, hown1, hb1⟩
      have HO1 := Lib.hid hown1.out
      have HB1 := Lib.hid hb1.out
      clear hown1 hb1
      go_wp2_with fail
      go_loopw [6, 27] (fun vv vi wr2 => ∃ i : Nat, vi = .int .i64 i ∧ i ≤ 4 ∧ Hid (wr2.ownsRow w.heap.size 3 1 vv (catX X i).length (nums .i64 (catX X i))) ∧ Hid (Below w.heap.size w wr2)) (fun _ vi _ => 4 - (intOf vi).toNat)
      case atStart => exact ⟨0, rfl, by omega, HO1, HB1⟩
      case round =>
        clear HO1 HB1
        obtain ⟨i, rfl, hi, HO, HB⟩ := hrel
        by_cases hlt2 : i < 4
        · have ilt : (i : Int) < 4 := by omega
          have i0 : (0 : Int) ≤ (i : Int) := by omega
          have hF := HF.out.below HB.out
          have hc := hF.cell i hlt2
          have HRD := Lib.hid (hF.rd i hlt2)
          have hl := hF.len i hlt2
          have hcl : (catX X i).length ≤ 200 * i := by
            have key : ∀ k, k ≤ 4 → (catX X k).length ≤ 200 * k := by
              intro k
              induction k with
              | zero => intro _; simp [catX]
              | succ k ih =>
                intro hk
                rw [catX_succ, List.length_append]
                have h1 := HF.out.len k (by omega)
                have h2 := ih (by omega)
                omega
            exact key i hi
          have HCS := Lib.hid (catX_succ X i)
          have HCL := Lib.hid hcl
          generalize hgA : A i = Ai at *
          generalize hgn : n i = ni at *
          generalize hgc : c i = ci at *
          generalize hgX : X i = Xi at *
          generalize hgC : catX X i = Ci at *
          generalize hgD : catX X (i + 1) = Di at *
          have HGD := Lib.hid hgD
          have HL := Lib.hid hl
          clear hl hgA hgn hgc hgX hgC hgD hcl hF
          go_wp2_with (at_builtin; go_must (refine print_append_row (w0 := w) w.heap.size rfl (.tmp 31) (.tmp 32) 51 3 .i64 8 rfl Tryd.underlying51 infoIntB (by decide) u6 Ci Xi Ai ni ci rfl rfl HO.out HRD.out HB.out HB.out.size (by have := HL.out; have := HCL.out; omega) ?_; intro v2 w2 hown2 hb2 _ _; have HO2 := Lib.hid hown2; have HB2 := Lib.hid hb2; clear hown2 hb2))
          go_roundw
          case rel =>
            refine ⟨i + 1, by go_num, by omega, Lib.hid ?_, HB2⟩
            rw [HGD.out, HCS.out]
            exact HO2.out
          case measure => simp [intOf]; omega
        · obtain rfl : i = 4 := by omega
          go_wp2_with fail
          go_ret
          refine ⟨_, rfl, Lib.hid ?_, HB⟩
          have e : catX X 4 = X 0 ++ X 1 ++ X 2 ++ X 3 := by simp [catX, List.range_succ]
          rw [← e]
          exact HO.out
/-- What a pair of tables tells. -/
def PairT (w : World) (l d : List Nat) (ee : Ending) (w' : World) : Prop :=
  ∃ v u, ee = .returned (.tuple #[.agg (tabC l v).toArray, .agg (tabC d u).toArray]) ∧ Hid (w'.ownsRow w.heap.size 3 1 v (symT l).length (nums .i64 (natI (symT l)))) ∧ Hid (w'.ownsRow w.heap.size 3 1 u (symT d).length (nums .i64 (natI (symT d)))) ∧ Hid (Below w.heap.size w w')
section
variable {P : Program}
theorem wpList_store_new {ops : Array Oper} {rest : List Oper} {op : Oper} {a : Act} {w : World} {Q : Exit → Act → World → Prop} (hgd : op.guard = none) (ty : TypeId) (x y : Operand) (ho : op.op = .store ty x y)
    (c c' : Array Value) (hx : a.eval x = .pointer (some ⟨w.heap.size, 0, none⟩)) (hy : a.eval y = .agg c')
    (hi : (P.info? ty).map (·.size) = some c'.size) (hs : c.size = c'.size) (h1 : c'.all (·.oneCell') = true)
    (h : wpList P ops Q rest (a.put op.dst undef) (w.alloc (.cells c' ty))) : wpList P ops Q (op :: rest) a (w.alloc (.cells c ty)) := by
  refine wpList_plain hgd fun _ hK => ?_
  unfold Oper.wp execOp
  simp only [ho, hx, hy, Sem.run_bind, Sem.run_pure, Result.andThen_ok, run_storeAt_new w ty c c' hi hs h1]
  exact hK _ _ h
end
theorem tabC_one' {w : World} {base n : Nat} {l : List Nat} {v : Value} {xs : List Value} {e : TypeId} (h : w.ownsRow base e 1 v n xs) : (tabC l v).toArray.all (·.oneCell') = true := by
  obtain ⟨A, c, rfl⟩ := own_slice h
  exact tabC_one l A n c
theorem fixL_ok : okT fixL false = true := by decide +kernel
theorem fixD_ok : okT fixD false = true := by decide +kernel
theorem repA_calls (W : World) (n : Nat) (v : Int) (hn : 1 ≤ n ∧ n ≤ 1000) :
    Calls Tryd.prog 67 #[.slice (some ⟨W.heap.size, 0, none⟩) 1 1, .int .i64 n] (W.alloc (.cells #[.int .i64 v] 3)) fun e w' => ∃ g c, e = .returned (.slice (some ⟨g, 0, none⟩) n c) ∧ Hid (w'.ownsRow W.heap.size 3 1 (.slice (some ⟨g, 0, none⟩) n c) n (nums .i64 (List.replicate n v))) ∧ Hid (Below W.heap.size W w') := by
  refine (repeat_int_calls (W.alloc (.cells #[.int .i64 v] 3)) W.heap.size n v (by simp) hn).mono ?_
  rintro e w' ⟨c, rfl, ho, hb⟩
  exact ⟨_, c, rfl, Lib.hid (own_weaken ho.out (by simp)), Lib.hid (below_then (below_alloc (Below.refl _ _) _) (by simp) hb.out)⟩
theorem build_nat (w : World) (A : Option Addr) (c : Nat) (l : List Nat) (m : Nat) (nn : Bool) (hm : l.length = m) (hr : ReadsInt w .i64 A m (natI l)) (hl : l.length ≤ 1000) (hx : ∀ x ∈ l, x < 16) :
    Calls Tryd.prog 68 #[.slice A m c, .bool nn] w fun ee w' => BuildT w l nn ee w' := by
  subst hm
  exact build_calls w A c l nn hr hl hx
theorem two_tabs {W : World} {g0 g1 : Nat} {o0 o1 : Array Value} {a b : List Nat} {v u : Value} (hg : g0 ≠ g1) (h0 : W.heap[g0]? = some (.cells o0 59 (0, 0))) (h1 : W.heap[g1]? = some (.cells o1 59 (0, 0))) :
    ((W.setRow g0 (tabC a v).toArray).setRow g1 (tabC b u).toArray).heap[g0]? = some (.cells (tabC a v).toArray 59 (0, 0)) ∧ ((W.setRow g0 (tabC a v).toArray).setRow g1 (tabC b u).toArray).heap[g1]? = some (.cells (tabC b u).toArray 59 (0, 0)) := by
  have e1 : (W.setRow g0 (tabC a v).toArray).heap[g1]? = some (.cells o1 59 (0, 0)) := (setRow_other _ _ _ _ (fun e => hg e.symm)).trans h1
  exact ⟨(setRow_other _ _ _ _ hg).trans (setRow_heap _ _ _ _ _ _ h0), setRow_heap _ _ _ _ _ _ e1⟩
theorem results_cells {P : Program} {fn : Func} {p r : Tmp} {ty : TypeId} (h : fn.results = #[.cell p ty, .cell r ty]) (tmps : Array Value) (w : World) (g g2 : Nat) (t t2 : TypeId) (cs cs2 : Array Value) (fr fr2 : Nat × Nat) (d : TypeDesc)
    (hp : tmps.getD p undef = .pointer (some ⟨g, 0, none⟩)) (hq : tmps.getD r undef = .pointer (some ⟨g2, 0, none⟩)) (hg : w.heap[g]? = some (.cells cs t fr)) (hg2 : w.heap[g2]? = some (.cells cs2 t2 fr2))
    (hu : P.underlying ty = some d) (hd : (match d with | .struct _ | .array _ _ => true | _ => false) = true) (hi : (P.info? ty).map (·.size) = some cs.size) (hi2 : (P.info? ty).map (·.size) = some cs2.size) :
    (results fn tmps).run P w = .ok (.tuple #[.agg cs, .agg cs2]) w := by
  have hp' : tmps[p]?.getD undef = .pointer (some ⟨g, 0, none⟩) := by simpa using hp
  have hq' : tmps[r]?.getD undef = .pointer (some ⟨g2, 0, none⟩) := by simpa using hq
  simp [results, h, hp', hq', asAddr, run_loadVar_row w g t ty cs fr d hg hu hd hi, run_loadVar_row w g2 t2 ty cs2 fr2 d hg2 hu hd hi2]
set_option maxRecDepth 8000 in
set_option maxHeartbeats 4000000 in
theorem fixed_calls (w : World) : Calls Tryd.prog 42 #[] w fun ee w' => PairT w fixL fixD ee w' := by
  go_enter Tryd.func42, Tryd.ntmps42
  go_wp2_with fail
  have hz0 : (cntC [] (.slice none 0 0)).toArray = #[.int .i64 0, .int .i64 0, .int .i64 0, .int .i64 0, .int .i64 0, .int .i64 0, .int .i64 0, .int .i64 0, .int .i64 0, .int .i64 0, .int .i64 0, .int .i64 0, .int .i64 0, .int .i64 0, .int .i64 0, .int .i64 0, .slice none 0 0] := rfl
  rw [← hz0]
  obtain ⟨W0, hW0⟩ : ∃ W0, W0 = (w.alloc (.cells (cntC [] (.slice none 0 0)).toArray 59)).alloc (.cells (cntC [] (.slice none 0 0)).toArray 59) := ⟨_, rfl⟩
  have hr0 : W0.heap[w.heap.size]? = some (.cells (cntC [] (.slice none 0 0)).toArray 59 (0, 0)) := by rw [hW0]; exact (Below.heap_alloc _ _ _ (by simp)).trans (heap_alloc_new w _)
  have hr1 : W0.heap[w.heap.size + 1]? = some (.cells (cntC [] (.slice none 0 0)).toArray 59 (0, 0)) := by
    rw [hW0]
    have := heap_alloc_new (w.alloc (.cells (cntC [] (.slice none 0 0)).toArray 59)) (.cells (cntC [] (.slice none 0 0)).toArray 59)
    simpa using this
  have hb0 : Below w.heap.size w W0 := by rw [hW0]; exact below_alloc (below_alloc (Below.refl _ _) _) _
  have hs0 : W0.heap.size = w.heap.size + 1 + 1 := by rw [hW0]; simp
  rw [← hW0, ← hs0]
  have HR0 := Lib.hid hr0
  have HR1 := Lib.hid hr1
  have HB0 := Lib.hid hb0
  have HS0 := Lib.hid hs0
  clear hr0 hr1 hb0 hs0 hW0
  refine (repA_calls W0 144 8 (by omega)).mono ?_
  rintro e w1 ⟨g1, c1, rfl, ho1, hb1⟩
  have HO1 := Lib.hid ho1.out
  have HB1 := Lib.hid hb1.out
  clear ho1 hb1
  go_wp2_with fail
  refine (repA_calls w1 112 9 (by omega)).mono ?_
  rintro e w2 ⟨g2, c2, rfl, ho2, hb2⟩
  have HO2 := Lib.hid ho2.out
  have HB2 := Lib.hid hb2.out
  clear ho2 hb2
  go_wp2_with fail
  refine (repA_calls w2 24 7 (by omega)).mono ?_
  rintro e w3 ⟨g3, c3, rfl, ho3, hb3⟩
  have HO3 := Lib.hid ho3.out
  have HB3 := Lib.hid hb3.out
  clear ho3 hb3
  go_wp2_with fail
  refine (repA_calls w3 8 8 (by omega)).mono ?_
  rintro e w4 ⟨g4, c4, rfl, ho4, hb4⟩
  have HO4 := Lib.hid ho4.out
  have HB4 := Lib.hid hb4.out
  clear ho4 hb4
  go_wp2_with fail
  have HFour : Hid (Four (w4.alloc (.cells #[.slice (some ⟨g1, 0, none⟩) 144 c1, .slice (some ⟨g2, 0, none⟩) 112 c2, .slice (some ⟨g3, 0, none⟩) 24 c3, .slice (some ⟨g4, 0, none⟩) 8 c4] 51)) w4.heap.size
      (fun j => match j with | 0 => some ⟨g1, 0, none⟩ | 1 => some ⟨g2, 0, none⟩ | 2 => some ⟨g3, 0, none⟩ | _ => some ⟨g4, 0, none⟩) (fun j => match j with | 0 => 144 | 1 => 112 | 2 => 24 | _ => 8) (fun j => match j with | 0 => c1 | 1 => c2 | 2 => c3 | _ => c4)
      (fun j => match j with | 0 => List.replicate 144 8 | 1 => List.replicate 112 9 | 2 => List.replicate 24 7 | _ => List.replicate 8 8)) := Lib.hid (by
    have hB : Below w4.heap.size w4 (w4.alloc (.cells #[.slice (some ⟨g1, 0, none⟩) 144 c1, .slice (some ⟨g2, 0, none⟩) 112 c2, .slice (some ⟨g3, 0, none⟩) 24 c3, .slice (some ⟨g4, 0, none⟩) 8 c4] 51)) := below_alloc (Below.refl _ _) _
    have hnew := heap_alloc_new w4 (.cells #[.slice (some ⟨g1, 0, none⟩) 144 c1, .slice (some ⟨g2, 0, none⟩) 112 c2, .slice (some ⟨g3, 0, none⟩) 24 c3, .slice (some ⟨g4, 0, none⟩) 8 c4] 51)
    refine ⟨fun j hj => ?_, fun j hj => ?_, fun j hj => ?_⟩
    · have h4 : j = 0 ∨ j = 1 ∨ j = 2 ∨ j = 3 := by omega
      rcases h4 with rfl | rfl | rfl | rfl <;> exact blk_cell hnew _
    · have h4 : j = 0 ∨ j = 1 ∨ j = 2 ∨ j = 3 := by omega
      rcases h4 with rfl | rfl | rfl | rfl
      · exact own_reads' (pw_own_below (pw_own_below (pw_own_below (pw_own_below HO1.out HB2.out) HB3.out) HB4.out) hB)
      · exact own_reads' (pw_own_below (pw_own_below (pw_own_below HO2.out HB3.out) HB4.out) hB)
      · exact own_reads' (pw_own_below (pw_own_below HO3.out HB4.out) hB)
      · exact own_reads' (pw_own_below HO4.out hB)
    · have h4 : j = 0 ∨ j = 1 ∨ j = 2 ∨ j = 3 := by omega
      rcases h4 with rfl | rfl | rfl | rfl <;> simp)
  have HB04 : Hid (Below w.heap.size w w4) := Lib.hid (by
    have h1 := HB0.out
    have s0 := h1.size
    have h2 := below_then h1 s0 HB1.out
    have h3 := below_then h2 h2.size HB2.out
    have h4 := below_then h3 h3.size HB3.out
    exact below_then h4 h4.size HB4.out)
  have HT0 : Hid (w4.heap[w.heap.size]? = some (.cells (cntC [] (.slice none 0 0)).toArray 59 (0, 0)) ∧ w4.heap[w.heap.size + 1]? = some (.cells (cntC [] (.slice none 0 0)).toArray 59 (0, 0)) ∧ w.heap.size + 2 ≤ w4.heap.size) := Lib.hid (by
    have s0 := HS0.out
    have s1 := HB1.out.size
    have s2 := HB2.out.size
    have s3 := HB3.out.size
    have s4 := HB4.out.size
    have k : ∀ i, i < W0.heap.size → w4.heap[i]? = W0.heap[i]? := fun i hi => (((HB4.out.block i (by omega)).trans (HB3.out.block i (by omega))).trans (HB2.out.block i (by omega))).trans (HB1.out.block i hi)
    exact ⟨(k _ (by omega)).trans HR0.out, (k _ (by omega)).trans HR1.out, by omega⟩)
  clear HO1 HO2 HO3 HO4 HB0 HB1 HB2 HB3 HB4 HR0 HR1 HS0
  refine (concat4_calls _ w4.heap.size _ _ _ _ HFour.out).mono ?_
  rintro e w5 ⟨v5, rfl, ho5, hb5⟩
  have e5 : (List.replicate 144 8 ++ List.replicate 112 9 ++ List.replicate 24 7 ++ List.replicate 8 8 : List Int) = natI fixL := by simp [natI, fixL]
  have HO5 : Hid (w5.ownsRow w4.heap.size 3 1 v5 288 (nums .i64 (natI fixL))) := Lib.hid (by
    have h := own_weaken ho5.out (base' := w4.heap.size) (by simp)
    rw [← e5]
    simpa using h)
  have HB5 : Hid (Below w4.heap.size w4 w5) := Lib.hid (below_then (below_alloc (Below.refl _ _) _) (by simp) hb5.out)
  clear ho5 hb5 HFour e5
  obtain ⟨A5, c5, rfl⟩ := own_slice HO5.out
  go_wp2_with fail
  refine (build_nat w5 A5 c5 fixL 288 false (by decide) (own_reads' HO5.out) (by decide) (by decide)).mono ?_
  rintro e w6 ⟨v6, rfl, ho6, hb6, _⟩
  rw [fixL_ok] at *
  have HO6 := Lib.hid (ho6.out rfl)
  have HB6 := Lib.hid hb6.out
  clear ho6 hb6
  have hz1 : (cntC [] (.slice none 0 0)).toArray.size = 17 := cntC_size _ _
  go_wp2_with (first
    | (refine wpList_store_new rfl 59 (.tmp 3) (.tmp 20) rfl _ (tabC fixL v6).toArray rfl rfl (by rw [tabC_size]; exact infoTab) (by rw [tabC_size]; rfl) (tabC_one' HO6.out) ?_))
  obtain ⟨W7, hW7⟩ : ∃ W7, W7 = w6.alloc (.cells (tabC fixL v6).toArray 59) := ⟨_, rfl⟩
  have s7 : W7.heap.size = w6.heap.size + 1 := by rw [hW7]; exact Array.size_push ..
  rw [← hW7, ← s7]
  have HW7 := Lib.hid hW7
  have HS7 := Lib.hid s7
  clear hW7 s7
  refine (repA_calls W7 32 5 (by omega)).mono ?_
  rintro e w8 ⟨g8, c8, rfl, ho8, hb8⟩
  have HO8 := Lib.hid ho8.out
  have HB8 := Lib.hid hb8.out
  clear ho8 hb8
  have e8 : (List.replicate 32 5 : List Int) = natI fixD := by simp [natI, fixD]
  rw [e8] at HO8
  go_wp2_with fail
  refine (build_nat w8 (some ⟨g8, 0, none⟩) c8 fixD 32 false (by decide) (own_reads' HO8.out) (by decide) (by decide)).mono ?_
  rintro e w9 ⟨v9, rfl, ho9, hb9, _⟩
  rw [fixD_ok] at *
  have HO9 := Lib.hid (ho9.out rfl)
  have HB9 := Lib.hid hb9.out
  clear ho9 hb9
  go_wp2_with (first
    | (refine wpList_store_new rfl 59 (.tmp 5) (.tmp 26) rfl _ (tabC fixD v9).toArray rfl rfl (by rw [tabC_size]; exact infoTab) (by rw [tabC_size]; rfl) (tabC_one' HO9.out) ?_))
  have hW7 := HW7.out
  have s7 := HS7.out
  obtain ⟨W10, hW10⟩ : ∃ W10, W10 = w9.alloc (.cells (tabC fixD v9).toArray 59) := ⟨_, rfl⟩
  rw [← hW10]
  have b67 : Below w6.heap.size w6 W7 := by rw [hW7]; exact below_alloc (Below.refl _ _) _
  have t7 : W7.heap[w6.heap.size]? = some (.cells (tabC fixL v6).toArray 59 (0, 0)) := by rw [hW7]; exact heap_alloc_new _ _
  have b910 : Below w9.heap.size w9 W10 := by rw [hW10]; exact below_alloc (Below.refl _ _) _
  have t10 : W10.heap[w9.heap.size]? = some (.cells (tabC fixD v9).toArray 59 (0, 0)) := by rw [hW10]; exact heap_alloc_new _ _
  have s6 := HB6.out.size
  have s5 := HB5.out.size
  have s8 := HB8.out.size
  have s9 := HB9.out.size
  have s4 := HT0.out.2.2
  have k10 : ∀ i, i < w6.heap.size + 1 → W10.heap[i]? = W7.heap[i]? := fun i hi => ((b910.block i (by omega)).trans (HB9.out.block i (by omega))).trans (HB8.out.block i (by omega))
  have k4 : ∀ i, i < w4.heap.size → W10.heap[i]? = w4.heap[i]? := fun i hi => (k10 i (by omega)).trans (((b67.block i (by omega)).trans (HB6.out.block i (by omega))).trans (HB5.out.block i hi))
  have HK0 : Hid (W10.drew.heap[w.heap.size]? = some (.cells (cntC [] (.slice none 0 0)).toArray 59 (0, 0))) := Lib.hid ((k4 _ (by omega)).trans HT0.out.1)
  have h1 : W10.drew.heap[w.heap.size + 1]? = some (.cells (cntC [] (.slice none 0 0)).toArray 59 (0, 0)) := (k4 _ (by omega)).trans HT0.out.2.1
  have HK1 : Hid ((W10.drew.setRow w.heap.size (tabC fixL v6).toArray).heap[w.heap.size + 1]? = some (.cells (cntC [] (.slice none 0 0)).toArray 59 (0, 0))) := Lib.hid ((setRow_other _ _ _ _ (by omega)).trans h1)
  have HK3 : Hid (W10.drew.heap[w6.heap.size]? = some (.cells (tabC fixL v6).toArray 59 (0, 0))) := Lib.hid ((k10 _ (by omega)).trans t7)
  have HK5 : Hid (W10.drew.heap[w9.heap.size]? = some (.cells (tabC fixD v9).toArray 59 (0, 0))) := Lib.hid t10
  have HK5b : Hid ((W10.drew.setRow w.heap.size (tabC fixL v6).toArray).heap[w9.heap.size]? = some (.cells (tabC fixD v9).toArray 59 (0, 0))) := Lib.hid ((setRow_other _ _ _ _ (by omega)).trans t10)
  have HFIN := Lib.hid (two_tabs (a := fixL) (b := fixD) (v := v6) (u := v9) (show w.heap.size ≠ w.heap.size + 1 by omega) HK0.out h1)
  have HPAIR : Hid (PairT w fixL fixD (.returned (.tuple #[.agg (tabC fixL v6).toArray, .agg (tabC fixD v9).toArray])) ((W10.drew.setRow w.heap.size (tabC fixL v6).toArray).setRow (w.heap.size + 1) (tabC fixD v9).toArray)) := Lib.hid (by
    have hB10 : Below w.heap.size w W10 := by
      have a1 := below_then HB04.out (by omega) HB5.out
      have a2 := below_then a1 (by omega) HB6.out
      have a3 := below_then a2 (by omega) b67
      have a4 := below_then a3 (by omega) HB8.out
      have a5 := below_then a4 (by omega) HB9.out
      exact below_then a5 (by omega) b910
    have mv : ∀ k, w.heap.size + 1 < k → ((W10.drew.setRow w.heap.size (tabC fixL v6).toArray).setRow (w.heap.size + 1) (tabC fixD v9).toArray).heap[k]? = W10.heap[k]? := fun k hk => (setRow_other _ _ _ _ (by omega)).trans (setRow_other _ _ _ _ (by omega))
    refine ⟨v6, v9, rfl, Lib.hid ?_, Lib.hid ?_, Lib.hid (below_setRow (below_setRow (below_drew hB10) (Nat.le_refl _) _) (by omega) _)⟩
    · have o1 := pw_own_below (pw_own_below (pw_own_below (pw_own_below HO6.out b67) HB8.out) HB9.out) b910
      refine own_weaken (own_move o1 fun k hk => mv k ?_) (by omega)
      have := own_base o1 k hk
      omega
    · have o1 := pw_own_below HO9.out b910
      refine own_weaken (own_move o1 fun k hk => mv k ?_) (by omega)
      have := own_base o1 k hk
      omega)
  clear b67 s7 t7 b910 t10 s6 s5 s8 s9 s4 k10 k4 h1 hW7 hW10 e8
  refine wp_region_any (by kernel_rfl) ?_
  refine wpAny_ready (rs := [0, 1]) (by kernel_rfl) (by simp) ?_
  refine AllReady.cons (o := { dst := some 28, op := .load 59 (.tmp 3), type := 59, pos := "inflate.go:162", after := #[], guard := none }) rfl (fun K hK => ?_) (AllReady.cons (o := { dst := some 29, op := .load 59 (.tmp 5), type := 59, pos := "inflate.go:162", after := #[{ on := 2, ground := .gcOnly .lateStores }], guard := none }) rfl (fun K hK => ?_) AllReady.nil)
  · rw [if_pos (by rfl)]
    refine wp_load_row 59 (.tmp 3) rfl w6.heap.size rfl 59 _ (0, 0) _ HK3.out Tryd.underlying59 rfl (by rw [tabC_size]; exact infoTab) (hK _ _ ?_)
    clear hK K
    refine wpAny_ready (rs := [1, 2]) (by kernel_rfl) (by simp) ?_
    refine AllReady.cons (o := { dst := some 29, op := .load 59 (.tmp 5), type := 59, pos := "inflate.go:162", after := #[{ on := 2, ground := .gcOnly .lateStores }], guard := none }) rfl (fun K hK => ?_) (AllReady.cons (o := { dst := none, op := .store 59 (.tmp 0) (.tmp 28), type := 0, pos := "inflate.go:162", after := #[{ on := 0, ground := .data }, { on := 0, ground := .phase }, { on := 1, ground := .textOnly .lateStores }], guard := none }) rfl (fun K hK => ?_) AllReady.nil)
    · rw [if_pos (by rfl)]
      refine wp_load_row 59 (.tmp 5) rfl w9.heap.size rfl 59 _ (0, 0) _ HK5.out Tryd.underlying59 rfl (by rw [tabC_size]; exact infoTab) (hK _ _ ?_)
      clear hK K
      refine wpAny_ready (rs := [2]) (by kernel_rfl) (by simp) ?_
      refine AllReady.cons (o := { dst := none, op := .store 59 (.tmp 0) (.tmp 28), type := 0, pos := "inflate.go:162", after := #[{ on := 0, ground := .data }, { on := 0, ground := .phase }, { on := 1, ground := .textOnly .lateStores }], guard := none }) rfl (fun K hK => ?_) AllReady.nil
      rw [if_pos (by rfl)]
      refine wp_store_row 59 (.tmp 0) (.tmp 28) rfl w.heap.size (tabC fixL v6).toArray rfl (by rfl) 59 _ HK0.out (by rw [tabC_size]; exact infoTab) (by rw [tabC_size, cntC_size]) (tabC_one' HO6.out) (hK _ _ ?_)
      clear hK K
      refine wpAny_ready (rs := [3]) (by kernel_rfl) (by simp) ?_
      refine AllReady.cons (o := { dst := none, op := .store 59 (.tmp 1) (.tmp 29), type := 0, pos := "inflate.go:162", after := #[{ on := 1, ground := .data }, { on := 2, ground := .chain }, { on := 0, ground := .phase }, { on := 1, ground := .phase }, { on := 2, ground := .phase }], guard := none }) rfl (fun K hK => ?_) AllReady.nil
      rw [if_pos (by rfl)]
      refine wp_store_row 59 (.tmp 1) (.tmp 29) rfl (w.heap.size + 1) (tabC fixD v9).toArray rfl (by rfl) 59 _ HK1.out (by rw [tabC_size]; exact infoTab) (by rw [tabC_size, cntC_size]) (tabC_one' HO9.out) (hK _ _ ?_)
      clear hK K
      refine wpAny_done (by kernel_rfl) ?_ _
      go_wp2_with fail
      refine bodyPost_ret (results_cells rfl _ _ w.heap.size (w.heap.size + 1) 59 59 _ _ (0, 0) (0, 0) _ rfl rfl HFIN.out.1 HFIN.out.2 Tryd.underlying59 rfl (by rw [tabC_size]; exact infoTab) (by rw [tabC_size]; exact infoTab)) rfl ?_
      exact HPAIR.out
    · rw [if_pos (by rfl)]
      refine wp_store_row 59 (.tmp 0) (.tmp 28) rfl w.heap.size (tabC fixL v6).toArray rfl (by rfl) 59 _ HK0.out (by rw [tabC_size]; exact infoTab) (by rw [tabC_size, cntC_size]) (tabC_one' HO6.out) (hK _ _ ?_)
      clear hK K
      refine wpAny_ready (rs := [1]) (by kernel_rfl) (by simp) ?_
      refine AllReady.cons (o := { dst := some 29, op := .load 59 (.tmp 5), type := 59, pos := "inflate.go:162", after := #[{ on := 2, ground := .gcOnly .lateStores }], guard := none }) rfl (fun K hK => ?_) AllReady.nil
      rw [if_pos (by rfl)]
      refine wp_load_row 59 (.tmp 5) rfl w9.heap.size rfl 59 _ (0, 0) _ HK5b.out Tryd.underlying59 rfl (by rw [tabC_size]; exact infoTab) (hK _ _ ?_)
      clear hK K
      refine wpAny_ready (rs := [3]) (by kernel_rfl) (by simp) ?_
      refine AllReady.cons (o := { dst := none, op := .store 59 (.tmp 1) (.tmp 29), type := 0, pos := "inflate.go:162", after := #[{ on := 1, ground := .data }, { on := 2, ground := .chain }, { on := 0, ground := .phase }, { on := 1, ground := .phase }, { on := 2, ground := .phase }], guard := none }) rfl (fun K hK => ?_) AllReady.nil
      rw [if_pos (by rfl)]
      refine wp_store_row 59 (.tmp 1) (.tmp 29) rfl (w.heap.size + 1) (tabC fixD v9).toArray rfl (by rfl) 59 _ HK1.out (by rw [tabC_size]; exact infoTab) (by rw [tabC_size, cntC_size]) (tabC_one' HO9.out) (hK _ _ ?_)
      clear hK K
      refine wpAny_done (by kernel_rfl) ?_ _
      go_wp2_with fail
      refine bodyPost_ret (results_cells rfl _ _ w.heap.size (w.heap.size + 1) 59 59 _ _ (0, 0) (0, 0) _ rfl rfl HFIN.out.1 HFIN.out.2 Tryd.underlying59 rfl (by rw [tabC_size]; exact infoTab) (by rw [tabC_size]; exact infoTab)) rfl ?_
      exact HPAIR.out
  · rw [if_pos (by rfl)]
    refine wp_load_row 59 (.tmp 5) rfl w9.heap.size rfl 59 _ (0, 0) _ HK5.out Tryd.underlying59 rfl (by rw [tabC_size]; exact infoTab) (hK _ _ ?_)
    clear hK K
    refine wpAny_ready (rs := [0]) (by kernel_rfl) (by simp) ?_
    refine AllReady.cons (o := { dst := some 28, op := .load 59 (.tmp 3), type := 59, pos := "inflate.go:162", after := #[], guard := none }) rfl (fun K hK => ?_) AllReady.nil
    rw [if_pos (by rfl)]
    refine wp_load_row 59 (.tmp 3) rfl w6.heap.size rfl 59 _ (0, 0) _ HK3.out Tryd.underlying59 rfl (by rw [tabC_size]; exact infoTab) (hK _ _ ?_)
    clear hK K
    refine wpAny_ready (rs := [2]) (by kernel_rfl) (by simp) ?_
    refine AllReady.cons (o := { dst := none, op := .store 59 (.tmp 0) (.tmp 28), type := 0, pos := "inflate.go:162", after := #[{ on := 0, ground := .data }, { on := 0, ground := .phase }, { on := 1, ground := .textOnly .lateStores }], guard := none }) rfl (fun K hK => ?_) AllReady.nil
    rw [if_pos (by rfl)]
    refine wp_store_row 59 (.tmp 0) (.tmp 28) rfl w.heap.size (tabC fixL v6).toArray rfl (by rfl) 59 _ HK0.out (by rw [tabC_size]; exact infoTab) (by rw [tabC_size, cntC_size]) (tabC_one' HO6.out) (hK _ _ ?_)
    clear hK K
    refine wpAny_ready (rs := [3]) (by kernel_rfl) (by simp) ?_
    refine AllReady.cons (o := { dst := none, op := .store 59 (.tmp 1) (.tmp 29), type := 0, pos := "inflate.go:162", after := #[{ on := 1, ground := .data }, { on := 2, ground := .chain }, { on := 0, ground := .phase }, { on := 1, ground := .phase }, { on := 2, ground := .phase }], guard := none }) rfl (fun K hK => ?_) AllReady.nil
    rw [if_pos (by rfl)]
    refine wp_store_row 59 (.tmp 1) (.tmp 29) rfl (w.heap.size + 1) (tabC fixD v9).toArray rfl (by rfl) 59 _ HK1.out (by rw [tabC_size]; exact infoTab) (by rw [tabC_size, cntC_size]) (tabC_one' HO9.out) (hK _ _ ?_)
    clear hK K
    refine wpAny_done (by kernel_rfl) ?_ _
    go_wp2_with fail
    refine bodyPost_ret (results_cells rfl _ _ w.heap.size (w.heap.size + 1) 59 59 _ _ (0, 0) (0, 0) _ rfl rfl HFIN.out.1 HFIN.out.2 Tryd.underlying59 rfl (by rw [tabC_size]; exact infoTab) (by rw [tabC_size]; exact infoTab)) rfl ?_
    exact HPAIR.out
end Go.Proofs.YtkdklcamgcmifaaDoor
