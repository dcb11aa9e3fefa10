/- inflate: dynamic. -/
import Derived.Test.YtkdklcamgcmifaaDoorHIB
/-! HDynP: The tables that a block brings: dynR in stages; what the walk of inflate's dynamic leans on. -/
namespace Go.Proofs.YtkdklcamgcmifaaDoor
set_option linter.unusedVariables false
set_option linter.unusedSimpArgs false
open Go.RowKit Go.Proofs.YtkdklcamgcmifaaDoorW.PrintWords Go.Proofs.YtkdklcamgcmifaaDoorW.PrintMore
def dynC (a : Nat) (ls : List Nat) : Rdr (List Nat × List Nat) := if okT (ls.take (a + 257)) false = true ∧ okT (ls.drop (a + 257)) true = true ∧ ls.getD 256 0 ≠ 0 then retR (ls.take (a + 257), ls.drop (a + 257)) else badR 4
def dynB (a b : Nat) (first : List Nat) : Rdr (List Nat × List Nat) := if okT first false = false then badR 4 else bndR (lnsR first (a + 257 + (b + 1)) (a + 257 + (b + 1)) []) (dynC a)
def dynA (a b c : Nat) : Rdr (List Nat × List Nat) := if 286 < a + 257 ∨ 30 < b + 1 then badR 4 else bndR (fstR (c + 4) (c + 4) (List.replicate 19 0)) (dynB a b)
theorem dynR_eq : dynR = bndR (tk 5) fun a => bndR (tk 5) fun b => bndR (tk 4) fun c => dynA a b c := rfl
theorem three_tk {N T q q1 q2 q3 x1 x2 x3 : Nat} {e1 e2 e3 : Int} (h1 : TkC N T q 0 5 x1 q1 e1) (h2 : TkC N T q1 e1 5 x2 q2 e2) (h3 : TkC N T q2 e2 4 x3 q3 e3) :
    (dynR T N q = dynA x1 x2 x3 T N q3 ∧ e3 = 0) ∨ (dynR T N q = .error 5 ∧ e3 = 5) := by
  rw [dynR_eq]
  rcases h1.ok with ⟨a1, a2⟩ | ⟨a1, a2⟩
  · subst a2
    rcases h2.ok with ⟨b1, b2⟩ | ⟨b1, b2⟩
    · subst b2
      rcases h3.ok with ⟨c1, c2⟩ | ⟨c1, c2⟩
      · left
        simp only [bndR, a1, b1, c1]
        exact ⟨trivial, c2⟩
      · right
        simp only [bndR, a1, b1, c1]
        exact ⟨trivial, c2⟩
    · right
      have hc := h3.err (by rw [b2]; decide)
      simp only [bndR, a1, b1]
      exact ⟨trivial, by rw [hc, b2]⟩
  · right
    have hb := h2.err (by rw [a2]; decide)
    have hc := h3.err (by rw [hb, a2]; decide)
    simp only [bndR, a1]
    exact ⟨trivial, by rw [hc, hb, a2]⟩
/-- What stands to be read: where nothing was wrong, the rest is res; else that is res. -/
def Rest (e : Int) (x : Except Int ((List Nat × List Nat) × Nat)) (res : Except Int ((List Nat × List Nat) × Nat)) : Prop := (e = 0 ∧ x = res) ∨ (e ≠ 0 ∧ res = .error e)
/-- The symbols' lengths stand in a row. -/
def fstC (l : List Nat) : List Value := l.map fun n : Nat => Value.int .i64 (n : Int)
theorem fstC_get {l : List Nat} {n : Nat} (h : n < l.length) : (fstC l)[n]? = some (.int .i64 ((l.getD n 0 : Nat) : Int)) := by
  simp [fstC, List.getElem?_map, List.getElem?_eq_getElem h, List.getD_eq_getElem?_getD]
theorem fstC_set (l : List Nat) (n v : Nat) : (fstC l).set n (.int .i64 (v : Int)) = fstC (l.set n v) := by simp [fstC, List.map_set]
theorem fstR_step {c k T N q x q2 : Nat} {l : List Nat} (h : tk 3 T N q = .ok (x, q2)) (f : List Nat → Rdr (List Nat × List Nat)) :
    bndR (fstR c (k + 1) l) f T N q = bndR (fstR c k (l.set (ordT.getD (c - (k + 1)) 0) x)) f T N q2 := by
  simp only [fstR, bndR, h]
theorem fstR_short {c k T N q : Nat} {l : List Nat} (h : tk 3 T N q = .error 5) (f : List Nat → Rdr (List Nat × List Nat)) : bndR (fstR c (k + 1) l) f T N q = .error 5 := by
  simp only [fstR, bndR, h]
theorem ordT_lt {i : Nat} (h : i < 19) : ordT.getD i 0 < 19 := by
  have : ∀ i, i < 19 → ordT.getD i 0 < 19 := by decide
  exact this i h
theorem set_small {l : List Nat} {n v b : Nat} (h : ∀ x ∈ l, x < b) (hv : v < b) : ∀ x ∈ l.set n v, x < b := by
  intro x hx
  rcases List.mem_or_eq_of_mem_set hx with h1 | h1
  · exact h x h1
  · rw [h1]; exact hv
/-- The zero table's cells. -/
def zT : List Value := cntC [] (.slice none 0 0)
theorem zT_len : zT.length = 17 := by simp [zT, cntC]
theorem zT_one : ∀ v ∈ zT, v.oneCell' = true := by
  intro v hv
  simp only [zT, cntC, List.mem_append, List.mem_map, List.mem_singleton] at hv
  rcases hv with ⟨n, _, rfl⟩ | rfl <;> rfl
theorem all_one {l : List Value} (h : ∀ v ∈ l, v.oneCell' = true) : l.toArray.all (·.oneCell') = true := by
  rw [Array.all_eq_true_iff_forall_mem]
  intro v hv
  exact h v (by simpa using hv)
/-- Three tables of nothing, at N and behind it. -/
structure Z3 (N : Nat) (W : World) : Prop where
  a : W.heap[N]? = some (.cells zT.toArray 59 (0, 0))
  b : W.heap[N + 1]? = some (.cells zT.toArray 59 (0, 0))
  c : W.heap[N + 1 + 1]? = some (.cells zT.toArray 59 (0, 0))
theorem Z3.start (W : World) : Z3 W.heap.size (((W.alloc (.cells zT.toArray 59)).alloc (.cells zT.toArray 59)).alloc (.cells zT.toArray 59)) := by
  refine ⟨?_, ?_, ?_⟩
  · exact (Below.heap_alloc _ _ _ (by simp; omega)).trans ((Below.heap_alloc _ _ _ (by simp)).trans (heap_alloc_new W _))
  · exact (Below.heap_alloc _ _ _ (by simp)).trans (by have := heap_alloc_new (W.alloc (.cells zT.toArray 59)) (.cells zT.toArray 59); simpa using this)
  · have := heap_alloc_new ((W.alloc (.cells zT.toArray 59)).alloc (.cells zT.toArray 59)) (.cells zT.toArray 59)
    simpa using this
theorem Z3.sk {w0 : World} {A : Option Addr} {c most g q m N : Nat} {p out : List Int} {e : Int} {W W' : World} (h : Z3 N W) (hr : Rdm m w0 A c p most g q out e W) (hs : SK 4 g W W') : Z3 N W' :=
  ⟨hs.block hr h.a (by decide) (by decide), hs.block hr h.b (by decide) (by decide), hs.block hr h.c (by decide) (by decide)⟩
theorem Z3.below {N : Nat} {W W' : World} (h : Z3 N W) (hb : Below W.heap.size W W') : Z3 N W' :=
  ⟨(hb.block _ (blk_lt h.a)).trans h.a, (hb.block _ (blk_lt h.b)).trans h.b, (hb.block _ (blk_lt h.c)).trans h.c⟩
/-- A block that is new, and no part of the state, is written. -/
theorem SK.row_ {g : Nat} {W W1 : World} (h : SK 4 g W W1) (hg : g < W.heap.size) {b : Nat} (hb : W.heap.size ≤ b) (cs : Array Value) : SK 4 g W (W1.setRow b cs) := by
  have hrow : rowK 4 (W1.setRow b cs) g = rowK 4 W1 g := by simp only [rowK, setRow_other W1 b g cs (by omega)]
  refine ⟨h.os, h.tape, h.output, by simpa using h.size, fun i hi hg' hr => (setRow_other W1 b i cs (by omega)).trans (h.keep i hi hg' hr), ?_⟩
  rw [hrow]; exact h.row
theorem SK.cell_ {g : Nat} {W W1 : World} (h : SK 4 g W W1) (hg : g < W.heap.size) {b j : Nat} (hb : W.heap.size ≤ b) (u : Value) : SK 4 g W (W1.setCell ⟨b, j, none⟩ u) := by
  have hrow : rowK 4 (W1.setCell ⟨b, j, none⟩ u) g = rowK 4 W1 g := by simp only [rowK, Below.heap_setCell W1 ⟨b, j, none⟩ u g (show g ≠ b by omega)]
  refine ⟨h.os, h.tape, h.output, by simpa [World.setCell] using h.size, fun i hi hg' hr => (Below.heap_setCell W1 ⟨b, j, none⟩ u i (show i ≠ b by omega)).trans (h.keep i hi hg' hr), ?_⟩
  rw [hrow]; exact h.row
theorem Rdm.off {m : Nat} {w0 : World} {A : Option Addr} {c most g q : Nat} {p out : List Int} {e : Int} {W W' : World} {b : Nat} {cs : Array Value} {t : TypeId} {fr : Nat × Nat} (h : Rdm m w0 A c p most g q out e W) (hb : W.heap[b]? = some (.cells cs t fr)) (h1 : t ≠ 44) (h2 : t ≠ 5) (hk : ∀ i, i ≠ b → W'.heap[i]? = W.heap[i]?) : Rdm m w0 A c p most g q out e W' := by
  have hg : g ≠ b := by
    rintro rfl
    obtain ⟨a, n, v, hb', _⟩ := h
    rw [hb'] at hb
    simp only [Option.some.injEq, Obj.cells.injEq] at hb
    exact h1 hb.2.1.symm
  refine h.keep (hk g hg) fun i hi => hk i ?_
  rintro rfl
  obtain ⟨a, n, v, hb', ho, _⟩ := h
  rw [rowK_eq hb' rfl] at hi
  obtain ⟨cur, hc⟩ := own_typed ho i hi
  rw [hb] at hc
  simp only [Option.some.injEq, Obj.cells.injEq] at hc
  exact h2 hc.2.1
theorem Rdm.row_ {m : Nat} {w0 : World} {A : Option Addr} {c most g q : Nat} {p out : List Int} {e : Int} {W : World} {b : Nat} {cs : Array Value} {t : TypeId} {fr : Nat × Nat} (h : Rdm m w0 A c p most g q out e W) (hb : W.heap[b]? = some (.cells cs t fr)) (h1 : t ≠ 44) (h2 : t ≠ 5) (cs' : Array Value) : Rdm m w0 A c p most g q out e (W.setRow b cs') :=
  h.off hb h1 h2 fun i hi => setRow_other W b i cs' hi
theorem Rdm.cell_ {m : Nat} {w0 : World} {A : Option Addr} {c most g q : Nat} {p out : List Int} {e : Int} {W : World} {b j : Nat} {cs : Array Value} {t : TypeId} {fr : Nat × Nat} (h : Rdm m w0 A c p most g q out e W) (hb : W.heap[b]? = some (.cells cs t fr)) (h1 : t ≠ 44) (h2 : t ≠ 5) (u : Value) : Rdm m w0 A c p most g q out e (W.setCell ⟨b, j, none⟩ u) :=
  h.off hb h1 h2 fun i hi => Below.heap_setCell W ⟨b, j, none⟩ u i hi
theorem reads_block {W : World} {F : Nat} {l : List Nat} {t : TypeId} {fr : Nat × Nat} (h : W.heap[F]? = some (.cells (fstC l).toArray t fr)) (hl : l.length ≤ 1000) : ReadsInt W .i64 (some ⟨F, 0, none⟩) l.length (natI l) := by
  refine ⟨natI_length l, by omega, fun _ => ⟨_, rfl, fun i hi => ?_⟩⟩
  rw [add_plain]
  try rw [Nat.zero_add]
  have hx : (fstC l)[i]? = some (.int .i64 ((l.getD i 0 : Nat) : Int)) := fstC_get hi
  have e : (natI l).getD i 0 = ((l.getD i 0 : Nat) : Int) := by
    simp only [natI, List.getD_eq_getElem?_getD, List.getElem?_map]
    cases l[i]? <;> rfl
  rw [e]
  unfold World.cell?
  simp only [h]
  simpa using hx
end Go.Proofs.YtkdklcamgcmifaaDoor

/-! HReg: Two tables stored by two stores, in whatever order: at dynamic's ends. -/
namespace Go.Proofs.YtkdklcamgcmifaaDoor
set_option linter.unusedVariables false
set_option linter.unusedSimpArgs false
open Go.RowKit Go.Proofs.YtkdklcamgcmifaaDoorW.PrintWords Go.Proofs.YtkdklcamgcmifaaDoorW.PrintMore
theorem put_size (a : Act) (d : Option Nat) (v : Value) : (a.put d v).tmps.size = a.tmps.size := by
  cases d <;> simp [Act.put]
theorem put_none (a : Act) (v : Value) : a.put none v = a := rfl
theorem put_defers (a : Act) (d : Option Nat) (v : Value) : (a.put d v).defers = a.defers := by
  cases d <;> rfl
theorem ev_put (a : Act) (d j : Nat) (v : Value) (h : 190 < a.tmps.size) (hd : d ≤ 190) : (a.put (some d) v).eval (.tmp j) = if d = j then v else a.eval (.tmp j) := by
  simp only [Act.eval, Act.put]
  by_cases hd : d = j
  · subst hd
    have : d < a.tmps.size := by omega
    simp [this]
  · simp [hd, Array.getElem?_setIfInBounds]
set_option maxRecDepth 8000 in
set_option maxHeartbeats 2000000 in
theorem reg147 {a : Act} {w : World} {Q : Exit → Act → World → Prop} {g0 g1 g3 : Nat} {c1 oz : Array Value} (hsz : 190 < a.tmps.size) (e0 : a.eval (.tmp 2) = .pointer (some ⟨g0, 0, none⟩)) (e1 : a.eval (.tmp 3) = .pointer (some ⟨g1, 0, none⟩))
    (e3 : a.eval (.tmp 4) = .pointer (some ⟨g3, 0, none⟩)) (hc1 : c1.size = 17) (hoz : oz.size = 17) (one_c1 : c1.all (·.oneCell') = true)
    (k0 : w.drew.heap[g0]? = some (.cells oz 59 (0, 0))) (k1 : (w.drew.setRow g0 c1).heap[g1]? = some (.cells oz 59 (0, 0))) (k3 : w.drew.heap[g3]? = some (.cells c1 59 (0, 0))) (k5b : (w.drew.setRow g0 c1).heap[g3]? = some (.cells c1 59 (0, 0)))
    (hQ : ∀ a' : Act, a'.defers = a.defers → a'.eval (.tmp 2) = .pointer (some ⟨g0, 0, none⟩) → a'.eval (.tmp 3) = .pointer (some ⟨g1, 0, none⟩) → Q .normal a' ((w.drew.setRow g0 c1).setRow g1 c1)) :
    (Code.region 30 #[{ dst := some 159, op := .load 59 (.tmp 4), type := 59, pos := "inflate.go:147", after := #[], guard := none }, { dst := some 160, op := .load 59 (.tmp 4), type := 59, pos := "inflate.go:147", after := #[{ on := 2, ground := .gcOnly .lateStores }], guard := none }, { dst := none, op := .store 59 (.tmp 2) (.tmp 159), type := 0, pos := "inflate.go:147", after := #[{ on := 0, ground := .data }, { on := 0, ground := .phase }, { on := 1, ground := .textOnly .lateStores }], guard := none }, { dst := none, op := .store 59 (.tmp 3) (.tmp 160), type := 0, pos := "inflate.go:147", after := #[{ on := 1, ground := .data }, { on := 2, ground := .chain }, { on := 0, ground := .phase }, { on := 1, ground := .phase }, { on := 2, ground := .phase }], guard := none }] true).wp Tryd.prog Q a w := by
  refine wp_region_any (by kernel_rfl) ?_
  refine wpAny_ready (rs := [0, 1]) (by kernel_rfl) (by simp) ?_
  refine AllReady.cons (o := { dst := some 159, op := .load 59 (.tmp 4), type := 59, pos := "inflate.go:147", after := #[], guard := none }) rfl (fun K hK => ?_) (AllReady.cons (o := { dst := some 160, op := .load 59 (.tmp 4), type := 59, pos := "inflate.go:147", after := #[{ on := 2, ground := .gcOnly .lateStores }], guard := none }) rfl (fun K hK => ?_) (AllReady.nil))
  · rw [if_pos (by simp [Region.wanted])]
    refine wp_load_row 59 (.tmp 4) rfl g3 (by simp [ev_put, put_size, put_none, put_defers, *]) 59 c1 (0, 0) _ k3 Tryd.underlying59 rfl (by rw [hc1]; exact infoTab) (hK _ _ ?_)
    clear hK K
    refine wpAny_ready (rs := [1, 2]) (by kernel_rfl) (by simp) ?_
    refine AllReady.cons (o := { dst := some 160, op := .load 59 (.tmp 4), type := 59, pos := "inflate.go:147", after := #[{ on := 2, ground := .gcOnly .lateStores }], guard := none }) rfl (fun K hK => ?_) (AllReady.cons (o := { dst := none, op := .store 59 (.tmp 2) (.tmp 159), type := 0, pos := "inflate.go:147", after := #[{ on := 0, ground := .data }, { on := 0, ground := .phase }, { on := 1, ground := .textOnly .lateStores }], guard := none }) rfl (fun K hK => ?_) (AllReady.nil))
    · rw [if_pos (by simp [Region.wanted])]
      refine wp_load_row 59 (.tmp 4) rfl g3 (by simp [ev_put, put_size, put_none, put_defers, *]) 59 c1 (0, 0) _ k3 Tryd.underlying59 rfl (by rw [hc1]; exact infoTab) (hK _ _ ?_)
      clear hK K
      refine wpAny_ready (rs := [2]) (by kernel_rfl) (by simp) ?_
      refine AllReady.cons (o := { dst := none, op := .store 59 (.tmp 2) (.tmp 159), type := 0, pos := "inflate.go:147", after := #[{ on := 0, ground := .data }, { on := 0, ground := .phase }, { on := 1, ground := .textOnly .lateStores }], guard := none }) rfl (fun K hK => ?_) (AllReady.nil)
      rw [if_pos (by simp [Region.wanted])]
      refine wp_store_row 59 (.tmp 2) (.tmp 159) rfl g0 c1 (by simp [ev_put, put_size, put_none, put_defers, *]) (by simp [ev_put, put_size, put_none, put_defers, *]) 59 oz k0 (by rw [hc1]; exact infoTab) (by rw [hoz, hc1]) one_c1 (hK _ _ ?_)
      clear hK K
      refine wpAny_ready (rs := [3]) (by kernel_rfl) (by simp) ?_
      refine AllReady.cons (o := { dst := none, op := .store 59 (.tmp 3) (.tmp 160), type := 0, pos := "inflate.go:147", after := #[{ on := 1, ground := .data }, { on := 2, ground := .chain }, { on := 0, ground := .phase }, { on := 1, ground := .phase }, { on := 2, ground := .phase }], guard := none }) rfl (fun K hK => ?_) (AllReady.nil)
      rw [if_pos (by simp [Region.wanted])]
      refine wp_store_row 59 (.tmp 3) (.tmp 160) rfl g1 c1 (by simp [ev_put, put_size, put_none, put_defers, *]) (by simp [ev_put, put_size, put_none, put_defers, *]) 59 oz k1 (by rw [hc1]; exact infoTab) (by rw [hoz, hc1]) one_c1 (hK _ _ ?_)
      clear hK K
      refine wpAny_done (by kernel_rfl) ?_ _
      refine hQ _ ?_ ?_ ?_ <;> simp [ev_put, put_size, put_none, put_defers, *]
    · rw [if_pos (by simp [Region.wanted])]
      refine wp_store_row 59 (.tmp 2) (.tmp 159) rfl g0 c1 (by simp [ev_put, put_size, put_none, put_defers, *]) (by simp [ev_put, put_size, put_none, put_defers, *]) 59 oz k0 (by rw [hc1]; exact infoTab) (by rw [hoz, hc1]) one_c1 (hK _ _ ?_)
      clear hK K
      refine wpAny_ready (rs := [1]) (by kernel_rfl) (by simp) ?_
      refine AllReady.cons (o := { dst := some 160, op := .load 59 (.tmp 4), type := 59, pos := "inflate.go:147", after := #[{ on := 2, ground := .gcOnly .lateStores }], guard := none }) rfl (fun K hK => ?_) (AllReady.nil)
      rw [if_pos (by simp [Region.wanted])]
      refine wp_load_row 59 (.tmp 4) rfl g3 (by simp [ev_put, put_size, put_none, put_defers, *]) 59 c1 (0, 0) _ k5b Tryd.underlying59 rfl (by rw [hc1]; exact infoTab) (hK _ _ ?_)
      clear hK K
      refine wpAny_ready (rs := [3]) (by kernel_rfl) (by simp) ?_
      refine AllReady.cons (o := { dst := none, op := .store 59 (.tmp 3) (.tmp 160), type := 0, pos := "inflate.go:147", after := #[{ on := 1, ground := .data }, { on := 2, ground := .chain }, { on := 0, ground := .phase }, { on := 1, ground := .phase }, { on := 2, ground := .phase }], guard := none }) rfl (fun K hK => ?_) (AllReady.nil)
      rw [if_pos (by simp [Region.wanted])]
      refine wp_store_row 59 (.tmp 3) (.tmp 160) rfl g1 c1 (by simp [ev_put, put_size, put_none, put_defers, *]) (by simp [ev_put, put_size, put_none, put_defers, *]) 59 oz k1 (by rw [hc1]; exact infoTab) (by rw [hoz, hc1]) one_c1 (hK _ _ ?_)
      clear hK K
      refine wpAny_done (by kernel_rfl) ?_ _
      refine hQ _ ?_ ?_ ?_ <;> simp [ev_put, put_size, put_none, put_defers, *]
  · rw [if_pos (by simp [Region.wanted])]
    refine wp_load_row 59 (.tmp 4) rfl g3 (by simp [ev_put, put_size, put_none, put_defers, *]) 59 c1 (0, 0) _ k3 Tryd.underlying59 rfl (by rw [hc1]; exact infoTab) (hK _ _ ?_)
    clear hK K
    refine wpAny_ready (rs := [0]) (by kernel_rfl) (by simp) ?_
    refine AllReady.cons (o := { dst := some 159, op := .load 59 (.tmp 4), type := 59, pos := "inflate.go:147", after := #[], guard := none }) rfl (fun K hK => ?_) (AllReady.nil)
    rw [if_pos (by simp [Region.wanted])]
    refine wp_load_row 59 (.tmp 4) rfl g3 (by simp [ev_put, put_size, put_none, put_defers, *]) 59 c1 (0, 0) _ k3 Tryd.underlying59 rfl (by rw [hc1]; exact infoTab) (hK _ _ ?_)
    clear hK K
    refine wpAny_ready (rs := [2]) (by kernel_rfl) (by simp) ?_
    refine AllReady.cons (o := { dst := none, op := .store 59 (.tmp 2) (.tmp 159), type := 0, pos := "inflate.go:147", after := #[{ on := 0, ground := .data }, { on := 0, ground := .phase }, { on := 1, ground := .textOnly .lateStores }], guard := none }) rfl (fun K hK => ?_) (AllReady.nil)
    rw [if_pos (by simp [Region.wanted])]
    refine wp_store_row 59 (.tmp 2) (.tmp 159) rfl g0 c1 (by simp [ev_put, put_size, put_none, put_defers, *]) (by simp [ev_put, put_size, put_none, put_defers, *]) 59 oz k0 (by rw [hc1]; exact infoTab) (by rw [hoz, hc1]) one_c1 (hK _ _ ?_)
    clear hK K
    refine wpAny_ready (rs := [3]) (by kernel_rfl) (by simp) ?_
    refine AllReady.cons (o := { dst := none, op := .store 59 (.tmp 3) (.tmp 160), type := 0, pos := "inflate.go:147", after := #[{ on := 1, ground := .data }, { on := 2, ground := .chain }, { on := 0, ground := .phase }, { on := 1, ground := .phase }, { on := 2, ground := .phase }], guard := none }) rfl (fun K hK => ?_) (AllReady.nil)
    rw [if_pos (by simp [Region.wanted])]
    refine wp_store_row 59 (.tmp 3) (.tmp 160) rfl g1 c1 (by simp [ev_put, put_size, put_none, put_defers, *]) (by simp [ev_put, put_size, put_none, put_defers, *]) 59 oz k1 (by rw [hc1]; exact infoTab) (by rw [hoz, hc1]) one_c1 (hK _ _ ?_)
    clear hK K
    refine wpAny_done (by kernel_rfl) ?_ _
    refine hQ _ ?_ ?_ ?_ <;> simp [ev_put, put_size, put_none, put_defers, *]
set_option maxRecDepth 8000 in
set_option maxHeartbeats 2000000 in
theorem reg154 {a : Act} {w : World} {Q : Exit → Act → World → Prop} {g0 g1 g3 g5 : Nat} {c1 c2 oz : Array Value} (hsz : 190 < a.tmps.size) (e0 : a.eval (.tmp 2) = .pointer (some ⟨g0, 0, none⟩)) (e1 : a.eval (.tmp 3) = .pointer (some ⟨g1, 0, none⟩))
    (e3 : a.eval (.tmp 16) = .pointer (some ⟨g3, 0, none⟩)) (e5 : a.eval (.tmp 18) = .pointer (some ⟨g5, 0, none⟩)) (hc1 : c1.size = 17) (hc2 : c2.size = 17) (hoz : oz.size = 17) (one_c1 : c1.all (·.oneCell') = true) (one_c2 : c2.all (·.oneCell') = true)
    (k0 : w.drew.heap[g0]? = some (.cells oz 59 (0, 0))) (k1 : (w.drew.setRow g0 c1).heap[g1]? = some (.cells oz 59 (0, 0))) (k3 : w.drew.heap[g3]? = some (.cells c1 59 (0, 0))) (k5 : w.drew.heap[g5]? = some (.cells c2 59 (0, 0))) (k5b : (w.drew.setRow g0 c1).heap[g5]? = some (.cells c2 59 (0, 0)))
    (hQ : ∀ a' : Act, a'.defers = a.defers → a'.eval (.tmp 2) = .pointer (some ⟨g0, 0, none⟩) → a'.eval (.tmp 3) = .pointer (some ⟨g1, 0, none⟩) → Q .normal a' ((w.drew.setRow g0 c1).setRow g1 c2)) :
    (Code.region 35 #[{ dst := some 189, op := .load 59 (.tmp 16), type := 59, pos := "inflate.go:154", after := #[], guard := none }, { dst := some 190, op := .load 59 (.tmp 18), type := 59, pos := "inflate.go:154", after := #[{ on := 2, ground := .gcOnly .lateStores }], guard := none }, { dst := none, op := .store 59 (.tmp 2) (.tmp 189), type := 0, pos := "inflate.go:154", after := #[{ on := 0, ground := .data }, { on := 0, ground := .phase }, { on := 1, ground := .textOnly .lateStores }], guard := none }, { dst := none, op := .store 59 (.tmp 3) (.tmp 190), type := 0, pos := "inflate.go:154", after := #[{ on := 1, ground := .data }, { on := 2, ground := .chain }, { on := 0, ground := .phase }, { on := 1, ground := .phase }, { on := 2, ground := .phase }], guard := none }] true).wp Tryd.prog Q a w := by
  refine wp_region_any (by kernel_rfl) ?_
  refine wpAny_ready (rs := [0, 1]) (by kernel_rfl) (by simp) ?_
  refine AllReady.cons (o := { dst := some 189, op := .load 59 (.tmp 16), type := 59, pos := "inflate.go:154", after := #[], guard := none }) rfl (fun K hK => ?_) (AllReady.cons (o := { dst := some 190, op := .load 59 (.tmp 18), type := 59, pos := "inflate.go:154", after := #[{ on := 2, ground := .gcOnly .lateStores }], guard := none }) rfl (fun K hK => ?_) (AllReady.nil))
  · rw [if_pos (by simp [Region.wanted])]
    refine wp_load_row 59 (.tmp 16) rfl g3 (by simp [ev_put, put_size, put_none, put_defers, *]) 59 c1 (0, 0) _ k3 Tryd.underlying59 rfl (by rw [hc1]; exact infoTab) (hK _ _ ?_)
    clear hK K
    refine wpAny_ready (rs := [1, 2]) (by kernel_rfl) (by simp) ?_
    refine AllReady.cons (o := { dst := some 190, op := .load 59 (.tmp 18), type := 59, pos := "inflate.go:154", after := #[{ on := 2, ground := .gcOnly .lateStores }], guard := none }) rfl (fun K hK => ?_) (AllReady.cons (o := { dst := none, op := .store 59 (.tmp 2) (.tmp 189), type := 0, pos := "inflate.go:154", after := #[{ on := 0, ground := .data }, { on := 0, ground := .phase }, { on := 1, ground := .textOnly .lateStores }], guard := none }) rfl (fun K hK => ?_) (AllReady.nil))
    · rw [if_pos (by simp [Region.wanted])]
      refine wp_load_row 59 (.tmp 18) rfl g5 (by simp [ev_put, put_size, put_none, put_defers, *]) 59 c2 (0, 0) _ k5 Tryd.underlying59 rfl (by rw [hc2]; exact infoTab) (hK _ _ ?_)
      clear hK K
      refine wpAny_ready (rs := [2]) (by kernel_rfl) (by simp) ?_
      refine AllReady.cons (o := { dst := none, op := .store 59 (.tmp 2) (.tmp 189), type := 0, pos := "inflate.go:154", after := #[{ on := 0, ground := .data }, { on := 0, ground := .phase }, { on := 1, ground := .textOnly .lateStores }], guard := none }) rfl (fun K hK => ?_) (AllReady.nil)
      rw [if_pos (by simp [Region.wanted])]
      refine wp_store_row 59 (.tmp 2) (.tmp 189) rfl g0 c1 (by simp [ev_put, put_size, put_none, put_defers, *]) (by simp [ev_put, put_size, put_none, put_defers, *]) 59 oz k0 (by rw [hc1]; exact infoTab) (by rw [hoz, hc1]) one_c1 (hK _ _ ?_)
      clear hK K
      refine wpAny_ready (rs := [3]) (by kernel_rfl) (by simp) ?_
      refine AllReady.cons (o := { dst := none, op := .store 59 (.tmp 3) (.tmp 190), type := 0, pos := "inflate.go:154", after := #[{ on := 1, ground := .data }, { on := 2, ground := .chain }, { on := 0, ground := .phase }, { on := 1, ground := .phase }, { on := 2, ground := .phase }], guard := none }) rfl (fun K hK => ?_) (AllReady.nil)
      rw [if_pos (by simp [Region.wanted])]
      refine wp_store_row 59 (.tmp 3) (.tmp 190) rfl g1 c2 (by simp [ev_put, put_size, put_none, put_defers, *]) (by simp [ev_put, put_size, put_none, put_defers, *]) 59 oz k1 (by rw [hc2]; exact infoTab) (by rw [hoz, hc2]) one_c2 (hK _ _ ?_)
      clear hK K
      refine wpAny_done (by kernel_rfl) ?_ _
      refine hQ _ ?_ ?_ ?_ <;> simp [ev_put, put_size, put_none, put_defers, *]
    · rw [if_pos (by simp [Region.wanted])]
      refine wp_store_row 59 (.tmp 2) (.tmp 189) rfl g0 c1 (by simp [ev_put, put_size, put_none, put_defers, *]) (by simp [ev_put, put_size, put_none, put_defers, *]) 59 oz k0 (by rw [hc1]; exact infoTab) (by rw [hoz, hc1]) one_c1 (hK _ _ ?_)
      clear hK K
      refine wpAny_ready (rs := [1]) (by kernel_rfl) (by simp) ?_
      refine AllReady.cons (o := { dst := some 190, op := .load 59 (.tmp 18), type := 59, pos := "inflate.go:154", after := #[{ on := 2, ground := .gcOnly .lateStores }], guard := none }) rfl (fun K hK => ?_) (AllReady.nil)
      rw [if_pos (by simp [Region.wanted])]
      refine wp_load_row 59 (.tmp 18) rfl g5 (by simp [ev_put, put_size, put_none, put_defers, *]) 59 c2 (0, 0) _ k5b Tryd.underlying59 rfl (by rw [hc2]; exact infoTab) (hK _ _ ?_)
      clear hK K
      refine wpAny_ready (rs := [3]) (by kernel_rfl) (by simp) ?_
      refine AllReady.cons (o := { dst := none, op := .store 59 (.tmp 3) (.tmp 190), type := 0, pos := "inflate.go:154", after := #[{ on := 1, ground := .data }, { on := 2, ground := .chain }, { on := 0, ground := .phase }, { on := 1, ground := .phase }, { on := 2, ground := .phase }], guard := none }) rfl (fun K hK => ?_) (AllReady.nil)
      rw [if_pos (by simp [Region.wanted])]
      refine wp_store_row 59 (.tmp 3) (.tmp 190) rfl g1 c2 (by simp [ev_put, put_size, put_none, put_defers, *]) (by simp [ev_put, put_size, put_none, put_defers, *]) 59 oz k1 (by rw [hc2]; exact infoTab) (by rw [hoz, hc2]) one_c2 (hK _ _ ?_)
      clear hK K
      refine wpAny_done (by kernel_rfl) ?_ _
      refine hQ _ ?_ ?_ ?_ <;> simp [ev_put, put_size, put_none, put_defers, *]
  · rw [if_pos (by simp [Region.wanted])]
    refine wp_load_row 59 (.tmp 18) rfl g5 (by simp [ev_put, put_size, put_none, put_defers, *]) 59 c2 (0, 0) _ k5 Tryd.underlying59 rfl (by rw [hc2]; exact infoTab) (hK _ _ ?_)
    clear hK K
    refine wpAny_ready (rs := [0]) (by kernel_rfl) (by simp) ?_
    refine AllReady.cons (o := { dst := some 189, op := .load 59 (.tmp 16), type := 59, pos := "inflate.go:154", after := #[], guard := none }) rfl (fun K hK => ?_) (AllReady.nil)
    rw [if_pos (by simp [Region.wanted])]
    refine wp_load_row 59 (.tmp 16) rfl g3 (by simp [ev_put, put_size, put_none, put_defers, *]) 59 c1 (0, 0) _ k3 Tryd.underlying59 rfl (by rw [hc1]; exact infoTab) (hK _ _ ?_)
    clear hK K
    refine wpAny_ready (rs := [2]) (by kernel_rfl) (by simp) ?_
    refine AllReady.cons (o := { dst := none, op := .store 59 (.tmp 2) (.tmp 189), type := 0, pos := "inflate.go:154", after := #[{ on := 0, ground := .data }, { on := 0, ground := .phase }, { on := 1, ground := .textOnly .lateStores }], guard := none }) rfl (fun K hK => ?_) (AllReady.nil)
    rw [if_pos (by simp [Region.wanted])]
    refine wp_store_row 59 (.tmp 2) (.tmp 189) rfl g0 c1 (by simp [ev_put, put_size, put_none, put_defers, *]) (by simp [ev_put, put_size, put_none, put_defers, *]) 59 oz k0 (by rw [hc1]; exact infoTab) (by rw [hoz, hc1]) one_c1 (hK _ _ ?_)
    clear hK K
    refine wpAny_ready (rs := [3]) (by kernel_rfl) (by simp) ?_
    refine AllReady.cons (o := { dst := none, op := .store 59 (.tmp 3) (.tmp 190), type := 0, pos := "inflate.go:154", after := #[{ on := 1, ground := .data }, { on := 2, ground := .chain }, { on := 0, ground := .phase }, { on := 1, ground := .phase }, { on := 2, ground := .phase }], guard := none }) rfl (fun K hK => ?_) (AllReady.nil)
    rw [if_pos (by simp [Region.wanted])]
    refine wp_store_row 59 (.tmp 3) (.tmp 190) rfl g1 c2 (by simp [ev_put, put_size, put_none, put_defers, *]) (by simp [ev_put, put_size, put_none, put_defers, *]) 59 oz k1 (by rw [hc2]; exact infoTab) (by rw [hoz, hc2]) one_c2 (hK _ _ ?_)
    clear hK K
    refine wpAny_done (by kernel_rfl) ?_ _
    refine hQ _ ?_ ?_ ?_ <;> simp [ev_put, put_size, put_none, put_defers, *]
end Go.Proofs.YtkdklcamgcmifaaDoor

/-! HDynL: dynamic's lengths: one round more. -/
namespace Go.Proofs.YtkdklcamgcmifaaDoor
set_option linter.unusedVariables false
set_option linter.unusedSimpArgs false
open Go.RowKit Go.Proofs.YtkdklcamgcmifaaDoorW.PrintWords Go.Proofs.YtkdklcamgcmifaaDoorW.PrintMore
theorem own_capI {w : World} {base n c : Nat} {e : TypeId} {size : Nat} {A : Option Addr} {xs : List Value} (h : w.ownsRow base e size (.slice A n c) n xs) : n ≤ c ∧ c ≤ maxLen := by
  rcases h.2 with ⟨he, h0⟩ | ⟨g, cap, cur, he, _, _, h1, h2, _⟩
  · injection he with _ hn hc
    subst hc
    exact ⟨by omega, by simp [maxLen]⟩
  · injection he with _ _ hc
    subst hc
    exact ⟨h1, h2⟩
theorem SK.own {w0 : World} {A : Option Addr} {c most g q m : Nat} {p out : List Int} {e : Int} {W W' : World} (hs : SK 4 g W W') (hr : Rdm m w0 A c p most g q out e W) {base n : Nat} {v : Value} {xs : List Value} (ho : W.ownsRow base 3 1 v n xs) : W'.ownsRow base 3 1 v n xs :=
  own_move ho fun k hk => by
    obtain ⟨cur, hc⟩ := own_typed ho k hk
    rw [hs.block hr hc (by decide) (by decide), hc]
theorem natI_rep (ls : List Nat) (n v : Nat) : natI ls ++ List.replicate n (v : Int) = natI (ls ++ List.replicate n v) := by simp [natI]
/-- What stays where a row of lengths grows. -/
theorem grow_all {w0 W wY w12 w13 : World} {A Av : Option Addr} {c most g q n cv n6 m T11 : Nat} {p out : List Int} {e : Int} {xs x6 : List Value} {v6 : Value} {ct : Array Value} (hR : Rd w0 A c p most g q out e wY) (hS : SK 4 g W wY) (hg : g < W.heap.size) (hZ : Z3 W.heap.size wY)
    (hT : wY.heap[T11]? = some (.cells ct 59 (0, 0))) (hO : wY.ownsRow w0.heap.size 3 1 v6 n6 x6) (hv6 : ∀ k, v6.ownBlock = some k → k < T11) (hL : wY.ownsRow (T11 + 1) 3 1 (.slice Av n cv) m xs) (hWT : W.heap.size ≤ T11)
    (hb : Below wY.heap.size wY w12) (hgr : w12.grownBy w13 (Value.ownBlock (.slice Av n cv))) :
    Rd w0 A c p most g q out e w13 ∧ SK 4 g W w13 ∧ Z3 W.heap.size w13 ∧ w13.heap[T11]? = some (.cells ct 59 (0, 0)) ∧ w13.ownsRow w0.heap.size 3 1 v6 n6 x6 := by
  have hR12 := hR.below hb
  have hS12 := hS.trans (SK.ofBelow hb hR.lt)
  have hZ12 := hZ.below hb
  have hT12 := (hb.block _ (blk_lt hT)).trans hT
  have hO12 := pw_own_below hO hb
  have hL12 := pw_own_below hL hb
  generalize hob : Value.ownBlock (.slice Av n cv) = ob at hgr
  have hne : ∀ i cs t fr, w12.heap[i]? = some (.cells cs t fr) → t ≠ 3 → some i ≠ ob := by
    intro i cs t fr hi ht e
    rw [← e] at hob
    obtain ⟨cur, hc⟩ := own_typed hL12 i hob
    rw [hi] at hc
    simp only [Option.some.injEq, Obj.cells.injEq] at hc
    exact ht hc.2.1
  have hlo : ∀ i, i ≤ T11 → some i ≠ ob := by
    intro i hi e
    rw [← e] at hob
    have := own_base hL12 i hob
    omega
  have hk : ∀ i, i < w12.heap.size → some i ≠ ob → w13.heap[i]? = w12.heap[i]? := fun i h1 h2 => hgr.block i h1 (fun e => h2 e)
  have hgb : some g ≠ ob := by
    obtain ⟨a, nn, v', hb', _⟩ := hR12
    exact hne g _ _ _ hb' (by decide)
  refine ⟨hR12.keep (hk g hR12.lt hgb) fun i hi => hk i (hR12.row_ge i hi).2 ?_, ?_, ⟨(hk _ (blk_lt hZ12.a) (hne _ _ _ _ hZ12.a (by decide))).trans hZ12.a, (hk _ (blk_lt hZ12.b) (hne _ _ _ _ hZ12.b (by decide))).trans hZ12.b, (hk _ (blk_lt hZ12.c) (hne _ _ _ _ hZ12.c (by decide))).trans hZ12.c⟩, (hk _ (blk_lt hT12) (hlo _ (Nat.le_refl _))).trans hT12, own_move hO12 fun k hk' => hk k (own_lt hO12 k hk') (hlo k (Nat.le_of_lt (hv6 k hk')))⟩
  · obtain ⟨a, nn, v', hb', ho', _⟩ := hR12
    rw [rowK_eq hb' rfl] at hi
    obtain ⟨cur, hc⟩ := own_typed ho' i hi
    exact hne i _ _ _ hc (by decide)
  · have hrow : rowK 4 w13 g = rowK 4 w12 g := by simp only [rowK, hk g hR12.lt hgb]
    refine ⟨hgr.os.trans hS12.os, hgr.tape.trans hS12.tape, hgr.output.trans hS12.output, Nat.le_trans hS12.size hgr.size, fun i hi h1 h2 => (hk i (Nat.lt_of_lt_of_le hi hS12.size) (hlo i (by omega))).trans (hS12.keep i hi h1 h2), ?_⟩
    rw [hrow]; exact hS12.row
def lenV : Value → Nat
  | .slice _ n _ => n
  | _ => 0
theorem lns_sym {fl ls : List Nat} {want k T N q x q' : Nat} (hl : ls.length < want) (h : symL fl T N q = .ok (x, q')) (f : List Nat → Rdr (List Nat × List Nat)) :
    bndR (lnsR fl want (k + 1) ls) f T N q = bndR (nxtR ls x) (fun vt => if want < ls.length + vt.2 then badR 4 else bndR (lnsR fl want k (ls ++ List.replicate vt.2 vt.1)) f) T N q' := by
  simp only [lnsR]
  rw [if_neg (by omega)]
  simp only [bndR, h]
  cases nxtR ls x T N q' with
  | error e => rfl
  | ok a =>
    obtain ⟨⟨v, t⟩, q2⟩ := a
    simp only []
    by_cases hw : want < ls.length + t
    · rw [if_pos hw, if_pos hw]; rfl
    · rw [if_neg hw, if_neg hw]; rfl
theorem lns_err {fl ls : List Nat} {want k T N q : Nat} {e : Int} (hl : ls.length < want) (h : symL fl T N q = .error e) (f : List Nat → Rdr (List Nat × List Nat)) : bndR (lnsR fl want (k + 1) ls) f T N q = .error e := by
  simp only [lnsR]
  rw [if_neg (by omega)]
  simp only [bndR, h]
theorem nxt_ok {α : Type} {ls : List Nat} {x T N q v t q2 : Nat} (h : nxtR ls x T N q = .ok ((v, t), q2)) (f : Nat × Nat → Rdr α) : bndR (nxtR ls x) f T N q = f (v, t) T N q2 := by
  simp only [bndR, h]
theorem nxt_err {α : Type} {ls : List Nat} {x T N q : Nat} {e : Int} (h : nxtR ls x T N q = .error e) (f : Nat × Nat → Rdr α) : bndR (nxtR ls x) f T N q = .error e := by
  simp only [bndR, h]
theorem symR_val {c : Nat → Nat} {ss : List Nat} {T N : Nat} : ∀ k n code first index q x q', symR c ss k n code first index T N q = .ok (x, q') → x ∈ ss ∨ x = 0 := by
  intro k
  induction k with
  | zero => intro n code first index q x q' h; cases h
  | succ k ih =>
    intro n code first index q x q' h
    unfold symR at h
    split at h
    · cases h
    · unfold bndR at h
      split at h
      · rename_i b r hb
        simp only [] at h
        split at h
        · simp only [retR, Except.ok.injEq, Prod.mk.injEq] at h
          obtain ⟨rfl, rfl⟩ := h
          rw [List.getD_eq_getElem?_getD]
          cases hg : ss[index + (code + b - first)]? with
          | none => right; rfl
          | some y =>
            left
            exact List.mem_of_getElem? hg
        · exact ih _ _ _ _ _ _ _ h
      · cases h
theorem symT_lt (l : List Nat) : ∀ x ∈ symT l, x < l.length := by
  intro x hx
  simp only [symT, List.mem_flatMap, idxs, List.mem_filter, List.mem_range] at hx
  obtain ⟨n, _, h, _⟩ := hx
  exact h
theorem symL_lt {l : List Nat} {T N q x q' : Nat} (h : symL l T N q = .ok (x, q')) (hl : 0 < l.length) : x < l.length := by
  rcases symR_val _ _ _ _ _ _ _ _ h with h1 | h1
  · exact symT_lt l x h1
  · omega
end Go.Proofs.YtkdklcamgcmifaaDoor

/-! HDyn: inflate's reader: dynamic. -/
namespace Go.Proofs.YtkdklcamgcmifaaDoor
set_option linter.unusedVariables false
set_option linter.unusedSimpArgs false
open Go.RowKit Go.Proofs.YtkdklcamgcmifaaDoorW.PrintWords Go.Proofs.YtkdklcamgcmifaaDoorW.PrintMore
/-- What dynamic tells. -/
def DynT (w0 : World) (A : Option Addr) (c : Nat) (p : List Int) (most g : Nat) (out : List Int) (W : World) (r : Except Int ((List Nat × List Nat) × Nat)) (ee : Ending) (w' : World) : Prop :=
  ∃ (c1 c2 : List Value) (q' : Nat) (e' : Int), ee = .returned (.tuple #[.agg c1.toArray, .agg c2.toArray]) ∧ Hid (SK 4 g W w') ∧ Hid (Rd w0 A c p most g q' out e' w') ∧ Hid (c1.length = 17 ∧ c2.length = 17 ∧ (∀ v ∈ c1, v.oneCell' = true) ∧ (∀ v ∈ c2, v.oneCell' = true)) ∧
    ((e' = 0 ∧ ∃ l d v u, r = .ok ((l, d), q') ∧ c1 = tabC l v ∧ c2 = tabC d u ∧ l.length ≤ 1000 ∧ d.length ≤ 1000 ∧ Hid (w'.ownsRow w0.heap.size 3 1 v (symT l).length (nums .i64 (natI (symT l)))) ∧ Hid (w'.ownsRow w0.heap.size 3 1 u (symT d).length (nums .i64 (natI (symT d))))) ∨ (e' ≠ 0 ∧ r = .error e'))
theorem zT_size : zT.toArray.size = 17 := by simp [zT, cntC]
/-- The end where something was wrong. -/
theorem dyn_zero {w0 W W8 : World} {A : Option Addr} {c most g q : Nat} {p out : List Int} {e : Int} {res : Except Int ((List Nat × List Nat) × Nat)} (hS : SK 4 g W W8) (hg : g < W.heap.size) (hR : Rd w0 A c p most g q out e W8) (hZ : Z3 W.heap.size W8) (he : e ≠ 0) (hr : res = .error e) :
    Hid (W8.drew.heap[W.heap.size]? = some (.cells zT.toArray 59 (0, 0))) ∧ Hid ((W8.drew.setRow W.heap.size zT.toArray).heap[W.heap.size + 1]? = some (.cells zT.toArray 59 (0, 0))) ∧ Hid (W8.drew.heap[W.heap.size + 1 + 1]? = some (.cells zT.toArray 59 (0, 0))) ∧
    Hid ((W8.drew.setRow W.heap.size zT.toArray).heap[W.heap.size + 1 + 1]? = some (.cells zT.toArray 59 (0, 0))) ∧
    Hid (((W8.drew.setRow W.heap.size zT.toArray).setRow (W.heap.size + 1) zT.toArray).heap[W.heap.size]? = some (.cells zT.toArray 59 (0, 0)) ∧ ((W8.drew.setRow W.heap.size zT.toArray).setRow (W.heap.size + 1) zT.toArray).heap[W.heap.size + 1]? = some (.cells zT.toArray 59 (0, 0)) ∧
      DynT w0 A c p most g out W res (.returned (.tuple #[.agg zT.toArray, .agg zT.toArray])) ((W8.drew.setRow W.heap.size zT.toArray).setRow (W.heap.size + 1) zT.toArray)) := by
  have a1 : W8.drew.heap[W.heap.size]? = some (.cells zT.toArray 59 (0, 0)) := hZ.a
  have b1 : W8.drew.heap[W.heap.size + 1]? = some (.cells zT.toArray 59 (0, 0)) := hZ.b
  have c1 : W8.drew.heap[W.heap.size + 1 + 1]? = some (.cells zT.toArray 59 (0, 0)) := hZ.c
  have b2 := (setRow_other W8.drew W.heap.size (W.heap.size + 1) zT.toArray (by omega)).trans b1
  have a3 := setRow_heap W8.drew W.heap.size _ zT.toArray _ _ a1
  have hR1 : Rd w0 A c p most g q out e W8.drew := hR.keep rfl fun _ _ => rfl
  have hR2 := hR1.row_ a1 (by decide) (by decide) zT.toArray
  have hR3 := hR2.row_ b2 (by decide) (by decide) zT.toArray
  refine ⟨Lib.hid a1, Lib.hid b2, Lib.hid c1, Lib.hid ((setRow_other _ _ _ _ (by omega)).trans c1), Lib.hid ⟨(setRow_other _ _ _ _ (by omega)).trans a3, setRow_heap _ _ _ _ _ _ b2, zT, zT, q, e, rfl, Lib.hid ?_, Lib.hid hR3, Lib.hid ⟨zT_len, zT_len, zT_one, zT_one⟩, .inr ⟨he, hr⟩⟩⟩
  exact (hS.drew.row_ hg (Nat.le_refl _) _).row_ hg (by omega) _
theorem natI_take (l : List Nat) (n : Nat) : (natI l).take n = natI (l.take n) := by simp [natI, List.map_take]
theorem natI_drop (l : List Nat) (n : Nat) : (natI l).drop n = natI (l.drop n) := by simp [natI, List.map_drop]
/-- The end where the tables are read. -/
theorem dyn_fin {w0 W W8 : World} {A : Option Addr} {c most g q T16 T18 : Nat} {p out : List Int} {e : Int} {res : Except Int ((List Nat × List Nat) × Nat)} {a b : List Nat} {v u : Value} {ca cb : Array Value} (hS : SK 4 g W W8) (hg : g < W.heap.size) (hR : Rd w0 A c p most g q out e W8) (hZ : Z3 W.heap.size W8)
    (h16 : W8.heap[T16]? = some (.cells ca 59 (0, 0))) (h18 : W8.heap[T18]? = some (.cells cb 59 (0, 0))) (hn : W.heap.size < T16 ∧ W.heap.size < T18) (hca : (tabC a v).toArray = ca) (hcb : (tabC b u).toArray = cb) (h1 : ca.all (·.oneCell') = true) (h2 : cb.all (·.oneCell') = true)
    (hcase : (e = 0 ∧ res = .ok ((a, b), q) ∧ a.length ≤ 1000 ∧ b.length ≤ 1000 ∧ W8.ownsRow w0.heap.size 3 1 v (symT a).length (nums .i64 (natI (symT a))) ∧ W8.ownsRow w0.heap.size 3 1 u (symT b).length (nums .i64 (natI (symT b)))) ∨ (e ≠ 0 ∧ res = .error e)) :
    Hid (W8.drew.heap[W.heap.size]? = some (.cells zT.toArray 59 (0, 0))) ∧ Hid ((W8.drew.setRow W.heap.size ca).heap[W.heap.size + 1]? = some (.cells zT.toArray 59 (0, 0))) ∧ Hid (W8.drew.heap[T16]? = some (.cells ca 59 (0, 0))) ∧ Hid (W8.drew.heap[T18]? = some (.cells cb 59 (0, 0))) ∧
    Hid ((W8.drew.setRow W.heap.size ca).heap[T18]? = some (.cells cb 59 (0, 0))) ∧
    Hid (((W8.drew.setRow W.heap.size ca).setRow (W.heap.size + 1) cb).heap[W.heap.size]? = some (.cells ca 59 (0, 0)) ∧ ((W8.drew.setRow W.heap.size ca).setRow (W.heap.size + 1) cb).heap[W.heap.size + 1]? = some (.cells cb 59 (0, 0)) ∧
      DynT w0 A c p most g out W res (.returned (.tuple #[.agg ca, .agg cb])) ((W8.drew.setRow W.heap.size ca).setRow (W.heap.size + 1) cb)) := by
  subst hca hcb
  have a1 : W8.drew.heap[W.heap.size]? = some (.cells zT.toArray 59 (0, 0)) := hZ.a
  have b1 : W8.drew.heap[W.heap.size + 1]? = some (.cells zT.toArray 59 (0, 0)) := hZ.b
  have b2 := (setRow_other W8.drew W.heap.size (W.heap.size + 1) (tabC a v).toArray (by omega)).trans b1
  have a3 := setRow_heap W8.drew W.heap.size _ (tabC a v).toArray _ _ a1
  have hR1 : Rd w0 A c p most g q out e W8.drew := hR.keep rfl fun _ _ => rfl
  have hR2 := hR1.row_ a1 (by decide) (by decide) (tabC a v).toArray
  have hR3 := hR2.row_ b2 (by decide) (by decide) (tabC b u).toArray
  have one : ∀ {l : List Value}, l.toArray.all (·.oneCell') = true → ∀ x ∈ l, x.oneCell' = true := fun {l} h x hx => (Array.all_eq_true_iff_forall_mem.1 h) x (by simpa using hx)
  have keepI : ∀ k cur, W8.heap[k]? = some (Obj.cells cur 3 (0, 0)) → ((W8.drew.setRow W.heap.size (tabC a v).toArray).setRow (W.heap.size + 1) (tabC b u).toArray).heap[k]? = W8.heap[k]? := fun k cur hk => by
    have n1 : k ≠ W.heap.size := blk_ne hk hZ.a (by decide)
    have n2 : k ≠ W.heap.size + 1 := blk_ne hk hZ.b (by decide)
    exact (setRow_other _ _ _ _ n2).trans (setRow_other _ _ _ _ n1)
  have ownI : ∀ {x : Value} {n : Nat} {xs : List Value}, W8.ownsRow w0.heap.size 3 1 x n xs → ((W8.drew.setRow W.heap.size (tabC a v).toArray).setRow (W.heap.size + 1) (tabC b u).toArray).ownsRow w0.heap.size 3 1 x n xs := fun {x n xs} h => own_move h fun k hk => by
    obtain ⟨cur, hc⟩ := own_typed h k hk
    exact keepI k cur hc
  refine ⟨Lib.hid a1, Lib.hid b2, Lib.hid h16, Lib.hid h18, Lib.hid ((setRow_other _ _ _ _ (by omega)).trans h18), Lib.hid ⟨(setRow_other _ _ _ _ (by omega)).trans a3, setRow_heap _ _ _ _ _ _ b2, tabC a v, tabC b u, q, e, rfl, Lib.hid ((hS.drew.row_ hg (Nat.le_refl _) _).row_ hg (by omega) _), Lib.hid hR3, Lib.hid ⟨by simp [tabC], by simp [tabC], one h1, one h2⟩, ?_⟩⟩
  rcases hcase with ⟨h, hr, l1, l2, o1, o2⟩ | ⟨h, hr⟩
  · exact .inl ⟨h, a, b, v, u, hr, rfl, rfl, l1, l2, Lib.hid (ownI o1), Lib.hid (ownI o2)⟩
  · exact .inr ⟨h, hr⟩
set_option maxRecDepth 8000 in
set_option maxHeartbeats 40000000 in
theorem dynamic_calls (w0 : World) (A : Option Addr) (c : Nat) (p : List Int) (most g q : Nat) (out : List Int) (W : World) (hr : Rd w0 A c p most g q out 0 W) (hw : Rw w0 A c p g W) :
    Calls Tryd.prog 43 #[.pointer (some ⟨g, 0, none⟩)] W fun ee w' => DynT w0 A c p most g out W (dynR (numB p) (8 * p.length) q) ee w' := by
  have HR := Lib.hid hr
  have HW := Lib.hid hw
  obtain ⟨res, hres⟩ : ∃ res, res = dynR (numB p) (8 * p.length) q := ⟨_, rfl⟩
  rw [← hres]
  have HRES := Lib.hid hres
  have hgW := hr.lt
  clear hres hr hw
  go_enter Tryd.func43, Tryd.ntmps43
  go_wp2_with fail
  have hz : zT.toArray = #[.int .i64 0, .int .i64 0, .int .i64 0, .int .i64 0, .int .i64 0, .int .i64 0, .int .i64 0, .int .i64 0, .int .i64 0, .int .i64 0, .int .i64 0, .int .i64 0, .int .i64 0, .int .i64 0, .int .i64 0, .int .i64 0, .slice none 0 0] := rfl
  rw [← hz]
  clear hz
  obtain ⟨W0, hW0⟩ : ∃ W0, W0 = ((W.alloc (.cells zT.toArray 59)).alloc (.cells zT.toArray 59)).alloc (.cells zT.toArray 59) := ⟨_, rfl⟩
  have hZ := Z3.start W
  have hb0 : Below W.heap.size W (((W.alloc (.cells zT.toArray 59)).alloc (.cells zT.toArray 59)).alloc (.cells zT.toArray 59)) := below_alloc (below_alloc (below_alloc (Below.refl _ _) _) _) _
  rw [← hW0] at hZ hb0 ⊢
  have HZ0 := Lib.hid hZ
  have HR0 : Hid (Rd w0 A c p most g q out 0 W0) := Lib.hid (HR.out.below hb0)
  have HS0 : Hid (SK 4 g W W0) := Lib.hid (SK.ofBelow hb0 hgW)
  have HGW := Lib.hid hgW
  clear hZ hb0 hW0 hgW
  refine (take_calls w0 A c p most g q out 0 W0 5 HR0.out (HW.out.sk HR.out HS0.out) (by omega)).mono ?_
  rintro ee w1 ⟨x1, q1, e1, rfl, hs1, hr1, hc1⟩
  have HS1 : Hid (SK 4 g W w1) := Lib.hid (HS0.out.trans hs1.out)
  have HZ1 : Hid (Z3 W.heap.size w1) := Lib.hid (HZ0.out.sk HR0.out hs1.out)
  have HR1 := Lib.hid hr1.out
  have HC1 : Hid (TkC (8 * p.length) (numB p) q 0 5 x1 q1 e1) := Lib.hid hc1
  have hx1 : x1 < 32 := HC1.out.lt
  clear hs1 hr1 hc1
  go_wp2_with fail
  refine (take_calls w0 A c p most g q1 out e1 w1 5 HR1.out (HW.out.sk HR.out HS1.out) (by omega)).mono ?_
  rintro ee w2 ⟨x2, q2, e2, rfl, hs2, hr2, hc2⟩
  have HS2 : Hid (SK 4 g W w2) := Lib.hid (HS1.out.trans hs2.out)
  have HZ2 : Hid (Z3 W.heap.size w2) := Lib.hid (HZ1.out.sk HR1.out hs2.out)
  have HR2 := Lib.hid hr2.out
  have HC2 : Hid (TkC (8 * p.length) (numB p) q1 e1 5 x2 q2 e2) := Lib.hid hc2
  have hx2 : x2 < 32 := HC2.out.lt
  clear hs2 hr2 hc2
  go_wp2_with fail
  refine (take_calls w0 A c p most g q2 out e2 w2 4 HR2.out (HW.out.sk HR.out HS2.out) (by omega)).mono ?_
  rintro ee w3 ⟨x3, q3, e3, rfl, hs3, hr3, hc3⟩
  have HS3 : Hid (SK 4 g W w3) := Lib.hid (HS2.out.trans hs3.out)
  have HZ3 : Hid (Z3 W.heap.size w3) := Lib.hid (HZ2.out.sk HR2.out hs3.out)
  have HR3 := Lib.hid hr3.out
  have HC3 : Hid (TkC (8 * p.length) (numB p) q2 e2 4 x3 q3 e3) := Lib.hid hc3
  have hx3 : x3 < 16 := HC3.out.lt
  clear hs3 hr3 hc3
  have HT : Hid ((res = dynA x1 x2 x3 (numB p) (8 * p.length) q3 ∧ e3 = 0) ∨ (res = .error 5 ∧ e3 = 5)) := Lib.hid (by rw [HRES.out]; exact three_tk HC1.out HC2.out HC3.out)
  have hal : Tryd.prog.arrayLen 91 = 19 := by kernel_rfl
  have hA0 : (0 : Int) ≤ (x3 : Int) + 4 := by omega
  have hA1 : (x3 : Int) + 4 ≤ 19 := by omega
  have hA2 : (x3 : Int) + 4 ≤ (Tryd.prog.arrayLen 91 : Int) := by rw [hal]; exact hA1
  have k6 := rd_e HR3.out
  clear HC1 HC2 HC3 HS0 HS1 HS2 HZ0 HZ1 HZ2 HR0 HR1 HR2 HRES
  rcases HT.out with ⟨h1, h2⟩ | ⟨h1, h2⟩
  · subst h2
    have HX : Hid (res = dynA x1 x2 x3 (numB p) (8 * p.length) q3) := Lib.hid h1
    clear h1 HT
    by_cases hab : 286 < x1 + 257 ∨ 30 < x2 + 1
    · have HE : Hid (res = .error 4) := Lib.hid (by rw [HX.out]; unfold dynA; rw [if_pos hab]; rfl)
      by_cases ha : 286 < x1 + 257
      · have ia : (x1 : Int) + 257 > 286 := by omega
        clear hab
        go_wp2_with fail
        refine (wrong_calls w0 A c p most g q3 out 0 4 w3 HR3.out (by omega)).mono ?_
        rintro ee w7 ⟨rfl, hs7, hr7⟩
        have HS7 : Hid (SK 4 g W w7) := Lib.hid (HS3.out.trans hs7)
        have HZ7 : Hid (Z3 W.heap.size w7) := Lib.hid (HZ3.out.sk HR3.out hs7)
        have hr7' : Rd w0 A c p most g q3 out 4 w7 := hr7
        have HR7 := Lib.hid hr7'
        clear hs7 hr7 hr7' k6
        have k6 := rd_e HR7.out
        go_wp2_with fail
        rw [show (#[.int .i64 0, .int .i64 0, .int .i64 0, .int .i64 0, .int .i64 0, .int .i64 0, .int .i64 0, .int .i64 0, .int .i64 0, .int .i64 0, .int .i64 0, .int .i64 0, .int .i64 0, .int .i64 0, .int .i64 0, .int .i64 0, .int .i64 0, .int .i64 0, .int .i64 0] : Array Value) = (fstC (List.replicate 19 0)).toArray from rfl]
        obtain ⟨F, hF⟩ : ∃ F, F = w7.heap.size := ⟨_, rfl⟩
        obtain ⟨W4, hW4⟩ : ∃ W4, W4 = w7.alloc (.cells (fstC (List.replicate 19 0)).toArray 91) := ⟨_, rfl⟩
        have hb4 : Below w7.heap.size w7 (w7.alloc (.cells (fstC (List.replicate 19 0)).toArray 91)) := below_alloc (Below.refl _ _) _
        have hf4 := heap_alloc_new w7 (.cells (fstC (List.replicate 19 0)).toArray 91)
        rw [← hF, ← hW4]
        rw [← hW4] at hb4 hf4
        rw [← hF] at hf4
        have HF4 := Lib.hid hf4
        have HR4 : Hid (Rd w0 A c p most g q3 out 4 W4) := Lib.hid (HR7.out.below hb4)
        have HS4 : Hid (SK 4 g W W4) := Lib.hid (HS7.out.trans (SK.ofBelow hb4 HR7.out.lt))
        have HZ4 : Hid (Z3 W.heap.size W4) := Lib.hid (HZ7.out.below hb4)
        have HFG : Hid (W.heap.size ≤ F) := Lib.hid (by rw [hF]; exact HS7.out.size)
        clear hb4 hf4 hF hW4 k6
        have HE0 := HE
        clear HE
        go_loopw [47] (fun vi wr => ∃ (i qq : Nat) (fl : List Nat) (e : Int), vi = .int .i64 i ∧ i ≤ x3 + 4 ∧ Hid (fl.length = 19 ∧ ∀ x ∈ fl, x < 16) ∧ Hid (wr.heap[F]? = some (.cells (fstC fl).toArray 91 (0, 0))) ∧ Hid (SK 4 g W wr) ∧ Hid (Rd w0 A c p most g qq out e wr) ∧ Hid (Z3 W.heap.size wr) ∧ Hid (e ≠ 0 ∧ res = .error e)) (fun vi _ => 20 - (intOf vi).toNat)
        case atStart => exact ⟨0, q3, List.replicate 19 0, 4, rfl, by omega, Lib.hid ⟨by simp, fun x hx => by rw [List.eq_of_mem_replicate hx]; omega⟩, HF4, HS4, HR4, HZ4, Lib.hid (⟨by decide, HE0.out⟩)⟩
        case round =>
          clear HF4 HS4 HR4 HZ4
          obtain ⟨i, qq, fl, e, rfl, hi, HFL, HF, HS, HRR, HZ, HE⟩ := hrel
          by_cases hlt : i < x3 + 4
          · have ilt : (i : Int) < (x3 : Int) + 4 := by omega
            have i0 : (0 : Int) ≤ (i : Int) := by omega
            have HRWr := Lib.hid (HW.out.sk HR.out HS.out)
            have hco : wr.cell? ⟨0, i, none⟩ = some (.int .i64 ((ordT.getD i 0 : Nat) : Int)) := pw_cell_below HRWr.out.below (HW.out.ord i (by omega))
            have ho19 := ordT_lt (show i < 19 by omega)
            generalize hgo : ordT.getD i 0 = o at hco ho19
            have HGO := Lib.hid hgo
            clear hgo
            go_wp2_with fail
            refine (take_calls w0 A c p most g qq out e wr 3 HRR.out HRWr.out (by omega)).mono ?_
            rintro ee w5 ⟨x, q5, e5, rfl, hs5, hr5, hc5⟩
            have HS5 : Hid (SK 4 g W w5) := Lib.hid (HS.out.trans hs5.out)
            have HZ5 : Hid (Z3 W.heap.size w5) := Lib.hid (HZ.out.sk HRR.out hs5.out)
            have HF5 := Lib.hid (hs5.out.block HRR.out HF.out (by decide) (by decide))
            have HR5 := Lib.hid hr5.out
            have HC5 : Hid (TkC (8 * p.length) (numB p) qq e 3 x q5 e5) := Lib.hid hc5
            have hx8 : x < 8 := HC5.out.lt
            clear hs5 hr5 hc5 hco
            have hcf : w5.cell? ⟨F, o, none⟩ = some (.int .i64 ((fl.getD o 0 : Nat) : Int)) := blk_cellL HF5.out (fstC_get (by have := HFL.out.1; omega))
            have hff : w5.frozen? ⟨F, o, none⟩ = false := blk_frozen HF5.out o
            have io : (o : Int) < 19 := by omega
            have io0 : (0 : Int) ≤ (o : Int) := by omega
            have hwi : wrap64 ((i : Int) + 1) = ((i + 1 : Nat) : Int) := by rw [IntWalk.wrap64_in _ (by omega)]; omega
            have HWI := Lib.hid hwi
            clear hwi
            go_wp2_with fail
            try rw [HWI.out]
            go_roundw
            case rel =>
              refine ⟨i + 1, q5, fl.set o x, e5, by first | rfl | go_num, by omega, Lib.hid ⟨by rw [List.length_set]; exact HFL.out.1, set_small HFL.out.2 (by omega)⟩, Lib.hid ?_, Lib.hid (HS5.out.cell_ HGW.out HFG.out _), Lib.hid (HR5.out.cell_ HF5.out (by decide) (by decide) _), Lib.hid ?_, Lib.hid ?_⟩
              · have h := blk_setL HF5.out o (.int .i64 (x : Int))
                rw [fstC_set] at h
                exact h
              · have hz := HZ5.out
                have ne : ∀ b : Nat, w5.heap[b]? = some (.cells zT.toArray 59 (0, 0)) → b ≠ F := fun b hb => blk_ne hb HF5.out (by decide)
                exact ⟨(Below.heap_setCell w5 ⟨F, o, none⟩ _ _ (ne _ hz.a)).trans hz.a, (Below.heap_setCell w5 ⟨F, o, none⟩ _ _ (ne _ hz.b)).trans hz.b, (Below.heap_setCell w5 ⟨F, o, none⟩ _ _ (ne _ hz.c)).trans hz.c⟩
              · have h3 := HC5.out.err HE.out.1
                exact ⟨by rw [h3]; exact HE.out.1, by rw [h3]; exact HE.out.2⟩
            case measure => simp [intOf]; omega
          · obtain rfl : i = x3 + 4 := by omega
            have ilt : ¬ ((x3 + 4 : Nat) : Int) < (x3 : Int) + 4 := by omega
            clear hlt hi
            go_wp2_with fail
            have hfl := HFL.out.1
            refine (build_nat wr (some ⟨F, 0, none⟩) 19 fl 19 false hfl (by have h := reads_block HF.out (by omega); rw [hfl] at h; exact h) (by omega) HFL.out.2).mono ?_
            rintro ee w6 ⟨v6, rfl, ho6, hb6, hv6⟩
            obtain ⟨A6, n6, c6, hv6'⟩ := hv6.out
            have hb7 := below_then hb6.out hb6.out.size (below_alloc (Below.refl w6.heap.size w6) (.cells (tabC fl v6).toArray 59))
            have h6s := hb6.out.size
            have HR7 : Hid (Rd w0 A c p most g qq out e (w6.alloc (.cells (tabC fl v6).toArray 59))) := Lib.hid (HRR.out.below hb7)
            have HS7 : Hid (SK 4 g W (w6.alloc (.cells (tabC fl v6).toArray 59))) := Lib.hid (HS.out.trans (SK.ofBelow hb7 HRR.out.lt))
            have HZ7 : Hid (Z3 W.heap.size (w6.alloc (.cells (tabC fl v6).toArray 59))) := Lib.hid (HZ.out.below hb7)
            have HT7 : Hid ((w6.alloc (.cells (tabC fl v6).toArray 59)).heap[w6.heap.size]? = some (.cells (tabC fl v6).toArray 59 (0, 0))) := Lib.hid (heap_alloc_new _ _)
            have HO7 : Hid (okT fl false = true → (w6.alloc (.cells (tabC fl v6).toArray 59)).ownsRow w0.heap.size 3 1 v6 (symT fl).length (nums .i64 (natI (symT fl))) ∧ ∀ k, v6.ownBlock = some k → k < w6.heap.size) := Lib.hid (fun h => ⟨own_weaken (pw_own_below (ho6.out h) (below_alloc (Below.refl _ _) _)) (by have := (HW.out.sk HR.out HS.out).below.size; omega), fun k hk => own_lt (ho6.out h) k hk⟩)
            have HONE : Hid ((tabC fl v6).toArray.all (·.oneCell') = true) := Lib.hid (by rw [hv6']; exact tabC_one fl A6 n6 c6)
            have HSZ : Hid ((tabC fl v6).toArray.size = 17) := Lib.hid (tabC_size _ _)
            have k7 := rd_e HR7.out
            have HB6S : Hid (wr.heap.size ≤ w6.heap.size) := Lib.hid h6s
            clear ho6 hb6 hv6 hv6' hb7 h6s hfl
            generalize hob : okT fl false = ob at *
            have HOB := Lib.hid hob
            clear hob
            generalize hct : (tabC fl v6).toArray = ct at *
            have HCT := Lib.hid hct
            clear hct
            have he := HE.out.1
            have he' : (e == 0) = false := by simp [he]
            have HE4 : Hid (res = .error e) := Lib.hid HE.out.2
            have hmr := make_room (P := Tryd.prog) 51 3 (.int .i64 0) 8 Tryd.underlying51 infoIntB rfl ((x1 : Int) + 257 + ((x2 : Int) + 1)) (x1 + 257 + (x2 + 1)) (by omega) (by omega) (by omega)
            go_wp2_with (first
              | (refine wpList_store_new rfl 59 (.tmp 11) (.tmp 59) rfl _ ct rfl rfl (by rw [HSZ.out]; exact infoTab) (by rw [HSZ.out]; rfl) HONE.out ?_))
            clear hmr
            have hb8 : Below (w6.alloc (.cells ct 59)).heap.size (w6.alloc (.cells ct 59)) ((w6.alloc (.cells ct 59)).alloc (.cells (madeCells #[.int .i64 0] (x1 + 257 + (x2 + 1))) 3)) := below_alloc (Below.refl _ _) _
            have HRE : Hid (Rd w0 A c p most g qq out e ((w6.alloc (.cells ct 59)).alloc (.cells (madeCells #[.int .i64 0] (x1 + 257 + (x2 + 1))) 3))) := Lib.hid (HR7.out.below hb8)
            have HSE : Hid (SK 4 g W ((w6.alloc (.cells ct 59)).alloc (.cells (madeCells #[.int .i64 0] (x1 + 257 + (x2 + 1))) 3))) := Lib.hid (HS7.out.trans (SK.ofBelow hb8 HR7.out.lt))
            have HZE : Hid (Z3 W.heap.size ((w6.alloc (.cells ct 59)).alloc (.cells (madeCells #[.int .i64 0] (x1 + 257 + (x2 + 1))) 3))) := Lib.hid (HZ7.out.below hb8)
            have HEE : Hid (e ≠ 0 ∧ res = .error e) := Lib.hid (⟨he, HE4.out⟩)
            have k8 := rd_e HRE.out
            clear hb8
            generalize ((w6.alloc (.cells ct 59)).alloc (.cells (madeCells #[.int .i64 0] (x1 + 257 + (x2 + 1))) 3)) = W8 at *
            go_loopw [13] (fun v wr2 => v = .slice (some ⟨(w6.heap.size + 1), 0, none⟩) 0 (x1 + 257 + (x2 + 1)) ∧ Hid (W8 = wr2)) (fun _ _ => 0)
            case atStart => exact ⟨rfl, Lib.hid rfl⟩
            case round =>
              obtain ⟨rfl, HEQ⟩ := hrel
              obtain rfl := HEQ.out
              have iw : (0 : Int) < (x1 : Int) + 257 + ((x2 : Int) + 1) := by omega
              go_wp2_with fail
              obtain ⟨HDA, HDB, HDC, HDD, HDE⟩ := dyn_zero (A := A) (c := c) (p := p) (most := most) (g := g) (out := out) (res := res) HSE.out HGW.out HRE.out HZE.out HEE.out.1 HEE.out.2
              refine reg147 (g0 := W.heap.size) (g1 := W.heap.size + 1) (g3 := W.heap.size + 1 + 1) (c1 := zT.toArray) (oz := zT.toArray) (by show (190 : Nat) < 191; decide) rfl rfl rfl zT_size zT_size (all_one zT_one) HDA.out HDB.out HDC.out HDD.out (fun a' hd h2 h3 => ?_)
              go_wp2_with fail
              refine bodyPost_ret (results_cells rfl _ _ W.heap.size (W.heap.size + 1) 59 59 _ _ (0, 0) (0, 0) _ h2 h3 HDE.out.1 HDE.out.2.1 Tryd.underlying59 rfl (by rw [zT_size]; exact infoTab) (by rw [zT_size]; exact infoTab)) (hd.trans rfl) ?_
              exact HDE.out.2.2
      · have ia : ¬ (x1 : Int) + 257 > 286 := by omega
        have ib : (x2 : Int) + 1 > 30 := by omega
        clear hab
        go_wp2_with fail
        refine (wrong_calls w0 A c p most g q3 out 0 4 w3 HR3.out (by omega)).mono ?_
        rintro ee w7 ⟨rfl, hs7, hr7⟩
        have HS7 : Hid (SK 4 g W w7) := Lib.hid (HS3.out.trans hs7)
        have HZ7 : Hid (Z3 W.heap.size w7) := Lib.hid (HZ3.out.sk HR3.out hs7)
        have hr7' : Rd w0 A c p most g q3 out 4 w7 := hr7
        have HR7 := Lib.hid hr7'
        clear hs7 hr7 hr7' k6
        have k6 := rd_e HR7.out
        go_wp2_with fail
        rw [show (#[.int .i64 0, .int .i64 0, .int .i64 0, .int .i64 0, .int .i64 0, .int .i64 0, .int .i64 0, .int .i64 0, .int .i64 0, .int .i64 0, .int .i64 0, .int .i64 0, .int .i64 0, .int .i64 0, .int .i64 0, .int .i64 0, .int .i64 0, .int .i64 0, .int .i64 0] : Array Value) = (fstC (List.replicate 19 0)).toArray from rfl]
        obtain ⟨F, hF⟩ : ∃ F, F = w7.heap.size := ⟨_, rfl⟩
        obtain ⟨W4, hW4⟩ : ∃ W4, W4 = w7.alloc (.cells (fstC (List.replicate 19 0)).toArray 91) := ⟨_, rfl⟩
        have hb4 : Below w7.heap.size w7 (w7.alloc (.cells (fstC (List.replicate 19 0)).toArray 91)) := below_alloc (Below.refl _ _) _
        have hf4 := heap_alloc_new w7 (.cells (fstC (List.replicate 19 0)).toArray 91)
        rw [← hF, ← hW4]
        rw [← hW4] at hb4 hf4
        rw [← hF] at hf4
        have HF4 := Lib.hid hf4
        have HR4 : Hid (Rd w0 A c p most g q3 out 4 W4) := Lib.hid (HR7.out.below hb4)
        have HS4 : Hid (SK 4 g W W4) := Lib.hid (HS7.out.trans (SK.ofBelow hb4 HR7.out.lt))
        have HZ4 : Hid (Z3 W.heap.size W4) := Lib.hid (HZ7.out.below hb4)
        have HFG : Hid (W.heap.size ≤ F) := Lib.hid (by rw [hF]; exact HS7.out.size)
        clear hb4 hf4 hF hW4 k6
        have HE0 := HE
        clear HE
        go_loopw [47] (fun vi wr => ∃ (i qq : Nat) (fl : List Nat) (e : Int), vi = .int .i64 i ∧ i ≤ x3 + 4 ∧ Hid (fl.length = 19 ∧ ∀ x ∈ fl, x < 16) ∧ Hid (wr.heap[F]? = some (.cells (fstC fl).toArray 91 (0, 0))) ∧ Hid (SK 4 g W wr) ∧ Hid (Rd w0 A c p most g qq out e wr) ∧ Hid (Z3 W.heap.size wr) ∧ Hid (e ≠ 0 ∧ res = .error e)) (fun vi _ => 20 - (intOf vi).toNat)
        case atStart => exact ⟨0, q3, List.replicate 19 0, 4, rfl, by omega, Lib.hid ⟨by simp, fun x hx => by rw [List.eq_of_mem_replicate hx]; omega⟩, HF4, HS4, HR4, HZ4, Lib.hid (⟨by decide, HE0.out⟩)⟩
        case round =>
          clear HF4 HS4 HR4 HZ4
          obtain ⟨i, qq, fl, e, rfl, hi, HFL, HF, HS, HRR, HZ, HE⟩ := hrel
          by_cases hlt : i < x3 + 4
          · have ilt : (i : Int) < (x3 : Int) + 4 := by omega
            have i0 : (0 : Int) ≤ (i : Int) := by omega
            have HRWr := Lib.hid (HW.out.sk HR.out HS.out)
            have hco : wr.cell? ⟨0, i, none⟩ = some (.int .i64 ((ordT.getD i 0 : Nat) : Int)) := pw_cell_below HRWr.out.below (HW.out.ord i (by omega))
            have ho19 := ordT_lt (show i < 19 by omega)
            generalize hgo : ordT.getD i 0 = o at hco ho19
            have HGO := Lib.hid hgo
            clear hgo
            go_wp2_with fail
            refine (take_calls w0 A c p most g qq out e wr 3 HRR.out HRWr.out (by omega)).mono ?_
            rintro ee w5 ⟨x, q5, e5, rfl, hs5, hr5, hc5⟩
            have HS5 : Hid (SK 4 g W w5) := Lib.hid (HS.out.trans hs5.out)
            have HZ5 : Hid (Z3 W.heap.size w5) := Lib.hid (HZ.out.sk HRR.out hs5.out)
            have HF5 := Lib.hid (hs5.out.block HRR.out HF.out (by decide) (by decide))
            have HR5 := Lib.hid hr5.out
            have HC5 : Hid (TkC (8 * p.length) (numB p) qq e 3 x q5 e5) := Lib.hid hc5
            have hx8 : x < 8 := HC5.out.lt
            clear hs5 hr5 hc5 hco
            have hcf : w5.cell? ⟨F, o, none⟩ = some (.int .i64 ((fl.getD o 0 : Nat) : Int)) := blk_cellL HF5.out (fstC_get (by have := HFL.out.1; omega))
            have hff : w5.frozen? ⟨F, o, none⟩ = false := blk_frozen HF5.out o
            have io : (o : Int) < 19 := by omega
            have io0 : (0 : Int) ≤ (o : Int) := by omega
            have hwi : wrap64 ((i : Int) + 1) = ((i + 1 : Nat) : Int) := by rw [IntWalk.wrap64_in _ (by omega)]; omega
            have HWI := Lib.hid hwi
            clear hwi
            go_wp2_with fail
            try rw [HWI.out]
            go_roundw
            case rel =>
              refine ⟨i + 1, q5, fl.set o x, e5, by first | rfl | go_num, by omega, Lib.hid ⟨by rw [List.length_set]; exact HFL.out.1, set_small HFL.out.2 (by omega)⟩, Lib.hid ?_, Lib.hid (HS5.out.cell_ HGW.out HFG.out _), Lib.hid (HR5.out.cell_ HF5.out (by decide) (by decide) _), Lib.hid ?_, Lib.hid ?_⟩
              · have h := blk_setL HF5.out o (.int .i64 (x : Int))
                rw [fstC_set] at h
                exact h
              · have hz := HZ5.out
                have ne : ∀ b : Nat, w5.heap[b]? = some (.cells zT.toArray 59 (0, 0)) → b ≠ F := fun b hb => blk_ne hb HF5.out (by decide)
                exact ⟨(Below.heap_setCell w5 ⟨F, o, none⟩ _ _ (ne _ hz.a)).trans hz.a, (Below.heap_setCell w5 ⟨F, o, none⟩ _ _ (ne _ hz.b)).trans hz.b, (Below.heap_setCell w5 ⟨F, o, none⟩ _ _ (ne _ hz.c)).trans hz.c⟩
              · have h3 := HC5.out.err HE.out.1
                exact ⟨by rw [h3]; exact HE.out.1, by rw [h3]; exact HE.out.2⟩
            case measure => simp [intOf]; omega
          · obtain rfl : i = x3 + 4 := by omega
            have ilt : ¬ ((x3 + 4 : Nat) : Int) < (x3 : Int) + 4 := by omega
            clear hlt hi
            go_wp2_with fail
            have hfl := HFL.out.1
            refine (build_nat wr (some ⟨F, 0, none⟩) 19 fl 19 false hfl (by have h := reads_block HF.out (by omega); rw [hfl] at h; exact h) (by omega) HFL.out.2).mono ?_
            rintro ee w6 ⟨v6, rfl, ho6, hb6, hv6⟩
            obtain ⟨A6, n6, c6, hv6'⟩ := hv6.out
            have hb7 := below_then hb6.out hb6.out.size (below_alloc (Below.refl w6.heap.size w6) (.cells (tabC fl v6).toArray 59))
            have h6s := hb6.out.size
            have HR7 : Hid (Rd w0 A c p most g qq out e (w6.alloc (.cells (tabC fl v6).toArray 59))) := Lib.hid (HRR.out.below hb7)
            have HS7 : Hid (SK 4 g W (w6.alloc (.cells (tabC fl v6).toArray 59))) := Lib.hid (HS.out.trans (SK.ofBelow hb7 HRR.out.lt))
            have HZ7 : Hid (Z3 W.heap.size (w6.alloc (.cells (tabC fl v6).toArray 59))) := Lib.hid (HZ.out.below hb7)
            have HT7 : Hid ((w6.alloc (.cells (tabC fl v6).toArray 59)).heap[w6.heap.size]? = some (.cells (tabC fl v6).toArray 59 (0, 0))) := Lib.hid (heap_alloc_new _ _)
            have HO7 : Hid (okT fl false = true → (w6.alloc (.cells (tabC fl v6).toArray 59)).ownsRow w0.heap.size 3 1 v6 (symT fl).length (nums .i64 (natI (symT fl))) ∧ ∀ k, v6.ownBlock = some k → k < w6.heap.size) := Lib.hid (fun h => ⟨own_weaken (pw_own_below (ho6.out h) (below_alloc (Below.refl _ _) _)) (by have := (HW.out.sk HR.out HS.out).below.size; omega), fun k hk => own_lt (ho6.out h) k hk⟩)
            have HONE : Hid ((tabC fl v6).toArray.all (·.oneCell') = true) := Lib.hid (by rw [hv6']; exact tabC_one fl A6 n6 c6)
            have HSZ : Hid ((tabC fl v6).toArray.size = 17) := Lib.hid (tabC_size _ _)
            have k7 := rd_e HR7.out
            have HB6S : Hid (wr.heap.size ≤ w6.heap.size) := Lib.hid h6s
            clear ho6 hb6 hv6 hv6' hb7 h6s hfl
            generalize hob : okT fl false = ob at *
            have HOB := Lib.hid hob
            clear hob
            generalize hct : (tabC fl v6).toArray = ct at *
            have HCT := Lib.hid hct
            clear hct
            have he := HE.out.1
            have he' : (e == 0) = false := by simp [he]
            have HE4 : Hid (res = .error e) := Lib.hid HE.out.2
            have hmr := make_room (P := Tryd.prog) 51 3 (.int .i64 0) 8 Tryd.underlying51 infoIntB rfl ((x1 : Int) + 257 + ((x2 : Int) + 1)) (x1 + 257 + (x2 + 1)) (by omega) (by omega) (by omega)
            go_wp2_with (first
              | (refine wpList_store_new rfl 59 (.tmp 11) (.tmp 59) rfl _ ct rfl rfl (by rw [HSZ.out]; exact infoTab) (by rw [HSZ.out]; rfl) HONE.out ?_))
            clear hmr
            have hb8 : Below (w6.alloc (.cells ct 59)).heap.size (w6.alloc (.cells ct 59)) ((w6.alloc (.cells ct 59)).alloc (.cells (madeCells #[.int .i64 0] (x1 + 257 + (x2 + 1))) 3)) := below_alloc (Below.refl _ _) _
            have HRE : Hid (Rd w0 A c p most g qq out e ((w6.alloc (.cells ct 59)).alloc (.cells (madeCells #[.int .i64 0] (x1 + 257 + (x2 + 1))) 3))) := Lib.hid (HR7.out.below hb8)
            have HSE : Hid (SK 4 g W ((w6.alloc (.cells ct 59)).alloc (.cells (madeCells #[.int .i64 0] (x1 + 257 + (x2 + 1))) 3))) := Lib.hid (HS7.out.trans (SK.ofBelow hb8 HR7.out.lt))
            have HZE : Hid (Z3 W.heap.size ((w6.alloc (.cells ct 59)).alloc (.cells (madeCells #[.int .i64 0] (x1 + 257 + (x2 + 1))) 3))) := Lib.hid (HZ7.out.below hb8)
            have HEE : Hid (e ≠ 0 ∧ res = .error e) := Lib.hid (⟨he, HE4.out⟩)
            have k8 := rd_e HRE.out
            clear hb8
            generalize ((w6.alloc (.cells ct 59)).alloc (.cells (madeCells #[.int .i64 0] (x1 + 257 + (x2 + 1))) 3)) = W8 at *
            go_loopw [13] (fun v wr2 => v = .slice (some ⟨(w6.heap.size + 1), 0, none⟩) 0 (x1 + 257 + (x2 + 1)) ∧ Hid (W8 = wr2)) (fun _ _ => 0)
            case atStart => exact ⟨rfl, Lib.hid rfl⟩
            case round =>
              obtain ⟨rfl, HEQ⟩ := hrel
              obtain rfl := HEQ.out
              have iw : (0 : Int) < (x1 : Int) + 257 + ((x2 : Int) + 1) := by omega
              go_wp2_with fail
              obtain ⟨HDA, HDB, HDC, HDD, HDE⟩ := dyn_zero (A := A) (c := c) (p := p) (most := most) (g := g) (out := out) (res := res) HSE.out HGW.out HRE.out HZE.out HEE.out.1 HEE.out.2
              refine reg147 (g0 := W.heap.size) (g1 := W.heap.size + 1) (g3 := W.heap.size + 1 + 1) (c1 := zT.toArray) (oz := zT.toArray) (by show (190 : Nat) < 191; decide) rfl rfl rfl zT_size zT_size (all_one zT_one) HDA.out HDB.out HDC.out HDD.out (fun a' hd h2 h3 => ?_)
              go_wp2_with fail
              refine bodyPost_ret (results_cells rfl _ _ W.heap.size (W.heap.size + 1) 59 59 _ _ (0, 0) (0, 0) _ h2 h3 HDE.out.1 HDE.out.2.1 Tryd.underlying59 rfl (by rw [zT_size]; exact infoTab) (by rw [zT_size]; exact infoTab)) (hd.trans rfl) ?_
              exact HDE.out.2.2
    · have ia : ¬ (x1 : Int) + 257 > 286 := by omega
      have ib : ¬ (x2 : Int) + 1 > 30 := by omega
      have HX2 : Hid (res = bndR (fstR (x3 + 4) (x3 + 4) (List.replicate 19 0)) (dynB x1 x2) (numB p) (8 * p.length) q3) := Lib.hid (by rw [HX.out]; unfold dynA; rw [if_neg hab])
      clear hab
      go_wp2_with fail
      rw [show (#[.int .i64 0, .int .i64 0, .int .i64 0, .int .i64 0, .int .i64 0, .int .i64 0, .int .i64 0, .int .i64 0, .int .i64 0, .int .i64 0, .int .i64 0, .int .i64 0, .int .i64 0, .int .i64 0, .int .i64 0, .int .i64 0, .int .i64 0, .int .i64 0, .int .i64 0] : Array Value) = (fstC (List.replicate 19 0)).toArray from rfl]
      obtain ⟨F, hF⟩ : ∃ F, F = w3.heap.size := ⟨_, rfl⟩
      obtain ⟨W4, hW4⟩ : ∃ W4, W4 = w3.alloc (.cells (fstC (List.replicate 19 0)).toArray 91) := ⟨_, rfl⟩
      have hb4 : Below w3.heap.size w3 (w3.alloc (.cells (fstC (List.replicate 19 0)).toArray 91)) := below_alloc (Below.refl _ _) _
      have hf4 := heap_alloc_new w3 (.cells (fstC (List.replicate 19 0)).toArray 91)
      rw [← hF, ← hW4]
      rw [← hW4] at hb4 hf4
      rw [← hF] at hf4
      have HF4 := Lib.hid hf4
      have HR4 : Hid (Rd w0 A c p most g q3 out 0 W4) := Lib.hid (HR3.out.below hb4)
      have HS4 : Hid (SK 4 g W W4) := Lib.hid (HS3.out.trans (SK.ofBelow hb4 HR3.out.lt))
      have HZ4 : Hid (Z3 W.heap.size W4) := Lib.hid (HZ3.out.below hb4)
      have HFG : Hid (W.heap.size ≤ F) := Lib.hid (by rw [hF]; exact HS3.out.size)
      clear hb4 hf4 hF hW4 k6
      go_loopw [47] (fun vi wr => ∃ (i qq : Nat) (fl : List Nat) (e : Int), vi = .int .i64 i ∧ i ≤ x3 + 4 ∧ Hid (fl.length = 19 ∧ ∀ x ∈ fl, x < 16) ∧ Hid (wr.heap[F]? = some (.cells (fstC fl).toArray 91 (0, 0))) ∧ Hid (SK 4 g W wr) ∧ Hid (Rd w0 A c p most g qq out e wr) ∧ Hid (Z3 W.heap.size wr) ∧ Hid (Rest e (bndR (fstR (x3 + 4) (x3 + 4 - i) fl) (dynB x1 x2) (numB p) (8 * p.length) qq) res)) (fun vi _ => 20 - (intOf vi).toNat)
      case atStart => exact ⟨0, q3, List.replicate 19 0, 0, rfl, by omega, Lib.hid ⟨by simp, fun x hx => by rw [List.eq_of_mem_replicate hx]; omega⟩, HF4, HS4, HR4, HZ4, Lib.hid (.inl ⟨rfl, HX2.out.symm⟩)⟩
      case round =>
        clear HF4 HS4 HR4 HZ4
        obtain ⟨i, qq, fl, e, rfl, hi, HFL, HF, HS, HRR, HZ, HE⟩ := hrel
        by_cases hlt : i < x3 + 4
        · have ilt : (i : Int) < (x3 : Int) + 4 := by omega
          have i0 : (0 : Int) ≤ (i : Int) := by omega
          have HRWr := Lib.hid (HW.out.sk HR.out HS.out)
          have hco : wr.cell? ⟨0, i, none⟩ = some (.int .i64 ((ordT.getD i 0 : Nat) : Int)) := pw_cell_below HRWr.out.below (HW.out.ord i (by omega))
          have ho19 := ordT_lt (show i < 19 by omega)
          generalize hgo : ordT.getD i 0 = o at hco ho19
          have HGO := Lib.hid hgo
          clear hgo
          go_wp2_with fail
          refine (take_calls w0 A c p most g qq out e wr 3 HRR.out HRWr.out (by omega)).mono ?_
          rintro ee w5 ⟨x, q5, e5, rfl, hs5, hr5, hc5⟩
          have HS5 : Hid (SK 4 g W w5) := Lib.hid (HS.out.trans hs5.out)
          have HZ5 : Hid (Z3 W.heap.size w5) := Lib.hid (HZ.out.sk HRR.out hs5.out)
          have HF5 := Lib.hid (hs5.out.block HRR.out HF.out (by decide) (by decide))
          have HR5 := Lib.hid hr5.out
          have HC5 : Hid (TkC (8 * p.length) (numB p) qq e 3 x q5 e5) := Lib.hid hc5
          have hx8 : x < 8 := HC5.out.lt
          clear hs5 hr5 hc5 hco
          have hcf : w5.cell? ⟨F, o, none⟩ = some (.int .i64 ((fl.getD o 0 : Nat) : Int)) := blk_cellL HF5.out (fstC_get (by have := HFL.out.1; omega))
          have hff : w5.frozen? ⟨F, o, none⟩ = false := blk_frozen HF5.out o
          have io : (o : Int) < 19 := by omega
          have io0 : (0 : Int) ≤ (o : Int) := by omega
          have hwi : wrap64 ((i : Int) + 1) = ((i + 1 : Nat) : Int) := by rw [IntWalk.wrap64_in _ (by omega)]; omega
          have HWI := Lib.hid hwi
          clear hwi
          go_wp2_with fail
          try rw [HWI.out]
          go_roundw
          case rel =>
            refine ⟨i + 1, q5, fl.set o x, e5, by first | rfl | go_num, by omega, Lib.hid ⟨by rw [List.length_set]; exact HFL.out.1, set_small HFL.out.2 (by omega)⟩, Lib.hid ?_, Lib.hid (HS5.out.cell_ HGW.out HFG.out _), Lib.hid (HR5.out.cell_ HF5.out (by decide) (by decide) _), Lib.hid ?_, Lib.hid ?_⟩
            · have h := blk_setL HF5.out o (.int .i64 (x : Int))
              rw [fstC_set] at h
              exact h
            · have hz := HZ5.out
              have ne : ∀ b : Nat, w5.heap[b]? = some (.cells zT.toArray 59 (0, 0)) → b ≠ F := fun b hb => blk_ne hb HF5.out (by decide)
              exact ⟨(Below.heap_setCell w5 ⟨F, o, none⟩ _ _ (ne _ hz.a)).trans hz.a, (Below.heap_setCell w5 ⟨F, o, none⟩ _ _ (ne _ hz.b)).trans hz.b, (Below.heap_setCell w5 ⟨F, o, none⟩ _ _ (ne _ hz.c)).trans hz.c⟩
            · rcases HE.out with ⟨h1, h2⟩ | ⟨h1, h2⟩
              · subst h1
                rcases HC5.out.ok with ⟨h3, h4⟩ | ⟨h3, h4⟩
                · left
                  refine ⟨h4, ?_⟩
                  rw [show x3 + 4 - i = (x3 + 4 - (i + 1)) + 1 from by omega, fstR_step h3] at h2
                  rw [show x3 + 4 - (x3 + 4 - (i + 1) + 1) = i from by omega, HGO.out] at h2
                  exact h2
                · right
                  rw [show x3 + 4 - i = (x3 + 4 - (i + 1)) + 1 from by omega, fstR_short h3] at h2
                  exact ⟨by rw [h4]; decide, by rw [h4]; exact h2.symm⟩
              · right
                have h3 := HC5.out.err h1
                exact ⟨by rw [h3]; exact h1, by rw [h3]; exact h2⟩
          case measure => simp [intOf]; omega
        · obtain rfl : i = x3 + 4 := by omega
          have HE2 : Hid (Rest e (dynB x1 x2 fl (numB p) (8 * p.length) qq) res) := Lib.hid (by
            have h := HE.out
            rw [Nat.sub_self] at h
            exact h)
          have ilt : ¬ ((x3 + 4 : Nat) : Int) < (x3 : Int) + 4 := by omega
          clear HE hlt hi
          go_wp2_with fail
          have hfl := HFL.out.1
          refine (build_nat wr (some ⟨F, 0, none⟩) 19 fl 19 false hfl (by have h := reads_block HF.out (by omega); rw [hfl] at h; exact h) (by omega) HFL.out.2).mono ?_
          rintro ee w6 ⟨v6, rfl, ho6, hb6, hv6⟩
          obtain ⟨A6, n6, c6, hv6'⟩ := hv6.out
          have hb7 := below_then hb6.out hb6.out.size (below_alloc (Below.refl w6.heap.size w6) (.cells (tabC fl v6).toArray 59))
          have h6s := hb6.out.size
          have HR7 : Hid (Rd w0 A c p most g qq out e (w6.alloc (.cells (tabC fl v6).toArray 59))) := Lib.hid (HRR.out.below hb7)
          have HS7 : Hid (SK 4 g W (w6.alloc (.cells (tabC fl v6).toArray 59))) := Lib.hid (HS.out.trans (SK.ofBelow hb7 HRR.out.lt))
          have HZ7 : Hid (Z3 W.heap.size (w6.alloc (.cells (tabC fl v6).toArray 59))) := Lib.hid (HZ.out.below hb7)
          have HT7 : Hid ((w6.alloc (.cells (tabC fl v6).toArray 59)).heap[w6.heap.size]? = some (.cells (tabC fl v6).toArray 59 (0, 0))) := Lib.hid (heap_alloc_new _ _)
          have HO7 : Hid (okT fl false = true → (w6.alloc (.cells (tabC fl v6).toArray 59)).ownsRow w0.heap.size 3 1 v6 (symT fl).length (nums .i64 (natI (symT fl))) ∧ ∀ k, v6.ownBlock = some k → k < w6.heap.size) := Lib.hid (fun h => ⟨own_weaken (pw_own_below (ho6.out h) (below_alloc (Below.refl _ _) _)) (by have := (HW.out.sk HR.out HS.out).below.size; omega), fun k hk => own_lt (ho6.out h) k hk⟩)
          have HONE : Hid ((tabC fl v6).toArray.all (·.oneCell') = true) := Lib.hid (by rw [hv6']; exact tabC_one fl A6 n6 c6)
          have HSZ : Hid ((tabC fl v6).toArray.size = 17) := Lib.hid (tabC_size _ _)
          have k7 := rd_e HR7.out
          have HB6S : Hid (wr.heap.size ≤ w6.heap.size) := Lib.hid h6s
          clear ho6 hb6 hv6 hv6' hb7 h6s hfl
          generalize hob : okT fl false = ob at *
          have HOB := Lib.hid hob
          clear hob
          generalize hct : (tabC fl v6).toArray = ct at *
          have HCT := Lib.hid hct
          clear hct
          by_cases he : e = 0
          · subst he
            have HE3 : Hid (dynB x1 x2 fl (numB p) (8 * p.length) qq = res) := Lib.hid (by
              rcases HE2.out with ⟨_, h⟩ | ⟨h, _⟩
              · exact h
              · exact absurd rfl h)
            clear HE2
            cases ob with
            | false =>
              have HE4 : Hid (res = .error 4) := Lib.hid (by rw [← HE3.out]; unfold dynB; rw [if_pos HOB.out]; rfl)
              go_wp2_with (first
                | (refine wpList_store_new rfl 59 (.tmp 11) (.tmp 59) rfl _ ct rfl rfl (by rw [HSZ.out]; exact infoTab) (by rw [HSZ.out]; rfl) HONE.out ?_))
              refine (wrong_calls w0 A c p most g qq out 0 4 _ HR7.out (by omega)).mono ?_
              rintro ee w7 ⟨rfl, hs7, hr7⟩
              have HS7b : Hid (SK 4 g W w7) := Lib.hid (HS7.out.trans hs7)
              have HZ7b : Hid (Z3 W.heap.size w7) := Lib.hid (HZ7.out.sk HR7.out hs7)
              have hr7' : Rd w0 A c p most g qq out 4 w7 := hr7
              have HR7b := Lib.hid hr7'
              clear hs7 hr7 hr7' k7
              have hmr := make_room (P := Tryd.prog) 51 3 (.int .i64 0) 8 Tryd.underlying51 infoIntB rfl ((x1 : Int) + 257 + ((x2 : Int) + 1)) (x1 + 257 + (x2 + 1)) (by omega) (by omega) (by omega)
              go_wp2_with fail
              clear hmr
              have hb8 : Below w7.heap.size w7 (w7.alloc (.cells (madeCells #[.int .i64 0] (x1 + 257 + (x2 + 1))) 3)) := below_alloc (Below.refl _ _) _
              have HRE : Hid (Rd w0 A c p most g qq out 4 (w7.alloc (.cells (madeCells #[.int .i64 0] (x1 + 257 + (x2 + 1))) 3))) := Lib.hid (HR7b.out.below hb8)
              have HSE : Hid (SK 4 g W (w7.alloc (.cells (madeCells #[.int .i64 0] (x1 + 257 + (x2 + 1))) 3))) := Lib.hid (HS7b.out.trans (SK.ofBelow hb8 HR7b.out.lt))
              have HZE : Hid (Z3 W.heap.size (w7.alloc (.cells (madeCells #[.int .i64 0] (x1 + 257 + (x2 + 1))) 3))) := Lib.hid (HZ7b.out.below hb8)
              have HEE : Hid ((4 : Int) ≠ 0 ∧ res = .error 4) := Lib.hid (⟨by decide, HE4.out⟩)
              have k8 := rd_e HRE.out
              clear hb8
              generalize (w7.alloc (.cells (madeCells #[.int .i64 0] (x1 + 257 + (x2 + 1))) 3)) = W8 at *
              go_loopw [13] (fun v wr2 => v = .slice (some ⟨w7.heap.size, 0, none⟩) 0 (x1 + 257 + (x2 + 1)) ∧ Hid (W8 = wr2)) (fun _ _ => 0)
              case atStart => exact ⟨rfl, Lib.hid rfl⟩
              case round =>
                obtain ⟨rfl, HEQ⟩ := hrel
                obtain rfl := HEQ.out
                have iw : (0 : Int) < (x1 : Int) + 257 + ((x2 : Int) + 1) := by omega
                go_wp2_with fail
                obtain ⟨HDA, HDB, HDC, HDD, HDE⟩ := dyn_zero (A := A) (c := c) (p := p) (most := most) (g := g) (out := out) (res := res) HSE.out HGW.out HRE.out HZE.out HEE.out.1 HEE.out.2
                refine reg147 (g0 := W.heap.size) (g1 := W.heap.size + 1) (g3 := W.heap.size + 1 + 1) (c1 := zT.toArray) (oz := zT.toArray) (by show (190 : Nat) < 191; decide) rfl rfl rfl zT_size zT_size (all_one zT_one) HDA.out HDB.out HDC.out HDD.out (fun a' hd h2 h3 => ?_)
                go_wp2_with fail
                refine bodyPost_ret (results_cells rfl _ _ W.heap.size (W.heap.size + 1) 59 59 _ _ (0, 0) (0, 0) _ h2 h3 HDE.out.1 HDE.out.2.1 Tryd.underlying59 rfl (by rw [zT_size]; exact infoTab) (by rw [zT_size]; exact infoTab)) (hd.trans rfl) ?_
                exact HDE.out.2.2
            | true =>
              have hmr := make_room (P := Tryd.prog) 51 3 (.int .i64 0) 8 Tryd.underlying51 infoIntB rfl ((x1 : Int) + 257 + ((x2 : Int) + 1)) (x1 + 257 + (x2 + 1)) (by omega) (by omega) (by omega)
              go_wp2_with (first
                | (refine wpList_store_new rfl 59 (.tmp 11) (.tmp 59) rfl _ ct rfl rfl (by rw [HSZ.out]; exact infoTab) (by rw [HSZ.out]; rfl) HONE.out ?_))
              clear hmr
              have hb8 : Below (w6.alloc (.cells ct 59)).heap.size (w6.alloc (.cells ct 59)) ((w6.alloc (.cells ct 59)).alloc (.cells (madeCells #[.int .i64 0] (x1 + 257 + (x2 + 1))) 3)) := below_alloc (Below.refl _ _) _
              have HR8 : Hid (Rd w0 A c p most g qq out 0 ((w6.alloc (.cells ct 59)).alloc (.cells (madeCells #[.int .i64 0] (x1 + 257 + (x2 + 1))) 3))) := Lib.hid (HR7.out.below hb8)
              have HS8 : Hid (SK 4 g W ((w6.alloc (.cells ct 59)).alloc (.cells (madeCells #[.int .i64 0] (x1 + 257 + (x2 + 1))) 3))) := Lib.hid (HS7.out.trans (SK.ofBelow hb8 HR7.out.lt))
              have HZ8 : Hid (Z3 W.heap.size ((w6.alloc (.cells ct 59)).alloc (.cells (madeCells #[.int .i64 0] (x1 + 257 + (x2 + 1))) 3))) := Lib.hid (HZ7.out.below hb8)
              have HT8 : Hid (((w6.alloc (.cells ct 59)).alloc (.cells (madeCells #[.int .i64 0] (x1 + 257 + (x2 + 1))) 3)).heap[w6.heap.size]? = some (.cells ct 59 (0, 0))) := Lib.hid (by exact (hb8.block _ (blk_lt HT7.out)).trans HT7.out)
              have HO8 := Lib.hid (pw_own_below (HO7.out (by trivial)).1 hb8)
              have HV6 : Hid (∀ k, v6.ownBlock = some k → k < w6.heap.size) := Lib.hid (by exact (HO7.out (by trivial)).2)
              have HL8 : Hid (((w6.alloc (.cells ct 59)).alloc (.cells (madeCells #[.int .i64 0] (x1 + 257 + (x2 + 1))) 3)).ownsRow (w6.heap.size + 1) 3 1 (.slice (some ⟨w6.heap.size + 1, 0, none⟩) 0 (x1 + 257 + (x2 + 1))) ([] : List Nat).length (nums .i64 (natI []))) := Lib.hid (by
                have h := own_room (w6.alloc (.cells ct 59)) (w6.heap.size + 1) 3 (.int .i64 0) (x1 + 257 + (x2 + 1)) (by simp) (by show (x1 + 257 + (x2 + 1)) ≤ 9223372036854775807; omega)
                rw [show (w6.alloc (.cells ct 59)).heap.size = w6.heap.size + 1 from by simp] at h
                exact h)
              have HWT : Hid (W.heap.size ≤ w6.heap.size) := Lib.hid (by
                have h3 := HS.out.size
                have h4 : wr.heap.size ≤ w6.heap.size := HB6S.out
                omega)
              have HE8 : Hid (bndR (lnsR fl (x1 + 257 + (x2 + 1)) (x1 + 257 + (x2 + 1)) []) (dynC x1) (numB p) (8 * p.length) qq = res) := Lib.hid (by rw [← HE3.out]; unfold dynB; rw [if_neg (by rw [HOB.out]; decide)])
              clear hb8
              generalize (w6.alloc (.cells ct 59)).alloc (.cells (madeCells #[.int .i64 0] (x1 + 257 + (x2 + 1))) 3) = W8 at *
              clear k7 HR7 HS7 HZ7 HT7 HO7 HE3
              go_loopw [13] (fun vv wr => ∃ (k q2 : Nat) (ls : List Nat) (e2 : Int), Hid (wr.ownsRow (w6.heap.size + 1) 3 1 vv ls.length (nums .i64 (natI ls))) ∧ Hid (ls.length ≤ 1000 ∧ (e2 = 0 → ls.length ≤ (x1 + 257 + (x2 + 1)) ∧ (x1 + 257 + (x2 + 1)) ≤ ls.length + k ∧ ∀ x ∈ ls, x < 16)) ∧ Hid (SK 4 g W wr) ∧ Hid (Rd w0 A c p most g q2 out e2 wr) ∧ Hid (Z3 W.heap.size wr) ∧ Hid (wr.heap[w6.heap.size]? = some (.cells ct 59 (0, 0))) ∧ Hid (wr.ownsRow w0.heap.size 3 1 v6 (symT fl).length (nums .i64 (natI (symT fl)))) ∧ Hid (Rest e2 (bndR (lnsR fl (x1 + 257 + (x2 + 1)) k ls) (dynC x1) (numB p) (8 * p.length) q2) res)) (fun vv _ => 2000 - lenV vv)
              case atStart => exact ⟨(x1 + 257 + (x2 + 1)), qq, [], 0, HL8, Lib.hid ⟨by simp, fun _ => ⟨by simp, by simp, fun x hx => by cases hx⟩⟩, HS8, HR8, HZ8, HT8, HO8, Lib.hid (.inl ⟨rfl, HE8.out⟩)⟩
              case round =>
                have k6 : True := trivial
                clear HL8 HS8 HR8 HZ8 HT8 HO8 HE8
                obtain ⟨k, q2, ls, e2, HLB, HLEN, HSB, HRB, HZB, HTB, HOB2, HEB⟩ := hrel
                obtain ⟨Av, cv, rfl⟩ := own_slice HLB.out
                clear k6
                have k6 := rd_e HRB.out
                have HLW : Hid (ls.length ≤ 1000) := Lib.hid (by exact HLEN.out.1)
                have hl1 : ls.length ≤ 1000 := HLEN.out.1
                by_cases hlen : ls.length < (x1 + 257 + (x2 + 1))
                · have ilen : (ls.length : Int) < (x1 : Int) + 257 + ((x2 : Int) + 1) := by omega
                  by_cases he2 : e2 = 0
                  · subst he2
                    have HE9a : Hid (bndR (lnsR fl (x1 + 257 + (x2 + 1)) k ls) (dynC x1) (numB p) (8 * p.length) q2 = res) := Lib.hid (by
                      rcases HEB.out with ⟨_, h⟩ | ⟨h, _⟩
                      · exact h
                      · exact absurd rfl h)
                    clear HEB
                    obtain ⟨k, rfl⟩ : ∃ k', k = k' + 1 := ⟨k - 1, by have := (HLEN.out.2 (by first | rfl | trivial)).2.1; omega⟩
                    have HRWB := Lib.hid (HW.out.sk HR.out HSB.out)
                    go_wp2_with fail
                    refine (symbol_calls w0 A c p most g q2 out wr fl w6.heap.size w0.heap.size HRB.out HRWB.out ⟨v6, by rw [HCT.out]; exact HTB.out, HOB2.out⟩ (by have := HFL.out.1; omega)).mono ?_
                    rintro ee w9 ⟨x, q9, e9, rfl, hs9, hr9, hc9⟩
                    have HS9 : Hid (SK 4 g W w9) := Lib.hid (HSB.out.trans hs9.out)
                    have HZ9 : Hid (Z3 W.heap.size w9) := Lib.hid (HZB.out.sk HRB.out hs9.out)
                    have HT9 := Lib.hid (hs9.out.block HRB.out HTB.out (by decide) (by decide))
                    have HO9 := Lib.hid (hs9.out.own HRB.out HOB2.out)
                    have HL9 := Lib.hid (hs9.out.own HRB.out HLB.out)
                    have HR9 := Lib.hid hr9.out
                    clear hs9 hr9 k6
                    have k6 := rd_e HR9.out
                    rcases hc9 with ⟨hsy, h9⟩ | ⟨hsy, h9⟩
                    · subst h9
                      have HE9 : Hid (bndR (nxtR ls x) (fun vt => if (x1 + 257 + (x2 + 1)) < ls.length + vt.2 then badR 4 else bndR (lnsR fl (x1 + 257 + (x2 + 1)) k (ls ++ List.replicate vt.2 vt.1)) (dynC x1)) (numB p) (8 * p.length) q9 = res) := Lib.hid (by rw [← HE9a.out, lns_sym hlen hsy])
                      have hx19 : x < 19 := by have h := symL_lt hsy (by have := HFL.out.1; omega); have := HFL.out.1; omega
                      clear hsy
                      by_cases h16 : x = 16
                      · subst h16
                        by_cases hls : ls.length = 0
                        · obtain rfl : ls = [] := List.eq_nil_of_length_eq_zero hls
                          have HX4 : Hid (res = .error 4) := Lib.hid (by rw [← HE9.out]; exact nxt_err (by unfold nxtR; rfl) _)
                          clear hls
                          go_wp2_with fail
                          refine (wrong_calls w0 A c p most g q9 out 0 4 w9 HR9.out (by omega)).mono ?_
                          rintro ee w11 ⟨rfl, hs11, hr11⟩
                          have HS11 : Hid (SK 4 g W w11) := Lib.hid (HS9.out.trans hs11)
                          have HZ11 : Hid (Z3 W.heap.size w11) := Lib.hid (HZ9.out.sk HR9.out hs11)
                          have HTZ := Lib.hid (hs11.block HR9.out HT9.out (by decide) (by decide))
                          have HO11 := Lib.hid (hs11.own HR9.out HO9.out)
                          have HL11 := Lib.hid (hs11.own HR9.out HL9.out)
                          have hr11' : Rd w0 A c p most g q9 out 4 w11 := hr11
                          have HR11 := Lib.hid hr11'
                          clear hs11 hr11 hr11' k6
                          have k6 := rd_e HR11.out
                          go_wp2_with fail
                          refine (repA_calls w11 1 (16 : Int) (by omega)).mono ?_
                          rintro ee w12 ⟨g12, c12, rfl, ho12, hb12⟩
                          have HB12 := Lib.hid hb12.out
                          have HO12 := Lib.hid (own_reads' ho12.out)
                          have HL12 : Hid (w12.ownsRow (w6.heap.size + 1) 3 1 (.slice Av ([] : List Nat).length cv) (natI []).length (nums .i64 (natI []))) := Lib.hid (by rw [natI_length]; exact pw_own_below HL11.out hb12.out)
                          have HSZ12 : Hid (w6.heap.size + 1 ≤ w12.heap.size) := Lib.hid (Nat.le_trans (blk_lt HTZ.out) hb12.out.size)
                          clear ho12 hb12
                          go_wp2_with (at_builtin; go_must (refine print_append_row (w0 := w12) (w6.heap.size + 1) rfl (.tmp 148) (.tmp 152) 51 3 .i64 8 rfl Tryd.underlying51 infoIntB (by decide) (.slice Av ([] : List Nat).length cv) (natI []) (List.replicate 1 (16 : Int)) (some ⟨g12, 0, none⟩) 1 c12 rfl rfl HL12.out HO12.out (Below.refl _ _) HSZ12.out (by rw [natI_length]; have := HLEN.out.1; omega) ?_; intro v13 w13 hown13 hb13 hgr13 hat13; rw [show (List.replicate 1 (16 : Int)) = List.replicate 1 (((16 : Nat)) : Int) from rfl, natI_rep, natI_length] at hown13; have HOWN := Lib.hid hown13; obtain ⟨A13, c13, hv13⟩ := own_slice hown13; subst hv13; have HGR := Lib.hid hgr13; clear hown13 hb13 hgr13 hat13))
                          have HALL := Lib.hid (grow_all HR11.out HS11.out HGW.out HZ11.out HTZ.out HO11.out HV6.out HL11.out HWT.out HB12.out HGR.out)
                          go_roundw
                          case rel =>
                            exact ⟨k, q9, [] ++ List.replicate 1 16, 4, Lib.hid (by simpa only [List.length_append, List.length_replicate, List.nil_append, List.length_nil, Nat.zero_add] using HOWN.out), Lib.hid ⟨by simp, fun h => absurd h (by decide)⟩, Lib.hid HALL.out.2.1, Lib.hid HALL.out.1, Lib.hid HALL.out.2.2.1, Lib.hid HALL.out.2.2.2.1, Lib.hid HALL.out.2.2.2.2, Lib.hid (.inr ⟨by decide, HX4.out⟩)⟩
                          case measure =>
                            have := HLEN.out.1
                            have := HLW.out
                            simp [lenV]
                        · have ils : ¬ (ls.length : Int) = 0 := by omega
                          have hL9 := HL9.out
                          obtain ⟨ad, hA9, hc9⟩ := (own_reads' hL9).2.2 (by omega)
                          have hll : ls.length - 1 < ls.length := by omega
                          have hcl := hc9 (ls.length - 1) hll
                          have hlv : (natI ls).getD (ls.length - 1) 0 = ((ls.getD (ls.length - 1) 0 : Nat) : Int) := by
                            simp only [natI, List.getD_eq_getElem?_getD, List.getElem?_map]
                            cases ls[ls.length - 1]? <;> rfl
                          rw [hlv] at hcl
                          have hv16 : ls.getD (ls.length - 1) 0 < 16 := (HLEN.out.2 (by first | rfl | trivial)).2.2 _ (getD_mem hll)
                          obtain ⟨lv, hlv2⟩ : ∃ lv, lv = ls.getD (ls.length - 1) 0 := ⟨_, rfl⟩
                          rw [← hlv2] at hcl hv16
                          have HLV := Lib.hid hlv2
                          have HV16 := Lib.hid hv16
                          subst hA9
                          obtain ⟨jl, hjl⟩ : ∃ jl, jl = ls.length - 1 := ⟨_, rfl⟩
                          rw [← hjl] at hcl
                          have iwl : IntKind.i64.wrap ((ls.length : Int) - 1) = (jl : Int) := by rw [IntKind.wrap_i64]; have := HLEN.out.1; omega
                          have ijl : (jl : Int) < (ls.length : Int) := by omega
                          have HADB : Hid (∃ B, ad = ⟨B, 0, none⟩ ∧ Value.ownBlock (.slice (some ad) ls.length cv) = some B) := Lib.hid (by
                            obtain ⟨B, cap, hvB, _, _⟩ := World.ownsRow.form hL9 (by omega)
                            have e1 : ad = ⟨B, 0, none⟩ := by
                              simp only [Value.slice.injEq, Option.some.injEq] at hvB
                              exact hvB.1
                            exact ⟨B, e1, by rw [e1]; rfl⟩)
                          have HRW9 := Lib.hid (HW.out.sk HR.out HS9.out)
                          have HR9d : Hid (Rd w0 A c p most g q9 out 0 w9.drew) := Lib.hid (HR9.out.keep rfl fun _ _ => rfl)
                          have HRW9d : Hid (Rw w0 A c p g w9.drew) := Lib.hid (HRW9.out.sk HR9.out (SK.refl 4 g w9).drew)
                          have HCEL : Hid (w9.drew.cell? (ad.add jl) = some (.int .i64 (lv : Int))) := Lib.hid hcl
                          have HL9d : Hid (w9.drew.ownsRow (w6.heap.size + 1) 3 1 (.slice (some ad) ls.length cv) ls.length (nums .i64 (natI ls))) := Lib.hid (own_move HL9.out fun _ _ => rfl)
                          clear hL9 hc9 hll hlv hlv2 hjl hv16
                          go_wp2_with fail
                          go_region_held3 (fun W' => W'.cell? (ad.add jl) = some (.int .i64 (lv : Int))) (first | exact HCEL.out | assumption | go_keep) (first | (go_at_call 41; refine (take_calls w0 A c p most g q9 out 0 w9.drew 2 HR9d.out HRW9d.out (by omega)).mono ?_; rintro ee w10 ⟨t, q10, e10, rfl, hs10, hr10, hc10⟩; have hcel2 : w10.cell? (ad.add jl) = some (.int .i64 (lv : Int)) := (by have h := HCEL.out; obtain ⟨B, hB1, hB2⟩ := HADB.out; rw [hB1] at h ⊢; obtain ⟨cur, hcu⟩ := own_typed HL9d.out B hB2; have hk := hs10.out.block HR9d.out hcu (by decide) (by decide); rw [← h]; unfold World.cell?; rw [add_plain]; simp only [hk, hcu])))
                          have HS10 : Hid (SK 4 g W w10) := Lib.hid (HS9.out.drew.trans hs10.out)
                          have HZ10 : Hid (Z3 W.heap.size w10) := Lib.hid ((show Z3 W.heap.size w9.drew from ⟨HZ9.out.a, HZ9.out.b, HZ9.out.c⟩).sk HR9d.out hs10.out)
                          have HT10 := Lib.hid (hs10.out.block HR9d.out (show w9.drew.heap[w6.heap.size]? = _ from HT9.out) (by decide) (by decide))
                          have HO10 := Lib.hid (hs10.out.own HR9d.out (own_move HO9.out fun _ _ => rfl))
                          have HL10 := Lib.hid (hs10.out.own HR9d.out HL9d.out)
                          have HR10 := Lib.hid hr10.out
                          have HC10 : Hid (TkC (8 * p.length) (numB p) q9 0 2 t q10 e10) := Lib.hid hc10
                          have ht10 : t < 4 := HC10.out.lt
                          obtain ⟨tm, htm⟩ : ∃ tm, tm = 3 + t := ⟨_, rfl⟩
                          have itm : (3 : Int) + (t : Int) = (tm : Int) := by omega
                          have iwm : IntKind.i64.wrap (3 + (t : Int)) = (tm : Int) := by rw [IntKind.wrap_i64]; omega
                          have HTM := Lib.hid htm
                          have htm1 : 1 ≤ tm ∧ tm ≤ 200 := by omega
                          clear hs10 hr10 hc10 htm k6
                          have k6 := rd_e HR10.out
                          rw [iwm]
                          clear iwm iwl ijl hcel2
                          rcases HC10.out.ok with ⟨h3, h4⟩ | ⟨h3, h4⟩
                          · subst h4
                            have HN : Hid ((if (x1 + 257 + (x2 + 1)) < ls.length + tm then badR 4 else bndR (lnsR fl (x1 + 257 + (x2 + 1)) k (ls ++ List.replicate tm lv)) (dynC x1)) (numB p) (8 * p.length) q10 = res) := Lib.hid (by
                              rw [← HE9.out, nxt_ok (v := lv) (t := tm) (q2 := q10) (by unfold nxtR; rw [if_pos rfl, if_neg hls]; simp only [bndR, h3]; rw [HTM.out, HLV.out]; rfl)])
                            clear h3
                            by_cases hover : (x1 + 257 + (x2 + 1)) < ls.length + tm
                            · have iover : (x1 : Int) + 257 + ((x2 : Int) + 1) < (ls.length : Int) + (tm : Int) := by omega
                              have HX4 : Hid (res = .error 4) := Lib.hid (by rw [← HN.out]; rw [if_pos hover]; rfl)
                              clear hover
                              go_wp2_with fail
                              refine (wrong_calls w0 A c p most g q10 out 0 4 w10 HR10.out (by omega)).mono ?_
                              rintro ee w11 ⟨rfl, hs11, hr11⟩
                              have HS11 : Hid (SK 4 g W w11) := Lib.hid (HS10.out.trans hs11)
                              have HZ11 : Hid (Z3 W.heap.size w11) := Lib.hid (HZ10.out.sk HR10.out hs11)
                              have HTZ := Lib.hid (hs11.block HR10.out HT10.out (by decide) (by decide))
                              have HO11 := Lib.hid (hs11.own HR10.out HO10.out)
                              have HL11 := Lib.hid (hs11.own HR10.out HL10.out)
                              have hr11' : Rd w0 A c p most g q10 out 4 w11 := hr11
                              have HR11 := Lib.hid hr11'
                              clear hs11 hr11 hr11' k6
                              have k6 := rd_e HR11.out
                              go_wp2_with fail
                              refine (repA_calls w11 tm (lv : Int) (by omega)).mono ?_
                              rintro ee w12 ⟨g12, c12, rfl, ho12, hb12⟩
                              have HB12 := Lib.hid hb12.out
                              have HO12 := Lib.hid (own_reads' ho12.out)
                              have HL12 : Hid (w12.ownsRow (w6.heap.size + 1) 3 1 (.slice (some ad) ls.length cv) (natI ls).length (nums .i64 (natI ls))) := Lib.hid (by rw [natI_length]; exact pw_own_below HL11.out hb12.out)
                              have HSZ12 : Hid (w6.heap.size + 1 ≤ w12.heap.size) := Lib.hid (Nat.le_trans (blk_lt HTZ.out) hb12.out.size)
                              clear ho12 hb12
                              go_wp2_with (at_builtin; go_must (refine print_append_row (w0 := w12) (w6.heap.size + 1) rfl (.tmp 148) (.tmp 152) 51 3 .i64 8 rfl Tryd.underlying51 infoIntB (by decide) (.slice (some ad) ls.length cv) (natI ls) (List.replicate tm (lv : Int)) (some ⟨g12, 0, none⟩) tm c12 rfl rfl HL12.out HO12.out (Below.refl _ _) HSZ12.out (by rw [natI_length]; have := HLEN.out.1; omega) ?_; intro v13 w13 hown13 hb13 hgr13 hat13; rw [show (List.replicate tm (lv : Int)) = List.replicate tm (((lv : Nat)) : Int) from rfl, natI_rep, natI_length] at hown13; have HOWN := Lib.hid hown13; obtain ⟨A13, c13, hv13⟩ := own_slice hown13; subst hv13; have HGR := Lib.hid hgr13; clear hown13 hb13 hgr13 hat13))
                              have HALL := Lib.hid (grow_all HR11.out HS11.out HGW.out HZ11.out HTZ.out HO11.out HV6.out HL11.out HWT.out HB12.out HGR.out)
                              go_roundw
                              case rel =>
                                exact ⟨k, q10, ls ++ List.replicate tm lv, 4, Lib.hid (by simpa only [List.length_append, List.length_replicate, List.nil_append, List.length_nil, Nat.zero_add] using HOWN.out), Lib.hid ⟨by simp; have := HLEN.out.1; have := HLW.out; omega, fun h => absurd h (by decide)⟩, Lib.hid HALL.out.2.1, Lib.hid HALL.out.1, Lib.hid HALL.out.2.2.1, Lib.hid HALL.out.2.2.2.1, Lib.hid HALL.out.2.2.2.2, Lib.hid (.inr ⟨by decide, HX4.out⟩)⟩
                              case measure =>
                                have := HLEN.out.1
                                have := HLW.out
                                simp [lenV]
                                omega
                            · have iover : ¬ (x1 : Int) + 257 + ((x2 : Int) + 1) < (ls.length : Int) + (tm : Int) := by omega
                              have HX5 : Hid (bndR (lnsR fl (x1 + 257 + (x2 + 1)) k (ls ++ List.replicate tm lv)) (dynC x1) (numB p) (8 * p.length) q10 = res) := Lib.hid (by rw [← HN.out]; rw [if_neg hover])
                              have HOV := Lib.hid hover
                              clear hover
                              go_wp2_with fail
                              refine (repA_calls w10 tm (lv : Int) (by omega)).mono ?_
                              rintro ee w12 ⟨g12, c12, rfl, ho12, hb12⟩
                              have HB12 := Lib.hid hb12.out
                              have HO12 := Lib.hid (own_reads' ho12.out)
                              have HL12 : Hid (w12.ownsRow (w6.heap.size + 1) 3 1 (.slice (some ad) ls.length cv) (natI ls).length (nums .i64 (natI ls))) := Lib.hid (by rw [natI_length]; exact pw_own_below HL10.out hb12.out)
                              have HSZ12 : Hid (w6.heap.size + 1 ≤ w12.heap.size) := Lib.hid (Nat.le_trans (blk_lt HT10.out) hb12.out.size)
                              clear ho12 hb12
                              go_wp2_with (at_builtin; go_must (refine print_append_row (w0 := w12) (w6.heap.size + 1) rfl (.tmp 148) (.tmp 152) 51 3 .i64 8 rfl Tryd.underlying51 infoIntB (by decide) (.slice (some ad) ls.length cv) (natI ls) (List.replicate tm (lv : Int)) (some ⟨g12, 0, none⟩) tm c12 rfl rfl HL12.out HO12.out (Below.refl _ _) HSZ12.out (by rw [natI_length]; have := HLEN.out.1; omega) ?_; intro v13 w13 hown13 hb13 hgr13 hat13; rw [show (List.replicate tm (lv : Int)) = List.replicate tm (((lv : Nat)) : Int) from rfl, natI_rep, natI_length] at hown13; have HOWN := Lib.hid hown13; obtain ⟨A13, c13, hv13⟩ := own_slice hown13; subst hv13; have HGR := Lib.hid hgr13; clear hown13 hb13 hgr13 hat13))
                              have HALL := Lib.hid (grow_all HR10.out HS10.out HGW.out HZ10.out HT10.out HO10.out HV6.out HL10.out HWT.out HB12.out HGR.out)
                              go_roundw
                              case rel =>
                                exact ⟨k, q10, ls ++ List.replicate tm lv, 0, Lib.hid (by simpa only [List.length_append, List.length_replicate, List.nil_append, List.length_nil, Nat.zero_add] using HOWN.out), Lib.hid ⟨by simp; have := HLEN.out.1; have := HLW.out; omega, fun _ => ⟨by simp; have := HOV.out; omega, by simp; have := HLEN.out.2 (by first | rfl | trivial); omega, fun y hy => by (rcases List.mem_append.1 hy with h | h; exact (HLEN.out.2 (by first | rfl | trivial)).2.2 y h; rw [List.eq_of_mem_replicate h]; exact HV16.out)⟩⟩, Lib.hid HALL.out.2.1, Lib.hid HALL.out.1, Lib.hid HALL.out.2.2.1, Lib.hid HALL.out.2.2.2.1, Lib.hid HALL.out.2.2.2.2, Lib.hid (.inl ⟨rfl, HX5.out⟩)⟩
                              case measure =>
                                have := HLEN.out.1
                                have := HLW.out
                                simp [lenV]
                                omega
                          · subst h4
                            have HX4 : Hid (res = .error 5) := Lib.hid (by
                              rw [← HE9.out]
                              exact nxt_err (by unfold nxtR; rw [if_pos rfl, if_neg hls]; simp only [bndR, h3]) _)
                            clear h3
                            go_wp2_with fail
                            refine (repA_calls w10 tm (lv : Int) (by omega)).mono ?_
                            rintro ee w12 ⟨g12, c12, rfl, ho12, hb12⟩
                            have HB12 := Lib.hid hb12.out
                            have HO12 := Lib.hid (own_reads' ho12.out)
                            have HL12 : Hid (w12.ownsRow (w6.heap.size + 1) 3 1 (.slice (some ad) ls.length cv) (natI ls).length (nums .i64 (natI ls))) := Lib.hid (by rw [natI_length]; exact pw_own_below HL10.out hb12.out)
                            have HSZ12 : Hid (w6.heap.size + 1 ≤ w12.heap.size) := Lib.hid (Nat.le_trans (blk_lt HT10.out) hb12.out.size)
                            clear ho12 hb12
                            go_wp2_with (at_builtin; go_must (refine print_append_row (w0 := w12) (w6.heap.size + 1) rfl (.tmp 148) (.tmp 152) 51 3 .i64 8 rfl Tryd.underlying51 infoIntB (by decide) (.slice (some ad) ls.length cv) (natI ls) (List.replicate tm (lv : Int)) (some ⟨g12, 0, none⟩) tm c12 rfl rfl HL12.out HO12.out (Below.refl _ _) HSZ12.out (by rw [natI_length]; have := HLEN.out.1; omega) ?_; intro v13 w13 hown13 hb13 hgr13 hat13; rw [show (List.replicate tm (lv : Int)) = List.replicate tm (((lv : Nat)) : Int) from rfl, natI_rep, natI_length] at hown13; have HOWN := Lib.hid hown13; obtain ⟨A13, c13, hv13⟩ := own_slice hown13; subst hv13; have HGR := Lib.hid hgr13; clear hown13 hb13 hgr13 hat13))
                            have HALL := Lib.hid (grow_all HR10.out HS10.out HGW.out HZ10.out HT10.out HO10.out HV6.out HL10.out HWT.out HB12.out HGR.out)
                            go_roundw
                            case rel =>
                              exact ⟨k, q10, ls ++ List.replicate tm lv, 5, Lib.hid (by simpa only [List.length_append, List.length_replicate, List.nil_append, List.length_nil, Nat.zero_add] using HOWN.out), Lib.hid ⟨by simp; have := HLEN.out.1; have := HLW.out; omega, fun h => absurd h (by decide)⟩, Lib.hid HALL.out.2.1, Lib.hid HALL.out.1, Lib.hid HALL.out.2.2.1, Lib.hid HALL.out.2.2.2.1, Lib.hid HALL.out.2.2.2.2, Lib.hid (.inr ⟨by decide, HX4.out⟩)⟩
                            case measure =>
                              have := HLEN.out.1
                              have := HLW.out
                              simp [lenV]
                              omega
                      · by_cases h17 : x = 17
                        · subst h17
                          go_wp2_with fail
                          refine (take_calls w0 A c p most g q9 out 0 w9 3 HR9.out (HW.out.sk HR.out HS9.out) (by omega)).mono ?_
                          rintro ee w10 ⟨t, q10, e10, rfl, hs10, hr10, hc10⟩
                          have HS10 : Hid (SK 4 g W w10) := Lib.hid (HS9.out.trans hs10.out)
                          have HZ10 : Hid (Z3 W.heap.size w10) := Lib.hid (HZ9.out.sk HR9.out hs10.out)
                          have HT10 := Lib.hid (hs10.out.block HR9.out HT9.out (by decide) (by decide))
                          have HO10 := Lib.hid (hs10.out.own HR9.out HO9.out)
                          have HL10 := Lib.hid (hs10.out.own HR9.out HL9.out)
                          have HR10 := Lib.hid hr10.out
                          have HC10 : Hid (TkC (8 * p.length) (numB p) q9 0 3 t q10 e10) := Lib.hid hc10
                          have ht10 : t < 8 := HC10.out.lt
                          obtain ⟨tm, htm⟩ : ∃ tm, tm = 3 + t := ⟨_, rfl⟩
                          have itm : (3 : Int) + (t : Int) = (tm : Int) := by omega
                          have HTM := Lib.hid htm
                          have htm1 : 1 ≤ tm ∧ tm ≤ 200 := by omega
                          clear hs10 hr10 hc10 htm k6
                          have k6 := rd_e HR10.out
                          rcases HC10.out.ok with ⟨h3, h4⟩ | ⟨h3, h4⟩
                          · subst h4
                            have HN : Hid ((if (x1 + 257 + (x2 + 1)) < ls.length + tm then badR 4 else bndR (lnsR fl (x1 + 257 + (x2 + 1)) k (ls ++ List.replicate tm 0)) (dynC x1)) (numB p) (8 * p.length) q10 = res) := Lib.hid (by
                              rw [← HE9.out, nxt_ok (v := 0) (t := tm) (q2 := q10) (by unfold nxtR; rw [if_neg (by omega), if_pos rfl]; simp only [bndR, h3]; rw [HTM.out]; rfl)])
                            clear h3
                            by_cases hover : (x1 + 257 + (x2 + 1)) < ls.length + tm
                            · have iover : (x1 : Int) + 257 + ((x2 : Int) + 1) < (ls.length : Int) + (tm : Int) := by omega
                              have HX4 : Hid (res = .error 4) := Lib.hid (by rw [← HN.out]; rw [if_pos hover]; rfl)
                              clear hover
                              go_wp2_with fail
                              refine (wrong_calls w0 A c p most g q10 out 0 4 w10 HR10.out (by omega)).mono ?_
                              rintro ee w11 ⟨rfl, hs11, hr11⟩
                              have HS11 : Hid (SK 4 g W w11) := Lib.hid (HS10.out.trans hs11)
                              have HZ11 : Hid (Z3 W.heap.size w11) := Lib.hid (HZ10.out.sk HR10.out hs11)
                              have HTZ := Lib.hid (hs11.block HR10.out HT10.out (by decide) (by decide))
                              have HO11 := Lib.hid (hs11.own HR10.out HO10.out)
                              have HL11 := Lib.hid (hs11.own HR10.out HL10.out)
                              have hr11' : Rd w0 A c p most g q10 out 4 w11 := hr11
                              have HR11 := Lib.hid hr11'
                              clear hs11 hr11 hr11' k6
                              have k6 := rd_e HR11.out
                              go_wp2_with fail
                              refine (repA_calls w11 tm (0 : Int) (by omega)).mono ?_
                              rintro ee w12 ⟨g12, c12, rfl, ho12, hb12⟩
                              have HB12 := Lib.hid hb12.out
                              have HO12 := Lib.hid (own_reads' ho12.out)
                              have HL12 : Hid (w12.ownsRow (w6.heap.size + 1) 3 1 (.slice Av ls.length cv) (natI ls).length (nums .i64 (natI ls))) := Lib.hid (by rw [natI_length]; exact pw_own_below HL11.out hb12.out)
                              have HSZ12 : Hid (w6.heap.size + 1 ≤ w12.heap.size) := Lib.hid (Nat.le_trans (blk_lt HTZ.out) hb12.out.size)
                              clear ho12 hb12
                              go_wp2_with (at_builtin; go_must (refine print_append_row (w0 := w12) (w6.heap.size + 1) rfl (.tmp 148) (.tmp 152) 51 3 .i64 8 rfl Tryd.underlying51 infoIntB (by decide) (.slice Av ls.length cv) (natI ls) (List.replicate tm (0 : Int)) (some ⟨g12, 0, none⟩) tm c12 rfl rfl HL12.out HO12.out (Below.refl _ _) HSZ12.out (by rw [natI_length]; have := HLEN.out.1; omega) ?_; intro v13 w13 hown13 hb13 hgr13 hat13; rw [show (List.replicate tm (0 : Int)) = List.replicate tm (((0 : Nat)) : Int) from rfl, natI_rep, natI_length] at hown13; have HOWN := Lib.hid hown13; obtain ⟨A13, c13, hv13⟩ := own_slice hown13; subst hv13; have HGR := Lib.hid hgr13; clear hown13 hb13 hgr13 hat13))
                              have HALL := Lib.hid (grow_all HR11.out HS11.out HGW.out HZ11.out HTZ.out HO11.out HV6.out HL11.out HWT.out HB12.out HGR.out)
                              go_roundw
                              case rel =>
                                exact ⟨k, q10, ls ++ List.replicate tm 0, 4, Lib.hid (by simpa only [List.length_append, List.length_replicate, List.nil_append, List.length_nil, Nat.zero_add] using HOWN.out), Lib.hid ⟨by simp; have := HLEN.out.1; have := HLW.out; omega, fun h => absurd h (by decide)⟩, Lib.hid HALL.out.2.1, Lib.hid HALL.out.1, Lib.hid HALL.out.2.2.1, Lib.hid HALL.out.2.2.2.1, Lib.hid HALL.out.2.2.2.2, Lib.hid (.inr ⟨by decide, HX4.out⟩)⟩
                              case measure =>
                                have := HLEN.out.1
                                have := HLW.out
                                simp [lenV]
                                omega
                            · have iover : ¬ (x1 : Int) + 257 + ((x2 : Int) + 1) < (ls.length : Int) + (tm : Int) := by omega
                              have HX5 : Hid (bndR (lnsR fl (x1 + 257 + (x2 + 1)) k (ls ++ List.replicate tm 0)) (dynC x1) (numB p) (8 * p.length) q10 = res) := Lib.hid (by rw [← HN.out]; rw [if_neg hover])
                              have HOV := Lib.hid hover
                              clear hover
                              go_wp2_with fail
                              refine (repA_calls w10 tm (0 : Int) (by omega)).mono ?_
                              rintro ee w12 ⟨g12, c12, rfl, ho12, hb12⟩
                              have HB12 := Lib.hid hb12.out
                              have HO12 := Lib.hid (own_reads' ho12.out)
                              have HL12 : Hid (w12.ownsRow (w6.heap.size + 1) 3 1 (.slice Av ls.length cv) (natI ls).length (nums .i64 (natI ls))) := Lib.hid (by rw [natI_length]; exact pw_own_below HL10.out hb12.out)
                              have HSZ12 : Hid (w6.heap.size + 1 ≤ w12.heap.size) := Lib.hid (Nat.le_trans (blk_lt HT10.out) hb12.out.size)
                              clear ho12 hb12
                              go_wp2_with (at_builtin; go_must (refine print_append_row (w0 := w12) (w6.heap.size + 1) rfl (.tmp 148) (.tmp 152) 51 3 .i64 8 rfl Tryd.underlying51 infoIntB (by decide) (.slice Av ls.length cv) (natI ls) (List.replicate tm (0 : Int)) (some ⟨g12, 0, none⟩) tm c12 rfl rfl HL12.out HO12.out (Below.refl _ _) HSZ12.out (by rw [natI_length]; have := HLEN.out.1; omega) ?_; intro v13 w13 hown13 hb13 hgr13 hat13; rw [show (List.replicate tm (0 : Int)) = List.replicate tm (((0 : Nat)) : Int) from rfl, natI_rep, natI_length] at hown13; have HOWN := Lib.hid hown13; obtain ⟨A13, c13, hv13⟩ := own_slice hown13; subst hv13; have HGR := Lib.hid hgr13; clear hown13 hb13 hgr13 hat13))
                              have HALL := Lib.hid (grow_all HR10.out HS10.out HGW.out HZ10.out HT10.out HO10.out HV6.out HL10.out HWT.out HB12.out HGR.out)
                              go_roundw
                              case rel =>
                                exact ⟨k, q10, ls ++ List.replicate tm 0, 0, Lib.hid (by simpa only [List.length_append, List.length_replicate, List.nil_append, List.length_nil, Nat.zero_add] using HOWN.out), Lib.hid ⟨by simp; have := HLEN.out.1; have := HLW.out; omega, fun _ => ⟨by simp; have := HOV.out; omega, by simp; have := HLEN.out.2 (by first | rfl | trivial); omega, fun y hy => by (rcases List.mem_append.1 hy with h | h; exact (HLEN.out.2 (by first | rfl | trivial)).2.2 y h; rw [List.eq_of_mem_replicate h]; omega)⟩⟩, Lib.hid HALL.out.2.1, Lib.hid HALL.out.1, Lib.hid HALL.out.2.2.1, Lib.hid HALL.out.2.2.2.1, Lib.hid HALL.out.2.2.2.2, Lib.hid (.inl ⟨rfl, HX5.out⟩)⟩
                              case measure =>
                                have := HLEN.out.1
                                have := HLW.out
                                simp [lenV]
                                omega
                          · subst h4
                            have HX4 : Hid (res = .error 5) := Lib.hid (by
                              rw [← HE9.out]
                              exact nxt_err (by unfold nxtR; rw [if_neg (by omega), if_pos rfl]; simp only [bndR, h3]) _)
                            clear h3
                            go_wp2_with fail
                            refine (repA_calls w10 tm (0 : Int) (by omega)).mono ?_
                            rintro ee w12 ⟨g12, c12, rfl, ho12, hb12⟩
                            have HB12 := Lib.hid hb12.out
                            have HO12 := Lib.hid (own_reads' ho12.out)
                            have HL12 : Hid (w12.ownsRow (w6.heap.size + 1) 3 1 (.slice Av ls.length cv) (natI ls).length (nums .i64 (natI ls))) := Lib.hid (by rw [natI_length]; exact pw_own_below HL10.out hb12.out)
                            have HSZ12 : Hid (w6.heap.size + 1 ≤ w12.heap.size) := Lib.hid (Nat.le_trans (blk_lt HT10.out) hb12.out.size)
                            clear ho12 hb12
                            go_wp2_with (at_builtin; go_must (refine print_append_row (w0 := w12) (w6.heap.size + 1) rfl (.tmp 148) (.tmp 152) 51 3 .i64 8 rfl Tryd.underlying51 infoIntB (by decide) (.slice Av ls.length cv) (natI ls) (List.replicate tm (0 : Int)) (some ⟨g12, 0, none⟩) tm c12 rfl rfl HL12.out HO12.out (Below.refl _ _) HSZ12.out (by rw [natI_length]; have := HLEN.out.1; omega) ?_; intro v13 w13 hown13 hb13 hgr13 hat13; rw [show (List.replicate tm (0 : Int)) = List.replicate tm (((0 : Nat)) : Int) from rfl, natI_rep, natI_length] at hown13; have HOWN := Lib.hid hown13; obtain ⟨A13, c13, hv13⟩ := own_slice hown13; subst hv13; have HGR := Lib.hid hgr13; clear hown13 hb13 hgr13 hat13))
                            have HALL := Lib.hid (grow_all HR10.out HS10.out HGW.out HZ10.out HT10.out HO10.out HV6.out HL10.out HWT.out HB12.out HGR.out)
                            go_roundw
                            case rel =>
                              exact ⟨k, q10, ls ++ List.replicate tm 0, 5, Lib.hid (by simpa only [List.length_append, List.length_replicate, List.nil_append, List.length_nil, Nat.zero_add] using HOWN.out), Lib.hid ⟨by simp; have := HLEN.out.1; have := HLW.out; omega, fun h => absurd h (by decide)⟩, Lib.hid HALL.out.2.1, Lib.hid HALL.out.1, Lib.hid HALL.out.2.2.1, Lib.hid HALL.out.2.2.2.1, Lib.hid HALL.out.2.2.2.2, Lib.hid (.inr ⟨by decide, HX4.out⟩)⟩
                            case measure =>
                              have := HLEN.out.1
                              have := HLW.out
                              simp [lenV]
                              omega
                        · by_cases h18 : x = 18
                          · subst h18
                            go_wp2_with fail
                            refine (take_calls w0 A c p most g q9 out 0 w9 7 HR9.out (HW.out.sk HR.out HS9.out) (by omega)).mono ?_
                            rintro ee w10 ⟨t, q10, e10, rfl, hs10, hr10, hc10⟩
                            have HS10 : Hid (SK 4 g W w10) := Lib.hid (HS9.out.trans hs10.out)
                            have HZ10 : Hid (Z3 W.heap.size w10) := Lib.hid (HZ9.out.sk HR9.out hs10.out)
                            have HT10 := Lib.hid (hs10.out.block HR9.out HT9.out (by decide) (by decide))
                            have HO10 := Lib.hid (hs10.out.own HR9.out HO9.out)
                            have HL10 := Lib.hid (hs10.out.own HR9.out HL9.out)
                            have HR10 := Lib.hid hr10.out
                            have HC10 : Hid (TkC (8 * p.length) (numB p) q9 0 7 t q10 e10) := Lib.hid hc10
                            have ht10 : t < 128 := HC10.out.lt
                            obtain ⟨tm, htm⟩ : ∃ tm, tm = 11 + t := ⟨_, rfl⟩
                            have itm : (11 : Int) + (t : Int) = (tm : Int) := by omega
                            have HTM := Lib.hid htm
                            have htm1 : 1 ≤ tm ∧ tm ≤ 200 := by omega
                            clear hs10 hr10 hc10 htm k6
                            have k6 := rd_e HR10.out
                            rcases HC10.out.ok with ⟨h3, h4⟩ | ⟨h3, h4⟩
                            · subst h4
                              have HN : Hid ((if (x1 + 257 + (x2 + 1)) < ls.length + tm then badR 4 else bndR (lnsR fl (x1 + 257 + (x2 + 1)) k (ls ++ List.replicate tm 0)) (dynC x1)) (numB p) (8 * p.length) q10 = res) := Lib.hid (by
                                rw [← HE9.out, nxt_ok (v := 0) (t := tm) (q2 := q10) (by unfold nxtR; rw [if_neg (by omega), if_neg (by omega), if_pos rfl]; simp only [bndR, h3]; rw [HTM.out]; rfl)])
                              clear h3
                              by_cases hover : (x1 + 257 + (x2 + 1)) < ls.length + tm
                              · have iover : (x1 : Int) + 257 + ((x2 : Int) + 1) < (ls.length : Int) + (tm : Int) := by omega
                                have HX4 : Hid (res = .error 4) := Lib.hid (by rw [← HN.out]; rw [if_pos hover]; rfl)
                                clear hover
                                go_wp2_with fail
                                refine (wrong_calls w0 A c p most g q10 out 0 4 w10 HR10.out (by omega)).mono ?_
                                rintro ee w11 ⟨rfl, hs11, hr11⟩
                                have HS11 : Hid (SK 4 g W w11) := Lib.hid (HS10.out.trans hs11)
                                have HZ11 : Hid (Z3 W.heap.size w11) := Lib.hid (HZ10.out.sk HR10.out hs11)
                                have HTZ := Lib.hid (hs11.block HR10.out HT10.out (by decide) (by decide))
                                have HO11 := Lib.hid (hs11.own HR10.out HO10.out)
                                have HL11 := Lib.hid (hs11.own HR10.out HL10.out)
                                have hr11' : Rd w0 A c p most g q10 out 4 w11 := hr11
                                have HR11 := Lib.hid hr11'
                                clear hs11 hr11 hr11' k6
                                have k6 := rd_e HR11.out
                                go_wp2_with fail
                                refine (repA_calls w11 tm (0 : Int) (by omega)).mono ?_
                                rintro ee w12 ⟨g12, c12, rfl, ho12, hb12⟩
                                have HB12 := Lib.hid hb12.out
                                have HO12 := Lib.hid (own_reads' ho12.out)
                                have HL12 : Hid (w12.ownsRow (w6.heap.size + 1) 3 1 (.slice Av ls.length cv) (natI ls).length (nums .i64 (natI ls))) := Lib.hid (by rw [natI_length]; exact pw_own_below HL11.out hb12.out)
                                have HSZ12 : Hid (w6.heap.size + 1 ≤ w12.heap.size) := Lib.hid (Nat.le_trans (blk_lt HTZ.out) hb12.out.size)
                                clear ho12 hb12
                                go_wp2_with (at_builtin; go_must (refine print_append_row (w0 := w12) (w6.heap.size + 1) rfl (.tmp 148) (.tmp 152) 51 3 .i64 8 rfl Tryd.underlying51 infoIntB (by decide) (.slice Av ls.length cv) (natI ls) (List.replicate tm (0 : Int)) (some ⟨g12, 0, none⟩) tm c12 rfl rfl HL12.out HO12.out (Below.refl _ _) HSZ12.out (by rw [natI_length]; have := HLEN.out.1; omega) ?_; intro v13 w13 hown13 hb13 hgr13 hat13; rw [show (List.replicate tm (0 : Int)) = List.replicate tm (((0 : Nat)) : Int) from rfl, natI_rep, natI_length] at hown13; have HOWN := Lib.hid hown13; obtain ⟨A13, c13, hv13⟩ := own_slice hown13; subst hv13; have HGR := Lib.hid hgr13; clear hown13 hb13 hgr13 hat13))
                                have HALL := Lib.hid (grow_all HR11.out HS11.out HGW.out HZ11.out HTZ.out HO11.out HV6.out HL11.out HWT.out HB12.out HGR.out)
                                go_roundw
                                case rel =>
                                  exact ⟨k, q10, ls ++ List.replicate tm 0, 4, Lib.hid (by simpa only [List.length_append, List.length_replicate, List.nil_append, List.length_nil, Nat.zero_add] using HOWN.out), Lib.hid ⟨by simp; have := HLEN.out.1; have := HLW.out; omega, fun h => absurd h (by decide)⟩, Lib.hid HALL.out.2.1, Lib.hid HALL.out.1, Lib.hid HALL.out.2.2.1, Lib.hid HALL.out.2.2.2.1, Lib.hid HALL.out.2.2.2.2, Lib.hid (.inr ⟨by decide, HX4.out⟩)⟩
                                case measure =>
                                  have := HLEN.out.1
                                  have := HLW.out
                                  simp [lenV]
                                  omega
                              · have iover : ¬ (x1 : Int) + 257 + ((x2 : Int) + 1) < (ls.length : Int) + (tm : Int) := by omega
                                have HX5 : Hid (bndR (lnsR fl (x1 + 257 + (x2 + 1)) k (ls ++ List.replicate tm 0)) (dynC x1) (numB p) (8 * p.length) q10 = res) := Lib.hid (by rw [← HN.out]; rw [if_neg hover])
                                have HOV := Lib.hid hover
                                clear hover
                                go_wp2_with fail
                                refine (repA_calls w10 tm (0 : Int) (by omega)).mono ?_
                                rintro ee w12 ⟨g12, c12, rfl, ho12, hb12⟩
                                have HB12 := Lib.hid hb12.out
                                have HO12 := Lib.hid (own_reads' ho12.out)
                                have HL12 : Hid (w12.ownsRow (w6.heap.size + 1) 3 1 (.slice Av ls.length cv) (natI ls).length (nums .i64 (natI ls))) := Lib.hid (by rw [natI_length]; exact pw_own_below HL10.out hb12.out)
                                have HSZ12 : Hid (w6.heap.size + 1 ≤ w12.heap.size) := Lib.hid (Nat.le_trans (blk_lt HT10.out) hb12.out.size)
                                clear ho12 hb12
                                go_wp2_with (at_builtin; go_must (refine print_append_row (w0 := w12) (w6.heap.size + 1) rfl (.tmp 148) (.tmp 152) 51 3 .i64 8 rfl Tryd.underlying51 infoIntB (by decide) (.slice Av ls.length cv) (natI ls) (List.replicate tm (0 : Int)) (some ⟨g12, 0, none⟩) tm c12 rfl rfl HL12.out HO12.out (Below.refl _ _) HSZ12.out (by rw [natI_length]; have := HLEN.out.1; omega) ?_; intro v13 w13 hown13 hb13 hgr13 hat13; rw [show (List.replicate tm (0 : Int)) = List.replicate tm (((0 : Nat)) : Int) from rfl, natI_rep, natI_length] at hown13; have HOWN := Lib.hid hown13; obtain ⟨A13, c13, hv13⟩ := own_slice hown13; subst hv13; have HGR := Lib.hid hgr13; clear hown13 hb13 hgr13 hat13))
                                have HALL := Lib.hid (grow_all HR10.out HS10.out HGW.out HZ10.out HT10.out HO10.out HV6.out HL10.out HWT.out HB12.out HGR.out)
                                go_roundw
                                case rel =>
                                  exact ⟨k, q10, ls ++ List.replicate tm 0, 0, Lib.hid (by simpa only [List.length_append, List.length_replicate, List.nil_append, List.length_nil, Nat.zero_add] using HOWN.out), Lib.hid ⟨by simp; have := HLEN.out.1; have := HLW.out; omega, fun _ => ⟨by simp; have := HOV.out; omega, by simp; have := HLEN.out.2 (by first | rfl | trivial); omega, fun y hy => by (rcases List.mem_append.1 hy with h | h; exact (HLEN.out.2 (by first | rfl | trivial)).2.2 y h; rw [List.eq_of_mem_replicate h]; omega)⟩⟩, Lib.hid HALL.out.2.1, Lib.hid HALL.out.1, Lib.hid HALL.out.2.2.1, Lib.hid HALL.out.2.2.2.1, Lib.hid HALL.out.2.2.2.2, Lib.hid (.inl ⟨rfl, HX5.out⟩)⟩
                                case measure =>
                                  have := HLEN.out.1
                                  have := HLW.out
                                  simp [lenV]
                                  omega
                            · subst h4
                              have HX4 : Hid (res = .error 5) := Lib.hid (by
                                rw [← HE9.out]
                                exact nxt_err (by unfold nxtR; rw [if_neg (by omega), if_neg (by omega), if_pos rfl]; simp only [bndR, h3]) _)
                              clear h3
                              go_wp2_with fail
                              refine (repA_calls w10 tm (0 : Int) (by omega)).mono ?_
                              rintro ee w12 ⟨g12, c12, rfl, ho12, hb12⟩
                              have HB12 := Lib.hid hb12.out
                              have HO12 := Lib.hid (own_reads' ho12.out)
                              have HL12 : Hid (w12.ownsRow (w6.heap.size + 1) 3 1 (.slice Av ls.length cv) (natI ls).length (nums .i64 (natI ls))) := Lib.hid (by rw [natI_length]; exact pw_own_below HL10.out hb12.out)
                              have HSZ12 : Hid (w6.heap.size + 1 ≤ w12.heap.size) := Lib.hid (Nat.le_trans (blk_lt HT10.out) hb12.out.size)
                              clear ho12 hb12
                              go_wp2_with (at_builtin; go_must (refine print_append_row (w0 := w12) (w6.heap.size + 1) rfl (.tmp 148) (.tmp 152) 51 3 .i64 8 rfl Tryd.underlying51 infoIntB (by decide) (.slice Av ls.length cv) (natI ls) (List.replicate tm (0 : Int)) (some ⟨g12, 0, none⟩) tm c12 rfl rfl HL12.out HO12.out (Below.refl _ _) HSZ12.out (by rw [natI_length]; have := HLEN.out.1; omega) ?_; intro v13 w13 hown13 hb13 hgr13 hat13; rw [show (List.replicate tm (0 : Int)) = List.replicate tm (((0 : Nat)) : Int) from rfl, natI_rep, natI_length] at hown13; have HOWN := Lib.hid hown13; obtain ⟨A13, c13, hv13⟩ := own_slice hown13; subst hv13; have HGR := Lib.hid hgr13; clear hown13 hb13 hgr13 hat13))
                              have HALL := Lib.hid (grow_all HR10.out HS10.out HGW.out HZ10.out HT10.out HO10.out HV6.out HL10.out HWT.out HB12.out HGR.out)
                              go_roundw
                              case rel =>
                                exact ⟨k, q10, ls ++ List.replicate tm 0, 5, Lib.hid (by simpa only [List.length_append, List.length_replicate, List.nil_append, List.length_nil, Nat.zero_add] using HOWN.out), Lib.hid ⟨by simp; have := HLEN.out.1; have := HLW.out; omega, fun h => absurd h (by decide)⟩, Lib.hid HALL.out.2.1, Lib.hid HALL.out.1, Lib.hid HALL.out.2.2.1, Lib.hid HALL.out.2.2.2.1, Lib.hid HALL.out.2.2.2.2, Lib.hid (.inr ⟨by decide, HX4.out⟩)⟩
                              case measure =>
                                have := HLEN.out.1
                                have := HLW.out
                                simp [lenV]
                                omega
                          · have i16 : ¬ (x : Int) = 16 := by omega
                            have i17 : ¬ (x : Int) = 17 := by omega
                            have i18 : ¬ (x : Int) = 18 := by omega
                            have HN : Hid ((if (x1 + 257 + (x2 + 1)) < ls.length + 1 then badR 4 else bndR (lnsR fl (x1 + 257 + (x2 + 1)) k (ls ++ List.replicate 1 x)) (dynC x1)) (numB p) (8 * p.length) q9 = res) := Lib.hid (by
                              rw [← HE9.out, nxt_ok (v := x) (t := 1) (q2 := q9) (by unfold nxtR; rw [if_neg h16, if_neg h17, if_neg h18]; rfl)])
                            by_cases hover : (x1 + 257 + (x2 + 1)) < ls.length + 1
                            · exact absurd hover (by omega)
                            · have iover : ¬ (x1 : Int) + 257 + ((x2 : Int) + 1) < (ls.length : Int) + 1:= by omega
                              have HX5 : Hid (bndR (lnsR fl (x1 + 257 + (x2 + 1)) k (ls ++ List.replicate 1  x)) (dynC x1) (numB p) (8 * p.length) q9 = res) := Lib.hid (by rw [← HN.out]; rw [if_neg hover])
                              have HOV := Lib.hid hover
                              clear hover
                              go_wp2_with fail
                              refine (repA_calls w9 1  (x : Int) (by omega)).mono ?_
                              rintro ee w12 ⟨g12, c12, rfl, ho12, hb12⟩
                              have HB12 := Lib.hid hb12.out
                              have HO12 := Lib.hid (own_reads' ho12.out)
                              have HL12 : Hid (w12.ownsRow (w6.heap.size + 1) 3 1 (.slice Av ls.length cv) (natI ls).length (nums .i64 (natI ls))) := Lib.hid (by rw [natI_length]; exact pw_own_below HL9.out hb12.out)
                              have HSZ12 : Hid (w6.heap.size + 1≤ w12.heap.size) := Lib.hid (Nat.le_trans (blk_lt HT9.out) hb12.out.size)
                              clear ho12 hb12
                              go_wp2_with (at_builtin; go_must (refine print_append_row (w0 := w12) (w6.heap.size + 1) rfl (.tmp 148) (.tmp 152) 51 3 .i64 8 rfl Tryd.underlying51 infoIntB (by decide) (.slice Av ls.length cv) (natI ls) (List.replicate 1  (x : Int)) (some ⟨g12, 0, none⟩) 1  c12 rfl rfl HL12.out HO12.out (Below.refl _ _) HSZ12.out (by rw [natI_length]; have := HLEN.out.1; omega) ?_; intro v13 w13 hown13 hb13 hgr13 hat13; rw [show (List.replicate 1  (x : Int)) = List.replicate 1  (((x : Nat)) : Int) from rfl, natI_rep, natI_length] at hown13; have HOWN := Lib.hid hown13; obtain ⟨A13, c13, hv13⟩ := own_slice hown13; subst hv13; have HGR := Lib.hid hgr13; clear hown13 hb13 hgr13 hat13))
                              have HALL := Lib.hid (grow_all HR9.out HS9.out HGW.out HZ9.out HT9.out HO9.out HV6.out HL9.out HWT.out HB12.out HGR.out)
                              go_roundw
                              case rel =>
                                exact ⟨k, q9, ls ++ List.replicate 1  x, 0, Lib.hid (by simpa only [List.length_append, List.length_replicate, List.nil_append, List.length_nil, Nat.zero_add] using HOWN.out), Lib.hid ⟨by simp; have := HLEN.out.1; have := HLW.out; omega, fun _ => ⟨by simp; have := HOV.out; omega, by simp; have := HLEN.out.2 (by first | rfl | trivial); omega, fun y hy => by (rcases List.mem_append.1 hy with h | h; exact (HLEN.out.2 (by first | rfl | trivial)).2.2 y h; rw [List.eq_of_mem_replicate h]; omega)⟩⟩, Lib.hid HALL.out.2.1, Lib.hid HALL.out.1, Lib.hid HALL.out.2.2.1, Lib.hid HALL.out.2.2.2.1, Lib.hid HALL.out.2.2.2.2, Lib.hid (.inl ⟨rfl, HX5.out⟩)⟩
                              case measure =>
                                have := HLEN.out.1
                                have := HLW.out
                                simp [lenV]
                                omega
                    · have HX4 : Hid (res = .error e9) := Lib.hid (by rw [← HE9a.out, lns_err hlen hsy])
                      have h9' : (e9 == 0) = false := by simp [h9]
                      have H9 := Lib.hid h9
                      clear hsy
                      go_wp2_with fail
                      refine (repA_calls w9 1 (x : Int) (by omega)).mono ?_
                      rintro ee w12 ⟨g12, c12, rfl, ho12, hb12⟩
                      have HB12 := Lib.hid hb12.out
                      have HO12 := Lib.hid (own_reads' ho12.out)
                      have HL12 : Hid (w12.ownsRow (w6.heap.size + 1) 3 1 (.slice Av ls.length cv) (natI ls).length (nums .i64 (natI ls))) := Lib.hid (by rw [natI_length]; exact pw_own_below HL9.out hb12.out)
                      have HSZ12 : Hid (w6.heap.size + 1 ≤ w12.heap.size) := Lib.hid (Nat.le_trans (blk_lt HT9.out) hb12.out.size)
                      clear ho12 hb12
                      go_wp2_with (at_builtin; go_must (refine print_append_row (w0 := w12) (w6.heap.size + 1) rfl (.tmp 148) (.tmp 152) 51 3 .i64 8 rfl Tryd.underlying51 infoIntB (by decide) (.slice Av ls.length cv) (natI ls) (List.replicate 1 (x : Int)) (some ⟨g12, 0, none⟩) 1 c12 rfl rfl HL12.out HO12.out (Below.refl _ _) HSZ12.out (by rw [natI_length]; have := HLEN.out.1; omega) ?_; intro v13 w13 hown13 hb13 hgr13 hat13; rw [show (List.replicate 1 (x : Int)) = List.replicate 1 (((x : Nat)) : Int) from rfl, natI_rep, natI_length] at hown13; have HOWN := Lib.hid hown13; obtain ⟨A13, c13, hv13⟩ := own_slice hown13; subst hv13; have HGR := Lib.hid hgr13; clear hown13 hb13 hgr13 hat13))
                      have HALL := Lib.hid (grow_all HR9.out HS9.out HGW.out HZ9.out HT9.out HO9.out HV6.out HL9.out HWT.out HB12.out HGR.out)
                      go_roundw
                      case rel =>
                        exact ⟨k, q9, ls ++ List.replicate 1 x, e9, Lib.hid (by simpa only [List.length_append, List.length_replicate, List.nil_append, List.length_nil, Nat.zero_add] using HOWN.out), Lib.hid ⟨by simp; have := HLEN.out.1; have := HLW.out; omega, fun h => absurd h H9.out⟩, Lib.hid HALL.out.2.1, Lib.hid HALL.out.1, Lib.hid HALL.out.2.2.1, Lib.hid HALL.out.2.2.2.1, Lib.hid HALL.out.2.2.2.2, Lib.hid (.inr ⟨H9.out, HX4.out⟩)⟩
                      case measure =>
                        have := HLEN.out.1
                        have := HLW.out
                        simp [lenV]
                        omega
                  · have he2' : (e2 == 0) = false := by simp [he2]
                    have HEE2 : Hid (e2 ≠ 0 ∧ res = .error e2) := Lib.hid (by
                      rcases HEB.out with ⟨h, _⟩ | h
                      · exact absurd h he2
                      · exact h)
                    go_wp2_with fail
                    obtain ⟨HDA, HDB, HDC, HDD, HDE⟩ := dyn_zero (A := A) (c := c) (p := p) (most := most) (g := g) (out := out) (res := res) HSB.out HGW.out HRB.out HZB.out HEE2.out.1 HEE2.out.2
                    refine reg147 (g0 := W.heap.size) (g1 := W.heap.size + 1) (g3 := W.heap.size + 1 + 1) (c1 := zT.toArray) (oz := zT.toArray) (by show (190 : Nat) < 191; decide) rfl rfl rfl zT_size zT_size (all_one zT_one) HDA.out HDB.out HDC.out HDD.out (fun a' hd h2 h3 => ?_)
                    go_wp2_with fail
                    refine bodyPost_ret (results_cells rfl _ _ W.heap.size (W.heap.size + 1) 59 59 _ _ (0, 0) (0, 0) _ h2 h3 HDE.out.1 HDE.out.2.1 Tryd.underlying59 rfl (by rw [zT_size]; exact infoTab) (by rw [zT_size]; exact infoTab)) (hd.trans rfl) ?_
                    exact HDE.out.2.2
                · have ilen : ¬ (ls.length : Int) < (x1 : Int) + 257 + ((x2 : Int) + 1) := by omega
                  by_cases he2 : e2 = 0
                  · subst he2
                    have hle : ls.length = (x1 + 257 + (x2 + 1)) := by have := (HLEN.out.2 (by first | rfl | trivial)).1; omega
                    have HL16 := Lib.hid ((HLEN.out.2 (by first | rfl | trivial)).2.2)
                    have HLE := Lib.hid hle
                    have HEQ : Hid (dynC x1 ls (numB p) (8 * p.length) q2 = res) := Lib.hid (by
                      rcases HEB.out with ⟨_, h⟩ | ⟨h, _⟩
                      · rw [← h]
                        cases k with
                        | zero => rfl
                        | succ k => simp only [lnsR]; rw [if_pos (by omega)]; rfl
                      · exact absurd rfl h)
                    clear HEB
                    have hcap := (own_capI HLB.out).1
                    obtain ⟨B, capB, hvB, _, _⟩ := World.ownsRow.form HLB.out (by omega)
                    obtain ⟨hAv, hcv⟩ : Av = some ⟨B, 0, none⟩ ∧ cv = capB := by
                      simp only [Value.slice.injEq] at hvB
                      exact ⟨hvB.1, hvB.2.2⟩
                    clear hvB hcv
                    subst hAv
                    have icap : (x1 : Int) + 257 ≤ (cv : Int) := by omega
                    have ipos : (0 : Int) ≤ (x1 : Int) + 257 := by omega
                    obtain ⟨i0, hi0, hz0, hz1, hz2⟩ := info_parts infoIntB
                    obtain ⟨Ad, hcut, hrdc⟩ := cut_end (P := Tryd.prog) 51 3 Tryd.underlying51 hi0 hz1 (some ⟨B, 0, none⟩) ls.length cv (x1 + 257) (by omega) hcap
                    have hcut' := hcut ((x1 : Int) + 257) (by omega)
                    have HRDT := Lib.hid ((own_reads' HLB.out).take_ (x1 + 257) (by omega))
                    have HRDD := Lib.hid (hrdc wr .i64 (natI ls) (own_reads' HLB.out))
                    have HC256 : Hid (wr.cell? ⟨B, 256, none⟩ = some (.int .i64 ((ls.getD 256 0 : Nat) : Int))) := Lib.hid (by have h := nat_cell (w := wr) (own_reads' HLB.out) (Below.refl _ _) (show 256 < ls.length by omega); rw [add_plain] at h; exact h)
                    clear hcut hrdc hi0 hz0 hz1 hz2 hle hcap
                    go_wp2_with fail
                    refine (build_nat wr (some ⟨B, 0, none⟩) cv (ls.take (x1 + 257)) (x1 + 257) false (by rw [List.length_take]; have := HLE.out; omega) (by have h := HRDT.out; rw [natI_take] at h; exact h) (by rw [List.length_take]; omega) (fun y hy => HL16.out y (List.mem_of_mem_take hy))).mono ?_
                    rintro ee w14 ⟨v14, rfl, ho14, hb14, hv14⟩
                    obtain ⟨A14, n14, c14, hv14'⟩ := hv14.out
                    have HB14 := Lib.hid hb14.out
                    have HO14 := Lib.hid ho14.out
                    have HONEa : Hid ((tabC (ls.take (x1 + 257)) v14).toArray.all (·.oneCell') = true) := Lib.hid (by rw [hv14']; exact tabC_one _ _ _ _)
                    have HSZa : Hid ((tabC (ls.take (x1 + 257)) v14).toArray.size = 17) := Lib.hid (tabC_size _ _)
                    clear ho14 hb14 hv14 hv14'
                    generalize hoba : okT (ls.take (x1 + 257)) false = oba at *
                    have HOBa := Lib.hid hoba
                    generalize hcta : (tabC (ls.take (x1 + 257)) v14).toArray = cta at *
                    have HCTa := Lib.hid hcta
                    clear hoba hcta
                    go_wp2_with (first
                      | (refine wpList_store_new rfl 59 (.tmp 16) (.tmp 166) rfl _ cta rfl rfl (by rw [HSZa.out]; exact infoTab) (by rw [HSZa.out]; rfl) HONEa.out ?_))
                    have HB15 : Hid (Below wr.heap.size wr (w14.alloc (.cells cta 59))) := Lib.hid (below_then HB14.out HB14.out.size (below_alloc (Below.refl _ _) _))
                    refine (build_nat _ Ad _ (ls.drop (x1 + 257)) (ls.length - (x1 + 257)) true (by rw [List.length_drop]) (by have h := HRDD.out.below HB15.out; rw [natI_drop] at h; exact h) (by rw [List.length_drop]; omega) (fun y hy => HL16.out y (List.mem_of_mem_drop hy))).mono ?_
                    rintro ee w16 ⟨v16, rfl, ho16, hb16, hv16⟩
                    obtain ⟨A16, n16, c16, hv16'⟩ := hv16.out
                    have HB16 : Hid (Below (w14.alloc (.cells cta 59)).heap.size (w14.alloc (.cells cta 59)) w16) := Lib.hid hb16.out
                    have HO16 := Lib.hid ho16.out
                    have HONEb : Hid ((tabC (ls.drop (x1 + 257)) v16).toArray.all (·.oneCell') = true) := Lib.hid (by rw [hv16']; exact tabC_one _ _ _ _)
                    have HSZb : Hid ((tabC (ls.drop (x1 + 257)) v16).toArray.size = 17) := Lib.hid (tabC_size _ _)
                    clear ho16 hb16 hv16 hv16' hcut'
                    generalize hobb : okT (ls.drop (x1 + 257)) true = obb at *
                    have HOBb := Lib.hid hobb
                    generalize hctb : (tabC (ls.drop (x1 + 257)) v16).toArray = ctb at *
                    have HCTb := Lib.hid hctb
                    clear hobb hctb
                    have HB17 : Hid (Below wr.heap.size wr (w16.alloc (.cells ctb 59))) := Lib.hid (by
                      have h1 := below_then HB15.out HB15.out.size HB16.out
                      exact below_then h1 h1.size (below_alloc (Below.refl _ _) _))
                    have HR17 := Lib.hid (HRB.out.below HB17.out)
                    have HS17 : Hid (SK 4 g W (w16.alloc (.cells ctb 59))) := Lib.hid (HSB.out.trans (SK.ofBelow HB17.out HRB.out.lt))
                    have HZ17 := Lib.hid (HZB.out.below HB17.out)
                    have HBa : Hid (Below (w14.alloc (.cells cta 59)).heap.size (w14.alloc (.cells cta 59)) (w16.alloc (.cells ctb 59))) := Lib.hid (below_then HB16.out HB16.out.size (below_alloc (Below.refl _ _) _))
                    have HT16 : Hid ((w16.alloc (.cells ctb 59)).heap[w14.heap.size]? = some (.cells cta 59 (0, 0))) := Lib.hid ((HBa.out.block _ (by simp)).trans (heap_alloc_new _ _))
                    have HT18 : Hid ((w16.alloc (.cells ctb 59)).heap[w16.heap.size]? = some (.cells ctb 59 (0, 0))) := Lib.hid (heap_alloc_new _ _)
                    have HN16 : Hid (W.heap.size < w14.heap.size ∧ W.heap.size < w16.heap.size) := Lib.hid (by
                      have h1 := blk_lt HZB.out.a
                      have h2 := HB14.out.size
                      have h3 := HB16.out.size
                      simp at h3
                      omega)
                    have k17 := rd_e HR17.out
                    have hc256 := pw_cell_below HB17.out HC256.out
                    generalize hl256 : ls.getD 256 0 = l256 at hc256
                    have HL256 := Lib.hid hl256
                    clear hl256 k6
                    have i256 : (256 : Int) < (ls.length : Int) := by have := HLE.out; omega
                    cases oba with
                    | false =>
                      have HX4 : Hid (res = .error 4) := Lib.hid (by rw [← HEQ.out]; unfold dynC; rw [if_neg (by rw [HOBa.out]; rintro ⟨h, _⟩; cases h)]; rfl)
                      go_wp2_with (first
                        | (refine wpList_store_new rfl 59 (.tmp 18) (.tmp 173) rfl _ ctb rfl rfl (by rw [HSZb.out]; exact infoTab) (by rw [HSZb.out]; rfl) HONEb.out ?_; generalize w16.alloc (.cells ctb 59) = W17 at *))
                      refine (wrong_calls w0 A c p most g q2 out 0 4 _ HR17.out (by omega)).mono ?_
                      rintro ee w18 ⟨rfl, hs18, hr18⟩
                      have HS18 : Hid (SK 4 g W w18) := Lib.hid (HS17.out.trans hs18)
                      have HZ18 : Hid (Z3 W.heap.size w18) := Lib.hid (HZ17.out.sk HR17.out hs18)
                      have HT16 := Lib.hid (hs18.block HR17.out HT16.out (by decide) (by decide))
                      have HT18 := Lib.hid (hs18.block HR17.out HT18.out (by decide) (by decide))
                      have hr18' : Rd w0 A c p most g q2 out 4 w18 := hr18
                      have HR18 := Lib.hid hr18'
                      clear hs18 hr18 hr18' k17
                      have k17 := rd_e HR18.out
                      go_wp2_with fail
                      obtain ⟨HDA, HDB, HDC, HDD, HDE, HDF⟩ := dyn_fin (A := A) (c := c) (p := p) (most := most) (g := g) (out := out) (res := res) (W8 := w18) (q := q2) (e := 4) HS18.out HGW.out HR18.out HZ18.out HT16.out HT18.out HN16.out HCTa.out HCTb.out HONEa.out HONEb.out (.inr ⟨by decide, HX4.out⟩)
                      refine reg154 (g0 := W.heap.size) (g1 := W.heap.size + 1) (g3 := w14.heap.size) (g5 := w16.heap.size) (oz := zT.toArray) (by show (190 : Nat) < 191; decide) rfl rfl rfl rfl HSZa.out HSZb.out zT_size HONEa.out HONEb.out HDA.out HDB.out HDC.out HDD.out HDE.out (fun a' hd h2 h3 => ?_)
                      go_wp2_with fail
                      refine bodyPost_ret (results_cells rfl _ _ W.heap.size (W.heap.size + 1) 59 59 _ _ (0, 0) (0, 0) _ h2 h3 HDF.out.1 HDF.out.2.1 Tryd.underlying59 rfl (by rw [HSZa.out]; exact infoTab) (by rw [HSZb.out]; exact infoTab)) (hd.trans rfl) ?_
                      exact HDF.out.2.2
                    | true =>
                      cases obb with
                      | false =>
                        have HX4 : Hid (res = .error 4) := Lib.hid (by rw [← HEQ.out]; unfold dynC; rw [if_neg (by rw [HOBb.out]; rintro ⟨_, h, _⟩; cases h)]; rfl)
                        go_wp2_with (first
                          | (refine wpList_store_new rfl 59 (.tmp 18) (.tmp 173) rfl _ ctb rfl rfl (by rw [HSZb.out]; exact infoTab) (by rw [HSZb.out]; rfl) HONEb.out ?_; generalize w16.alloc (.cells ctb 59) = W17 at *))
                        refine (wrong_calls w0 A c p most g q2 out 0 4 _ HR17.out (by omega)).mono ?_
                        rintro ee w18 ⟨rfl, hs18, hr18⟩
                        have HS18 : Hid (SK 4 g W w18) := Lib.hid (HS17.out.trans hs18)
                        have HZ18 : Hid (Z3 W.heap.size w18) := Lib.hid (HZ17.out.sk HR17.out hs18)
                        have HT16 := Lib.hid (hs18.block HR17.out HT16.out (by decide) (by decide))
                        have HT18 := Lib.hid (hs18.block HR17.out HT18.out (by decide) (by decide))
                        have hr18' : Rd w0 A c p most g q2 out 4 w18 := hr18
                        have HR18 := Lib.hid hr18'
                        clear hs18 hr18 hr18' k17
                        have k17 := rd_e HR18.out
                        go_wp2_with fail
                        obtain ⟨HDA, HDB, HDC, HDD, HDE, HDF⟩ := dyn_fin (A := A) (c := c) (p := p) (most := most) (g := g) (out := out) (res := res) (W8 := w18) (q := q2) (e := 4) HS18.out HGW.out HR18.out HZ18.out HT16.out HT18.out HN16.out HCTa.out HCTb.out HONEa.out HONEb.out (.inr ⟨by decide, HX4.out⟩)
                        refine reg154 (g0 := W.heap.size) (g1 := W.heap.size + 1) (g3 := w14.heap.size) (g5 := w16.heap.size) (oz := zT.toArray) (by show (190 : Nat) < 191; decide) rfl rfl rfl rfl HSZa.out HSZb.out zT_size HONEa.out HONEb.out HDA.out HDB.out HDC.out HDD.out HDE.out (fun a' hd h2 h3 => ?_)
                        go_wp2_with fail
                        refine bodyPost_ret (results_cells rfl _ _ W.heap.size (W.heap.size + 1) 59 59 _ _ (0, 0) (0, 0) _ h2 h3 HDF.out.1 HDF.out.2.1 Tryd.underlying59 rfl (by rw [HSZa.out]; exact infoTab) (by rw [HSZb.out]; exact infoTab)) (hd.trans rfl) ?_
                        exact HDF.out.2.2
                      | true =>
                        by_cases h0 : l256 = 0
                        · subst h0
                          have HX4 : Hid (res = .error 4) := Lib.hid (by rw [← HEQ.out]; unfold dynC; rw [if_neg (by rw [HL256.out]; rintro ⟨_, _, h⟩; exact h rfl)]; rfl)
                          go_wp2_with (first
                            | (refine wpList_store_new rfl 59 (.tmp 18) (.tmp 173) rfl _ ctb rfl rfl (by rw [HSZb.out]; exact infoTab) (by rw [HSZb.out]; rfl) HONEb.out ?_; generalize w16.alloc (.cells ctb 59) = W17 at *))
                          refine (wrong_calls w0 A c p most g q2 out 0 4 _ HR17.out (by omega)).mono ?_
                          rintro ee w18 ⟨rfl, hs18, hr18⟩
                          have HS18 : Hid (SK 4 g W w18) := Lib.hid (HS17.out.trans hs18)
                          have HZ18 : Hid (Z3 W.heap.size w18) := Lib.hid (HZ17.out.sk HR17.out hs18)
                          have HT16 := Lib.hid (hs18.block HR17.out HT16.out (by decide) (by decide))
                          have HT18 := Lib.hid (hs18.block HR17.out HT18.out (by decide) (by decide))
                          have hr18' : Rd w0 A c p most g q2 out 4 w18 := hr18
                          have HR18 := Lib.hid hr18'
                          clear hs18 hr18 hr18' k17
                          have k17 := rd_e HR18.out
                          go_wp2_with fail
                          obtain ⟨HDA, HDB, HDC, HDD, HDE, HDF⟩ := dyn_fin (A := A) (c := c) (p := p) (most := most) (g := g) (out := out) (res := res) (W8 := w18) (q := q2) (e := 4) HS18.out HGW.out HR18.out HZ18.out HT16.out HT18.out HN16.out HCTa.out HCTb.out HONEa.out HONEb.out (.inr ⟨by decide, HX4.out⟩)
                          refine reg154 (g0 := W.heap.size) (g1 := W.heap.size + 1) (g3 := w14.heap.size) (g5 := w16.heap.size) (oz := zT.toArray) (by show (190 : Nat) < 191; decide) rfl rfl rfl rfl HSZa.out HSZb.out zT_size HONEa.out HONEb.out HDA.out HDB.out HDC.out HDD.out HDE.out (fun a' hd h2 h3 => ?_)
                          go_wp2_with fail
                          refine bodyPost_ret (results_cells rfl _ _ W.heap.size (W.heap.size + 1) 59 59 _ _ (0, 0) (0, 0) _ h2 h3 HDF.out.1 HDF.out.2.1 Tryd.underlying59 rfl (by rw [HSZa.out]; exact infoTab) (by rw [HSZb.out]; exact infoTab)) (hd.trans rfl) ?_
                          exact HDF.out.2.2
                        · have h0' : ((l256 : Int) == 0) = false := beq_eq_false_iff_ne.2 (by omega)
                          have HOWNa : Hid ((w16.alloc (.cells ctb 59)).ownsRow w0.heap.size 3 1 v14 (symT (ls.take (x1 + 257))).length (nums .i64 (natI (symT (ls.take (x1 + 257)))))) := Lib.hid (own_weaken (pw_own_below (pw_own_below (HO14.out (by first | rfl | trivial)) (below_alloc (Below.refl _ _) _)) HBa.out) (by have h := (HW.out.sk HR.out HSB.out).below.size; omega))
                          have HOWNb : Hid ((w16.alloc (.cells ctb 59)).ownsRow w0.heap.size 3 1 v16 (symT (ls.drop (x1 + 257))).length (nums .i64 (natI (symT (ls.drop (x1 + 257)))))) := Lib.hid (own_weaken (pw_own_below (HO16.out (by first | rfl | trivial)) (below_alloc (Below.refl _ _) _)) (by have h := (HW.out.sk HR.out HSB.out).below.size; have h2 := HB15.out.size; omega))
                          have HX5 : Hid (res = .ok ((ls.take (x1 + 257), ls.drop (x1 + 257)), q2)) := Lib.hid (by rw [← HEQ.out]; unfold dynC; rw [if_pos ⟨HOBa.out, HOBb.out, by rw [HL256.out]; exact h0⟩]; rfl)
                          go_wp2_with (first
                            | (refine wpList_store_new rfl 59 (.tmp 18) (.tmp 173) rfl _ ctb rfl rfl (by rw [HSZb.out]; exact infoTab) (by rw [HSZb.out]; rfl) HONEb.out ?_; generalize w16.alloc (.cells ctb 59) = W17 at *))
                          obtain ⟨HDA, HDB, HDC, HDD, HDE, HDF⟩ := dyn_fin (A := A) (c := c) (p := p) (most := most) (g := g) (out := out) (res := res) (W8 := W17) (q := q2) (e := 0) HS17.out HGW.out HR17.out HZ17.out HT16.out HT18.out HN16.out HCTa.out HCTb.out HONEa.out HONEb.out (.inl ⟨rfl, HX5.out, by rw [List.length_take]; omega, by rw [List.length_drop]; omega, HOWNa.out, HOWNb.out⟩)
                          refine reg154 (g0 := W.heap.size) (g1 := W.heap.size + 1) (g3 := w14.heap.size) (g5 := w16.heap.size) (oz := zT.toArray) (by show (190 : Nat) < 191; decide) rfl rfl rfl rfl HSZa.out HSZb.out zT_size HONEa.out HONEb.out HDA.out HDB.out HDC.out HDD.out HDE.out (fun a' hd h2 h3 => ?_)
                          go_wp2_with fail
                          refine bodyPost_ret (results_cells rfl _ _ W.heap.size (W.heap.size + 1) 59 59 _ _ (0, 0) (0, 0) _ h2 h3 HDF.out.1 HDF.out.2.1 Tryd.underlying59 rfl (by rw [HSZa.out]; exact infoTab) (by rw [HSZb.out]; exact infoTab)) (hd.trans rfl) ?_
                          exact HDF.out.2.2
                  · have he2' : (e2 == 0) = false := by simp [he2]
                    have HEE2 : Hid (e2 ≠ 0 ∧ res = .error e2) := Lib.hid (by
                      rcases HEB.out with ⟨h, _⟩ | h
                      · exact absurd h he2
                      · exact h)
                    go_wp2_with fail
                    obtain ⟨HDA, HDB, HDC, HDD, HDE⟩ := dyn_zero (A := A) (c := c) (p := p) (most := most) (g := g) (out := out) (res := res) HSB.out HGW.out HRB.out HZB.out HEE2.out.1 HEE2.out.2
                    refine reg147 (g0 := W.heap.size) (g1 := W.heap.size + 1) (g3 := W.heap.size + 1 + 1) (c1 := zT.toArray) (oz := zT.toArray) (by show (190 : Nat) < 191; decide) rfl rfl rfl zT_size zT_size (all_one zT_one) HDA.out HDB.out HDC.out HDD.out (fun a' hd h2 h3 => ?_)
                    go_wp2_with fail
                    refine bodyPost_ret (results_cells rfl _ _ W.heap.size (W.heap.size + 1) 59 59 _ _ (0, 0) (0, 0) _ h2 h3 HDE.out.1 HDE.out.2.1 Tryd.underlying59 rfl (by rw [zT_size]; exact infoTab) (by rw [zT_size]; exact infoTab)) (hd.trans rfl) ?_
                    exact HDE.out.2.2
          · have he' : (e == 0) = false := by simp [he]
            have HE4 : Hid (res = .error e) := Lib.hid (by
              rcases HE2.out with ⟨h, _⟩ | ⟨_, h⟩
              · exact absurd h he
              · exact h)
            clear HE2
            have hmr := make_room (P := Tryd.prog) 51 3 (.int .i64 0) 8 Tryd.underlying51 infoIntB rfl ((x1 : Int) + 257 + ((x2 : Int) + 1)) (x1 + 257 + (x2 + 1)) (by omega) (by omega) (by omega)
            go_wp2_with (first
              | (refine wpList_store_new rfl 59 (.tmp 11) (.tmp 59) rfl _ ct rfl rfl (by rw [HSZ.out]; exact infoTab) (by rw [HSZ.out]; rfl) HONE.out ?_))
            clear hmr
            have hb8 : Below (w6.alloc (.cells ct 59)).heap.size (w6.alloc (.cells ct 59)) ((w6.alloc (.cells ct 59)).alloc (.cells (madeCells #[.int .i64 0] (x1 + 257 + (x2 + 1))) 3)) := below_alloc (Below.refl _ _) _
            have HRE : Hid (Rd w0 A c p most g qq out e ((w6.alloc (.cells ct 59)).alloc (.cells (madeCells #[.int .i64 0] (x1 + 257 + (x2 + 1))) 3))) := Lib.hid (HR7.out.below hb8)
            have HSE : Hid (SK 4 g W ((w6.alloc (.cells ct 59)).alloc (.cells (madeCells #[.int .i64 0] (x1 + 257 + (x2 + 1))) 3))) := Lib.hid (HS7.out.trans (SK.ofBelow hb8 HR7.out.lt))
            have HZE : Hid (Z3 W.heap.size ((w6.alloc (.cells ct 59)).alloc (.cells (madeCells #[.int .i64 0] (x1 + 257 + (x2 + 1))) 3))) := Lib.hid (HZ7.out.below hb8)
            have HEE : Hid (e ≠ 0 ∧ res = .error e) := Lib.hid (⟨he, HE4.out⟩)
            have k8 := rd_e HRE.out
            clear hb8
            generalize ((w6.alloc (.cells ct 59)).alloc (.cells (madeCells #[.int .i64 0] (x1 + 257 + (x2 + 1))) 3)) = W8 at *
            go_loopw [13] (fun v wr2 => v = .slice (some ⟨(w6.heap.size + 1), 0, none⟩) 0 (x1 + 257 + (x2 + 1)) ∧ Hid (W8 = wr2)) (fun _ _ => 0)
            case atStart => exact ⟨rfl, Lib.hid rfl⟩
            case round =>
              obtain ⟨rfl, HEQ⟩ := hrel
              obtain rfl := HEQ.out
              have iw : (0 : Int) < (x1 : Int) + 257 + ((x2 : Int) + 1) := by omega
              go_wp2_with fail
              obtain ⟨HDA, HDB, HDC, HDD, HDE⟩ := dyn_zero (A := A) (c := c) (p := p) (most := most) (g := g) (out := out) (res := res) HSE.out HGW.out HRE.out HZE.out HEE.out.1 HEE.out.2
              refine reg147 (g0 := W.heap.size) (g1 := W.heap.size + 1) (g3 := W.heap.size + 1 + 1) (c1 := zT.toArray) (oz := zT.toArray) (by show (190 : Nat) < 191; decide) rfl rfl rfl zT_size zT_size (all_one zT_one) HDA.out HDB.out HDC.out HDD.out (fun a' hd h2 h3 => ?_)
              go_wp2_with fail
              refine bodyPost_ret (results_cells rfl _ _ W.heap.size (W.heap.size + 1) 59 59 _ _ (0, 0) (0, 0) _ h2 h3 HDE.out.1 HDE.out.2.1 Tryd.underlying59 rfl (by rw [zT_size]; exact infoTab) (by rw [zT_size]; exact infoTab)) (hd.trans rfl) ?_
              exact HDE.out.2.2
  · subst h2
    have HE : Hid (res = .error 5) := Lib.hid h1
    clear h1 HT
    go_wp2_with fail
    rw [show (#[.int .i64 0, .int .i64 0, .int .i64 0, .int .i64 0, .int .i64 0, .int .i64 0, .int .i64 0, .int .i64 0, .int .i64 0, .int .i64 0, .int .i64 0, .int .i64 0, .int .i64 0, .int .i64 0, .int .i64 0, .int .i64 0, .int .i64 0, .int .i64 0, .int .i64 0] : Array Value) = (fstC (List.replicate 19 0)).toArray from rfl]
    obtain ⟨F, hF⟩ : ∃ F, F = w3.heap.size := ⟨_, rfl⟩
    obtain ⟨W4, hW4⟩ : ∃ W4, W4 = w3.alloc (.cells (fstC (List.replicate 19 0)).toArray 91) := ⟨_, rfl⟩
    have hb4 : Below w3.heap.size w3 (w3.alloc (.cells (fstC (List.replicate 19 0)).toArray 91)) := below_alloc (Below.refl _ _) _
    have hf4 := heap_alloc_new w3 (.cells (fstC (List.replicate 19 0)).toArray 91)
    rw [← hF, ← hW4]
    rw [← hW4] at hb4 hf4
    rw [← hF] at hf4
    have HF4 := Lib.hid hf4
    have HR4 : Hid (Rd w0 A c p most g q3 out 5 W4) := Lib.hid (HR3.out.below hb4)
    have HS4 : Hid (SK 4 g W W4) := Lib.hid (HS3.out.trans (SK.ofBelow hb4 HR3.out.lt))
    have HZ4 : Hid (Z3 W.heap.size W4) := Lib.hid (HZ3.out.below hb4)
    have HFG : Hid (W.heap.size ≤ F) := Lib.hid (by rw [hF]; exact HS3.out.size)
    clear hb4 hf4 hF hW4 k6
    have HE0 := HE
    clear HE
    go_loopw [47] (fun vi wr => ∃ (i qq : Nat) (fl : List Nat) (e : Int), vi = .int .i64 i ∧ i ≤ x3 + 4 ∧ Hid (fl.length = 19 ∧ ∀ x ∈ fl, x < 16) ∧ Hid (wr.heap[F]? = some (.cells (fstC fl).toArray 91 (0, 0))) ∧ Hid (SK 4 g W wr) ∧ Hid (Rd w0 A c p most g qq out e wr) ∧ Hid (Z3 W.heap.size wr) ∧ Hid (e ≠ 0 ∧ res = .error e)) (fun vi _ => 20 - (intOf vi).toNat)
    case atStart => exact ⟨0, q3, List.replicate 19 0, 5, rfl, by omega, Lib.hid ⟨by simp, fun x hx => by rw [List.eq_of_mem_replicate hx]; omega⟩, HF4, HS4, HR4, HZ4, Lib.hid ⟨by decide, HE0.out⟩⟩
    case round =>
      clear HF4 HS4 HR4 HZ4
      obtain ⟨i, qq, fl, e, rfl, hi, HFL, HF, HS, HRR, HZ, HE⟩ := hrel
      by_cases hlt : i < x3 + 4
      · have ilt : (i : Int) < (x3 : Int) + 4 := by omega
        have i0 : (0 : Int) ≤ (i : Int) := by omega
        have HRWr := Lib.hid (HW.out.sk HR.out HS.out)
        have hco : wr.cell? ⟨0, i, none⟩ = some (.int .i64 ((ordT.getD i 0 : Nat) : Int)) := pw_cell_below HRWr.out.below (HW.out.ord i (by omega))
        have ho19 := ordT_lt (show i < 19 by omega)
        generalize hgo : ordT.getD i 0 = o at hco ho19
        have HGO := Lib.hid hgo
        clear hgo
        go_wp2_with fail
        refine (take_calls w0 A c p most g qq out e wr 3 HRR.out HRWr.out (by omega)).mono ?_
        rintro ee w5 ⟨x, q5, e5, rfl, hs5, hr5, hc5⟩
        have HS5 : Hid (SK 4 g W w5) := Lib.hid (HS.out.trans hs5.out)
        have HZ5 : Hid (Z3 W.heap.size w5) := Lib.hid (HZ.out.sk HRR.out hs5.out)
        have HF5 := Lib.hid (hs5.out.block HRR.out HF.out (by decide) (by decide))
        have HR5 := Lib.hid hr5.out
        have HC5 : Hid (TkC (8 * p.length) (numB p) qq e 3 x q5 e5) := Lib.hid hc5
        have hx8 : x < 8 := HC5.out.lt
        clear hs5 hr5 hc5 hco
        have hcf : w5.cell? ⟨F, o, none⟩ = some (.int .i64 ((fl.getD o 0 : Nat) : Int)) := blk_cellL HF5.out (fstC_get (by have := HFL.out.1; omega))
        have hff : w5.frozen? ⟨F, o, none⟩ = false := blk_frozen HF5.out o
        have io : (o : Int) < 19 := by omega
        have io0 : (0 : Int) ≤ (o : Int) := by omega
        have hwi : wrap64 ((i : Int) + 1) = ((i + 1 : Nat) : Int) := by rw [IntWalk.wrap64_in _ (by omega)]; omega
        have HWI := Lib.hid hwi
        clear hwi
        go_wp2_with fail
        try rw [HWI.out]
        go_roundw
        case rel =>
          refine ⟨i + 1, q5, fl.set o x, e5, by first | rfl | go_num, by omega, Lib.hid ⟨by rw [List.length_set]; exact HFL.out.1, set_small HFL.out.2 (by omega)⟩, Lib.hid ?_, Lib.hid (HS5.out.cell_ HGW.out HFG.out _), Lib.hid (HR5.out.cell_ HF5.out (by decide) (by decide) _), Lib.hid ?_, Lib.hid ?_⟩
          · have h := blk_setL HF5.out o (.int .i64 (x : Int))
            rw [fstC_set] at h
            exact h
          · have hz := HZ5.out
            have ne : ∀ b : Nat, w5.heap[b]? = some (.cells zT.toArray 59 (0, 0)) → b ≠ F := fun b hb => blk_ne hb HF5.out (by decide)
            exact ⟨(Below.heap_setCell w5 ⟨F, o, none⟩ _ _ (ne _ hz.a)).trans hz.a, (Below.heap_setCell w5 ⟨F, o, none⟩ _ _ (ne _ hz.b)).trans hz.b, (Below.heap_setCell w5 ⟨F, o, none⟩ _ _ (ne _ hz.c)).trans hz.c⟩
          · have h3 := HC5.out.err HE.out.1
            exact ⟨by rw [h3]; exact HE.out.1, by rw [h3]; exact HE.out.2⟩
        case measure => simp [intOf]; omega
      · obtain rfl : i = x3 + 4 := by omega
        have ilt : ¬ ((x3 + 4 : Nat) : Int) < (x3 : Int) + 4 := by omega
        clear hlt hi
        go_wp2_with fail
        have hfl := HFL.out.1
        refine (build_nat wr (some ⟨F, 0, none⟩) 19 fl 19 false hfl (by have h := reads_block HF.out (by omega); rw [hfl] at h; exact h) (by omega) HFL.out.2).mono ?_
        rintro ee w6 ⟨v6, rfl, ho6, hb6, hv6⟩
        obtain ⟨A6, n6, c6, hv6'⟩ := hv6.out
        have hb7 := below_then hb6.out hb6.out.size (below_alloc (Below.refl w6.heap.size w6) (.cells (tabC fl v6).toArray 59))
        have h6s := hb6.out.size
        have HR7 : Hid (Rd w0 A c p most g qq out e (w6.alloc (.cells (tabC fl v6).toArray 59))) := Lib.hid (HRR.out.below hb7)
        have HS7 : Hid (SK 4 g W (w6.alloc (.cells (tabC fl v6).toArray 59))) := Lib.hid (HS.out.trans (SK.ofBelow hb7 HRR.out.lt))
        have HZ7 : Hid (Z3 W.heap.size (w6.alloc (.cells (tabC fl v6).toArray 59))) := Lib.hid (HZ.out.below hb7)
        have HT7 : Hid ((w6.alloc (.cells (tabC fl v6).toArray 59)).heap[w6.heap.size]? = some (.cells (tabC fl v6).toArray 59 (0, 0))) := Lib.hid (heap_alloc_new _ _)
        have HO7 : Hid (okT fl false = true → (w6.alloc (.cells (tabC fl v6).toArray 59)).ownsRow w0.heap.size 3 1 v6 (symT fl).length (nums .i64 (natI (symT fl))) ∧ ∀ k, v6.ownBlock = some k → k < w6.heap.size) := Lib.hid (fun h => ⟨own_weaken (pw_own_below (ho6.out h) (below_alloc (Below.refl _ _) _)) (by have := (HW.out.sk HR.out HS.out).below.size; omega), fun k hk => own_lt (ho6.out h) k hk⟩)
        have HONE : Hid ((tabC fl v6).toArray.all (·.oneCell') = true) := Lib.hid (by rw [hv6']; exact tabC_one fl A6 n6 c6)
        have HSZ : Hid ((tabC fl v6).toArray.size = 17) := Lib.hid (tabC_size _ _)
        have k7 := rd_e HR7.out
        have HB6S : Hid (wr.heap.size ≤ w6.heap.size) := Lib.hid h6s
        clear ho6 hb6 hv6 hv6' hb7 h6s hfl
        generalize hob : okT fl false = ob at *
        have HOB := Lib.hid hob
        clear hob
        generalize hct : (tabC fl v6).toArray = ct at *
        have HCT := Lib.hid hct
        clear hct
        have he := HE.out.1
        have he' : (e == 0) = false := by simp [he]
        have HE4 : Hid (res = .error e) := Lib.hid HE.out.2
        have hmr := make_room (P := Tryd.prog) 51 3 (.int .i64 0) 8 Tryd.underlying51 infoIntB rfl ((x1 : Int) + 257 + ((x2 : Int) + 1)) (x1 + 257 + (x2 + 1)) (by omega) (by omega) (by omega)
        go_wp2_with (first
          | (refine wpList_store_new rfl 59 (.tmp 11) (.tmp 59) rfl _ ct rfl rfl (by rw [HSZ.out]; exact infoTab) (by rw [HSZ.out]; rfl) HONE.out ?_))
        clear hmr
        have hb8 : Below (w6.alloc (.cells ct 59)).heap.size (w6.alloc (.cells ct 59)) ((w6.alloc (.cells ct 59)).alloc (.cells (madeCells #[.int .i64 0] (x1 + 257 + (x2 + 1))) 3)) := below_alloc (Below.refl _ _) _
        have HRE : Hid (Rd w0 A c p most g qq out e ((w6.alloc (.cells ct 59)).alloc (.cells (madeCells #[.int .i64 0] (x1 + 257 + (x2 + 1))) 3))) := Lib.hid (HR7.out.below hb8)
        have HSE : Hid (SK 4 g W ((w6.alloc (.cells ct 59)).alloc (.cells (madeCells #[.int .i64 0] (x1 + 257 + (x2 + 1))) 3))) := Lib.hid (HS7.out.trans (SK.ofBelow hb8 HR7.out.lt))
        have HZE : Hid (Z3 W.heap.size ((w6.alloc (.cells ct 59)).alloc (.cells (madeCells #[.int .i64 0] (x1 + 257 + (x2 + 1))) 3))) := Lib.hid (HZ7.out.below hb8)
        have HEE : Hid (e ≠ 0 ∧ res = .error e) := Lib.hid (⟨he, HE4.out⟩)
        have k8 := rd_e HRE.out
        clear hb8
        generalize ((w6.alloc (.cells ct 59)).alloc (.cells (madeCells #[.int .i64 0] (x1 + 257 + (x2 + 1))) 3)) = W8 at *
        go_loopw [13] (fun v wr2 => v = .slice (some ⟨(w6.heap.size + 1), 0, none⟩) 0 (x1 + 257 + (x2 + 1)) ∧ Hid (W8 = wr2)) (fun _ _ => 0)
        case atStart => exact ⟨rfl, Lib.hid rfl⟩
        case round =>
          obtain ⟨rfl, HEQ⟩ := hrel
          obtain rfl := HEQ.out
          have iw : (0 : Int) < (x1 : Int) + 257 + ((x2 : Int) + 1) := by omega
          go_wp2_with fail
          obtain ⟨HDA, HDB, HDC, HDD, HDE⟩ := dyn_zero (A := A) (c := c) (p := p) (most := most) (g := g) (out := out) (res := res) HSE.out HGW.out HRE.out HZE.out HEE.out.1 HEE.out.2
          refine reg147 (g0 := W.heap.size) (g1 := W.heap.size + 1) (g3 := W.heap.size + 1 + 1) (c1 := zT.toArray) (oz := zT.toArray) (by show (190 : Nat) < 191; decide) rfl rfl rfl zT_size zT_size (all_one zT_one) HDA.out HDB.out HDC.out HDD.out (fun a' hd h2 h3 => ?_)
          go_wp2_with fail
          refine bodyPost_ret (results_cells rfl _ _ W.heap.size (W.heap.size + 1) 59 59 _ _ (0, 0) (0, 0) _ h2 h3 HDE.out.1 HDE.out.2.1 Tryd.underlying59 rfl (by rw [zT_size]; exact infoTab) (by rw [zT_size]; exact infoTab)) (hd.trans rfl) ?_
          exact HDE.out.2.2
end Go.Proofs.YtkdklcamgcmifaaDoor

