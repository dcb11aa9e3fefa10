/- delta.Make, between two rounds: the maker, its two rows, the map of the base's pieces. And laws on whole arrays at an address. -/
import Derived.Test.YtiocipmnmjpkfaaHCopyM
import Derived.Test.YtiocipmnmjpkfaaHSameD
import Derived.Deep.WholeRow
namespace Go.Proofs.Ytiocipmnmjpkfaa
set_option linter.unusedVariables false
set_option linter.unusedSimpArgs false
open Go.RowKit Go.Proofs.YtiocipmnmjpkfaaW.PrintWords Go.Proofs.YtiocipmnmjpkfaaW.PrintMore

section
variable {P : Program}
/-- A whole array is read at an address. -/
theorem run_loadVar_ad (w : World) (p : Addr) (ty : TypeId) (cs : List Value) (d : TypeDesc) (hc : ∀ j v, cs[j]? = some v → w.cell? (p.add j) = some v)
    (hu : P.underlying ty = some d) (hd : d.isRow = true) (hi : (P.info? ty).map (·.size) = some cs.length) : (loadVar ty p).run P w = .ok (.agg cs.toArray) w := by
  have hl : (loadCells p cs.length).run P w = .ok cs.toArray w := run_loadCells_list (P := P) w p cs hc
  cases hq : P.info? ty with
  | none => simp [hq] at hi
  | some i =>
    have hs : i.size = cs.length := by simpa [hq] using hi
    have hagg : (isAgg ty).run P w = .ok true w := by
      unfold isAgg
      rw [Sem.run_bind, run_underlying hu w]
      cases d <;> simp_all
    simp [loadVar, Sem.run_bind, hagg, sizeOf, typeInfo, hq, hs, hl]
theorem wpList_load_ad {ops : Array Oper} {rest : List Oper} {op : Oper} {a : Act} {w : World} {Q : Exit → Act → World → Prop} (hgd : op.guard = none) (ty : TypeId) (x : Operand) (ho : op.op = .load ty x)
    (p : Addr) (hx : a.eval x = .pointer (some p)) (cs : List Value) (d : TypeDesc) (hc : ∀ j v, cs[j]? = some v → w.cell? (p.add j) = some v)
    (hu : P.underlying ty = some d) (hd : d.isRow = true) (hi : (P.info? ty).map (·.size) = some cs.length)
    (h : wpList P ops Q rest (a.put op.dst (.agg cs.toArray)) w) : wpList P ops Q (op :: rest) a w := by
  refine wpList_plain hgd fun _ hK => ?_
  unfold Oper.wp execOp
  simp only [ho, hx, Instr.loadAt, Instr.sureAddr, Sem.run_bind, Sem.run_pure, Result.andThen_ok, run_loadVar_ad w p ty cs d hc hu hd hi]
  exact hK _ _ h
/-- The block that was made last: an array is stored, read. -/
theorem wpList_store_new {ops : Array Oper} {rest : List Oper} {op : Oper} {a : Act} {w : World} {Q : Exit → Act → World → Prop} (hgd : op.guard = none) (ty : TypeId) (x y : Operand) (ho : op.op = .store ty x y)
    (c c' : Array Value) (hx : a.eval x = .pointer (some ⟨w.heap.size, 0, none⟩)) (hy : a.eval y = .agg c')
    (hi : (P.info? ty).map (·.size) = some c'.size) (hs : c.size = c'.size) (h1 : c'.all (·.oneCell') = true)
    (h : wpList P ops Q rest (a.put op.dst undef) (w.alloc (.cells c' ty))) : wpList P ops Q (op :: rest) a (w.alloc (.cells c ty)) := by
  refine wpList_plain hgd fun _ hK => ?_
  unfold Oper.wp execOp
  simp only [ho, hx, hy, Sem.run_bind, Sem.run_pure, Result.andThen_ok, run_storeAt_new w ty c c' hi hs h1]
  exact hK _ _ h
theorem wpList_load_new {ops : Array Oper} {rest : List Oper} {op : Oper} {a : Act} {w : World} {Q : Exit → Act → World → Prop} (hgd : op.guard = none) (ty : TypeId) (x : Operand) (ho : op.op = .load ty x)
    (c : Array Value) (n : Nat) (e : TypeId) (hx : a.eval x = .pointer (some ⟨w.heap.size, 0, none⟩)) (hu : P.underlying ty = some (.array n e)) (hi : (P.info? ty).map (·.size) = some c.size)
    (h : wpList P ops Q rest (a.put op.dst (.agg c)) (w.alloc (.cells c ty))) : wpList P ops Q (op :: rest) a (w.alloc (.cells c ty)) := by
  refine wpList_plain hgd fun _ hK => ?_
  unfold Oper.wp execOp
  simp only [ho, hx, Sem.run_bind, Sem.run_pure, Result.andThen_ok, run_loadAt_new w ty c n e hu hi]
  exact hK _ _ h
/-- '[16]byte(xs)': where there is enough. -/
theorem wpList_toArray {ops : Array Oper} {rest : List Oper} {op : Oper} {a : Act} {w : World} {Q : Exit → Act → World → Prop} (hgd : op.guard = none) (ty : TypeId) (x : Operand) (ho : op.op = .sliceToArrayPointer ty x)
    (p : Option Addr) (n c m : Nat) (e : TypeId) (hx : a.eval x = .slice p n c) (hu : P.underlying ty = some (.array m e)) (hn : m ≤ n)
    (h : wpList P ops Q rest (a.put op.dst (.pointer p)) w) : wpList P ops Q (op :: rest) a w := by
  refine wpList_plain hgd fun _ hK => ?_
  unfold Oper.wp execOp
  simp only [ho, hx, Instr.arrayAt, Sem.run_bind, run_underlying hu w, Result.andThen_ok, if_neg (show ¬ n < m by omega), Sem.run_pure]
  exact hK _ _ h
end
theorem info16 : (Try.prog.info? 71).map (fun i => (i.zero, i.size)) = some (some (.agg #[.int .u8 0, .int .u8 0, .int .u8 0, .int .u8 0, .int .u8 0, .int .u8 0, .int .u8 0, .int .u8 0, .int .u8 0, .int .u8 0, .int .u8 0, .int .u8 0, .int .u8 0, .int .u8 0, .int .u8 0, .int .u8 0]), 16) := by kernel_rfl
theorem zeroInt (w : World) : (zeroValue 3).run Try.prog w = .ok (.int .i64 0) w := by kernel_rfl

/-- Between two rounds. -/
structure Mst (w : World) (g M : Nat) (base : List Int) (dv hv : Value) (d held : List Int) (W : World) : Prop where
  mkr : Mkr W g dv hv
  d : Bs 5 W w.heap.size dv d
  h : Bs 5 W w.heap.size hv held
  sep : ∀ k, dv.ownBlock = some k → hv.ownBlock ≠ some k
  map : ∃ (D : DataW Unit) (k : Nat), W.ownsMap Try.prog 71 (plainElem Try.prog 3) M k D ∧ MapIs D base (base.length / 16)
  below : Below w.heap.size w W
  gw : w.heap.size ≤ g
  mw : w.heap.size ≤ M
theorem map_block {W : World} {M k : Nat} {D : DataW Unit} (h : W.ownsMap Try.prog 71 (plainElem Try.prog 3) M k D) : ∃ es c, W.heap[M]? = some (.map es c) := by
  obtain ⟨es, clock, hb, _⟩ := h
  exact ⟨es, clock, hb⟩
theorem map_ne_row {W : World} {M k : Nat} {D : DataW Unit} (h : W.ownsMap Try.prog 71 (plainElem Try.prog 3) M k D) {B : Nat} {v : Value} {l : List Int} (hv : Bs 5 W B v l) : v.ownBlock ≠ some M := by
  intro e
  obtain ⟨es, c, hb⟩ := map_block h
  obtain ⟨cells, hc⟩ := own_typed hv M e
  rw [hb] at hc
  cases hc
theorem map_ne_mk {W : World} {M k g : Nat} {D : DataW Unit} (h : W.ownsMap Try.prog 71 (plainElem Try.prog 3) M k D) {dv hv : Value} (hm : Mkr W g dv hv) : M ≠ g := by
  rintro rfl
  obtain ⟨es, c, hb⟩ := map_block h
  rw [show W.heap[M]? = _ from hm] at hb
  cases hb
theorem map_move {W W' : World} {M k : Nat} {D : DataW Unit} (h : W.ownsMap Try.prog 71 (plainElem Try.prog 3) M k D) (hb : W'.heap[M]? = W.heap[M]?) : W'.ownsMap Try.prog 71 (plainElem Try.prog 3) M k D := by
  obtain ⟨es, clock, h1, r⟩ := h
  exact ⟨es, clock, hb.trans h1, r⟩
theorem Mst.drewN {w W : World} {g M : Nat} {base d held : List Int} {dv hv : Value} (h : Mst w g M base dv hv d held W) (n : Nat) : Mst w g M base dv hv d held (W.drewN n) :=
  ⟨h.mkr, h.d, h.h, h.sep, h.map, pw_below_drewN h.below n, h.gw, h.mw⟩
/-- A byte more is held. -/
theorem Mst.hold {w W w4 : World} {g M g2 cap n : Nat} {base d held : List Int} {dv hv : Value} {x : Int} (h : Mst w g M base dv hv d held W) (hn : n = held.length)
    (hown : w4.ownsRow w.heap.size 5 1 (.slice (some ⟨g2, 0, none⟩) (n + 1) cap) (n + 1) (nums .u8 held ++ [.int .u8 x])) (hgr : ((W.alloc (.cells #[.int .u8 x] 5)).drew).grownBy w4 hv.ownBlock) (hat : hv.ownBlock = some g2 ∨ g2 = W.heap.size + 1) :
    Mst w g M base dv (.slice (some ⟨g2, 0, none⟩) (n + 1) cap) d (held ++ [x]) (w4.setCell ⟨g, 1, none⟩ (.slice (some ⟨g2, 0, none⟩) (n + 1) cap)) := by
  subst hn
  obtain ⟨D, k, hm, hD⟩ := h.map
  have hMh := map_ne_row hm h.h
  have hMg := map_ne_mk hm h.mkr
  have hgh := h.mkr.ne h.h
  have hgd := h.mkr.ne h.d
  have hblk : ∀ i, i < W.heap.size → hv.ownBlock ≠ some i → w4.heap[i]? = W.heap[i]? := fun i hi hne => (hgr.block i (by simp; omega) (fun e => hne e.symm)).trans (Below.heap_alloc W _ i hi)
  have hmk4 : Mkr w4 g dv hv := (hblk g (blk_lt h.mkr) hgh).trans h.mkr
  have hrow : Bs 5 w4 w.heap.size (.slice (some ⟨g2, 0, none⟩) (held.length + 1) cap) (held ++ [x]) := by
    unfold Bs
    rw [List.length_append]
    have := hown
    simpa [nums] using this
  have hd4 : Bs 5 w4 w.heap.size dv d := own_move h.d fun k hk => hblk k (own_lt h.d k hk) (h.sep k hk)
  refine ⟨hmk4.set1 _, own_move hd4 fun k hk => Below.heap_setCell w4 ⟨g, 1, none⟩ _ k (fun e => hgd (by rw [hk, show k = g from e])), own_move hrow fun k hk => Below.heap_setCell w4 ⟨g, 1, none⟩ _ k (fun e => hmk4.ne hrow (by rw [hk, show k = g from e])), ?_, ⟨D, k, (map_move hm (hblk M hm.lt hMh)).setCell (a := ⟨g, 1, none⟩) hMg _, hD⟩, ?_, h.gw, h.mw⟩
  · intro k hk e
    have e2 : g2 = k := by simpa [Value.ownBlock] using e
    rcases hat with h1 | h1
    · exact h.sep k hk (by rw [h1, e2])
    · have := own_lt h.d k hk
      omega
  · refine ⟨hgr.os.trans h.below.os, hgr.tape.trans h.below.tape, hgr.output.trans h.below.output, ?_, fun i hi => ?_⟩
    · have h1 := h.below.size
      have h2 := hgr.size
      simp [World.setCell] at h2 ⊢
      omega
    · have h1 := h.gw
      have h2 := h.below.size
      refine (Below.heap_setCell w4 ⟨g, 1, none⟩ _ i (fun e => by have e2 : i = g := e; omega)).trans ((hblk i (by omega) (fun e => ?_)).trans (h.below.block i hi))
      have := own_base h.h i e
      omega
/-- The last byte that is held is let go. -/
theorem Mst.back {w W : World} {g M n c : Nat} {A : Option Addr} {base d held : List Int} {dv : Value} {x : Int} (h : Mst w g M base dv (.slice A (n + 1) c) d (held ++ [x]) W) (hn : n = held.length) :
    Mst w g M base dv (.slice A n c) d held (W.setCell ⟨g, 1, none⟩ (.slice A n c)) := by
  subst hn
  obtain ⟨D, k, hm, hD⟩ := h.map
  have hMg := map_ne_mk hm h.mkr
  have hgd := h.mkr.ne h.d
  have hgh := h.mkr.ne h.h
  have hh : Bs 5 W w.heap.size (.slice A held.length c) held := by
    have h1 : W.ownsRow w.heap.size 5 1 (.slice A (held.length + 1) c) (held.length + 1) (nums .u8 (held ++ [x])) := by
      have := h.h
      unfold Bs at this
      rwa [List.length_append] at this
    have h2 := own_take h1 (Nat.le_succ held.length)
    have e : (nums .u8 (held ++ [x])).take (held.length * 1) = nums .u8 held := by simp [nums]
    rw [e] at h2
    exact h2
  refine ⟨h.mkr.set1 _, own_move h.d fun k hk => Below.heap_setCell W ⟨g, 1, none⟩ _ k (fun e => hgd (by rw [hk, show k = g from e])), own_move hh fun k hk => Below.heap_setCell W ⟨g, 1, none⟩ _ k (fun e => h.mkr.ne hh (by rw [hk, show k = g from e])), ?_, ⟨D, k, hm.setCell (a := ⟨g, 1, none⟩) hMg _, hD⟩, h.below.setCell h.gw _, h.gw, h.mw⟩
  intro k hk e
  exact h.sep k hk (by
    cases A with
    | none => simp [Value.ownBlock] at e
    | some a => simpa [Value.ownBlock] using e)
/-- What is held is written, then a copy. -/
theorem Mst.copied {w W W' : World} {g M : Nat} {base d held d' : List Int} {dv hv dv' : Value} (h : Mst w g M base dv hv d held W) (hs : SG g W W') (hm' : Mkr W' g dv' (.slice none 0 0)) (hd' : Bs 5 W' w.heap.size dv' d') :
    Mst w g M base dv' (.slice none 0 0) d' [] W' := by
  obtain ⟨D, k, hm, hD⟩ := h.map
  have hr : ∀ i, rowOf W g = some i → w.heap.size ≤ i := fun i hi => own_base h.d i (by rw [← h.mkr.row]; exact hi)
  refine ⟨hm', hd', own_nil _ _ _ _, fun k _ e => by simp [Value.ownBlock] at e, ⟨D, k, map_move hm (hs.keep M hm.lt (map_ne_mk hm h.mkr) (fun e => map_ne_row hm h.d (by rw [← h.mkr.row]; exact e))), hD⟩, hs.below h.below h.below.size h.gw hr, h.gw, h.mw⟩
theorem GB.grownAt {g B : Nat} {W W1 W2 : World} (h : GB g B W W1) (hB : B ≤ W.heap.size) (hg : W1.grownBy W2 (some g)) : GB g B W W2 :=
  ⟨hg.os.trans h.os, hg.tape.trans h.tape, hg.output.trans h.output, Nat.le_trans h.size hg.size, fun i hi hgi => (hg.block i (Nat.lt_of_lt_of_le hi (Nat.le_trans hB h.size)) (fun e => hgi (by injection e))).trans (h.keep i hi hgi)⟩
theorem Mst.drew {w W : World} {g M : Nat} {base d held : List Int} {dv hv : Value} (h : Mst w g M base dv hv d held W) : Mst w g M base dv hv d held W.drew :=
  ⟨h.mkr, h.d, h.h, h.sep, h.map, below_drew h.below, h.gw, h.mw⟩
theorem Mst.seps {w W : World} {g M nh ch : Nat} {Ah : Option Addr} {base d held : List Int} {dv : Value} (h : Mst w g M base dv (.slice Ah nh ch) d held W) : ∀ ad, Ah = some ad → ad.block < W.heap.size ∧ ad.block ≠ g ∧ dv.ownBlock ≠ some ad.block := by
  rintro ad rfl
  have e1 : (Value.slice (some ad) nh ch).ownBlock = some ad.block := rfl
  exact ⟨own_lt h.h _ e1, fun e => h.mkr.ne h.h (by rw [e1, e]), fun e => h.sep _ e e1⟩
theorem Mst.copyC {w W : World} {g M nh ch a n : Nat} {Ah : Option Addr} {base d held : List Int} {dv : Value} (h : Mst w g M base dv (.slice Ah nh ch) d held W) (hn : nh = held.length) (hH : held.length ≤ 1073741824) (hD : d.length ≤ 1073741824) (hat : a ≤ 1048576) (hn1 : 1 ≤ n) (hn2 : n ≤ 1048576) :
    Calls Try.prog 57 #[.pointer (some ⟨g, 0, none⟩), .int .i64 a, .int .i64 n] W fun e W' => e = .returned (.tuple #[]) ∧ ∃ dv', Mst w g M base dv' (.slice none 0 0) (d ++ flushL held ++ copyL a n) [] W' := by
  subst hn
  refine (copy_calls W g w.heap.size ch Ah dv d held a n h.mkr h.d h.below.size (own_reads' h.h) (own_cap h.h).1 h.seps hH hD hat hn1 hn2).mono ?_
  rintro e w5 ⟨rfl, hs5, dv5, hm5, ho5⟩
  exact ⟨rfl, dv5, h.copied hs5 hm5 ho5⟩
theorem Mst.flushC {w W : World} {g M nh ch : Nat} {Ah : Option Addr} {base d held : List Int} {dv : Value} (h : Mst w g M base dv (.slice Ah nh ch) d held W) (hn : nh = held.length) (hH : held.length ≤ 1073741824) (hD : d.length ≤ 1073741824) :
    Calls Try.prog 58 #[.pointer (some ⟨g, 0, none⟩)] W fun e W' => e = .returned (.tuple #[]) ∧ ∃ A m c, Mkr W' g (.slice A m c) (.slice none 0 0) ∧ Bs 5 W' w.heap.size (.slice A m c) (d ++ flushL held) ∧ Below w.heap.size w W' := by
  subst hn
  refine (flush_calls W g w.heap.size ch Ah dv d held h.mkr h.d h.below.size (own_reads' h.h) (own_cap h.h).1 h.seps hH hD).mono ?_
  rintro e w5 ⟨rfl, hs5, dv5, hm5, ho5⟩
  obtain ⟨A, m, c, rfl, _, _⟩ := Bs.open_ ho5
  exact ⟨rfl, A, m, c, hm5, ho5, hs5.below h.below h.below.size h.gw (fun i hi => own_base h.d i (by rw [← h.mkr.row]; exact hi))⟩
end Go.Proofs.Ytiocipmnmjpkfaa
