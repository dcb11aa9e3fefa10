/- maker.flush: what is held is inserted, 127 bytes at a time. -/
import Derived.Test.YtiocipmnmjpkfaaHChunk
import Derived.Deep.AppendLies
namespace Go.Proofs.Ytiocipmnmjpkfaa
set_option linter.unusedVariables false
set_option linter.unusedSimpArgs false
open Go.RowKit Go.Shelf Go.Proofs.YtiocipmnmjpkfaaW.PrintWords Go.Proofs.YtiocipmnmjpkfaaW.PrintMore
attribute [local go_sem] Oper.semAt_some

/-- The block of a row that stands in a state's first cell. -/
def rowOf (W : World) (g : Nat) : Option Nat := match W.heap[g]? with
  | some (.cells cs _ _) => (cs[0]?).bind Value.ownBlock
  | _ => none
theorem rowOf_eq {W : World} {g : Nat} {cs : Array Value} {t : TypeId} {m : Nat × Nat} {v : Value} (h : W.heap[g]? = some (.cells cs t m)) (h0 : cs[0]? = some v) : rowOf W g = v.ownBlock := by simp [rowOf, h, h0]
/-- W' is W but for the state g, its row, and what is new. -/
structure SF (g : Nat) (W W' : World) : Prop where
  os : W'.os = W.os
  tape : W'.tape = W.tape
  output : W'.output = W.output
  size : W.heap.size ≤ W'.heap.size
  keep : ∀ i, i < W.heap.size → i ≠ g → rowOf W g ≠ some i → W'.heap[i]? = W.heap[i]?
  row : rowOf W' g = rowOf W g ∨ ∃ b, rowOf W' g = some b ∧ W.heap.size ≤ b
theorem SF.refl (g : Nat) (W : World) : SF g W W := ⟨rfl, rfl, rfl, Nat.le_refl _, fun _ _ _ _ => rfl, .inl rfl⟩
theorem SF.trans {g : Nat} {W W1 W2 : World} (h : SF g W W1) (k : SF g W1 W2) : SF g W W2 := by
  refine ⟨k.os.trans h.os, k.tape.trans h.tape, k.output.trans h.output, Nat.le_trans h.size k.size, fun i hi hg hr => ?_, ?_⟩
  · refine (k.keep i (Nat.lt_of_lt_of_le hi h.size) hg ?_).trans (h.keep i hi hg hr)
    rcases h.row with e | ⟨b, e, hb⟩
    · rw [e]; exact hr
    · rw [e]
      intro hc
      cases hc
      omega
  · rcases k.row with e | ⟨b, e, hb⟩
    · rcases h.row with e2 | ⟨b, e2, hb⟩
      · exact .inl (e.trans e2)
      · exact .inr ⟨b, e.trans e2, hb⟩
    · exact .inr ⟨b, e, Nat.le_trans h.size hb⟩
theorem SF.below {g B : Nat} {w W W' : World} (h : SF g W W') (hb : Below B w W) (hB : B ≤ W.heap.size) (hg : B ≤ g) (hr : ∀ i, rowOf W g = some i → B ≤ i) : Below B w W' :=
  ⟨h.os.trans hb.os, h.tape.trans hb.tape, h.output.trans hb.output, Nat.le_trans hb.size h.size, fun i hi => (h.keep i (by omega) (by omega) (fun e => by have := hr i e; omega)).trans (hb.block i hi)⟩
theorem SF.put {g : Nat} {W W1 : World} (h : SF g W W1) {cs : Array Value} {t : TypeId} (hb : W1.heap[g]? = some (.cells cs t (0, 0))) (j : Nat) (u : Value)
    (hr : ((cs.setIfInBounds j u)[0]?).bind Value.ownBlock = rowOf W1 g ∨ ∃ b, ((cs.setIfInBounds j u)[0]?).bind Value.ownBlock = some b ∧ W.heap.size ≤ b) : SF g W (W1.setCell ⟨g, j, none⟩ u) := by
  have hb2 := blk_set hb j u
  have hrow : rowOf (W1.setCell ⟨g, j, none⟩ u) g = ((cs.setIfInBounds j u)[0]?).bind Value.ownBlock := by simp only [rowOf, hb2]
  refine ⟨h.os, h.tape, h.output, by simpa [World.setCell] using h.size, fun i hi hg hri => (Below.heap_setCell W1 ⟨g, j, none⟩ u i hg).trans (h.keep i hi hg hri), ?_⟩
  rw [hrow]
  rcases hr with e | e
  · rw [e]; exact h.row
  · exact .inr e
theorem SF.grow {g : Nat} {W W1 W2 : World} (h : SF g W W1) (hlt : g < W1.heap.size) (hg : W1.grownBy W2 (rowOf W1 g)) (hne : rowOf W1 g ≠ some g) : SF g W W2 := by
  have hrow : rowOf W2 g = rowOf W1 g := by
    have := hg.block g hlt (fun e => hne e.symm)
    simp only [rowOf, this]
  refine ⟨hg.os.trans h.os, hg.tape.trans h.tape, hg.output.trans h.output, Nat.le_trans h.size hg.size, fun i hi hgi hri => ?_, by rw [hrow]; exact h.row⟩
  refine (hg.block i (Nat.lt_of_lt_of_le hi h.size) fun e => ?_).trans (h.keep i hi hgi hri)
  rcases h.row with e2 | ⟨b, e2, hb⟩
  · rw [e2] at e; exact hri e.symm
  · rw [e2] at e
    cases e
    omega
theorem SF.alloc {g : Nat} {W W1 : World} (h : SF g W W1) (hlt : g < W1.heap.size) (o : Obj) : SF g W (W1.alloc o) := by
  have hrow : rowOf (W1.alloc o) g = rowOf W1 g := by
    have := Below.heap_alloc W1 o g hlt
    simp only [rowOf, this]
  refine ⟨h.os, h.tape, h.output, Nat.le_trans h.size (by simp), fun i hi hgi hri => (Below.heap_alloc W1 o i (Nat.lt_of_lt_of_le hi h.size)).trans (h.keep i hi hgi hri), by rw [hrow]; exact h.row⟩
theorem SF.drew {g : Nat} {W W1 : World} (h : SF g W W1) : SF g W W1.drew := ⟨h.os, h.tape, h.output, h.size, h.keep, h.row⟩
theorem SF.drewN {g : Nat} {W W1 : World} (h : SF g W W1) (n : Nat) : SF g W (W1.drewN n) := ⟨h.os, h.tape, h.output, h.size, h.keep, h.row⟩
/-- A maker at g: what is written, what is held. -/
def Mkr (W : World) (g : Nat) (dv hv : Value) : Prop := W.heap[g]? = some (.cells #[dv, hv] 69 (0, 0))
theorem Mkr.c0 {W : World} {g : Nat} {dv hv : Value} (h : Mkr W g dv hv) : W.cell? ⟨g, 0, none⟩ = some dv := (blk_cell h 0).trans rfl
theorem Mkr.c1 {W : World} {g : Nat} {dv hv : Value} (h : Mkr W g dv hv) : W.cell? ⟨g, 1, none⟩ = some hv := (blk_cell h 1).trans rfl
theorem Mkr.f {W : World} {g : Nat} {dv hv : Value} (h : Mkr W g dv hv) (j : Nat) : W.frozen? ⟨g, j, none⟩ = false := blk_frozen h j
theorem Mkr.set0 {W : World} {g : Nat} {dv hv : Value} (h : Mkr W g dv hv) (x : Value) : Mkr (W.setCell ⟨g, 0, none⟩ x) g x hv := blk_set h 0 _
theorem Mkr.set1 {W : World} {g : Nat} {dv hv : Value} (h : Mkr W g dv hv) (x : Value) : Mkr (W.setCell ⟨g, 1, none⟩ x) g dv x := blk_set h 1 _
theorem Mkr.ne {W : World} {g B : Nat} {dv hv v : Value} {out : List Int} (h : Mkr W g dv hv) (hO : Bs 5 W B v out) : v.ownBlock ≠ some g := by
  intro he
  obtain ⟨cells, hc⟩ := own_typed hO g he
  rw [show W.heap[g]? = _ from h] at hc
  cases hc
theorem Mkr.row {W : World} {g : Nat} {dv hv : Value} (h : Mkr W g dv hv) : rowOf W g = dv.ownBlock := rowOf_eq h rfl
/-- A chunk's bytes, with their number ahead. -/
def ckB (H : List Int) (k : Nat) : List Int := (ckLen H.length k : Int) :: (H.drop (127 * k)).take (ckLen H.length k)
def ckBs (H : List Int) : List Nat → List Int
  | [] => []
  | k :: r => ckB H k ++ ckBs H r
theorem ckBs_snoc (H : List Int) : ∀ (l : List Nat) (k : Nat), ckBs H (l ++ [k]) = ckBs H l ++ ckB H k := by
  intro l
  induction l with
  | nil => intro k; simp [ckBs]
  | cons x r ih => intro k; simp only [List.cons_append, ckBs, ih, List.append_assoc]
theorem ckBs_len (H : List Int) : ∀ (l : List Nat), (ckBs H l).length ≤ 128 * l.length := by
  intro l
  induction l with
  | nil => simp [ckBs]
  | cons x r ih => simp only [ckBs, ckB, List.length_append, List.length_cons, List.length_take, ckLen]; omega
/-- What flush writes. -/
def flushL (H : List Int) : List Int := ckBs H (List.range ((H.length + 126) / 127))
theorem ko_grown {W W1 : World} {B n : Nat} {v : Value} {xs : List Value} (ho : W.ownsRow B 5 1 v n xs) (hg : W.grownBy W1 v.ownBlock) : KeepsOthers W W1 := by
  refine ⟨hg.size, fun k o hk hc => ?_⟩
  refine (hg.block k (Array.getElem?_eq_some_iff.1 hk).1 fun he => ?_).trans hk
  obtain ⟨cells, hb⟩ := own_typed ho k he.symm
  rw [hk] at hb
  cases hb
  simp [Obj.isCells] at hc
theorem SF.putObj {g D : Nat} {W W1 : World} (h : SF g W W1) (o : Obj) (hD : W.heap.size ≤ D) (hg : g ≠ D) : SF g W (W1.putObj D o) := by
  have hp := grownBy_putObj' W1 D o
  have hrow : rowOf (W1.putObj D o) g = rowOf W1 g := by
    have : (W1.putObj D o).heap[g]? = W1.heap[g]? := World.putObj_heap_other hg
    simp only [rowOf, this]
  refine ⟨hp.os.trans h.os, hp.tape.trans h.tape, hp.output.trans h.output, Nat.le_trans h.size hp.size, fun i hi hgi hri => ?_, by rw [hrow]; exact h.row⟩
  exact (World.putObj_heap_other (by omega)).trans (h.keep i hi hgi hri)
theorem reads_of_block {W W' : World} {k : IntKind} {a : Addr} {n : Nat} {xs : List Int} (h : ReadsInt W k (some a) n xs) (hb : W'.heap[a.block]? = W.heap[a.block]?) : ReadsInt W' k (some a) n xs := by
  refine ⟨h.1, h.2.1, fun hn => ?_⟩
  obtain ⟨ad, he, hc⟩ := h.2.2 hn
  cases he
  refine ⟨a, rfl, fun j hj => ?_⟩
  have hbk : W'.heap[(a.add j).block]? = W.heap[(a.add j).block]? := by rw [add_block]; exact hb
  exact (World.cell?_of_block hbk).trans (hc j hj)
def notDefer (o : Oper) : Bool := match o.op with
  | .defer _ => false
  | _ => true
theorem notDefer_all {ops : Array Oper} (h : ops.all notDefer = true) : ∀ o ∈ ops, ∀ c, o.op ≠ .defer c := by
  intro o ho c hc
  have := Array.all_eq_true_iff_forall_mem.1 h o ho
  simp [notDefer, hc] at this
/-- Between two rounds of flush. -/
def FlI (W3 : World) (g B : Nat) (D H : List Int) (hv : Value) (pre : List (Ck H.length)) (W : World) : Prop :=
  ∃ dv, Mkr W g dv hv ∧ Bs 5 W B dv (D ++ ckBs H (pre.map Subtype.val)) ∧ SF g W3 W
theorem flI_own (W3 : World) (g B : Nat) (D H : List Int) (hv : Value) : OwnFrom W3.heap.size (FlI W3 g B D H hv) := by
  rintro pre W W' row ⟨dv, hM, hO, hS⟩ hg hr
  have hcell : ∀ (k : Nat) (cs : Array Value) (t : TypeId) (fr : Nat × Nat), W.heap[k]? = some (Obj.cells cs t fr) → W'.heap[k]? = W.heap[k]? := by
    intro k cs t fr hk
    refine hg.block k (Array.getElem?_eq_some_iff.1 hk).1 fun he => ?_
    obtain ⟨_, o, ho, hc⟩ := hr k he.symm
    rw [hk] at ho
    cases ho
    simp [Obj.isCells] at hc
  have hM' : Mkr W' g dv hv := (hcell g _ _ _ hM).trans hM
  refine ⟨dv, hM', own_move hO fun k hk => ?_, ?_⟩
  · obtain ⟨cells, hb⟩ := own_typed hO k hk
    exact hcell k _ _ _ hb
  · refine ⟨hg.os.trans hS.os, hg.tape.trans hS.tape, hg.output.trans hS.output, Nat.le_trans hS.size hg.size, fun i hi hig hir => ?_, ?_⟩
    · refine (hg.block i (Nat.lt_of_lt_of_le hi hS.size) fun he => ?_).trans (hS.keep i hi hig hir)
      have := (hr i he.symm).1
      omega
    · rw [hM'.row, ← hM.row]
      exact hS.row
set_option maxRecDepth 100000 in
set_option maxHeartbeats 4000000 in
theorem flush_calls (W : World) (g B c : Nat) (A : Option Addr) (dv : Value) (D H : List Int) (hM : Mkr W g dv (.slice A H.length c)) (hO : Bs 5 W B dv D) (hB : B ≤ W.heap.size) (hH : ReadsInt W .u8 A H.length H) (hc : H.length ≤ c)
    (hsep : ∀ ad, A = some ad → ad.block < W.heap.size ∧ ad.block ≠ g ∧ dv.ownBlock ≠ some ad.block) (hmH : H.length ≤ 1073741824) (hmD : D.length ≤ 1073741824) :
    Calls Try.prog 58 #[.pointer (some ⟨g, 0, none⟩)] W fun e W' => e = .returned (.tuple #[]) ∧ SF g W W' ∧ ∃ dv', Mkr W' g dv' (.slice none 0 0) ∧ Bs 5 W' B dv' (D ++ flushL H) := by
  refine (callsIn_wide (n := 9)).1 ?_
  refine callsIn_of_wp_marks Try.func58 rfl trivial ?_ rfl
  simp only [Try.ntmps58, List.size_toArray, List.length_cons, List.length_nil, Nat.reduceAdd, Nat.reduceSub, Array.replicate_succ, Array.replicate_zero, List.push_toArray, List.append_toArray, List.nil_append, List.cons_append]
  have hgl := blk_lt hM
  have hM1 : Mkr (W.alloc (.cells #[.pointer (some ⟨g, 0, none⟩)] 67)) g dv (.slice A H.length c) := (Below.heap_alloc W _ g hgl).trans hM
  have c1 := hM1.c1
  have cb : (W.alloc (.cells #[.pointer (some ⟨g, 0, none⟩)] 67)).heap[W.heap.size]? = some (.cells #[.pointer (some ⟨g, 0, none⟩)] 67 (0, 0)) := heap_alloc_new W _
  have cc0 := blk_cell cb 0
  gi_wp2
  refine ⟨trivial, ?_⟩
  refine (chunk_in 8 A H.length c _).mono ?_
  rintro e w' ⟨rfl, rfl⟩
  gi_wp2
  obtain ⟨W3, hW3⟩ : ∃ W3, (((W.alloc (.cells #[.pointer (some ⟨g, 0, none⟩)] 67)).alloc (.cells #[.slice A H.length c] 22)).alloc (.cells #[.int .i64 127] 3)) = W3 := ⟨_, rfl⟩
  have hsz : W3.heap.size = W.heap.size + 3 := by rw [← hW3]; simp
  have k1 : W3.heap[W.heap.size]? = some (.cells #[.pointer (some ⟨g, 0, none⟩)] 67 (0, 0)) := by
    rw [← hW3]
    exact (Below.heap_alloc _ _ _ (by simp; omega)).trans ((Below.heap_alloc _ _ _ (by simp)).trans cb)
  have k2 : W3.heap[W.heap.size + 1]? = some (.cells #[.slice A H.length c] 22 (0, 0)) := by
    rw [← hW3]
    refine (Below.heap_alloc _ _ _ (by simp)).trans ?_
    have := heap_alloc_new (W.alloc (.cells #[.pointer (some ⟨g, 0, none⟩)] 67)) (.cells #[.slice A H.length c] 22)
    rwa [World.size_alloc] at this
  have k3 : W3.heap[W.heap.size + 2]? = some (.cells #[.int .i64 127] 3 (0, 0)) := by
    rw [← hW3]
    have := heap_alloc_new ((W.alloc (.cells #[.pointer (some ⟨g, 0, none⟩)] 67)).alloc (.cells #[.slice A H.length c] 22)) (.cells #[.int .i64 127] 3)
    rwa [World.size_alloc, World.size_alloc] at this
  have hSF : SF g W W3 := by rw [← hW3]; exact (((SF.refl g W).alloc hgl _).alloc (by simp; omega) _).alloc (by simp; omega) _
  have hM3 : Mkr W3 g dv (.slice A H.length c) := by
    refine Eq.trans ?_ hM
    rw [← hW3]
    exact (Below.heap_alloc _ _ _ (by simp; omega)).trans ((Below.heap_alloc _ _ _ (by simp; omega)).trans (Below.heap_alloc _ _ _ hgl))
  have hO3 : Bs 5 W3 B dv D := own_move hO fun k hk => by
    have hkl := own_lt hO k hk
    rw [← hW3]
    exact (Below.heap_alloc _ _ _ (by simp; omega)).trans ((Below.heap_alloc _ _ _ (by simp; omega)).trans (Below.heap_alloc _ _ _ hkl))
  rw [hW3]
  clear hW3 c1 cc0 cb hM1
  have hrow3 : ∀ k, rowOf W3 g = some k → k < W.heap.size := fun k hk => own_lt hO k (by rw [← hM3.row]; exact hk)
  have hbox : ∀ W', SF g W3 W' → W'.heap[W.heap.size]? = some (.cells #[.pointer (some ⟨g, 0, none⟩)] 67 (0, 0)) := fun W' hS => (hS.keep _ (by omega) (by omega) (fun e => absurd (hrow3 _ e) (by omega))).trans k1
  have hboxes : ∀ W', SF g W3 W' → W'.heap[W.heap.size + 1]? = W3.heap[W.heap.size + 1]? ∧ W'.heap[W.heap.size + 1 + 1]? = W3.heap[W.heap.size + 1 + 1]? := fun W' hS => ⟨hS.keep _ (by omega) (by omega) (fun e => absurd (hrow3 _ e) (by omega)), hS.keep _ (by omega) (by omega) (fun e => absurd (hrow3 _ e) (by omega))⟩
  refine wpIn_rangeFunc_ownG rfl (by decide) (gf := 68) (lb := #[.pointer (some ⟨W.heap.size + 1, 0, none⟩), .pointer (some ⟨W.heap.size + 1 + 1, 0, none⟩)]) rfl trivial (enters_of Try.func68 (by kernel_rfl) rfl)
    (chunk_stops 8 (by decide) (W.heap.size + 1) (W.heap.size + 1 + 1) H.length c A hc (by omega) W3 (by omega) (by omega) (blk_cell k2 0) (blk_cell k3 0)) (fun h k => h.trans k)
    (fun W' l o o' hl _ _ _ => ⟨World.putObj_heap_other (by omega), World.putObj_heap_other (by omega)⟩) (Below.refl _ _) (fun _ => rfl)
    (FlI W3 g B D H (.slice A H.length c)) (fun _ _ _ => False) (flI_own _ _ _ _ _ _) (fun _ _ _ _ _ h _ _ => h) ⟨dv, hM3, by simpa [ckBs] using hO3, SF.refl g W3⟩
    (fun x => { tmps := #[.pointer (some ⟨g, 0, none⟩), .pointer (some ⟨W.heap.size, 0, none⟩), .slice (A.map (·.add (127 * x.1))) (ckLen H.length x.1) (ckLen H.length x.1), .pointer (some ⟨g, 0, none⟩), .pointer (some ⟨g, 0, none⟩), .pointer (some ⟨g, 1, none⟩), .slice A H.length c, .func (.func 68) #[] #[.pointer (some ⟨W.heap.size + 1, 0, none⟩), .pointer (some ⟨W.heap.size + 1 + 1, 0, none⟩)], .slice (A.map (·.add (127 * x.1))) (ckLen H.length x.1) (ckLen H.length x.1), undef, undef, undef, undef, undef, undef, undef, undef, undef, undef, undef, undef, undef, undef, undef, undef, undef], defers := [] }) ?assign ?body ?done ?stop
  case assign =>
    intro l x W' K hK
    simp only [ckVal]
    gi_wp2
    exact hK
  case body =>
    rintro l pre x W1 ⟨dv1, hM1, hO1, hS1⟩ hlen
    gi_wp2
    obtain ⟨ad, rfl, hcell⟩ := hH.2.2 (by have := x.2; omega)
    simp only [Option.map_some]
    have hm0 : 0 < ckLen H.length x.1 := by have := x.2; unfold ckLen; omega
    have hm1 : ckLen H.length x.1 ≤ 127 := by unfold ckLen; omega
    have hm2 : 127 * x.1 + ckLen H.length x.1 ≤ H.length := by have := x.2; unfold ckLen; omega
    generalize hmm : ckLen H.length x.1 = m at *
    have hw8 : IntKind.u8.wrap (m : Int) = m := by rw [IntKind.wrap_u8]; omega
    refine region_round (by kernel_rfl) (fun _ _ h => h) (notDefer_all (by kernel_rfl)) ?_
    have hSS : (fun w : World => w.cell? ⟨W.heap.size, 0, none⟩ = some (.pointer (some ⟨g, 0, none⟩))) W1.drew := blk_cell (hbox W1 hS1) 0
    refine wpAny_of_held (S := fun w => w.cell? ⟨W.heap.size, 0, none⟩ = some (.pointer (some ⟨g, 0, none⟩))) _ _ _ _ ?_
    refine wpAnyH_take (i := 0) (v := .pointer (some ⟨g, 0, none⟩)) rfl (by kernel_rfl) (by kernel_rfl) (by kernel_rfl) (fun _ _ _ h => h) (Or.inl ⟨by rfl, ?y0⟩) hSS ?_
    case y0 => intro w hSw; (try dsimp only at hSw); go_simp; done
    (try simp only [Act.put, List.setIfInBounds_toArray, List.set_cons_zero, List.set_cons_succ])
    refine wpAnyH_take (i := 1) (v := .pointer (some ⟨g, 0, none⟩)) rfl (by kernel_rfl) (by kernel_rfl) (by kernel_rfl) (fun _ _ _ h => h) (Or.inl ⟨by rfl, ?y1⟩) hSS ?_
    case y1 => intro w hSw; (try dsimp only at hSw); go_simp; done
    (try simp only [Act.put, List.setIfInBounds_toArray, List.set_cons_zero, List.set_cons_succ])
    refine wpAnyH_take (i := 2) (v := .pointer (some ⟨g, 0, none⟩)) rfl (by kernel_rfl) (by kernel_rfl) (by kernel_rfl) (fun _ _ _ h => h) (Or.inl ⟨by rfl, ?y2⟩) hSS ?_
    case y2 => intro w hSw; (try dsimp only at hSw); go_simp; done
    (try simp only [Act.put, List.setIfInBounds_toArray, List.set_cons_zero, List.set_cons_succ])
    refine wpAnyH_take (i := 3) (v := .pointer (some ⟨g, 0, none⟩)) rfl (by kernel_rfl) (by kernel_rfl) (by kernel_rfl) (fun _ _ _ h => h) (Or.inl ⟨by rfl, ?y3⟩) hSS ?_
    case y3 => intro w hSw; (try dsimp only at hSw); go_simp; done
    (try simp only [Act.put, List.setIfInBounds_toArray, List.set_cons_zero, List.set_cons_succ])
    refine wpAnyH_take (i := 5) (v := .slice (some (ad.add (127 * x.1))) m m) rfl (by kernel_rfl) (by kernel_rfl) (by kernel_rfl) (fun _ _ _ h => h) (Or.inl ⟨by rfl, ?y5⟩) hSS ?_
    case y5 => intro w hSw; (try dsimp only at hSw); go_simp; done
    (try simp only [Act.put, List.setIfInBounds_toArray, List.set_cons_zero, List.set_cons_succ])
    refine wpAnyH_take (i := 6) (v := .int .i64 m) rfl (by kernel_rfl) (by kernel_rfl) (by kernel_rfl) (fun _ _ _ h => h) (Or.inl ⟨by rfl, ?y6⟩) hSS ?_
    case y6 => intro w hSw; (try dsimp only at hSw); go_simp; done
    (try simp only [Act.put, List.setIfInBounds_toArray, List.set_cons_zero, List.set_cons_succ])
    refine wpAnyH_take (i := 7) (v := .int .u8 m) rfl (by kernel_rfl) (by kernel_rfl) (by kernel_rfl) (fun _ _ _ h => h) (Or.inl ⟨by rfl, ?y7⟩) hSS ?_
    case y7 => intro w hSw; (try dsimp only at hSw); go_simp; done
    (try simp only [Act.put, List.setIfInBounds_toArray, List.set_cons_zero, List.set_cons_succ])
    refine wpAnyH_take (i := 10) (v := .slice (some (ad.add (127 * x.1))) m m) rfl (by kernel_rfl) (by kernel_rfl) (by kernel_rfl) (fun _ _ _ h => h) (Or.inl ⟨by rfl, ?y10⟩) hSS ?_
    case y10 => intro w hSw; (try dsimp only at hSw); go_simp; done
    (try simp only [Act.put, List.setIfInBounds_toArray, List.set_cons_zero, List.set_cons_succ])
    have c0 : W1.drew.cell? ⟨g, 0, none⟩ = some dv1 := hM1.c0
    obtain ⟨Ad, nd, cdv, rfl, hO1', hNd⟩ := Bs.open_ hO1
    have hS8 : (fun w : World => w.cell? ⟨W.heap.size, 0, none⟩ = some (.pointer (some ⟨g, 0, none⟩))) (W1.drew.alloc (.cells #[.int .u8 m] 5)) := by
      have := hbox W1 hS1
      exact blk_cell ((Below.heap_alloc W1.drew _ _ (blk_lt this)).trans this) 0
    have c08 : (W1.drew.alloc (.cells #[.int .u8 m] 5)).cell? ⟨g, 0, none⟩ = some (.slice Ad nd cdv) := blk_cell ((Below.heap_alloc W1.drew _ g (blk_lt hM1)).trans hM1) 0
    obtain ⟨i0, hi0, hz0, hsz0, hby0⟩ := info_parts infoU8
    have hnd : nd = (D ++ ckBs H (pre.map Subtype.val)).length := hNd.out
    have hcl := ckBs_len H (pre.map Subtype.val)
    rw [List.length_map] at hcl
    rw [List.length_append] at hnd
    have hndb : nd ≤ 1000000000000 := by omega
    clear hnd hcl
    have hpr := hrow3
    have hsp := hsep ad rfl
    have hszW : W.heap.size + 3 ≤ W1.heap.size := by have := hS1.size; omega
    have hrow1 : ∀ k, (Value.slice Ad nd cdv).ownBlock = some k → k ≠ ad.block ∧ k ≠ W.heap.size ∧ k ≠ W.heap.size + 1 ∧ k ≠ W.heap.size + 1 + 1 := by
      intro k hk
      rcases hS1.row with e | ⟨b, e, hb⟩
      · rw [hM1.row, hM3.row, hk] at e
        have h1 := own_lt hO k e.symm
        refine ⟨fun h => hsp.2.2 (by rw [← e, h]), by omega, by omega, by omega⟩
      · rw [hM1.row, hk] at e
        cases e
        omega
    have hne1 : some ad.block ≠ (Value.slice Ad nd cdv).ownBlock := fun e => (hrow1 _ e.symm).1 rfl
    have hneb : some W.heap.size ≠ (Value.slice Ad nd cdv).ownBlock := fun e => (hrow1 _ e.symm).2.1 rfl
    have hadl : ad.block < W1.heap.size := by omega
    have hadb : W1.heap[ad.block]? = W.heap[ad.block]? := (hS1.keep _ (by omega) hsp.2.1 (fun e => hsp.2.2 (by rw [← hM3.row]; exact e))).trans (hSF.keep _ hsp.1 hsp.2.1 (fun e => hsp.2.2 (by rw [← hM.row]; exact e)))
    have hpc : ReadsInt W .u8 (some (ad.add (127 * x.1))) m ((H.drop (127 * x.1)).take m) := by
      have h1 := (hH.drop_ (127 * x.1) (by omega) hc).take_ m (by omega)
      rw [if_neg (by omega)] at h1
      exact h1
    have hcl2 : ((H.drop (127 * x.1)).take m).length = m := by rw [List.length_take, List.length_drop]; omega
    have HADB := Lib.hid hadb
    have HPC := Lib.hid hpc
    have HCL2 := Lib.hid hcl2
    clear hadb hpc hcl2
    have hO8 : (W1.drew.alloc (.cells #[.int .u8 m] 5)).ownsRow B 5 1 (.slice Ad nd cdv) nd (nums .u8 (D ++ ckBs H (pre.map Subtype.val))) := pw_own_below (w := W1) hO1'.out (below_alloc (w := W1) (W := W1.drew) (below_drew (Below.refl _ _)) _)
    have hn8 : ∀ j u, [Value.int .u8 (m : Int)][j]? = some u → (W1.drew.alloc (.cells #[.int .u8 m] 5)).cell? ((⟨W1.heap.size, 0, none⟩ : Addr).add j) = some u := World.news_of_block (heap_alloc_new W1.drew _)
    have HROW1 := Lib.hid hrow1
    have HO8 := Lib.hid hO8
    have HN8 := Lib.hid hn8
    have HNE1 := Lib.hid hne1
    have HNEB := Lib.hid hneb
    have HSP := Lib.hid hsp
    have HSEP := Lib.hid hsep
    have HR3 := Lib.hid hrow3
    have HBX := Lib.hid hbox
    have HBXS := Lib.hid hboxes
    have HCL := Lib.hid hcell
    clear hrow1 hO8 hn8 hne1 hneb hsp hsep hrow3 hpr hbox hboxes hcell
    have c08b : (W1.alloc (.cells #[.int .u8 m] 5)).cell? ⟨g, 0, none⟩ = some (.slice Ad nd cdv) := c08
    refine wpAnyH_ready (rs := [4, 8]) (by kernel_rfl) (by simp) ?_
    refine AllReadyH.cons rfl (fun K hK => ?_) (AllReadyH.cons rfl (fun K hK => ?_) AllReadyH.nil)
    go_simp
    refine hK.out _ _ hSS (fun _ => ?_)
    clear hK K
    (try simp only [Act.put, List.setIfInBounds_toArray, List.set_cons_zero, List.set_cons_succ])
    refine wpAnyH_ready (rs := [8]) (by kernel_rfl) (by simp) ?_
    refine AllReadyH.cons rfl (fun K hK => ?_) AllReadyH.nil
    go_simp
    refine hK.out _ _ hS8 (fun _ => ?_)
    clear hK K
    (try simp only [Act.put, List.setIfInBounds_toArray, List.set_cons_zero, List.set_cons_succ])
    rotate_left
    go_simp
    refine hK.out _ _ hS8 (fun _ => ?_)
    clear hK K
    (try simp only [Act.put, List.setIfInBounds_toArray, List.set_cons_zero, List.set_cons_succ])
    refine wpAnyH_ready (rs := [4]) (by kernel_rfl) (by simp) ?_
    refine AllReadyH.cons rfl (fun K hK => ?_) AllReadyH.nil
    go_simp
    refine hK.out _ _ hS8 (fun _ => ?_)
    clear hK K
    (try simp only [Act.put, List.setIfInBounds_toArray, List.set_cons_zero, List.set_cons_succ])
    all_goals
      refine wpAnyH_ready (rs := [9]) (by kernel_rfl) (by simp) ?_
      refine AllReadyH.cons rfl (fun K hK => ?_) AllReadyH.nil
      refine step_append_lies _ (by rfl) (.tmp 13) (.tmp 17) 22 (by rfl) B 5 i0 (.int .u8 0) 1 1 Try.underlying22 hi0 hz0 hsz0 hby0 rfl (by omega) (.slice Ad nd cdv) nd _ (by rfl) HO8.out ⟨W1.heap.size, 0, none⟩ 1 1 [.int .u8 m] (by rfl) (by rfl) HN8.out (by simp [Value.oneCell']) (by omega) (by simp only [maxLen]; omega) (by omega) (by simp; omega) _ rfl ?_
      intro g9 cap9 w9 hown9 hg9 hat9 hlt9
      have hb9 : w9.heap[ad.block]? = W1.heap[ad.block]? := (hg9.block _ (by simp; omega) HNE1.out).trans (Below.heap_alloc W1.drew _ _ hadl)
      have hM9 : Mkr w9 g (.slice Ad nd cdv) (.slice (some ad) H.length c) := (hg9.block _ (by simp; omega) (fun e => hM1.ne hO1 e.symm)).trans ((Below.heap_alloc W1.drew _ g (blk_lt hM1)).trans hM1)
      have hx9 : w9.heap[W.heap.size]? = some (.cells #[.pointer (some ⟨g, 0, none⟩)] 67 (0, 0)) := (hg9.block _ (by simp; omega) HNEB.out).trans ((Below.heap_alloc W1.drew _ _ (blk_lt (HBX.out W1 hS1))).trans (HBX.out W1 hS1))
      refine hK.out _ _ (blk_cell hx9 0) (fun _ => ?_)
      clear hK K
      (try simp only [Act.put, List.setIfInBounds_toArray, List.set_cons_zero, List.set_cons_succ])
      have hr9 := (reads_of_block HPC.out (W' := w9) (by rw [add_block]; exact hb9.trans HADB.out))
      have hn11 := ReadsInt.cells (l := (H.drop (127 * x.1)).take m) (by rw [HCL2.out]; exact hr9) _ rfl
      refine wpAnyH_ready (rs := [11]) (by kernel_rfl) (by simp) ?_
      refine AllReadyH.cons rfl (fun K hK => ?_) AllReadyH.nil
      refine step_append_lies _ (by rfl) (.tmp 18) (.tmp 19) 22 (by rfl) B 5 i0 (.int .u8 0) 1 1 Try.underlying22 hi0 hz0 hsz0 hby0 rfl (by omega) (.slice (some ⟨g9, 0, none⟩) (nd + 1) cap9) (nd + 1) _ (by rfl) hown9 (ad.add (127 * x.1)) m m (nums .u8 ((H.drop (127 * x.1)).take m)) (by rfl) (by rw [Nat.mul_one]; simp only [nums, List.length_map]; exact HCL2.out) hn11 (by intro u hu; simp only [nums, List.mem_map] at hu; obtain ⟨q, _, rfl⟩ := hu; rfl) hm0 (by simp only [maxLen]; omega) (by omega) (by have := hg9.size; simp at this; omega) _ rfl ?_
      intro g11 cap11 w11 hown11 hg11 hat11 hlt11
      have hgne9 : some g ≠ (Value.slice (some ⟨g9, 0, none⟩) (nd + 1) cap9).ownBlock := by
        intro e
        obtain ⟨cells, hc9⟩ := own_typed hown9 g e.symm
        rw [show w9.heap[g]? = _ from hM9] at hc9
        cases hc9
      have hxne9 : some W.heap.size ≠ (Value.slice (some ⟨g9, 0, none⟩) (nd + 1) cap9).ownBlock := by
        intro e
        obtain ⟨cells, hc9⟩ := own_typed hown9 _ e.symm
        rw [hx9] at hc9
        cases hc9
      have hM11 : Mkr w11 g (.slice Ad nd cdv) (.slice (some ad) H.length c) := (hg11.block _ (blk_lt hM9) hgne9).trans hM9
      have hx11 : w11.heap[W.heap.size]? = some (.cells #[.pointer (some ⟨g, 0, none⟩)] 67 (0, 0)) := (hg11.block _ (blk_lt hx9) hxne9).trans hx9
      have hS11 : (fun w : World => w.cell? ⟨W.heap.size, 0, none⟩ = some (.pointer (some ⟨g, 0, none⟩))) w11 := blk_cell hx11 0
      refine hK.out _ _ hS11 (fun _ => ?_)
      clear hK K
      (try simp only [Act.put, List.setIfInBounds_toArray, List.set_cons_zero, List.set_cons_succ])
      refine wpAnyH_take (i := 12) (v := .pointer (some ⟨g, 0, none⟩)) rfl (by kernel_rfl) (by kernel_rfl) (by kernel_rfl) (fun _ _ _ h => h) (Or.inl ⟨by rfl, ?y12⟩) hS11 ?_
      case y12 => intro w hSw; (try dsimp only at hSw); go_simp; done
      (try simp only [Act.put, List.setIfInBounds_toArray, List.set_cons_zero, List.set_cons_succ])
      refine wpAnyH_take (i := 13) (v := .pointer (some ⟨g, 0, none⟩)) rfl (by kernel_rfl) (by kernel_rfl) (by kernel_rfl) (fun _ _ _ h => h) (Or.inl ⟨by rfl, ?y13⟩) hS11 ?_
      case y13 => intro w hSw; (try dsimp only at hSw); go_simp; done
      (try simp only [Act.put, List.setIfInBounds_toArray, List.set_cons_zero, List.set_cons_succ])
      have c11 := hM11.c0
      have f11 := hM11.f 0
      refine wpAnyH_ready (rs := [14]) (by kernel_rfl) (by simp) ?_
      refine AllReadyH.cons rfl (fun K hK => ?_) AllReadyH.nil
      have HOW9 := Lib.hid hown9
      have HOW11 := Lib.hid hown11
      have HG9 := Lib.hid hg9
      have HG11 := Lib.hid hg11
      have HAT9 := Lib.hid hat9
      have HAT11 := Lib.hid hat11
      clear hown9 hown11 hg9 hg11 hat9 hat11 hn11 hr9 hgne9 hxne9
      go_simp
      have hx14 : (w11.setCell ⟨g, 0, none⟩ (.slice (some ⟨g11, 0, none⟩) (nd + 1 + m) cap11)).heap[W.heap.size]? = some (.cells #[.pointer (some ⟨g, 0, none⟩)] 67 (0, 0)) := (Below.heap_setCell w11 ⟨g, 0, none⟩ _ _ (show W.heap.size ≠ g by omega)).trans hx11
      refine hK.out _ _ (blk_cell hx14 0) (fun _ => ?_)
      clear hK K
      refine wpAnyH_done (by kernel_rfl) ?_ _
      have hsA : W1.heap.size + 1 ≤ w9.heap.size := by have := HG9.out.size; simpa using this
      have hsB : w9.heap.size ≤ w11.heap.size := HG11.out.size
      have hf9 : ∀ i, i < W3.heap.size → rowOf W3 g ≠ some i → some i ≠ (Value.slice Ad nd cdv).ownBlock ∧ i ≠ g9 := by
        intro i hi hr
        have h1 : some i ≠ (Value.slice Ad nd cdv).ownBlock := by
          intro e
          rcases hS1.row with e2 | ⟨b, e2, hb⟩
          · rw [hM1.row, ← e] at e2; exact hr e2.symm
          · rw [hM1.row, ← e] at e2; cases e2; omega
        refine ⟨h1, ?_⟩
        rintro rfl
        rcases HAT9.out with e | e
        · exact h1 e.symm
        · have := hS1.size; simp at e; omega
      have hSFf : SF g W3 (w11.setCell ⟨g, 0, none⟩ (.slice (some ⟨g11, 0, none⟩) (nd + 1 + m) cap11)) := by
        refine ⟨HG11.out.os.trans (HG9.out.os.trans hS1.os), HG11.out.tape.trans (HG9.out.tape.trans hS1.tape), HG11.out.output.trans (HG9.out.output.trans hS1.output), ?_, fun i hi hgi hri => ?_, ?_⟩
        · have := hS1.size; simp [World.setCell]; omega
        · have hf := hf9 i hi hri
          have hiW := hS1.size
          exact (Below.heap_setCell w11 ⟨g, 0, none⟩ _ i hgi).trans ((HG11.out.block i (by omega) (fun e => hf.2 (by simpa [Value.ownBlock] using e))).trans ((HG9.out.block i (by simp; omega) hf.1).trans ((Below.heap_alloc W1.drew _ i (show i < W1.heap.size by omega)).trans (hS1.keep i hi hgi hri))))
        · rw [rowOf_eq (blk_set hM11 0 (.slice (some ⟨g11, 0, none⟩) (nd + 1 + m) cap11)) rfl]
          rcases HAT11.out with e | e
          · have e11 : g9 = g11 := by simpa [Value.ownBlock] using e
            subst e11
            rcases HAT9.out with e9 | e9
            · rcases hS1.row with e2 | ⟨b, e2, hb⟩
              · left
                rw [← e2, hM1.row, e9]
                rfl
              · right
                refine ⟨b, ?_, hb⟩
                rw [← e2, hM1.row, e9]
                rfl
            · right
              exact ⟨g9, rfl, by have := hS1.size; simp at e9; omega⟩
          · right
            exact ⟨g11, rfl, by have := hS1.size; omega⟩
      have hKO : KeepsOthers W1 (w11.setCell ⟨g, 0, none⟩ (.slice (some ⟨g11, 0, none⟩) (nd + 1 + m) cap11)) := ((((KeepsOthers.drew W1).trans (KeepsOthers.alloc W1.drew _)).trans (ko_grown HO8.out HG9.out)).trans (ko_grown HOW9.out HG11.out)).trans (KeepsOthers.setCell _ _ _)
      have hbx1 := HBXS.out W1 hS1
      have hbx2 := HBXS.out _ hSFf
      have hrowf : Bs 5 (w11.setCell ⟨g, 0, none⟩ (.slice (some ⟨g11, 0, none⟩) (nd + 1 + m) cap11)) B (.slice (some ⟨g11, 0, none⟩) (nd + 1 + m) cap11) (D ++ ckBs H ((pre ++ [x]).map Subtype.val)) := by
        have h1 : w11.ownsRow B 5 1 (.slice (some ⟨g11, 0, none⟩) (nd + 1 + m) cap11) (nd + 1 + m) (nums .u8 (D ++ ckBs H (pre.map Subtype.val)) ++ [.int .u8 m] ++ nums .u8 ((H.drop (127 * x.1)).take m)) := HOW11.out
        have h2 : nums .u8 (D ++ ckBs H (pre.map Subtype.val)) ++ [.int .u8 m] ++ nums .u8 ((H.drop (127 * x.1)).take m) = nums .u8 (D ++ ckBs H ((pre ++ [x]).map Subtype.val)) := by
          rw [List.map_append, List.map_singleton, ckBs_snoc, ckB, hmm]
          simp [nums]
        have h3 : (D ++ ckBs H ((pre ++ [x]).map Subtype.val)).length = nd + 1 + m := by
          rw [List.map_append, List.map_singleton, ckBs_snoc, ckB, hmm, hNd.out]
          simp only [List.length_append, List.length_cons, HCL2.out]
          omega
        rw [h2] at h1
        have h4 : Bs 5 w11 B (.slice (some ⟨g11, 0, none⟩) (nd + 1 + m) cap11) (D ++ ckBs H ((pre ++ [x]).map Subtype.val)) := by
          unfold Bs
          rw [h3]
          exact h1
        refine own_move h4 fun k hk => Below.heap_setCell w11 ⟨g, 0, none⟩ _ k ?_
        rintro rfl
        exact hM11.ne h4 hk
      exact (⟨hKO.from _, ⟨hbx2.1.trans hbx1.1.symm, hbx2.2.trans hbx1.2.symm⟩, _, hM11.set0 _, hrowf, hSFf⟩ : KeepsFrom W3.heap.size W1 _ ∧ KBox (W.heap.size + 1) (W.heap.size + 1 + 1) W1 _ ∧ FlI W3 g B D H (.slice (some ad) H.length c) (pre ++ [x]) _)
  case done =>
    rintro D' ys W' hD hys ⟨dv1, hM1, hO1, hS1⟩ hK
    have cb := blk_cell (hbox W' hS1) 0
    have c1 := hM1.c1
    have f1 := hM1.f 1
    gi_wp2
    have hK' := (KeepsOthers.setCell W' ⟨g, 1, none⟩ (.slice none 0 0)).same D' _ hK rfl
    refine ⟨by simp, .inl ⟨_, _, rfl, run_takeDeferred hK', ?_⟩⟩
    have hgD : D' ≠ g := by omega
    have hMf : Mkr ((W'.setCell ⟨g, 1, none⟩ (.slice none 0 0)).putObj D' (.deferred none)) g dv1 (.slice none 0 0) := (World.putObj_heap_other (fun e => hgD e.symm)).trans (hM1.set1 _)
    have hSS : SF g W ((W'.setCell ⟨g, 1, none⟩ (.slice none 0 0)).putObj D' (.deferred none)) := by
      refine SF.putObj ?_ _ (by omega) (fun e => hgD e.symm)
      exact (hSF.trans hS1).put hM1 1 _ (.inl hM1.row.symm)
    have hOf : Bs 5 ((W'.setCell ⟨g, 1, none⟩ (.slice none 0 0)).putObj D' (.deferred none)) B dv1 (D ++ flushL H) := by
      have h1 : Bs 5 W' B dv1 (D ++ flushL H) := by unfold flushL; rw [← hys]; exact hO1
      refine own_move h1 fun k hk => ?_
      obtain ⟨cells, hcb⟩ := own_typed h1 k hk
      have hkg : k ≠ g := fun e => hM1.ne h1 (by rw [hk, e])
      have hkD : D' ≠ k := by
        rintro rfl
        rw [hK] at hcb
        cases hcb
      exact (World.putObj_heap_other (fun e => hkD e.symm)).trans (Below.heap_setCell W' ⟨g, 1, none⟩ _ k hkg)
    exact ⟨_, results_none rfl _ _ _, rfl, hSS, dv1, hMf, hOf⟩
  case stop =>
    rintro D' c' pre W' _ _ h _
    exact h.elim
end Go.Proofs.Ytiocipmnmjpkfaa
