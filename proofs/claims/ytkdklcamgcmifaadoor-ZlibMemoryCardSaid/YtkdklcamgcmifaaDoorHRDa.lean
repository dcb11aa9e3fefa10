/- The document's reader: bits, stored, tables, symbols, lengths, copies. -/
import Derived.Test.YtkdklcamgcmifaaDoorHID
import Derived.Test.YtkdklcamgcmifaaDoorHEndsP
/-! HDocA: The document's reader of bits (codicilref03): bit, fail, put, number. -/
namespace Go.Proofs.YtkdklcamgcmifaaDoor
set_option linter.unusedVariables false
set_option linter.unusedSimpArgs false
open Go.RowKit Go.Proofs.YtkdklcamgcmifaaDoorW.PrintWords Go.Proofs.YtkdklcamgcmifaaDoorW.PrintMore
/-- The stream at g: q bits of p are taken, out is put out, e is what was met. -/
def Bd (w0 : World) (A : Option Addr) (c : Nat) (p : List Int) (most : Nat) (g : Nat) (q : Nat) (out : List Int) (e : Int) (W : World) : Prop :=
  ∃ v : Value, W.heap[g]? = some (.cells #[.slice A p.length c, .int .i64 q, v, .int .i64 most, .int .i64 e] 47 (0, 0)) ∧
    Bs 5 W w0.heap.size v out ∧ q ≤ 8 * p.length ∧ (0 ≤ e ∧ e < 100) ∧ out.length ≤ most ∧ most ≤ 1048576
section
variable {w0 W W' : World} {A : Option Addr} {c most g q : Nat} {p out : List Int} {e : Int}
theorem Bd.lt (h : Bd w0 A c p most g q out e W) : g < W.heap.size := by
  obtain ⟨v, hb, _⟩ := h
  exact blk_lt hb
theorem Bd.row_ge (h : Bd w0 A c p most g q out e W) : ∀ i, rowK 2 W g = some i → w0.heap.size ≤ i ∧ i < W.heap.size := by
  obtain ⟨v, hb, ho, _⟩ := h
  intro i hi
  rw [rowK_eq hb rfl] at hi
  exact ⟨own_base ho i hi, own_lt ho i hi⟩
theorem Bd.row_ne (h : Bd w0 A c p most g q out e W) : rowK 2 W g ≠ some g := by
  obtain ⟨v, hb, ho, _⟩ := h
  intro hi
  rw [rowK_eq hb rfl] at hi
  obtain ⟨cur, hc⟩ := own_typed ho g hi
  rw [hb] at hc
  simp at hc
theorem Bd.keep (h : Bd w0 A c p most g q out e W) (hg : W'.heap[g]? = W.heap[g]?) (hr : ∀ i, rowK 2 W g = some i → W'.heap[i]? = W.heap[i]?) : Bd w0 A c p most g q out e W' := by
  obtain ⟨v, hb, ho, hx⟩ := h
  exact ⟨v, hg.trans hb, own_move ho fun k hk => hr k (by rw [rowK_eq hb rfl]; exact hk), hx⟩
theorem Bd.below (h : Bd w0 A c p most g q out e W) (hb : Below W.heap.size W W') : Bd w0 A c p most g q out e W' :=
  h.keep (hb.block g h.lt) fun i hi => hb.block i (h.row_ge i hi).2
theorem Bd.e_cell (h : Bd w0 A c p most g q out e W) : W.cell? ⟨g, 4, none⟩ = some (.int .i64 e) := by
  obtain ⟨v, hb, _⟩ := h
  exact blk_cell hb 4
theorem Bd.q_le (h : Bd w0 A c p most g q out e W) : q ≤ 8 * p.length := by
  obtain ⟨v, _, _, h1, _⟩ := h
  exact h1
theorem Rw.sk2 (h : Rw w0 A c p g W) (hr : Bd w0 A c p most g q out e W) (hs : SK 2 g W W') : Rw w0 A c p g W' :=
  ⟨h.base, h.rd, h.by_, h.cap, h.len, hs.below h.below (h.below.size) h.base (fun i hi => (hr.row_ge i hi).1), h.ord⟩
/-- Blocks of other kinds stay. -/
theorem SK.block2 (hs : SK 2 g W W') (hr : Bd w0 A c p most g q out e W) {i : Nat} {cs : Array Value} {t : TypeId} {fr : Nat × Nat} (hb : W.heap[i]? = some (.cells cs t fr)) (h1 : t ≠ 47) (h2 : t ≠ 5) : W'.heap[i]? = some (.cells cs t fr) := by
  obtain ⟨v', hb', ho', _⟩ := hr
  have hrow : rowK 2 W g = v'.ownBlock := rowK_eq hb' rfl
  refine (hs.keep i (blk_lt hb) ?_ ?_).trans hb
  · rintro rfl
    rw [hb'] at hb
    simp only [Option.some.injEq, Obj.cells.injEq] at hb
    exact h1 hb.2.1.symm
  · intro e
    rw [hrow] at e
    obtain ⟨cur, hc⟩ := own_typed ho' i e
    rw [hb] at hc
    simp only [Option.some.injEq, Obj.cells.injEq] at hc
    exact h2 hc.2.1
end
/-- What a reading tells: where something was met ahead, all stays. -/
def DkC (N T q : Nat) (e : Int) (n x q' : Nat) (e' : Int) : Prop :=
  x < 2 ^ n ∧ ((e ≠ 0 ∧ q' = q ∧ e' = e) ∨ (e = 0 ∧ ((tk n T N q = .ok (x, q') ∧ e' = 0) ∨ (tk n T N q = .error 5 ∧ e' = 5))))
theorem numB_bit {l : List Int} (h : ∀ x ∈ l, 0 ≤ x ∧ x < 256) {q : Nat} (hq : q < 8 * l.length) : numB l / 2 ^ q % 2 = (l.getD (q / 8) 0).toNat / 2 ^ (q % 8) % 2 := by
  have hb := numB_byte h (k := q / 8) (by omega)
  have e : numB l / 2 ^ q = numB l / 2 ^ (8 * (q / 8)) / 2 ^ (q % 8) := by
    rw [Nat.div_div_eq_div_mul, ← Nat.pow_add, show 8 * (q / 8) + q % 8 = q by omega]
  rw [e, ← hb]
  generalize numB l / 2 ^ (8 * (q / 8)) = X
  have hr : q % 8 < 8 := Nat.mod_lt _ (by decide)
  generalize q % 8 = r at hr
  rcases (show r = 0 ∨ r = 1 ∨ r = 2 ∨ r = 3 ∨ r = 4 ∨ r = 5 ∨ r = 6 ∨ r = 7 by omega) with rfl | rfl | rfl | rfl | rfl | rfl | rfl | rfl <;> omega
theorem and1 (v : Nat) (h : v < 1000000) : bits .and .i64 (v : Int) 1 = ((v % 2 : Nat) : Int) := by
  have h := bits_mask .i64 40 (by decide) (fun n h0 h1 => by rw [IntKind.wrap_i64]; omega) 1 (by omega) (v : Int) (by omega) (by omega)
  simpa using h
theorem bit_val (x r : Nat) (h : x < 256) : bits .and .i64 (wrap64 ((x : Int) / 2 ^ r)) 1 = ((x / 2 ^ r % 2 : Nat) : Int) := by
  have h1 : x / 2 ^ r ≤ x := Nat.div_le_self _ _
  have e : (x : Int) / 2 ^ r = ((x / 2 ^ r : Nat) : Int) := by simp
  rw [e]
  generalize x / 2 ^ r = y at *
  rw [IntWalk.wrap64_in _ (by omega), and1 _ (by omega)]
set_option maxRecDepth 8000 in
set_option maxHeartbeats 4000000 in
theorem dfail_calls (w0 : World) (A : Option Addr) (c : Nat) (p : List Int) (most g q : Nat) (out : List Int) (e : Int) (W : World) (hr : Bd w0 A c p most g q out e W) :
    Calls Tryd.prog 35 #[.pointer (some ⟨g, 0, none⟩)] W fun ee w' => ee = .returned (.tuple #[]) ∧ SK 2 g W w' ∧ Bd w0 A c p most g q out (fst e 4) w' := by
  have HR := Lib.hid hr
  obtain ⟨v, hb, ho, h1, h2, h3⟩ := hr
  have c4 : W.cell? ⟨g, 4, none⟩ = some (.int .i64 e) := blk_cell hb 4
  have f4 := blk_frozen hb 4
  have HB := Lib.hid hb
  have HO := Lib.hid ho
  have HN := Lib.hid (And.intro h1 h3)
  clear hb ho h1 h3
  by_cases h0 : e = 0
  · subst h0
    go_enter Tryd.func35, Tryd.ntmps35
    go_wp2_with fail
    refine bodyPost_end (results_none rfl _ _ _) rfl ?_
    refine ⟨rfl, (SK.refl 2 g W).put HB.out 4 _ (.inl ?_), v, ?_, ?_, HN.out.1, ?_, HN.out.2⟩
    · rw [rowK_eq HB.out rfl]; rfl
    · have := blk_set HB.out 4 (.int .i64 4)
      rw [this]
      simp [fst]
    · exact own_move HO.out fun k hk => Below.heap_setCell _ ⟨g, 4, none⟩ _ k (fun e => HR.out.row_ne (by rw [rowK_eq HB.out rfl]; exact hk.trans (congrArg some e)))
    · simp [fst]
  · have hb0 : (e == 0) = false := by simpa using h0
    go_enter Tryd.func35, Tryd.ntmps35
    go_wp2_with fail
    refine bodyPost_end (results_none rfl _ _ _) rfl ?_
    refine ⟨rfl, SK.refl 2 g W, ?_⟩
    rw [fst, if_neg h0]
    exact HR.out
set_option maxRecDepth 8000 in
set_option maxHeartbeats 4000000 in
theorem dbit_calls (w0 : World) (A : Option Addr) (c : Nat) (p : List Int) (most g q : Nat) (out : List Int) (e : Int) (W : World) (hr : Bd w0 A c p most g q out e W) (hw : Rw w0 A c p g W) :
    Calls Tryd.prog 29 #[.pointer (some ⟨g, 0, none⟩)] W fun ee w' => ∃ (x q' : Nat) (e' : Int), ee = .returned (.int .i64 x) ∧ Hid (SK 2 g W w') ∧ Hid (Bd w0 A c p most g q' out e' w') ∧ DkC (8 * p.length) (numB p) q e 1 x q' e' := by
  have HR := Lib.hid hr
  have HW := Lib.hid hw
  obtain ⟨v, hb, ho, h1, h2, h3⟩ := hr
  have c0 : W.cell? ⟨g, 0, none⟩ = some (.slice A p.length c) := blk_cell hb 0
  have c1 : W.cell? ⟨g, 1, none⟩ = some (.int .i64 q) := blk_cell hb 1
  have c4 : W.cell? ⟨g, 4, none⟩ = some (.int .i64 e) := blk_cell hb 4
  have f1 := blk_frozen hb 1
  have f4 := blk_frozen hb 4
  have HB := Lib.hid hb
  have HO := Lib.hid ho
  have hlen := hw.len
  have HN := Lib.hid (And.intro h1 h3)
  clear hb ho h3 hw
  by_cases h0 : e = 0
  · subst h0
    by_cases hq : 8 * p.length ≤ q
    · have hdec : decide ((8 : Int) * (p.length : Int) ≤ (q : Int)) = true := by simp; omega
      have hw8 : IntKind.i64.wrap (8 * (p.length : Int)) = 8 * (p.length : Int) := by rw [IntKind.wrap_i64]; omega
      go_enter Tryd.func29, Tryd.ntmps29
      go_wp2_with fail
      go_quiet (fail)
      have k4 : (W.drewN nq).cell? ⟨g, 4, none⟩ = some (.int .i64 0) := c4
      have j4 : (W.drewN nq).frozen? ⟨g, 4, none⟩ = false := f4
      have HBq : Hid ((W.drewN nq).heap[g]? = some (.cells #[.slice A p.length c, .int .i64 q, v, .int .i64 most, .int .i64 0] 47 (0, 0))) := Lib.hid HB.out
      have HOq : Hid (Bs 5 (W.drewN nq) w0.heap.size v out) := Lib.hid (own_move HO.out fun _ _ => rfl)
      have HSq : Hid (SK 2 g W (W.drewN nq)) := Lib.hid ((SK.refl 2 g W).drewN nq)
      clear c0 c1 c4 f1 f4 hdec hw8 hlen
      generalize W.drewN nq = wq at *
      go_wp2_with fail
      go_ret
      refine ⟨0, q, 5, rfl, Lib.hid (HSq.out.put HBq.out 4 _ (.inl ?_)), Lib.hid ⟨v, ?_, ?_, h1, by omega, HN.out.2⟩, by decide, .inr ⟨rfl, .inr ⟨?_, rfl⟩⟩⟩
      · rw [rowK_eq HBq.out rfl]; rfl
      · have := blk_set HBq.out 4 (.int .i64 5)
        rw [this]
        simp
      · exact own_move HOq.out fun k hk => Below.heap_setCell _ ⟨g, 4, none⟩ _ k (fun e => by
          obtain ⟨cur, hc⟩ := own_typed HOq.out k hk
          simp only at e
          rw [e, HBq.out] at hc
          simp at hc)
      · unfold tk
        rw [if_neg (by omega)]
    · have hdec : decide ((8 : Int) * (p.length : Int) ≤ (q : Int)) = false := by simp; omega
      have hw8 : IntKind.i64.wrap (8 * (p.length : Int)) = 8 * (p.length : Int) := by rw [IntKind.wrap_i64]; omega
      obtain ⟨k, hk⟩ : ∃ k, k = q / 8 := ⟨_, rfl⟩
      obtain ⟨r, hrr⟩ : ∃ r, r = q % 8 := ⟨_, rfl⟩
      have hq8 : (q : Int).tdiv 8 = (k : Int) := by rw [Int.tdiv_eq_ediv_of_nonneg (by omega)]; omega
      have hr8 : (q : Int).tmod 8 = (r : Int) := by rw [Int.tmod_eq_emod_of_nonneg (by omega)]; omega
      have hwk : IntKind.i64.wrap (k : Int) = (k : Int) := by rw [IntKind.wrap_i64]; omega
      have hk0 : (0 : Int) ≤ (k : Int) := by omega
      have hkl : (k : Int) < (p.length : Int) := by omega
      have hr0 : (0 : Int) ≤ (r : Int) := by omega
      have hr7 : (r : Int) < 8 := by omega
      obtain ⟨ad, rfl, hcell⟩ := (HW.out.rd.below HW.out.below).2.2 (by omega)
      obtain ⟨x, hx, hx2⟩ : ∃ x : Nat, p.getD k 0 = (x : Int) ∧ x < 256 := by
        have := HW.out.by_ (p.getD k 0) (by rw [List.getD_eq_getElem?_getD, List.getElem?_eq_getElem (by omega)]; exact List.getElem_mem _)
        exact ⟨(p.getD k 0).toNat, by omega, by omega⟩
      have hcx : W.cell? (ad.add k) = some (.int .u8 x) := by rw [hcell k (by omega), ← hx]
      have HX := Lib.hid (And.intro hx (And.intro hx2 (And.intro hk (And.intro hrr hq))))
      clear hcell hx hx2 hk hrr
      go_enter Tryd.func29, Tryd.ntmps29
      go_wp2_with fail
      go_quiet (fail)
      have k0 : (W.drewN nq).cell? ⟨g, 0, none⟩ = some (.slice (some ad) p.length c) := c0
      have k1 : (W.drewN nq).cell? ⟨g, 1, none⟩ = some (.int .i64 q) := c1
      have kx : (W.drewN nq).cell? (ad.add k) = some (.int .u8 x) := hcx
      have j1 : (W.drewN nq).frozen? ⟨g, 1, none⟩ = false := f1
      have HBq : Hid ((W.drewN nq).heap[g]? = some (.cells #[.slice (some ad) p.length c, .int .i64 q, v, .int .i64 most, .int .i64 0] 47 (0, 0))) := Lib.hid HB.out
      have HOq : Hid (Bs 5 (W.drewN nq) w0.heap.size v out) := Lib.hid (own_move HO.out fun _ _ => rfl)
      have HSq : Hid (SK 2 g W (W.drewN nq)) := Lib.hid ((SK.refl 2 g W).drewN nq)
      clear c0 c1 c4 f1 f4 hdec hw8 hcx
      generalize W.drewN nq = wq at *
      go_wp2_with fail
      go_quiet (fail)
      go_wp2_with fail
      go_ret
      have hb1 := blk_set HBq.out 1 (.int .i64 ((q : Int) + 1))
      refine ⟨x / 2 ^ r % 2, q + 1, 0, by rw [bit_val x r HX.out.2.1]; rfl, Lib.hid ((HSq.out.drewN nq).put HBq.out 1 _ (.inl ?_)), Lib.hid ⟨v, ?_, ?_, by have := HX.out.2.2.2.2; omega, by omega, HN.out.2⟩, Nat.mod_lt _ (by decide), .inr ⟨rfl, .inl ⟨?_, rfl⟩⟩⟩
      · rw [rowK_eq (W := wq.drewN nq) HBq.out rfl]; rfl
      · show (wq.setCell ⟨g, 1, none⟩ (.int .i64 ((q : Int) + 1))).heap[g]? = _
        rw [hb1]
        simp
      · exact own_move (w := wq) HOq.out fun k hk => Below.heap_setCell wq ⟨g, 1, none⟩ _ k (fun e => by
          obtain ⟨cur, hc⟩ := own_typed HOq.out k hk
          simp only at e
          rw [e, HBq.out] at hc
          simp at hc)
      · have hx := HX.out
        unfold tk
        rw [if_pos (by omega), show (2 : Nat) ^ 1 = 2 from rfl, numB_bit HW.out.by_ (by omega), ← hx.2.2.1, ← hx.2.2.2.1, hx.1, Int.toNat_natCast]
  · have hb0 : (e != 0) = true := by simpa using h0
    go_enter Tryd.func29, Tryd.ntmps29
    go_wp2_with fail
    go_ret
    exact ⟨0, q, e, rfl, Lib.hid (SK.refl 2 g W), HR, by decide, .inl ⟨h0, rfl, rfl⟩⟩
/-- What a putting out tells. -/
def DpC (r : Except Int (List Int)) (out : List Int) (e : Int) (out' : List Int) (e' : Int) : Prop :=
  (e ≠ 0 ∧ out' = out ∧ e' = e) ∨ (e = 0 ∧ ((r = .ok out' ∧ e' = 0) ∨ (r = .error e' ∧ e' ≠ 0)))
theorem put_end2 {w0 W W1 w1 : World} {A : Option Addr} {c most g q : Nat} {p out : List Int} {e x : Int} {v v1 : Value}
    (hq : q ≤ 8 * p.length) (he : 0 ≤ e ∧ e < 100) (hm : out.length < most ∧ most ≤ 1048576)
    (hS : SK 2 g W W1) (hO : Bs 5 W1 w0.heap.size v out)
    (hB : W1.heap[g]? = some (.cells #[.slice A p.length c, .int .i64 q, v, .int .i64 most, .int .i64 e] 47 (0, 0)))
    (hown : w1.ownsRow w0.heap.size 5 1 v1 (out ++ [x]).length (nums .u8 (out ++ [x]))) (hg : W1.grownBy w1 v.ownBlock) (hat : v1.ownBlock = v.ownBlock ∨ ∃ b, v1.ownBlock = some b ∧ W1.heap.size ≤ b) :
    SK 2 g W (w1.setCell ⟨g, 2, none⟩ v1) ∧ Bd w0 A c p most g q (out ++ [x]) e (w1.setCell ⟨g, 2, none⟩ v1) := by
  have hlt := blk_lt hB
  have hrow : rowK 2 W1 g = v.ownBlock := rowK_eq hB rfl
  have hne : v.ownBlock ≠ some g := fun e => by
    obtain ⟨cur, hc⟩ := own_typed hO g e
    rw [hB] at hc
    simp at hc
  have hb1 := (hg.block g hlt (fun e => hne e.symm)).trans hB
  have s2 : SK 2 g W w1 := hS.grow hlt (by rw [hrow]; exact hg) (by rw [hrow]; exact hne)
  have s3 : SK 2 g W (w1.setCell ⟨g, 2, none⟩ v1) := s2.put hb1 2 v1 (by
    rw [rowK_eq hb1 rfl]
    rcases hat with e | ⟨b, e, hb⟩
    · exact .inl e
    · exact .inr ⟨b, e, by have := hS.size; omega⟩)
  refine ⟨s3, v1, ?_, ?_, hq, he, by simp; omega, hm.2⟩
  · rw [blk_set hb1 2 v1]
    simp
  · refine own_move hown fun k hk => Below.heap_setCell _ ⟨g, 2, none⟩ _ k (fun e2 => ?_)
    rcases hat with e | ⟨b, e, hb⟩
    · exact hne (e.symm.trans (hk.trans (congrArg some e2)))
    · rw [e] at hk
      simp at hk hb
      have e3 : b = g := hk.trans e2
      omega
set_option maxRecDepth 8000 in
set_option maxHeartbeats 4000000 in
theorem dput_calls (w0 : World) (A : Option Addr) (c : Nat) (p : List Int) (most g q : Nat) (out : List Int) (e x : Int) (W : World) (hr : Bd w0 A c p most g q out e W) (hw : Rw w0 A c p g W) :
    Calls Tryd.prog 51 #[.pointer (some ⟨g, 0, none⟩), .int .u8 x] W fun ee w' => ∃ (out' : List Int) (e' : Int), ee = .returned (.tuple #[]) ∧ Hid (SK 2 g W w') ∧ Hid (Bd w0 A c p most g q out' e' w') ∧
      DpC (putO most out x) out e out' e' := by
  have HR := Lib.hid hr
  have HW := Lib.hid hw
  obtain ⟨v, hb, ho, h1, h2, h3⟩ := hr
  obtain ⟨A1, c1, rfl⟩ := own_slice ho
  have c2 : W.cell? ⟨g, 2, none⟩ = some (.slice A1 out.length c1) := blk_cell hb 2
  have c3 : W.cell? ⟨g, 3, none⟩ = some (.int .i64 most) := blk_cell hb 3
  have c4 : W.cell? ⟨g, 4, none⟩ = some (.int .i64 e) := blk_cell hb 4
  have f2 := blk_frozen hb 2
  have f4 := blk_frozen hb 4
  have HB := Lib.hid hb
  have HO := Lib.hid ho
  have HN := Lib.hid (And.intro h1 h3)
  have hm := h3
  clear hb ho h1 h3 hw
  by_cases h0 : e = 0
  · subst h0
    by_cases hl : out.length = most
    · have HL := Lib.hid hl
      have hdec : ((out.length : Int) == (most : Int)) = true := by simp [hl]
      clear hl
      go_enter Tryd.func51, Tryd.ntmps51
      go_wp2_with fail
      go_quiet (fail)
      have k4 : (W.drewN nq).cell? ⟨g, 4, none⟩ = some (.int .i64 0) := c4
      have j4 : (W.drewN nq).frozen? ⟨g, 4, none⟩ = false := f4
      have HBq : Hid ((W.drewN nq).heap[g]? = some (.cells #[.slice A p.length c, .int .i64 q, .slice A1 out.length c1, .int .i64 most, .int .i64 0] 47 (0, 0))) := Lib.hid HB.out
      have HOq : Hid (Bs 5 (W.drewN nq) w0.heap.size (.slice A1 out.length c1) out) := Lib.hid (own_move HO.out fun _ _ => rfl)
      have HSq : Hid (SK 2 g W (W.drewN nq)) := Lib.hid ((SK.refl 2 g W).drewN nq)
      clear c2 c3 c4 f2 f4
      generalize W.drewN nq = wq at *
      go_wp2_with fail
      refine bodyPost_ret (results_none rfl _ _ _) rfl ?_
      refine ⟨out, 10, rfl, Lib.hid (HSq.out.put HBq.out 4 _ (.inl ?_)), Lib.hid ⟨.slice A1 out.length c1, ?_, ?_, HN.out.1, by omega, HN.out.2⟩, .inr ⟨rfl, .inr ⟨?_, by decide⟩⟩⟩
      · rw [rowK_eq HBq.out rfl]; rfl
      · have := blk_set HBq.out 4 (.int .i64 10)
        rw [this]
        simp
      · exact own_move HOq.out fun k hk => Below.heap_setCell _ ⟨g, 4, none⟩ _ k (fun e => by
          obtain ⟨cur, hc⟩ := own_typed HOq.out k hk
          simp only at e
          rw [e, HBq.out] at hc
          simp at hc)
      · unfold putO
        rw [if_pos (by have := HL.out; omega)]
    · have HL := Lib.hid hl
      have hdec : ((out.length : Int) == (most : Int)) = false := by simp; omega
      clear hl
      go_enter Tryd.func51, Tryd.ntmps51
      go_wp2_with fail
      go_quiet (fail)
      have k2 : (W.drewN nq).cell? ⟨g, 2, none⟩ = some (.slice A1 out.length c1) := c2
      have j2 : (W.drewN nq).frozen? ⟨g, 2, none⟩ = false := f2
      have HBq : Hid ((W.drewN nq).heap[g]? = some (.cells #[.slice A p.length c, .int .i64 q, .slice A1 out.length c1, .int .i64 most, .int .i64 0] 47 (0, 0))) := Lib.hid HB.out
      have HOq : Hid (Bs 5 (W.drewN nq) w0.heap.size (.slice A1 out.length c1) out) := Lib.hid (own_move HO.out fun _ _ => rfl)
      have HSq : Hid (SK 2 g W (W.drewN nq)) := Lib.hid ((SK.refl 2 g W).drewN nq)
      have hsz : w0.heap.size ≤ (W.drewN nq).heap.size := HW.out.below.size
      clear c2 c3 c4 f2 f4
      generalize W.drewN nq = wq at *
      have hltg := blk_lt HBq.out
      have hne : Value.ownBlock (.slice A1 out.length c1) ≠ some g := fun e => by
        obtain ⟨cur, hc⟩ := own_typed HOq.out g e
        rw [HBq.out] at hc
        simp at hc
      have HSZ := Lib.hid hsz
      have HLM : Hid (out.length < most) := Lib.hid (by have := HL.out; omega)
      clear hsz hdec hm
      go_wp2_with (at_builtin; refine print_append_num (w0 := wq) w0.heap.size rfl (.tmp 26) (.tmp 28) 22 5 .u8 1 rfl Tryd.underlying22 infoE (by omega) (.slice A1 out.length c1) out x rfl rfl HOq.out (Below.refl _ _) HSZ.out (by have := HLM.out; have := HN.out.2.2; omega) ?_; intro v1 w1 hown1 hbel1 hgrow hat; have HOWN := Lib.hid hown1; obtain ⟨g2, cap, hv1, _, _⟩ := World.ownsRow.form hown1 (by simp); subst hv1; have hb1 := (hgrow.block g hltg (fun e => hne e.symm)).trans HBq.out; have m4 := blk_frozen hb1 2; have m5 := blk_cell hb1 2; have HG := Lib.hid hgrow; have HAT := Lib.hid hat; clear hown1 hbel1 hgrow hat hb1)
      refine bodyPost_end (results_none rfl _ _ _) rfl ?_
      have hE := put_end2 HN.out.1 (by omega) ⟨HLM.out, HN.out.2.2⟩ HSq.out HOq.out HBq.out HOWN.out HG.out HAT.out
      rw [show (out ++ [x]).length = out.length + 1 from by simp] at hE
      refine ⟨out ++ [x], 0, rfl, Lib.hid hE.1, Lib.hid hE.2, .inr ⟨rfl, .inl ⟨?_, rfl⟩⟩⟩
      unfold putO
      rw [if_neg (by have := HLM.out; omega)]
  · have hb0 : (e != 0) = true := by simpa using h0
    go_enter Tryd.func51, Tryd.ntmps51
    go_wp2_with fail
    refine bodyPost_ret (results_none rfl _ _ _) rfl ?_
    exact ⟨out, e, rfl, Lib.hid (SK.refl 2 g W), HR, .inl ⟨h0, rfl, rfl⟩⟩
theorem DkC.zero {N T q : Nat} {e : Int} (hq : q ≤ N) : DkC N T q e 0 0 q e := by
  refine ⟨by decide, ?_⟩
  by_cases h : e = 0
  · refine .inr ⟨h, .inl ⟨?_, h⟩⟩
    unfold tk
    rw [if_pos (by omega), Nat.pow_zero, Nat.mod_one]
    rfl
  · exact .inl ⟨h, rfl, rfl⟩
theorem DkC.step {N T q k x q1 y q2 : Nat} {e e1 e2 : Int} (h : DkC N T q e k x q1 e1) (h1 : DkC N T q1 e1 1 y q2 e2) : DkC N T q e (k + 1) (x + y * 2 ^ k) q2 e2 := by
  obtain ⟨hx, h⟩ := h
  obtain ⟨hy, h1⟩ := h1
  have hlt : x + y * 2 ^ k < 2 ^ (k + 1) := by
    have : y * 2 ^ k ≤ 1 * 2 ^ k := Nat.mul_le_mul_right _ (by omega)
    rw [Nat.pow_succ]
    omega
  refine ⟨hlt, ?_⟩
  rcases h with ⟨he, rfl, rfl⟩ | ⟨he, h⟩
  · rcases h1 with ⟨_, rfl, rfl⟩ | ⟨h0, _⟩
    · exact .inl ⟨he, rfl, rfl⟩
    · exact absurd h0 he
  · subst he
    rcases h with ⟨ht, rfl⟩ | ⟨ht, rfl⟩
    · have hq1 : q + k ≤ N ∧ x = T / 2 ^ q % 2 ^ k ∧ q1 = q + k := by
        unfold tk at ht
        split at ht
        · simp only [Except.ok.injEq, Prod.mk.injEq] at ht
          exact ⟨by assumption, ht.1.symm, ht.2.symm⟩
        · cases ht
      obtain ⟨g1, g2, rfl⟩ := hq1
      rcases h1 with ⟨h0, _⟩ | ⟨_, h1⟩
      · exact absurd rfl h0
      · rcases h1 with ⟨ht1, rfl⟩ | ⟨ht1, rfl⟩
        · refine .inr ⟨rfl, .inl ⟨?_, rfl⟩⟩
          unfold tk at ht1 ⊢
          split at ht1
          · simp only [Except.ok.injEq, Prod.mk.injEq] at ht1
            rw [if_pos (by omega), pow_split, ← g2, ht1.1, ← ht1.2, Nat.mul_comm, Nat.add_assoc]
          · cases ht1
        · refine .inr ⟨rfl, .inr ⟨?_, rfl⟩⟩
          unfold tk at ht1 ⊢
          split at ht1
          · cases ht1
          · rw [if_neg (by omega)]
    · rcases h1 with ⟨_, rfl, rfl⟩ | ⟨h0, _⟩
      · refine .inr ⟨rfl, .inr ⟨?_, rfl⟩⟩
        unfold tk at ht ⊢
        split at ht
        · cases ht
        · rw [if_neg (by omega)]
      · exact absurd h0 (by decide)
set_option maxRecDepth 8000 in
set_option maxHeartbeats 4000000 in
theorem dnum_calls (w0 : World) (A : Option Addr) (c : Nat) (p : List Int) (most g q : Nat) (out : List Int) (e : Int) (W : World) (n : Nat) (hr : Bd w0 A c p most g q out e W) (hw : Rw w0 A c p g W) (hn : n ≤ 16) :
    Calls Tryd.prog 30 #[.pointer (some ⟨g, 0, none⟩), .int .i64 n] W fun ee w' => ∃ (x q' : Nat) (e' : Int), ee = .returned (.int .i64 x) ∧ Hid (SK 2 g W w') ∧ Hid (Bd w0 A c p most g q' out e' w') ∧ DkC (8 * p.length) (numB p) q e n x q' e' := by
  have HR := Lib.hid hr
  have HW := Lib.hid hw
  clear hr hw
  go_enter Tryd.func30, Tryd.ntmps30
  go_wp2_with fail
  go_loopw [5, 6] (fun v i wr => ∃ (k x q1 : Nat) (e1 : Int), i = .int .i64 k ∧ v = .int .i64 x ∧ Hid (k ≤ n) ∧ Hid (SK 2 g W wr) ∧ Hid (Bd w0 A c p most g q1 out e1 wr) ∧ Hid (DkC (8 * p.length) (numB p) q e k x q1 e1)) (fun _ i _ => n - (intOf i).toNat)
  case atStart => exact ⟨0, 0, q, e, rfl, rfl, Lib.hid (Nat.zero_le _), Lib.hid (SK.refl 2 g W), HR, Lib.hid (DkC.zero HR.out.q_le)⟩
  case round =>
    obtain ⟨k, x, q1, e1, rfl, rfl, HK, HS, HB, HD⟩ := hrel
    have HLT : Hid (x < 2 ^ k) := Lib.hid HD.out.1
    by_cases hk : k < n
    · have hki : (k : Int) < (n : Int) := by omega
      have hk0 : (0 : Int) ≤ (k : Int) := by omega
      have hk16 : (k : Int) < 16 := by omega
      go_wp2_with fail
      refine (dbit_calls w0 A c p most g q1 out e1 wr HB.out (HW.out.sk2 HR.out HS.out)).mono ?_
      rintro ee w2 ⟨y, q2, e2, rfl, hs2, hb2, hd2⟩
      have HS2 := Lib.hid (HS.out.trans hs2.out)
      have HB2 := Lib.hid hb2.out
      have HD2 : Hid (DkC (8 * p.length) (numB p) q1 e1 1 y q2 e2) := Lib.hid hd2
      have hy2 : y < 2 := hd2.1
      have hp : 2 ^ k ≤ 65536 := Nat.le_trans (Nat.pow_le_pow_right (by decide) (show k ≤ 16 by omega)) (by decide)
      have hz : y * 2 ^ k ≤ 65536 := Nat.le_trans (Nat.mul_le_mul_right _ (show y ≤ 1 by omega)) (by omega)
      obtain ⟨z, hzz⟩ : ∃ z, z = y * 2 ^ k := ⟨_, rfl⟩
      have hzi : (y : Int) * 2 ^ k = (z : Int) := by rw [hzz]; simp
      have hxl : x ≤ 65536 := by have := HLT.out; omega
      rw [← hzz] at hz
      have HZ := Lib.hid hzz
      have hzI : (z : Int) ≤ 65536 := by omega
      have hxI : (x : Int) ≤ 65536 := by omega
      clear hs2 hb2 hd2 hp hz hxl hzz hy2
      go_wp2_with fail
      go_roundw
      case rel => exact ⟨k + 1, x + z, q2, e2, by go_num, by go_num, Lib.hid (by omega), HS2, HB2, Lib.hid (by rw [HZ.out]; exact HD.out.step HD2.out)⟩
      case measure => simp [intOf]; omega
    · have hk' : k = n := by have := HK.out; omega
      subst hk'
      go_wp2_with fail
      go_ret
      exact ⟨x, q1, e1, rfl, HS, HB, HD.out⟩
end Go.Proofs.YtkdklcamgcmifaaDoor

/-! HDocB: The document's reader: stored, tabled, symbol. -/
namespace Go.Proofs.YtkdklcamgcmifaaDoor
set_option linter.unusedVariables false
set_option linter.unusedSimpArgs false
open Go.RowKit Go.Proofs.YtkdklcamgcmifaaDoorW.PrintWords Go.Proofs.YtkdklcamgcmifaaDoorW.PrintMore
/-- What a call tells that began with nothing met. -/
def DrT {α : Type} (r : Except Int (α × Nat)) (x : α) (q' : Nat) (e' : Int) : Prop := (r = .ok (x, q') ∧ e' = 0) ∨ (r = .error e' ∧ e' ≠ 0)
theorem two_dk {N T q1 n q2 m q3 a b : Nat} {e2 e3 : Int} (h1 : DkC N T q1 0 a n q2 e2) (h2 : DkC N T q2 e2 b m q3 e3) :
    (e3 = 0 ∧ ∀ f : Nat → Nat → Rdr (List Int), bndR (tk a) (fun n => bndR (tk b) fun m => f n m) T N q1 = f n m T N q3) ∨ (e3 = 5 ∧ ∀ f : Nat → Nat → Rdr (List Int), bndR (tk a) (fun n => bndR (tk b) fun m => f n m) T N q1 = .error 5) := by
  rcases h1.2 with ⟨h, _⟩ | ⟨_, h⟩
  · exact absurd rfl h
  rcases h with ⟨t1, rfl⟩ | ⟨t1, rfl⟩
  · rcases h2.2 with ⟨h, _⟩ | ⟨_, h⟩
    · exact absurd rfl h
    rcases h with ⟨t2, rfl⟩ | ⟨t2, rfl⟩
    · exact .inl ⟨rfl, fun f => by unfold bndR; rw [t1]; simp only []; rw [t2]⟩
    · exact .inr ⟨rfl, fun f => by unfold bndR; rw [t1]; simp only []; rw [t2]⟩
  · rcases h2.2 with ⟨_, _, rfl⟩ | ⟨h, _⟩
    · exact .inr ⟨rfl, fun f => by unfold bndR; rw [t1]⟩
    · exact absurd h (by decide)
theorem bd_at {w0 W : World} {A : Option Addr} {c most g q q1 : Nat} {p out : List Int} {e : Int} (h : Bd w0 A c p most g q out e W) (hq : q1 ≤ 8 * p.length) :
    Bd w0 A c p most g q1 out e (W.setCell ⟨g, 1, none⟩ (.int .i64 q1)) ∧ SK 2 g W (W.setCell ⟨g, 1, none⟩ (.int .i64 q1)) := by
  have hne := h.row_ne
  obtain ⟨v, hb, ho, h1, h2⟩ := h
  have hb1 := blk_set hb 1 (.int .i64 q1)
  rw [rowK_eq hb rfl] at hne
  refine ⟨⟨v, ?_, own_move ho fun k hk => Below.heap_setCell _ ⟨g, 1, none⟩ _ k (fun e => hne (hk.trans (congrArg some e))), hq, h2⟩, (SK.refl 2 g W).put hb 1 _ (.inl (by rw [rowK_eq hb rfl]; rfl))⟩
  rw [hb1]
  simp
set_option maxRecDepth 8000 in
set_option maxHeartbeats 8000000 in
theorem dstored_calls (w0 : World) (A : Option Addr) (c : Nat) (p : List Int) (most g q : Nat) (out : List Int) (W : World) (hr : Bd w0 A c p most g q out 0 W) (hw : Rw w0 A c p g W) :
    Calls Tryd.prog 31 #[.pointer (some ⟨g, 0, none⟩)] W fun ee w' => ∃ (out' : List Int) (q' : Nat) (e' : Int), ee = .returned (.tuple #[]) ∧ Hid (SK 2 g W w') ∧ Hid (Bd w0 A c p most g q' out' e' w') ∧ DrT (stoO most out (numB p) (8 * p.length) q) out' q' e' := by
  obtain ⟨res, hres⟩ : ∃ res, stoO most out (numB p) (8 * p.length) q = res := ⟨_, rfl⟩
  rw [hres]
  have HR := Lib.hid hr
  have HW := Lib.hid hw
  have HRES := Lib.hid hres
  have hq := hr.q_le
  obtain ⟨q1, hq1⟩ : ∃ q1, q1 = (q + 7) / 8 * 8 := ⟨_, rfl⟩
  have hqI : ((q : Int) + 7) / 8 * 8 = (q1 : Int) := by omega
  have hlen := hw.len
  have hz := bd_at hr (q1 := q1) (by omega)
  have HZ := Lib.hid hz
  have HQ1 := Lib.hid hq1
  obtain ⟨v, hb, ho, -⟩ := hr
  have c1 : W.cell? ⟨g, 1, none⟩ = some (.int .i64 q) := blk_cell hb 1
  have f1 := blk_frozen hb 1
  have hqq : (q : Int) ≤ 8 * (p.length : Int) := by omega
  have hll : (p.length : Int) ≤ 1048576 := by omega
  clear hw hb ho hz hq1 hres hq hlen
  go_enter Tryd.func31, Tryd.ntmps31
  go_wp2_with fail
  have HW1 := Lib.hid (HW.out.sk2 HR.out HZ.out.2)
  refine (dnum_calls w0 A c p most g q1 out 0 _ 16 HZ.out.1 HW1.out (by omega)).mono ?_
  rintro ee w2 ⟨n, q2, e2, rfl, hs2, hb2, hd2⟩
  have HS2 := Lib.hid (HZ.out.2.trans hs2.out)
  have HB2 := Lib.hid hb2.out
  have HD2 : Hid (DkC (8 * p.length) (numB p) q1 0 16 n q2 e2) := Lib.hid hd2
  clear hs2 hb2 hd2 c1 f1
  go_wp2_with fail
  refine (dnum_calls w0 A c p most g q2 out e2 w2 16 HB2.out (HW.out.sk2 HR.out HS2.out) (by omega)).mono ?_
  rintro ee w3 ⟨m, q3, e3, rfl, hs3, hb3, hd3⟩
  have HS3 := Lib.hid (HS2.out.trans hs3.out)
  have HB3 := Lib.hid hb3.out
  have HD3 := Lib.hid (two_dk HD2.out hd3)
  have hn16 : (n : Int) < 65536 := by have := HD2.out.1; omega
  have hm16 : (m : Int) < 65536 := by have := hd3.1; omega
  have HM := Lib.hid (And.intro HD2.out.1 hd3.1)
  clear hs3 hb3 hd3
  have key : ∀ (e4 : Int) (w4 : World), SK 2 g W w4 → Bd w0 A c p most g q3 out e4 w4 → ((e4 ≠ 0 ∧ res = .error e4) ∨ (e4 = 0 ∧ bytO most n out (numB p) (8 * p.length) q3 = res)) → True := fun _ _ _ _ _ => trivial
  clear key
  have hres := HRES.out
  unfold stoO at hres
  rw [← HQ1.out] at hres
  have HCASE : Hid ((e3 = 5 ∧ res = .error 5) ∨ (e3 = 0 ∧ (if n + m ≠ 65535 then badR 4 else bytO most n out) (numB p) (8 * p.length) q3 = res)) := Lib.hid (by
    rcases HD3.out with ⟨h, hf⟩ | ⟨h, hf⟩
    · rw [hf] at hres
      exact .inr ⟨h, hres⟩
    · rw [hf] at hres
      exact .inl ⟨h, hres.symm⟩)
  clear hres
  have hn0 : (0 : Int) ≤ (n : Int) := by omega
  by_cases hnm : n + m = 65535
  · have hb : ((n : Int) + (m : Int) != 65535) = false := by simp; omega
    have HC0 : Hid ((e3 = 0 ∧ bytO most (n - 0) out (numB p) (8 * p.length) q3 = res) ∨ (e3 ≠ 0 ∧ res = .error e3)) := Lib.hid (by
      rcases HCASE.out with ⟨h, h2⟩ | ⟨h, h2⟩
      · exact .inr ⟨by rw [h]; decide, by rw [h]; exact h2⟩
      · rw [if_neg (by simpa using hnm)] at h2
        exact .inl ⟨h, h2⟩)
    clear HCASE HD3
    go_wp2_with fail
    go_loopw [4, 5] (fun v _ wr => ∃ (k qq : Nat) (o : List Int) (e1 : Int), v = .int .i64 k ∧ Hid (k ≤ n) ∧ Hid (SK 2 g W wr) ∧ Hid (Bd w0 A c p most g qq o e1 wr) ∧ Hid ((e1 = 0 ∧ bytO most (n - k) o (numB p) (8 * p.length) qq = res) ∨ (e1 ≠ 0 ∧ res = .error e1))) (fun v _ _ => n - (intOf v).toNat)
    case atStart => exact ⟨0, q3, out, e3, rfl, Lib.hid (Nat.zero_le _), HS3, HB3, HC0⟩
    case round =>
      obtain ⟨k, qq, o, e1, rfl, HK, HS, HB, HE⟩ := hrel
      have c4 := HB.out.e_cell
      have hkn : (k : Int) ≤ 65535 := by have := HK.out; omega
      by_cases hk : k < n
      · have hki : (k : Int) < (n : Int) := by omega
        by_cases he1 : e1 = 0
        · subst he1
          have HE2 : Hid (bytO most (n - k) o (numB p) (8 * p.length) qq = res) := Lib.hid (by
            rcases HE.out with ⟨_, h⟩ | ⟨h, _⟩
            · exact h
            · exact absurd rfl h)
          go_wp2_with fail
          refine (dnum_calls w0 A c p most g qq o 0 wr 8 HB.out (HW.out.sk2 HR.out HS.out) (by omega)).mono ?_
          rintro ee w5 ⟨x, q5, e5, rfl, hs5, hb5, hd5⟩
          have HS5 := Lib.hid (HS.out.trans hs5.out)
          have HB5 := Lib.hid hb5.out
          have HD5 : Hid (DkC (8 * p.length) (numB p) qq 0 8 x q5 e5) := Lib.hid hd5
          have hx8 : x < 256 := hd5.1
          clear hs5 hb5 hd5 c4
          have hwx : IntKind.u8.wrap (x : Int) = (x : Int) := by rw [IntKind.wrap_u8]; omega
          go_wp2_with fail
          refine (dput_calls w0 A c p most g q5 o e5 x w5 HB5.out (HW.out.sk2 HR.out HS5.out)).mono ?_
          rintro ee w6 ⟨o6, e6, rfl, hs6, hb6, hd6⟩
          have HS6 := Lib.hid (HS5.out.trans hs6.out)
          have HB6 := Lib.hid hb6.out
          have HD6 : Hid (DpC (putO most o x) o e5 o6 e6) := Lib.hid hd6
          clear hs6 hb6 hd6 hwx
          go_wp2_with fail
          go_roundw
          case rel =>
            refine ⟨k + 1, q5, o6, e6, by simp, Lib.hid (by omega), HS6, HB6, Lib.hid ?_⟩
            have h0 := HE2.out
            rw [show n - k = (n - (k + 1)) + 1 by omega] at h0
            rcases HD5.out.2 with ⟨h, _⟩ | ⟨_, ⟨ht, rfl⟩ | ⟨ht, rfl⟩⟩
            · exact absurd rfl h
            · simp only [bytO, bndR, ht] at h0
              rcases HD6.out with ⟨h, _⟩ | ⟨_, ⟨h1, h2⟩ | ⟨h1, h2⟩⟩
              · exact absurd rfl h
              · simp only [onO, h1] at h0
                exact .inl ⟨h2, h0⟩
              · simp only [onO, h1] at h0
                exact .inr ⟨h2, h0.symm⟩
            · simp only [bytO, bndR, ht] at h0
              rcases HD6.out with ⟨_, rfl, rfl⟩ | ⟨h, _⟩
              · exact .inr ⟨by decide, h0.symm⟩
              · exact absurd h (by decide)
          case measure => simp [intOf]; omega
        · have he' : (e1 == 0) = false := by simp [he1]
          go_wp2_with fail
          refine bodyPost_end (results_none rfl _ _ _) rfl ⟨o, qq, e1, rfl, HS, HB, ?_⟩
          rcases HE.out with ⟨h, _⟩ | ⟨_, h⟩
          · exact absurd h he1
          · exact .inr ⟨h, he1⟩
      · have hki : ¬ (k : Int) < (n : Int) := by omega
        have hkd : decide ((k : Int) < (n : Int)) = false := by simp; omega
        go_wp2_with fail
        refine bodyPost_end (results_none rfl _ _ _) rfl ⟨rfl, HS, o, qq, e1, HB, ?_⟩
        rcases HE.out with ⟨h, h2⟩ | ⟨h, h2⟩
        · rw [show n - k = 0 by omega] at h2
          exact .inl ⟨h2.symm, h⟩
        · exact .inr ⟨h2, h⟩
  · have hb : ((n : Int) + (m : Int) != 65535) = true := by simp; omega
    have HC0 : Hid (res = .error (fst e3 4) ∧ fst e3 4 ≠ 0) := Lib.hid (by
      rcases HCASE.out with ⟨rfl, h2⟩ | ⟨rfl, h2⟩
      · exact ⟨h2, by decide⟩
      · rw [if_pos (by simpa using hnm)] at h2
        exact ⟨h2.symm, by decide⟩)
    clear HCASE HD3
    go_wp2_with fail
    refine (dfail_calls w0 A c p most g q3 out e3 w3 HB3.out).mono ?_
    rintro ee w4 ⟨rfl, hs4, hb4⟩
    have HS4 := Lib.hid (HS3.out.trans hs4)
    have HB4 := Lib.hid hb4
    have c4 := hb4.e_cell
    have HNE := HC0.out.2
    generalize fst e3 4 = e4 at *
    have he' : (e4 == 0) = false := by simp [HNE]
    clear hs4 hb4
    go_wp2_with fail
    go_loopw [4, 5] (fun v _ wr => v = .int .i64 0 ∧ Hid (wr = w4)) (fun v _ _ => 0)
    case atStart => exact ⟨rfl, Lib.hid rfl⟩
    case round =>
      obtain ⟨rfl, HX⟩ := hrel
      obtain rfl := HX.out
      by_cases hk : n = 0
      · subst hk
        go_wp2_with fail
        refine bodyPost_end (results_none rfl _ _ _) rfl ⟨rfl, HS4, out, q3, e4, HB4, .inr HC0.out⟩
      · have hki : (0 : Int) < (n : Int) := by omega
        have hki2 : 0 < n := by omega
        go_wp2_with fail
        refine bodyPost_end (results_none rfl _ _ _) rfl ⟨rfl, HS4, out, q3, e4, HB4, .inr HC0.out⟩
end Go.Proofs.YtkdklcamgcmifaaDoor

/-! HDocC: The document's reader: tabled. -/
namespace Go.Proofs.YtkdklcamgcmifaaDoor
set_option linter.unusedVariables false
set_option linter.unusedSimpArgs false
open Go.RowKit Go.Proofs.YtkdklcamgcmifaaDoorW.PrintWords Go.Proofs.YtkdklcamgcmifaaDoorW.PrintMore
/-- The document's table: its symbols v, and how many have each length. -/
def dtC (v : Value) (f : Nat → Nat) : List Value := v :: (List.range 16).map fun j => Value.int .i64 ((f j : Nat) : Int)
theorem dtC_len (v : Value) (f : Nat → Nat) : (dtC v f).toArray.size = 17 := by simp [dtC]
theorem dtC_get {v : Value} {f : Nat → Nat} {j : Nat} (h : j < 16) : (dtC v f)[j + 1]? = some (.int .i64 ((f j : Nat) : Int)) := by simp [dtC, h]
theorem dtC_get' {v : Value} {f : Nat → Nat} {j : Nat} (h : j < 16) : (dtC v f)[1 + j]? = some (.int .i64 ((f j : Nat) : Int)) := by
  rw [Nat.add_comm]
  exact dtC_get h
theorem dtC_set' {v : Value} {f : Nat → Nat} {n : Nat} (h : n < 16) : (dtC v f).set (1 + n) (.int .i64 (((f n : Nat) : Int) + 1)) = dtC v (fun j => if j = n then f n + 1 else f j) := by
  rw [Nat.add_comm]
  apply List.ext_getElem?
  intro i
  rw [List.getElem?_set]
  cases i with
  | zero => simp [dtC]
  | succ i =>
    by_cases hi : i < 16
    · by_cases e : n = i
      · subst e
        rw [if_pos rfl, dtC_get h, if_pos (by simp [dtC]; omega)]
        simp
      · rw [if_neg (by omega), dtC_get hi, dtC_get hi, if_neg (fun h => e h.symm)]
    · rw [if_neg (by omega)]
      simp [dtC, hi]
theorem dtC_put {v u : Value} {f : Nat → Nat} : (dtC v f).set 0 u = dtC u f := rfl
theorem dtC_congr {v : Value} {f g : Nat → Nat} (h : ∀ j, j < 16 → f j = g j) : dtC v f = dtC v g := by
  unfold dtC
  congr 1
  apply List.map_congr_left
  intro j hj
  rw [h j (by simpa using hj)]
theorem dtC_one {w : World} {base n : Nat} {f : Nat → Nat} {v : Value} {xs : List Value} {e : TypeId} (h : w.ownsRow base e 1 v n xs) : (dtC v f).toArray.all (·.oneCell') = true := by
  obtain ⟨A, c, rfl⟩ := own_slice h
  rw [Array.all_eq_true_iff_forall_mem]
  intro u hu
  simp only [dtC, List.mem_toArray, List.mem_cons, List.mem_map] at hu
  rcases hu with rfl | ⟨n, _, rfl⟩ <;> rfl
/-- The symbols at hand while length n is gone through, s lengths of it done. -/
def parD (l : List Nat) (n s : Nat) : List Nat := (List.range (n - 1)).flatMap (fun n => idxs (n + 1) l) ++ idxs n (l.take s)
def cfD (l : List Nat) (n s j : Nat) : Nat := if j = 0 then 0 else if j < n then l.count j else if j = n then (l.take s).count n else 0
theorem parD_hit {l : List Nat} {n s : Nat} (h : l[s]? = some n) : parD l n (s + 1) = parD l n s ++ [s] := by
  have hs : s < l.length := by
    rcases Nat.lt_or_ge s l.length with h1 | h1
    · exact h1
    · rw [List.getElem?_eq_none h1] at h; cases h
  unfold parD
  rw [take_snoc h, idxs_snoc, if_pos rfl, List.append_assoc, List.length_take, Nat.min_eq_left (by omega)]
theorem parD_miss {l : List Nat} {n s x : Nat} (h : l[s]? = some x) (hx : x ≠ n) : parD l n (s + 1) = parD l n s := by
  unfold parD
  rw [take_snoc h, idxs_snoc, if_neg hx, List.append_nil]
theorem cfD_hit {l : List Nat} {n s j : Nat} (h : l[s]? = some n) (h0 : n ≠ 0) : cfD l n (s + 1) j = if j = n then cfD l n s n + 1 else cfD l n s j := by
  unfold cfD
  by_cases hj : j = n
  · subst hj
    rw [if_pos rfl, if_neg h0, if_neg (by omega), if_pos rfl, if_neg h0, if_neg (by omega), if_pos rfl, take_snoc h, count_snoc, if_pos rfl]
  · rw [if_neg hj, if_neg hj]
    by_cases h0 : j = 0
    · rw [if_pos h0, if_pos h0]
    · rw [if_neg h0, if_neg h0, if_neg hj]
theorem cfD_miss {l : List Nat} {n s x j : Nat} (h : l[s]? = some x) (hx : x ≠ n) : cfD l n (s + 1) j = cfD l n s j := by
  unfold cfD
  rw [take_snoc h, count_snoc, if_neg hx, Nat.add_zero]
theorem parD_next (l : List Nat) {n : Nat} (h : 1 ≤ n) : parD l n l.length = parD l (n + 1) 0 := by
  unfold parD
  rw [List.take_length, List.take_zero, show idxs (n + 1) [] = [] from rfl, List.append_nil, Nat.add_sub_cancel]
  obtain ⟨m, rfl⟩ : ∃ m, n = m + 1 := ⟨n - 1, by omega⟩
  rw [Nat.add_sub_cancel, List.range_succ, List.flatMap_append]
  simp
theorem cfD_next (l : List Nat) {n : Nat} (j : Nat) : cfD l n l.length j = cfD l (n + 1) 0 j := by
  unfold cfD
  rw [List.take_length, List.take_zero]
  by_cases h0 : j = 0
  · rw [if_pos h0, if_pos h0]
  · rw [if_neg h0, if_neg h0]
    by_cases h1 : j < n
    · rw [if_pos h1, if_pos (by omega)]
    · rw [if_neg h1]
      by_cases h2 : j = n
      · subst h2
        rw [if_pos rfl, if_pos (by omega)]
      · rw [if_neg h2, if_neg (by omega)]
        simp
theorem parD_all (l : List Nat) : parD l 16 0 = symT l := by
  unfold parD symT
  rw [List.take_zero, show idxs 16 [] = [] from rfl, List.append_nil]
theorem cfD_all (l : List Nat) {j : Nat} (h : j < 16) : cfD l 16 0 j = cntT l j := by
  unfold cfD cntT
  by_cases h0 : j = 0
  · rw [if_pos h0, if_pos h0]
  · rw [if_neg h0, if_neg h0, if_pos h]
theorem parD_len (l : List Nat) (n s : Nat) (h : 1 ≤ n ∧ n ≤ 15) : (parD l n s).length ≤ l.length := by
  unfold parD
  rw [List.length_append, symT_take, idxs_len]
  obtain ⟨m, rfl⟩ : ∃ m, n = m + 1 := ⟨n - 1, by omega⟩
  have h1 := cnt_le l m (by omega)
  have h2 := symT_le l
  have h3 := take_count l s (m + 1)
  simp only [cntT] at h1
  rw [if_neg (by omega)] at h1
  rw [Nat.add_sub_cancel]
  omega
/-- tabled's two blocks and its row. -/
def Tw (w W : World) (ss : List Nat) (f : Nat → Nat) : Prop :=
  ∃ v, W.heap[w.heap.size]? = some (.cells (dtC (.slice none 0 0) fun _ => 0).toArray 70 (0, 0)) ∧
    W.heap[w.heap.size + 1]? = some (.cells (dtC v f).toArray 70 (0, 0)) ∧
    W.ownsRow (w.heap.size + 2) 3 1 v ss.length (nums .i64 (natI ss)) ∧ Below w.heap.size w W
theorem Tw.start (w : World) (l : List Nat) : Tw w ((w.alloc (.cells (dtC (.slice none 0 0) fun _ => 0).toArray 70)).alloc (.cells (dtC (.slice none 0 0) fun _ => 0).toArray 70)) [] (cfD l 1 0) := by
  refine ⟨.slice none 0 0, ?_, ?_, own_nil _ _ _ _, below_alloc (below_alloc (Below.refl _ _) _) _⟩
  · exact (Below.heap_alloc _ _ _ (by simp)).trans (heap_alloc_new w _)
  · have hz : ∀ j, cfD l 1 0 j = 0 := by
      intro j
      unfold cfD
      by_cases h : j = 0
      · rw [if_pos h]
      · rw [if_neg h, if_neg (by omega)]
        simp
    rw [dtC_congr (f := cfD l 1 0) (g := fun _ => 0) (fun j _ => hz j)]
    have := heap_alloc_new (w.alloc (.cells (dtC (.slice none 0 0) fun _ => 0).toArray 70)) (.cells (dtC (.slice none 0 0) fun _ => 0).toArray 70)
    rw [World.size_alloc] at this
    exact this
theorem own_low {W : World} {b b' e size n : Nat} {v : Value} {cs : List Value} (h : W.ownsRow b e size v n cs) (hb : b' ≤ b) : W.ownsRow b' e size v n cs :=
  ⟨h.1, h.2.imp id fun ⟨g, cap, cur, h1, h2, h3⟩ => ⟨g, cap, cur, h1, Nat.le_trans hb h2, h3⟩⟩
theorem results_cell {P : Program} {fn : Func} {p : Tmp} {ty : TypeId} (h : fn.results = #[.cell p ty]) (tmps : Array Value) (w : World) (g : Nat) (t : TypeId) (cs : Array Value) (fr : Nat × Nat) (d : TypeDesc)
    (hp : tmps.getD p undef = .pointer (some ⟨g, 0, none⟩)) (hg : w.heap[g]? = some (.cells cs t fr))
    (hu : P.underlying ty = some d) (hd : (match d with | .struct _ | .array _ _ => true | _ => false) = true) (hi : (P.info? ty).map (·.size) = some cs.size) :
    (results fn tmps).run P w = .ok (.agg cs) w := by
  have hp' : tmps[p]?.getD undef = .pointer (some ⟨g, 0, none⟩) := by simpa using hp
  simp [results, h, hp', asAddr, run_loadVar_row w g t ty cs fr d hg hu hd hi]
theorem infoDt : (Tryd.prog.info? 70).map (·.size) = some 17 := by kernel_rfl
set_option maxRecDepth 8000 in
set_option maxHeartbeats 4000000 in
theorem tabled_calls (w : World) (A : Option Addr) (c : Nat) (l : List Nat) (hr : ReadsInt w .i64 A l.length (natI l)) (hl : l.length ≤ 1000) (hx : ∀ x ∈ l, x < 16) :
    Calls Tryd.prog 52 #[.slice A l.length c] w fun ee w' => ∃ v, ee = .returned (.agg (dtC v (cntT l)).toArray) ∧ Hid (w'.ownsRow w.heap.size 3 1 v (symT l).length (nums .i64 (natI (symT l)))) ∧ Hid (Below w.heap.size w w') := by
  have HR := Lib.hid hr
  have HL := Lib.hid hl
  have HX := Lib.hid hx
  clear hr hl hx
  go_enter Tryd.func52, Tryd.ntmps52
  go_wp2_with fail
  have h0 : Tw w ((w.alloc (.cells #[.slice none 0 0, .int .i64 0, .int .i64 0, .int .i64 0, .int .i64 0, .int .i64 0, .int .i64 0, .int .i64 0, .int .i64 0, .int .i64 0, .int .i64 0, .int .i64 0, .int .i64 0, .int .i64 0, .int .i64 0, .int .i64 0, .int .i64 0] 70)).alloc (.cells #[.slice none 0 0, .int .i64 0, .int .i64 0, .int .i64 0, .int .i64 0, .int .i64 0, .int .i64 0, .int .i64 0, .int .i64 0, .int .i64 0, .int .i64 0, .int .i64 0, .int .i64 0, .int .i64 0, .int .i64 0, .int .i64 0, .int .i64 0] 70)) (parD l 1 0) (cfD l 1 0) := by
    rw [show parD l 1 0 = [] from rfl]
    exact Tw.start w l
  generalize ((w.alloc _).alloc _) = W0 at h0 ⊢
  have HT0 := Lib.hid h0
  clear h0
  go_loopw [4] (fun v wr => ∃ n : Nat, v = .int .i64 n ∧ 1 ≤ n ∧ n ≤ 16 ∧ Hid (Tw w wr (parD l n 0) (cfD l n 0))) (fun v _ => 16 - (intOf v).toNat)
  case atStart => exact ⟨1, rfl, by omega, by omega, HT0⟩
  case round =>
    clear HT0
    obtain ⟨n, rfl, hn1, hn2, HT⟩ := hrel
    by_cases hn : n ≤ 15
    · have hni : (n : Int) ≤ 15 := by omega
      go_wp2_with fail
      go_loopw [13] (fun v wr => ∃ s : Nat, v = .int .i64 s ∧ s ≤ l.length ∧ Hid (Tw w wr (parD l n s) (cfD l n s))) (fun v _ => l.length - (intOf v).toNat)
      case atStart => exact ⟨0, rfl, by omega, HT⟩
      case round =>
        clear HT
        obtain ⟨s, rfl, hs, HT⟩ := hrel
        by_cases hlt : s < l.length
        · have slt : (s : Int) < (l.length : Int) := by omega
          obtain ⟨ad, rfl, _⟩ := HR.out.2.2 (by omega)
          obtain ⟨v, hr, ht, ho, hb⟩ := HT.out
          have hcs := nat_cell HR.out hb hlt
          have hx16 := HX.out _ (getD_mem hlt)
          generalize hgx : l.getD s 0 = x at hcs hx16
          have HG := Lib.hid (getD_get hlt hgx)
          clear hgx
          have hl1 : (l.length : Int) ≤ 1000 := by have := HL.out; omega
          by_cases hxn : x = n
          · subst hxn
            have hT := blk_lt ht
            have hne : v.ownBlock ≠ some (w.heap.size + 1) := fun e => by have := own_base ho _ e; omega
            have hne0 : v.ownBlock ≠ some w.heap.size := fun e => by have := own_base ho _ e; omega
            have ho' : wr.ownsRow (w.heap.size + 2) 3 1 v (natI (parD l x s)).length (nums .i64 (natI (parD l x s))) := by rw [natI_length]; exact ho
            have hpl : (natI (parD l x s)).length ≤ 1000 := by rw [natI_length]; have := parD_len l x s (by omega); have := HL.out; omega
            have hsz : w.heap.size + 2 ≤ wr.heap.size := by omega
            obtain ⟨A1, c1, rfl⟩ := own_slice ho
            have ct0 : wr.cell? ⟨w.heap.size + 1, 0, none⟩ = some (.slice A1 (parD l x s).length c1) := blk_cell ht 0
            have ft0 := blk_frozen ht 0
            have hcv : cfD l x s x ≤ 1000 := by
              unfold cfD
              have h1 : l.count x ≤ l.length := List.count_le_length
              have h2 := take_count l s x
              have := HL.out
              by_cases h0 : x = 0
              · rw [if_pos h0]; omega
              · rw [if_neg h0, if_neg (by omega), if_pos rfl]; omega
            obtain ⟨cv, HCV⟩ : ∃ cv, Hid (cfD l x s x = cv ∧ cv ≤ 1000) := ⟨_, Lib.hid ⟨rfl, hcv⟩⟩
            have hcv2 : (cv : Int) ≤ 1000 := by have := HCV.out.2; omega
            clear hcv
            have HO := Lib.hid ho'
            have HPL := Lib.hid hpl
            have HSZ := Lib.hid hsz
            have HTT := Lib.hid ht
            have HRR := Lib.hid hr
            have HBB := Lib.hid hb
            have HNE := Lib.hid hne
            have HNE0 := Lib.hid hne0
            clear ho ho' hpl hsz ht hr hb hne hne0
            go_wp2_with (at_builtin; refine print_append_num (w0 := wr) (w.heap.size + 2) rfl (.tmp 22) (.tmp 24) 51 3 .i64 8 rfl Tryd.underlying51 infoIntB (by omega) _ (natI (parD l x s)) s rfl rfl HO.out (Below.refl _ _) HSZ.out (by have := HPL.out; omega) ?_; intro v1 w1 hown1 hbel1 hgrow hat; have HOWN := Lib.hid hown1; obtain ⟨g2, cap, hv1, _, _⟩ := World.ownsRow.form hown1 (by simp); subst hv1; have hb1 := (hgrow.block (w.heap.size + 1) hT (fun e => HNE.out e.symm)).trans HTT.out; have m4 := blk_frozen hb1 0; have hb2 := blk_setL hb1 0 (.slice (some ⟨g2, 0, none⟩) ((natI (parD l x s)).length + 1) cap); rw [dtC_put] at hb2; have m5 : w1.cell? ⟨w.heap.size + 1, 0, none⟩ = some (.slice A1 (parD l x s).length c1) := blk_cell hb1 0; have m7 := blk_cellL hb2 (dtC_get' (j := x) (by omega)); have m6 := blk_frozen hb2 (1 + x); have HB2 := Lib.hid hb2; clear hb2; rw [HCV.out.1] at m7; have HG1 := Lib.hid hgrow; have HAT := Lib.hid hat; have HB1 := Lib.hid hb1; have HBE := Lib.hid hbel1; clear hown1 hbel1 hgrow hat hb1)
            refine ⟨⟨s + 1, by simp, by omega, Lib.hid ?_⟩, by simp [intOf]; omega⟩
            have h2 := HB2.out
            have h3 := blk_setL h2 (1 + x) (.int .i64 ((cv : Int) + 1))
            rw [← HCV.out.1, dtC_set' (by omega), ← dtC_congr fun j _ => cfD_hit HG.out (by omega)] at h3
            have hown := HOWN.out
            rw [show natI (parD l x s) ++ [(s : Int)] = natI (parD l x (s + 1)) from by rw [parD_hit HG.out]; simp [natI], natI_length] at hown
            have hlen : (natI (parD l x s)).length + 1 = (parD l x (s + 1)).length := by rw [parD_hit HG.out, natI_length]; simp
            rw [hlen] at h3 ⊢
            rw [← HCV.out.1]
            have hlo := own_base hown
            refine ⟨_, ?_, h3, ?_, ?_⟩
            · exact (Below.heap_setCell _ _ _ _ (by simp)).trans ((Below.heap_setCell _ _ _ _ (by simp)).trans ((HG1.out.block w.heap.size (by omega) (fun e => HNE0.out e.symm)).trans HRR.out))
            · refine own_move hown fun k hk => (Below.heap_setCell _ _ _ _ ?_).trans (Below.heap_setCell _ _ _ _ ?_)
              · have := hlo k hk; simp; omega
              · have := hlo k hk; simp; omega
            · exact Below.setCell (Below.setCell (HBB.out.trans (HBE.out.mono (by omega))) (by show w.heap.size ≤ w.heap.size + 1; omega) _) (by show w.heap.size ≤ w.heap.size + 1; omega) _
          · have hxi : ¬ (x : Int) = (n : Int) := by omega
            clear hr ht ho hb
            go_wp2_with fail
            go_roundw
            case rel =>
              exact ⟨s + 1, by simp, by omega, Lib.hid (by
                obtain ⟨v, hr, ht, ho, hb⟩ := HT.out
                refine ⟨v, hr, ?_, ?_, hb⟩
                · rw [dtC_congr (g := cfD l n s) fun j _ => cfD_miss HG.out hxn]
                  exact ht
                · rw [parD_miss HG.out hxn]
                  exact ho)⟩
            case measure => simp [intOf]; omega
        · have slt : ¬ (s : Int) < (l.length : Int) := by omega
          obtain rfl : s = l.length := by omega
          go_wp2_with fail
          refine ⟨⟨n + 1, by simp, by omega, by omega, Lib.hid ?_⟩, by simp [intOf]; omega⟩
          obtain ⟨v, hr, ht, ho, hb⟩ := HT.out
          refine ⟨v, hr, ?_, ?_, hb⟩
          · rw [← dtC_congr fun j _ => cfD_next l j]
            exact ht
          · rw [← parD_next l hn1]
            exact ho
    · have hni : ¬ (n : Int) ≤ 15 := by omega
      obtain rfl : n = 16 := by omega
      obtain ⟨v, hr, ht, ho, hb⟩ := HT.out
      rw [parD_all] at ho
      rw [dtC_congr fun j hj => cfD_all l hj] at ht
      have HTT := Lib.hid ht
      have HRR := Lib.hid hr
      have HBB := Lib.hid hb
      have HOO := Lib.hid ho
      have hone := dtC_one (f := cntT l) ho
      clear hr ht ho hb HT
      go_wp2_with (first
        | (refine wpList_load_row rfl 70 (.tmp 3) rfl (w.heap.size + 1) rfl 70 _ (0, 0) _ HTT.out Tryd.underlying70 rfl (by rw [dtC_len]; exact infoDt) ?_)
        | (refine wpList_store_row rfl 70 (.tmp 2) (.tmp 35) rfl w.heap.size _ rfl rfl 70 _ HRR.out (by rw [dtC_len]; exact infoDt) (by rw [dtC_len, dtC_len]) hone ?_))
      have hb2 := setRow_heap wr w.heap.size _ (dtC v (cntT l)).toArray _ _ HRR.out
      refine bodyPost_ret (results_cell rfl _ _ w.heap.size 70 _ (0, 0) _ rfl hb2 Tryd.underlying70 rfl (by rw [dtC_len]; exact infoDt)) rfl ?_
      refine ⟨v, rfl, Lib.hid ?_, Lib.hid (below_setRow HBB.out (Nat.le_refl _) _)⟩
      exact own_move (own_low HOO.out (by omega)) fun k hk => setRow_other _ _ _ _ (by have := own_base HOO.out k hk; omega)
end Go.Proofs.YtkdklcamgcmifaaDoor

/-! HDocD: The document's reader: symbol. -/
namespace Go.Proofs.YtkdklcamgcmifaaDoor
set_option linter.unusedVariables false
set_option linter.unusedSimpArgs false
open Go.RowKit Go.Proofs.YtkdklcamgcmifaaDoorW.PrintWords Go.Proofs.YtkdklcamgcmifaaDoorW.PrintMore
/-- The document's table of the lengths l at t. -/
def Dt (base : Nat) (W : World) (l : List Nat) (t : Nat) : Prop := ∃ v, W.heap[t]? = some (.cells (dtC v (cntT l)).toArray 70 (0, 0)) ∧ W.ownsRow base 3 1 v (symT l).length (nums .i64 (natI (symT l)))
theorem own_sk2 {w0 W W' : World} {A : Option Addr} {c most g q : Nat} {p out : List Int} {e : Int} {base n : Nat} {v : Value} {xs : List Value} (ho : W.ownsRow base 3 1 v n xs) (hr : Bd w0 A c p most g q out e W) (hs : SK 2 g W W') : W'.ownsRow base 3 1 v n xs := by
  refine own_move ho fun k hk => ?_
  obtain ⟨cur, hc⟩ := own_typed ho k hk
  exact (hs.block2 hr hc (by decide) (by decide)).trans hc.symm
theorem Dt.sk {w0 W W' : World} {A : Option Addr} {c most g q : Nat} {p out : List Int} {e : Int} {l : List Nat} {t base : Nat} (h : Dt base W l t) (hr : Bd w0 A c p most g q out e W) (hs : SK 2 g W W') : Dt base W' l t := by
  obtain ⟨v, hb, ho⟩ := h
  exact ⟨v, hs.block2 hr hb (by decide) (by decide), own_sk2 ho hr hs⟩
/-- What symbol tells. -/
def DsC (r : Except Int (Nat × Nat)) (q : Nat) (e : Int) (x q' : Nat) (e' : Int) : Prop :=
  (e ≠ 0 ∧ x = 0 ∧ q' = q ∧ e' = e) ∨ (e = 0 ∧ ((r = .ok (x, q') ∧ e' = 0) ∨ (r = .error e' ∧ e' ≠ 0 ∧ x = 0)))
/-- symbol under way. -/
def DsR (l : List Nat) (T N : Nat) (r : Except Int (Nat × Nat)) (q : Nat) (e : Int) (n code first at_ q1 : Nat) (e1 : Int) : Prop :=
  (e1 = 0 ∧ e = 0 ∧ first ≤ code ∧ symR (cntT l) (symT l) (16 - n) n (2 * code) (2 * first) at_ T N q1 = r) ∨ (e1 ≠ 0 ∧ DsC r q e 0 q1 e1)
theorem DsR.step {l : List Nat} {T N q n cc ff ii qq y q2 : Nat} {r : Except Int (Nat × Nat)} {e e1 e2 : Int} (h : DsR l T N r q e n cc ff ii qq e1) (hd : DkC N T qq e1 1 y q2 e2) (hlt : ii < (symT l).length) (hn : n ≤ 15)
    (hno : ¬ (e2 = 0 ∧ ff * 2 ≤ 2 * cc + y ∧ 2 * cc + y < ff * 2 + cntT l n)) : DsR l T N r q e (n + 1) (2 * cc + y) (ff * 2 + cntT l n) (ii + cntT l n) q2 e2 := by
  rcases h with ⟨rfl, rfl, h1, h2⟩ | ⟨h1, h2⟩
  · rw [show 16 - n = (15 - n) + 1 by omega] at h2
    unfold symR at h2
    rw [if_neg (by omega)] at h2
    rcases hd.2 with ⟨h, _⟩ | ⟨_, ⟨ht, rfl⟩ | ⟨ht, rfl⟩⟩
    · exact absurd rfl h
    · simp only [bndR, ht] at h2
      rw [if_neg (by omega)] at h2
      refine .inl ⟨rfl, rfl, by omega, ?_⟩
      rw [show 16 - (n + 1) = 15 - n by omega, show ff * 2 = 2 * ff by omega]
      exact h2
    · simp only [bndR, ht] at h2
      exact .inr ⟨by decide, .inr ⟨rfl, .inr ⟨h2.symm, by decide, rfl⟩⟩⟩
  · rcases hd.2 with ⟨_, rfl, rfl⟩ | ⟨h, _⟩
    · exact .inr ⟨h1, h2⟩
    · exact absurd h h1
theorem DsR.hit {l : List Nat} {T N q n cc ff ii qq y q2 : Nat} {r : Except Int (Nat × Nat)} {e e1 : Int} (h : DsR l T N r q e n cc ff ii qq e1) (hd : DkC N T qq e1 1 y q2 0) (hlt : ii < (symT l).length) (hn : n ≤ 15)
    (h3 : ff * 2 ≤ 2 * cc + y) (h4 : 2 * cc + y < ff * 2 + cntT l n) : DsC r q e ((symT l).getD (ii + (2 * cc + y - ff * 2)) 0) q2 0 := by
  rcases h with ⟨rfl, rfl, h1, h2⟩ | ⟨h1, h2⟩
  · rw [show 16 - n = (15 - n) + 1 by omega] at h2
    unfold symR at h2
    rw [if_neg (by omega)] at h2
    rcases hd.2 with ⟨h, _⟩ | ⟨_, ⟨ht, _⟩ | ⟨ht, h⟩⟩
    · exact absurd rfl h
    · simp only [bndR, ht] at h2
      rw [if_pos (by omega)] at h2
      refine .inr ⟨rfl, .inl ⟨?_, rfl⟩⟩
      rw [← h2, show ff * 2 = 2 * ff by omega]
      rfl
    · exact absurd h (by decide)
  · rcases hd.2 with ⟨_, rfl, rfl⟩ | ⟨h, _⟩
    · exact absurd rfl h1
    · exact absurd h h1
theorem DsR.out {l : List Nat} {T N q cc ff ii qq : Nat} {r : Except Int (Nat × Nat)} {e e1 : Int} (h : DsR l T N r q e 16 cc ff ii qq e1) : DsC r q e 0 qq (fst e1 4) := by
  rcases h with ⟨rfl, rfl, h1, h2⟩ | ⟨h1, h2⟩
  · exact .inr ⟨rfl, .inr ⟨h2.symm, by decide, rfl⟩⟩
  · rw [fst, if_neg h1]
    exact h2
set_option maxRecDepth 8000 in
set_option maxHeartbeats 8000000 in
theorem dsymbol_calls (w0 : World) (A : Option Addr) (c : Nat) (p : List Int) (most g q : Nat) (out : List Int) (e : Int) (W : World) (l : List Nat) (v : Value) (base : Nat) (hr : Bd w0 A c p most g q out e W) (hw : Rw w0 A c p g W) (ht : W.ownsRow base 3 1 v (symT l).length (nums .i64 (natI (symT l)))) (hl : l.length ≤ 1000) :
    Calls Tryd.prog 53 #[.pointer (some ⟨g, 0, none⟩), .agg (dtC v (cntT l)).toArray] W fun ee w' => ∃ (x q' : Nat) (e' : Int), ee = .returned (.int .i64 x) ∧ Hid (SK 2 g W w') ∧ Hid (Bd w0 A c p most g q' out e' w') ∧ DsC (symL l (numB p) (8 * p.length) q) q e x q' e' := by
  have HR := Lib.hid hr
  have HW := Lib.hid hw
  have hs := symT_le l
  have HL : Hid ((symT l).length ≤ 1000) := Lib.hid (by omega)
  have HS0 : Hid (SK 2 g W (W.alloc (.cells (dtC v (cntT l)).toArray 70))) := Lib.hid ((SK.refl 2 g W).alloc hr.lt _)
  have HT0 : Hid (Dt base (W.alloc (.cells (dtC v (cntT l)).toArray 70)) l W.heap.size) := Lib.hid ⟨v, heap_alloc_new W _, own_move ht fun k hk => Below.heap_alloc _ _ _ (own_lt ht k hk)⟩
  have HB0 : Hid (Bd w0 A c p most g q out e (W.alloc (.cells (dtC v (cntT l)).toArray 70))) := Lib.hid (hr.below (below_alloc (Below.refl _ _) _))
  have HD0 : Hid (DsR l (numB p) (8 * p.length) (symL l (numB p) (8 * p.length) q) q e 1 0 0 0 q e) := Lib.hid (by
    by_cases h : e = 0
    · exact .inl ⟨h, h, Nat.le_refl _, rfl⟩
    · exact .inr ⟨h, .inl ⟨h, rfl, rfl, rfl⟩⟩)
  generalize hres : symL l (numB p) (8 * p.length) q = res at *
  clear hr hw ht hl hs hres
  go_enter Tryd.func53, Tryd.ntmps53
  go_wp2_with fail
  generalize W.alloc (.cells (dtC v (cntT l)).toArray 70) = W0 at *
  go_loopw [5, 6, 7, 8] (fun vc vf va vn wr => ∃ (cc ff ii n qq : Nat) (e1 : Int), vc = .int .i64 cc ∧ vf = .int .i64 ff ∧ va = .int .i64 ii ∧ vn = .int .i64 n ∧ 1 ≤ n ∧ n ≤ 16 ∧ Hid (ii = sumT l (n - 1)) ∧ Hid (cc < 2 ^ (n - 1) ∧ ff + 1000 ≤ 1000 * 2 ^ (n - 1)) ∧
    Hid (SK 2 g W wr) ∧ Hid (Dt base wr l W.heap.size) ∧ Hid (Bd w0 A c p most g qq out e1 wr) ∧ Hid (DsR l (numB p) (8 * p.length) res q e n cc ff ii qq e1)) (fun _ _ _ vn _ => 16 - (intOf vn).toNat)
  case atStart => exact ⟨0, 0, 0, 1, q, e, rfl, rfl, rfl, rfl, by omega, by omega, Lib.hid rfl, Lib.hid (by decide), HS0, HT0, HB0, HD0⟩
  case round =>
    clear HS0 HT0 HB0 HD0
    obtain ⟨cc, ff, ii, n, qq, e1, rfl, rfl, rfl, rfl, hn1, hn2, HI, HC, HS, HT, HB, HD⟩ := hrel
    have hile : ii ≤ (symT l).length := by
      rw [HI.out, symT_len]; exact sumT_mono l (by omega)
    have HLE := Lib.hid hile
    clear hile
    by_cases h16 : n ≤ 15
    · have i16 : (n : Int) ≤ 15 := by omega
      have hp : 2 ^ (n - 1) ≤ 16384 := Nat.pow_le_pow_right (n := 2) (by decide) (show n - 1 ≤ 14 by omega)
      have hsum : ii + cntT l n ≤ (symT l).length := by
        have := cnt_le l (n - 1) (by omega)
        rw [show n - 1 + 1 = n from by omega] at this
        rw [HI.out]; exact this
      have HP := Lib.hid hp
      have HSUM := Lib.hid hsum
      obtain ⟨v2, hbt, hot⟩ := HT.out
      obtain ⟨As, cs, rfl⟩ := own_slice hot
      have c0 : wr.cell? ⟨W.heap.size, 0, none⟩ = some (.slice As (symT l).length cs) := blk_cell hbt 0
      have hcc : (cc : Int) ≤ 16384 := by have := HC.out.1; omega
      have hff : (ff : Int) ≤ 16384000 := by have := HC.out.2; omega
      have hii : (ii : Int) ≤ 1000 := by have := HLE.out; have := HL.out; omega
      have hcc0 : (0 : Int) ≤ (cc : Int) := by omega
      have hff0 : (0 : Int) ≤ (ff : Int) := by omega
      clear hp hsum hbt hot
      by_cases hend : ii = (symT l).length
      · have ib : ((ii : Int) == ((symT l).length : Int)) = true := by simp [hend]
        have HEND := Lib.hid hend
        clear hend
        go_wp2_with fail
        refine (dfail_calls w0 A c p most g qq out e1 wr HB.out).mono ?_
        rintro ee w2 ⟨rfl, hs2, hb2⟩
        have HS2 : Hid (SK 2 g W w2) := Lib.hid (HS.out.trans hs2)
        have HB2 := Lib.hid hb2
        clear hs2 hb2
        go_wp2_with fail
        go_ret
        refine ⟨0, qq, _, rfl, HS2, HB2, ?_⟩
        rcases HD.out with ⟨rfl, rfl, h1, h2⟩ | ⟨h1, h2⟩
        · refine .inr ⟨rfl, .inr ⟨?_, by decide, rfl⟩⟩
          rw [show 16 - n = (15 - n) + 1 by omega] at h2
          unfold symR at h2
          rw [if_pos (by have := HEND.out; omega)] at h2
          exact h2.symm
        · rw [fst, if_neg h1]
          exact h2
      · have ib : ((ii : Int) == ((symT l).length : Int)) = false := by simp; omega
        have hlt : ii < (symT l).length := by have := HLE.out; omega
        have HLT := Lib.hid hlt
        clear hlt hend
        go_wp2_with fail
        refine (dbit_calls w0 A c p most g qq out e1 wr HB.out (HW.out.sk2 HR.out HS.out)).mono ?_
        rintro ee w2 ⟨y, q2, e2, rfl, hs2, hb2, hd2⟩
        have HS2 := Lib.hid (HS.out.trans hs2.out)
        have HT2 := Lib.hid (HT.out.sk HB.out hs2.out)
        have HB2 := Lib.hid hb2.out
        have HD2 : Hid (DkC (8 * p.length) (numB p) qq e1 1 y q2 e2) := Lib.hid hd2
        have hy : (y : Int) < 2 := by have := hd2.1; omega
        have hy0 : (0 : Int) ≤ (y : Int) := by omega
        have c4 := hb2.out.e_cell
        clear hs2 hb2 hd2 c0
        obtain ⟨v2, hbt, hot⟩ := HT2.out
        obtain ⟨As2, cs2, rfl⟩ := own_slice hot
        have c0 : w2.cell? ⟨W.heap.size, 0, none⟩ = some (.slice As2 (symT l).length cs2) := blk_cell hbt 0
        have cn : w2.cell? ⟨W.heap.size, 1 + n, none⟩ = some (.int .i64 ((cntT l n : Nat) : Int)) := blk_cellL hbt (dtC_get' (by omega))
        have HOT := Lib.hid hot
        generalize hct : cntT l n = ct at *
        have HCT := Lib.hid hct
        have hct1 : (ct : Int) ≤ 1000 := by have := HSUM.out; have := HL.out; omega
        have hn0 : (0 : Int) ≤ (n : Int) := by omega
        clear hbt hot hct
        by_cases hk : ff * 2 ≤ 2 * cc + y
        · have ik : (0 : Int) ≤ 2 * (cc : Int) + (y : Int) - (ff : Int) * 2 := by omega
          by_cases hlt : 2 * cc + y < ff * 2 + ct
          · have ilt : 2 * (cc : Int) + (y : Int) - (ff : Int) * 2 < (ct : Int) := by omega
            by_cases he : e2 = 0
            · subst he
              have hjl : ii + (2 * cc + y - ff * 2) < (symT l).length := by have := HSUM.out; have := HCT.out; omega
              obtain ⟨ad, rfl, hcell⟩ := (own_reads' HOT.out).2.2 (by omega)
              have hcj : w2.cell? (ad.add (ii + (2 * cc + y - ff * 2))) = some (.int .i64 (((symT l).getD (ii + (2 * cc + y - ff * 2)) 0 : Nat) : Int)) := by rw [hcell _ hjl, symT_getD]
              have hD := HD.out.hit HD2.out HLT.out h16 hk (by rw [HCT.out]; exact hlt)
              obtain ⟨j, hj⟩ : ∃ j, j = ii + (2 * cc + y - ff * 2) := ⟨_, rfl⟩
              have hji : (ii : Int) + (2 * (cc : Int) + (y : Int) - (ff : Int) * 2) = (j : Int) := by omega
              have hj2 : (j : Int) < ((symT l).length : Int) := by omega
              have hj0 : (0 : Int) ≤ (j : Int) := by omega
              rw [← hj] at hcj hD
              clear hcell hjl hj
              generalize (symT l).getD j 0 = xs at *
              have HDD := Lib.hid hD
              clear hD
              go_wp2_with fail
              go_ret
              exact ⟨xs, q2, 0, rfl, HS2, HB2, HDD.out⟩
            · have ie : (e2 == 0) = false := by simp [he]
              go_wp2_with fail
              go_roundw
              case rel =>
                have hpw : 2 ^ (n + 1 - 1) = 2 * 2 ^ (n - 1) := by rw [show n + 1 - 1 = (n - 1) + 1 by omega, Nat.pow_succ]; omega
                have hce := HCT.out
                refine ⟨2 * cc + y, ff * 2 + ct, ii + ct, n + 1, q2, e2, by simp, by simp, by simp, by simp, by omega, by omega, Lib.hid ?_, Lib.hid ⟨?_, ?_⟩, HS2, HT2, HB2, Lib.hid ?_⟩
                · have := cnt_sum l (n - 1) (by omega)
                  rw [show n - 1 + 1 = n from by omega] at this
                  rw [← hce, HI.out, Nat.add_sub_cancel, this]
                · rw [hpw]; have := HC.out.1; omega
                · rw [hpw]; have := HC.out.2; omega
                · rw [← hce]
                  exact HD.out.step HD2.out HLT.out h16 (by rw [hce]; omega)
              case measure => simp [intOf]; omega
          · have ilt : ¬ 2 * (cc : Int) + (y : Int) - (ff : Int) * 2 < (ct : Int) := by omega
            go_wp2_with fail
            go_roundw
            case rel =>
              have hpw : 2 ^ (n + 1 - 1) = 2 * 2 ^ (n - 1) := by rw [show n + 1 - 1 = (n - 1) + 1 by omega, Nat.pow_succ]; omega
              have hce := HCT.out
              refine ⟨2 * cc + y, ff * 2 + ct, ii + ct, n + 1, q2, e2, by simp, by simp, by simp, by simp, by omega, by omega, Lib.hid ?_, Lib.hid ⟨?_, ?_⟩, HS2, HT2, HB2, Lib.hid ?_⟩
              · have := cnt_sum l (n - 1) (by omega)
                rw [show n - 1 + 1 = n from by omega] at this
                rw [← hce, HI.out, Nat.add_sub_cancel, this]
              · rw [hpw]; have := HC.out.1; omega
              · rw [hpw]; have := HC.out.2; omega
              · rw [← hce]
                exact HD.out.step HD2.out HLT.out h16 (by rw [hce]; omega)
            case measure => simp [intOf]; omega
        · have ik : ¬ (0 : Int) ≤ 2 * (cc : Int) + (y : Int) - (ff : Int) * 2 := by omega
          go_wp2_with fail
          go_roundw
          case rel =>
            have hpw : 2 ^ (n + 1 - 1) = 2 * 2 ^ (n - 1) := by rw [show n + 1 - 1 = (n - 1) + 1 by omega, Nat.pow_succ]; omega
            have hce := HCT.out
            refine ⟨2 * cc + y, ff * 2 + ct, ii + ct, n + 1, q2, e2, by simp, by simp, by simp, by simp, by omega, by omega, Lib.hid ?_, Lib.hid ⟨?_, ?_⟩, HS2, HT2, HB2, Lib.hid ?_⟩
            · have := cnt_sum l (n - 1) (by omega)
              rw [show n - 1 + 1 = n from by omega] at this
              rw [← hce, HI.out, Nat.add_sub_cancel, this]
            · rw [hpw]; have := HC.out.1; omega
            · rw [hpw]; have := HC.out.2; omega
            · rw [← hce]
              exact HD.out.step HD2.out HLT.out h16 (by rw [hce]; omega)
          case measure => simp [intOf]; omega
    · have i16 : ¬ (n : Int) ≤ 15 := by omega
      obtain rfl : n = 16 := by omega
      go_wp2_with fail
      refine (dfail_calls w0 A c p most g qq out e1 wr HB.out).mono ?_
      rintro ee w2 ⟨rfl, hs2, hb2⟩
      have HS2 : Hid (SK 2 g W w2) := Lib.hid (HS.out.trans hs2)
      have HB2 := Lib.hid hb2
      clear hs2 hb2
      go_wp2_with fail
      go_ret
      exact ⟨0, qq, _, rfl, HS2, HB2, HD.out.out⟩
end Go.Proofs.YtkdklcamgcmifaaDoor

/-! HDocE: The document's reader: Length, Distance, copies. -/
namespace Go.Proofs.YtkdklcamgcmifaaDoor
set_option linter.unusedVariables false
set_option linter.unusedSimpArgs false
open Go.RowKit Go.Proofs.YtkdklcamgcmifaaDoorW.PrintWords Go.Proofs.YtkdklcamgcmifaaDoorW.PrintMore
/-- The least length of a symbol, and how many bits more. -/
def lbs (s : Nat) : Nat := if s = 285 then 258 else if s < 265 then s - 254 else (4 + (s - 261) % 4) * 2 ^ ((s - 261) / 4) + 3
def lmr (s : Nat) : Nat := if s = 285 then 0 else if s < 265 then 0 else (s - 261) / 4
def dbs (s : Nat) : Nat := if s < 4 then s + 1 else (2 + s % 2) * 2 ^ (s / 2 - 1) + 1
def dmr (s : Nat) : Nat := if s < 4 then 0 else s / 2 - 1
set_option maxRecDepth 8000 in
set_option maxHeartbeats 4000000 in
theorem dlength_calls (s : Nat) (w : World) (h : 257 ≤ s ∧ s ≤ 285) : Calls Tryd.prog 69 #[.int .i64 s] w fun ee w' => ee = .returned (.tuple #[.int .i64 (lbs s), .int .i64 (lmr s)]) ∧ w' = w := by
  obtain ⟨h1, h2⟩ := h
  have HI : (s : Int) ≤ 285 := by omega
  have HI2 : (257 : Int) ≤ (s : Int) := by omega
  by_cases h5 : s = 285
  · subst h5
    go_enter Tryd.func69, Tryd.ntmps69
    go_wp2_with fail
    go_ret2
    exact ⟨rfl, rfl⟩
  · have i5 : ((s : Int) == 285) = false := by simp; omega
    by_cases h6 : s < 265
    · have i6 : (s : Int) < 265 := by omega
      have hv : ((s - 254 : Nat) : Int) = (s : Int) - 254 := by omega
      have e1 : lbs s = s - 254 := by unfold lbs; rw [if_neg h5, if_pos h6]
      have e2 : lmr s = 0 := by unfold lmr; rw [if_neg h5, if_pos h6]
      rw [e1, e2, hv]
      clear e1 e2 hv
      go_enter Tryd.func69, Tryd.ntmps69
      go_wp2_with fail
      go_ret2
      exact ⟨rfl, rfl⟩
    · have i6 : ¬ (s : Int) < 265 := by omega
      obtain ⟨m, hm⟩ : ∃ m, m = (s - 261) / 4 := ⟨_, rfl⟩
      obtain ⟨r, hr⟩ : ∃ r, r = (s - 261) % 4 := ⟨_, rfl⟩
      have hmi : ((s : Int) - 261).tdiv 4 = (m : Int) := by rw [Int.tdiv_eq_ediv_of_nonneg (by omega)]; omega
      have hri : ((s : Int) - 261).tmod 4 = (r : Int) := by rw [Int.tmod_eq_emod_of_nonneg (by omega)]; omega
      have hm5 : m ≤ 5 := by omega
      have hp : 2 ^ m ≤ 32 := Nat.le_trans (Nat.pow_le_pow_right (n := 2) (by decide) hm5) (by decide)
      obtain ⟨z, hz⟩ : ∃ z, z = (4 + r) * 2 ^ m := ⟨_, rfl⟩
      have hz2 : z ≤ 7 * 32 := by rw [hz]; exact Nat.mul_le_mul (by omega) hp
      have hzi : (4 + (r : Int)) * 2 ^ m = (z : Int) := by rw [hz]; simp
      have e1 : lbs s = z + 3 := by unfold lbs; rw [if_neg h5, if_neg h6, ← hm, ← hr, hz]
      have e2 : lmr s = m := by unfold lmr; rw [if_neg h5, if_neg h6, hm]
      have hmI : (m : Int) ≤ 5 := by omega
      have hrI : (r : Int) ≤ 3 := by omega
      have hzI : (z : Int) ≤ 224 := by omega
      have hm0 : (0 : Int) ≤ (m : Int) := by omega
      have hr0 : (0 : Int) ≤ (r : Int) := by omega
      rw [e1, e2]
      clear e1 e2 hz hp hm hr hz2 h1 h2 h5 h6 hm5
      go_enter Tryd.func69, Tryd.ntmps69
      go_wp2_with fail
      go_ret2
      refine ⟨?_, rfl⟩
      show Ending.returned (.tuple #[.int .i64 (3 + (z : Int)), .int .i64 m]) = _
      rw [Int.add_comm 3 (z : Int)]
set_option maxRecDepth 8000 in
set_option maxHeartbeats 4000000 in
theorem ddist_calls (s : Nat) (w : World) (h : s ≤ 29) : Calls Tryd.prog 70 #[.int .i64 s] w fun ee w' => ee = .returned (.tuple #[.int .i64 (dbs s), .int .i64 (dmr s)]) ∧ w' = w := by
  have HI : (s : Int) ≤ 29 := by omega
  by_cases h6 : s < 4
  · have i6 : (s : Int) < 4 := by omega
    have hv : ((s + 1 : Nat) : Int) = (s : Int) + 1 := by omega
    have e1 : dbs s = s + 1 := by unfold dbs; rw [if_pos h6]
    have e2 : dmr s = 0 := by unfold dmr; rw [if_pos h6]
    rw [e1, e2, hv]
    clear e1 e2 hv
    go_enter Tryd.func70, Tryd.ntmps70
    go_wp2_with fail
    go_ret2
    exact ⟨rfl, rfl⟩
  · have i6 : ¬ (s : Int) < 4 := by omega
    obtain ⟨m, hm⟩ : ∃ m, m = s / 2 - 1 := ⟨_, rfl⟩
    obtain ⟨r, hr⟩ : ∃ r, r = s % 2 := ⟨_, rfl⟩
    have hmi : (s : Int).tdiv 2 = (m : Int) + 1 := by rw [Int.tdiv_eq_ediv_of_nonneg (by omega)]; omega
    have hri : (s : Int).tmod 2 = (r : Int) := by rw [Int.tmod_eq_emod_of_nonneg (by omega)]; omega
    have hm5 : m ≤ 13 := by omega
    have hp : 2 ^ m ≤ 8192 := Nat.le_trans (Nat.pow_le_pow_right (n := 2) (by decide) hm5) (by decide)
    obtain ⟨z, hz⟩ : ∃ z, z = (2 + r) * 2 ^ m := ⟨_, rfl⟩
    have hz2 : z ≤ 3 * 8192 := by rw [hz]; exact Nat.mul_le_mul (by omega) hp
    have hzi : (2 + (r : Int)) * 2 ^ m = (z : Int) := by rw [hz]; simp
    have e1 : dbs s = z + 1 := by unfold dbs; rw [if_neg h6, ← hm, ← hr, hz]
    have e2 : dmr s = m := by unfold dmr; rw [if_neg h6, hm]
    have hmI : (m : Int) ≤ 13 := by omega
    have hrI : (r : Int) ≤ 1 := by omega
    have hzI : (z : Int) ≤ 24576 := by omega
    have hm0 : (0 : Int) ≤ (m : Int) := by omega
    have hr0 : (0 : Int) ≤ (r : Int) := by omega
    have hmm : (m : Int) + 1 - 1 = (m : Int) := by omega
    rw [e1, e2]
    clear e1 e2 hz hp hm hr hz2 h h6 hm5
    go_enter Tryd.func70, Tryd.ntmps70
    go_wp2_with fail
    go_ret2
    refine ⟨?_, rfl⟩
    show Ending.returned (.tuple #[.int .i64 (1 + (z : Int)), .int .i64 m]) = _
    rw [Int.add_comm 1 (z : Int)]
/-- Where a reading of n bits follows. -/
theorem lenR_dk {s T N q x q' : Nat} {e' : Int} (hs : s ≤ 285) (hq : q ≤ N) (h : DkC N T q 0 (lmr s) x q' e') : (e' = 0 ∧ lenR s T N q = .ok (lbs s + x, q')) ∨ (e' = 5 ∧ lenR s T N q = .error 5) := by
  have hx := h.1
  rcases h.2 with ⟨h, _⟩ | ⟨_, h⟩
  · exact absurd rfl h
  unfold lenR
  unfold lmr at h hx
  unfold lbs
  rw [if_neg (by omega)]
  by_cases h5 : s = 285
  · rw [if_pos h5] at h hx ⊢
    rw [if_pos h5]
    rcases h with ⟨ht, rfl⟩ | ⟨ht, rfl⟩
    · unfold tk at ht
      rw [if_pos (by omega)] at ht
      simp only [Nat.pow_zero, Nat.mod_one, Except.ok.injEq, Prod.mk.injEq] at ht
      exact .inl ⟨rfl, by rw [← ht.1, ← ht.2]; rfl⟩
    · unfold tk at ht
      rw [if_pos (by omega)] at ht
      cases ht
  · rw [if_neg h5] at h hx ⊢
    rw [if_neg h5]
    by_cases h6 : s < 265
    · rw [if_pos h6] at h hx ⊢
      rw [if_pos h6]
      rcases h with ⟨ht, rfl⟩ | ⟨ht, rfl⟩
      · unfold tk at ht
        rw [if_pos (by omega)] at ht
        simp only [Nat.pow_zero, Nat.mod_one, Except.ok.injEq, Prod.mk.injEq] at ht
        exact .inl ⟨rfl, by rw [← ht.1, ← ht.2]; simp only [retR, Nat.add_zero]⟩
      · unfold tk at ht
        rw [if_pos (by omega)] at ht
        cases ht
    · rw [if_neg h6] at h hx ⊢
      rw [if_neg h6]
      generalize (s - 261) / 4 = m at *
      generalize (s - 261) % 4 = r at *
      generalize (4 + r) * 2 ^ m + 3 = z at *
      rcases h with ⟨ht, rfl⟩ | ⟨ht, rfl⟩
      · exact .inl ⟨rfl, by simp only [bndR, ht, retR]⟩
      · exact .inr ⟨rfl, by simp only [bndR, ht]⟩
theorem disR_dk {s T N q x q' : Nat} {e' : Int} (hs : s ≤ 29) (hq : q ≤ N) (h : DkC N T q 0 (dmr s) x q' e') : (e' = 0 ∧ disR s T N q = .ok (dbs s + x, q')) ∨ (e' = 5 ∧ disR s T N q = .error 5) := by
  have hx := h.1
  rcases h.2 with ⟨h, _⟩ | ⟨_, h⟩
  · exact absurd rfl h
  unfold disR
  unfold dmr at h hx
  unfold dbs
  rw [if_neg (by omega)]
  by_cases h6 : s < 4
  · rw [if_pos h6] at h hx ⊢
    rw [if_pos h6]
    rcases h with ⟨ht, rfl⟩ | ⟨ht, rfl⟩
    · unfold tk at ht
      rw [if_pos (by omega)] at ht
      simp only [Nat.pow_zero, Nat.mod_one, Except.ok.injEq, Prod.mk.injEq] at ht
      exact .inl ⟨rfl, by rw [← ht.1, ← ht.2]; rfl⟩
    · unfold tk at ht
      rw [if_pos (by omega)] at ht
      cases ht
  · rw [if_neg h6] at h hx ⊢
    rw [if_neg h6]
    rcases h with ⟨ht, rfl⟩ | ⟨ht, rfl⟩
    · exact .inl ⟨rfl, by simp only [bndR, ht, retR]⟩
    · exact .inr ⟨rfl, by simp only [bndR, ht]⟩
end Go.Proofs.YtkdklcamgcmifaaDoor

/-! HDocF: The document's reader: copies. -/
namespace Go.Proofs.YtkdklcamgcmifaaDoor
set_option linter.unusedVariables false
set_option linter.unusedSimpArgs false
open Go.RowKit Go.Proofs.YtkdklcamgcmifaaDoorW.PrintWords Go.Proofs.YtkdklcamgcmifaaDoorW.PrintMore
/-- What a length's symbol puts out, and what follows. -/
def cpyO (d : List Nat) (s most : Nat) (out : List Int) (F : List Int → Rdr (List Int)) : Rdr (List Int) :=
  bndR (copR d s) fun (n, far) => if out.length < far then badR 4 else onO (repO most far n out) F
/-- What copies tells. -/
def CpC (d : List Nat) (s most : Nat) (out : List Int) (T N q : Nat) (out' : List Int) (q' : Nat) (e' : Int) : Prop :=
  (e' ≠ 0 ∧ ∀ F, cpyO d s most out F T N q = .error e') ∨ (e' = 0 ∧ ∀ F, cpyO d s most out F T N q = F out' T N q')
/-- The length and the distance's symbol, taken. -/
def CpB (d : List Nat) (s : Nat) (T N q n t q3 : Nat) (e3 : Int) : Prop :=
  (e3 = 0 ∧ ∀ (most : Nat) (out : List Int) F, cpyO d s most out F T N q = bndR (disR t) (fun far => if out.length < far then badR 4 else onO (repO most far n out) F) T N q3) ∨ (e3 ≠ 0 ∧ ∀ (most : Nat) (out : List Int) F, cpyO d s most out F T N q = .error e3)
theorem CpB.of {d : List Nat} {s T N q x q2 t q3 : Nat} {e2 e3 : Int} (hs : s ≤ 285) (hq : q ≤ N) (h : DkC N T q 0 (lmr s) x q2 e2) (h2 : DsC (symL d T N q2) q2 e2 t q3 e3) : CpB d s T N q (lbs s + x) t q3 e3 := by
  rcases lenR_dk hs hq h with ⟨rfl, hl⟩ | ⟨rfl, hl⟩
  · rcases h2 with ⟨h, _⟩ | ⟨_, ⟨h3, rfl⟩ | ⟨h3, h4, rfl⟩⟩
    · exact absurd rfl h
    · refine .inl ⟨rfl, fun most out F => ?_⟩
      simp only [cpyO, copR, bndR, hl, h3]
      cases disR t T N q3 <;> rfl
    · exact .inr ⟨h4, fun most out F => by simp only [cpyO, copR, bndR, hl, h3]⟩
  · rcases h2 with ⟨_, rfl, rfl, rfl⟩ | ⟨h, _⟩
    · exact .inr ⟨by decide, fun most out F => by simp only [cpyO, copR, bndR, hl]⟩
    · exact absurd h (by decide)
theorem lbs_le {s : Nat} (h : 257 ≤ s ∧ s ≤ 285) : 3 ≤ lbs s ∧ lbs s ≤ 300 ∧ lmr s ≤ 5 := by
  obtain ⟨k, rfl⟩ : ∃ k, s = 257 + k := ⟨s - 257, by omega⟩
  have : ∀ k, k ≤ 28 → 3 ≤ lbs (257 + k) ∧ lbs (257 + k) ≤ 300 ∧ lmr (257 + k) ≤ 5 := by decide
  exact this k (by omega)
theorem dbs_le {s : Nat} (h : s ≤ 29) : 1 ≤ dbs s ∧ dbs s ≤ 30000 ∧ dmr s ≤ 13 := by
  have : ∀ k, k ≤ 29 → 1 ≤ dbs k ∧ dbs k ≤ 30000 ∧ dmr k ≤ 13 := by decide
  exact this s h
/-- The copying under way: i bytes are copied. -/
def CpL (most far : Nat) (i n : Nat) (o : List Int) (e1 : Int) (r : Except Int (List Int)) : Prop := (e1 = 0 ∧ repO most far (n - i) o = r) ∨ (e1 ≠ 0 ∧ r = .error e1)
theorem bd_out {w0 W : World} {A : Option Addr} {c most g q : Nat} {p out : List Int} {e : Int} (h : Bd w0 A c p most g q out e W) : ∃ (A1 : Option Addr) (c1 : Nat), W.cell? ⟨g, 2, none⟩ = some (.slice A1 out.length c1) ∧ ReadsInt W .u8 A1 out.length out ∧ out.length ≤ most ∧ most ≤ 1048576 := by
  obtain ⟨v, hb, ho, h1, h2, h3⟩ := h
  obtain ⟨A1, c1, rfl⟩ := own_slice ho
  exact ⟨A1, c1, blk_cell hb 2, own_reads' ho, h3⟩
set_option maxRecDepth 8000 in
set_option maxHeartbeats 8000000 in
theorem dcopies_calls (w0 : World) (A : Option Addr) (c : Nat) (p : List Int) (most g q : Nat) (out : List Int) (W : World) (s : Nat) (d : List Nat) (v : Value) (base : Nat) (hr : Bd w0 A c p most g q out 0 W) (hw : Rw w0 A c p g W) (ht : W.ownsRow base 3 1 v (symT d).length (nums .i64 (natI (symT d)))) (hl : d.length ≤ 1000) (hs : 257 ≤ s ∧ s ≤ 1000) :
    Calls Tryd.prog 54 #[.pointer (some ⟨g, 0, none⟩), .int .i64 s, .agg (dtC v (cntT d)).toArray] W fun ee w' => ∃ (out' : List Int) (q' : Nat) (e' : Int), ee = .returned (.tuple #[]) ∧ Hid (SK 2 g W w') ∧ Hid (Bd w0 A c p most g q' out' e' w') ∧ CpC d s most out (numB p) (8 * p.length) q out' q' e' := by
  have HR := Lib.hid hr
  have HW := Lib.hid hw
  have HL := Lib.hid hl
  have HS0 : Hid (SK 2 g W (W.alloc (.cells (dtC v (cntT d)).toArray 70))) := Lib.hid ((SK.refl 2 g W).alloc hr.lt _)
  have HX0 : Hid ((W.alloc (.cells (dtC v (cntT d)).toArray 70)).heap[W.heap.size]? = some (.cells (dtC v (cntT d)).toArray 70 (0, 0))) := Lib.hid (heap_alloc_new W _)
  have HO0 : Hid ((W.alloc (.cells (dtC v (cntT d)).toArray 70)).ownsRow base 3 1 v (symT d).length (nums .i64 (natI (symT d)))) := Lib.hid (own_move ht fun k hk => Below.heap_alloc _ _ _ (own_lt ht k hk))
  have HB0 : Hid (Bd w0 A c p most g q out 0 (W.alloc (.cells (dtC v (cntT d)).toArray 70))) := Lib.hid (hr.below (below_alloc (Below.refl _ _) _))
  obtain ⟨hs1, hs2⟩ := hs
  have hsI : (s : Int) ≤ 1000 := by omega
  have hsI2 : (257 : Int) ≤ (s : Int) := by omega
  clear hr hw ht hl
  go_enter Tryd.func54, Tryd.ntmps54
  by_cases hs3 : s ≤ 285
  · have is3 : (s : Int) ≤ 285 := by omega
    go_wp2_with fail
    generalize W.alloc (.cells (dtC v (cntT d)).toArray 70) = W0 at *
    refine (dlength_calls s W0 ⟨hs1, hs3⟩).mono ?_
    rintro ee w1 ⟨rfl, rfl⟩
    go_wp2_with fail
    obtain ⟨hb0, hb1, hb2⟩ := lbs_le ⟨hs1, hs3⟩
    have hbI : (lbs s : Int) ≤ 300 := by omega
    have hbI0 : (3 : Int) ≤ (lbs s : Int) := by omega
    refine (dnum_calls w0 A c p most g q out 0 w1 (lmr s) HB0.out (HW.out.sk2 HR.out HS0.out) (by omega)).mono ?_
    rintro ee w2 ⟨x, q2, e2, rfl, hs2', hbd2, hd2⟩
    have HS2 := Lib.hid (HS0.out.trans hs2'.out)
    have HB2 := Lib.hid hbd2.out
    have HD2 : Hid (DkC (8 * p.length) (numB p) q 0 (lmr s) x q2 e2) := Lib.hid hd2
    have HX2 := Lib.hid (hs2'.out.block2 HB0.out HX0.out (by decide) (by decide))
    have HO2 := Lib.hid (own_sk2 HO0.out HB0.out hs2'.out)
    have hx32 : x < 32 := Nat.lt_of_lt_of_le hd2.1 (Nat.le_trans (Nat.pow_le_pow_right (n := 2) (by decide) hb2) (by decide))
    have hxI : (x : Int) < 32 := by omega
    have hxI0 : (0 : Int) ≤ (x : Int) := by omega
    clear hs2' hbd2 hd2
    go_wp2_with (refine wpList_load_row rfl 70 (.tmp 5) rfl W.heap.size rfl 70 _ (0, 0) _ HX2.out Tryd.underlying70 rfl (by rw [dtC_len]; exact infoDt) ?_)
    refine (dsymbol_calls w0 A c p most g q2 out e2 w2 d v base HB2.out (HW.out.sk2 HR.out HS2.out) HO2.out HL.out).mono ?_
    rintro ee w3 ⟨t, q3, e3, rfl, hs3', hb3, hd3⟩
    have HS3 := Lib.hid (HS2.out.trans hs3'.out)
    have HB3 := Lib.hid hb3.out
    have HC := Lib.hid (CpB.of hs3 HR.out.q_le HD2.out hd3)
    have c4 := hb3.out.e_cell
    clear hs3' hb3 hd3
    by_cases he3 : e3 = 0
    · subst he3
      by_cases ht : 29 < t
      · have iht : (t : Int) > 29 := by omega
        go_wp2_with fail
        refine (dfail_calls w0 A c p most g q3 out 0 w3 HB3.out).mono ?_
        rintro ee w4 ⟨rfl, hs4, hb4⟩
        have HS4 : Hid (SK 2 g W w4) := Lib.hid (HS3.out.trans hs4)
        have HB4 : Hid (Bd w0 A c p most g q3 out 4 w4) := Lib.hid hb4
        have c4 := HB4.out.e_cell
        clear hs4 hb4
        go_wp2_with fail
        refine bodyPost_ret (results_none rfl _ _ _) rfl ?_
        refine ⟨out, q3, 4, rfl, HS4, HB4, .inl ⟨by decide, fun F => ?_⟩⟩
        rcases HC.out with ⟨_, h⟩ | ⟨h, _⟩
        · rw [h]
          have hb : disR t (numB p) (8 * p.length) q3 = .error 4 := by unfold disR; rw [if_pos ht]; rfl
          simp only [bndR, hb]
        · exact absurd rfl h
      · have iht : ¬ (t : Int) > 29 := by omega
        have ht29 : t ≤ 29 := by omega
        go_wp2_with fail
        refine (ddist_calls t w3 ht29).mono ?_
        rintro ee w3' ⟨rfl, rfl⟩
        obtain ⟨hd1, hd2, hd3⟩ := dbs_le ht29
        have hdI : (dbs t : Int) ≤ 30000 := by omega
        have hdI0 : (1 : Int) ≤ (dbs t : Int) := by omega
        go_wp2_with fail
        refine (dnum_calls w0 A c p most g q3 out 0 w3' (dmr t) HB3.out (HW.out.sk2 HR.out HS3.out) (by omega)).mono ?_
        rintro ee w5 ⟨y, q5, e5, rfl, hs5, hb5, hd5⟩
        have HS5 := Lib.hid (HS3.out.trans hs5.out)
        have HB5 := Lib.hid hb5.out
        have HD5 := Lib.hid (disR_dk ht29 HB3.out.q_le hd5)
        have hy : y < 8192 := Nat.lt_of_lt_of_le hd5.1 (Nat.le_trans (Nat.pow_le_pow_right (n := 2) (by decide) hd3) (by decide))
        have hyI : (y : Int) < 8192 := by omega
        have hyI0 : (0 : Int) ≤ (y : Int) := by omega
        have c4 := hb5.out.e_cell
        obtain ⟨A1, c1, c2, hrd, hlm, hmm⟩ := bd_out HB5.out
        have hn0 : (0 : Int) < (lbs s : Int) + (x : Int) := by omega
        clear hs5 hb5 hd5 hrd
        have HF : Hid ((e5 = 0 ∧ ∀ F, cpyO d s most out F (numB p) (8 * p.length) q = (if out.length < dbs t + y then badR 4 else onO (repO most (dbs t + y) (lbs s + x) out) F) (numB p) (8 * p.length) q5) ∨ (e5 = 5 ∧ ∀ F, cpyO d s most out F (numB p) (8 * p.length) q = .error 5)) := Lib.hid (by
          rcases HC.out with ⟨_, h⟩ | ⟨h, _⟩
          · rcases HD5.out with ⟨h1, h2⟩ | ⟨h1, h2⟩
            · exact .inl ⟨h1, fun F => by rw [h]; simp only [bndR, h2]⟩
            · exact .inr ⟨h1, fun F => by rw [h]; simp only [bndR, h2]⟩
          · exact absurd rfl h)
        rcases HF.out with ⟨rfl, hf⟩ | ⟨rfl, hf⟩ <;> (have HFF := Lib.hid hf; clear HF HD5 HC hf)
        · by_cases hfar : out.length < dbs t + y
          · have ifar : (dbs t : Int) + (y : Int) > (out.length : Int) := by omega
            have HG : Hid (∀ F, cpyO d s most out F (numB p) (8 * p.length) q = .error 4) := Lib.hid (fun F => by rw [HFF.out, if_pos hfar]; rfl)
            clear HFF hfar
            go_wp2_with fail
            refine (dfail_calls w0 A c p most g q5 out 0 w5 HB5.out).mono ?_
            rintro ee w6 ⟨rfl, hs6, hb6⟩
            have HS6 : Hid (SK 2 g W w6) := Lib.hid (HS5.out.trans hs6)
            have HB6 : Hid (Bd w0 A c p most g q5 out 4 w6) := Lib.hid hb6
            have c4 := HB6.out.e_cell
            clear hs6 hb6
            go_wp2_with fail
            go_loopw [10] (fun v wr => v = .int .i64 0 ∧ Hid (wr = w6)) (fun _ _ => 0)
            case atStart => exact ⟨rfl, Lib.hid rfl⟩
            case round =>
              obtain ⟨rfl, HX⟩ := hrel
              obtain rfl := HX.out
              go_wp2_with fail
              refine bodyPost_end (results_none rfl _ _ _) rfl ⟨rfl, HS6, out, q5, 4, HB6, .inl ⟨by decide, HG.out⟩⟩
          ·
            have HFAR := Lib.hid hfar
            have ifar2 : ((dbs t : Int) + (y : Int) > (out.length : Int)) = False := by simp; omega
            have ifar3 : decide ((dbs t : Int) + (y : Int) > (out.length : Int)) = false := by simp; omega
            have HLM := Lib.hid (And.intro hlm hmm)
            clear hlm hmm
            have HG : Hid (∀ F, cpyO d s most out F (numB p) (8 * p.length) q = onO (repO most (dbs t + y) (lbs s + x) out) F (numB p) (8 * p.length) q5) := Lib.hid (fun F => by rw [HFF.out, if_neg hfar])
            clear HFF hfar
            go_wp2_with fail
            obtain ⟨n, hn⟩ : ∃ n, n = lbs s + x := ⟨_, rfl⟩
            obtain ⟨far, hfr⟩ : ∃ far, far = dbs t + y := ⟨_, rfl⟩
            have hnI : (lbs s : Int) + (x : Int) = (n : Int) := by omega
            have hfI : (dbs t : Int) + (y : Int) = (far : Int) := by omega
            rw [← hn, ← hfr] at HG
            rw [← hfr] at HFAR
            have hnb : (n : Int) ≤ 400 := by omega
            have hfb : (far : Int) ≤ 40000 := by omega
            have hfb1 : (1 : Int) ≤ (far : Int) := by omega
            clear ifar2 ifar3 c2 c4
            rw [hnI, hfI]
            clear hnI hfI hn hfr hn0
            obtain ⟨r, hr⟩ : ∃ r, r = repO most far n out := ⟨_, rfl⟩
            rw [← hr] at HG
            go_loopw [10] (fun v wr => ∃ (i : Nat) (o : List Int) (e1 : Int), v = .int .i64 i ∧ Hid (i ≤ n) ∧ Hid (e1 = 0 → far ≤ o.length) ∧ Hid (SK 2 g W wr) ∧ Hid (Bd w0 A c p most g q5 o e1 wr) ∧ Hid (CpL most far i n o e1 r)) (fun v _ => n - (intOf v).toNat)
            case atStart => exact ⟨0, out, 0, rfl, Lib.hid (Nat.zero_le _), Lib.hid (fun _ => by have := HFAR.out; omega), HS5, HB5, Lib.hid (.inl ⟨rfl, hr.symm⟩)⟩
            case round =>
              clear hr
              obtain ⟨i, o, e1, rfl, HK, HLo, HS, HB, HE⟩ := hrel
              have c4 := HB.out.e_cell
              obtain ⟨A2, c3, k2, hrd2, hlm2, hmm2⟩ := bd_out HB.out
              have HM2 := Lib.hid (And.intro hlm2 hmm2)
              clear hlm2 hmm2
              by_cases hi : i < n
              · have hiI : (i : Int) < (n : Int) := by omega
                by_cases he1 : e1 = 0
                · subst he1
                  have HE2 : Hid (repO most far (n - i) o = r) := Lib.hid (by
                    rcases HE.out with ⟨_, h⟩ | ⟨h, _⟩
                    · exact h
                    · exact absurd rfl h)
                  have hj : o.length - far < o.length := by have := HLo.out rfl; omega
                  obtain ⟨ad, rfl, hcell⟩ := hrd2.2.2 (by omega)
                  have hcj : wr.cell? (ad.add (o.length - far)) = some (.int .u8 (o.getD (o.length - far) 0)) := hcell _ hj
                  have hw1 : IntKind.i64.wrap ((o.length : Int) - (far : Int)) = ((o.length - far : Nat) : Int) := by
                    rw [IntKind.wrap_i64]
                    have := HLo.out rfl
                    have := HM2.out
                    omega
                  have hol : (o.length : Int) ≤ 1048576 := by have := HM2.out; omega
                  have hjI : ((o.length - far : Nat) : Int) < (o.length : Int) := by omega
                  have hj0 : (0 : Int) ≤ ((o.length - far : Nat) : Int) := by omega
                  clear hrd2 hcell
                  generalize hgj : o.length - far = j at *
                  generalize hgx : o.getD j 0 = xb at *
                  have HGX := Lib.hid (And.intro hgj hgx)
                  clear hgj hgx
                  go_wp2_with fail
                  go_still_tail 14, (by kernel_rfl)
                  go_wp2_with fail
                  have HSd : Hid (SK 2 g W wr.drew) := Lib.hid HS.out.drew
                  have HBd : Hid (Bd w0 A c p most g q5 o 0 wr.drew) := Lib.hid (HB.out.keep rfl fun _ _ => rfl)
                  refine (dput_calls w0 A c p most g q5 o 0 xb wr.drew HBd.out (HW.out.sk2 HR.out HSd.out)).mono ?_
                  rintro ee w7 ⟨o7, e7, rfl, hs7, hb7, hd7⟩
                  have HS7 := Lib.hid (HSd.out.trans hs7.out)
                  have HB7 := Lib.hid hb7.out
                  have HD7 : Hid (DpC (putO most o xb) o 0 o7 e7) := Lib.hid hd7
                  clear hs7 hb7 hd7
                  go_wp2_with fail
                  go_roundw
                  case rel =>
                    have h0 := HE2.out
                    rw [show n - i = (n - (i + 1)) + 1 by omega] at h0
                    simp only [repO, HGX.out.1, HGX.out.2] at h0
                    rcases HD7.out with ⟨h, _⟩ | ⟨_, ⟨h1, h2⟩ | ⟨h1, h2⟩⟩
                    · exact absurd rfl h
                    · have hlo : o7.length = o.length + 1 := by
                        unfold putO at h1
                        split at h1
                        · cases h1
                        · simp only [Except.ok.injEq] at h1
                          rw [← h1]; simp
                      rw [h1] at h0
                      exact ⟨i + 1, o7, e7, by simp, Lib.hid (by omega), Lib.hid (fun _ => by have := HLo.out trivial; omega), HS7, HB7, Lib.hid (.inl ⟨h2, h0⟩)⟩
                    · rw [h1] at h0
                      exact ⟨i + 1, o7, e7, by simp, Lib.hid (by omega), Lib.hid (fun h => absurd h h2), HS7, HB7, Lib.hid (.inr ⟨h2, h0.symm⟩)⟩
                  case measure => simp [intOf]; omega
                · have he' : (e1 == 0) = false := by simp [he1]
                  have HR2 : Hid (r = .error e1) := Lib.hid (by
                    rcases HE.out with ⟨h, _⟩ | ⟨_, h⟩
                    · exact absurd h he1
                    · exact h)
                  go_wp2_with fail
                  refine bodyPost_end (results_none rfl _ _ _) rfl ⟨o, q5, e1, rfl, HS, HB, .inl ⟨he1, fun F => ?_⟩⟩
                  rw [HG.out, HR2.out]
                  rfl
              · have hiI : ¬ (i : Int) < (n : Int) := by omega
                go_wp2_with fail
                refine bodyPost_end (results_none rfl _ _ _) rfl ⟨rfl, HS, o, q5, e1, HB, ?_⟩
                rcases HE.out with ⟨h, h2⟩ | ⟨h, h2⟩
                · rw [show n - i = 0 by omega] at h2
                  exact .inr ⟨h, fun F => by rw [HG.out, ← h2]; rfl⟩
                · exact .inl ⟨h, fun F => by rw [HG.out, h2]; rfl⟩
        · go_wp2_with fail
          go_loopw [10] (fun v wr => v = .int .i64 0 ∧ Hid (wr = w5)) (fun _ _ => 0)
          case atStart => exact ⟨rfl, Lib.hid rfl⟩
          case round =>
            obtain ⟨rfl, HX⟩ := hrel
            obtain rfl := HX.out
            go_wp2_with fail
            refine bodyPost_end (results_none rfl _ _ _) rfl ⟨rfl, HS5, out, q5, 5, HB5, .inl ⟨by decide, HFF.out⟩⟩
    · have he' : (e3 == 0) = false := by simp [he3]
      go_wp2_with fail
      refine bodyPost_ret (results_none rfl _ _ _) rfl ?_
      refine ⟨out, q3, e3, rfl, HS3, HB3, .inl ⟨he3, fun F => ?_⟩⟩
      rcases HC.out with ⟨h, _⟩ | ⟨_, h⟩
      · exact absurd h he3
      · exact h most out F
  · have is3 : ¬ (s : Int) ≤ 285 := by omega
    go_wp2_with fail
    generalize W.alloc (.cells (dtC v (cntT d)).toArray 70) = W0 at *
    refine (dfail_calls w0 A c p most g q out 0 W0 HB0.out).mono ?_
    rintro ee w2 ⟨rfl, hs2, hb2⟩
    have HS2 : Hid (SK 2 g W w2) := Lib.hid (HS0.out.trans hs2)
    have HB2 := Lib.hid hb2
    clear hs2 hb2
    go_wp2_with fail
    refine bodyPost_ret (results_none rfl _ _ _) rfl ?_
    refine ⟨out, q, 4, rfl, HS2, HB2, .inl ⟨by decide, fun F => ?_⟩⟩
    have hb : lenR s (numB p) (8 * p.length) q = .error 4 := by unfold lenR; rw [if_pos (by omega)]; rfl
    simp only [cpyO, copR, bndR, hb]
end Go.Proofs.YtkdklcamgcmifaaDoor
