/- The document's reader of bits (codicilref03): bit, fail, put, number. -/
import Derived.Test.YtkdklcamgcmifaaDoorHID
import Derived.Test.YtkdklcamgcmifaaDoorHEndsP
namespace Go.Proofs.YtkdklcamgcmifaaDoor
set_option linter.unusedVariables false
set_option linter.unusedSimpArgs false
open Go.RowKit Go.Proofs.YtkdklcamgcmifaaDoorW.PrintWords Go.Proofs.YtkdklcamgcmifaaDoorW.PrintMore
/-- The stream at g: q bits of p are taken, out is put out, e is what was met. -/
def Bd (w0 : World) (A : Option Addr) (c : Nat) (p : List Int) (most : Nat) (g : Nat) (q : Nat) (out : List Int) (e : Int) (W : World) : Prop :=
  ∃ v : Value, W.heap[g]? = some (.cells #[.slice A p.length c, .int .i64 q, v, .int .i64 most, .int .i64 e] 47 (0, 0)) ∧
    Bs 5 W w0.heap.size v out ∧ q ≤ 8 * p.length ∧ (0 ≤ e ∧ e < 100) ∧ out.length ≤ most ∧ most ≤ 1048576
section
variable {w0 W W' : World} {A : Option Addr} {c most g q : Nat} {p out : List Int} {e : Int}
theorem Bd.lt (h : Bd w0 A c p most g q out e W) : g < W.heap.size := by
  obtain ⟨v, hb, _⟩ := h
  exact blk_lt hb
theorem Bd.row_ge (h : Bd w0 A c p most g q out e W) : ∀ i, rowK 2 W g = some i → w0.heap.size ≤ i ∧ i < W.heap.size := by
  obtain ⟨v, hb, ho, _⟩ := h
  intro i hi
  rw [rowK_eq hb rfl] at hi
  exact ⟨own_base ho i hi, own_lt ho i hi⟩
theorem Bd.row_ne (h : Bd w0 A c p most g q out e W) : rowK 2 W g ≠ some g := by
  obtain ⟨v, hb, ho, _⟩ := h
  intro hi
  rw [rowK_eq hb rfl] at hi
  obtain ⟨cur, hc⟩ := own_typed ho g hi
  rw [hb] at hc
  simp at hc
theorem Bd.keep (h : Bd w0 A c p most g q out e W) (hg : W'.heap[g]? = W.heap[g]?) (hr : ∀ i, rowK 2 W g = some i → W'.heap[i]? = W.heap[i]?) : Bd w0 A c p most g q out e W' := by
  obtain ⟨v, hb, ho, hx⟩ := h
  exact ⟨v, hg.trans hb, own_move ho fun k hk => hr k (by rw [rowK_eq hb rfl]; exact hk), hx⟩
theorem Bd.below (h : Bd w0 A c p most g q out e W) (hb : Below W.heap.size W W') : Bd w0 A c p most g q out e W' :=
  h.keep (hb.block g h.lt) fun i hi => hb.block i (h.row_ge i hi).2
theorem Bd.e_cell (h : Bd w0 A c p most g q out e W) : W.cell? ⟨g, 4, none⟩ = some (.int .i64 e) := by
  obtain ⟨v, hb, _⟩ := h
  exact blk_cell hb 4
theorem Bd.q_le (h : Bd w0 A c p most g q out e W) : q ≤ 8 * p.length := by
  obtain ⟨v, _, _, h1, _⟩ := h
  exact h1
theorem Rw.sk2 (h : Rw w0 A c p g W) (hr : Bd w0 A c p most g q out e W) (hs : SK 2 g W W') : Rw w0 A c p g W' :=
  ⟨h.base, h.rd, h.by_, h.cap, h.len, hs.below h.below (h.below.size) h.base (fun i hi => (hr.row_ge i hi).1), h.ord⟩
/-- Blocks of other kinds stay. -/
theorem SK.block2 (hs : SK 2 g W W') (hr : Bd w0 A c p most g q out e W) {i : Nat} {cs : Array Value} {t : TypeId} {fr : Nat × Nat} (hb : W.heap[i]? = some (.cells cs t fr)) (h1 : t ≠ 47) (h2 : t ≠ 5) : W'.heap[i]? = some (.cells cs t fr) := by
  obtain ⟨v', hb', ho', _⟩ := hr
  have hrow : rowK 2 W g = v'.ownBlock := rowK_eq hb' rfl
  refine (hs.keep i (blk_lt hb) ?_ ?_).trans hb
  · rintro rfl
    rw [hb'] at hb
    simp only [Option.some.injEq, Obj.cells.injEq] at hb
    exact h1 hb.2.1.symm
  · intro e
    rw [hrow] at e
    obtain ⟨cur, hc⟩ := own_typed ho' i e
    rw [hb] at hc
    simp only [Option.some.injEq, Obj.cells.injEq] at hc
    exact h2 hc.2.1
end
/-- What a reading tells: where something was met ahead, all stays. -/
def DkC (N T q : Nat) (e : Int) (n x q' : Nat) (e' : Int) : Prop :=
  x < 2 ^ n ∧ ((e ≠ 0 ∧ q' = q ∧ e' = e) ∨ (e = 0 ∧ ((tk n T N q = .ok (x, q') ∧ e' = 0) ∨ (tk n T N q = .error 5 ∧ e' = 5))))
theorem numB_bit {l : List Int} (h : ∀ x ∈ l, 0 ≤ x ∧ x < 256) {q : Nat} (hq : q < 8 * l.length) : numB l / 2 ^ q % 2 = (l.getD (q / 8) 0).toNat / 2 ^ (q % 8) % 2 := by
  have hb := numB_byte h (k := q / 8) (by omega)
  have e : numB l / 2 ^ q = numB l / 2 ^ (8 * (q / 8)) / 2 ^ (q % 8) := by
    rw [Nat.div_div_eq_div_mul, ← Nat.pow_add, show 8 * (q / 8) + q % 8 = q by omega]
  rw [e, ← hb]
  generalize numB l / 2 ^ (8 * (q / 8)) = X
  have hr : q % 8 < 8 := Nat.mod_lt _ (by decide)
  generalize q % 8 = r at hr
  rcases (show r = 0 ∨ r = 1 ∨ r = 2 ∨ r = 3 ∨ r = 4 ∨ r = 5 ∨ r = 6 ∨ r = 7 by omega) with rfl | rfl | rfl | rfl | rfl | rfl | rfl | rfl <;> omega
theorem and1 (v : Nat) (h : v < 1000000) : bits .and .i64 (v : Int) 1 = ((v % 2 : Nat) : Int) := by
  have h := bits_mask .i64 40 (by decide) (fun n h0 h1 => by rw [IntKind.wrap_i64]; omega) 1 (by omega) (v : Int) (by omega) (by omega)
  simpa using h
theorem bit_val (x r : Nat) (h : x < 256) : bits .and .i64 (wrap64 ((x : Int) / 2 ^ r)) 1 = ((x / 2 ^ r % 2 : Nat) : Int) := by
  have h1 : x / 2 ^ r ≤ x := Nat.div_le_self _ _
  have e : (x : Int) / 2 ^ r = ((x / 2 ^ r : Nat) : Int) := by simp
  rw [e]
  generalize x / 2 ^ r = y at *
  rw [IntWalk.wrap64_in _ (by omega), and1 _ (by omega)]
set_option maxRecDepth 8000 in
set_option maxHeartbeats 4000000 in
theorem dfail_calls (w0 : World) (A : Option Addr) (c : Nat) (p : List Int) (most g q : Nat) (out : List Int) (e : Int) (W : World) (hr : Bd w0 A c p most g q out e W) :
    Calls Tryd.prog 35 #[.pointer (some ⟨g, 0, none⟩)] W fun ee w' => ee = .returned (.tuple #[]) ∧ SK 2 g W w' ∧ Bd w0 A c p most g q out (fst e 4) w' := by
  have HR := Lib.hid hr
  obtain ⟨v, hb, ho, h1, h2, h3⟩ := hr
  have c4 : W.cell? ⟨g, 4, none⟩ = some (.int .i64 e) := blk_cell hb 4
  have f4 := blk_frozen hb 4
  have HB := Lib.hid hb
  have HO := Lib.hid ho
  have HN := Lib.hid (And.intro h1 h3)
  clear hb ho h1 h3
  by_cases h0 : e = 0
  · subst h0
    go_enter Tryd.func35, Tryd.ntmps35
    go_wp2_with fail
    refine bodyPost_end (results_none rfl _ _ _) rfl ?_
    refine ⟨rfl, (SK.refl 2 g W).put HB.out 4 _ (.inl ?_), v, ?_, ?_, HN.out.1, ?_, HN.out.2⟩
    · rw [rowK_eq HB.out rfl]; rfl
    · have := blk_set HB.out 4 (.int .i64 4)
      rw [this]
      simp [fst]
    · exact own_move HO.out fun k hk => Below.heap_setCell _ ⟨g, 4, none⟩ _ k (fun e => HR.out.row_ne (by rw [rowK_eq HB.out rfl]; exact hk.trans (congrArg some e)))
    · simp [fst]
  · have hb0 : (e == 0) = false := by simpa using h0
    go_enter Tryd.func35, Tryd.ntmps35
    go_wp2_with fail
    refine bodyPost_end (results_none rfl _ _ _) rfl ?_
    refine ⟨rfl, SK.refl 2 g W, ?_⟩
    rw [fst, if_neg h0]
    exact HR.out
set_option maxRecDepth 8000 in
set_option maxHeartbeats 4000000 in
theorem dbit_calls (w0 : World) (A : Option Addr) (c : Nat) (p : List Int) (most g q : Nat) (out : List Int) (e : Int) (W : World) (hr : Bd w0 A c p most g q out e W) (hw : Rw w0 A c p g W) :
    Calls Tryd.prog 29 #[.pointer (some ⟨g, 0, none⟩)] W fun ee w' => ∃ (x q' : Nat) (e' : Int), ee = .returned (.int .i64 x) ∧ Hid (SK 2 g W w') ∧ Hid (Bd w0 A c p most g q' out e' w') ∧ DkC (8 * p.length) (numB p) q e 1 x q' e' := by
  have HR := Lib.hid hr
  have HW := Lib.hid hw
  obtain ⟨v, hb, ho, h1, h2, h3⟩ := hr
  have c0 : W.cell? ⟨g, 0, none⟩ = some (.slice A p.length c) := blk_cell hb 0
  have c1 : W.cell? ⟨g, 1, none⟩ = some (.int .i64 q) := blk_cell hb 1
  have c4 : W.cell? ⟨g, 4, none⟩ = some (.int .i64 e) := blk_cell hb 4
  have f1 := blk_frozen hb 1
  have f4 := blk_frozen hb 4
  have HB := Lib.hid hb
  have HO := Lib.hid ho
  have hlen := hw.len
  have HN := Lib.hid (And.intro h1 h3)
  clear hb ho h3 hw
  by_cases h0 : e = 0
  · subst h0
    by_cases hq : 8 * p.length ≤ q
    · have hdec : decide ((8 : Int) * (p.length : Int) ≤ (q : Int)) = true := by simp; omega
      have hw8 : IntKind.i64.wrap (8 * (p.length : Int)) = 8 * (p.length : Int) := by rw [IntKind.wrap_i64]; omega
      go_enter Tryd.func29, Tryd.ntmps29
      go_wp2_with fail
      go_quiet (fail)
      have k4 : (W.drewN nq).cell? ⟨g, 4, none⟩ = some (.int .i64 0) := c4
      have j4 : (W.drewN nq).frozen? ⟨g, 4, none⟩ = false := f4
      have HBq : Hid ((W.drewN nq).heap[g]? = some (.cells #[.slice A p.length c, .int .i64 q, v, .int .i64 most, .int .i64 0] 47 (0, 0))) := Lib.hid HB.out
      have HOq : Hid (Bs 5 (W.drewN nq) w0.heap.size v out) := Lib.hid (own_move HO.out fun _ _ => rfl)
      have HSq : Hid (SK 2 g W (W.drewN nq)) := Lib.hid ((SK.refl 2 g W).drewN nq)
      clear c0 c1 c4 f1 f4 hdec hw8 hlen
      generalize W.drewN nq = wq at *
      go_wp2_with fail
      go_ret
      refine ⟨0, q, 5, rfl, Lib.hid (HSq.out.put HBq.out 4 _ (.inl ?_)), Lib.hid ⟨v, ?_, ?_, h1, by omega, HN.out.2⟩, by decide, .inr ⟨rfl, .inr ⟨?_, rfl⟩⟩⟩
      · rw [rowK_eq HBq.out rfl]; rfl
      · have := blk_set HBq.out 4 (.int .i64 5)
        rw [this]
        simp
      · exact own_move HOq.out fun k hk => Below.heap_setCell _ ⟨g, 4, none⟩ _ k (fun e => by
          obtain ⟨cur, hc⟩ := own_typed HOq.out k hk
          simp only at e
          rw [e, HBq.out] at hc
          simp at hc)
      · unfold tk
        rw [if_neg (by omega)]
    · have hdec : decide ((8 : Int) * (p.length : Int) ≤ (q : Int)) = false := by simp; omega
      have hw8 : IntKind.i64.wrap (8 * (p.length : Int)) = 8 * (p.length : Int) := by rw [IntKind.wrap_i64]; omega
      obtain ⟨k, hk⟩ : ∃ k, k = q / 8 := ⟨_, rfl⟩
      obtain ⟨r, hrr⟩ : ∃ r, r = q % 8 := ⟨_, rfl⟩
      have hq8 : (q : Int).tdiv 8 = (k : Int) := by rw [Int.tdiv_eq_ediv_of_nonneg (by omega)]; omega
      have hr8 : (q : Int).tmod 8 = (r : Int) := by rw [Int.tmod_eq_emod_of_nonneg (by omega)]; omega
      have hwk : IntKind.i64.wrap (k : Int) = (k : Int) := by rw [IntKind.wrap_i64]; omega
      have hk0 : (0 : Int) ≤ (k : Int) := by omega
      have hkl : (k : Int) < (p.length : Int) := by omega
      have hr0 : (0 : Int) ≤ (r : Int) := by omega
      have hr7 : (r : Int) < 8 := by omega
      obtain ⟨ad, rfl, hcell⟩ := (HW.out.rd.below HW.out.below).2.2 (by omega)
      obtain ⟨x, hx, hx2⟩ : ∃ x : Nat, p.getD k 0 = (x : Int) ∧ x < 256 := by
        have := HW.out.by_ (p.getD k 0) (by rw [List.getD_eq_getElem?_getD, List.getElem?_eq_getElem (by omega)]; exact List.getElem_mem _)
        exact ⟨(p.getD k 0).toNat, by omega, by omega⟩
      have hcx : W.cell? (ad.add k) = some (.int .u8 x) := by rw [hcell k (by omega), ← hx]
      have HX := Lib.hid (And.intro hx (And.intro hx2 (And.intro hk (And.intro hrr hq))))
      clear hcell hx hx2 hk hrr
      go_enter Tryd.func29, Tryd.ntmps29
      go_wp2_with fail
      go_quiet (fail)
      have k0 : (W.drewN nq).cell? ⟨g, 0, none⟩ = some (.slice (some ad) p.length c) := c0
      have k1 : (W.drewN nq).cell? ⟨g, 1, none⟩ = some (.int .i64 q) := c1
      have kx : (W.drewN nq).cell? (ad.add k) = some (.int .u8 x) := hcx
      have j1 : (W.drewN nq).frozen? ⟨g, 1, none⟩ = false := f1
      have HBq : Hid ((W.drewN nq).heap[g]? = some (.cells #[.slice (some ad) p.length c, .int .i64 q, v, .int .i64 most, .int .i64 0] 47 (0, 0))) := Lib.hid HB.out
      have HOq : Hid (Bs 5 (W.drewN nq) w0.heap.size v out) := Lib.hid (own_move HO.out fun _ _ => rfl)
      have HSq : Hid (SK 2 g W (W.drewN nq)) := Lib.hid ((SK.refl 2 g W).drewN nq)
      clear c0 c1 c4 f1 f4 hdec hw8 hcx
      generalize W.drewN nq = wq at *
      go_wp2_with fail
      go_quiet (fail)
      go_wp2_with fail
      go_ret
      have hb1 := blk_set HBq.out 1 (.int .i64 ((q : Int) + 1))
      refine ⟨x / 2 ^ r % 2, q + 1, 0, by rw [bit_val x r HX.out.2.1]; rfl, Lib.hid ((HSq.out.drewN nq).put HBq.out 1 _ (.inl ?_)), Lib.hid ⟨v, ?_, ?_, by have := HX.out.2.2.2.2; omega, by omega, HN.out.2⟩, Nat.mod_lt _ (by decide), .inr ⟨rfl, .inl ⟨?_, rfl⟩⟩⟩
      · rw [rowK_eq (W := wq.drewN nq) HBq.out rfl]; rfl
      · show (wq.setCell ⟨g, 1, none⟩ (.int .i64 ((q : Int) + 1))).heap[g]? = _
        rw [hb1]
        simp
      · exact own_move (w := wq) HOq.out fun k hk => Below.heap_setCell wq ⟨g, 1, none⟩ _ k (fun e => by
          obtain ⟨cur, hc⟩ := own_typed HOq.out k hk
          simp only at e
          rw [e, HBq.out] at hc
          simp at hc)
      · have hx := HX.out
        unfold tk
        rw [if_pos (by omega), show (2 : Nat) ^ 1 = 2 from rfl, numB_bit HW.out.by_ (by omega), ← hx.2.2.1, ← hx.2.2.2.1, hx.1, Int.toNat_natCast]
  · have hb0 : (e != 0) = true := by simpa using h0
    go_enter Tryd.func29, Tryd.ntmps29
    go_wp2_with fail
    go_ret
    exact ⟨0, q, e, rfl, Lib.hid (SK.refl 2 g W), HR, by decide, .inl ⟨h0, rfl, rfl⟩⟩
/-- What a putting out tells. -/
def DpC (r : Except Int (List Int)) (out : List Int) (e : Int) (out' : List Int) (e' : Int) : Prop :=
  (e ≠ 0 ∧ out' = out ∧ e' = e) ∨ (e = 0 ∧ ((r = .ok out' ∧ e' = 0) ∨ (r = .error e' ∧ e' ≠ 0)))
theorem put_end2 {w0 W W1 w1 : World} {A : Option Addr} {c most g q : Nat} {p out : List Int} {e x : Int} {v v1 : Value}
    (hq : q ≤ 8 * p.length) (he : 0 ≤ e ∧ e < 100) (hm : out.length < most ∧ most ≤ 1048576)
    (hS : SK 2 g W W1) (hO : Bs 5 W1 w0.heap.size v out)
    (hB : W1.heap[g]? = some (.cells #[.slice A p.length c, .int .i64 q, v, .int .i64 most, .int .i64 e] 47 (0, 0)))
    (hown : w1.ownsRow w0.heap.size 5 1 v1 (out ++ [x]).length (nums .u8 (out ++ [x]))) (hg : W1.grownBy w1 v.ownBlock) (hat : v1.ownBlock = v.ownBlock ∨ ∃ b, v1.ownBlock = some b ∧ W1.heap.size ≤ b) :
    SK 2 g W (w1.setCell ⟨g, 2, none⟩ v1) ∧ Bd w0 A c p most g q (out ++ [x]) e (w1.setCell ⟨g, 2, none⟩ v1) := by
  have hlt := blk_lt hB
  have hrow : rowK 2 W1 g = v.ownBlock := rowK_eq hB rfl
  have hne : v.ownBlock ≠ some g := fun e => by
    obtain ⟨cur, hc⟩ := own_typed hO g e
    rw [hB] at hc
    simp at hc
  have hb1 := (hg.block g hlt (fun e => hne e.symm)).trans hB
  have s2 : SK 2 g W w1 := hS.grow hlt (by rw [hrow]; exact hg) (by rw [hrow]; exact hne)
  have s3 : SK 2 g W (w1.setCell ⟨g, 2, none⟩ v1) := s2.put hb1 2 v1 (by
    rw [rowK_eq hb1 rfl]
    rcases hat with e | ⟨b, e, hb⟩
    · exact .inl e
    · exact .inr ⟨b, e, by have := hS.size; omega⟩)
  refine ⟨s3, v1, ?_, ?_, hq, he, by simp; omega, hm.2⟩
  · rw [blk_set hb1 2 v1]
    simp
  · refine own_move hown fun k hk => Below.heap_setCell _ ⟨g, 2, none⟩ _ k (fun e2 => ?_)
    rcases hat with e | ⟨b, e, hb⟩
    · exact hne (e.symm.trans (hk.trans (congrArg some e2)))
    · rw [e] at hk
      simp at hk hb
      have e3 : b = g := hk.trans e2
      omega
set_option maxRecDepth 8000 in
set_option maxHeartbeats 4000000 in
theorem dput_calls (w0 : World) (A : Option Addr) (c : Nat) (p : List Int) (most g q : Nat) (out : List Int) (e x : Int) (W : World) (hr : Bd w0 A c p most g q out e W) (hw : Rw w0 A c p g W) :
    Calls Tryd.prog 51 #[.pointer (some ⟨g, 0, none⟩), .int .u8 x] W fun ee w' => ∃ (out' : List Int) (e' : Int), ee = .returned (.tuple #[]) ∧ Hid (SK 2 g W w') ∧ Hid (Bd w0 A c p most g q out' e' w') ∧
      DpC (putO most out x) out e out' e' := by
  have HR := Lib.hid hr
  have HW := Lib.hid hw
  obtain ⟨v, hb, ho, h1, h2, h3⟩ := hr
  obtain ⟨A1, c1, rfl⟩ := own_slice ho
  have c2 : W.cell? ⟨g, 2, none⟩ = some (.slice A1 out.length c1) := blk_cell hb 2
  have c3 : W.cell? ⟨g, 3, none⟩ = some (.int .i64 most) := blk_cell hb 3
  have c4 : W.cell? ⟨g, 4, none⟩ = some (.int .i64 e) := blk_cell hb 4
  have f2 := blk_frozen hb 2
  have f4 := blk_frozen hb 4
  have HB := Lib.hid hb
  have HO := Lib.hid ho
  have HN := Lib.hid (And.intro h1 h3)
  have hm := h3
  clear hb ho h1 h3 hw
  by_cases h0 : e = 0
  · subst h0
    by_cases hl : out.length = most
    · have HL := Lib.hid hl
      have hdec : ((out.length : Int) == (most : Int)) = true := by simp [hl]
      clear hl
      go_enter Tryd.func51, Tryd.ntmps51
      go_wp2_with fail
      go_quiet (fail)
      have k4 : (W.drewN nq).cell? ⟨g, 4, none⟩ = some (.int .i64 0) := c4
      have j4 : (W.drewN nq).frozen? ⟨g, 4, none⟩ = false := f4
      have HBq : Hid ((W.drewN nq).heap[g]? = some (.cells #[.slice A p.length c, .int .i64 q, .slice A1 out.length c1, .int .i64 most, .int .i64 0] 47 (0, 0))) := Lib.hid HB.out
      have HOq : Hid (Bs 5 (W.drewN nq) w0.heap.size (.slice A1 out.length c1) out) := Lib.hid (own_move HO.out fun _ _ => rfl)
      have HSq : Hid (SK 2 g W (W.drewN nq)) := Lib.hid ((SK.refl 2 g W).drewN nq)
      clear c2 c3 c4 f2 f4
      generalize W.drewN nq = wq at *
      go_wp2_with fail
      refine bodyPost_ret (results_none rfl _ _ _) rfl ?_
      refine ⟨out, 10, rfl, Lib.hid (HSq.out.put HBq.out 4 _ (.inl ?_)), Lib.hid ⟨.slice A1 out.length c1, ?_, ?_, HN.out.1, by omega, HN.out.2⟩, .inr ⟨rfl, .inr ⟨?_, by decide⟩⟩⟩
      · rw [rowK_eq HBq.out rfl]; rfl
      · have := blk_set HBq.out 4 (.int .i64 10)
        rw [this]
        simp
      · exact own_move HOq.out fun k hk => Below.heap_setCell _ ⟨g, 4, none⟩ _ k (fun e => by
          obtain ⟨cur, hc⟩ := own_typed HOq.out k hk
          simp only at e
          rw [e, HBq.out] at hc
          simp at hc)
      · unfold putO
        rw [if_pos (by have := HL.out; omega)]
    · have HL := Lib.hid hl
      have hdec : ((out.length : Int) == (most : Int)) = false := by simp; omega
      clear hl
      go_enter Tryd.func51, Tryd.ntmps51
      go_wp2_with fail
      go_quiet (fail)
      have k2 : (W.drewN nq).cell? ⟨g, 2, none⟩ = some (.slice A1 out.length c1) := c2
      have j2 : (W.drewN nq).frozen? ⟨g, 2, none⟩ = false := f2
      have HBq : Hid ((W.drewN nq).heap[g]? = some (.cells #[.slice A p.length c, .int .i64 q, .slice A1 out.length c1, .int .i64 most, .int .i64 0] 47 (0, 0))) := Lib.hid HB.out
      have HOq : Hid (Bs 5 (W.drewN nq) w0.heap.size (.slice A1 out.length c1) out) := Lib.hid (own_move HO.out fun _ _ => rfl)
      have HSq : Hid (SK 2 g W (W.drewN nq)) := Lib.hid ((SK.refl 2 g W).drewN nq)
      have hsz : w0.heap.size ≤ (W.drewN nq).heap.size := HW.out.below.size
      clear c2 c3 c4 f2 f4
      generalize W.drewN nq = wq at *
      have hltg := blk_lt HBq.out
      have hne : Value.ownBlock (.slice A1 out.length c1) ≠ some g := fun e => by
        obtain ⟨cur, hc⟩ := own_typed HOq.out g e
        rw [HBq.out] at hc
        simp at hc
      have HSZ := Lib.hid hsz
      have HLM : Hid (out.length < most) := Lib.hid (by have := HL.out; omega)
      clear hsz hdec hm
      go_wp2_with (at_builtin; refine print_append_num (w0 := wq) w0.heap.size rfl (.tmp 26) (.tmp 28) 22 5 .u8 1 rfl Tryd.underlying22 infoE (by omega) (.slice A1 out.length c1) out x rfl rfl HOq.out (Below.refl _ _) HSZ.out (by have := HLM.out; have := HN.out.2.2; omega) ?_; intro v1 w1 hown1 hbel1 hgrow hat; have HOWN := Lib.hid hown1; obtain ⟨g2, cap, hv1, _, _⟩ := World.ownsRow.form hown1 (by simp); subst hv1; have hb1 := (hgrow.block g hltg (fun e => hne e.symm)).trans HBq.out; have m4 := blk_frozen hb1 2; have m5 := blk_cell hb1 2; have HG := Lib.hid hgrow; have HAT := Lib.hid hat; clear hown1 hbel1 hgrow hat hb1)
      refine bodyPost_end (results_none rfl _ _ _) rfl ?_
      have hE := put_end2 HN.out.1 (by omega) ⟨HLM.out, HN.out.2.2⟩ HSq.out HOq.out HBq.out HOWN.out HG.out HAT.out
      rw [show (out ++ [x]).length = out.length + 1 from by simp] at hE
      refine ⟨out ++ [x], 0, rfl, Lib.hid hE.1, Lib.hid hE.2, .inr ⟨rfl, .inl ⟨?_, rfl⟩⟩⟩
      unfold putO
      rw [if_neg (by have := HLM.out; omega)]
  · have hb0 : (e != 0) = true := by simpa using h0
    go_enter Tryd.func51, Tryd.ntmps51
    go_wp2_with fail
    refine bodyPost_ret (results_none rfl _ _ _) rfl ?_
    exact ⟨out, e, rfl, Lib.hid (SK.refl 2 g W), HR, .inl ⟨h0, rfl, rfl⟩⟩
theorem DkC.zero {N T q : Nat} {e : Int} (hq : q ≤ N) : DkC N T q e 0 0 q e := by
  refine ⟨by decide, ?_⟩
  by_cases h : e = 0
  · refine .inr ⟨h, .inl ⟨?_, h⟩⟩
    unfold tk
    rw [if_pos (by omega), Nat.pow_zero, Nat.mod_one]
    rfl
  · exact .inl ⟨h, rfl, rfl⟩
theorem DkC.step {N T q k x q1 y q2 : Nat} {e e1 e2 : Int} (h : DkC N T q e k x q1 e1) (h1 : DkC N T q1 e1 1 y q2 e2) : DkC N T q e (k + 1) (x + y * 2 ^ k) q2 e2 := by
  obtain ⟨hx, h⟩ := h
  obtain ⟨hy, h1⟩ := h1
  have hlt : x + y * 2 ^ k < 2 ^ (k + 1) := by
    have : y * 2 ^ k ≤ 1 * 2 ^ k := Nat.mul_le_mul_right _ (by omega)
    rw [Nat.pow_succ]
    omega
  refine ⟨hlt, ?_⟩
  rcases h with ⟨he, rfl, rfl⟩ | ⟨he, h⟩
  · rcases h1 with ⟨_, rfl, rfl⟩ | ⟨h0, _⟩
    · exact .inl ⟨he, rfl, rfl⟩
    · exact absurd h0 he
  · subst he
    rcases h with ⟨ht, rfl⟩ | ⟨ht, rfl⟩
    · have hq1 : q + k ≤ N ∧ x = T / 2 ^ q % 2 ^ k ∧ q1 = q + k := by
        unfold tk at ht
        split at ht
        · simp only [Except.ok.injEq, Prod.mk.injEq] at ht
          exact ⟨by assumption, ht.1.symm, ht.2.symm⟩
        · cases ht
      obtain ⟨g1, g2, rfl⟩ := hq1
      rcases h1 with ⟨h0, _⟩ | ⟨_, h1⟩
      · exact absurd rfl h0
      · rcases h1 with ⟨ht1, rfl⟩ | ⟨ht1, rfl⟩
        · refine .inr ⟨rfl, .inl ⟨?_, rfl⟩⟩
          unfold tk at ht1 ⊢
          split at ht1
          · simp only [Except.ok.injEq, Prod.mk.injEq] at ht1
            rw [if_pos (by omega), pow_split, ← g2, ht1.1, ← ht1.2, Nat.mul_comm, Nat.add_assoc]
          · cases ht1
        · refine .inr ⟨rfl, .inr ⟨?_, rfl⟩⟩
          unfold tk at ht1 ⊢
          split at ht1
          · cases ht1
          · rw [if_neg (by omega)]
    · rcases h1 with ⟨_, rfl, rfl⟩ | ⟨h0, _⟩
      · refine .inr ⟨rfl, .inr ⟨?_, rfl⟩⟩
        unfold tk at ht ⊢
        split at ht
        · cases ht
        · rw [if_neg (by omega)]
      · exact absurd h0 (by decide)
set_option maxRecDepth 8000 in
set_option maxHeartbeats 4000000 in
theorem dnum_calls (w0 : World) (A : Option Addr) (c : Nat) (p : List Int) (most g q : Nat) (out : List Int) (e : Int) (W : World) (n : Nat) (hr : Bd w0 A c p most g q out e W) (hw : Rw w0 A c p g W) (hn : n ≤ 16) :
    Calls Tryd.prog 30 #[.pointer (some ⟨g, 0, none⟩), .int .i64 n] W fun ee w' => ∃ (x q' : Nat) (e' : Int), ee = .returned (.int .i64 x) ∧ Hid (SK 2 g W w') ∧ Hid (Bd w0 A c p most g q' out e' w') ∧ DkC (8 * p.length) (numB p) q e n x q' e' := by
  have HR := Lib.hid hr
  have HW := Lib.hid hw
  clear hr hw
  go_enter Tryd.func30, Tryd.ntmps30
  go_wp2_with fail
  go_loopw [5, 6] (fun v i wr => ∃ (k x q1 : Nat) (e1 : Int), i = .int .i64 k ∧ v = .int .i64 x ∧ Hid (k ≤ n) ∧ Hid (SK 2 g W wr) ∧ Hid (Bd w0 A c p most g q1 out e1 wr) ∧ Hid (DkC (8 * p.length) (numB p) q e k x q1 e1)) (fun _ i _ => n - (intOf i).toNat)
  case atStart => exact ⟨0, 0, q, e, rfl, rfl, Lib.hid (Nat.zero_le _), Lib.hid (SK.refl 2 g W), HR, Lib.hid (DkC.zero HR.out.q_le)⟩
  case round =>
    obtain ⟨k, x, q1, e1, rfl, rfl, HK, HS, HB, HD⟩ := hrel
    have HLT : Hid (x < 2 ^ k) := Lib.hid HD.out.1
    by_cases hk : k < n
    · have hki : (k : Int) < (n : Int) := by omega
      have hk0 : (0 : Int) ≤ (k : Int) := by omega
      have hk16 : (k : Int) < 16 := by omega
      go_wp2_with fail
      refine (dbit_calls w0 A c p most g q1 out e1 wr HB.out (HW.out.sk2 HR.out HS.out)).mono ?_
      rintro ee w2 ⟨y, q2, e2, rfl, hs2, hb2, hd2⟩
      have HS2 := Lib.hid (HS.out.trans hs2.out)
      have HB2 := Lib.hid hb2.out
      have HD2 : Hid (DkC (8 * p.length) (numB p) q1 e1 1 y q2 e2) := Lib.hid hd2
      have hy2 : y < 2 := hd2.1
      have hp : 2 ^ k ≤ 65536 := Nat.le_trans (Nat.pow_le_pow_right (by decide) (show k ≤ 16 by omega)) (by decide)
      have hz : y * 2 ^ k ≤ 65536 := Nat.le_trans (Nat.mul_le_mul_right _ (show y ≤ 1 by omega)) (by omega)
      obtain ⟨z, hzz⟩ : ∃ z, z = y * 2 ^ k := ⟨_, rfl⟩
      have hzi : (y : Int) * 2 ^ k = (z : Int) := by rw [hzz]; simp
      have hxl : x ≤ 65536 := by have := HLT.out; omega
      rw [← hzz] at hz
      have HZ := Lib.hid hzz
      have hzI : (z : Int) ≤ 65536 := by omega
      have hxI : (x : Int) ≤ 65536 := by omega
      clear hs2 hb2 hd2 hp hz hxl hzz hy2
      go_wp2_with fail
      go_roundw
      case rel => exact ⟨k + 1, x + z, q2, e2, by go_num, by go_num, Lib.hid (by omega), HS2, HB2, Lib.hid (by rw [HZ.out]; exact HD.out.step HD2.out)⟩
      case measure => simp [intOf]; omega
    · have hk' : k = n := by have := HK.out; omega
      subst hk'
      go_wp2_with fail
      go_ret
      exact ⟨x, q1, e1, rfl, HS, HB, HD.out⟩
end Go.Proofs.YtkdklcamgcmifaaDoor
