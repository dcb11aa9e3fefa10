/- The document's reader: symbol. -/
import Derived.Test.YtkdklcamgcmifaaDoorHDocC
namespace Go.Proofs.YtkdklcamgcmifaaDoor
set_option linter.unusedVariables false
set_option linter.unusedSimpArgs false
open Go.RowKit Go.Proofs.YtkdklcamgcmifaaDoorW.PrintWords Go.Proofs.YtkdklcamgcmifaaDoorW.PrintMore
/-- The document's table of the lengths l at t. -/
def Dt (base : Nat) (W : World) (l : List Nat) (t : Nat) : Prop := ∃ v, W.heap[t]? = some (.cells (dtC v (cntT l)).toArray 70 (0, 0)) ∧ W.ownsRow base 3 1 v (symT l).length (nums .i64 (natI (symT l)))
theorem own_sk2 {w0 W W' : World} {A : Option Addr} {c most g q : Nat} {p out : List Int} {e : Int} {base n : Nat} {v : Value} {xs : List Value} (ho : W.ownsRow base 3 1 v n xs) (hr : Bd w0 A c p most g q out e W) (hs : SK 2 g W W') : W'.ownsRow base 3 1 v n xs := by
  refine own_move ho fun k hk => ?_
  obtain ⟨cur, hc⟩ := own_typed ho k hk
  exact (hs.block2 hr hc (by decide) (by decide)).trans hc.symm
theorem Dt.sk {w0 W W' : World} {A : Option Addr} {c most g q : Nat} {p out : List Int} {e : Int} {l : List Nat} {t base : Nat} (h : Dt base W l t) (hr : Bd w0 A c p most g q out e W) (hs : SK 2 g W W') : Dt base W' l t := by
  obtain ⟨v, hb, ho⟩ := h
  exact ⟨v, hs.block2 hr hb (by decide) (by decide), own_sk2 ho hr hs⟩
/-- What symbol tells. -/
def DsC (r : Except Int (Nat × Nat)) (q : Nat) (e : Int) (x q' : Nat) (e' : Int) : Prop :=
  (e ≠ 0 ∧ x = 0 ∧ q' = q ∧ e' = e) ∨ (e = 0 ∧ ((r = .ok (x, q') ∧ e' = 0) ∨ (r = .error e' ∧ e' ≠ 0 ∧ x = 0)))
/-- symbol under way. -/
def DsR (l : List Nat) (T N : Nat) (r : Except Int (Nat × Nat)) (q : Nat) (e : Int) (n code first at_ q1 : Nat) (e1 : Int) : Prop :=
  (e1 = 0 ∧ e = 0 ∧ first ≤ code ∧ symR (cntT l) (symT l) (16 - n) n (2 * code) (2 * first) at_ T N q1 = r) ∨ (e1 ≠ 0 ∧ DsC r q e 0 q1 e1)
theorem DsR.step {l : List Nat} {T N q n cc ff ii qq y q2 : Nat} {r : Except Int (Nat × Nat)} {e e1 e2 : Int} (h : DsR l T N r q e n cc ff ii qq e1) (hd : DkC N T qq e1 1 y q2 e2) (hlt : ii < (symT l).length) (hn : n ≤ 15)
    (hno : ¬ (e2 = 0 ∧ ff * 2 ≤ 2 * cc + y ∧ 2 * cc + y < ff * 2 + cntT l n)) : DsR l T N r q e (n + 1) (2 * cc + y) (ff * 2 + cntT l n) (ii + cntT l n) q2 e2 := by
  rcases h with ⟨rfl, rfl, h1, h2⟩ | ⟨h1, h2⟩
  · rw [show 16 - n = (15 - n) + 1 by omega] at h2
    unfold symR at h2
    rw [if_neg (by omega)] at h2
    rcases hd.2 with ⟨h, _⟩ | ⟨_, ⟨ht, rfl⟩ | ⟨ht, rfl⟩⟩
    · exact absurd rfl h
    · simp only [bndR, ht] at h2
      rw [if_neg (by omega)] at h2
      refine .inl ⟨rfl, rfl, by omega, ?_⟩
      rw [show 16 - (n + 1) = 15 - n by omega, show ff * 2 = 2 * ff by omega]
      exact h2
    · simp only [bndR, ht] at h2
      exact .inr ⟨by decide, .inr ⟨rfl, .inr ⟨h2.symm, by decide, rfl⟩⟩⟩
  · rcases hd.2 with ⟨_, rfl, rfl⟩ | ⟨h, _⟩
    · exact .inr ⟨h1, h2⟩
    · exact absurd h h1
theorem DsR.hit {l : List Nat} {T N q n cc ff ii qq y q2 : Nat} {r : Except Int (Nat × Nat)} {e e1 : Int} (h : DsR l T N r q e n cc ff ii qq e1) (hd : DkC N T qq e1 1 y q2 0) (hlt : ii < (symT l).length) (hn : n ≤ 15)
    (h3 : ff * 2 ≤ 2 * cc + y) (h4 : 2 * cc + y < ff * 2 + cntT l n) : DsC r q e ((symT l).getD (ii + (2 * cc + y - ff * 2)) 0) q2 0 := by
  rcases h with ⟨rfl, rfl, h1, h2⟩ | ⟨h1, h2⟩
  · rw [show 16 - n = (15 - n) + 1 by omega] at h2
    unfold symR at h2
    rw [if_neg (by omega)] at h2
    rcases hd.2 with ⟨h, _⟩ | ⟨_, ⟨ht, _⟩ | ⟨ht, h⟩⟩
    · exact absurd rfl h
    · simp only [bndR, ht] at h2
      rw [if_pos (by omega)] at h2
      refine .inr ⟨rfl, .inl ⟨?_, rfl⟩⟩
      rw [← h2, show ff * 2 = 2 * ff by omega]
      rfl
    · exact absurd h (by decide)
  · rcases hd.2 with ⟨_, rfl, rfl⟩ | ⟨h, _⟩
    · exact absurd rfl h1
    · exact absurd h h1
theorem DsR.out {l : List Nat} {T N q cc ff ii qq : Nat} {r : Except Int (Nat × Nat)} {e e1 : Int} (h : DsR l T N r q e 16 cc ff ii qq e1) : DsC r q e 0 qq (fst e1 4) := by
  rcases h with ⟨rfl, rfl, h1, h2⟩ | ⟨h1, h2⟩
  · exact .inr ⟨rfl, .inr ⟨h2.symm, by decide, rfl⟩⟩
  · rw [fst, if_neg h1]
    exact h2
set_option maxRecDepth 8000 in
set_option maxHeartbeats 8000000 in
theorem dsymbol_calls (w0 : World) (A : Option Addr) (c : Nat) (p : List Int) (most g q : Nat) (out : List Int) (e : Int) (W : World) (l : List Nat) (v : Value) (base : Nat) (hr : Bd w0 A c p most g q out e W) (hw : Rw w0 A c p g W) (ht : W.ownsRow base 3 1 v (symT l).length (nums .i64 (natI (symT l)))) (hl : l.length ≤ 1000) :
    Calls Tryd.prog 53 #[.pointer (some ⟨g, 0, none⟩), .agg (dtC v (cntT l)).toArray] W fun ee w' => ∃ (x q' : Nat) (e' : Int), ee = .returned (.int .i64 x) ∧ Hid (SK 2 g W w') ∧ Hid (Bd w0 A c p most g q' out e' w') ∧ DsC (symL l (numB p) (8 * p.length) q) q e x q' e' := by
  have HR := Lib.hid hr
  have HW := Lib.hid hw
  have hs := symT_le l
  have HL : Hid ((symT l).length ≤ 1000) := Lib.hid (by omega)
  have HS0 : Hid (SK 2 g W (W.alloc (.cells (dtC v (cntT l)).toArray 70))) := Lib.hid ((SK.refl 2 g W).alloc hr.lt _)
  have HT0 : Hid (Dt base (W.alloc (.cells (dtC v (cntT l)).toArray 70)) l W.heap.size) := Lib.hid ⟨v, heap_alloc_new W _, own_move ht fun k hk => Below.heap_alloc _ _ _ (own_lt ht k hk)⟩
  have HB0 : Hid (Bd w0 A c p most g q out e (W.alloc (.cells (dtC v (cntT l)).toArray 70))) := Lib.hid (hr.below (below_alloc (Below.refl _ _) _))
  have HD0 : Hid (DsR l (numB p) (8 * p.length) (symL l (numB p) (8 * p.length) q) q e 1 0 0 0 q e) := Lib.hid (by
    by_cases h : e = 0
    · exact .inl ⟨h, h, Nat.le_refl _, rfl⟩
    · exact .inr ⟨h, .inl ⟨h, rfl, rfl, rfl⟩⟩)
  generalize hres : symL l (numB p) (8 * p.length) q = res at *
  clear hr hw ht hl hs hres
  go_enter Tryd.func53, Tryd.ntmps53
  go_wp2_with fail
  generalize W.alloc (.cells (dtC v (cntT l)).toArray 70) = W0 at *
  go_loopw [5, 6, 7, 8] (fun vc vf va vn wr => ∃ (cc ff ii n qq : Nat) (e1 : Int), vc = .int .i64 cc ∧ vf = .int .i64 ff ∧ va = .int .i64 ii ∧ vn = .int .i64 n ∧ 1 ≤ n ∧ n ≤ 16 ∧ Hid (ii = sumT l (n - 1)) ∧ Hid (cc < 2 ^ (n - 1) ∧ ff + 1000 ≤ 1000 * 2 ^ (n - 1)) ∧
    Hid (SK 2 g W wr) ∧ Hid (Dt base wr l W.heap.size) ∧ Hid (Bd w0 A c p most g qq out e1 wr) ∧ Hid (DsR l (numB p) (8 * p.length) res q e n cc ff ii qq e1)) (fun _ _ _ vn _ => 16 - (intOf vn).toNat)
  case atStart => exact ⟨0, 0, 0, 1, q, e, rfl, rfl, rfl, rfl, by omega, by omega, Lib.hid rfl, Lib.hid (by decide), HS0, HT0, HB0, HD0⟩
  case round =>
    clear HS0 HT0 HB0 HD0
    obtain ⟨cc, ff, ii, n, qq, e1, rfl, rfl, rfl, rfl, hn1, hn2, HI, HC, HS, HT, HB, HD⟩ := hrel
    have hile : ii ≤ (symT l).length := by
      rw [HI.out, symT_len]; exact sumT_mono l (by omega)
    have HLE := Lib.hid hile
    clear hile
    by_cases h16 : n ≤ 15
    · have i16 : (n : Int) ≤ 15 := by omega
      have hp : 2 ^ (n - 1) ≤ 16384 := Nat.pow_le_pow_right (n := 2) (by decide) (show n - 1 ≤ 14 by omega)
      have hsum : ii + cntT l n ≤ (symT l).length := by
        have := cnt_le l (n - 1) (by omega)
        rw [show n - 1 + 1 = n from by omega] at this
        rw [HI.out]; exact this
      have HP := Lib.hid hp
      have HSUM := Lib.hid hsum
      obtain ⟨v2, hbt, hot⟩ := HT.out
      obtain ⟨As, cs, rfl⟩ := own_slice hot
      have c0 : wr.cell? ⟨W.heap.size, 0, none⟩ = some (.slice As (symT l).length cs) := blk_cell hbt 0
      have hcc : (cc : Int) ≤ 16384 := by have := HC.out.1; omega
      have hff : (ff : Int) ≤ 16384000 := by have := HC.out.2; omega
      have hii : (ii : Int) ≤ 1000 := by have := HLE.out; have := HL.out; omega
      have hcc0 : (0 : Int) ≤ (cc : Int) := by omega
      have hff0 : (0 : Int) ≤ (ff : Int) := by omega
      clear hp hsum hbt hot
      by_cases hend : ii = (symT l).length
      · have ib : ((ii : Int) == ((symT l).length : Int)) = true := by simp [hend]
        have HEND := Lib.hid hend
        clear hend
        go_wp2_with fail
        refine (dfail_calls w0 A c p most g qq out e1 wr HB.out).mono ?_
        rintro ee w2 ⟨rfl, hs2, hb2⟩
        have HS2 : Hid (SK 2 g W w2) := Lib.hid (HS.out.trans hs2)
        have HB2 := Lib.hid hb2
        clear hs2 hb2
        go_wp2_with fail
        go_ret
        refine ⟨0, qq, _, rfl, HS2, HB2, ?_⟩
        rcases HD.out with ⟨rfl, rfl, h1, h2⟩ | ⟨h1, h2⟩
        · refine .inr ⟨rfl, .inr ⟨?_, by decide, rfl⟩⟩
          rw [show 16 - n = (15 - n) + 1 by omega] at h2
          unfold symR at h2
          rw [if_pos (by have := HEND.out; omega)] at h2
          exact h2.symm
        · rw [fst, if_neg h1]
          exact h2
      · have ib : ((ii : Int) == ((symT l).length : Int)) = false := by simp; omega
        have hlt : ii < (symT l).length := by have := HLE.out; omega
        have HLT := Lib.hid hlt
        clear hlt hend
        go_wp2_with fail
        refine (dbit_calls w0 A c p most g qq out e1 wr HB.out (HW.out.sk2 HR.out HS.out)).mono ?_
        rintro ee w2 ⟨y, q2, e2, rfl, hs2, hb2, hd2⟩
        have HS2 := Lib.hid (HS.out.trans hs2.out)
        have HT2 := Lib.hid (HT.out.sk HB.out hs2.out)
        have HB2 := Lib.hid hb2.out
        have HD2 : Hid (DkC (8 * p.length) (numB p) qq e1 1 y q2 e2) := Lib.hid hd2
        have hy : (y : Int) < 2 := by have := hd2.1; omega
        have hy0 : (0 : Int) ≤ (y : Int) := by omega
        have c4 := hb2.out.e_cell
        clear hs2 hb2 hd2 c0
        obtain ⟨v2, hbt, hot⟩ := HT2.out
        obtain ⟨As2, cs2, rfl⟩ := own_slice hot
        have c0 : w2.cell? ⟨W.heap.size, 0, none⟩ = some (.slice As2 (symT l).length cs2) := blk_cell hbt 0
        have cn : w2.cell? ⟨W.heap.size, 1 + n, none⟩ = some (.int .i64 ((cntT l n : Nat) : Int)) := blk_cellL hbt (dtC_get' (by omega))
        have HOT := Lib.hid hot
        generalize hct : cntT l n = ct at *
        have HCT := Lib.hid hct
        have hct1 : (ct : Int) ≤ 1000 := by have := HSUM.out; have := HL.out; omega
        have hn0 : (0 : Int) ≤ (n : Int) := by omega
        clear hbt hot hct
        by_cases hk : ff * 2 ≤ 2 * cc + y
        · have ik : (0 : Int) ≤ 2 * (cc : Int) + (y : Int) - (ff : Int) * 2 := by omega
          by_cases hlt : 2 * cc + y < ff * 2 + ct
          · have ilt : 2 * (cc : Int) + (y : Int) - (ff : Int) * 2 < (ct : Int) := by omega
            by_cases he : e2 = 0
            · subst he
              have hjl : ii + (2 * cc + y - ff * 2) < (symT l).length := by have := HSUM.out; have := HCT.out; omega
              obtain ⟨ad, rfl, hcell⟩ := (own_reads' HOT.out).2.2 (by omega)
              have hcj : w2.cell? (ad.add (ii + (2 * cc + y - ff * 2))) = some (.int .i64 (((symT l).getD (ii + (2 * cc + y - ff * 2)) 0 : Nat) : Int)) := by rw [hcell _ hjl, symT_getD]
              have hD := HD.out.hit HD2.out HLT.out h16 hk (by rw [HCT.out]; exact hlt)
              obtain ⟨j, hj⟩ : ∃ j, j = ii + (2 * cc + y - ff * 2) := ⟨_, rfl⟩
              have hji : (ii : Int) + (2 * (cc : Int) + (y : Int) - (ff : Int) * 2) = (j : Int) := by omega
              have hj2 : (j : Int) < ((symT l).length : Int) := by omega
              have hj0 : (0 : Int) ≤ (j : Int) := by omega
              rw [← hj] at hcj hD
              clear hcell hjl hj
              generalize (symT l).getD j 0 = xs at *
              have HDD := Lib.hid hD
              clear hD
              go_wp2_with fail
              go_ret
              exact ⟨xs, q2, 0, rfl, HS2, HB2, HDD.out⟩
            · have ie : (e2 == 0) = false := by simp [he]
              go_wp2_with fail
              go_roundw
              case rel =>
                have hpw : 2 ^ (n + 1 - 1) = 2 * 2 ^ (n - 1) := by rw [show n + 1 - 1 = (n - 1) + 1 by omega, Nat.pow_succ]; omega
                have hce := HCT.out
                refine ⟨2 * cc + y, ff * 2 + ct, ii + ct, n + 1, q2, e2, by simp, by simp, by simp, by simp, by omega, by omega, Lib.hid ?_, Lib.hid ⟨?_, ?_⟩, HS2, HT2, HB2, Lib.hid ?_⟩
                · have := cnt_sum l (n - 1) (by omega)
                  rw [show n - 1 + 1 = n from by omega] at this
                  rw [← hce, HI.out, Nat.add_sub_cancel, this]
                · rw [hpw]; have := HC.out.1; omega
                · rw [hpw]; have := HC.out.2; omega
                · rw [← hce]
                  exact HD.out.step HD2.out HLT.out h16 (by rw [hce]; omega)
              case measure => simp [intOf]; omega
          · have ilt : ¬ 2 * (cc : Int) + (y : Int) - (ff : Int) * 2 < (ct : Int) := by omega
            go_wp2_with fail
            go_roundw
            case rel =>
              have hpw : 2 ^ (n + 1 - 1) = 2 * 2 ^ (n - 1) := by rw [show n + 1 - 1 = (n - 1) + 1 by omega, Nat.pow_succ]; omega
              have hce := HCT.out
              refine ⟨2 * cc + y, ff * 2 + ct, ii + ct, n + 1, q2, e2, by simp, by simp, by simp, by simp, by omega, by omega, Lib.hid ?_, Lib.hid ⟨?_, ?_⟩, HS2, HT2, HB2, Lib.hid ?_⟩
              · have := cnt_sum l (n - 1) (by omega)
                rw [show n - 1 + 1 = n from by omega] at this
                rw [← hce, HI.out, Nat.add_sub_cancel, this]
              · rw [hpw]; have := HC.out.1; omega
              · rw [hpw]; have := HC.out.2; omega
              · rw [← hce]
                exact HD.out.step HD2.out HLT.out h16 (by rw [hce]; omega)
            case measure => simp [intOf]; omega
        · have ik : ¬ (0 : Int) ≤ 2 * (cc : Int) + (y : Int) - (ff : Int) * 2 := by omega
          go_wp2_with fail
          go_roundw
          case rel =>
            have hpw : 2 ^ (n + 1 - 1) = 2 * 2 ^ (n - 1) := by rw [show n + 1 - 1 = (n - 1) + 1 by omega, Nat.pow_succ]; omega
            have hce := HCT.out
            refine ⟨2 * cc + y, ff * 2 + ct, ii + ct, n + 1, q2, e2, by simp, by simp, by simp, by simp, by omega, by omega, Lib.hid ?_, Lib.hid ⟨?_, ?_⟩, HS2, HT2, HB2, Lib.hid ?_⟩
            · have := cnt_sum l (n - 1) (by omega)
              rw [show n - 1 + 1 = n from by omega] at this
              rw [← hce, HI.out, Nat.add_sub_cancel, this]
            · rw [hpw]; have := HC.out.1; omega
            · rw [hpw]; have := HC.out.2; omega
            · rw [← hce]
              exact HD.out.step HD2.out HLT.out h16 (by rw [hce]; omega)
          case measure => simp [intOf]; omega
    · have i16 : ¬ (n : Int) ≤ 15 := by omega
      obtain rfl : n = 16 := by omega
      go_wp2_with fail
      refine (dfail_calls w0 A c p most g qq out e1 wr HB.out).mono ?_
      rintro ee w2 ⟨rfl, hs2, hb2⟩
      have HS2 : Hid (SK 2 g W w2) := Lib.hid (HS.out.trans hs2)
      have HB2 := Lib.hid hb2
      clear hs2 hb2
      go_wp2_with fail
      go_ret
      exact ⟨0, qq, _, rfl, HS2, HB2, HD.out.out⟩
end Go.Proofs.YtkdklcamgcmifaaDoor
