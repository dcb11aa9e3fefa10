/- The document's reader: copies. -/
import Derived.Test.YtkdklcamgcmifaaDoorHDocE
namespace Go.Proofs.YtkdklcamgcmifaaDoor
set_option linter.unusedVariables false
set_option linter.unusedSimpArgs false
open Go.RowKit Go.Proofs.YtkdklcamgcmifaaDoorW.PrintWords Go.Proofs.YtkdklcamgcmifaaDoorW.PrintMore
/-- What a length's symbol puts out, and what follows. -/
def cpyO (d : List Nat) (s most : Nat) (out : List Int) (F : List Int → Rdr (List Int)) : Rdr (List Int) :=
  bndR (copR d s) fun (n, far) => if out.length < far then badR 4 else onO (repO most far n out) F
/-- What copies tells. -/
def CpC (d : List Nat) (s most : Nat) (out : List Int) (T N q : Nat) (out' : List Int) (q' : Nat) (e' : Int) : Prop :=
  (e' ≠ 0 ∧ ∀ F, cpyO d s most out F T N q = .error e') ∨ (e' = 0 ∧ ∀ F, cpyO d s most out F T N q = F out' T N q')
/-- The length and the distance's symbol, taken. -/
def CpB (d : List Nat) (s : Nat) (T N q n t q3 : Nat) (e3 : Int) : Prop :=
  (e3 = 0 ∧ ∀ (most : Nat) (out : List Int) F, cpyO d s most out F T N q = bndR (disR t) (fun far => if out.length < far then badR 4 else onO (repO most far n out) F) T N q3) ∨ (e3 ≠ 0 ∧ ∀ (most : Nat) (out : List Int) F, cpyO d s most out F T N q = .error e3)
theorem CpB.of {d : List Nat} {s T N q x q2 t q3 : Nat} {e2 e3 : Int} (hs : s ≤ 285) (hq : q ≤ N) (h : DkC N T q 0 (lmr s) x q2 e2) (h2 : DsC (symL d T N q2) q2 e2 t q3 e3) : CpB d s T N q (lbs s + x) t q3 e3 := by
  rcases lenR_dk hs hq h with ⟨rfl, hl⟩ | ⟨rfl, hl⟩
  · rcases h2 with ⟨h, _⟩ | ⟨_, ⟨h3, rfl⟩ | ⟨h3, h4, rfl⟩⟩
    · exact absurd rfl h
    · refine .inl ⟨rfl, fun most out F => ?_⟩
      simp only [cpyO, copR, bndR, hl, h3]
      cases disR t T N q3 <;> rfl
    · exact .inr ⟨h4, fun most out F => by simp only [cpyO, copR, bndR, hl, h3]⟩
  · rcases h2 with ⟨_, rfl, rfl, rfl⟩ | ⟨h, _⟩
    · exact .inr ⟨by decide, fun most out F => by simp only [cpyO, copR, bndR, hl]⟩
    · exact absurd h (by decide)
theorem lbs_le {s : Nat} (h : 257 ≤ s ∧ s ≤ 285) : 3 ≤ lbs s ∧ lbs s ≤ 300 ∧ lmr s ≤ 5 := by
  obtain ⟨k, rfl⟩ : ∃ k, s = 257 + k := ⟨s - 257, by omega⟩
  have : ∀ k, k ≤ 28 → 3 ≤ lbs (257 + k) ∧ lbs (257 + k) ≤ 300 ∧ lmr (257 + k) ≤ 5 := by decide
  exact this k (by omega)
theorem dbs_le {s : Nat} (h : s ≤ 29) : 1 ≤ dbs s ∧ dbs s ≤ 30000 ∧ dmr s ≤ 13 := by
  have : ∀ k, k ≤ 29 → 1 ≤ dbs k ∧ dbs k ≤ 30000 ∧ dmr k ≤ 13 := by decide
  exact this s h
/-- The copying under way: i bytes are copied. -/
def CpL (most far : Nat) (i n : Nat) (o : List Int) (e1 : Int) (r : Except Int (List Int)) : Prop := (e1 = 0 ∧ repO most far (n - i) o = r) ∨ (e1 ≠ 0 ∧ r = .error e1)
theorem bd_out {w0 W : World} {A : Option Addr} {c most g q : Nat} {p out : List Int} {e : Int} (h : Bd w0 A c p most g q out e W) : ∃ (A1 : Option Addr) (c1 : Nat), W.cell? ⟨g, 2, none⟩ = some (.slice A1 out.length c1) ∧ ReadsInt W .u8 A1 out.length out ∧ out.length ≤ most ∧ most ≤ 1048576 := by
  obtain ⟨v, hb, ho, h1, h2, h3⟩ := h
  obtain ⟨A1, c1, rfl⟩ := own_slice ho
  exact ⟨A1, c1, blk_cell hb 2, own_reads' ho, h3⟩
set_option maxRecDepth 8000 in
set_option maxHeartbeats 8000000 in
theorem dcopies_calls (w0 : World) (A : Option Addr) (c : Nat) (p : List Int) (most g q : Nat) (out : List Int) (W : World) (s : Nat) (d : List Nat) (v : Value) (base : Nat) (hr : Bd w0 A c p most g q out 0 W) (hw : Rw w0 A c p g W) (ht : W.ownsRow base 3 1 v (symT d).length (nums .i64 (natI (symT d)))) (hl : d.length ≤ 1000) (hs : 257 ≤ s ∧ s ≤ 1000) :
    Calls Tryd.prog 54 #[.pointer (some ⟨g, 0, none⟩), .int .i64 s, .agg (dtC v (cntT d)).toArray] W fun ee w' => ∃ (out' : List Int) (q' : Nat) (e' : Int), ee = .returned (.tuple #[]) ∧ Hid (SK 2 g W w') ∧ Hid (Bd w0 A c p most g q' out' e' w') ∧ CpC d s most out (numB p) (8 * p.length) q out' q' e' := by
  have HR := Lib.hid hr
  have HW := Lib.hid hw
  have HL := Lib.hid hl
  have HS0 : Hid (SK 2 g W (W.alloc (.cells (dtC v (cntT d)).toArray 70))) := Lib.hid ((SK.refl 2 g W).alloc hr.lt _)
  have HX0 : Hid ((W.alloc (.cells (dtC v (cntT d)).toArray 70)).heap[W.heap.size]? = some (.cells (dtC v (cntT d)).toArray 70 (0, 0))) := Lib.hid (heap_alloc_new W _)
  have HO0 : Hid ((W.alloc (.cells (dtC v (cntT d)).toArray 70)).ownsRow base 3 1 v (symT d).length (nums .i64 (natI (symT d)))) := Lib.hid (own_move ht fun k hk => Below.heap_alloc _ _ _ (own_lt ht k hk))
  have HB0 : Hid (Bd w0 A c p most g q out 0 (W.alloc (.cells (dtC v (cntT d)).toArray 70))) := Lib.hid (hr.below (below_alloc (Below.refl _ _) _))
  obtain ⟨hs1, hs2⟩ := hs
  have hsI : (s : Int) ≤ 1000 := by omega
  have hsI2 : (257 : Int) ≤ (s : Int) := by omega
  clear hr hw ht hl
  go_enter Tryd.func54, Tryd.ntmps54
  by_cases hs3 : s ≤ 285
  · have is3 : (s : Int) ≤ 285 := by omega
    go_wp2_with fail
    generalize W.alloc (.cells (dtC v (cntT d)).toArray 70) = W0 at *
    refine (dlength_calls s W0 ⟨hs1, hs3⟩).mono ?_
    rintro ee w1 ⟨rfl, rfl⟩
    go_wp2_with fail
    obtain ⟨hb0, hb1, hb2⟩ := lbs_le ⟨hs1, hs3⟩
    have hbI : (lbs s : Int) ≤ 300 := by omega
    have hbI0 : (3 : Int) ≤ (lbs s : Int) := by omega
    refine (dnum_calls w0 A c p most g q out 0 w1 (lmr s) HB0.out (HW.out.sk2 HR.out HS0.out) (by omega)).mono ?_
    rintro ee w2 ⟨x, q2, e2, rfl, hs2', hbd2, hd2⟩
    have HS2 := Lib.hid (HS0.out.trans hs2'.out)
    have HB2 := Lib.hid hbd2.out
    have HD2 : Hid (DkC (8 * p.length) (numB p) q 0 (lmr s) x q2 e2) := Lib.hid hd2
    have HX2 := Lib.hid (hs2'.out.block2 HB0.out HX0.out (by decide) (by decide))
    have HO2 := Lib.hid (own_sk2 HO0.out HB0.out hs2'.out)
    have hx32 : x < 32 := Nat.lt_of_lt_of_le hd2.1 (Nat.le_trans (Nat.pow_le_pow_right (n := 2) (by decide) hb2) (by decide))
    have hxI : (x : Int) < 32 := by omega
    have hxI0 : (0 : Int) ≤ (x : Int) := by omega
    clear hs2' hbd2 hd2
    go_wp2_with (refine wpList_load_row rfl 70 (.tmp 5) rfl W.heap.size rfl 70 _ (0, 0) _ HX2.out Tryd.underlying70 rfl (by rw [dtC_len]; exact infoDt) ?_)
    refine (dsymbol_calls w0 A c p most g q2 out e2 w2 d v base HB2.out (HW.out.sk2 HR.out HS2.out) HO2.out HL.out).mono ?_
    rintro ee w3 ⟨t, q3, e3, rfl, hs3', hb3, hd3⟩
    have HS3 := Lib.hid (HS2.out.trans hs3'.out)
    have HB3 := Lib.hid hb3.out
    have HC := Lib.hid (CpB.of hs3 HR.out.q_le HD2.out hd3)
    have c4 := hb3.out.e_cell
    clear hs3' hb3 hd3
    by_cases he3 : e3 = 0
    · subst he3
      by_cases ht : 29 < t
      · have iht : (t : Int) > 29 := by omega
        go_wp2_with fail
        refine (dfail_calls w0 A c p most g q3 out 0 w3 HB3.out).mono ?_
        rintro ee w4 ⟨rfl, hs4, hb4⟩
        have HS4 : Hid (SK 2 g W w4) := Lib.hid (HS3.out.trans hs4)
        have HB4 : Hid (Bd w0 A c p most g q3 out 4 w4) := Lib.hid hb4
        have c4 := HB4.out.e_cell
        clear hs4 hb4
        go_wp2_with fail
        refine bodyPost_ret (results_none rfl _ _ _) rfl ?_
        refine ⟨out, q3, 4, rfl, HS4, HB4, .inl ⟨by decide, fun F => ?_⟩⟩
        rcases HC.out with ⟨_, h⟩ | ⟨h, _⟩
        · rw [h]
          have hb : disR t (numB p) (8 * p.length) q3 = .error 4 := by unfold disR; rw [if_pos ht]; rfl
          simp only [bndR, hb]
        · exact absurd rfl h
      · have iht : ¬ (t : Int) > 29 := by omega
        have ht29 : t ≤ 29 := by omega
        go_wp2_with fail
        refine (ddist_calls t w3 ht29).mono ?_
        rintro ee w3' ⟨rfl, rfl⟩
        obtain ⟨hd1, hd2, hd3⟩ := dbs_le ht29
        have hdI : (dbs t : Int) ≤ 30000 := by omega
        have hdI0 : (1 : Int) ≤ (dbs t : Int) := by omega
        go_wp2_with fail
        refine (dnum_calls w0 A c p most g q3 out 0 w3' (dmr t) HB3.out (HW.out.sk2 HR.out HS3.out) (by omega)).mono ?_
        rintro ee w5 ⟨y, q5, e5, rfl, hs5, hb5, hd5⟩
        have HS5 := Lib.hid (HS3.out.trans hs5.out)
        have HB5 := Lib.hid hb5.out
        have HD5 := Lib.hid (disR_dk ht29 HB3.out.q_le hd5)
        have hy : y < 8192 := Nat.lt_of_lt_of_le hd5.1 (Nat.le_trans (Nat.pow_le_pow_right (n := 2) (by decide) hd3) (by decide))
        have hyI : (y : Int) < 8192 := by omega
        have hyI0 : (0 : Int) ≤ (y : Int) := by omega
        have c4 := hb5.out.e_cell
        obtain ⟨A1, c1, c2, hrd, hlm, hmm⟩ := bd_out HB5.out
        have hn0 : (0 : Int) < (lbs s : Int) + (x : Int) := by omega
        clear hs5 hb5 hd5 hrd
        have HF : Hid ((e5 = 0 ∧ ∀ F, cpyO d s most out F (numB p) (8 * p.length) q = (if out.length < dbs t + y then badR 4 else onO (repO most (dbs t + y) (lbs s + x) out) F) (numB p) (8 * p.length) q5) ∨ (e5 = 5 ∧ ∀ F, cpyO d s most out F (numB p) (8 * p.length) q = .error 5)) := Lib.hid (by
          rcases HC.out with ⟨_, h⟩ | ⟨h, _⟩
          · rcases HD5.out with ⟨h1, h2⟩ | ⟨h1, h2⟩
            · exact .inl ⟨h1, fun F => by rw [h]; simp only [bndR, h2]⟩
            · exact .inr ⟨h1, fun F => by rw [h]; simp only [bndR, h2]⟩
          · exact absurd rfl h)
        rcases HF.out with ⟨rfl, hf⟩ | ⟨rfl, hf⟩ <;> (have HFF := Lib.hid hf; clear HF HD5 HC hf)
        · by_cases hfar : out.length < dbs t + y
          · have ifar : (dbs t : Int) + (y : Int) > (out.length : Int) := by omega
            have HG : Hid (∀ F, cpyO d s most out F (numB p) (8 * p.length) q = .error 4) := Lib.hid (fun F => by rw [HFF.out, if_pos hfar]; rfl)
            clear HFF hfar
            go_wp2_with fail
            refine (dfail_calls w0 A c p most g q5 out 0 w5 HB5.out).mono ?_
            rintro ee w6 ⟨rfl, hs6, hb6⟩
            have HS6 : Hid (SK 2 g W w6) := Lib.hid (HS5.out.trans hs6)
            have HB6 : Hid (Bd w0 A c p most g q5 out 4 w6) := Lib.hid hb6
            have c4 := HB6.out.e_cell
            clear hs6 hb6
            go_wp2_with fail
            go_loopw [10] (fun v wr => v = .int .i64 0 ∧ Hid (wr = w6)) (fun _ _ => 0)
            case atStart => exact ⟨rfl, Lib.hid rfl⟩
            case round =>
              obtain ⟨rfl, HX⟩ := hrel
              obtain rfl := HX.out
              go_wp2_with fail
              refine bodyPost_end (results_none rfl _ _ _) rfl ⟨rfl, HS6, out, q5, 4, HB6, .inl ⟨by decide, HG.out⟩⟩
          ·
            have HFAR := Lib.hid hfar
            have ifar2 : ((dbs t : Int) + (y : Int) > (out.length : Int)) = False := by simp; omega
            have ifar3 : decide ((dbs t : Int) + (y : Int) > (out.length : Int)) = false := by simp; omega
            have HLM := Lib.hid (And.intro hlm hmm)
            clear hlm hmm
            have HG : Hid (∀ F, cpyO d s most out F (numB p) (8 * p.length) q = onO (repO most (dbs t + y) (lbs s + x) out) F (numB p) (8 * p.length) q5) := Lib.hid (fun F => by rw [HFF.out, if_neg hfar])
            clear HFF hfar
            go_wp2_with fail
            obtain ⟨n, hn⟩ : ∃ n, n = lbs s + x := ⟨_, rfl⟩
            obtain ⟨far, hfr⟩ : ∃ far, far = dbs t + y := ⟨_, rfl⟩
            have hnI : (lbs s : Int) + (x : Int) = (n : Int) := by omega
            have hfI : (dbs t : Int) + (y : Int) = (far : Int) := by omega
            rw [← hn, ← hfr] at HG
            rw [← hfr] at HFAR
            have hnb : (n : Int) ≤ 400 := by omega
            have hfb : (far : Int) ≤ 40000 := by omega
            have hfb1 : (1 : Int) ≤ (far : Int) := by omega
            clear ifar2 ifar3 c2 c4
            rw [hnI, hfI]
            clear hnI hfI hn hfr hn0
            obtain ⟨r, hr⟩ : ∃ r, r = repO most far n out := ⟨_, rfl⟩
            rw [← hr] at HG
            go_loopw [10] (fun v wr => ∃ (i : Nat) (o : List Int) (e1 : Int), v = .int .i64 i ∧ Hid (i ≤ n) ∧ Hid (e1 = 0 → far ≤ o.length) ∧ Hid (SK 2 g W wr) ∧ Hid (Bd w0 A c p most g q5 o e1 wr) ∧ Hid (CpL most far i n o e1 r)) (fun v _ => n - (intOf v).toNat)
            case atStart => exact ⟨0, out, 0, rfl, Lib.hid (Nat.zero_le _), Lib.hid (fun _ => by have := HFAR.out; omega), HS5, HB5, Lib.hid (.inl ⟨rfl, hr.symm⟩)⟩
            case round =>
              clear hr
              obtain ⟨i, o, e1, rfl, HK, HLo, HS, HB, HE⟩ := hrel
              have c4 := HB.out.e_cell
              obtain ⟨A2, c3, k2, hrd2, hlm2, hmm2⟩ := bd_out HB.out
              have HM2 := Lib.hid (And.intro hlm2 hmm2)
              clear hlm2 hmm2
              by_cases hi : i < n
              · have hiI : (i : Int) < (n : Int) := by omega
                by_cases he1 : e1 = 0
                · subst he1
                  have HE2 : Hid (repO most far (n - i) o = r) := Lib.hid (by
                    rcases HE.out with ⟨_, h⟩ | ⟨h, _⟩
                    · exact h
                    · exact absurd rfl h)
                  have hj : o.length - far < o.length := by have := HLo.out rfl; omega
                  obtain ⟨ad, rfl, hcell⟩ := hrd2.2.2 (by omega)
                  have hcj : wr.cell? (ad.add (o.length - far)) = some (.int .u8 (o.getD (o.length - far) 0)) := hcell _ hj
                  have hw1 : IntKind.i64.wrap ((o.length : Int) - (far : Int)) = ((o.length - far : Nat) : Int) := by
                    rw [IntKind.wrap_i64]
                    have := HLo.out rfl
                    have := HM2.out
                    omega
                  have hol : (o.length : Int) ≤ 1048576 := by have := HM2.out; omega
                  have hjI : ((o.length - far : Nat) : Int) < (o.length : Int) := by omega
                  have hj0 : (0 : Int) ≤ ((o.length - far : Nat) : Int) := by omega
                  clear hrd2 hcell
                  generalize hgj : o.length - far = j at *
                  generalize hgx : o.getD j 0 = xb at *
                  have HGX := Lib.hid (And.intro hgj hgx)
                  clear hgj hgx
                  go_wp2_with fail
                  go_still_tail 14, (by kernel_rfl)
                  go_wp2_with fail
                  have HSd : Hid (SK 2 g W wr.drew) := Lib.hid HS.out.drew
                  have HBd : Hid (Bd w0 A c p most g q5 o 0 wr.drew) := Lib.hid (HB.out.keep rfl fun _ _ => rfl)
                  refine (dput_calls w0 A c p most g q5 o 0 xb wr.drew HBd.out (HW.out.sk2 HR.out HSd.out)).mono ?_
                  rintro ee w7 ⟨o7, e7, rfl, hs7, hb7, hd7⟩
                  have HS7 := Lib.hid (HSd.out.trans hs7.out)
                  have HB7 := Lib.hid hb7.out
                  have HD7 : Hid (DpC (putO most o xb) o 0 o7 e7) := Lib.hid hd7
                  clear hs7 hb7 hd7
                  go_wp2_with fail
                  go_roundw
                  case rel =>
                    have h0 := HE2.out
                    rw [show n - i = (n - (i + 1)) + 1 by omega] at h0
                    simp only [repO, HGX.out.1, HGX.out.2] at h0
                    rcases HD7.out with ⟨h, _⟩ | ⟨_, ⟨h1, h2⟩ | ⟨h1, h2⟩⟩
                    · exact absurd rfl h
                    · have hlo : o7.length = o.length + 1 := by
                        unfold putO at h1
                        split at h1
                        · cases h1
                        · simp only [Except.ok.injEq] at h1
                          rw [← h1]; simp
                      rw [h1] at h0
                      exact ⟨i + 1, o7, e7, by simp, Lib.hid (by omega), Lib.hid (fun _ => by have := HLo.out trivial; omega), HS7, HB7, Lib.hid (.inl ⟨h2, h0⟩)⟩
                    · rw [h1] at h0
                      exact ⟨i + 1, o7, e7, by simp, Lib.hid (by omega), Lib.hid (fun h => absurd h h2), HS7, HB7, Lib.hid (.inr ⟨h2, h0.symm⟩)⟩
                  case measure => simp [intOf]; omega
                · have he' : (e1 == 0) = false := by simp [he1]
                  have HR2 : Hid (r = .error e1) := Lib.hid (by
                    rcases HE.out with ⟨h, _⟩ | ⟨_, h⟩
                    · exact absurd h he1
                    · exact h)
                  go_wp2_with fail
                  refine bodyPost_end (results_none rfl _ _ _) rfl ⟨o, q5, e1, rfl, HS, HB, .inl ⟨he1, fun F => ?_⟩⟩
                  rw [HG.out, HR2.out]
                  rfl
              · have hiI : ¬ (i : Int) < (n : Int) := by omega
                go_wp2_with fail
                refine bodyPost_end (results_none rfl _ _ _) rfl ⟨rfl, HS, o, q5, e1, HB, ?_⟩
                rcases HE.out with ⟨h, h2⟩ | ⟨h, h2⟩
                · rw [show n - i = 0 by omega] at h2
                  exact .inr ⟨h, fun F => by rw [HG.out, ← h2]; rfl⟩
                · exact .inl ⟨h, fun F => by rw [HG.out, h2]; rfl⟩
        · go_wp2_with fail
          go_loopw [10] (fun v wr => v = .int .i64 0 ∧ Hid (wr = w5)) (fun _ _ => 0)
          case atStart => exact ⟨rfl, Lib.hid rfl⟩
          case round =>
            obtain ⟨rfl, HX⟩ := hrel
            obtain rfl := HX.out
            go_wp2_with fail
            refine bodyPost_end (results_none rfl _ _ _) rfl ⟨rfl, HS5, out, q5, 5, HB5, .inl ⟨by decide, HFF.out⟩⟩
    · have he' : (e3 == 0) = false := by simp [he3]
      go_wp2_with fail
      refine bodyPost_ret (results_none rfl _ _ _) rfl ?_
      refine ⟨out, q3, e3, rfl, HS3, HB3, .inl ⟨he3, fun F => ?_⟩⟩
      rcases HC.out with ⟨h, _⟩ | ⟨_, h⟩
      · exact absurd h he3
      · exact h most out F
  · have is3 : ¬ (s : Int) ≤ 285 := by omega
    go_wp2_with fail
    generalize W.alloc (.cells (dtC v (cntT d)).toArray 70) = W0 at *
    refine (dfail_calls w0 A c p most g q out 0 W0 HB0.out).mono ?_
    rintro ee w2 ⟨rfl, hs2, hb2⟩
    have HS2 : Hid (SK 2 g W w2) := Lib.hid (HS0.out.trans hs2)
    have HB2 := Lib.hid hb2
    clear hs2 hb2
    go_wp2_with fail
    refine bodyPost_ret (results_none rfl _ _ _) rfl ?_
    refine ⟨out, q, 4, rfl, HS2, HB2, .inl ⟨by decide, fun F => ?_⟩⟩
    have hb : lenR s (numB p) (8 * p.length) q = .error 4 := by unfold lenR; rw [if_pos (by omega)]; rfl
    simp only [cpyO, copR, bndR, hb]
end Go.Proofs.YtkdklcamgcmifaaDoor
