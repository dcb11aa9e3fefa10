/- The document's reader: stored, tabled, symbol. -/
import Derived.Test.YtkdklcamgcmifaaDoorHDocA
namespace Go.Proofs.YtkdklcamgcmifaaDoor
set_option linter.unusedVariables false
set_option linter.unusedSimpArgs false
open Go.RowKit Go.Proofs.YtkdklcamgcmifaaDoorW.PrintWords Go.Proofs.YtkdklcamgcmifaaDoorW.PrintMore
/-- What a call tells that began with nothing met. -/
def DrT {α : Type} (r : Except Int (α × Nat)) (x : α) (q' : Nat) (e' : Int) : Prop := (r = .ok (x, q') ∧ e' = 0) ∨ (r = .error e' ∧ e' ≠ 0)
theorem two_dk {N T q1 n q2 m q3 a b : Nat} {e2 e3 : Int} (h1 : DkC N T q1 0 a n q2 e2) (h2 : DkC N T q2 e2 b m q3 e3) :
    (e3 = 0 ∧ ∀ f : Nat → Nat → Rdr (List Int), bndR (tk a) (fun n => bndR (tk b) fun m => f n m) T N q1 = f n m T N q3) ∨ (e3 = 5 ∧ ∀ f : Nat → Nat → Rdr (List Int), bndR (tk a) (fun n => bndR (tk b) fun m => f n m) T N q1 = .error 5) := by
  rcases h1.2 with ⟨h, _⟩ | ⟨_, h⟩
  · exact absurd rfl h
  rcases h with ⟨t1, rfl⟩ | ⟨t1, rfl⟩
  · rcases h2.2 with ⟨h, _⟩ | ⟨_, h⟩
    · exact absurd rfl h
    rcases h with ⟨t2, rfl⟩ | ⟨t2, rfl⟩
    · exact .inl ⟨rfl, fun f => by unfold bndR; rw [t1]; simp only []; rw [t2]⟩
    · exact .inr ⟨rfl, fun f => by unfold bndR; rw [t1]; simp only []; rw [t2]⟩
  · rcases h2.2 with ⟨_, _, rfl⟩ | ⟨h, _⟩
    · exact .inr ⟨rfl, fun f => by unfold bndR; rw [t1]⟩
    · exact absurd h (by decide)
theorem bd_at {w0 W : World} {A : Option Addr} {c most g q q1 : Nat} {p out : List Int} {e : Int} (h : Bd w0 A c p most g q out e W) (hq : q1 ≤ 8 * p.length) :
    Bd w0 A c p most g q1 out e (W.setCell ⟨g, 1, none⟩ (.int .i64 q1)) ∧ SK 2 g W (W.setCell ⟨g, 1, none⟩ (.int .i64 q1)) := by
  have hne := h.row_ne
  obtain ⟨v, hb, ho, h1, h2⟩ := h
  have hb1 := blk_set hb 1 (.int .i64 q1)
  rw [rowK_eq hb rfl] at hne
  refine ⟨⟨v, ?_, own_move ho fun k hk => Below.heap_setCell _ ⟨g, 1, none⟩ _ k (fun e => hne (hk.trans (congrArg some e))), hq, h2⟩, (SK.refl 2 g W).put hb 1 _ (.inl (by rw [rowK_eq hb rfl]; rfl))⟩
  rw [hb1]
  simp
set_option maxRecDepth 8000 in
set_option maxHeartbeats 8000000 in
theorem dstored_calls (w0 : World) (A : Option Addr) (c : Nat) (p : List Int) (most g q : Nat) (out : List Int) (W : World) (hr : Bd w0 A c p most g q out 0 W) (hw : Rw w0 A c p g W) :
    Calls Tryd.prog 31 #[.pointer (some ⟨g, 0, none⟩)] W fun ee w' => ∃ (out' : List Int) (q' : Nat) (e' : Int), ee = .returned (.tuple #[]) ∧ Hid (SK 2 g W w') ∧ Hid (Bd w0 A c p most g q' out' e' w') ∧ DrT (stoO most out (numB p) (8 * p.length) q) out' q' e' := by
  obtain ⟨res, hres⟩ : ∃ res, stoO most out (numB p) (8 * p.length) q = res := ⟨_, rfl⟩
  rw [hres]
  have HR := Lib.hid hr
  have HW := Lib.hid hw
  have HRES := Lib.hid hres
  have hq := hr.q_le
  obtain ⟨q1, hq1⟩ : ∃ q1, q1 = (q + 7) / 8 * 8 := ⟨_, rfl⟩
  have hqI : ((q : Int) + 7) / 8 * 8 = (q1 : Int) := by omega
  have hlen := hw.len
  have hz := bd_at hr (q1 := q1) (by omega)
  have HZ := Lib.hid hz
  have HQ1 := Lib.hid hq1
  obtain ⟨v, hb, ho, -⟩ := hr
  have c1 : W.cell? ⟨g, 1, none⟩ = some (.int .i64 q) := blk_cell hb 1
  have f1 := blk_frozen hb 1
  have hqq : (q : Int) ≤ 8 * (p.length : Int) := by omega
  have hll : (p.length : Int) ≤ 1048576 := by omega
  clear hw hb ho hz hq1 hres hq hlen
  go_enter Tryd.func31, Tryd.ntmps31
  go_wp2_with fail
  have HW1 := Lib.hid (HW.out.sk2 HR.out HZ.out.2)
  refine (dnum_calls w0 A c p most g q1 out 0 _ 16 HZ.out.1 HW1.out (by omega)).mono ?_
  rintro ee w2 ⟨n, q2, e2, rfl, hs2, hb2, hd2⟩
  have HS2 := Lib.hid (HZ.out.2.trans hs2.out)
  have HB2 := Lib.hid hb2.out
  have HD2 : Hid (DkC (8 * p.length) (numB p) q1 0 16 n q2 e2) := Lib.hid hd2
  clear hs2 hb2 hd2 c1 f1
  go_wp2_with fail
  refine (dnum_calls w0 A c p most g q2 out e2 w2 16 HB2.out (HW.out.sk2 HR.out HS2.out) (by omega)).mono ?_
  rintro ee w3 ⟨m, q3, e3, rfl, hs3, hb3, hd3⟩
  have HS3 := Lib.hid (HS2.out.trans hs3.out)
  have HB3 := Lib.hid hb3.out
  have HD3 := Lib.hid (two_dk HD2.out hd3)
  have hn16 : (n : Int) < 65536 := by have := HD2.out.1; omega
  have hm16 : (m : Int) < 65536 := by have := hd3.1; omega
  have HM := Lib.hid (And.intro HD2.out.1 hd3.1)
  clear hs3 hb3 hd3
  have key : ∀ (e4 : Int) (w4 : World), SK 2 g W w4 → Bd w0 A c p most g q3 out e4 w4 → ((e4 ≠ 0 ∧ res = .error e4) ∨ (e4 = 0 ∧ bytO most n out (numB p) (8 * p.length) q3 = res)) → True := fun _ _ _ _ _ => trivial
  clear key
  have hres := HRES.out
  unfold stoO at hres
  rw [← HQ1.out] at hres
  have HCASE : Hid ((e3 = 5 ∧ res = .error 5) ∨ (e3 = 0 ∧ (if n + m ≠ 65535 then badR 4 else bytO most n out) (numB p) (8 * p.length) q3 = res)) := Lib.hid (by
    rcases HD3.out with ⟨h, hf⟩ | ⟨h, hf⟩
    · rw [hf] at hres
      exact .inr ⟨h, hres⟩
    · rw [hf] at hres
      exact .inl ⟨h, hres.symm⟩)
  clear hres
  have hn0 : (0 : Int) ≤ (n : Int) := by omega
  by_cases hnm : n + m = 65535
  · have hb : ((n : Int) + (m : Int) != 65535) = false := by simp; omega
    have HC0 : Hid ((e3 = 0 ∧ bytO most (n - 0) out (numB p) (8 * p.length) q3 = res) ∨ (e3 ≠ 0 ∧ res = .error e3)) := Lib.hid (by
      rcases HCASE.out with ⟨h, h2⟩ | ⟨h, h2⟩
      · exact .inr ⟨by rw [h]; decide, by rw [h]; exact h2⟩
      · rw [if_neg (by simpa using hnm)] at h2
        exact .inl ⟨h, h2⟩)
    clear HCASE HD3
    go_wp2_with fail
    go_loopw [4, 5] (fun v _ wr => ∃ (k qq : Nat) (o : List Int) (e1 : Int), v = .int .i64 k ∧ Hid (k ≤ n) ∧ Hid (SK 2 g W wr) ∧ Hid (Bd w0 A c p most g qq o e1 wr) ∧ Hid ((e1 = 0 ∧ bytO most (n - k) o (numB p) (8 * p.length) qq = res) ∨ (e1 ≠ 0 ∧ res = .error e1))) (fun v _ _ => n - (intOf v).toNat)
    case atStart => exact ⟨0, q3, out, e3, rfl, Lib.hid (Nat.zero_le _), HS3, HB3, HC0⟩
    case round =>
      obtain ⟨k, qq, o, e1, rfl, HK, HS, HB, HE⟩ := hrel
      have c4 := HB.out.e_cell
      have hkn : (k : Int) ≤ 65535 := by have := HK.out; omega
      by_cases hk : k < n
      · have hki : (k : Int) < (n : Int) := by omega
        by_cases he1 : e1 = 0
        · subst he1
          have HE2 : Hid (bytO most (n - k) o (numB p) (8 * p.length) qq = res) := Lib.hid (by
            rcases HE.out with ⟨_, h⟩ | ⟨h, _⟩
            · exact h
            · exact absurd rfl h)
          go_wp2_with fail
          refine (dnum_calls w0 A c p most g qq o 0 wr 8 HB.out (HW.out.sk2 HR.out HS.out) (by omega)).mono ?_
          rintro ee w5 ⟨x, q5, e5, rfl, hs5, hb5, hd5⟩
          have HS5 := Lib.hid (HS.out.trans hs5.out)
          have HB5 := Lib.hid hb5.out
          have HD5 : Hid (DkC (8 * p.length) (numB p) qq 0 8 x q5 e5) := Lib.hid hd5
          have hx8 : x < 256 := hd5.1
          clear hs5 hb5 hd5 c4
          have hwx : IntKind.u8.wrap (x : Int) = (x : Int) := by rw [IntKind.wrap_u8]; omega
          go_wp2_with fail
          refine (dput_calls w0 A c p most g q5 o e5 x w5 HB5.out (HW.out.sk2 HR.out HS5.out)).mono ?_
          rintro ee w6 ⟨o6, e6, rfl, hs6, hb6, hd6⟩
          have HS6 := Lib.hid (HS5.out.trans hs6.out)
          have HB6 := Lib.hid hb6.out
          have HD6 : Hid (DpC (putO most o x) o e5 o6 e6) := Lib.hid hd6
          clear hs6 hb6 hd6 hwx
          go_wp2_with fail
          go_roundw
          case rel =>
            refine ⟨k + 1, q5, o6, e6, by simp, Lib.hid (by omega), HS6, HB6, Lib.hid ?_⟩
            have h0 := HE2.out
            rw [show n - k = (n - (k + 1)) + 1 by omega] at h0
            rcases HD5.out.2 with ⟨h, _⟩ | ⟨_, ⟨ht, rfl⟩ | ⟨ht, rfl⟩⟩
            · exact absurd rfl h
            · simp only [bytO, bndR, ht] at h0
              rcases HD6.out with ⟨h, _⟩ | ⟨_, ⟨h1, h2⟩ | ⟨h1, h2⟩⟩
              · exact absurd rfl h
              · simp only [onO, h1] at h0
                exact .inl ⟨h2, h0⟩
              · simp only [onO, h1] at h0
                exact .inr ⟨h2, h0.symm⟩
            · simp only [bytO, bndR, ht] at h0
              rcases HD6.out with ⟨_, rfl, rfl⟩ | ⟨h, _⟩
              · exact .inr ⟨by decide, h0.symm⟩
              · exact absurd h (by decide)
          case measure => simp [intOf]; omega
        · have he' : (e1 == 0) = false := by simp [he1]
          go_wp2_with fail
          refine bodyPost_end (results_none rfl _ _ _) rfl ⟨o, qq, e1, rfl, HS, HB, ?_⟩
          rcases HE.out with ⟨h, _⟩ | ⟨_, h⟩
          · exact absurd h he1
          · exact .inr ⟨h, he1⟩
      · have hki : ¬ (k : Int) < (n : Int) := by omega
        have hkd : decide ((k : Int) < (n : Int)) = false := by simp; omega
        go_wp2_with fail
        refine bodyPost_end (results_none rfl _ _ _) rfl ⟨rfl, HS, o, qq, e1, HB, ?_⟩
        rcases HE.out with ⟨h, h2⟩ | ⟨h, h2⟩
        · rw [show n - k = 0 by omega] at h2
          exact .inl ⟨h2.symm, h⟩
        · exact .inr ⟨h2, h⟩
  · have hb : ((n : Int) + (m : Int) != 65535) = true := by simp; omega
    have HC0 : Hid (res = .error (fst e3 4) ∧ fst e3 4 ≠ 0) := Lib.hid (by
      rcases HCASE.out with ⟨rfl, h2⟩ | ⟨rfl, h2⟩
      · exact ⟨h2, by decide⟩
      · rw [if_pos (by simpa using hnm)] at h2
        exact ⟨h2.symm, by decide⟩)
    clear HCASE HD3
    go_wp2_with fail
    refine (dfail_calls w0 A c p most g q3 out e3 w3 HB3.out).mono ?_
    rintro ee w4 ⟨rfl, hs4, hb4⟩
    have HS4 := Lib.hid (HS3.out.trans hs4)
    have HB4 := Lib.hid hb4
    have c4 := hb4.e_cell
    have HNE := HC0.out.2
    generalize fst e3 4 = e4 at *
    have he' : (e4 == 0) = false := by simp [HNE]
    clear hs4 hb4
    go_wp2_with fail
    go_loopw [4, 5] (fun v _ wr => v = .int .i64 0 ∧ Hid (wr = w4)) (fun v _ _ => 0)
    case atStart => exact ⟨rfl, Lib.hid rfl⟩
    case round =>
      obtain ⟨rfl, HX⟩ := hrel
      obtain rfl := HX.out
      by_cases hk : n = 0
      · subst hk
        go_wp2_with fail
        refine bodyPost_end (results_none rfl _ _ _) rfl ⟨rfl, HS4, out, q3, e4, HB4, .inr HC0.out⟩
      · have hki : (0 : Int) < (n : Int) := by omega
        have hki2 : 0 < n := by omega
        go_wp2_with fail
        refine bodyPost_end (results_none rfl _ _ _) rfl ⟨rfl, HS4, out, q3, e4, HB4, .inr HC0.out⟩
end Go.Proofs.YtkdklcamgcmifaaDoor
