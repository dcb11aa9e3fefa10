/- The document's reader: symbols. -/
import Derived.Test.YtkdklcamgcmifaaDoorHDocF
namespace Go.Proofs.YtkdklcamgcmifaaDoor
set_option linter.unusedVariables false
set_option linter.unusedSimpArgs false
open Go.RowKit Go.Proofs.YtkdklcamgcmifaaDoorW.PrintWords Go.Proofs.YtkdklcamgcmifaaDoorW.PrintMore
/-- symbols under way. -/
def DyR (l d : List Nat) (most k : Nat) (T N : Nat) (r : Except Int (List Int × Nat)) (e : Int) (out : List Int) (q : Nat) (o : List Int) (q1 : Nat) (e1 : Int) : Prop :=
  (e1 = 0 ∧ e = 0 ∧ N < q1 + k ∧ symsO l d most k o T N q1 = r) ∨ (e1 ≠ 0 ∧ ((e ≠ 0 ∧ o = out ∧ q1 = q ∧ e1 = e) ∨ (e = 0 ∧ r = .error e1)))
theorem cpyO_adv {d : List Nat} {s most T N q q' : Nat} {out o : List Int} (h8 : N % 8 = 0) (hq : q ≤ N) (h : cpyO d s most out retR T N q = retR o T N q') : q ≤ q' := by
  have hs : Stb (cpyO d s most out retR) := Stb.bnd (Stb.copR d s) fun x => Stb.ite (Stb.bad 4) (Stb.onO _ fun _ => Stb.ret _)
  exact (hs T N q o q' h8 hq h).le
theorem two_new (w : World) : ((w.alloc (.cells (dtC (.slice none 0 0) fun _ => 0).toArray 70)).alloc (.cells (dtC (.slice none 0 0) fun _ => 0).toArray 70)).heap[w.heap.size]? = some (.cells (dtC (.slice none 0 0) fun _ => 0).toArray 70 (0, 0)) ∧
    ((w.alloc (.cells (dtC (.slice none 0 0) fun _ => 0).toArray 70)).alloc (.cells (dtC (.slice none 0 0) fun _ => 0).toArray 70)).heap[w.heap.size + 1]? = some (.cells (dtC (.slice none 0 0) fun _ => 0).toArray 70 (0, 0)) := by
  constructor
  · exact (Below.heap_alloc _ _ _ (by simp)).trans (heap_alloc_new w _)
  · have := heap_alloc_new (w.alloc (.cells (dtC (.slice none 0 0) fun _ => 0).toArray 70)) (.cells (dtC (.slice none 0 0) fun _ => 0).toArray 70)
    rw [World.size_alloc] at this
    exact this
set_option maxRecDepth 8000 in
set_option maxHeartbeats 8000000 in
theorem dsymbols_calls (w0 : World) (A : Option Addr) (c : Nat) (p : List Int) (most g q : Nat) (out : List Int) (e : Int) (W : World) (l d : List Nat) (Al Ad : Option Addr) (cl cd : Nat) (hr : Bd w0 A c p most g q out e W) (hw : Rw w0 A c p g W)
    (hrl : ReadsInt W .i64 Al l.length (natI l)) (hrd : ReadsInt W .i64 Ad d.length (natI d)) (hll : l.length ≤ 1000) (hld : d.length ≤ 1000) (hxl : ∀ x ∈ l, x < 16) (hxd : ∀ x ∈ d, x < 16) (F : Nat) (hF : 8 * p.length < q + F) :
    Calls Tryd.prog 33 #[.pointer (some ⟨g, 0, none⟩), .slice Al l.length cl, .slice Ad d.length cd] W fun ee w' => ∃ (out' : List Int) (q' : Nat) (e' : Int), ee = .returned (.tuple #[]) ∧ Hid (SK 2 g W w') ∧ Hid (Bd w0 A c p most g q' out' e' w') ∧
      ((e ≠ 0 ∧ out' = out ∧ q' = q ∧ e' = e) ∨ (e = 0 ∧ DrT (symsO l d most F out (numB p) (8 * p.length) q) out' q' e')) := by
  have HR := Lib.hid hr
  have HW := Lib.hid hw
  have HRL := Lib.hid hrl
  have HRD := Lib.hid hrd
  have HL := Lib.hid (And.intro hll hxl)
  have HD := Lib.hid (And.intro hld hxd)
  have HF := Lib.hid hF
  obtain ⟨res, hres⟩ : ∃ res, symsO l d most F out (numB p) (8 * p.length) q = res := ⟨_, rfl⟩
  rw [hres]
  have HRES := Lib.hid hres
  clear hres hr hw hrl hrd hll hld hxl hxd hF
  go_enter Tryd.func33, Tryd.ntmps33
  go_wp2_with fail
  refine (tabled_calls W Al cl l HRL.out HL.out.1 HL.out.2).mono ?_
  rintro ee w1 ⟨v1, rfl, ho1, hb1⟩
  have HO1 := Lib.hid ho1.out
  have HB1 := Lib.hid hb1.out
  clear ho1 hb1
  go_wp2_with fail
  refine (tabled_calls w1 Ad cd d (HRD.out.below HB1.out) HD.out.1 HD.out.2).mono ?_
  rintro ee w2 ⟨v2, rfl, ho2, hb2⟩
  have HO2 := Lib.hid ho2.out
  have HB2 := Lib.hid hb2.out
  clear ho2 hb2
  have hone1 := dtC_one (f := cntT l) HO1.out
  have hone2 := dtC_one (f := cntT d) HO2.out
  have HZ := Lib.hid (two_new w2)
  go_wp2_with (first
    | (refine wpList_store_row rfl 70 (.tmp 6) (.tmp 10) rfl w2.heap.size _ rfl rfl 70 _ HZ.out.1 (by rw [dtC_len]; exact infoDt) (by rw [dtC_len, dtC_len]) hone1 ?_)
    | (refine wpList_store_row rfl 70 (.tmp 7) (.tmp 12) rfl (w2.heap.size + 1) _ rfl rfl 70 _ ((setRow_other _ _ _ _ (by omega)).trans HZ.out.2) (by rw [dtC_len]; exact infoDt) (by rw [dtC_len, dtC_len]) hone2 ?_))
  have hbel : Below W.heap.size W ((((w2.alloc (.cells (dtC (.slice none 0 0) fun _ => 0).toArray 70)).alloc (.cells (dtC (.slice none 0 0) fun _ => 0).toArray 70)).setRow w2.heap.size (dtC v1 (cntT l)).toArray).setRow (w2.heap.size + 1) (dtC v2 (cntT d)).toArray) := below_setRow (below_setRow (below_alloc (below_alloc (HB1.out.trans (HB2.out.mono HB1.out.size)) _) _) (by have := HB1.out.size; have := HB2.out.size; omega) _) (by have := HB1.out.size; have := HB2.out.size; omega) _
  have HS3 := Lib.hid (SK.ofBelow (k := 2) hbel HR.out.lt)
  have HX1 : Hid (((((w2.alloc (.cells (dtC (.slice none 0 0) fun _ => 0).toArray 70)).alloc (.cells (dtC (.slice none 0 0) fun _ => 0).toArray 70)).setRow w2.heap.size (dtC v1 (cntT l)).toArray).setRow (w2.heap.size + 1) (dtC v2 (cntT d)).toArray).heap[w2.heap.size]? = some (.cells (dtC v1 (cntT l)).toArray 70 (0, 0))) := Lib.hid ((setRow_other _ _ _ _ (by omega)).trans (setRow_heap _ _ _ _ _ _ HZ.out.1))
  have HX2 : Hid (((((w2.alloc (.cells (dtC (.slice none 0 0) fun _ => 0).toArray 70)).alloc (.cells (dtC (.slice none 0 0) fun _ => 0).toArray 70)).setRow w2.heap.size (dtC v1 (cntT l)).toArray).setRow (w2.heap.size + 1) (dtC v2 (cntT d)).toArray).heap[w2.heap.size + 1]? = some (.cells (dtC v2 (cntT d)).toArray 70 (0, 0))) := Lib.hid (setRow_heap _ _ _ _ _ _ ((setRow_other _ _ _ _ (by omega)).trans HZ.out.2))
  have hst : ∀ k, k < w2.heap.size → ((((w2.alloc (.cells (dtC (.slice none 0 0) fun _ => 0).toArray 70)).alloc (.cells (dtC (.slice none 0 0) fun _ => 0).toArray 70)).setRow w2.heap.size (dtC v1 (cntT l)).toArray).setRow (w2.heap.size + 1) (dtC v2 (cntT d)).toArray).heap[k]? = w2.heap[k]? := fun k hk => (setRow_other _ _ _ _ (by omega)).trans ((setRow_other _ _ _ _ (by omega)).trans ((Below.heap_alloc _ _ _ (by simp; omega)).trans (Below.heap_alloc _ _ _ hk)))
  have HO3 : Hid (((((w2.alloc (.cells (dtC (.slice none 0 0) fun _ => 0).toArray 70)).alloc (.cells (dtC (.slice none 0 0) fun _ => 0).toArray 70)).setRow w2.heap.size (dtC v1 (cntT l)).toArray).setRow (w2.heap.size + 1) (dtC v2 (cntT d)).toArray).ownsRow W.heap.size 3 1 v1 (symT l).length (nums .i64 (natI (symT l)))) := Lib.hid (own_move HO1.out fun k hk => (hst k (by have := own_lt HO1.out k hk; have := HB2.out.size; omega)).trans (HB2.out.block k (own_lt HO1.out k hk)))
  have HO4 : Hid (((((w2.alloc (.cells (dtC (.slice none 0 0) fun _ => 0).toArray 70)).alloc (.cells (dtC (.slice none 0 0) fun _ => 0).toArray 70)).setRow w2.heap.size (dtC v1 (cntT l)).toArray).setRow (w2.heap.size + 1) (dtC v2 (cntT d)).toArray).ownsRow w1.heap.size 3 1 v2 (symT d).length (nums .i64 (natI (symT d)))) := Lib.hid (own_move HO2.out fun k hk => hst k (own_lt HO2.out k hk))
  have HB3 := Lib.hid (HR.out.below hbel)
  clear hbel hst hone1 hone2 HO1 HO2 HZ
  change Code.wp _ _ _ _ ((((w2.alloc (.cells (dtC (.slice none 0 0) fun _ => 0).toArray 70)).alloc (.cells (dtC (.slice none 0 0) fun _ => 0).toArray 70)).setRow w2.heap.size (dtC v1 (cntT l)).toArray).setRow (w2.heap.size + 1) (dtC v2 (cntT d)).toArray)
  generalize ((((w2.alloc (.cells (dtC (.slice none 0 0) fun _ => 0).toArray 70)).alloc (.cells (dtC (.slice none 0 0) fun _ => 0).toArray 70)).setRow w2.heap.size (dtC v1 (cntT l)).toArray).setRow (w2.heap.size + 1) (dtC v2 (cntT d)).toArray) = W3 at *
  have hres := HRES.out
  have HD0 : Hid (DyR l d most F (numB p) (8 * p.length) res e out q out q e) := Lib.hid (by
    by_cases h : e = 0
    · exact .inl ⟨h, h, HF.out, hres⟩
    · exact .inr ⟨h, .inl ⟨h, rfl, rfl, rfl⟩⟩)
  clear hres
  dsimp only [Act.put]
  go_loopg [] F (fun k wr => ∃ (q1 : Nat) (o : List Int) (e1 : Int), Hid (SK 2 g W wr) ∧ Hid (wr.heap[w2.heap.size]? = some (.cells (dtC v1 (cntT l)).toArray 70 (0, 0))) ∧ Hid (wr.heap[w2.heap.size + 1]? = some (.cells (dtC v2 (cntT d)).toArray 70 (0, 0))) ∧ Hid (wr.ownsRow W.heap.size 3 1 v1 (symT l).length (nums .i64 (natI (symT l)))) ∧ Hid (wr.ownsRow w1.heap.size 3 1 v2 (symT d).length (nums .i64 (natI (symT d)))) ∧ Hid (Bd w0 A c p most g q1 o e1 wr) ∧ Hid (DyR l d most k (numB p) (8 * p.length) res e out q o q1 e1))
  case atStart => exact ⟨q, out, e, HS3, HX1, HX2, HO3, HO4, HB3, HD0⟩
  case round =>
    clear HS3 HX1 HX2 HO3 HO4 HB3 HD0
    obtain ⟨q1, o, e1, HS, HX1, HX2, HO3, HO4, HB, HDR⟩ := hrel
    have c4 := HB.out.e_cell
    by_cases he1 : e1 = 0
    · subst he1
      go_wp2_with (refine wpList_load_row rfl 70 (.tmp 6) rfl w2.heap.size rfl 70 _ (0, 0) _ HX1.out Tryd.underlying70 rfl (by rw [dtC_len]; exact infoDt) ?_)
      refine (dsymbol_calls w0 A c p most g q1 o 0 wr l v1 W.heap.size HB.out (HW.out.sk2 HR.out HS.out) HO3.out HL.out.1).mono ?_
      rintro ee w4 ⟨x, q2, e2, rfl, hs4, hb4, hd4⟩
      have HS4 := Lib.hid (HS.out.trans hs4.out)
      have HB4 := Lib.hid hb4.out
      have HD4 : Hid (DsC (symL l (numB p) (8 * p.length) q1) q1 0 x q2 e2) := Lib.hid hd4
      have HY1 := Lib.hid (hs4.out.block2 HB.out HX1.out (by decide) (by decide))
      have HY2 := Lib.hid (hs4.out.block2 HB.out HX2.out (by decide) (by decide))
      have HP3 := Lib.hid (own_sk2 HO3.out HB.out hs4.out)
      have HP4 := Lib.hid (own_sk2 HO4.out HB.out hs4.out)
      clear c4
      have c4 := hb4.out.e_cell
      clear hs4 hb4 hd4
      by_cases he2 : e2 = 0
      · subst he2
        obtain ⟨h0, hfu, hsy⟩ : e = 0 ∧ 8 * p.length < q1 + gk ∧ symsO l d most gk o (numB p) (8 * p.length) q1 = res := by
          rcases HDR.out with ⟨_, h⟩ | ⟨h, _⟩
          · exact h
          · exact absurd rfl h
        have hsl : symL l (numB p) (8 * p.length) q1 = .ok (x, q2) := by
          rcases HD4.out with ⟨h3, _⟩ | ⟨_, ⟨h3, _⟩ | ⟨_, h3, _⟩⟩
          · exact absurd rfl h3
          · exact h3
          · exact absurd rfl h3
        have hx1 := symL_le hsl HL.out.1
        have hadv := symL_adv (by omega) hsl
        obtain ⟨k', rfl⟩ : ∃ k', gk = k' + 1 := ⟨gk - 1, by have := HB.out.q_le; omega⟩
        simp only [symsO, bndR, hsl] at hsy
        have H0 := Lib.hid h0
        have HFU := Lib.hid (And.intro hfu hadv)
        have HSY := Lib.hid hsy
        have hxI : (x : Int) ≤ 1000 := by omega
        have hxI0 : (0 : Int) ≤ (x : Int) := by omega
        have HX := Lib.hid hx1
        clear h0 hfu hadv hsy hsl hx1
        by_cases h256 : x = 256
        · subst h256
          go_wp2_with fail
          refine bodyPost_ret (results_none rfl _ _ _) rfl ⟨o, q2, 0, rfl, HS4, HB4, .inr ⟨H0.out, .inl ⟨?_, rfl⟩⟩⟩
          have h := HSY.out
          simp only [if_true, retR] at h
          exact h.symm
        · have i256 : ((x : Int) == 256) = false := by simp; omega
          by_cases hlt : x < 256
          · have ilt : (x : Int) < 256 := by omega
            have hwx : IntKind.u8.wrap (x : Int) = (x : Int) := by rw [IntKind.wrap_u8]; omega
            go_wp2_with fail
            refine (dput_calls w0 A c p most g q2 o 0 x w4 HB4.out (HW.out.sk2 HR.out HS4.out)).mono ?_
            rintro ee w5 ⟨o5, e5, rfl, hs5, hb5, hd5⟩
            have HS5 := Lib.hid (HS4.out.trans hs5.out)
            have HB5 := Lib.hid hb5.out
            have HD5 : Hid (DpC (putO most o x) o 0 o5 e5) := Lib.hid hd5
            have HZ1 := Lib.hid (hs5.out.block2 HB4.out HY1.out (by decide) (by decide))
            have HZ2 := Lib.hid (hs5.out.block2 HB4.out HY2.out (by decide) (by decide))
            have HQ3 := Lib.hid (own_sk2 HP3.out HB4.out hs5.out)
            have HQ4 := Lib.hid (own_sk2 HP4.out HB4.out hs5.out)
            clear hs5 hb5 hd5
            go_wp2_with fail
            have hF2 := HFU.out
            have hS2 := HSY.out
            rw [if_neg h256, if_pos hlt] at hS2
            go_roundg k'
            case measure => omega
            case rel =>
              refine ⟨q2, o5, e5, HS5, HZ1, HZ2, HQ3, HQ4, HB5, Lib.hid ?_⟩
              rcases HD5.out with ⟨h, _⟩ | ⟨_, ⟨h1, h2⟩ | ⟨h1, h2⟩⟩
              · exact absurd rfl h
              · rw [h1] at hS2
                exact .inl ⟨h2, H0.out, by omega, hS2⟩
              · rw [h1] at hS2
                exact .inr ⟨h2, .inr ⟨H0.out, hS2.symm⟩⟩
          · have ilt : ¬ (x : Int) < 256 := by omega
            go_wp2_with (refine wpList_load_row rfl 70 (.tmp 7) rfl (w2.heap.size + 1) rfl 70 _ (0, 0) _ HY2.out Tryd.underlying70 rfl (by rw [dtC_len]; exact infoDt) ?_)
            refine (dcopies_calls w0 A c p most g q2 o w4 x d v2 w1.heap.size HB4.out (HW.out.sk2 HR.out HS4.out) HP4.out HD.out.1 ⟨by omega, HX.out⟩).mono ?_
            rintro ee w5 ⟨o5, q5, e5, rfl, hs5, hb5, hd5⟩
            have HS5 := Lib.hid (HS4.out.trans hs5.out)
            have HB5 := Lib.hid hb5.out
            have HD5 : Hid (CpC d x most o (numB p) (8 * p.length) q2 o5 q5 e5) := Lib.hid hd5
            have HZ1 := Lib.hid (hs5.out.block2 HB4.out HY1.out (by decide) (by decide))
            have HZ2 := Lib.hid (hs5.out.block2 HB4.out HY2.out (by decide) (by decide))
            have HQ3 := Lib.hid (own_sk2 HP3.out HB4.out hs5.out)
            have HQ4 := Lib.hid (own_sk2 HP4.out HB4.out hs5.out)
            clear hs5 hb5 hd5
            go_wp2_with fail
            have hF2 := HFU.out
            have hS2 := HSY.out
            rw [if_neg h256, if_neg hlt] at hS2
            have hS3 : cpyO d x most o (symsO l d most k') (numB p) (8 * p.length) q2 = res := hS2
            go_roundg k'
            case measure => omega
            case rel =>
              refine ⟨q5, o5, e5, HS5, HZ1, HZ2, HQ3, HQ4, HB5, Lib.hid ?_⟩
              rcases HD5.out with ⟨h1, h2⟩ | ⟨h1, h2⟩
              · exact .inr ⟨h1, .inr ⟨H0.out, hS3.symm.trans (h2 _)⟩⟩
              · have hle := cpyO_adv (by omega) (by omega) (h2 retR)
                exact .inl ⟨h1, H0.out, by omega, (h2 _).symm.trans hS3⟩
      · have he' : (e2 != 0) = true := by simp [he2]
        go_wp2_with fail
        refine bodyPost_ret (results_none rfl _ _ _) rfl ⟨o, q2, e2, rfl, HS4, HB4, ?_⟩
        rcases HDR.out with ⟨_, h, h1, h2⟩ | ⟨h, _⟩
        · refine .inr ⟨h, .inr ⟨?_, he2⟩⟩
          obtain ⟨F', rfl⟩ : ∃ k', gk = k' + 1 := ⟨gk - 1, by have := HB.out.q_le; omega⟩
          rcases HD4.out with ⟨h3, _⟩ | ⟨_, ⟨_, h3⟩ | ⟨h3, _⟩⟩
          · exact absurd rfl h3
          · exact absurd h3 he2
          · rw [← h2]; simp only [symsO, bndR, h3]
        · exact absurd rfl h
    · have he' : (e1 == 0) = false := by simp [he1]
      go_wp2_with fail
      refine bodyPost_end (results_none rfl _ _ _) rfl ⟨o, q1, e1, rfl, HS, HB, ?_⟩
      rcases HDR.out with ⟨h, _⟩ | ⟨_, h | ⟨h, h2⟩⟩
      · exact absurd h he1
      · exact .inl h
      · exact .inr ⟨h, .inr ⟨h2, he1⟩⟩
end Go.Proofs.YtkdklcamgcmifaaDoor
