/- The document's reader: a block's symbols, right, next. -/
import Derived.Test.YtkdklcamgcmifaaDoorHRDa
import Derived.Deep.Cut
/-! HDocG: The document's reader: symbols. -/
namespace Go.Proofs.YtkdklcamgcmifaaDoor
set_option linter.unusedVariables false
set_option linter.unusedSimpArgs false
open Go.RowKit Go.Proofs.YtkdklcamgcmifaaDoorW.PrintWords Go.Proofs.YtkdklcamgcmifaaDoorW.PrintMore
/-- symbols under way. -/
def DyR (l d : List Nat) (most k : Nat) (T N : Nat) (r : Except Int (List Int × Nat)) (e : Int) (out : List Int) (q : Nat) (o : List Int) (q1 : Nat) (e1 : Int) : Prop :=
  (e1 = 0 ∧ e = 0 ∧ N < q1 + k ∧ symsO l d most k o T N q1 = r) ∨ (e1 ≠ 0 ∧ ((e ≠ 0 ∧ o = out ∧ q1 = q ∧ e1 = e) ∨ (e = 0 ∧ r = .error e1)))
theorem cpyO_adv {d : List Nat} {s most T N q q' : Nat} {out o : List Int} (h8 : N % 8 = 0) (hq : q ≤ N) (h : cpyO d s most out retR T N q = retR o T N q') : q ≤ q' := by
  have hs : Stb (cpyO d s most out retR) := Stb.bnd (Stb.copR d s) fun x => Stb.ite (Stb.bad 4) (Stb.onO _ fun _ => Stb.ret _)
  exact (hs T N q o q' h8 hq h).le
theorem two_new (w : World) : ((w.alloc (.cells (dtC (.slice none 0 0) fun _ => 0).toArray 70)).alloc (.cells (dtC (.slice none 0 0) fun _ => 0).toArray 70)).heap[w.heap.size]? = some (.cells (dtC (.slice none 0 0) fun _ => 0).toArray 70 (0, 0)) ∧
    ((w.alloc (.cells (dtC (.slice none 0 0) fun _ => 0).toArray 70)).alloc (.cells (dtC (.slice none 0 0) fun _ => 0).toArray 70)).heap[w.heap.size + 1]? = some (.cells (dtC (.slice none 0 0) fun _ => 0).toArray 70 (0, 0)) := by
  constructor
  · exact (Below.heap_alloc _ _ _ (by simp)).trans (heap_alloc_new w _)
  · have := heap_alloc_new (w.alloc (.cells (dtC (.slice none 0 0) fun _ => 0).toArray 70)) (.cells (dtC (.slice none 0 0) fun _ => 0).toArray 70)
    rw [World.size_alloc] at this
    exact this
set_option maxRecDepth 8000 in
set_option maxHeartbeats 8000000 in
theorem dsymbols_calls (w0 : World) (A : Option Addr) (c : Nat) (p : List Int) (most g q : Nat) (out : List Int) (e : Int) (W : World) (l d : List Nat) (Al Ad : Option Addr) (cl cd : Nat) (hr : Bd w0 A c p most g q out e W) (hw : Rw w0 A c p g W)
    (hrl : ReadsInt W .i64 Al l.length (natI l)) (hrd : ReadsInt W .i64 Ad d.length (natI d)) (hll : l.length ≤ 1000) (hld : d.length ≤ 1000) (hxl : ∀ x ∈ l, x < 16) (hxd : ∀ x ∈ d, x < 16) (F : Nat) (hF : 8 * p.length < q + F) :
    Calls Tryd.prog 33 #[.pointer (some ⟨g, 0, none⟩), .slice Al l.length cl, .slice Ad d.length cd] W fun ee w' => ∃ (out' : List Int) (q' : Nat) (e' : Int), ee = .returned (.tuple #[]) ∧ Hid (SK 2 g W w') ∧ Hid (Bd w0 A c p most g q' out' e' w') ∧
      ((e ≠ 0 ∧ out' = out ∧ q' = q ∧ e' = e) ∨ (e = 0 ∧ DrT (symsO l d most F out (numB p) (8 * p.length) q) out' q' e')) := by
  have HR := Lib.hid hr
  have HW := Lib.hid hw
  have HRL := Lib.hid hrl
  have HRD := Lib.hid hrd
  have HL := Lib.hid (And.intro hll hxl)
  have HD := Lib.hid (And.intro hld hxd)
  have HF := Lib.hid hF
  obtain ⟨res, hres⟩ : ∃ res, symsO l d most F out (numB p) (8 * p.length) q = res := ⟨_, rfl⟩
  rw [hres]
  have HRES := Lib.hid hres
  clear hres hr hw hrl hrd hll hld hxl hxd hF
  go_enter Tryd.func33, Tryd.ntmps33
  go_wp2_with fail
  refine (tabled_calls W Al cl l HRL.out HL.out.1 HL.out.2).mono ?_
  rintro ee w1 ⟨v1, rfl, ho1, hb1⟩
  have HO1 := Lib.hid ho1.out
  have HB1 := Lib.hid hb1.out
  clear ho1 hb1
  go_wp2_with fail
  refine (tabled_calls w1 Ad cd d (HRD.out.below HB1.out) HD.out.1 HD.out.2).mono ?_
  rintro ee w2 ⟨v2, rfl, ho2, hb2⟩
  have HO2 := Lib.hid ho2.out
  have HB2 := Lib.hid hb2.out
  clear ho2 hb2
  have hone1 := dtC_one (f := cntT l) HO1.out
  have hone2 := dtC_one (f := cntT d) HO2.out
  have HZ := Lib.hid (two_new w2)
  go_wp2_with (first
    | (refine wpList_store_row rfl 70 (.tmp 6) (.tmp 10) rfl w2.heap.size _ rfl rfl 70 _ HZ.out.1 (by rw [dtC_len]; exact infoDt) (by rw [dtC_len, dtC_len]) hone1 ?_)
    | (refine wpList_store_row rfl 70 (.tmp 7) (.tmp 12) rfl (w2.heap.size + 1) _ rfl rfl 70 _ ((setRow_other _ _ _ _ (by omega)).trans HZ.out.2) (by rw [dtC_len]; exact infoDt) (by rw [dtC_len, dtC_len]) hone2 ?_))
  have hbel : Below W.heap.size W ((((w2.alloc (.cells (dtC (.slice none 0 0) fun _ => 0).toArray 70)).alloc (.cells (dtC (.slice none 0 0) fun _ => 0).toArray 70)).setRow w2.heap.size (dtC v1 (cntT l)).toArray).setRow (w2.heap.size + 1) (dtC v2 (cntT d)).toArray) := below_setRow (below_setRow (below_alloc (below_alloc (HB1.out.trans (HB2.out.mono HB1.out.size)) _) _) (by have := HB1.out.size; have := HB2.out.size; omega) _) (by have := HB1.out.size; have := HB2.out.size; omega) _
  have HS3 := Lib.hid (SK.ofBelow (k := 2) hbel HR.out.lt)
  have HX1 : Hid (((((w2.alloc (.cells (dtC (.slice none 0 0) fun _ => 0).toArray 70)).alloc (.cells (dtC (.slice none 0 0) fun _ => 0).toArray 70)).setRow w2.heap.size (dtC v1 (cntT l)).toArray).setRow (w2.heap.size + 1) (dtC v2 (cntT d)).toArray).heap[w2.heap.size]? = some (.cells (dtC v1 (cntT l)).toArray 70 (0, 0))) := Lib.hid ((setRow_other _ _ _ _ (by omega)).trans (setRow_heap _ _ _ _ _ _ HZ.out.1))
  have HX2 : Hid (((((w2.alloc (.cells (dtC (.slice none 0 0) fun _ => 0).toArray 70)).alloc (.cells (dtC (.slice none 0 0) fun _ => 0).toArray 70)).setRow w2.heap.size (dtC v1 (cntT l)).toArray).setRow (w2.heap.size + 1) (dtC v2 (cntT d)).toArray).heap[w2.heap.size + 1]? = some (.cells (dtC v2 (cntT d)).toArray 70 (0, 0))) := Lib.hid (setRow_heap _ _ _ _ _ _ ((setRow_other _ _ _ _ (by omega)).trans HZ.out.2))
  have hst : ∀ k, k < w2.heap.size → ((((w2.alloc (.cells (dtC (.slice none 0 0) fun _ => 0).toArray 70)).alloc (.cells (dtC (.slice none 0 0) fun _ => 0).toArray 70)).setRow w2.heap.size (dtC v1 (cntT l)).toArray).setRow (w2.heap.size + 1) (dtC v2 (cntT d)).toArray).heap[k]? = w2.heap[k]? := fun k hk => (setRow_other _ _ _ _ (by omega)).trans ((setRow_other _ _ _ _ (by omega)).trans ((Below.heap_alloc _ _ _ (by simp; omega)).trans (Below.heap_alloc _ _ _ hk)))
  have HO3 : Hid (((((w2.alloc (.cells (dtC (.slice none 0 0) fun _ => 0).toArray 70)).alloc (.cells (dtC (.slice none 0 0) fun _ => 0).toArray 70)).setRow w2.heap.size (dtC v1 (cntT l)).toArray).setRow (w2.heap.size + 1) (dtC v2 (cntT d)).toArray).ownsRow W.heap.size 3 1 v1 (symT l).length (nums .i64 (natI (symT l)))) := Lib.hid (own_move HO1.out fun k hk => (hst k (by have := own_lt HO1.out k hk; have := HB2.out.size; omega)).trans (HB2.out.block k (own_lt HO1.out k hk)))
  have HO4 : Hid (((((w2.alloc (.cells (dtC (.slice none 0 0) fun _ => 0).toArray 70)).alloc (.cells (dtC (.slice none 0 0) fun _ => 0).toArray 70)).setRow w2.heap.size (dtC v1 (cntT l)).toArray).setRow (w2.heap.size + 1) (dtC v2 (cntT d)).toArray).ownsRow w1.heap.size 3 1 v2 (symT d).length (nums .i64 (natI (symT d)))) := Lib.hid (own_move HO2.out fun k hk => hst k (own_lt HO2.out k hk))
  have HB3 := Lib.hid (HR.out.below hbel)
  clear hbel hst hone1 hone2 HO1 HO2 HZ
  change Code.wp _ _ _ _ ((((w2.alloc (.cells (dtC (.slice none 0 0) fun _ => 0).toArray 70)).alloc (.cells (dtC (.slice none 0 0) fun _ => 0).toArray 70)).setRow w2.heap.size (dtC v1 (cntT l)).toArray).setRow (w2.heap.size + 1) (dtC v2 (cntT d)).toArray)
  generalize ((((w2.alloc (.cells (dtC (.slice none 0 0) fun _ => 0).toArray 70)).alloc (.cells (dtC (.slice none 0 0) fun _ => 0).toArray 70)).setRow w2.heap.size (dtC v1 (cntT l)).toArray).setRow (w2.heap.size + 1) (dtC v2 (cntT d)).toArray) = W3 at *
  have hres := HRES.out
  have HD0 : Hid (DyR l d most F (numB p) (8 * p.length) res e out q out q e) := Lib.hid (by
    by_cases h : e = 0
    · exact .inl ⟨h, h, HF.out, hres⟩
    · exact .inr ⟨h, .inl ⟨h, rfl, rfl, rfl⟩⟩)
  clear hres
  dsimp only [Act.put]
  go_loopg [] F (fun k wr => ∃ (q1 : Nat) (o : List Int) (e1 : Int), Hid (SK 2 g W wr) ∧ Hid (wr.heap[w2.heap.size]? = some (.cells (dtC v1 (cntT l)).toArray 70 (0, 0))) ∧ Hid (wr.heap[w2.heap.size + 1]? = some (.cells (dtC v2 (cntT d)).toArray 70 (0, 0))) ∧ Hid (wr.ownsRow W.heap.size 3 1 v1 (symT l).length (nums .i64 (natI (symT l)))) ∧ Hid (wr.ownsRow w1.heap.size 3 1 v2 (symT d).length (nums .i64 (natI (symT d)))) ∧ Hid (Bd w0 A c p most g q1 o e1 wr) ∧ Hid (DyR l d most k (numB p) (8 * p.length) res e out q o q1 e1))
  case atStart => exact ⟨q, out, e, HS3, HX1, HX2, HO3, HO4, HB3, HD0⟩
  case round =>
    clear HS3 HX1 HX2 HO3 HO4 HB3 HD0
    obtain ⟨q1, o, e1, HS, HX1, HX2, HO3, HO4, HB, HDR⟩ := hrel
    have c4 := HB.out.e_cell
    by_cases he1 : e1 = 0
    · subst he1
      go_wp2_with (refine wpList_load_row rfl 70 (.tmp 6) rfl w2.heap.size rfl 70 _ (0, 0) _ HX1.out Tryd.underlying70 rfl (by rw [dtC_len]; exact infoDt) ?_)
      refine (dsymbol_calls w0 A c p most g q1 o 0 wr l v1 W.heap.size HB.out (HW.out.sk2 HR.out HS.out) HO3.out HL.out.1).mono ?_
      rintro ee w4 ⟨x, q2, e2, rfl, hs4, hb4, hd4⟩
      have HS4 := Lib.hid (HS.out.trans hs4.out)
      have HB4 := Lib.hid hb4.out
      have HD4 : Hid (DsC (symL l (numB p) (8 * p.length) q1) q1 0 x q2 e2) := Lib.hid hd4
      have HY1 := Lib.hid (hs4.out.block2 HB.out HX1.out (by decide) (by decide))
      have HY2 := Lib.hid (hs4.out.block2 HB.out HX2.out (by decide) (by decide))
      have HP3 := Lib.hid (own_sk2 HO3.out HB.out hs4.out)
      have HP4 := Lib.hid (own_sk2 HO4.out HB.out hs4.out)
      clear c4
      have c4 := hb4.out.e_cell
      clear hs4 hb4 hd4
      by_cases he2 : e2 = 0
      · subst he2
        obtain ⟨h0, hfu, hsy⟩ : e = 0 ∧ 8 * p.length < q1 + gk ∧ symsO l d most gk o (numB p) (8 * p.length) q1 = res := by
          rcases HDR.out with ⟨_, h⟩ | ⟨h, _⟩
          · exact h
          · exact absurd rfl h
        have hsl : symL l (numB p) (8 * p.length) q1 = .ok (x, q2) := by
          rcases HD4.out with ⟨h3, _⟩ | ⟨_, ⟨h3, _⟩ | ⟨_, h3, _⟩⟩
          · exact absurd rfl h3
          · exact h3
          · exact absurd rfl h3
        have hx1 := symL_le hsl HL.out.1
        have hadv := symL_adv (by omega) hsl
        obtain ⟨k', rfl⟩ : ∃ k', gk = k' + 1 := ⟨gk - 1, by have := HB.out.q_le; omega⟩
        simp only [symsO, bndR, hsl] at hsy
        have H0 := Lib.hid h0
        have HFU := Lib.hid (And.intro hfu hadv)
        have HSY := Lib.hid hsy
        have hxI : (x : Int) ≤ 1000 := by omega
        have hxI0 : (0 : Int) ≤ (x : Int) := by omega
        have HX := Lib.hid hx1
        clear h0 hfu hadv hsy hsl hx1
        by_cases h256 : x = 256
        · subst h256
          go_wp2_with fail
          refine bodyPost_ret (results_none rfl _ _ _) rfl ⟨o, q2, 0, rfl, HS4, HB4, .inr ⟨H0.out, .inl ⟨?_, rfl⟩⟩⟩
          have h := HSY.out
          simp only [if_true, retR] at h
          exact h.symm
        · have i256 : ((x : Int) == 256) = false := by simp; omega
          by_cases hlt : x < 256
          · have ilt : (x : Int) < 256 := by omega
            have hwx : IntKind.u8.wrap (x : Int) = (x : Int) := by rw [IntKind.wrap_u8]; omega
            go_wp2_with fail
            refine (dput_calls w0 A c p most g q2 o 0 x w4 HB4.out (HW.out.sk2 HR.out HS4.out)).mono ?_
            rintro ee w5 ⟨o5, e5, rfl, hs5, hb5, hd5⟩
            have HS5 := Lib.hid (HS4.out.trans hs5.out)
            have HB5 := Lib.hid hb5.out
            have HD5 : Hid (DpC (putO most o x) o 0 o5 e5) := Lib.hid hd5
            have HZ1 := Lib.hid (hs5.out.block2 HB4.out HY1.out (by decide) (by decide))
            have HZ2 := Lib.hid (hs5.out.block2 HB4.out HY2.out (by decide) (by decide))
            have HQ3 := Lib.hid (own_sk2 HP3.out HB4.out hs5.out)
            have HQ4 := Lib.hid (own_sk2 HP4.out HB4.out hs5.out)
            clear hs5 hb5 hd5
            go_wp2_with fail
            have hF2 := HFU.out
            have hS2 := HSY.out
            rw [if_neg h256, if_pos hlt] at hS2
            go_roundg k'
            case measure => omega
            case rel =>
              refine ⟨q2, o5, e5, HS5, HZ1, HZ2, HQ3, HQ4, HB5, Lib.hid ?_⟩
              rcases HD5.out with ⟨h, _⟩ | ⟨_, ⟨h1, h2⟩ | ⟨h1, h2⟩⟩
              · exact absurd rfl h
              · rw [h1] at hS2
                exact .inl ⟨h2, H0.out, by omega, hS2⟩
              · rw [h1] at hS2
                exact .inr ⟨h2, .inr ⟨H0.out, hS2.symm⟩⟩
          · have ilt : ¬ (x : Int) < 256 := by omega
            go_wp2_with (refine wpList_load_row rfl 70 (.tmp 7) rfl (w2.heap.size + 1) rfl 70 _ (0, 0) _ HY2.out Tryd.underlying70 rfl (by rw [dtC_len]; exact infoDt) ?_)
            refine (dcopies_calls w0 A c p most g q2 o w4 x d v2 w1.heap.size HB4.out (HW.out.sk2 HR.out HS4.out) HP4.out HD.out.1 ⟨by omega, HX.out⟩).mono ?_
            rintro ee w5 ⟨o5, q5, e5, rfl, hs5, hb5, hd5⟩
            have HS5 := Lib.hid (HS4.out.trans hs5.out)
            have HB5 := Lib.hid hb5.out
            have HD5 : Hid (CpC d x most o (numB p) (8 * p.length) q2 o5 q5 e5) := Lib.hid hd5
            have HZ1 := Lib.hid (hs5.out.block2 HB4.out HY1.out (by decide) (by decide))
            have HZ2 := Lib.hid (hs5.out.block2 HB4.out HY2.out (by decide) (by decide))
            have HQ3 := Lib.hid (own_sk2 HP3.out HB4.out hs5.out)
            have HQ4 := Lib.hid (own_sk2 HP4.out HB4.out hs5.out)
            clear hs5 hb5 hd5
            go_wp2_with fail
            have hF2 := HFU.out
            have hS2 := HSY.out
            rw [if_neg h256, if_neg hlt] at hS2
            have hS3 : cpyO d x most o (symsO l d most k') (numB p) (8 * p.length) q2 = res := hS2
            go_roundg k'
            case measure => omega
            case rel =>
              refine ⟨q5, o5, e5, HS5, HZ1, HZ2, HQ3, HQ4, HB5, Lib.hid ?_⟩
              rcases HD5.out with ⟨h1, h2⟩ | ⟨h1, h2⟩
              · exact .inr ⟨h1, .inr ⟨H0.out, hS3.symm.trans (h2 _)⟩⟩
              · have hle := cpyO_adv (by omega) (by omega) (h2 retR)
                exact .inl ⟨h1, H0.out, by omega, (h2 _).symm.trans hS3⟩
      · have he' : (e2 != 0) = true := by simp [he2]
        go_wp2_with fail
        refine bodyPost_ret (results_none rfl _ _ _) rfl ⟨o, q2, e2, rfl, HS4, HB4, ?_⟩
        rcases HDR.out with ⟨_, h, h1, h2⟩ | ⟨h, _⟩
        · refine .inr ⟨h, .inr ⟨?_, he2⟩⟩
          obtain ⟨F', rfl⟩ : ∃ k', gk = k' + 1 := ⟨gk - 1, by have := HB.out.q_le; omega⟩
          rcases HD4.out with ⟨h3, _⟩ | ⟨_, ⟨_, h3⟩ | ⟨h3, _⟩⟩
          · exact absurd rfl h3
          · exact absurd h3 he2
          · rw [← h2]; simp only [symsO, bndR, h3]
        · exact absurd rfl h
    · have he' : (e1 == 0) = false := by simp [he1]
      go_wp2_with fail
      refine bodyPost_end (results_none rfl _ _ _) rfl ⟨o, q1, e1, rfl, HS, HB, ?_⟩
      rcases HDR.out with ⟨h, _⟩ | ⟨_, h | ⟨h, h2⟩⟩
      · exact absurd h he1
      · exact .inl h
      · exact .inr ⟨h, .inr ⟨h2, he1⟩⟩
end Go.Proofs.YtkdklcamgcmifaaDoor

/-! HDocH: The document's reader: are lengths right? In plain Lean. -/
namespace Go.Proofs.YtkdklcamgcmifaaDoor
set_option linter.unusedVariables false
set_option linter.unusedSimpArgs false
open Go.RowKit Go.Proofs.YtkdklcamgcmifaaDoorW.PrintWords Go.Proofs.YtkdklcamgcmifaaDoorW.PrintMore
/-- The sum of the codes' shares, how many there are, and the last one's length. -/
def sumS : List Nat → Nat
  | [] => 0
  | x :: l => (if x = 0 then 0 else 2 ^ (15 - x)) + sumS l
def cntS (l : List Nat) : Nat := l.length - l.count 0
def fstS (l : List Nat) : Nat := l.foldl (fun a n => if n = 0 then a else n) 0
def rgtF (l : List Nat) (nn : Bool) : Bool := sumS l == 32768 || cntS l == 1 && fstS l == 1 || nn && cntS l == 0
theorem sumS_snoc (m : List Nat) (x : Nat) : sumS (m ++ [x]) = sumS m + if x = 0 then 0 else 2 ^ (15 - x) := by
  induction m with
  | nil => simp [sumS]
  | cons y m ih => simp only [List.cons_append, sumS, ih]; omega
theorem fstS_snoc (m : List Nat) (x : Nat) : fstS (m ++ [x]) = if x = 0 then fstS m else x := by simp [fstS, List.foldl_append]
theorem cntS_snoc (m : List Nat) (x : Nat) : cntS (m ++ [x]) = cntS m + if x = 0 then 0 else 1 := by
  have h := List.count_le_length (a := 0) (l := m)
  unfold cntS
  rw [count_snoc, List.length_append, List.length_singleton]
  by_cases e : x = 0
  · rw [if_pos e, if_pos e]; omega
  · rw [if_neg e, if_neg e]; omega
theorem cntS_le (l : List Nat) : cntS l ≤ l.length := Nat.sub_le _ _
theorem sumS_le (l : List Nat) : sumS l ≤ 32768 * l.length := by
  induction l with
  | nil => simp [sumS]
  | cons x l ih =>
    have : (if x = 0 then 0 else 2 ^ (15 - x)) ≤ 32768 := by
      split
      · omega
      · exact Nat.le_trans (Nat.pow_le_pow_right (by decide) (Nat.sub_le _ _)) (by decide)
    simp only [sumS, List.length_cons]
    omega
theorem leftT_cons (x : Nat) (l : List Nat) (hx : x ≠ 0) : ∀ n, leftT (x :: l) n = leftT l n - (if x ≤ n then ((2 ^ (n - x) : Nat) : Int) else 0) := by
  intro n
  induction n with
  | zero => rw [if_neg (by omega)]; simp [leftT]
  | succ n ih =>
    show 2 * leftT (x :: l) n - ((x :: l).count (n + 1) : Int) = 2 * leftT l n - (l.count (n + 1) : Int) - _
    rw [ih, List.count_cons]
    by_cases h1 : x ≤ n
    · rw [if_pos h1, if_pos (show x ≤ n + 1 by omega), show n + 1 - x = (n - x) + 1 by omega, Nat.pow_succ]
      have : ((x == n + 1) = true) = False := by simp; omega
      simp only [this, if_false]
      push_cast
      omega
    · rw [if_neg h1]
      by_cases h2 : x = n + 1
      · subst h2
        simp
        omega
      · have : ((x == n + 1) = true) = False := by simp; omega
        simp only [this, if_false]
        rw [if_neg (show ¬ x ≤ n + 1 by omega)]
        omega
theorem leftT_cons0 (l : List Nat) : ∀ n, leftT (0 :: l) n = leftT l n := by
  intro n
  induction n with
  | zero => rfl
  | succ n ih => simp [leftT, ih, List.count_cons]
theorem leftT_nil : ∀ n, leftT [] n = ((2 ^ n : Nat) : Int) := by
  intro n
  induction n with
  | zero => rfl
  | succ n ih => simp only [leftT, ih, List.count_nil, Nat.pow_succ]; push_cast; omega
theorem leftT_sum (l : List Nat) (h : ∀ x ∈ l, x < 16) : leftT l 15 = 32768 - (sumS l : Int) := by
  induction l with
  | nil => rw [leftT_nil]; rfl
  | cons x l ih =>
    have h1 := ih fun y hy => h y (List.mem_cons_of_mem _ hy)
    have h2 := h x List.mem_cons_self
    by_cases e : x = 0
    · subst e
      rw [leftT_cons0, h1]
      simp [sumS]
    · rw [leftT_cons x l e, h1, if_pos (by omega)]
      simp only [sumS, if_neg e]
      push_cast
      omega
theorem leftT_down (l : List Nat) : ∀ k n, leftT l n < 0 → leftT l (n + k) < 0 := by
  intro k
  induction k with
  | zero => exact fun n h => h
  | succ k ih =>
    intro n h
    have := ih n h
    show 2 * leftT l (n + k) - _ < 0
    omega
theorem leftT_all {l : List Nat} (h : 0 ≤ leftT l 15) : ∀ n, n ≤ 15 → 0 ≤ leftT l n := by
  intro n hn
  rcases Int.lt_or_le (leftT l n) 0 with h1 | h1
  · have := leftT_down l (15 - n) n h1
    rw [show n + (15 - n) = 15 by omega] at this
    omega
  · exact h1
theorem snoc_ind {P : List Nat → Prop} (h0 : P []) (h1 : ∀ l x, P l → P (l ++ [x])) : ∀ l, P l := by
  intro l
  rw [← List.reverse_reverse l]
  induction l.reverse with
  | nil => exact h0
  | cons x m ih => rw [List.reverse_cons]; exact h1 _ _ ih
theorem one_way (l : List Nat) : l.count 1 ≤ cntS l ∧ (cntS l = 0 → fstS l = 0) ∧ (cntS l = 1 → (fstS l = 1 ↔ l.count 1 = 1)) := by
  revert l
  apply snoc_ind
  · simp [cntS, fstS]
  · intro l x ⟨h1, h2, h3⟩
    rw [cntS_snoc, fstS_snoc, count_snoc]
    by_cases e : x = 0
    · subst e
      simpa using ⟨h1, h2, h3⟩
    · rw [if_neg e, if_neg e]
      refine ⟨by split <;> omega, by omega, fun h => ?_⟩
      by_cases e1 : x = 1
      · rw [if_pos e1]; constructor <;> omega
      · rw [if_neg e1]; constructor <;> omega
theorem cnt_sym {l : List Nat} (h : ∀ x ∈ l, x < 16) : (symT l).length = cntS l := by
  have := used_eq h
  unfold cntS
  omega
theorem sum_cnt (l : List Nat) : cntS l ≤ 1 → sumS l ≤ 32768 := by
  revert l
  apply snoc_ind
  · simp [sumS]
  · intro l x ih
    rw [cntS_snoc, sumS_snoc]
    by_cases e : x = 0
    · rw [if_pos e, if_pos e]; simpa using ih
    · rw [if_neg e, if_neg e]
      intro h
      have h0 : cntS l = 0 := by omega
      have : sumS l = 0 := by
        clear ih h
        revert h0
        revert l
        apply snoc_ind
        · simp [sumS]
        · intro l y ih2
          rw [cntS_snoc, sumS_snoc]
          by_cases e : y = 0
          · rw [if_pos e, if_pos e]; simpa using ih2
          · rw [if_neg e]; omega
      have : 2 ^ (15 - x) ≤ 2 ^ 15 := Nat.pow_le_pow_right (by decide) (Nat.sub_le _ _)
      omega
theorem rgt_ok {l : List Nat} (nn : Bool) (h : ∀ x ∈ l, x < 16) : rgtF l nn = okT l nn := by
  have hs := leftT_sum l h
  have hc := cnt_sym h
  obtain ⟨h1, h2, h3⟩ := one_way l
  have hq := sum_cnt l
  unfold rgtF okT
  rw [hc]
  by_cases hall : 0 ≤ leftT l 15
  · have ha : ((List.range 15).all fun n => decide (0 ≤ leftT l (n + 1))) = true := by
      rw [List.all_eq_true]
      intro n hn
      rw [List.mem_range] at hn
      simpa using leftT_all hall (n + 1) (by omega)
    rw [ha, Bool.true_and, hs]
    have e1 : (sumS l == 32768) = ((32768 - (sumS l : Int)) == 0) := by
      rw [Bool.eq_iff_iff]; simp; omega
    have e2 : (cntS l == 1 && fstS l == 1) = (cntS l == 1 && l.count 1 == 1) := by
      rw [Bool.eq_iff_iff]
      simp only [Bool.and_eq_true, beq_iff_eq]
      constructor
      · rintro ⟨a, b⟩; exact ⟨a, (h3 a).1 b⟩
      · rintro ⟨a, b⟩; exact ⟨a, (h3 a).2 b⟩
    rw [e1, e2]
  · have ha : ((List.range 15).all fun n => decide (0 ≤ leftT l (n + 1))) = false := by
      rw [Bool.eq_false_iff]
      intro hh
      rw [List.all_eq_true] at hh
      have := hh 14 (by simp)
      simp at this
      omega
    rw [ha, Bool.false_and]
    have e1 : (sumS l == 32768) = false := by simp; omega
    have e2 : (cntS l == 1) = false := by
      rw [Bool.eq_false_iff]
      intro hh
      have := hq (by simp at hh; omega)
      omega
    have e3 : (cntS l == 0) = false := by
      rw [Bool.eq_false_iff]
      intro hh
      have := hq (by simp at hh; omega)
      omega
    rw [e1, e2, e3]
    simp
end Go.Proofs.YtkdklcamgcmifaaDoor

/-! HDocI: The document's reader: right, fixed. -/
namespace Go.Proofs.YtkdklcamgcmifaaDoor
set_option linter.unusedVariables false
set_option linter.unusedSimpArgs false
open Go.RowKit Go.Proofs.YtkdklcamgcmifaaDoorW.PrintWords Go.Proofs.YtkdklcamgcmifaaDoorW.PrintMore
/-- right under way: n lengths are gone through. -/
def RgS (l : List Nat) (n S K F : Nat) : Prop := n ≤ l.length ∧ S = sumS (l.take n) ∧ K = cntS (l.take n) ∧ F = fstS (l.take n)
theorem RgS.step {l : List Nat} {n S K F x : Nat} (h : RgS l n S K F) (hx : l[n]? = some x) (hn : n < l.length) : RgS l (n + 1) (S + if x = 0 then 0 else 2 ^ (15 - x)) (K + if x = 0 then 0 else 1) (if x = 0 then F else x) := by
  obtain ⟨h0, rfl, rfl, rfl⟩ := h
  refine ⟨by omega, ?_, ?_, ?_⟩
  · rw [take_snoc hx, sumS_snoc]
  · rw [take_snoc hx, cntS_snoc]
  · rw [take_snoc hx, fstS_snoc]
theorem RgS.bd {l : List Nat} {n S K F : Nat} (h : RgS l n S K F) (hl : l.length ≤ 1000) : S ≤ 32768000 ∧ K ≤ 1000 := by
  obtain ⟨h0, rfl, rfl, rfl⟩ := h
  have h1 := sumS_le (l.take n)
  have h2 := cntS_le (l.take n)
  rw [List.length_take, Nat.min_eq_left h0] at h1 h2
  omega
theorem RgS.done {l : List Nat} {n S K F : Nat} (h : RgS l n S K F) (hn : ¬ n < l.length) (nn : Bool) : rgtF l nn = (S == 32768 || K == 1 && F == 1 || nn && K == 0) := by
  obtain ⟨h0, rfl, rfl, rfl⟩ := h
  rw [show n = l.length by omega, List.take_length]
  rfl
set_option maxRecDepth 8000 in
set_option maxHeartbeats 4000000 in
theorem right_calls (w : World) (A : Option Addr) (c : Nat) (l : List Nat) (nn : Bool) (hr : ReadsInt w .i64 A l.length (natI l)) (hl : l.length ≤ 1000) (hx : ∀ x ∈ l, x < 16) :
    Calls Tryd.prog 56 #[.slice A l.length c, .bool nn] w fun ee w' => ee = .returned (.bool (okT l nn)) ∧ w' = w := by
  rw [← rgt_ok nn hx]
  have HR := Lib.hid hr
  have HL := Lib.hid hl
  have HX := Lib.hid hx
  clear hr hl hx
  go_enter Tryd.func56, Tryd.ntmps56
  go_wp2_with fail
  go_loopw [5, 6, 7, 12] (fun s k f i wr => ∃ n S K F : Nat, i = .int .i64 n ∧ s = .int .i64 S ∧ k = .int .i64 K ∧ f = .int .i64 F ∧ Hid (wr = w) ∧ Hid (RgS l n S K F)) (fun _ _ _ i _ => l.length - (intOf i).toNat)
  case atStart => exact ⟨0, 0, 0, 0, rfl, rfl, rfl, rfl, Lib.hid rfl, Lib.hid ⟨Nat.zero_le _, rfl, rfl, rfl⟩⟩
  case round =>
    obtain ⟨n, S, K, F, rfl, rfl, rfl, rfl, HW, HG⟩ := hrel
    obtain rfl := HW.out
    have hl1 : (l.length : Int) ≤ 1000 := by have := HL.out; omega
    obtain ⟨hb1, hb2⟩ := HG.out.bd HL.out
    have hS : (S : Int) ≤ 32768000 := by omega
    have hK : (K : Int) ≤ 1000 := by omega
    clear hb1 hb2
    by_cases hlt : n < l.length
    · have slt : (n : Int) < (l.length : Int) := by omega
      obtain ⟨ad, rfl, hcl⟩ := HR.out.2.2 (by omega)
      clear hcl
      have hcs := nat_cell HR.out (Below.refl _ _) hlt
      have hx16 := HX.out _ (getD_mem hlt)
      generalize hgx : l.getD n 0 = x at hcs hx16
      have HGX := Lib.hid (getD_get hlt hgx)
      clear hgx
      by_cases h0 : x = 0
      · subst h0
        go_wp2_with fail
        go_roundw
        case rel => exact ⟨n + 1, S, K, F, by simp, rfl, rfl, rfl, by first | exact Lib.hid rfl | exact Lib.hid trivial, Lib.hid (HG.out.step HGX.out hlt)⟩
        case measure => simp [intOf]; omega
      · have hx0 : (0 : Int) < (x : Int) := by omega
        obtain ⟨y, hy⟩ : ∃ y, y = 15 - x := ⟨_, rfl⟩
        have hyI : (15 : Int) - (x : Int) = (y : Int) := by omega
        have hy15 : (y : Int) < 15 := by omega
        have hy0 : (0 : Int) ≤ (y : Int) := by omega
        obtain ⟨z, hz⟩ : ∃ z, z = 2 ^ y := ⟨_, rfl⟩
        have hzb : z ≤ 32768 := by rw [hz]; exact Nat.le_trans (Nat.pow_le_pow_right (by decide) (show y ≤ 15 by omega)) (by decide)
        have hzI : (2 : Int) ^ y = (z : Int) := by rw [hz]; simp
        have hzb2 : (z : Int) ≤ 32768 := by omega
        have HZ := Lib.hid (And.intro hy hz)
        clear hz hzb hy
        have hst := Lib.hid (HG.out.step HGX.out hlt)
        go_wp2_with fail
        have hst2 := hst.out
        rw [if_neg h0, if_neg h0, if_neg h0, ← HZ.out.1, ← HZ.out.2] at hst2
        refine ⟨⟨n + 1, S + z, K + 1, x, by simp, by simp, by simp, rfl, by first | exact Lib.hid rfl | exact Lib.hid trivial, Lib.hid hst2⟩, by simp [intOf]; omega⟩
    · have slt : ¬ (n : Int) < (l.length : Int) := by omega
      have hd := Lib.hid (HG.out.done hlt nn)
      cases nn
      all_goals (
        go_wp2_with fail
        all_goals (
          go_ret
          refine ⟨congrArg (fun b => Ending.returned (.bool b)) ?_, rfl⟩
          rw [hd.out, Bool.eq_iff_iff]
          simp
          omega))
def fixV (s : Nat) : Nat := if 144 ≤ s ∧ s < 256 then 9 else if 256 ≤ s ∧ s < 280 then 7 else 8
theorem fixL_map : fixL = (List.range 288).map fixV := by decide +kernel
theorem fixL_take {s : Nat} (h : s < 288) : fixL.take (s + 1) = fixL.take s ++ [fixV s] := by
  have e : fixL[s]? = some (fixV s) := by rw [fixL_map]; simp [h]
  exact take_snoc e
theorem fixL_tlen {s : Nat} (h : s ≤ 288) : (fixL.take s).length = s := by
  rw [List.length_take, fixL_map, List.length_map, List.length_range]; omega
theorem fixV_cases (n : Nat) (h : n < 288) : (fixV n = 8 ∧ n < 144) ∨ (fixV n = 9 ∧ 144 ≤ n ∧ n < 256) ∨ (fixV n = 7 ∧ 256 ≤ n ∧ n < 280) ∨ (fixV n = 8 ∧ 280 ≤ n) := by
  unfold fixV
  by_cases h1 : 144 ≤ n ∧ n < 256
  · rw [if_pos h1]; omega
  · rw [if_neg h1]
    by_cases h2 : 256 ≤ n ∧ n < 280
    · rw [if_pos h2]; omega
    · rw [if_neg h2]; omega
theorem fixL_natI {n : Nat} (h : n < 288) {x : Nat} (hx : fixV n = x) : natI (fixL.take n) ++ [(x : Int)] = natI (fixL.take (n + 1)) := by
  rw [fixL_take h, hx]
  simp [natI]
set_option maxRecDepth 8000 in
set_option maxHeartbeats 4000000 in
theorem dfixed_calls (w : World) : Calls Tryd.prog 32 #[] w fun ee w' => ∃ (A1 A2 : Option Addr) (c1 c2 : Nat), ee = .returned (.tuple #[.slice A1 fixL.length c1, .slice A2 fixD.length c2]) ∧ Hid (w'.ownsRow w.heap.size 3 1 (.slice A1 fixL.length c1) fixL.length (nums .i64 (natI fixL))) ∧ Hid (w'.ownsRow w.heap.size 3 1 (.slice A2 fixD.length c2) fixD.length (nums .i64 (natI fixD))) ∧ Hid (Below w.heap.size w w') := by
  go_enter Tryd.func32, Tryd.ntmps32
  go_wp2_with fail
  go_loopw [2, 4] (fun v i wr => ∃ n : Nat, i = .int .i64 n ∧ Hid (n ≤ 288) ∧ Hid (wr.ownsRow w.heap.size 3 1 v (natI (fixL.take n)).length (nums .i64 (natI (fixL.take n)))) ∧ Hid (Below w.heap.size w wr)) (fun _ i _ => 288 - (intOf i).toNat)
  case atStart => exact ⟨0, rfl, Lib.hid (by omega), Lib.hid (own_nil _ _ _ _), Lib.hid (Below.refl _ _)⟩
  case round =>
    obtain ⟨n, rfl, HN, HO, HB⟩ := hrel
    by_cases hn : n < 288
    · have in1 : (n : Int) < 288 := by omega
      have HSZ := Lib.hid HB.out.size
      have HN2 := Lib.hid hn
      have hlen := Lib.hid (show (natI (fixL.take n)).length ≤ 288 by rw [natI_length, fixL_tlen (by omega)]; omega)
      rcases fixV_cases n hn with ⟨hv, h1⟩ | ⟨hv, h1, h2⟩ | ⟨hv, h1, h2⟩ | ⟨hv, h1⟩
      · have i1 : ¬ (n : Int) ≥ 144 := by omega
        have i2 : ¬ (n : Int) ≥ 256 := by omega
        have HV := Lib.hid (show natI (fixL.take n) ++ [(8 : Int)] = natI (fixL.take (n + 1)) from fixL_natI hn hv)
        have HNN := Lib.hid hn
        clear hn hv
        go_wp2_with (at_builtin; refine print_append_num (w0 := w) w.heap.size rfl (.tmp 23) (.tmp 25) 51 3 .i64 8 rfl Tryd.underlying51 infoIntB (by omega) _ (natI (fixL.take n)) 8 rfl rfl HO.out HB.out HSZ.out (by have := hlen.out; omega) ?_; intro v1 w1 hown1 hbel1 hgrow hat; have HOWN := Lib.hid hown1; have HB1 := Lib.hid hbel1; clear hown1 hbel1 hgrow hat)
        have ho := HOWN.out
        have e := HV.out
        rw [e] at ho
        exact ⟨⟨n + 1, by simp, Lib.hid (by have := HNN.out; omega), Lib.hid ho, HB1⟩, by have := HNN.out; simp [intOf]; omega⟩
      · have i1 : (n : Int) ≥ 144 := by omega
        have i3 : (n : Int) < 256 := by omega
        have i2 : ¬ (n : Int) ≥ 256 := by omega
        have HV := Lib.hid (show natI (fixL.take n) ++ [(9 : Int)] = natI (fixL.take (n + 1)) from fixL_natI hn hv)
        have HNN := Lib.hid hn
        clear hn hv
        go_wp2_with (at_builtin; refine print_append_num (w0 := w) w.heap.size rfl (.tmp 23) (.tmp 25) 51 3 .i64 8 rfl Tryd.underlying51 infoIntB (by omega) _ (natI (fixL.take n)) 9 rfl rfl HO.out HB.out HSZ.out (by have := hlen.out; omega) ?_; intro v1 w1 hown1 hbel1 hgrow hat; have HOWN := Lib.hid hown1; have HB1 := Lib.hid hbel1; clear hown1 hbel1 hgrow hat)
        have ho := HOWN.out
        have e := HV.out
        rw [e] at ho
        exact ⟨⟨n + 1, by simp, Lib.hid (by have := HNN.out; omega), Lib.hid ho, HB1⟩, by have := HNN.out; simp [intOf]; omega⟩
      · have i1 : (n : Int) ≥ 144 := by omega
        have i3 : ¬ (n : Int) < 256 := by omega
        have i2 : (n : Int) ≥ 256 := by omega
        have i4 : (n : Int) < 280 := by omega
        have HV := Lib.hid (show natI (fixL.take n) ++ [(7 : Int)] = natI (fixL.take (n + 1)) from fixL_natI hn hv)
        have HNN := Lib.hid hn
        clear hn hv
        go_wp2_with (at_builtin; refine print_append_num (w0 := w) w.heap.size rfl (.tmp 23) (.tmp 25) 51 3 .i64 8 rfl Tryd.underlying51 infoIntB (by omega) _ (natI (fixL.take n)) 7 rfl rfl HO.out HB.out HSZ.out (by have := hlen.out; omega) ?_; intro v1 w1 hown1 hbel1 hgrow hat; have HOWN := Lib.hid hown1; have HB1 := Lib.hid hbel1; clear hown1 hbel1 hgrow hat)
        have ho := HOWN.out
        have e := HV.out
        rw [e] at ho
        exact ⟨⟨n + 1, by simp, Lib.hid (by have := HNN.out; omega), Lib.hid ho, HB1⟩, by have := HNN.out; simp [intOf]; omega⟩
      · have i1 : (n : Int) ≥ 144 := by omega
        have i3 : ¬ (n : Int) < 256 := by omega
        have i2 : (n : Int) ≥ 256 := by omega
        have i4 : ¬ (n : Int) < 280 := by omega
        have HV := Lib.hid (show natI (fixL.take n) ++ [(8 : Int)] = natI (fixL.take (n + 1)) from fixL_natI hn hv)
        have HNN := Lib.hid hn
        clear hn hv
        go_wp2_with (at_builtin; refine print_append_num (w0 := w) w.heap.size rfl (.tmp 23) (.tmp 25) 51 3 .i64 8 rfl Tryd.underlying51 infoIntB (by omega) _ (natI (fixL.take n)) 8 rfl rfl HO.out HB.out HSZ.out (by have := hlen.out; omega) ?_; intro v1 w1 hown1 hbel1 hgrow hat; have HOWN := Lib.hid hown1; have HB1 := Lib.hid hbel1; clear hown1 hbel1 hgrow hat)
        have ho := HOWN.out
        have e := HV.out
        rw [e] at ho
        exact ⟨⟨n + 1, by simp, Lib.hid (by have := HNN.out; omega), Lib.hid ho, HB1⟩, by have := HNN.out; simp [intOf]; omega⟩
    · obtain rfl : n = 288 := by have := HN.out; omega
      have HSW := Lib.hid HB.out.size
      have e288 : natI (fixL.take 288) = natI fixL := by rw [List.take_of_length_le (by rw [fixL_map]; simp)]
      have hO2 := HO.out
      rw [e288, natI_length] at hO2
      obtain ⟨A1, c1, rfl⟩ := own_slice hO2
      have HO2 := Lib.hid hO2
      have HB2 := HB
      clear HO HN hO2 HB e288
      rw [show ((288 : Nat) : Int) = 288 from rfl]
      go_wp2_with fail
      go_loopw [3, 6] (fun v i wx => ∃ n : Nat, i = .int .i64 n ∧ Hid (n ≤ 32) ∧ Hid (wx.ownsRow wr.heap.size 3 1 v (natI (fixD.take n)).length (nums .i64 (natI (fixD.take n)))) ∧ Hid (Below wr.heap.size wr wx)) (fun _ i _ => 32 - (intOf i).toNat)
      case atStart => exact ⟨0, rfl, Lib.hid (by omega), Lib.hid (own_nil _ _ _ _), Lib.hid (Below.refl _ _)⟩
      case round =>
        obtain ⟨n, rfl, HN, HO, HB⟩ := hrel
        by_cases hn : n < 32
        · have in1 : (n : Int) < 32 := by omega
          have HSZ := Lib.hid HB.out.size
          have HNN := Lib.hid hn
          have hlen := Lib.hid (show (natI (fixD.take n)).length ≤ 32 by rw [natI_length, List.length_take]; omega)
          have HV := Lib.hid (show natI (fixD.take n) ++ [(5 : Int)] = natI (fixD.take (n + 1)) by
            have e : fixD[n]? = some 5 := by unfold fixD; rw [List.getElem?_replicate, if_pos hn]
            rw [take_snoc e]
            simp [natI])
          clear hn
          go_wp2_with (at_builtin; refine print_append_num (w0 := _) _ rfl (.tmp 31) (.tmp 32) 51 3 .i64 8 rfl Tryd.underlying51 infoIntB (by omega) _ (natI (fixD.take n)) 5 rfl rfl HO.out HB.out HSZ.out (by have := hlen.out; omega) ?_; intro v1 w1 hown1 hbel1 hgrow hat; have HOWN := Lib.hid hown1; have HB1 := Lib.hid hbel1; clear hown1 hbel1 hgrow hat)
          have ho := HOWN.out
          have e := HV.out
          rw [e] at ho
          exact ⟨⟨n + 1, by simp, Lib.hid (by have := HNN.out; omega), Lib.hid ho, HB1⟩, by have := HNN.out; simp [intOf]; omega⟩
        · obtain rfl : n = 32 := by have := HN.out; omega
          have hO3 := HO.out
          rw [show fixD.take 32 = fixD by simp [fixD], natI_length] at hO3
          obtain ⟨A2, c2, rfl⟩ := own_slice hO3
          have HO3 := Lib.hid hO3
          clear HO HN hO3
          go_wp2_with fail
          refine bodyPost_ret (results_tmp2 rfl _ _ _) rfl ?_
          exact ⟨A1, A2, c1, c2, rfl, Lib.hid (pw_own_below HO2.out HB.out), Lib.hid (own_weaken HO3.out HSW.out), Lib.hid (below_then HB2.out HSW.out HB.out)⟩
end Go.Proofs.YtkdklcamgcmifaaDoor

/-! HDocJ: The document's reader: next. -/
namespace Go.Proofs.YtkdklcamgcmifaaDoor
set_option linter.unusedVariables false
set_option linter.unusedSimpArgs false
open Go.RowKit Go.Proofs.YtkdklcamgcmifaaDoorW.PrintWords Go.Proofs.YtkdklcamgcmifaaDoorW.PrintMore
/-- W' is W but for the state g, its row, one more row, and what is new. -/
structure SV (g : Nat) (ob : Option Nat) (W W' : World) : Prop where
  os : W'.os = W.os
  tape : W'.tape = W.tape
  output : W'.output = W.output
  size : W.heap.size ≤ W'.heap.size
  keep : ∀ i, i < W.heap.size → i ≠ g → rowK 2 W g ≠ some i → some i ≠ ob → W'.heap[i]? = W.heap[i]?
  row : rowK 2 W' g = rowK 2 W g ∨ ∃ b, rowK 2 W' g = some b ∧ W.heap.size ≤ b
theorem SV.ofSK {g : Nat} {W W' : World} (h : SK 2 g W W') (ob : Option Nat) : SV g ob W W' :=
  ⟨h.os, h.tape, h.output, h.size, fun i h1 h2 h3 _ => h.keep i h1 h2 h3, h.row⟩
theorem SV.grow {g : Nat} {ob ob' : Option Nat} {W W1 W2 : World} (h : SV g ob W W1) (hlt : g < W1.heap.size) (hg : W1.grownBy W2 ob') (ho : ob' = ob ∨ ∃ b, ob' = some b ∧ W.heap.size ≤ b) (hne : some g ≠ ob') : SV g ob W W2 := by
  have hrow : rowK 2 W2 g = rowK 2 W1 g := by
    have := hg.block g hlt (fun e => hne e)
    simp only [rowK, this]
  refine ⟨hg.os.trans h.os, hg.tape.trans h.tape, hg.output.trans h.output, Nat.le_trans h.size hg.size, fun i h1 h2 h3 h4 => ?_, by rw [hrow]; exact h.row⟩
  refine (hg.block i (Nat.lt_of_lt_of_le h1 h.size) fun e => ?_).trans (h.keep i h1 h2 h3 h4)
  rcases ho with rfl | ⟨b, rfl, hb⟩
  · exact h4 e
  · cases e
    omega
theorem SV.sk {g : Nat} {ob : Option Nat} {W wY W' : World} (h : SV g ob wY W') (hs : SK 2 g W wY) (ho : ∀ k, ob = some k → W.heap.size ≤ k) : SK 2 g W W' := by
  refine ⟨h.os.trans hs.os, h.tape.trans hs.tape, h.output.trans hs.output, Nat.le_trans hs.size h.size, fun i hi hg hr => ?_, ?_⟩
  · refine (h.keep i (Nat.lt_of_lt_of_le hi hs.size) hg ?_ ?_).trans (hs.keep i hi hg hr)
    · rcases hs.row with e | ⟨b, e, hb⟩
      · rw [e]; exact hr
      · rw [e]; intro e2; cases e2; omega
    · intro e
      have := ho i e.symm
      omega
  · rcases h.row with e | ⟨b, e, hb⟩
    · rcases hs.row with e2 | ⟨b, e2, hb⟩
      · exact .inl (e.trans e2)
      · exact .inr ⟨b, e.trans e2, hb⟩
    · exact .inr ⟨b, e, Nat.le_trans hs.size hb⟩
/-- Another block of another kind, or another row of ints below the row, stays. -/
theorem SV.block {w0 : World} {A : Option Addr} {c most g q : Nat} {p out : List Int} {e : Int} {ob : Option Nat} {W W' : World} (h : SV g ob W W') (hr : Bd w0 A c p most g q out e W) {i : Nat} {cs : Array Value} {t : TypeId} {fr : Nat × Nat} (hb : W.heap[i]? = some (.cells cs t fr)) (h1 : t ≠ 47) (h2 : t ≠ 5) (h3 : some i ≠ ob) : W'.heap[i]? = some (.cells cs t fr) := by
  obtain ⟨v', hb', ho', _⟩ := hr
  have hrow : rowK 2 W g = v'.ownBlock := rowK_eq hb' rfl
  refine (h.keep i (blk_lt hb) ?_ ?_ h3).trans hb
  · rintro rfl
    rw [hb'] at hb
    simp only [Option.some.injEq, Obj.cells.injEq] at hb
    exact h1 hb.2.1.symm
  · intro e
    rw [hrow] at e
    obtain ⟨cur, hc⟩ := own_typed ho' i e
    rw [hb] at hc
    simp only [Option.some.injEq, Obj.cells.injEq] at hc
    exact h2 hc.2.1
theorem Bd.grown {w0 : World} {A : Option Addr} {c most g q : Nat} {p out : List Int} {e : Int} {W W' : World} {v : Value} {base n : Nat} {xs : List Value} (h : Bd w0 A c p most g q out e W) (ho : W.ownsRow base 3 1 v n xs) (hg : W.grownBy W' v.ownBlock) : Bd w0 A c p most g q out e W' ∧ some g ≠ v.ownBlock := by
  have hne : ∀ i cs t fr, W.heap[i]? = some (.cells cs t fr) → t ≠ 3 → some i ≠ v.ownBlock := by
    intro i cs t fr hi ht e
    obtain ⟨cur, hc⟩ := own_typed ho i e.symm
    rw [hi] at hc
    simp only [Option.some.injEq, Obj.cells.injEq] at hc
    exact ht hc.2.1
  have h' := h
  obtain ⟨v', hb', ho', _⟩ := h'
  have hgb := hne g _ _ _ hb' (by decide)
  refine ⟨h.keep (hg.block g h.lt fun e => hgb e) fun i hi => hg.block i (h.row_ge i hi).2 fun e => ?_, hgb⟩
  rw [rowK_eq hb' rfl] at hi
  obtain ⟨cur, hc⟩ := own_typed ho' i hi
  exact hne i _ _ _ hc (by decide) e
/-- What next puts behind the lengths. -/
def nxO (l : List Nat) (s want : Nat) : Rdr (List Nat) := bndR (nxtR l s) fun vt => if want < l.length + vt.2 then badR 4 else retR (l ++ List.replicate vt.2 vt.1)
/-- What next tells. -/
def NxC (r : Except Int (List Nat × Nat)) (e : Int) (l' : List Nat) (q' : Nat) (e' : Int) : Prop := (e ≠ 0 ∧ e' = e) ∨ (e = 0 ∧ ((e' = 0 ∧ r = .ok (l', q')) ∨ (e' ≠ 0 ∧ r = .error e')))
/-- Where next stands behind the switch: its length v, its times t. -/
def NxM (T N : Nat) (l : List Nat) (s q : Nat) (e : Int) (v t q2 : Nat) (e2 : Int) : Prop := (e ≠ 0 ∧ e2 = e) ∨ (e = 0 ∧ ((e2 = 0 ∧ nxtR l s T N q = .ok ((v, t), q2)) ∨ (e2 ≠ 0 ∧ nxtR l s T N q = .error e2)))
/-- The row of lengths, and the frame. -/
def NxF (w0 : World) (A : Option Addr) (c : Nat) (p : List Int) (most g q' : Nat) (out : List Int) (e' : Int) (base : Nat) (W w' : World) (v v' : Value) (l' : List Nat) : Prop :=
  Bd w0 A c p most g q' out e' w' ∧ w'.ownsRow base 3 1 v' l'.length (nums .i64 (natI l')) ∧ SV g v.ownBlock W w' ∧ (v'.ownBlock = v.ownBlock ∨ ∃ b, v'.ownBlock = some b ∧ W.heap.size ≤ b)
theorem NxM.tk {T N : Nat} {l : List Nat} {s q n x q2 b v : Nat} {e e2 : Int} (h : DkC N T q e n x q2 e2) (hn : nxtR l s = bndR (tk n) fun t => retR (v, b + t)) : NxM T N l s q e v (b + x) q2 e2 := by
  rcases h.2 with ⟨h1, _, h2⟩ | ⟨h1, ⟨h2, h3⟩ | ⟨h2, h3⟩⟩
  · exact .inl ⟨h1, h2⟩
  · exact .inr ⟨h1, .inl ⟨h3, by rw [hn]; simp only [bndR, h2]; rfl⟩⟩
  · exact .inr ⟨h1, .inr ⟨by rw [h3]; decide, by rw [hn]; simp only [bndR, h2, h3]⟩⟩
theorem NxM.big {T N : Nat} {l : List Nat} {s q v t q2 want : Nat} {e e2 : Int} (h : NxM T N l s q e v t q2 e2) (hb : want < l.length + t) (l' : List Nat) : NxC (nxO l s want T N q) e l' q2 (fst e2 4) := by
  rcases h with ⟨h1, rfl⟩ | ⟨rfl, ⟨rfl, h2⟩ | ⟨h1, h2⟩⟩
  · exact .inl ⟨h1, by rw [fst, if_neg h1]⟩
  · exact .inr ⟨rfl, .inr ⟨by decide, by simp only [nxO, bndR, h2, if_pos hb]; rfl⟩⟩
  · exact .inr ⟨rfl, .inr ⟨by rw [fst, if_neg h1]; exact h1, by simp only [nxO, bndR, h2]; rw [fst, if_neg h1]⟩⟩
theorem NxM.stop {T N : Nat} {l : List Nat} {s q v t q2 want : Nat} {e e2 : Int} (h : NxM T N l s q e v t q2 e2) (hb : e2 ≠ 0) (l' : List Nat) : NxC (nxO l s want T N q) e l' q2 e2 := by
  rcases h with ⟨h1, rfl⟩ | ⟨rfl, ⟨rfl, h2⟩ | ⟨h1, h2⟩⟩
  · exact .inl ⟨h1, rfl⟩
  · exact absurd rfl hb
  · exact .inr ⟨rfl, .inr ⟨h1, by simp only [nxO, bndR, h2]⟩⟩
theorem NxM.go {T N : Nat} {l : List Nat} {s q v t q2 want : Nat} {e : Int} (h : NxM T N l s q e v t q2 0) (hb : ¬ want < l.length + t) : NxC (nxO l s want T N q) e (l ++ List.replicate t v) q2 0 := by
  rcases h with ⟨h1, h2⟩ | ⟨rfl, ⟨_, h2⟩ | ⟨h1, h2⟩⟩
  · exact absurd h2.symm h1
  · exact .inr ⟨rfl, .inl ⟨rfl, by simp only [nxO, bndR, h2, if_neg hb]; rfl⟩⟩
  · exact absurd rfl h1
theorem NxF.step {w0 W wr w1 : World} {A : Option Addr} {c most g q base : Nat} {p out : List Int} {e : Int} {v vv v1 : Value} {l : List Nat} {i V : Nat} (h : NxF w0 A c p most g q out e base W wr v vv (l ++ List.replicate i V))
    (ho : w1.ownsRow base 3 1 v1 (natI (l ++ List.replicate i V) ++ [(V : Int)]).length (nums .i64 (natI (l ++ List.replicate i V) ++ [(V : Int)]))) (hg : wr.grownBy w1 vv.ownBlock) (hat : v1.ownBlock = vv.ownBlock ∨ ∃ b, v1.ownBlock = some b ∧ wr.heap.size ≤ b) :
    NxF w0 A c p most g q out e base W w1 v v1 (l ++ List.replicate (i + 1) V) := by
  obtain ⟨h1, h2, h3, h4⟩ := h
  have hgr := h1.grown h2 hg
  have e : natI (l ++ List.replicate i V) ++ [(V : Int)] = natI (l ++ List.replicate (i + 1) V) := by rw [List.replicate_succ', ← List.append_assoc]; simp [natI]
  rw [e, natI_length] at ho
  refine ⟨hgr.1, ho, h3.grow h1.lt hg h4 hgr.2, ?_⟩
  rcases hat with e | ⟨b, e, hb⟩
  · rw [e]; exact h4
  · exact .inr ⟨b, e, Nat.le_trans h3.size hb⟩
/-- How next ends. -/
def NxT (w0 : World) (A : Option Addr) (c : Nat) (p : List Int) (most g q : Nat) (out : List Int) (e : Int) (base : Nat) (W : World) (l : List Nat) (s want : Nat) (v : Value) (ee : Ending) (w' : World) : Prop :=
  ∃ (l' : List Nat) (v' : Value) (q' : Nat) (e' : Int), ee = .returned v' ∧ Hid (NxF w0 A c p most g q' out e' base W w' v v' l') ∧ NxC (nxO l s want (numB p) (8 * p.length) q) e l' q' e'
set_option maxRecDepth 8000 in
set_option maxHeartbeats 8000000 in
theorem next_calls (w0 : World) (A : Option Addr) (c : Nat) (p : List Int) (most g q : Nat) (out : List Int) (e : Int) (W : World) (l : List Nat) (s want base : Nat) (Av : Option Addr) (cv : Nat) (hr : Bd w0 A c p most g q out e W) (hw : Rw w0 A c p g W)
    (ho : W.ownsRow base 3 1 (.slice Av l.length cv) l.length (nums .i64 (natI l))) (hbase : base ≤ W.heap.size) (hl : l.length ≤ 1000) (hx : ∀ x ∈ l, x < 16) (hs : s ≤ 1000) (hwant : want ≤ 1000) :
    Calls Tryd.prog 57 #[.pointer (some ⟨g, 0, none⟩), .slice Av l.length cv, .int .i64 s, .int .i64 want] W fun ee w' => NxT w0 A c p most g q out e base W l s want (.slice Av l.length cv) ee w' := by
  have HR := Lib.hid hr
  have HW := Lib.hid hw
  have HO := Lib.hid ho
  have HBS := Lib.hid hbase
  have HL := Lib.hid hl
  have HX := Lib.hid hx
  have hlI : (l.length : Int) ≤ 1000 := by omega
  have hsI : (s : Int) ≤ 1000 := by omega
  have hwI : (want : Int) ≤ 1000 := by omega
  clear hr hw ho hbase hl hx hs hwant
  go_enter Tryd.func57, Tryd.ntmps57
  go_upto_region 2 with fail
  iterate 7 (first | go_values | go_skip | go_guarded | go_step | go_upon | go_back)
  go_cut [9, 10] from 12 (fun vv tt wc => ∃ (V T q2 : Nat) (e2 : Int), vv = .int .i64 V ∧ tt = .int .i64 T ∧ Hid (T ≤ 200 ∧ V ≤ 1000) ∧ Hid (SK 2 g W wc) ∧ Hid (Bd w0 A c p most g q2 out e2 wc) ∧ Hid (NxM (numB p) (8 * p.length) l s q e V T q2 e2))
  case first =>
    by_cases h16 : s = 16
    · subst h16
      by_cases hl0 : l.length = 0
      · obtain rfl : l = [] := List.eq_nil_of_length_eq_zero hl0
        clear hl0
        go_wp2_with fail
        refine (dfail_calls w0 A c p most g q out e W HR.out).mono ?_
        rintro ee w4 ⟨rfl, hs4, hb4⟩
        have HS4 := Lib.hid hs4
        have HB4 := Lib.hid hb4
        clear hs4 hb4
        go_wp2_with fail
        go_ret
        refine ⟨[], .slice Av 0 cv, q, fst e 4, rfl, Lib.hid ⟨HB4.out, own_sk2 HO.out HR.out HS4.out, SV.ofSK HS4.out _, .inl rfl⟩, ?_⟩
        by_cases he : e = 0
        · subst he
          exact .inr ⟨rfl, .inr ⟨by decide, rfl⟩⟩
        · exact .inl ⟨he, by rw [fst, if_neg he]⟩
      · have hl2 : l.length - 1 < l.length := by omega
        have hll : (0 : Int) < (l.length : Int) := by omega
        have il0 : ¬ (l.length : Int) = 0 := by omega
        obtain ⟨ad, hA, hcl⟩ := (own_reads' HO.out).2.2 (by omega)
        subst hA
        have hcj := hcl _ hl2
        have hlv : (natI l).getD (l.length - 1) 0 = ((l.getD (l.length - 1) 0 : Nat) : Int) := by
          simp only [natI, List.getD_eq_getElem?_getD, List.getElem?_map]
          cases l[l.length - 1]? <;> rfl
        rw [hlv] at hcj
        have hv16 := HX.out _ (getD_mem hl2)
        have HNX : Hid (∀ k : Nat, nxtR l 16 = bndR (tk 2) fun t => retR (l.getD (l.length - 1) 0, 3 + t)) := Lib.hid (fun _ => by unfold nxtR; rw [if_pos rfl, if_neg hl0])
        have hw1 : IntKind.i64.wrap ((l.length : Int) - 1) = ((l.length - 1 : Nat) : Int) := by
          rw [IntKind.wrap_i64]
          omega
        have hjI : ((l.length - 1 : Nat) : Int) < (l.length : Int) := by omega
        have hj0 : (0 : Int) ≤ ((l.length - 1 : Nat) : Int) := by omega
        clear hcl hlv hl2 hl0
        generalize l.length - 1 = j at *
        generalize l.getD j 0 = V at *
        have HV := Lib.hid hv16
        clear hv16
        go_wp2_with fail
        refine (dnum_calls w0 A c p most g q out e W 2 HR.out HW.out (by omega)).mono ?_
        rintro ee w4 ⟨x, q2, e2, rfl, hs4, hb4, hd4⟩
        have hx := hd4.1
        have HM := Lib.hid (NxM.tk hd4 (HNX.out 0))
        clear hd4
        have hxI : (x : Int) < 4 := by omega
        have hxI0 : (0 : Int) ≤ (x : Int) := by omega
        go_wp2_with fail
        go_meet
        case rel => exact ⟨V, 3 + x, q2, e2, rfl, by simp, Lib.hid ⟨by omega, by have := HV.out; omega⟩, hs4, hb4, HM⟩
    · have i16 : ¬ (s : Int) = 16 := by omega
      by_cases h17 : s = 17
      · subst h17
        go_wp2_with fail
        refine (dnum_calls w0 A c p most g q out e W 3 HR.out HW.out (by omega)).mono ?_
        rintro ee w4 ⟨x, q2, e2, rfl, hs4, hb4, hd4⟩
        have hx := hd4.1
        have HM := Lib.hid (NxM.tk (l := l) (s := 17) (v := 0) (b := 3) hd4 rfl)
        clear hd4
        have hxI : (x : Int) < 8 := by omega
        have hxI0 : (0 : Int) ≤ (x : Int) := by omega
        go_wp2_with fail
        go_meet
        case rel => exact ⟨0, 3 + x, q2, e2, rfl, by simp, Lib.hid ⟨by omega, by omega⟩, hs4, hb4, HM⟩
      · have i17 : ¬ (s : Int) = 17 := by omega
        by_cases h18 : s = 18
        · subst h18
          go_wp2_with fail
          refine (dnum_calls w0 A c p most g q out e W 7 HR.out HW.out (by omega)).mono ?_
          rintro ee w4 ⟨x, q2, e2, rfl, hs4, hb4, hd4⟩
          have hx := hd4.1
          have HM := Lib.hid (NxM.tk (l := l) (s := 18) (v := 0) (b := 11) hd4 rfl)
          clear hd4
          have hxI : (x : Int) < 128 := by omega
          have hxI0 : (0 : Int) ≤ (x : Int) := by omega
          go_wp2_with fail
          go_meet
          case rel => exact ⟨0, 11 + x, q2, e2, rfl, by simp, Lib.hid ⟨by omega, by omega⟩, hs4, hb4, HM⟩
        · have i18 : ¬ (s : Int) = 18 := by omega
          have HS := Lib.hid (show s ≤ 1000 by omega)
          have HM : Hid (NxM (numB p) (8 * p.length) l s q e s 1 q e) := Lib.hid (by
            by_cases he : e = 0
            · exact .inr ⟨he, .inl ⟨he, by unfold nxtR; rw [if_neg h16, if_neg h17, if_neg h18]; rfl⟩⟩
            · exact .inl ⟨he, rfl⟩)
          go_wp2_with fail
          go_meet
          case rel => exact ⟨s, 1, q, e, rfl, rfl, Lib.hid ⟨by omega, HS.out⟩, Lib.hid (SK.refl 2 g W), HR, HM⟩
  case rest =>
    obtain ⟨V, T, q2, e2, rfl, rfl, HVT, HS, HB, HM⟩ := hcut
    have hT : (T : Int) ≤ 200 := by have := HVT.out; omega
    by_cases hfit : want < l.length + T
    · have ifit : (l.length : Int) + (T : Int) > (want : Int) := by omega
      go_wp2_with fail
      refine (dfail_calls w0 A c p most g q2 out e2 wc HB.out).mono ?_
      rintro ee w4 ⟨rfl, hs4, hb4⟩
      have HS4 := Lib.hid (HS.out.trans hs4)
      have HB4 := Lib.hid hb4
      have c4 := hb4.e_cell
      have hf4 : ((fst e2 4) != 0) = true := by
        unfold fst
        by_cases h : e2 = 0
        · rw [if_pos h]; rfl
        · rw [if_neg h]; simpa using h
      have HMB := Lib.hid (HM.out.big hfit l)
      clear hs4 hb4
      generalize fst e2 4 = e4 at *
      go_wp2_with fail
      go_ret
      exact ⟨l, .slice Av l.length cv, q2, e4, rfl, Lib.hid ⟨HB4.out, own_sk2 HO.out HR.out HS4.out, SV.ofSK HS4.out _, .inl rfl⟩, HMB.out⟩
    · have ifit : ¬ (l.length : Int) + (T : Int) > (want : Int) := by omega
      have c4 := HB.out.e_cell
      by_cases he : e2 = 0
      · subst he
        have HMG := Lib.hid (HM.out.go hfit)
        clear hfit
        have HF0 : Hid (NxF w0 A c p most g q2 out 0 base W wc (.slice Av l.length cv) (.slice Av l.length cv) (l ++ List.replicate 0 V)) := Lib.hid (by
          rw [List.replicate_zero, List.append_nil]
          exact ⟨HB.out, own_sk2 HO.out HR.out HS.out, SV.ofSK HS.out _, .inl rfl⟩)
        go_wp2_with fail
        go_loopw [1, 11] (fun vv iv wr => ∃ i : Nat, iv = .int .i64 i ∧ Hid (i ≤ T) ∧ Hid (NxF w0 A c p most g q2 out 0 base W wr (.slice Av l.length cv) vv (l ++ List.replicate i V))) (fun _ iv _ => T - (intOf iv).toNat)
        case atStart => exact ⟨0, rfl, Lib.hid (Nat.zero_le _), HF0⟩
        case round =>
          clear HF0
          obtain ⟨i, rfl, HI, HF⟩ := hrel
          by_cases hi : i < T
          · have ii : (i : Int) < (T : Int) := by omega
            have HO1 : Hid (wr.ownsRow base 3 1 u1 (natI (l ++ List.replicate i V)).length (nums .i64 (natI (l ++ List.replicate i V)))) := Lib.hid (by rw [natI_length]; exact HF.out.2.1)
            have HSZ : Hid (base ≤ wr.heap.size) := Lib.hid (Nat.le_trans HBS.out HF.out.2.2.1.size)
            have HLN : Hid ((natI (l ++ List.replicate i V)).length ≤ 2000) := Lib.hid (by rw [natI_length, List.length_append, List.length_replicate]; have := HL.out; have := HVT.out; omega)
            have HII := Lib.hid hi
            clear hi
            go_wp2_with (at_builtin; refine print_append_num (w0 := wr) base rfl (.tmp 60) (.tmp 62) 51 3 .i64 8 rfl Tryd.underlying51 infoIntB (by omega) _ (natI (l ++ List.replicate i V)) (V : Int) rfl rfl HO1.out (Below.refl _ _) HSZ.out (by have := HLN.out; omega) ?_; intro v1 w1 hown1 hbel1 hgrow hat; have HOWN := Lib.hid hown1; have HG1 := Lib.hid hgrow; have HAT := Lib.hid hat; clear hown1 hbel1 hgrow hat)
            exact ⟨⟨i + 1, by simp, Lib.hid (by have := HII.out; omega), Lib.hid (HF.out.step HOWN.out HG1.out HAT.out)⟩, by have := HII.out; simp [intOf]; omega⟩
          · obtain rfl : i = T := by have := HI.out; omega
            go_wp2_with fail
            go_ret
            exact ⟨_, u1, q2, 0, rfl, HF, HMG.out⟩
      · have he' : (e2 != 0) = true := by simpa using he
        have HMS := Lib.hid (HM.out.stop he (want := want) l)
        clear hfit
        go_wp2_with fail
        go_ret
        exact ⟨l, .slice Av l.length cv, q2, e2, rfl, Lib.hid ⟨HB.out, own_sk2 HO.out HR.out HS.out, SV.ofSK HS.out _, .inl rfl⟩, HMS.out⟩
end Go.Proofs.YtkdklcamgcmifaaDoor
