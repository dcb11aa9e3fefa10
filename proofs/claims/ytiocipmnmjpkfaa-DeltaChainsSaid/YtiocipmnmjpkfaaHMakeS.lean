/- delta.Make, where neither text has sixteen bytes: nothing is looked up. -/
import Derived.Test.YtiocipmnmjpkfaaHFlush
import Derived.Test.YtiocipmnmjpkfaaHDocApply
import Derived.Test.YtiocipmnmjpkfaaHPut
import Derived.Deep.RegionLaw
import Derived.Carry
namespace Go.Proofs.Ytiocipmnmjpkfaa
set_option linter.unusedVariables false
set_option linter.unusedSimpArgs false
open Go.RowKit Go.Proofs.YtiocipmnmjpkfaaW.PrintWords Go.Proofs.YtiocipmnmjpkfaaW.PrintMore

theorem sizeL_len : ∀ (k : Nat) (v : Int), (sizeL k v).length ≤ k := by
  intro k
  induction k with
  | zero => intro v; simp [sizeL]
  | succ k ih =>
    intro v
    by_cases h : v < 128
    · rw [sizeL_small k v h]; simp
    · rw [sizeL_more k v h]
      have := ih (v / 128)
      simp only [List.length_cons]
      omega
theorem GB.toSF {g B : Nat} {W W1 : World} (h : GB g B W W1) {C : Nat} (hC : C ≤ B) (hg : C ≤ g) : Below C W W1 := h.to hg hC
theorem GB.alloc {g B : Nat} {W W1 : World} (h : GB g B W W1) (hB : B ≤ W.heap.size) (o : Obj) : GB g B W (W1.alloc o) :=
  ⟨h.os, h.tape, h.output, Nat.le_trans h.size (by simp), fun i hi hg => (Below.heap_alloc W1 o i (Nat.lt_of_lt_of_le hi (Nat.le_trans hB h.size))).trans (h.keep i hi hg)⟩
theorem GB.drewN {g B : Nat} {W W1 : World} (h : GB g B W W1) (n : Nat) : GB g B W (W1.drewN n) := ⟨h.os, h.tape, h.output, h.size, h.keep⟩
theorem GB.drew {g B : Nat} {W W1 : World} (h : GB g B W W1) : GB g B W W1.drew := ⟨h.os, h.tape, h.output, h.size, h.keep⟩
theorem GB.set {g B : Nat} {W W1 : World} (h : GB g B W W1) (j : Nat) (u : Value) : GB g B W (W1.setCell ⟨g, j, none⟩ u) :=
  ⟨h.os, h.tape, h.output, (by simp [World.setCell]; exact h.size), fun i hi hg => (Below.heap_setCell W1 ⟨g, j, none⟩ u i hg).trans (h.keep i hi hg)⟩
theorem GB.grown {g B : Nat} {W W1 W2 : World} {row : Option Nat} (h : GB g B W W1) (hB : B ≤ W.heap.size) (hg : W1.grownBy W2 row) (hr : ∀ k, row = some k → B ≤ k) : GB g B W W2 :=
  ⟨hg.os.trans h.os, hg.tape.trans h.tape, hg.output.trans h.output, Nat.le_trans h.size hg.size, fun i hi hgi => (hg.block i (Nat.lt_of_lt_of_le hi (Nat.le_trans hB h.size)) (fun e => by have := hr i e.symm; omega)).trans (h.keep i hi hgi)⟩
theorem Mkr.gb {W W1 : World} {g C : Nat} {dv hv v : Value} {out : List Int} (h : Mkr W g dv hv) (hO : Bs 5 W C v out) (hS : GB g W.heap.size W W1) : Bs 5 W1 C v out := by
  refine own_move hO fun k hk => hS.keep k (own_lt hO k hk) fun he => ?_
  subst he
  exact h.ne hO hk
set_option maxRecDepth 8000 in
set_option maxHeartbeats 4000000 in
theorem make_small (Ab At : Option Addr) (cb ct : Nat) (base target : List Int) (w : World) (hb : base.length < 16) (ht : target.length < 16) (hcb : base.length ≤ cb) (hct : target.length ≤ ct) (hrt : ReadsInt w .u8 At target.length target) :
    Calls Try.prog 41 #[.slice Ab base.length cb, .slice At target.length ct] w fun e w' => ∃ v, e = .returned (.tuple #[v, .int .i64 0]) ∧ Bs 5 w' w.heap.size v (sizeL 10 base.length ++ sizeL 10 target.length ++ flushL target) ∧ Below w.heap.size w w' := by
  have HRT := Lib.hid hrt
  have HP1 := Lib.hid (putSize_calls none 0 [] (base.length : Int) w ⟨rfl, by simp, fun h => absurd h (by simp)⟩ (by simp) (by omega) (by omega))
  have hmm := @run_makeMap Try.prog
  have d1 : decide ((1048576 : Int) < (base.length : Int)) = false := decide_eq_false (by omega)
  have d2 : decide ((1048576 : Int) < (target.length : Int)) = false := decide_eq_false (by omega)
  have d3 : decide ((16 : Int) ≤ (base.length : Int)) = false := decide_eq_false (by omega)
  clear hrt
  go_enter Try.func41, Try.ntmps41
  go_wp2_with fail
  refine HP1.out.mono ?_
  rintro e w1 ⟨v1, rfl, ho1, hb1⟩
  obtain ⟨A1, n1, c1, rfl, HO1, HN1⟩ := Bs.open_ ho1
  have hl1 : (sizeL 10 (base.length : Int)).length = n1 := by simpa using HN1.out.symm
  have hs1 := sizeL_len 10 (base.length : Int)
  have HP2 := Lib.hid (putSize_calls A1 c1 (sizeL 10 (base.length : Int)) (target.length : Int) w1 (by rw [hl1]; exact own_reads' (by simpa using HO1.out)) (by omega) (by omega) (by omega))
  rw [hl1] at HP2
  clear hl1 HP1 ho1
  go_wp2_with fail
  refine HP2.out.mono ?_
  rintro e w2 ⟨v2, rfl, ho2, hb2⟩
  obtain ⟨A2, n2, c2, rfl, HO2, HN2⟩ := Bs.open_ ho2
  have HO := Lib.hid ho2
  have HB12 := Lib.hid (hb1.trans (hb2.mono hb1.size))
  have hsz1 := hb1.size
  have hsz2 := hb2.size
  clear HP2 ho2 hb1 hb2 HO1 HN1
  go_wp2_with fail
  have hM3 : Mkr ((w2.alloc (.cells #[.slice A2 n2 c2, .slice none 0 0] 69)).alloc (.map #[] 0)) w2.heap.size (.slice A2 n2 c2) (.slice none 0 0) := (Below.heap_alloc _ _ _ (by simp)).trans (heap_alloc_new w2 _)
  have hO3 : Bs 5 ((w2.alloc (.cells #[.slice A2 n2 c2, .slice none 0 0] 69)).alloc (.map #[] 0)) w.heap.size (.slice A2 n2 c2) (sizeL 10 base.length ++ sizeL 10 target.length) := own_weaken (pw_own_below HO.out (below_alloc (below_alloc (Below.refl _ _) _) _)) (by omega)
  have hB3 : Below w.heap.size w ((w2.alloc (.cells #[.slice A2 n2 c2, .slice none 0 0] 69)).alloc (.map #[] 0)) := (HB12.out.alloc (by omega) _).alloc (by simp; omega) _
  have hsz3 : ((w2.alloc (.cells #[.slice A2 n2 c2, .slice none 0 0] 69)).alloc (.map #[] 0)).heap.size = w2.heap.size + 2 := by simp
  generalize hW3 : (w2.alloc (.cells #[.slice A2 n2 c2, .slice none 0 0] 69)).alloc (.map #[] 0) = W3 at *
  generalize hg : w2.heap.size = g at *
  have hgw : w.heap.size ≤ g := by omega
  have hszw : w.heap.size ≤ W3.heap.size := by omega
  have HM3 := Lib.hid hM3
  have HO3 := Lib.hid hO3
  have HB3 := Lib.hid hB3
  clear hM3 hO3 hB3 hW3 HO HB12 hmm HO2
  refine wp_loop_rounds 1 ?_
  rw [rounds_succ]
  go_wp2_with fail
  go_loopw [12] (fun iv wr => ∃ (i : Nat) (hv : Value), iv = .int .i64 i ∧ i ≤ target.length ∧ Hid (Mkr wr g (.slice A2 n2 c2) hv) ∧ Hid (Bs 5 wr W3.heap.size hv (target.take i)) ∧ Hid (GB g W3.heap.size W3 wr)) (fun iv _ => target.length - (intOf iv).toNat)
  case atStart => exact ⟨0, _, rfl, Nat.zero_le _, HM3, own_nil _ _ _ _, GB.refl _ _ _⟩
  case round =>
    obtain ⟨i, hv, rfl, hi, HM, HR, HS⟩ := hrel
    by_cases hlt : i < target.length
    · have hfar : ¬ (i : Int) + 16 ≤ (target.length : Int) := by omega
      obtain ⟨Ah, nh, ch, rfl, HR', HNH⟩ := Bs.open_ HR.out
      have hnh : nh ≤ 16 := by have := HNH.out; rw [List.length_take] at this; omega
      have hgl := blk_lt HM.out
      have hszr := HS.out.size
      obtain ⟨ad, rfl, hcell⟩ := (HRT.out.below (HB3.out.trans (HS.out.to hgw hszw))).2.2 (by omega)
      have hct := hcell i hlt
      have HTK := Lib.hid (show target.take (i + 1) = target.take i ++ [target.getD i 0] by
        rw [List.take_succ_eq_append_getElem hlt]
        simp [hlt])
      generalize target.getD i 0 = x at hct HTK
      have c1 := HM.out.c1
      have f1 := HM.out.f 1
      obtain ⟨i0, hi0, hz0, hz1, hz2⟩ := info_parts infoU8
      have HOA := Lib.hid (show (wr.alloc (.cells #[.int .u8 x] 5)).drew.ownsRow W3.heap.size 5 1 (.slice Ah nh ch) nh (nums .u8 (target.take i)) from HR'.out.alloc _)
      have HNA := Lib.hid (show ∀ j u, [Value.int .u8 x][j]? = some u → (wr.alloc (.cells #[.int .u8 x] 5)).drew.cell? ((⟨wr.heap.size, 0, none⟩ : Addr).add j) = some u from World.news_of_block (w := (wr.alloc (.cells #[.int .u8 x] 5)).drew) (cs := #[.int .u8 x]) (heap_alloc_new wr _))
      have HNE := Lib.hid (HM.out.ne HR.out)
      clear hcell
      go_wp2_with fail
      go_region_law (refine step_append_lies _ (by rfl) (.tmp 97) (.tmp 102) 22 (by rfl) W3.heap.size 5 i0 (.int .u8 0) 1 1 Try.underlying22 hi0 hz0 hz1 hz2 rfl (by omega) (.slice Ah nh ch) nh _ (by rfl) HOA.out ⟨wr.heap.size, 0, none⟩ 1 1 [.int .u8 x] (by rfl) rfl HNA.out (by intro u hu; simp at hu; subst hu; rfl) (by omega) (by simp only [maxLen]; omega) (by omega) (by simp; omega) (wr.heap.size + 1) (by simp) ?_; intro g2 cap w4 hown4 hgrow hat hlt2; have hb4 : Mkr w4 g (.slice A2 n2 c2) (.slice Ah nh ch) := (hgrow.block g (by simp; omega) (fun e => HNE.out e.symm)).trans ((Below.heap_alloc wr _ g hgl).trans HM.out); have k1 := hb4.c1; have j1 := hb4.f 1; have HB4 := Lib.hid hb4; have HOWN := Lib.hid hown4; have HGROW := Lib.hid hgrow; have HAT := Lib.hid hat; clear hb4 hown4 hgrow hat hlt2)
      all_goals
        go_wp2_with fail
        go_roundw
        case rel =>
          have hl1 : (target.take (i + 1)).length = nh + 1 := by rw [HTK.out, List.length_append, ← HNH.out]; rfl
          have hrow : Bs 5 w4 W3.heap.size (.slice (some ⟨g2, 0, none⟩) (nh + 1) cap) (target.take (i + 1)) := by
            unfold Bs
            rw [hl1, HTK.out]
            have := HOWN.out
            simpa [nums] using this
          refine ⟨i + 1, _, by simp, hlt, Lib.hid (HB4.out.set1 _), Lib.hid (own_move hrow fun k hk => Below.heap_setCell w4 ⟨g, 1, none⟩ _ k (fun e => HB4.out.ne hrow (by rw [hk, show k = g from e]))), Lib.hid (((HS.out.alloc (Nat.le_refl _) _).drew.grown (Nat.le_refl _) HGROW.out (fun k hk => own_base HR'.out k hk)).set 1 _)⟩
        case measure => simp [intOf]; omega
    · obtain rfl : i = target.length := by omega
      obtain ⟨Ah, nh, ch, rfl, HR', HNH⟩ := Bs.open_ HR.out
      have hnt : nh = target.length := by have := HNH.out; rwa [List.take_length] at this
      subst hnt
      have hOd := HM3.out.gb HO3.out HS.out
      have hHr : ReadsInt wr .u8 Ah target.length target := by have := own_reads' HR'.out; rwa [List.take_length] at this
      have hsep : ∀ ad, Ah = some ad → ad.block < wr.heap.size ∧ ad.block ≠ g ∧ (Value.slice A2 n2 c2).ownBlock ≠ some ad.block := by
        rintro ad rfl
        have e1 : (Value.slice (some ad) target.length ch).ownBlock = some ad.block := rfl
        refine ⟨own_lt HR.out _ e1, fun e => HM.out.ne HR.out (by rw [e1, e]), fun e => ?_⟩
        have h1 := own_lt HO3.out _ e
        have h2 := own_base HR.out _ e1
        omega
      have hs2 := sizeL_len 10 (target.length : Int)
      have HFL := Lib.hid (flush_calls wr g w.heap.size ch Ah (.slice A2 n2 c2) _ target HM.out hOd (by have := HS.out.size; omega) hHr (own_cap HR'.out).1 hsep (by omega) (by rw [List.length_append]; omega))
      have HBW := Lib.hid (HB3.out.trans (HS.out.to hgw hszw))
      have HRW := Lib.hid (show ∀ k, rowOf wr g = some k → w.heap.size ≤ k from fun k hk => own_base hOd k (by rw [← HM.out.row]; exact hk))
      have hszr : w.heap.size ≤ wr.heap.size := by have := HS.out.size; omega
      clear hOd hHr hsep hs2
      go_wp2_with fail
      refine HFL.out.mono ?_
      rintro e w5 ⟨rfl, hs5, dv5, hm5, ho5⟩
      have c5 := hm5.c0
      have HB5 := Lib.hid (hs5.below (HBW.out.trans (Below.refl _ _)) hszr hgw HRW.out)
      have HO5 := Lib.hid ho5
      clear hs5 hm5 ho5
      go_wp2_with fail
      go_ret2
      exact ⟨_, rfl, HO5.out, HB5.out⟩
end Go.Proofs.Ytiocipmnmjpkfaa
