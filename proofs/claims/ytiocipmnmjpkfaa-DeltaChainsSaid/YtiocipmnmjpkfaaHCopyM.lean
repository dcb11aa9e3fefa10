/- maker.copy: what is held is inserted, then n bytes of the base from at on are copied. -/
import Derived.Test.YtiocipmnmjpkfaaHKey
namespace Go.Proofs.Ytiocipmnmjpkfaa
set_option linter.unusedVariables false
set_option linter.unusedSimpArgs false
open Go.RowKit Go.Proofs.YtiocipmnmjpkfaaW.PrintWords Go.Proofs.YtiocipmnmjpkfaaW.PrintMore

theorem ckBs_range (H : List Int) : ∀ (j : Nat), j ≤ (H.length + 126) / 127 → (ckBs H (List.range j)).length = j + min (127 * j) H.length := by
  intro j
  induction j with
  | zero => intro _; simp [ckBs]
  | succ j ih =>
    intro hj
    rw [List.range_succ, ckBs_snoc, List.length_append, ih (by omega)]
    simp only [ckB, List.length_cons, List.length_take, List.length_drop, ckLen]
    omega
theorem flushL_len (H : List Int) : (flushL H).length = H.length + (H.length + 126) / 127 := by
  unfold flushL
  rw [ckBs_range H _ (Nat.le_refl _)]
  omega
theorem flushL_nil : flushL [] = [] := rfl
theorem SF.putFresh {g : Nat} {W W1 W2 : World} (h : SF g W W1) (hb : Below W1.heap.size W1 W2) (hlt : g < W1.heap.size) (x : Value) (dv hv : Value) (hM : Mkr W2 g dv hv) (hx : x.ownBlock = none ∨ ∃ b, x.ownBlock = some b ∧ W.heap.size ≤ b) (hr : rowOf W1 g = dv.ownBlock) :
    (∀ i, i < W.heap.size → i ≠ g → rowOf W g ≠ some i → (W2.setCell ⟨g, 0, none⟩ x).heap[i]? = W.heap[i]?) ∧ (W2.setCell ⟨g, 0, none⟩ x).os = W.os ∧ (W2.setCell ⟨g, 0, none⟩ x).tape = W.tape ∧ (W2.setCell ⟨g, 0, none⟩ x).output = W.output ∧ W.heap.size ≤ (W2.setCell ⟨g, 0, none⟩ x).heap.size :=
  ⟨fun i hi hg hrr => (Below.heap_setCell W2 ⟨g, 0, none⟩ x i hg).trans ((hb.block i (Nat.lt_of_lt_of_le hi h.size)).trans (h.keep i hi hg hrr)), hb.os.trans h.os, hb.tape.trans h.tape, hb.output.trans h.output, by simp [World.setCell]; exact Nat.le_trans h.size hb.size⟩
/-- W' is W but for the state g, its row, and what is new. -/
structure SG (g : Nat) (W W' : World) : Prop where
  os : W'.os = W.os
  tape : W'.tape = W.tape
  output : W'.output = W.output
  size : W.heap.size ≤ W'.heap.size
  keep : ∀ i, i < W.heap.size → i ≠ g → rowOf W g ≠ some i → W'.heap[i]? = W.heap[i]?
theorem SG.below {g B : Nat} {w W W' : World} (h : SG g W W') (hb : Below B w W) (hB : B ≤ W.heap.size) (hg : B ≤ g) (hr : ∀ i, rowOf W g = some i → B ≤ i) : Below B w W' :=
  ⟨h.os.trans hb.os, h.tape.trans hb.tape, h.output.trans hb.output, Nat.le_trans hb.size h.size, fun i hi => (h.keep i (by omega) (by omega) (fun e => by have := hr i e; omega)).trans (hb.block i hi)⟩
set_option maxRecDepth 8000 in
set_option maxHeartbeats 4000000 in
theorem copy_calls (W : World) (g B c : Nat) (A : Option Addr) (dv : Value) (D H : List Int) (at_ n : Nat) (hM : Mkr W g dv (.slice A H.length c)) (hO : Bs 5 W B dv D) (hB : B ≤ W.heap.size) (hH : ReadsInt W .u8 A H.length H) (hc : H.length ≤ c)
    (hsep : ∀ ad, A = some ad → ad.block < W.heap.size ∧ ad.block ≠ g ∧ dv.ownBlock ≠ some ad.block) (hmH : H.length ≤ 1073741824) (hmD : D.length ≤ 1073741824) (hat : at_ ≤ 1048576) (hn1 : 1 ≤ n) (hn : n ≤ 1048576) :
    Calls Try.prog 57 #[.pointer (some ⟨g, 0, none⟩), .int .i64 at_, .int .i64 n] W fun e W' => e = .returned (.tuple #[]) ∧ SG g W W' ∧ ∃ dv', Mkr W' g dv' (.slice none 0 0) ∧ Bs 5 W' B dv' (D ++ flushL H ++ copyL at_ n) := by
  have HFL := Lib.hid (flush_calls W g B c A dv D H hM hO hB hH hc hsep hmH hmD)
  have hgl := blk_lt hM
  have hfl := flushL_len H
  have hn0 : ¬ (n : Int) ≤ 0 := by omega
  have hmin : ¬ (16777215 : Int) < (n : Int) := by omega
  clear hM hO hH hsep
  go_enter Try.func57, Try.ntmps57
  go_wp2_with fail
  refine HFL.out.mono ?_
  rintro e w1 ⟨rfl, hs1, dv1, hm1, ho1⟩
  obtain ⟨A1, m1, c1, rfl, HO1, HN1⟩ := Bs.open_ ho1
  have hl1 := HN1.out
  rw [List.length_append] at hl1
  have HP := Lib.hid (putCopy_calls A1 c1 (D ++ flushL H) (at_ : Int) (n : Int) w1 (by rw [List.length_append, ← hl1]; exact own_reads' HO1.out) (by rw [List.length_append]; omega))
  have HPF := Lib.hid (show putCopyF (D ++ flushL H) (at_ : Int) (n : Int) = (D ++ flushL H ++ copyL at_ n, 0) by unfold putCopyF; rw [if_neg (by omega)])
  rw [HPF.out, List.length_append, ← hl1] at HP
  have HNB := Lib.hid (show at_ ≤ 1048576 ∧ n ≤ 1048576 ∧ 1 ≤ n from ⟨hat, hn, hn1⟩)
  clear HPF hat hn hn1 hmH hmD hfl hl1 hgl hc
  have k0 := hm1.c0
  have hsz1 := hs1.size
  have HS1 := Lib.hid hs1
  have HM1 := Lib.hid hm1
  clear hs1 hm1 ho1
  go_wp2_with fail
  refine wp_loop_rounds 2 ?_
  rw [rounds_succ]
  go_wp2_with fail
  refine HP.out.mono ?_
  rintro e w2 ⟨v2, rfl, ho2, hb2⟩
  have HM2 : Hid (Mkr w2 g (.slice A1 m1 c1) (.slice none 0 0)) := Lib.hid ((hb2.block g (blk_lt HM1.out)).trans HM1.out)
  have f2 := HM2.out.f 0
  have k2 := HM2.out.c0
  have HO2 := Lib.hid ho2
  have HB2 := Lib.hid hb2
  have hsz2 := hb2.size
  obtain ⟨A2, m2, c2, rfl, _, _⟩ := Bs.open_ ho2
  clear ho2 hb2
  go_wp2_with fail
  rw [rounds_succ]
  go_wp2_with fail
  have hrow : Bs 5 (w2.setCell ⟨g, 0, none⟩ (.slice A2 m2 c2)) w1.heap.size (.slice A2 m2 c2) (D ++ flushL H ++ copyL at_ n) := own_move HO2.out fun k hk => Below.heap_setCell w2 ⟨g, 0, none⟩ _ k (fun e => HM2.out.ne HO2.out (by rw [hk, show k = g from e]))
  refine bodyPost_end (results_none rfl _ _ _) rfl ⟨rfl, ?_, _, HM2.out.set0 _, own_weaken hrow (by omega)⟩
  exact ⟨HB2.out.os.trans HS1.out.os, HB2.out.tape.trans HS1.out.tape, HB2.out.output.trans HS1.out.output, by simp [World.setCell]; omega, fun i hi hg hr => (Below.heap_setCell w2 ⟨g, 0, none⟩ _ i hg).trans ((HB2.out.block i (by omega)).trans (HS1.out.keep i hi hg hr))⟩
end Go.Proofs.Ytiocipmnmjpkfaa
