-- Written by fprint.py, a program of this session, over the translation. Not trusted: Lean checks it.
import Derived.Test.YtkdklcamgcmifaaDoorPMx0
import Derived.Test.YtkdklcamgcmifaaDoorPMx1
import Derived.Test.YtkdklcamgcmifaaDoorPMx2
import Derived.Test.YtkdklcamgcmifaaDoorPMx3
namespace Go.Proofs.YtkdklcamgcmifaaDoor.PM
open Go.RowKit Go.Proofs.YtkdklcamgcmifaaDoorW.PrintWords Go.Proofs.YtkdklcamgcmifaaDoorW.PrintLast Go.Proofs.YtkdklcamgcmifaaDoorW.PrintMore
attribute [local go_sem] max2_int min2_int max_two min_two max_three min_three max_four min_four   -- for this text's walks alone
set_option linter.unusedVariables false
set_option linter.unusedSimpArgs false

/-! ### codicilref04_length: function 78 -/
def leastN (s : Nat) : Nat := if s = 285 then 258 else if s < 265 then s - 254 else 3 + (4 + (s - 261) % 4) * 2 ^ ((s - 261) / 4)
def moreN (s : Nat) : Nat := if s = 285 then 0 else if s < 265 then 0 else (s - 261) / 4
theorem len_table : ∀ s : Fin 286, 257 ≤ s.val → codicilref03_Length.f (s.val : Int) = some (((leastN s.val : Nat) : Int), ((moreN s.val : Nat) : Int)) := by decide +kernel
theorem len_pick : ∀ n : Fin 259, ∀ s : Fin 286, 3 ≤ n.val → lenS n.val ≤ s.val → ((leastN s.val ≤ n.val ∧ (s.val = 285 ∨ n.val < leastN s.val + 2 ^ moreN s.val)) ↔ s.val = lenS n.val) := by decide +kernel
theorem len_same : ∀ n : Fin 259, 3 ≤ n.val → 257 ≤ lenS n.val ∧ lenS n.val ≤ 285 ∧ lenX n.val = n.val - leastN (lenS n.val) ∧ lenE n.val = moreN (lenS n.val) ∧ lenX n.val < 2 ^ lenE n.val ∧ moreN (lenS n.val) ≤ 5 := by decide +kernel
theorem more_le : ∀ s : Fin 286, 257 ≤ s.val → moreN s.val ≤ 5 ∧ leastN s.val ≤ 300 := by decide +kernel
set_option maxRecDepth 8000 in
set_option maxHeartbeats 1000000 in
theorem rlength_calls (base g : Nat) (W : World) (T N n : Nat) (hw : Bt base g W T N) (hn0 : 3 ≤ n) (hn1 : n ≤ 258) (hN : N + 30 ≤ 1000000000000000) :
    Calls Tryd.prog 78 #[.pointer (some ⟨g, 0, none⟩), .int .i64 n] W fun e w' => BPuts base g W T N (lenV n) (lenN n) e w' := by
  have hW := Lib.hid hw
  have hsame := len_same ⟨n, by omega⟩ hn0
  have HS := Lib.hid hsame
  clear hw hsame
  go_enter Tryd.func78, Tryd.ntmps78
  go_wp2_with fail
  go_loopw [4] (fun i wr => ∃ s : Nat, lenS n ≤ s ∧ s ≤ 285 ∧ i = .int .i64 s ∧ ∃ m, wr = W.drewN m) (fun i _ => (intOf i).toNat)
  case atStart => exact ⟨285, HS.out.2.1, by omega, rfl, 0, rfl⟩
  case round =>
    obtain ⟨s, hs0, hs1, rfl, m, rfl⟩ := hrel
    have h257 : 257 ≤ s := Nat.le_trans HS.out.1 hs0
    have htab := len_table ⟨s, by omega⟩ h257
    have hmore := more_le ⟨s, by omega⟩ h257
    have hp := len_pick ⟨n, by omega⟩ ⟨s, by omega⟩ hn0 hs0
    simp only at htab hmore hp
    have HP := Lib.hid hp
    clear hp
    have HT := Lib.hid htab
    clear htab
    generalize hl : leastN s = l at *
    generalize hm : moreN s = q at *
    have hge : (257 : Int) ≤ (s : Int) := by omega
    go_wp2_with fail
    refine (codicilref03_Length.calls _ _ _ _ HT.out).mono ?_
    rintro e w1 ⟨rfl, hd⟩
    obtain ⟨m1, rfl⟩ := hd.out
    have hq0 : (0 : Int) ≤ (q : Int) := by omega
    have hq64 : (q : Int) < 64 := by omega
    have hq5 : q = 0 ∨ q = 1 ∨ q = 2 ∨ q = 3 ∨ q = 4 ∨ q = 5 := by omega
    have HL := Lib.hid hl
    have HM := Lib.hid hm
    clear hl hm
    rcases hq5 with rfl | rfl | rfl | rfl | rfl | rfl
    · go_wp2_with fail
      · have hs5 : s = 285 := by omega
        have hsn : s = lenS n := HP.out.1 ⟨by assumption, .inl hs5⟩
        have hE : lenE n = _ := HS.out.2.2.2.1.trans ((congrArg moreN hsn.symm).trans HM.out)
        have HE := Lib.hid hE
        have hX : (n : Int) - (l : Int) = ((lenX n : Nat) : Int) := by
          have h7 := HS.out.2.2.1
          rw [← hsn, HL.out] at h7
          have h8 : l ≤ n := by assumption
          omega
        have HX := Lib.hid hX
        have HSN := Lib.hid hsn
        have hsl := symN_le s
        have hsl2 := symN_le 285
        clear hE hX hsn
        refine (rsymbol_calls base g _ T N 285 (hW.out.drewN _) (by omega) (by omega)).mono ?_
        rintro e w2 ⟨rfl, hs2, hw2⟩
        have HS2 := Lib.hid hs2
        have HW2 := Lib.hid hw2
        clear hs2 hw2
        go_wp2_with fail
        rw [HX.out]
        refine (rnumber_calls base g w2 _ _ (lenX n) 0 HW2.out (by have h7 := HS.out.2.2.2.2.1; rw [HE.out] at h7; exact h7) (by omega) (by omega)).mono ?_
        rintro e w3 ⟨rfl, hs3, hw3⟩
        have HS3 := Lib.hid hs3
        have HW3 := Lib.hid hw3
        clear hs3 hw3
        go_wp2_with fail
        refine bodyPost_ret (results_none rfl _ _ _) rfl ?_
        have hfin := BPuts.mk' (e := .returned (.tuple #[])) ⟨rfl, ((SF.refl g W).drewN _).trans HS2.out, HW2.out⟩ ⟨rfl, HS3.out, HW3.out⟩
        unfold lenV lenN
        rw [HE.out, ← HSN.out]
        rw [hs5]
        exact hfin
      · have hor : ((s : Int) == 285) = true ∨ (n : Int) < (l : Int) + 1 := by assumption
        have hor2 : s = 285 ∨ n < l + 2 ^ 0 := by
          rcases hor with h | h
          · exact .inl (by simp at h; omega)
          · exact .inr (by omega)
        have hsn : s = lenS n := HP.out.1 ⟨by assumption, hor2⟩
        have hE : lenE n = _ := HS.out.2.2.2.1.trans ((congrArg moreN hsn.symm).trans HM.out)
        have HE := Lib.hid hE
        have hX : (n : Int) - (l : Int) = ((lenX n : Nat) : Int) := by
          have h7 := HS.out.2.2.1
          rw [← hsn, HL.out] at h7
          have h8 : l ≤ n := by assumption
          omega
        have HX := Lib.hid hX
        have HSN := Lib.hid hsn
        have hsl := symN_le s
        have hsl2 := symN_le 285
        clear hE hX hsn
        refine (rsymbol_calls base g _ T N s (hW.out.drewN _) (by omega) (by omega)).mono ?_
        rintro e w2 ⟨rfl, hs2, hw2⟩
        have HS2 := Lib.hid hs2
        have HW2 := Lib.hid hw2
        clear hs2 hw2
        go_wp2_with fail
        rw [HX.out]
        refine (rnumber_calls base g w2 _ _ (lenX n) 0 HW2.out (by have h7 := HS.out.2.2.2.2.1; rw [HE.out] at h7; exact h7) (by omega) (by omega)).mono ?_
        rintro e w3 ⟨rfl, hs3, hw3⟩
        have HS3 := Lib.hid hs3
        have HW3 := Lib.hid hw3
        clear hs3 hw3
        go_wp2_with fail
        refine bodyPost_ret (results_none rfl _ _ _) rfl ?_
        have hfin := BPuts.mk' (e := .returned (.tuple #[])) ⟨rfl, ((SF.refl g W).drewN _).trans HS2.out, HW2.out⟩ ⟨rfl, HS3.out, HW3.out⟩
        unfold lenV lenN
        rw [HE.out, ← HSN.out]
        exact hfin
      · have hno : s ≠ lenS n := fun e => by
          have h9 := HP.out.2 e
          omega
        go_roundw
        case rel => exact ⟨s - 1, by omega, by omega, by congr 1; omega, m + m1, rfl⟩
        case measure => simp [intOf] <;> omega
      · have hno : s ≠ lenS n := fun e => by
          have h9 := HP.out.2 e
          omega
        go_roundw
        case rel => exact ⟨s - 1, by omega, by omega, by congr 1; omega, m + m1, rfl⟩
        case measure => simp [intOf] <;> omega
    · go_wp2_with fail
      · have hs5 : s = 285 := by omega
        have hsn : s = lenS n := HP.out.1 ⟨by assumption, .inl hs5⟩
        have hE : lenE n = _ := HS.out.2.2.2.1.trans ((congrArg moreN hsn.symm).trans HM.out)
        have HE := Lib.hid hE
        have hX : (n : Int) - (l : Int) = ((lenX n : Nat) : Int) := by
          have h7 := HS.out.2.2.1
          rw [← hsn, HL.out] at h7
          have h8 : l ≤ n := by assumption
          omega
        have HX := Lib.hid hX
        have HSN := Lib.hid hsn
        have hsl := symN_le s
        have hsl2 := symN_le 285
        clear hE hX hsn
        refine (rsymbol_calls base g _ T N 285 (hW.out.drewN _) (by omega) (by omega)).mono ?_
        rintro e w2 ⟨rfl, hs2, hw2⟩
        have HS2 := Lib.hid hs2
        have HW2 := Lib.hid hw2
        clear hs2 hw2
        go_wp2_with fail
        rw [HX.out]
        refine (rnumber_calls base g w2 _ _ (lenX n) 1 HW2.out (by have h7 := HS.out.2.2.2.2.1; rw [HE.out] at h7; exact h7) (by omega) (by omega)).mono ?_
        rintro e w3 ⟨rfl, hs3, hw3⟩
        have HS3 := Lib.hid hs3
        have HW3 := Lib.hid hw3
        clear hs3 hw3
        go_wp2_with fail
        refine bodyPost_ret (results_none rfl _ _ _) rfl ?_
        have hfin := BPuts.mk' (e := .returned (.tuple #[])) ⟨rfl, ((SF.refl g W).drewN _).trans HS2.out, HW2.out⟩ ⟨rfl, HS3.out, HW3.out⟩
        unfold lenV lenN
        rw [HE.out, ← HSN.out]
        rw [hs5]
        exact hfin
      · have hor : ((s : Int) == 285) = true ∨ (n : Int) < (l : Int) + 2 := by assumption
        have hor2 : s = 285 ∨ n < l + 2 ^ 1 := by
          rcases hor with h | h
          · exact .inl (by simp at h; omega)
          · exact .inr (by omega)
        have hsn : s = lenS n := HP.out.1 ⟨by assumption, hor2⟩
        have hE : lenE n = _ := HS.out.2.2.2.1.trans ((congrArg moreN hsn.symm).trans HM.out)
        have HE := Lib.hid hE
        have hX : (n : Int) - (l : Int) = ((lenX n : Nat) : Int) := by
          have h7 := HS.out.2.2.1
          rw [← hsn, HL.out] at h7
          have h8 : l ≤ n := by assumption
          omega
        have HX := Lib.hid hX
        have HSN := Lib.hid hsn
        have hsl := symN_le s
        have hsl2 := symN_le 285
        clear hE hX hsn
        refine (rsymbol_calls base g _ T N s (hW.out.drewN _) (by omega) (by omega)).mono ?_
        rintro e w2 ⟨rfl, hs2, hw2⟩
        have HS2 := Lib.hid hs2
        have HW2 := Lib.hid hw2
        clear hs2 hw2
        go_wp2_with fail
        rw [HX.out]
        refine (rnumber_calls base g w2 _ _ (lenX n) 1 HW2.out (by have h7 := HS.out.2.2.2.2.1; rw [HE.out] at h7; exact h7) (by omega) (by omega)).mono ?_
        rintro e w3 ⟨rfl, hs3, hw3⟩
        have HS3 := Lib.hid hs3
        have HW3 := Lib.hid hw3
        clear hs3 hw3
        go_wp2_with fail
        refine bodyPost_ret (results_none rfl _ _ _) rfl ?_
        have hfin := BPuts.mk' (e := .returned (.tuple #[])) ⟨rfl, ((SF.refl g W).drewN _).trans HS2.out, HW2.out⟩ ⟨rfl, HS3.out, HW3.out⟩
        unfold lenV lenN
        rw [HE.out, ← HSN.out]
        exact hfin
      · have hno : s ≠ lenS n := fun e => by
          have h9 := HP.out.2 e
          omega
        go_roundw
        case rel => exact ⟨s - 1, by omega, by omega, by congr 1; omega, m + m1, rfl⟩
        case measure => simp [intOf] <;> omega
      · have hno : s ≠ lenS n := fun e => by
          have h9 := HP.out.2 e
          omega
        go_roundw
        case rel => exact ⟨s - 1, by omega, by omega, by congr 1; omega, m + m1, rfl⟩
        case measure => simp [intOf] <;> omega
    · go_wp2_with fail
      · have hs5 : s = 285 := by omega
        have hsn : s = lenS n := HP.out.1 ⟨by assumption, .inl hs5⟩
        have hE : lenE n = _ := HS.out.2.2.2.1.trans ((congrArg moreN hsn.symm).trans HM.out)
        have HE := Lib.hid hE
        have hX : (n : Int) - (l : Int) = ((lenX n : Nat) : Int) := by
          have h7 := HS.out.2.2.1
          rw [← hsn, HL.out] at h7
          have h8 : l ≤ n := by assumption
          omega
        have HX := Lib.hid hX
        have HSN := Lib.hid hsn
        have hsl := symN_le s
        have hsl2 := symN_le 285
        clear hE hX hsn
        refine (rsymbol_calls base g _ T N 285 (hW.out.drewN _) (by omega) (by omega)).mono ?_
        rintro e w2 ⟨rfl, hs2, hw2⟩
        have HS2 := Lib.hid hs2
        have HW2 := Lib.hid hw2
        clear hs2 hw2
        go_wp2_with fail
        rw [HX.out]
        refine (rnumber_calls base g w2 _ _ (lenX n) 2 HW2.out (by have h7 := HS.out.2.2.2.2.1; rw [HE.out] at h7; exact h7) (by omega) (by omega)).mono ?_
        rintro e w3 ⟨rfl, hs3, hw3⟩
        have HS3 := Lib.hid hs3
        have HW3 := Lib.hid hw3
        clear hs3 hw3
        go_wp2_with fail
        refine bodyPost_ret (results_none rfl _ _ _) rfl ?_
        have hfin := BPuts.mk' (e := .returned (.tuple #[])) ⟨rfl, ((SF.refl g W).drewN _).trans HS2.out, HW2.out⟩ ⟨rfl, HS3.out, HW3.out⟩
        unfold lenV lenN
        rw [HE.out, ← HSN.out]
        rw [hs5]
        exact hfin
      · have hor : ((s : Int) == 285) = true ∨ (n : Int) < (l : Int) + 4 := by assumption
        have hor2 : s = 285 ∨ n < l + 2 ^ 2 := by
          rcases hor with h | h
          · exact .inl (by simp at h; omega)
          · exact .inr (by omega)
        have hsn : s = lenS n := HP.out.1 ⟨by assumption, hor2⟩
        have hE : lenE n = _ := HS.out.2.2.2.1.trans ((congrArg moreN hsn.symm).trans HM.out)
        have HE := Lib.hid hE
        have hX : (n : Int) - (l : Int) = ((lenX n : Nat) : Int) := by
          have h7 := HS.out.2.2.1
          rw [← hsn, HL.out] at h7
          have h8 : l ≤ n := by assumption
          omega
        have HX := Lib.hid hX
        have HSN := Lib.hid hsn
        have hsl := symN_le s
        have hsl2 := symN_le 285
        clear hE hX hsn
        refine (rsymbol_calls base g _ T N s (hW.out.drewN _) (by omega) (by omega)).mono ?_
        rintro e w2 ⟨rfl, hs2, hw2⟩
        have HS2 := Lib.hid hs2
        have HW2 := Lib.hid hw2
        clear hs2 hw2
        go_wp2_with fail
        rw [HX.out]
        refine (rnumber_calls base g w2 _ _ (lenX n) 2 HW2.out (by have h7 := HS.out.2.2.2.2.1; rw [HE.out] at h7; exact h7) (by omega) (by omega)).mono ?_
        rintro e w3 ⟨rfl, hs3, hw3⟩
        have HS3 := Lib.hid hs3
        have HW3 := Lib.hid hw3
        clear hs3 hw3
        go_wp2_with fail
        refine bodyPost_ret (results_none rfl _ _ _) rfl ?_
        have hfin := BPuts.mk' (e := .returned (.tuple #[])) ⟨rfl, ((SF.refl g W).drewN _).trans HS2.out, HW2.out⟩ ⟨rfl, HS3.out, HW3.out⟩
        unfold lenV lenN
        rw [HE.out, ← HSN.out]
        exact hfin
      · have hno : s ≠ lenS n := fun e => by
          have h9 := HP.out.2 e
          omega
        go_roundw
        case rel => exact ⟨s - 1, by omega, by omega, by congr 1; omega, m + m1, rfl⟩
        case measure => simp [intOf] <;> omega
      · have hno : s ≠ lenS n := fun e => by
          have h9 := HP.out.2 e
          omega
        go_roundw
        case rel => exact ⟨s - 1, by omega, by omega, by congr 1; omega, m + m1, rfl⟩
        case measure => simp [intOf] <;> omega
    · go_wp2_with fail
      · have hs5 : s = 285 := by omega
        have hsn : s = lenS n := HP.out.1 ⟨by assumption, .inl hs5⟩
        have hE : lenE n = _ := HS.out.2.2.2.1.trans ((congrArg moreN hsn.symm).trans HM.out)
        have HE := Lib.hid hE
        have hX : (n : Int) - (l : Int) = ((lenX n : Nat) : Int) := by
          have h7 := HS.out.2.2.1
          rw [← hsn, HL.out] at h7
          have h8 : l ≤ n := by assumption
          omega
        have HX := Lib.hid hX
        have HSN := Lib.hid hsn
        have hsl := symN_le s
        have hsl2 := symN_le 285
        clear hE hX hsn
        refine (rsymbol_calls base g _ T N 285 (hW.out.drewN _) (by omega) (by omega)).mono ?_
        rintro e w2 ⟨rfl, hs2, hw2⟩
        have HS2 := Lib.hid hs2
        have HW2 := Lib.hid hw2
        clear hs2 hw2
        go_wp2_with fail
        rw [HX.out]
        refine (rnumber_calls base g w2 _ _ (lenX n) 3 HW2.out (by have h7 := HS.out.2.2.2.2.1; rw [HE.out] at h7; exact h7) (by omega) (by omega)).mono ?_
        rintro e w3 ⟨rfl, hs3, hw3⟩
        have HS3 := Lib.hid hs3
        have HW3 := Lib.hid hw3
        clear hs3 hw3
        go_wp2_with fail
        refine bodyPost_ret (results_none rfl _ _ _) rfl ?_
        have hfin := BPuts.mk' (e := .returned (.tuple #[])) ⟨rfl, ((SF.refl g W).drewN _).trans HS2.out, HW2.out⟩ ⟨rfl, HS3.out, HW3.out⟩
        unfold lenV lenN
        rw [HE.out, ← HSN.out]
        rw [hs5]
        exact hfin
      · have hor : ((s : Int) == 285) = true ∨ (n : Int) < (l : Int) + 8 := by assumption
        have hor2 : s = 285 ∨ n < l + 2 ^ 3 := by
          rcases hor with h | h
          · exact .inl (by simp at h; omega)
          · exact .inr (by omega)
        have hsn : s = lenS n := HP.out.1 ⟨by assumption, hor2⟩
        have hE : lenE n = _ := HS.out.2.2.2.1.trans ((congrArg moreN hsn.symm).trans HM.out)
        have HE := Lib.hid hE
        have hX : (n : Int) - (l : Int) = ((lenX n : Nat) : Int) := by
          have h7 := HS.out.2.2.1
          rw [← hsn, HL.out] at h7
          have h8 : l ≤ n := by assumption
          omega
        have HX := Lib.hid hX
        have HSN := Lib.hid hsn
        have hsl := symN_le s
        have hsl2 := symN_le 285
        clear hE hX hsn
        refine (rsymbol_calls base g _ T N s (hW.out.drewN _) (by omega) (by omega)).mono ?_
        rintro e w2 ⟨rfl, hs2, hw2⟩
        have HS2 := Lib.hid hs2
        have HW2 := Lib.hid hw2
        clear hs2 hw2
        go_wp2_with fail
        rw [HX.out]
        refine (rnumber_calls base g w2 _ _ (lenX n) 3 HW2.out (by have h7 := HS.out.2.2.2.2.1; rw [HE.out] at h7; exact h7) (by omega) (by omega)).mono ?_
        rintro e w3 ⟨rfl, hs3, hw3⟩
        have HS3 := Lib.hid hs3
        have HW3 := Lib.hid hw3
        clear hs3 hw3
        go_wp2_with fail
        refine bodyPost_ret (results_none rfl _ _ _) rfl ?_
        have hfin := BPuts.mk' (e := .returned (.tuple #[])) ⟨rfl, ((SF.refl g W).drewN _).trans HS2.out, HW2.out⟩ ⟨rfl, HS3.out, HW3.out⟩
        unfold lenV lenN
        rw [HE.out, ← HSN.out]
        exact hfin
      · have hno : s ≠ lenS n := fun e => by
          have h9 := HP.out.2 e
          omega
        go_roundw
        case rel => exact ⟨s - 1, by omega, by omega, by congr 1; omega, m + m1, rfl⟩
        case measure => simp [intOf] <;> omega
      · have hno : s ≠ lenS n := fun e => by
          have h9 := HP.out.2 e
          omega
        go_roundw
        case rel => exact ⟨s - 1, by omega, by omega, by congr 1; omega, m + m1, rfl⟩
        case measure => simp [intOf] <;> omega
    · go_wp2_with fail
      · have hs5 : s = 285 := by omega
        have hsn : s = lenS n := HP.out.1 ⟨by assumption, .inl hs5⟩
        have hE : lenE n = _ := HS.out.2.2.2.1.trans ((congrArg moreN hsn.symm).trans HM.out)
        have HE := Lib.hid hE
        have hX : (n : Int) - (l : Int) = ((lenX n : Nat) : Int) := by
          have h7 := HS.out.2.2.1
          rw [← hsn, HL.out] at h7
          have h8 : l ≤ n := by assumption
          omega
        have HX := Lib.hid hX
        have HSN := Lib.hid hsn
        have hsl := symN_le s
        have hsl2 := symN_le 285
        clear hE hX hsn
        refine (rsymbol_calls base g _ T N 285 (hW.out.drewN _) (by omega) (by omega)).mono ?_
        rintro e w2 ⟨rfl, hs2, hw2⟩
        have HS2 := Lib.hid hs2
        have HW2 := Lib.hid hw2
        clear hs2 hw2
        go_wp2_with fail
        rw [HX.out]
        refine (rnumber_calls base g w2 _ _ (lenX n) 4 HW2.out (by have h7 := HS.out.2.2.2.2.1; rw [HE.out] at h7; exact h7) (by omega) (by omega)).mono ?_
        rintro e w3 ⟨rfl, hs3, hw3⟩
        have HS3 := Lib.hid hs3
        have HW3 := Lib.hid hw3
        clear hs3 hw3
        go_wp2_with fail
        refine bodyPost_ret (results_none rfl _ _ _) rfl ?_
        have hfin := BPuts.mk' (e := .returned (.tuple #[])) ⟨rfl, ((SF.refl g W).drewN _).trans HS2.out, HW2.out⟩ ⟨rfl, HS3.out, HW3.out⟩
        unfold lenV lenN
        rw [HE.out, ← HSN.out]
        rw [hs5]
        exact hfin
      · have hor : ((s : Int) == 285) = true ∨ (n : Int) < (l : Int) + 16 := by assumption
        have hor2 : s = 285 ∨ n < l + 2 ^ 4 := by
          rcases hor with h | h
          · exact .inl (by simp at h; omega)
          · exact .inr (by omega)
        have hsn : s = lenS n := HP.out.1 ⟨by assumption, hor2⟩
        have hE : lenE n = _ := HS.out.2.2.2.1.trans ((congrArg moreN hsn.symm).trans HM.out)
        have HE := Lib.hid hE
        have hX : (n : Int) - (l : Int) = ((lenX n : Nat) : Int) := by
          have h7 := HS.out.2.2.1
          rw [← hsn, HL.out] at h7
          have h8 : l ≤ n := by assumption
          omega
        have HX := Lib.hid hX
        have HSN := Lib.hid hsn
        have hsl := symN_le s
        have hsl2 := symN_le 285
        clear hE hX hsn
        refine (rsymbol_calls base g _ T N s (hW.out.drewN _) (by omega) (by omega)).mono ?_
        rintro e w2 ⟨rfl, hs2, hw2⟩
        have HS2 := Lib.hid hs2
        have HW2 := Lib.hid hw2
        clear hs2 hw2
        go_wp2_with fail
        rw [HX.out]
        refine (rnumber_calls base g w2 _ _ (lenX n) 4 HW2.out (by have h7 := HS.out.2.2.2.2.1; rw [HE.out] at h7; exact h7) (by omega) (by omega)).mono ?_
        rintro e w3 ⟨rfl, hs3, hw3⟩
        have HS3 := Lib.hid hs3
        have HW3 := Lib.hid hw3
        clear hs3 hw3
        go_wp2_with fail
        refine bodyPost_ret (results_none rfl _ _ _) rfl ?_
        have hfin := BPuts.mk' (e := .returned (.tuple #[])) ⟨rfl, ((SF.refl g W).drewN _).trans HS2.out, HW2.out⟩ ⟨rfl, HS3.out, HW3.out⟩
        unfold lenV lenN
        rw [HE.out, ← HSN.out]
        exact hfin
      · have hno : s ≠ lenS n := fun e => by
          have h9 := HP.out.2 e
          omega
        go_roundw
        case rel => exact ⟨s - 1, by omega, by omega, by congr 1; omega, m + m1, rfl⟩
        case measure => simp [intOf] <;> omega
      · have hno : s ≠ lenS n := fun e => by
          have h9 := HP.out.2 e
          omega
        go_roundw
        case rel => exact ⟨s - 1, by omega, by omega, by congr 1; omega, m + m1, rfl⟩
        case measure => simp [intOf] <;> omega
    · go_wp2_with fail
      · have hs5 : s = 285 := by omega
        have hsn : s = lenS n := HP.out.1 ⟨by assumption, .inl hs5⟩
        have hE : lenE n = _ := HS.out.2.2.2.1.trans ((congrArg moreN hsn.symm).trans HM.out)
        have HE := Lib.hid hE
        have hX : (n : Int) - (l : Int) = ((lenX n : Nat) : Int) := by
          have h7 := HS.out.2.2.1
          rw [← hsn, HL.out] at h7
          have h8 : l ≤ n := by assumption
          omega
        have HX := Lib.hid hX
        have HSN := Lib.hid hsn
        have hsl := symN_le s
        have hsl2 := symN_le 285
        clear hE hX hsn
        refine (rsymbol_calls base g _ T N 285 (hW.out.drewN _) (by omega) (by omega)).mono ?_
        rintro e w2 ⟨rfl, hs2, hw2⟩
        have HS2 := Lib.hid hs2
        have HW2 := Lib.hid hw2
        clear hs2 hw2
        go_wp2_with fail
        rw [HX.out]
        refine (rnumber_calls base g w2 _ _ (lenX n) 5 HW2.out (by have h7 := HS.out.2.2.2.2.1; rw [HE.out] at h7; exact h7) (by omega) (by omega)).mono ?_
        rintro e w3 ⟨rfl, hs3, hw3⟩
        have HS3 := Lib.hid hs3
        have HW3 := Lib.hid hw3
        clear hs3 hw3
        go_wp2_with fail
        refine bodyPost_ret (results_none rfl _ _ _) rfl ?_
        have hfin := BPuts.mk' (e := .returned (.tuple #[])) ⟨rfl, ((SF.refl g W).drewN _).trans HS2.out, HW2.out⟩ ⟨rfl, HS3.out, HW3.out⟩
        unfold lenV lenN
        rw [HE.out, ← HSN.out]
        rw [hs5]
        exact hfin
      · have hor : ((s : Int) == 285) = true ∨ (n : Int) < (l : Int) + 32 := by assumption
        have hor2 : s = 285 ∨ n < l + 2 ^ 5 := by
          rcases hor with h | h
          · exact .inl (by simp at h; omega)
          · exact .inr (by omega)
        have hsn : s = lenS n := HP.out.1 ⟨by assumption, hor2⟩
        have hE : lenE n = _ := HS.out.2.2.2.1.trans ((congrArg moreN hsn.symm).trans HM.out)
        have HE := Lib.hid hE
        have hX : (n : Int) - (l : Int) = ((lenX n : Nat) : Int) := by
          have h7 := HS.out.2.2.1
          rw [← hsn, HL.out] at h7
          have h8 : l ≤ n := by assumption
          omega
        have HX := Lib.hid hX
        have HSN := Lib.hid hsn
        have hsl := symN_le s
        have hsl2 := symN_le 285
        clear hE hX hsn
        refine (rsymbol_calls base g _ T N s (hW.out.drewN _) (by omega) (by omega)).mono ?_
        rintro e w2 ⟨rfl, hs2, hw2⟩
        have HS2 := Lib.hid hs2
        have HW2 := Lib.hid hw2
        clear hs2 hw2
        go_wp2_with fail
        rw [HX.out]
        refine (rnumber_calls base g w2 _ _ (lenX n) 5 HW2.out (by have h7 := HS.out.2.2.2.2.1; rw [HE.out] at h7; exact h7) (by omega) (by omega)).mono ?_
        rintro e w3 ⟨rfl, hs3, hw3⟩
        have HS3 := Lib.hid hs3
        have HW3 := Lib.hid hw3
        clear hs3 hw3
        go_wp2_with fail
        refine bodyPost_ret (results_none rfl _ _ _) rfl ?_
        have hfin := BPuts.mk' (e := .returned (.tuple #[])) ⟨rfl, ((SF.refl g W).drewN _).trans HS2.out, HW2.out⟩ ⟨rfl, HS3.out, HW3.out⟩
        unfold lenV lenN
        rw [HE.out, ← HSN.out]
        exact hfin
      · have hno : s ≠ lenS n := fun e => by
          have h9 := HP.out.2 e
          omega
        go_roundw
        case rel => exact ⟨s - 1, by omega, by omega, by congr 1; omega, m + m1, rfl⟩
        case measure => simp [intOf] <;> omega
      · have hno : s ≠ lenS n := fun e => by
          have h9 := HP.out.2 e
          omega
        go_roundw
        case rel => exact ⟨s - 1, by omega, by omega, by congr 1; omega, m + m1, rfl⟩
        case measure => simp [intOf] <;> omega


/-! ### codicilref04_distance: function 79 -/
def dleastN (s : Nat) : Nat := if s < 4 then s + 1 else 1 + (2 + s % 2) * 2 ^ (s / 2 - 1)
def dmoreN (s : Nat) : Nat := if s < 4 then 0 else s / 2 - 1
theorem dis_table : ∀ s : Fin 30, codicilref03_Distance.f (s.val : Int) = some (((dleastN s.val : Nat) : Int), ((dmoreN s.val : Nat) : Int)) := by decide +kernel
/-- The distance's symbol is where it lies. -/
theorem dis_same (n : Nat) (h0 : 1 ≤ n) (h1 : n ≤ 32768) : disS n < 30 ∧ dleastN (disS n) ≤ n ∧ n < dleastN (disS n) + 2 ^ dmoreN (disS n) ∧ disX n = n - dleastN (disS n) ∧ disE n = dmoreN (disS n) := by
  by_cases h : n - 1 < 4
  · have e : disS n = n - 1 := by unfold disS; rw [if_pos h]
    have e2 : disX n = 0 := by unfold disX; rw [if_pos h]
    have e3 : disE n = 0 := by unfold disE; rw [if_pos h]
    rw [e, e2, e3]
    unfold dleastN dmoreN
    rw [if_pos h, if_pos h]
    omega
  · have hex := exN_eq (n - 1) 2 2 (by omega) (by omega)
    have e : disS n = 2 * exN (n - 1) 2 + 2 + (n - 1) / 2 ^ exN (n - 1) 2 % 2 := by unfold disS; rw [if_neg h]
    have e2 : disX n = (n - 1) % 2 ^ exN (n - 1) 2 := by unfold disX; rw [if_neg h]
    have e3 : disE n = exN (n - 1) 2 := by unfold disE; rw [if_neg h]
    rw [e, e2, e3]
    obtain ⟨v, hv⟩ : ∃ v, v = n - 1 := ⟨_, rfl⟩
    rw [← hv] at hex ⊢
    generalize exN v 2 = x at *
    have hp : 0 < 2 ^ x := Nat.pow_pos (by decide)
    have hx1 : 1 ≤ x := by
      rcases Nat.eq_zero_or_pos x with rfl | h9
      · have := hex.2.2; omega
      · exact h9
    have hx13 : x ≤ 13 := by
      rcases Nat.lt_or_ge 13 x with h9 | h9
      · have h8 : 2 ^ 15 ≤ 2 ^ (x + 2 - 1) := Nat.pow_le_pow_right (by decide) (by omega)
        have := hex.2.1
        omega
      · exact h9
    have hdiv : 2 ≤ v / 2 ^ x ∧ v / 2 ^ x < 4 := by
      constructor
      · rw [Nat.le_div_iff_mul_le hp, show 2 * 2 ^ x = 2 ^ (x + 2 - 1) from by rw [show x + 2 - 1 = 1 + x from by omega, Nat.pow_add]]
        exact hex.2.1
      · rw [Nat.div_lt_iff_lt_mul hp, show 4 * 2 ^ x = 2 ^ (x + 2) from by rw [show x + 2 = 2 + x from by omega, Nat.pow_add]]
        exact hex.2.2
    have hdm := Nat.div_add_mod v (2 ^ x)
    have hmlt : v % 2 ^ x < 2 ^ x := Nat.mod_lt _ hp
    obtain ⟨b, hb, hb2⟩ : ∃ b, v / 2 ^ x = 2 + b ∧ b < 2 := ⟨v / 2 ^ x - 2, by omega, by omega⟩
    rw [hb] at hdm ⊢
    rw [show (2 + b) % 2 = b from by omega]
    have hs4 : ¬ 2 * x + 2 + b < 4 := by omega
    have hs2 : (2 * x + 2 + b) % 2 = b := by omega
    have hs3 : (2 * x + 2 + b) / 2 - 1 = x := by omega
    unfold dleastN dmoreN
    rw [if_neg hs4, if_neg hs4, hs2, hs3]
    rw [Nat.mul_comm (2 + b)]
    generalize 2 ^ x * (2 + b) = y at *
    generalize v % 2 ^ x = z at *
    generalize 2 ^ x = u at *
    omega
theorem wrap_spell (l q : Nat) (hl : l ≤ 1000000) (hq : q ≤ 20) : wrap64 ((l : Int) + wrap64 ((2 : Int) ^ q)) = ((l + 2 ^ q : Nat) : Int) := by
  have h2 : 2 ^ q ≤ 2 ^ 20 := Nat.pow_le_pow_right (by decide) hq
  have h3 : (2 : Int) ^ q = ((2 ^ q : Nat) : Int) := by simp
  rw [h3]
  generalize 2 ^ q = u at h2 ⊢
  simp only [wrap64]
  omega
theorem dis_mono : ∀ s t : Fin 30, s.val < t.val → dleastN s.val + 2 ^ dmoreN s.val ≤ dleastN t.val := by decide +kernel
theorem dmore_le : ∀ s : Fin 30, dmoreN s.val ≤ 13 ∧ dleastN s.val ≤ 32768 := by decide +kernel
set_option maxRecDepth 8000 in
set_option maxHeartbeats 1000000 in
theorem rdistance_calls (base g : Nat) (W : World) (T N n : Nat) (hw : Bt base g W T N) (hn0 : 1 ≤ n) (hn1 : n ≤ 32768) (hN : N + 30 ≤ 1000000000000000) :
    Calls Tryd.prog 79 #[.pointer (some ⟨g, 0, none⟩), .int .i64 n] W fun e w' => BPuts base g W T N (disV n) (disN n) e w' := by
  have hW := Lib.hid hw
  have HS := Lib.hid (dis_same n hn0 hn1)
  clear hw
  go_enter Tryd.func79, Tryd.ntmps79
  go_wp2_with fail
  go_loopw [4] (fun i wr => ∃ s : Nat, s ≤ disS n ∧ i = .int .i64 s ∧ ∃ m, wr = W.drewN m) (fun i _ => 30 - (intOf i).toNat)
  case atStart => exact ⟨0, by omega, rfl, 0, rfl⟩
  case round =>
    obtain ⟨s, hs0, rfl, m, rfl⟩ := hrel
    have h30 : s < 30 := by have := HS.out.1; omega
    have htab := dis_table ⟨s, h30⟩
    have hmore := dmore_le ⟨s, h30⟩
    simp only at htab hmore
    have HT := Lib.hid htab
    clear htab
    have HM := Lib.hid (show s < disS n → dleastN s + 2 ^ dmoreN s ≤ n from fun h => Nat.le_trans (dis_mono ⟨s, h30⟩ ⟨disS n, HS.out.1⟩ h) HS.out.2.1)
    generalize hl : dleastN s = l at *
    generalize hq : dmoreN s = q at *
    have HL := Lib.hid hl
    have HQ := Lib.hid hq
    clear hl hq
    have hq0 : (0 : Int) ≤ (q : Int) := by omega
    have hq64 : (q : Int) < 64 := by omega
    have hi30 : (s : Int) < 30 := by omega
    go_wp2_with fail
    refine (codicilref03_Distance.calls _ _ _ _ HT.out).mono ?_
    rintro e w1 ⟨rfl, hd⟩
    obtain ⟨m1, rfl⟩ := hd.out
    go_wp2_with fail
    · have h9 : (n : Int) < wrap64 ((l : Int) + wrap64 ((2 : Int) ^ q)) := by assumption
      rw [wrap_spell l q (by omega) (by omega)] at h9
      have hle : l ≤ n := by assumption
      have hsn : s = disS n := by
        rcases Nat.lt_or_ge s (disS n) with h | h
        · have := HM.out h
          omega
        · omega
      have hE : disE n = q := by rw [HS.out.2.2.2.2, ← hsn, HQ.out]
      have hX : (n : Int) - (l : Int) = ((disX n : Nat) : Int) := by
        have h7 := HS.out.2.2.2.1
        rw [← hsn, HL.out] at h7
        omega
      have hXlt : disX n < 2 ^ q := by
        have h7 := HS.out.2.2.2.1
        rw [← hsn, HL.out] at h7
        omega
      have HE := Lib.hid hE
      have HX := Lib.hid hX
      have HXL := Lib.hid hXlt
      have HSN := Lib.hid hsn
      clear hE hX hsn hXlt h9
      refine (rcode_calls base g _ T N s 5 (hW.out.drewN _) (by omega) (by omega) (by omega)).mono ?_
      rintro e w2 ⟨rfl, hs2, hw2⟩
      have HS2 := Lib.hid hs2
      have HW2 := Lib.hid hw2
      clear hs2 hw2
      go_wp2_with fail
      rw [HX.out]
      refine (rnumber_calls base g w2 _ _ (disX n) q HW2.out HXL.out (by omega) (by omega)).mono ?_
      rintro e w3 ⟨rfl, hs3, hw3⟩
      have HS3 := Lib.hid hs3
      have HW3 := Lib.hid hw3
      clear hs3 hw3
      go_wp2_with fail
      refine bodyPost_ret (results_none rfl _ _ _) rfl ?_
      have hfin := BPuts.mk' (e := .returned (.tuple #[])) ⟨rfl, ((SF.refl g W).drewN _).trans HS2.out, HW2.out⟩ ⟨rfl, HS3.out, HW3.out⟩
      unfold disV disN
      rw [HE.out, ← HSN.out]
      exact hfin
    · have h9 : wrap64 ((l : Int) + wrap64 ((2 : Int) ^ q)) ≤ (n : Int) := by assumption
      rw [wrap_spell l q (by omega) (by omega)] at h9
      have hno : s ≠ disS n := fun e => by
        have h7 := HS.out.2.2.1
        rw [← e, HL.out, HQ.out] at h7
        omega
      go_roundw
      case rel => exact ⟨s + 1, by omega, by go_num, m + m1, rfl⟩
      case measure => simp [intOf] <;> omega
    · have h9 : ¬ l ≤ n := by assumption
      have hno : s ≠ disS n := fun e => by
        have h7 := HS.out.2.1
        rw [← e, HL.out] at h7
        omega
      go_roundw
      case rel => exact ⟨s + 1, by omega, by go_num, m + m1, rfl⟩
      case measure => simp [intOf] <;> omega


/-! ### codicilref04_Fixed: function 65 -/
theorem wrap_id (x : Int) (h0 : -9223372036854775808 ≤ x) (h1 : x ≤ 9223372036854775807) : wrap64 x = x := by
  simp only [wrap64]
  omega
theorem rd_nat (l : List Int) (i : Nat) : rd l (i : Int) = l.getD i 0 := by simp [rd, List.getD_eq_getElem?_getD]
theorem rsame (l : List Int) (i j : Nat) (hj : j < i) (hi : i ≤ l.length) (hl : l.length ≤ 1048576) : ∀ m n k : Nat, 258 - n = m → n ≤ 258 → m < k → (∀ t, t < n → i + t < l.length ∧ l.getD (i + t) 0 = l.getD (j + t) 0) → codicilref04_same.l0 k l (i : Int) (j : Int) (n : Int) = some ((sameN l i j : Nat) : Int) := by
  intro m
  induction m with
  | zero =>
    intro n k hm hn hk ha
    obtain ⟨k, rfl⟩ : ∃ q, k = q + 1 := ⟨k - 1, by omega⟩
    have h := (sameN_is l i j).unique ⟨hn, ha, fun h => by omega⟩
    simp only [codicilref04_same.l0]
    rw [if_neg (by omega), h]
  | succ m ih =>
    intro n k hm hn hk ha
    obtain ⟨k, rfl⟩ : ∃ q, k = q + 1 := ⟨k - 1, by omega⟩
    simp only [codicilref04_same.l0]
    rw [wrap_id ((i : Int) + n) (by omega) (by omega), wrap_id ((j : Int) + n) (by omega) (by omega), if_pos (by omega)]
    by_cases h1 : i + n < l.length
    · rw [if_pos (by omega), if_pos (by omega), if_pos (by omega), if_pos (by omega), show (i : Int) + n = ((i + n : Nat) : Int) from by omega, show (j : Int) + n = ((j + n : Nat) : Int) from by omega, rd_nat, rd_nat]
      by_cases h2 : l.getD (i + n) 0 = l.getD (j + n) 0
      · rw [if_pos h2, wrap_id ((n : Int) + 1) (by omega) (by omega), show (n : Int) + 1 = ((n + 1 : Nat) : Int) from by omega]
        exact ih (n + 1) k (by omega) (by omega) (by omega) (same_more ha h1 h2)
      · rw [if_neg h2, (sameN_is l i j).unique ⟨hn, ha, fun h => h2 h.2.2⟩]
    · rw [if_neg (by omega), (sameN_is l i j).unique ⟨hn, ha, fun h => h1 h.2.1⟩]
theorem rmatch (l : List Int) (i : Nat) (hi : i ≤ l.length) (hl : l.length ≤ 1048576) : ∀ (j b f k : Nat), j ≤ i → 2 * j + 300 ≤ k → codicilref04_match.l0 k l (i : Int) (b : Int) (f : Int) ((j : Int) - 1) = some (((docM l i j (b, f)).1 : Int), ((docM l i j (b, f)).2 : Int)) := by
  intro j
  induction j with
  | zero =>
    intro b f k hj hk
    obtain ⟨k, rfl⟩ : ∃ q, k = q + 2 := ⟨k - 2, by omega⟩
    simp only [codicilref04_match.l0, codicilref04_match.j1]
    rw [if_neg (by omega)]
    simp [docM]
  | succ j ih =>
    intro b f k hj hk
    obtain ⟨k, rfl⟩ : ∃ q, k = q + 2 := ⟨k - 2, by omega⟩
    have hsame := rsame l i j (by omega) hi hl 258 0 k (by omega) (by omega) (by omega) (fun t h => absurd h (by omega))
    have e1 : (((j + 1 : Nat) : Int) - 1) = (j : Int) := by omega
    rw [e1]
    simp only [codicilref04_match.l0, codicilref04_match.j1, codicilref04_same.f]
    rw [if_pos (by omega), wrap_id ((i : Int) - j) (by omega) (by omega), wrap_id ((j : Int) - 1) (by omega) (by omega), show ((0 : Nat) : Int) = 0 from rfl] at *
    by_cases hw : i ≤ j + 32768
    · rw [if_pos (by simp; omega)]
      rw [hsame]
      simp only [Option.bind_some]
      have e2 : ((i : Int) - j) = ((i - j : Nat) : Int) := by omega
      rw [docM]
      by_cases h3 : 3 ≤ sameN l i j
      · rw [if_pos (by omega)]
        by_cases h4 : b < sameN l i j
        · rw [if_pos (by omega), if_pos ⟨hw, h3, h4⟩, e2]
          exact ih (sameN l i j) (i - j) k (by omega) (by omega)
        · rw [if_neg (by omega), if_neg (fun h => h4 h.2.2)]
          exact ih b f k (by omega) (by omega)
      · rw [if_neg (by omega), if_neg (fun h => h3 h.2.1)]
        exact ih b f k (by omega) (by omega)
    · rw [if_neg (by simp; omega), docM_done l i (b, f) (j + 1) (fun r hr h => by omega)]
theorem match_is (l : List Int) (i : Nat) (hi : i ≤ l.length) (hl : l.length ≤ 1048576) : codicilref04_match.f (2 * i + 300) l (i : Int) = some (((mat l i).1 : Int), ((mat l i).2 : Int)) := by
  unfold codicilref04_match.f
  rw [wrap_id ((i : Int) - 1) (by omega) (by omega)]
  exact rmatch l i hi hl i 0 0 _ (Nat.le_refl _) (Nat.le_refl _)
theorem bt_row {base g : Nat} {W : World} {T N : Nat} (h : Bt base g W T N) : ∀ i, rowOf W g = some i → base ≤ i := by
  obtain ⟨v, hb, ho, hbg, hT⟩ := h
  intro i hi
  rw [rowOf_eq hb rfl] at hi
  exact own_base ho i hi
theorem bt_new (w : World) : Bt w.heap.size w.heap.size (w.alloc (.cells #[.slice none 0 0, .int .i64 0] 98)) 0 0 :=
  ⟨.slice none 0 0, heap_alloc_new w _, World.ownsRow_nil _ _ _ _, Nat.le_refl _, by decide⟩
set_option maxRecDepth 8000 in
set_option maxHeartbeats 4000000 in
theorem rfixed_calls (w : World) (A : Option Addr) (c : Nat) (l : List Int) (hC : Kd.C (Kd.int .u8) w A l.length l) (hc : l.length ≤ c) (hby : ∀ x ∈ l, 0 ≤ x ∧ x < 256) (hm : l.length ≤ 1048576) :
    Calls Tryd.prog 65 #[.slice A l.length c] w fun e w' => ∃ v, e = .returned v ∧ Bs 5 w' w.heap.size v (fixedB l) ∧ Below w.heap.size w w' := by
  have HL := Lib.hid (readsC hC)
  have HNEW := Lib.hid (bt_new w)
  clear hC
  go_enter Tryd.func65, Tryd.ntmps65
  go_wp2_with fail
  refine (bit_calls w.heap.size w.heap.size _ 0 0 1 HNEW.out (by decide) (by decide)).mono ?_
  rintro e w1 ⟨rfl, hs1, hw1⟩
  have HB1 := Lib.hid (hs1.below (below_alloc (Below.refl w.heap.size w) _) (by simp) (Nat.le_refl _) (bt_row HNEW.out))
  have HW1 := Lib.hid hw1
  clear hs1 hw1 HNEW
  go_wp2_with fail
  refine (rnumber_calls w.heap.size w.heap.size w1 _ _ 1 2 HW1.out (by decide) (by decide) (by decide)).mono ?_
  rintro e w2 ⟨rfl, hs2, hw2⟩
  have HB2 := Lib.hid (hs2.below HB1.out HB1.out.size (Nat.le_refl _) (bt_row HW1.out))
  have HW2 := Lib.hid (show Bt w.heap.size w.heap.size w2 3 3 from hw2)
  clear hs2 hw2 HW1 HB1
  go_wp2_with fail
  go_loopw [4] (fun vi wr => ∃ (i T N : Nat), vi = .int .i64 i ∧ i ≤ l.length ∧ N ≤ 3 + 40 * i ∧ Hid (Bt w.heap.size w.heap.size wr T N) ∧ Hid (Below w.heap.size w wr) ∧ Hid (fixT l i T N = fixT l 0 3 3)) (fun vi _ => l.length - (intOf vi).toNat)
  case atStart => exact ⟨0, 3, 3, rfl, by omega, by omega, HW2, HB2, Lib.hid rfl⟩
  case round =>
    obtain ⟨i, T, N, rfl, hi, hN, hw, hF, hT⟩ := hrel
    by_cases hlt : i < l.length
    · have i1 : (i : Int) < (l.length : Int) := by omega
      have i0 : (0 : Int) ≤ (i : Int) := by omega
      obtain ⟨n, hn⟩ : ∃ n, n = (mat l i).1 := ⟨_, rfl⟩
      obtain ⟨d, hd⟩ : ∃ d, d = (mat l i).2 := ⟨_, rfl⟩
      have hmb := mat_bounds l i
      rw [← hn, ← hd] at hmb
      have hmi := match_is l i hi hm
      rw [← hn, ← hd] at hmi
      have HN := Lib.hid hn
      have HD := Lib.hid hd
      have HM := Lib.hid hmi
      clear hn hd hmi
      go_wp2_with fail
      refine (codicilref04_match.calls (2 * i + 300) A c l (i : Int) (n : Int) (d : Int) wr (Kd.C_of_reads (HL.out.below hF.out)) hc HM.out).mono ?_
      rintro e w2 ⟨he, hdr⟩
      obtain ⟨m, rfl⟩ := hdr.out
      have HF3 := Lib.hid (pw_below_drewN hF.out m)
      have HW3 : Hid (Bt w.heap.size w.heap.size (wr.drewN m) T N) := Lib.hid hw.out
      clear hF hw hdr
      generalize wr.drewN m = w3 at *
      obtain ⟨ad, hA, hcell⟩ := (HL.out.below HF3.out).2.2 (by omega)
      subst hA
      rcases Nat.eq_zero_or_pos n with hz | hz
      · rw [hz, show ((0 : Nat) : Int) = 0 from rfl] at he
        subst he
        have k1 := hcell i hlt
        obtain ⟨s, hs, hs2⟩ : ∃ s : Nat, l.getD i 0 = (s : Int) ∧ s < 256 := by
          have := bytes_getD hby i
          exact ⟨(l.getD i 0).toNat, by omega, by omega⟩
        have HFX := Lib.hid ((fixT_lit hlt (by rw [← HN.out, hz])).symm.trans hT.out)
        rw [hs, Int.toNat_natCast] at HFX
        rw [hs] at k1
        clear hs hcell
        go_wp2_with fail
        refine (rsymbol_calls w.heap.size w.heap.size w3 T N s HW3.out (by omega) (by omega)).mono ?_
        rintro e w5 ⟨rfl, hs5, hw5⟩
        have HF5 := Lib.hid (hs5.below HF3.out HF3.out.size (Nat.le_refl _) (bt_row HW3.out))
        have HW5 := Lib.hid hw5
        have hN5 : N + symN s ≤ 3 + 40 * (i + 1) := by have := symN_le s; omega
        clear hs5 hw5 k1 HF3 HW3
        generalize T + symV s * 2 ^ N = T5 at HFX HW5
        generalize N + symN s = N5 at HFX HW5 hN5
        go_wp2_with fail
        go_roundw
        case rel => exact ⟨i + 1, T5, N5, by go_num, by omega, by omega, HW5, HF5, HFX⟩
        case measure => simp [intOf]; omega
      · subst he
        have hnz : ((n : Int) == 0) = false := by simp; omega
        have HFX := Lib.hid ((fixT_mat hlt (by rw [← HN.out]; omega)).symm.trans hT.out)
        rw [← HN.out, ← HD.out] at HFX
        clear hcell
        have hlN := lenE_le n (by omega) (by omega)
        have hdN := disE_le d (by omega) (by omega)
        go_wp2_with fail
        refine (rlength_calls w.heap.size w.heap.size w3 T N n HW3.out (by omega) (by omega) (by omega)).mono ?_
        rintro e w4 ⟨rfl, hs4, hw4⟩
        have HF4 := Lib.hid (hs4.below HF3.out HF3.out.size (Nat.le_refl _) (bt_row HW3.out))
        have HW4 := Lib.hid hw4
        clear hs4 hw4 HF3 HW3
        go_wp2_with fail
        refine (rdistance_calls w.heap.size w.heap.size w4 _ _ d HW4.out (by omega) (by omega) (by omega)).mono ?_
        rintro e w5 ⟨rfl, hs5, hw5⟩
        have HF5 := Lib.hid (hs5.below HF4.out HF4.out.size (Nat.le_refl _) (bt_row HW4.out))
        have HW5 := Lib.hid hw5
        have hN5 : N + lenN n + disN d ≤ 3 + 40 * (i + n) := by omega
        clear hs5 hw5 HF4 HW4
        generalize T + lenV n * 2 ^ N + disV d * 2 ^ (N + lenN n) = T5 at HFX HW5
        generalize N + lenN n + disN d = N5 at HFX HW5 hN5
        go_wp2_with fail
        go_roundw
        case rel => exact ⟨i + n, T5, N5, by go_num, by omega, by omega, HW5, HF5, HFX⟩
        case measure => simp [intOf]; omega
    · obtain rfl : i = l.length := by omega
      have HE := Lib.hid (hT.out.symm.trans (fixT_end (Nat.le_refl _)))
      go_wp2_with fail
      refine (rsymbol_calls w.heap.size w.heap.size wr T N 256 hw.out (by omega) (by omega)).mono ?_
      rintro e w2 ⟨rfl, hs2, hw2⟩
      have HB2 := Lib.hid (hs2.below hF.out hF.out.size (Nat.le_refl _) (bt_row hw.out))
      have HEQ : Hid (fixedB l = leB ((N + symN 256 + 7) / 8) (T + symV 256 * 2 ^ N)) := Lib.hid (by unfold fixedB; rw [HE.out])
      obtain ⟨v3, hb3, ho3, _, _⟩ := hw2
      have c0 : w2.cell? ⟨w.heap.size, 0, none⟩ = some v3 := blk_cell hb3 0
      have HO3 := Lib.hid ho3
      clear hb3 ho3 hs2 hF hw HE hT
      go_wp2_with fail
      go_ret
      refine ⟨v3, rfl, ?_, HB2.out⟩
      rw [HEQ.out]
      exact HO3.out
def codicilref04_Fixed.f (l0 : List Int) : Option (List Int) := if l0.length ≤ 1048576 ∧ (∀ x ∈ l0, 0 ≤ x ∧ x < 256) then some (fixedB l0) else none
theorem codicilref04_Fixed.calls (A0 : Option Addr) (c0 : Nat) (l0 : List Int) (r : List Int) (w : World) (hr0 : Kd.C (Kd.int .u8) w A0 l0.length l0) (hc0 : l0.length ≤ c0) (h : codicilref04_Fixed.f l0 = some r) :
    Calls Tryd.prog 65 #[.slice A0 l0.length c0] w fun e w' => ∃ v0_ : Value, e = .returned (v0_) ∧ Kd.R (Kd.int .u8) 5 w' w.heap.size (fun _ => True) v0_ r ∧ Below w.heap.size w w' := by
  unfold codicilref04_Fixed.f at h
  split at h
  · rename_i hb
    obtain rfl := Option.some.inj h
    exact (rfixed_calls w A0 c0 l0 hr0 hc0 hb.2 hb.1).mono fun e w' ⟨v, he, hv, hbl⟩ => ⟨v, he, Bs.toR hv, hbl⟩
  · cases h


end Go.Proofs.YtkdklcamgcmifaaDoor.PM
