/- codicilref08.DocPutCopy: it answers what PutCopy answers. -/
import Derived.Test.YtiocipmnmjpkfaaHPutCopy
namespace Go.Proofs.Ytiocipmnmjpkfaa
set_option linter.unusedVariables false
set_option linter.unusedSimpArgs false
open Go.RowKit Go.Proofs.YtiocipmnmjpkfaaW.PrintWords Go.Proofs.YtiocipmnmjpkfaaW.PrintMore

def DpI (w : World) (f : Nat → Int) (i : Nat) (cv lv : Value) (wr : World) : Prop := cv = .int .u8 (mkB f i) ∧ Bs 5 wr w.heap.size lv (lsB f i) ∧ Below w.heap.size w wr
set_option maxRecDepth 8000 in
set_option maxHeartbeats 4000000 in
theorem docPut_ok (A : Option Addr) (c : Nat) (p : List Int) (at_ n n0 : Int) (w : World) (hl : ReadsInt w .u8 A p.length p) (hm : p.length ≤ 140737488351240) (h1 : ¬ at_ < 0) (h2 : ¬ 4294967296 ≤ at_) (h3 : ¬ n < 1) (h4 : ¬ 16777215 < n) (hn0 : n0 = if n = 65536 then 0 else n) :
    Calls Try.prog 40 #[.slice A p.length c, .int .i64 at_, .int .i64 n] w fun e w' => ∃ v, e = .returned (.tuple #[v, .int .i64 0]) ∧ Bs 5 w' w.heap.size v (p ++ copyL at_ n) ∧ Below w.heap.size w w' := by
  have HL := Lib.hid hl
  have h4b : n < 16777216 := by omega
  have hn00 : 0 ≤ n0 ∧ n0 < 16777216 := by rw [hn0]; split <;> omega
  have HN0 := Lib.hid hn0
  have HCP := Lib.hid (show ∀ i, i < 7 → cpB at_ n i = (if i < 4 then at_ / 256 ^ i % 256 else n0 / 256 ^ (i - 4) % 256) by
    intro i hi
    unfold cpB
    by_cases h : i < 4
    · rw [if_pos h, if_pos h]
    · rw [if_neg h, if_neg h, hn0]
      split
      · rw [Int.zero_ediv]; rfl
      · rfl)
  clear hl hn0
  go_enter Try.func40, Try.ntmps40
  by_cases hn : n = 65536
  · subst hn
    go_wp2_with fail
    go_loopw [8, 9, 10] (fun cv lv iv wr => ∃ i : Nat, i ≤ 7 ∧ iv = .int .i64 i ∧ Hid (DpI w (cpB at_ 65536) i cv lv wr)) (fun _ _ iv _ => 7 - (intOf iv).toNat)
    case atStart => exact ⟨0, by omega, rfl, Lib.hid ⟨rfl, own_nil _ _ _ _, Below.refl _ _⟩⟩
    case round =>
      obtain ⟨i, hi, rfl, HD⟩ := hrel
      obtain ⟨rfl, hR, hB⟩ := HD.out
      have HR := Lib.hid hR
      have HB := Lib.hid hB
      clear hR hB
      by_cases hlt : i < 7
      · by_cases h4 : i < 4
        · skip
          have h4i : ¬ (3 : Int) < (i : Int) := by omega
          have hk0 : (8 : Int) * i < 64 := by omega
          obtain ⟨x, hx⟩ : ∃ x, cpB at_ 65536 i = x := ⟨_, rfl⟩
          have hxw : IntKind.u8.wrap (at_ / 2 ^ (8 * i)) = x := by
            rw [IntKind.wrap_u8, ← hx, HCP.out i hlt]
            rw [if_pos h4, show (2 : Int) ^ (8 * i) = 256 ^ i by rw [Int.pow_mul]; rfl]
          have hx0 : 0 ≤ x ∧ x < 256 := by rw [← hxw, IntKind.wrap_u8]; omega
          have hm1 : mkB (cpB at_ 65536) (i + 1) = if x = 0 then mkB (cpB at_ 65536) i else mkB (cpB at_ 65536) i + 2 ^ i := by simp only [mkB, hx]
          have hl1 : lsB (cpB at_ 65536) (i + 1) = if x = 0 then lsB (cpB at_ 65536) i else lsB (cpB at_ 65536) i ++ [x] := by simp only [lsB, hx]
          have hmb := mkB_bound (cpB at_ 65536) i
          have hll := lsB_len (cpB at_ 65536) i
          have h26 : (2 : Int) ^ i ≤ 64 := by
            have : 2 ^ i ≤ 2 ^ 6 := Nat.pow_le_pow_right (by decide) (by omega)
            exact_mod_cast this
          have h20 : (0 : Int) < 2 ^ i := Int.pow_pos (by decide)
          have hsh : IntKind.u8.wrap (2 ^ i) = 2 ^ i := by rw [IntKind.wrap_u8]; omega
          have hadd : IntKind.u8.wrap (mkB (cpB at_ 65536) i + 2 ^ i) = mkB (cpB at_ 65536) i + 2 ^ i := by rw [IntKind.wrap_u8]; omega
          have HM1 := Lib.hid hm1
          have HL1 := Lib.hid hl1
          clear hx hm1 hl1
          generalize mkB (cpB at_ 65536) i = mk at *
          obtain ⟨Al, nl, cl, rfl, HR', HNL⟩ := Bs.open_ HR.out
          by_cases hx1 : x = 0
          · subst hx1
            rw [if_pos rfl] at HM1 HL1
            clear h26 h20 hsh hadd
            go_wp2_with fail
            go_roundw
            case rel => exact ⟨i + 1, hlt, by simp, Lib.hid ⟨by rw [HM1.out], by rw [HL1.out]; exact HR.out, HB.out⟩⟩
            case measure => simp [intOf]; omega
          · have hx2 : 0 < x := by omega
            rw [if_neg hx1] at HM1 HL1
            go_wp2_with (at_builtin; go_must (refine brow_append_row' (w0 := w) w.heap.size rfl (.tmp 52) (.tmp 54) 22 5 rfl Try.underlying22 infoU8 (.slice Al nl cl) (lsB (cpB at_ 65536) i) [x] (some ⟨wr.heap.size, 0, none⟩) 1 1 rfl rfl (pw_own_below HR.out (below_alloc (Below.refl _ _) _)) (own_reads' (own_lit wr 0 5 .u8 [x] (Nat.zero_le _) (by simp))) (HB.out.alloc HB.out.size _) (by have := HB.out.size; simp; omega) (by omega) ?_); intro v1 w1 hown1 hb1; have HO1 := Lib.hid hown1; have HB1 := Lib.hid hb1; clear hown1 hb1)
            go_roundw
            case rel => exact ⟨i + 1, hlt, by simp, Lib.hid ⟨by rw [HM1.out], by rw [HL1.out]; exact HO1.out, HB1.out⟩⟩
            case measure => simp [intOf]; omega
        · skip
          have h4i : (3 : Int) < (i : Int) := by omega
          have hx : cpB at_ 65536 i = 0 := by unfold cpB; rw [if_neg h4, if_pos rfl]
          have HM1 := Lib.hid (show mkB (cpB at_ 65536) (i + 1) = mkB (cpB at_ 65536) i by simp only [mkB, hx, if_true])
          have HL1 := Lib.hid (show lsB (cpB at_ 65536) (i + 1) = lsB (cpB at_ 65536) i by simp only [lsB, hx, if_true])
          have hk0 : (8 : Int) * i < 64 := by omega
          clear hx
          generalize mkB (cpB at_ 65536) i = mk at *
          obtain ⟨Al, nl, cl, rfl, HR', HNL⟩ := Bs.open_ HR.out
          go_wp2_with fail
          go_roundw
          case rel => exact ⟨i + 1, hlt, by simp, Lib.hid ⟨by rw [HM1.out], by rw [HL1.out]; exact HR.out, HB.out⟩⟩
          case measure => simp [intOf]; omega
      · obtain rfl : i = 7 := by omega
        obtain ⟨Al, nl, cl, rfl, HR', HNL⟩ := Bs.open_ HR.out
        have hnl : nl = (lsB (cpB at_ 65536) 7).length := HNL.out
        have hl7 := lsB_len (cpB at_ 65536) 7
        have HRL := Lib.hid (own_reads' HR'.out)
        have hcopy := Lib.hid (show copyL at_ 65536 = mkB (cpB at_ 65536) 7 :: lsB (cpB at_ 65536) 7 from rfl)
        have HNL2 := Lib.hid hnl
        have hnl7 : nl ≤ 7 := by omega
        clear hnl hl7
        generalize mkB (cpB at_ 65536) 7 = mk at *
        go_wp2_with (first
          | (at_builtin; refine brow_append_row' (w0 := wr) wr.heap.size rfl (.tmp 56) (.tmp 57) 22 5 rfl Try.underlying22 infoU8 (.slice none 0 0) [] p A p.length c rfl rfl (own_nil _ _ _ _) (HL.out.below HB.out) (Below.refl _ _) (Nat.le_refl _) (by simp; omega) ?_; intro v1 w1 hown1 hb1; have HO1 := Lib.hid hown1; have HB1 := Lib.hid hb1; clear hown1 hb1)
          | (at_builtin; refine brow_append_row' (w0 := wr) wr.heap.size rfl (.tmp 59) (.tmp 61) 22 5 rfl Try.underlying22 infoU8 v1 ([] ++ p) [mk] (some ⟨w1.heap.size, 0, none⟩) 1 1 rfl rfl (pw_own_below HO1.out (below_alloc (Below.refl _ _) _)) (own_reads' (own_lit w1 0 5 .u8 [mk] (Nat.zero_le _) (by simp))) (HB1.out.alloc HB1.out.size _) (by have := HB1.out.size; simp; omega) (by simp; omega) ?_; intro v2 w2 hown2 hb2; have HO2 := Lib.hid hown2; have HB2 := Lib.hid hb2; clear hown2 hb2)
          | (at_builtin; refine brow_append_row' (w0 := wr) wr.heap.size rfl (.tmp 63) (.tmp 64) 22 5 rfl Try.underlying22 infoU8 v2 ([] ++ p ++ [mk]) _ Al nl cl rfl rfl HO2.out (HRL.out.below HB2.out) HB2.out HB2.out.size (by simp; omega) ?_; intro v3 w3 hown3 hb3; have HO3 := Lib.hid hown3; have HB3 := Lib.hid hb3; clear hown3 hb3))
        go_ret2
        refine ⟨v3, rfl, ?_, HB.out.trans (HB3.out.mono HB.out.size)⟩
        have hf := own_weaken HO3.out HB.out.size
        rw [hcopy.out]
        have e : [] ++ p ++ [mk] ++ lsB (cpB at_ 65536) 7 = p ++ mk :: lsB (cpB at_ 65536) 7 := by simp
        unfold Bs
        rw [← e]
        exact hf
  · skip
    go_wp2_with fail
    go_loopw [8, 9, 10] (fun cv lv iv wr => ∃ i : Nat, i ≤ 7 ∧ iv = .int .i64 i ∧ Hid (DpI w (cpB at_ n) i cv lv wr)) (fun _ _ iv _ => 7 - (intOf iv).toNat)
    case atStart => exact ⟨0, by omega, rfl, Lib.hid ⟨rfl, own_nil _ _ _ _, Below.refl _ _⟩⟩
    case round =>
      obtain ⟨i, hi, rfl, HD⟩ := hrel
      obtain ⟨rfl, hR, hB⟩ := HD.out
      have HR := Lib.hid hR
      have HB := Lib.hid hB
      clear hR hB
      by_cases hlt : i < 7
      · by_cases h4 : i < 4
        · skip
          have h4i : ¬ (3 : Int) < (i : Int) := by omega
          have hk0 : (8 : Int) * i < 64 := by omega
          obtain ⟨x, hx⟩ : ∃ x, cpB at_ n i = x := ⟨_, rfl⟩
          have hxw : IntKind.u8.wrap (at_ / 2 ^ (8 * i)) = x := by
            rw [IntKind.wrap_u8, ← hx, HCP.out i hlt]
            rw [if_pos h4, show (2 : Int) ^ (8 * i) = 256 ^ i by rw [Int.pow_mul]; rfl]
          have hx0 : 0 ≤ x ∧ x < 256 := by rw [← hxw, IntKind.wrap_u8]; omega
          have hm1 : mkB (cpB at_ n) (i + 1) = if x = 0 then mkB (cpB at_ n) i else mkB (cpB at_ n) i + 2 ^ i := by simp only [mkB, hx]
          have hl1 : lsB (cpB at_ n) (i + 1) = if x = 0 then lsB (cpB at_ n) i else lsB (cpB at_ n) i ++ [x] := by simp only [lsB, hx]
          have hmb := mkB_bound (cpB at_ n) i
          have hll := lsB_len (cpB at_ n) i
          have h26 : (2 : Int) ^ i ≤ 64 := by
            have : 2 ^ i ≤ 2 ^ 6 := Nat.pow_le_pow_right (by decide) (by omega)
            exact_mod_cast this
          have h20 : (0 : Int) < 2 ^ i := Int.pow_pos (by decide)
          have hsh : IntKind.u8.wrap (2 ^ i) = 2 ^ i := by rw [IntKind.wrap_u8]; omega
          have hadd : IntKind.u8.wrap (mkB (cpB at_ n) i + 2 ^ i) = mkB (cpB at_ n) i + 2 ^ i := by rw [IntKind.wrap_u8]; omega
          have HM1 := Lib.hid hm1
          have HL1 := Lib.hid hl1
          clear hx hm1 hl1
          generalize mkB (cpB at_ n) i = mk at *
          obtain ⟨Al, nl, cl, rfl, HR', HNL⟩ := Bs.open_ HR.out
          by_cases hx1 : x = 0
          · subst hx1
            rw [if_pos rfl] at HM1 HL1
            clear h26 h20 hsh hadd
            go_wp2_with fail
            go_roundw
            case rel => exact ⟨i + 1, hlt, by simp, Lib.hid ⟨by rw [HM1.out], by rw [HL1.out]; exact HR.out, HB.out⟩⟩
            case measure => simp [intOf]; omega
          · have hx2 : 0 < x := by omega
            rw [if_neg hx1] at HM1 HL1
            go_wp2_with (at_builtin; go_must (refine brow_append_row' (w0 := w) w.heap.size rfl (.tmp 52) (.tmp 54) 22 5 rfl Try.underlying22 infoU8 (.slice Al nl cl) (lsB (cpB at_ n) i) [x] (some ⟨wr.heap.size, 0, none⟩) 1 1 rfl rfl (pw_own_below HR.out (below_alloc (Below.refl _ _) _)) (own_reads' (own_lit wr 0 5 .u8 [x] (Nat.zero_le _) (by simp))) (HB.out.alloc HB.out.size _) (by have := HB.out.size; simp; omega) (by omega) ?_); intro v1 w1 hown1 hb1; have HO1 := Lib.hid hown1; have HB1 := Lib.hid hb1; clear hown1 hb1)
            go_roundw
            case rel => exact ⟨i + 1, hlt, by simp, Lib.hid ⟨by rw [HM1.out], by rw [HL1.out]; exact HO1.out, HB1.out⟩⟩
            case measure => simp [intOf]; omega
        · skip
          have h4i : (3 : Int) < (i : Int) := by omega
          have hk0 : (8 : Int) * i < 64 := by omega
          have hk4 : ((i : Int) - 4).toNat = i - 4 := by omega
          obtain ⟨x, hx⟩ : ∃ x, cpB at_ n i = x := ⟨_, rfl⟩
          have hxw : IntKind.u8.wrap (n / 2 ^ (8 * (i - 4))) = x := by
            rw [IntKind.wrap_u8, ← hx, HCP.out i hlt]
            rw [if_neg h4, HN0.out, if_neg hn, show (2 : Int) ^ (8 * (i - 4)) = 256 ^ (i - 4) by rw [Int.pow_mul]; rfl]
          have hx0 : 0 ≤ x ∧ x < 256 := by rw [← hxw, IntKind.wrap_u8]; omega
          have hm1 : mkB (cpB at_ n) (i + 1) = if x = 0 then mkB (cpB at_ n) i else mkB (cpB at_ n) i + 2 ^ i := by simp only [mkB, hx]
          have hl1 : lsB (cpB at_ n) (i + 1) = if x = 0 then lsB (cpB at_ n) i else lsB (cpB at_ n) i ++ [x] := by simp only [lsB, hx]
          have hmb := mkB_bound (cpB at_ n) i
          have hll := lsB_len (cpB at_ n) i
          have h26 : (2 : Int) ^ i ≤ 64 := by
            have : 2 ^ i ≤ 2 ^ 6 := Nat.pow_le_pow_right (by decide) (by omega)
            exact_mod_cast this
          have h20 : (0 : Int) < 2 ^ i := Int.pow_pos (by decide)
          have hsh : IntKind.u8.wrap (2 ^ i) = 2 ^ i := by rw [IntKind.wrap_u8]; omega
          have hadd : IntKind.u8.wrap (mkB (cpB at_ n) i + 2 ^ i) = mkB (cpB at_ n) i + 2 ^ i := by rw [IntKind.wrap_u8]; omega
          have HM1 := Lib.hid hm1
          have HL1 := Lib.hid hl1
          clear hx hm1 hl1
          generalize mkB (cpB at_ n) i = mk at *
          obtain ⟨Al, nl, cl, rfl, HR', HNL⟩ := Bs.open_ HR.out
          by_cases hx1 : x = 0
          · subst hx1
            rw [if_pos rfl] at HM1 HL1
            clear h26 h20 hsh hadd
            go_wp2_with fail
            go_roundw
            case rel => exact ⟨i + 1, hlt, by simp, Lib.hid ⟨by rw [HM1.out], by rw [HL1.out]; exact HR.out, HB.out⟩⟩
            case measure => simp [intOf]; omega
          · have hx2 : 0 < x := by omega
            rw [if_neg hx1] at HM1 HL1
            go_wp2_with (at_builtin; go_must (refine brow_append_row' (w0 := w) w.heap.size rfl (.tmp 52) (.tmp 54) 22 5 rfl Try.underlying22 infoU8 (.slice Al nl cl) (lsB (cpB at_ n) i) [x] (some ⟨wr.heap.size, 0, none⟩) 1 1 rfl rfl (pw_own_below HR.out (below_alloc (Below.refl _ _) _)) (own_reads' (own_lit wr 0 5 .u8 [x] (Nat.zero_le _) (by simp))) (HB.out.alloc HB.out.size _) (by have := HB.out.size; simp; omega) (by omega) ?_); intro v1 w1 hown1 hb1; have HO1 := Lib.hid hown1; have HB1 := Lib.hid hb1; clear hown1 hb1)
            go_roundw
            case rel => exact ⟨i + 1, hlt, by simp, Lib.hid ⟨by rw [HM1.out], by rw [HL1.out]; exact HO1.out, HB1.out⟩⟩
            case measure => simp [intOf]; omega
      · obtain rfl : i = 7 := by omega
        obtain ⟨Al, nl, cl, rfl, HR', HNL⟩ := Bs.open_ HR.out
        have hnl : nl = (lsB (cpB at_ n) 7).length := HNL.out
        have hl7 := lsB_len (cpB at_ n) 7
        have HRL := Lib.hid (own_reads' HR'.out)
        have hcopy := Lib.hid (show copyL at_ n = mkB (cpB at_ n) 7 :: lsB (cpB at_ n) 7 from rfl)
        have HNL2 := Lib.hid hnl
        have hnl7 : nl ≤ 7 := by omega
        clear hnl hl7
        generalize mkB (cpB at_ n) 7 = mk at *
        go_wp2_with (first
          | (at_builtin; refine brow_append_row' (w0 := wr) wr.heap.size rfl (.tmp 56) (.tmp 57) 22 5 rfl Try.underlying22 infoU8 (.slice none 0 0) [] p A p.length c rfl rfl (own_nil _ _ _ _) (HL.out.below HB.out) (Below.refl _ _) (Nat.le_refl _) (by simp; omega) ?_; intro v1 w1 hown1 hb1; have HO1 := Lib.hid hown1; have HB1 := Lib.hid hb1; clear hown1 hb1)
          | (at_builtin; refine brow_append_row' (w0 := wr) wr.heap.size rfl (.tmp 59) (.tmp 61) 22 5 rfl Try.underlying22 infoU8 v1 ([] ++ p) [mk] (some ⟨w1.heap.size, 0, none⟩) 1 1 rfl rfl (pw_own_below HO1.out (below_alloc (Below.refl _ _) _)) (own_reads' (own_lit w1 0 5 .u8 [mk] (Nat.zero_le _) (by simp))) (HB1.out.alloc HB1.out.size _) (by have := HB1.out.size; simp; omega) (by simp; omega) ?_; intro v2 w2 hown2 hb2; have HO2 := Lib.hid hown2; have HB2 := Lib.hid hb2; clear hown2 hb2)
          | (at_builtin; refine brow_append_row' (w0 := wr) wr.heap.size rfl (.tmp 63) (.tmp 64) 22 5 rfl Try.underlying22 infoU8 v2 ([] ++ p ++ [mk]) _ Al nl cl rfl rfl HO2.out (HRL.out.below HB2.out) HB2.out HB2.out.size (by simp; omega) ?_; intro v3 w3 hown3 hb3; have HO3 := Lib.hid hown3; have HB3 := Lib.hid hb3; clear hown3 hb3))
        go_ret2
        refine ⟨v3, rfl, ?_, HB.out.trans (HB3.out.mono HB.out.size)⟩
        have hf := own_weaken HO3.out HB.out.size
        rw [hcopy.out]
        have e : [] ++ p ++ [mk] ++ lsB (cpB at_ n) 7 = p ++ mk :: lsB (cpB at_ n) 7 := by simp
        unfold Bs
        rw [← e]
        exact hf
set_option maxHeartbeats 2000000 in
theorem docPut_calls (A : Option Addr) (c : Nat) (p : List Int) (at_ n : Int) (w : World) (hl : ReadsInt w .u8 A p.length p) (hm : p.length ≤ 140737488351240) :
    Calls Try.prog 40 #[.slice A p.length c, .int .i64 at_, .int .i64 n] w fun e w' => ∃ v, e = .returned (.tuple #[v, .int .i64 (putCopyF p at_ n).2]) ∧ Bs 5 w' w.heap.size v (putCopyF p at_ n).1 ∧ Below w.heap.size w w' := by
  by_cases hbad : at_ < 0 ∨ 4294967296 ≤ at_ ∨ n < 1 ∨ 16777215 < n
  · have HF := Lib.hid (show putCopyF p at_ n = ([], 1) by unfold putCopyF; rw [if_pos hbad])
    clear hl
    by_cases h1 : at_ < 0
    · go_enter Try.func40, Try.ntmps40
      go_wp2_with fail
      go_ret2
      rw [HF.out]
      exact ⟨_, rfl, own_nil _ _ _ _, Below.refl _ _⟩
    · by_cases h2 : 4294967296 ≤ at_
      · go_enter Try.func40, Try.ntmps40
        go_wp2_with fail
        go_ret2
        rw [HF.out]
        exact ⟨_, rfl, own_nil _ _ _ _, Below.refl _ _⟩
      · by_cases h3 : n < 1
        · go_enter Try.func40, Try.ntmps40
          go_wp2_with fail
          go_ret2
          rw [HF.out]
          exact ⟨_, rfl, own_nil _ _ _ _, Below.refl _ _⟩
        · have h4 : 16777216 ≤ n := by omega
          go_enter Try.func40, Try.ntmps40
          go_wp2_with fail
          go_ret2
          rw [HF.out]
          exact ⟨_, rfl, own_nil _ _ _ _, Below.refl _ _⟩
  · have hF : putCopyF p at_ n = (p ++ copyL at_ n, 0) := by unfold putCopyF; rw [if_neg hbad]
    rw [hF]
    exact docPut_ok A c p at_ n _ w hl hm (by omega) (by omega) (by omega) (by omega) rfl
end Go.Proofs.Ytiocipmnmjpkfaa
