/- Deflate of long texts: stored, of several blocks; fixed. -/
import Derived.Test.YtkdklcamgcmifaaDoorHZB
namespace Go.Proofs.YtkdklcamgcmifaaDoor
set_option linter.unusedVariables false
set_option linter.unusedSimpArgs false
open Go.RowKit Go.Proofs.YtkdklcamgcmifaaDoorW.PrintWords Go.Proofs.YtkdklcamgcmifaaDoorW.PrintMore Go.Proofs.YtkdklcamgcmifaaDoor.PY
/-- A text cut into blocks. -/
def chS : Nat → List Int → List (List Int)
  | 0, l => [l]
  | k + 1, l => if l.length ≤ 65535 then [l] else l.take 65535 :: chS k (l.drop 65535)
theorem chS_ne (k : Nat) (l : List Int) : chS k l ≠ [] := by
  cases k with
  | zero => simp [chS]
  | succ k => unfold chS; split <;> simp
theorem strS_last {k : Nat} {l : List Int} (h : l.length ≤ 65535) : strS (chS k l) = hdS 1 l.length ++ l := by
  have e : chS k l = [l] := by
    cases k with
    | zero => rfl
    | succ k => unfold chS; rw [if_pos h]
  rw [e]
  simp [strS]
theorem strS_more {k : Nat} {l : List Int} (h : 65535 < l.length) : strS (chS (k + 1) l) = hdS 0 65535 ++ (l.take 65535 ++ strS (chS k (l.drop 65535))) := by
  have e : chS (k + 1) l = l.take 65535 :: chS k (l.drop 65535) := by
    conv => lhs; unfold chS
    rw [if_neg (by omega)]
  rw [e, strS, if_neg (chS_ne _ _), List.length_take, Nat.min_eq_left (by omega)]
/-- A block's head as the walk spells it. -/
def hdG (f : Int) (n : Nat) : List Int := [f, (n : Int) % 256, (n : Int) / 256, Go.bits .xor .u8 255 ((n : Int) % 256), Go.bits .xor .u8 255 ((n : Int) / 256)]
theorem hdG_eq {f : Int} {n : Nat} (h : n < 65536) : hdG f n = hdS f n := by
  unfold hdG hdS
  rw [show (n : Int) % 256 = ((n % 256 : Nat) : Int) by omega, show (n : Int) / 256 = ((n / 256 : Nat) : Int) by omega, xor255 (by omega), xor255 (by omega)]
def lenOfV : Value → Nat
  | .slice _ n _ => n
  | _ => 0
/-- The loop's state. -/
def StD (w : World) (l : List Int) (v0 v3 : Value) (wr : World) : Prop :=
  ∃ (A : Option Addr) (c : Nat) (r P : List Int) (k : Nat), v0 = .slice A r.length c ∧ r.length ≤ c ∧ ReadsInt w .u8 A r.length r ∧ r.length ≤ l.length ∧ r.length ≤ 65535 * k + 65535 ∧ P.length + r.length ≤ l.length + 100 - 5 * k ∧ k ≤ 16 ∧ Bs 5 wr w.heap.size v3 P ∧ Below w.heap.size w wr ∧ P ++ strS (chS k r) = strS (chS 16 l)
set_option maxRecDepth 200000 in
set_option maxHeartbeats 8000000 in
theorem storedA_calls (w : World) (A : Option Addr) (c : Nat) (l : List Int) (hl : ReadsInt w .u8 A l.length l) (hc : l.length ≤ c) (hm : l.length ≤ 1048576) :
    Calls Tryd.prog 36 #[.slice A l.length c] w fun e w' => ∃ v, e = .returned v ∧ Bs 5 w' w.heap.size v (strS (chS 16 l)) ∧ Below w.heap.size w w' := by
  have HL := Lib.hid hl
  have HC := Lib.hid hc
  have hmk := make_room (P := Tryd.prog) 22 5 (.int .u8 0) 1 Tryd.underlying22 infoU8 rfl
  obtain ⟨i0, hi0, hz0, hz1, hz2⟩ := info_parts infoU8
  have HI := Lib.hid (And.intro hi0 hz1)
  clear hl hc hz0 hz1 hz2 hi0
  obtain ⟨cap, hcap⟩ : ∃ cap : Nat, cap = l.length + 5 + 5 * (l.length / 65535) := ⟨_, rfl⟩
  have hcapI : (l.length : Int) + 5 + 5 * ((l.length : Int) / 65535) = (cap : Int) := by omega
  have hmk1 := hmk (cap : Int) cap rfl (by omega) (by omega)
  have HROOM := Lib.hid (own_room w w.heap.size 5 (.int .u8 0) cap (Nat.le_refl _) (by simp only [maxLen]; omega))
  clear hmk hcap
  go_enter Tryd.func36, Tryd.ntmps36
  go_wp2_with fail
  go_loopw [0, 3] (fun v0 v3 wr => Hid (StD w l v0 v3 wr)) (fun v0 _ _ => lenOfV v0)
  case atStart => exact Lib.hid ⟨A, c, l, [], 16, rfl, HC.out, HL.out, Nat.le_refl _, by omega, by simp, Nat.le_refl _, HROOM.out, below_alloc (Below.refl _ _) _, by simp⟩
  case round =>
    obtain ⟨A, c, r, P, k, rfl, hc, hr, hrl, hrk, hP, hk, hB, hb, hE⟩ := hrel.out
    have HR := Lib.hid hr
    have HB := Lib.hid hB
    have HW := Lib.hid hb
    have HE := Lib.hid hE
    have HCC := Lib.hid hc
    clear hr hB hb hE hrel hmk1 HROOM hcapI
    by_cases hle : r.length ≤ 65535
    · have i1 : ¬ (65535 : Int) < (r.length : Int) := by omega
      go_wp2_with (first
        | (at_builtin; refine brow_append_row' (w0 := w) w.heap.size rfl (.tmp 22) (.tmp 36) 22 5 rfl Tryd.underlying22 infoU8 u3 P (hdG 1 r.length) (some ⟨wr.heap.size, 0, none⟩) 5 5 rfl rfl (pw_own_below HB.out (below_alloc (Below.refl _ _) _)) (own_reads' (own_lit wr _ 5 .u8 (hdG 1 r.length) (Nat.le_refl _) (by simp [hdG]))) (HW.out.alloc HW.out.size _) (by have := HW.out.size; simp; omega) (by omega) ?_; intro v1 w1 hown1 hb1; have HO1 := Lib.hid hown1; have HB1 := Lib.hid hb1; clear hown1 hb1)
        | (at_builtin; refine brow_append_row' (w0 := w) w.heap.size rfl (.tmp 38) (.tmp 41) 22 5 rfl Tryd.underlying22 infoU8 v1 _ r A r.length c rfl rfl HO1.out (HR.out.below HB1.out) HB1.out HB1.out.size (by simp [hdG]; omega) ?_; intro v2 w2 hown2 hb2; have HO2 := Lib.hid hown2; have HB2 := Lib.hid hb2; clear hown2 hb2))
      go_ret
      refine ⟨v2, rfl, ?_, HB2.out⟩
      have hE := HE.out
      rw [strS_last hle, ← hdG_eq (by omega)] at hE
      have hO := HO2.out
      rw [List.append_assoc, hE] at hO
      exact hO
    · have i1 : (65535 : Int) < (r.length : Int) := by omega
      obtain ⟨k, rfl⟩ : ∃ k', k = k' + 1 := ⟨k - 1, by omega⟩
      obtain ⟨A2, hcut, hrd2⟩ := cut_end (P := Tryd.prog) 22 5 Tryd.underlying22 HI.out.1 HI.out.2 A r.length c 65535 (by omega) HCC.out
      have hcut' := hcut 65535 rfl
      have HR2 := Lib.hid (hrd2 w .u8 r HR.out)
      have HT : Hid (ReadsInt w .u8 A 65535 (r.take 65535)) := Lib.hid (HR.out.take_ 65535 (by omega))
      have hc65 : (65535 : Int) ≤ (c : Int) := by omega
      clear hcut hrd2
      go_wp2_with (first
        | (at_builtin; refine brow_append_row' (w0 := w) w.heap.size rfl (.tmp 22) (.tmp 36) 22 5 rfl Tryd.underlying22 infoU8 u3 P [0, 255, 255, bits .xor .u8 IntKind.u8.max 255, bits .xor .u8 IntKind.u8.max 255] (some ⟨wr.heap.size, 0, none⟩) 5 5 rfl rfl (pw_own_below HB.out (below_alloc (Below.refl _ _) _)) (own_reads' (own_lit wr _ 5 .u8 [0, 255, 255, bits .xor .u8 IntKind.u8.max 255, bits .xor .u8 IntKind.u8.max 255] (Nat.le_refl _) (by simp))) (HW.out.alloc HW.out.size _) (by have := HW.out.size; simp; omega) (by omega) ?_; intro v1 w1 hown1 hb1; have HO1 := Lib.hid hown1; have HB1 := Lib.hid hb1; clear hown1 hb1)
        | (at_builtin; refine brow_append_row' (w0 := w) w.heap.size rfl (.tmp 38) (.tmp 41) 22 5 rfl Tryd.underlying22 infoU8 v1 _ (r.take 65535) A 65535 c rfl rfl HO1.out (HT.out.below HB1.out) HB1.out HB1.out.size (by simp; omega) ?_; intro v2 w2 hown2 hb2; have HO2 := Lib.hid hown2; have HB2 := Lib.hid hb2; clear hown2 hb2))
      go_roundw
      case rel =>
        refine Lib.hid ⟨A2, c - 65535, r.drop 65535, _, k, by rw [List.length_drop], by rw [List.length_drop]; omega, by have h := HR2.out; rwa [← List.length_drop] at h, by rw [List.length_drop]; omega, by rw [List.length_drop]; omega, ?_, by omega, HO2.out, HB2.out, ?_⟩
        · simp only [List.length_append, List.length_take, List.length_drop, List.length_cons, List.length_nil]
          omega
        · have hE := HE.out
          rw [strS_more (by omega)] at hE
          rw [← hE, show (hdS 0 65535 : List Int) = [0, 255, 255, bits .xor .u8 IntKind.u8.max 255, bits .xor .u8 IntKind.u8.max 255] by decide +kernel]
          simp
      case measure =>
        simp [lenOfV]
        omega
set_option maxRecDepth 8000 in
set_option maxHeartbeats 4000000 in
theorem deflateA_0 (w : World) (A : Option Addr) (n c : Nat) (l : List Int) (hn : l.length = n) (hl : ReadsInt w .u8 A n l) (hc : n ≤ c) (hm : n ≤ 1048576) :
    Calls Tryd.prog 20 #[.slice A n c, .int .i64 0] w fun e w' => ∃ v, e = .returned (.tuple #[v, .int .i64 0]) ∧ Bs 5 w' w.heap.size v (strS (chS 16 l)) ∧ Below w.heap.size w w' := by
  have HS := Lib.hid (storedA_calls w A c l (by rw [hn]; exact hl) (by omega) (by omega))
  rw [hn] at HS
  have i1 : ¬ (1048576 : Int) < (n : Int) := by omega
  clear hl hn
  go_enter Tryd.func20, Tryd.ntmps20
  go_wp2_with fail
  refine HS.out.mono ?_
  rintro e w1 ⟨v, rfl, hv, hb⟩
  have HV := Lib.hid hv
  have HB := Lib.hid hb
  clear hv hb
  go_wp2_with fail
  go_ret2
  exact ⟨_, rfl, HV.out, HB.out⟩
set_option maxRecDepth 8000 in
set_option maxHeartbeats 4000000 in
theorem deflateA_1 (w : World) (A : Option Addr) (n c : Nat) (l : List Int) (hn : l.length = n) (hl : ReadsInt w .u8 A n l) (hb : ∀ x ∈ l, 0 ≤ x ∧ x < 256) (hm : n ≤ 1048576) :
    Calls Tryd.prog 20 #[.slice A n c, .int .i64 1] w fun e w' => ∃ v, e = .returned (.tuple #[v, .int .i64 0]) ∧ Bs 5 w' w.heap.size v (fixedB l) ∧ Below w.heap.size w w' := by
  have HS := Lib.hid (PY.fixed_calls w A c l (by rw [hn]; exact hl) hb (by omega))
  rw [hn] at HS
  have i1 : ¬ (1048576 : Int) < (n : Int) := by omega
  clear hl hn hb
  go_enter Tryd.func20, Tryd.ntmps20
  go_wp2_with fail
  refine HS.out.mono ?_
  rintro e w1 ⟨v, rfl, hv, hb⟩
  have HV := Lib.hid hv
  have HB := Lib.hid hb
  clear hv hb
  go_wp2_with fail
  go_ret2
  exact ⟨_, rfl, HV.out, HB.out⟩
set_option maxRecDepth 8000 in
set_option maxHeartbeats 4000000 in
theorem deflateA_long (w : World) (A : Option Addr) (n c : Nat) (hm : 1048576 < n) :
    Calls Tryd.prog 20 #[.slice A n c, .int .i64 0] w fun e w' => e = .returned (.tuple #[.slice none 0 0, .int .i64 2]) ∧ w' = w := by
  have i1 : (1048576 : Int) < (n : Int) := by omega
  go_enter Tryd.func20, Tryd.ntmps20
  go_wp2_with fail
  go_ret2
  exact ⟨rfl, rfl⟩
/-! A text of zeros. -/
theorem getD_zeros (L i : Nat) : (List.replicate L (0 : Int)).getD i 0 = 0 := by
  rw [List.getD_eq_getElem?_getD, List.getElem?_replicate]
  split <;> rfl
theorem sameN_zeros (L i j : Nat) (hi : i ≤ L) : sameN (List.replicate L (0 : Int)) i j = min 258 (L - i) := by
  refine (sameN_is _ i j).unique ⟨Nat.min_le_left _ _, fun m hm => ⟨by simp; omega, by rw [getD_zeros, getD_zeros]⟩, fun h => ?_⟩
  have := h.2.1
  simp at this
  omega
theorem docM_zeros (L i : Nat) (hi : i ≤ L) : ∀ j a, min 258 (L - i) ≤ a.1 → docM (List.replicate L (0 : Int)) i j a = a := by
  intro j
  induction j with
  | zero => intro a _; rfl
  | succ j ih =>
    intro a h
    rw [docM, sameN_zeros L i j hi, if_neg (by omega)]
    exact ih a h
theorem mat_zeros (L i : Nat) (hi : i ≤ L) (h1 : 1 ≤ i) : mat (List.replicate L (0 : Int)) i = if 3 ≤ min 258 (L - i) then (min 258 (L - i), 1) else (0, 0) := by
  obtain ⟨j, rfl⟩ : ∃ j, i = j + 1 := ⟨i - 1, by omega⟩
  unfold mat
  rw [docM, sameN_zeros L (j + 1) j hi]
  by_cases h : 3 ≤ min 258 (L - (j + 1))
  · rw [if_pos ⟨by omega, h, by simp only []; omega⟩, if_pos h, docM_zeros L (j + 1) hi j _ (Nat.le_refl _), show j + 1 - j = 1 by omega]
  · rw [if_neg (fun k => h k.2.1), if_neg h]
    refine docM_done _ _ _ _ fun r hr hk => ?_
    rw [sameN_zeros L (j + 1) r hi] at hk
    exact h hk.2.1
theorem fixU_zeros (L : Nat) : ∀ m i, L - i ≤ m → 1 ≤ i → i ≤ L → (fixU (List.replicate L (0 : Int)) i).2 ≤ 13 * ((L - i) / 258) + 34 := by
  intro m
  induction m with
  | zero =>
    intro i h h1 h2
    rw [fixU_end (by simp; omega)]
    show 7 ≤ _
    omega
  | succ m ih =>
    intro i h h1 h2
    rcases Nat.lt_or_ge i L with hi | hi
    · have hl : i < (List.replicate L (0 : Int)).length := by simpa using hi
      have hm := mat_zeros L i h2 h1
      by_cases h3 : 3 ≤ min 258 (L - i)
      · rw [if_pos h3] at hm
        rw [fixU_mat hl (by rw [hm]; show min 258 (L - i) ≠ 0; omega), hm]
        simp only []
        have e1 : disE 1 = 0 := by decide
        rw [e1]
        rcases Nat.lt_or_ge (L - i) 258 with hs | hs
        · rw [Nat.min_eq_right (by omega)] at h3 ⊢
          rw [show i + (L - i) = L by omega, fixU_end (l := List.replicate L (0 : Int)) (i := L) (by simp)]
          have hq := lenE_le (L - i) h3 (by omega)
          unfold lenN at hq
          simp only []
          omega
        · rw [Nat.min_eq_left hs]
          have e2 : symN (lenS 258) = 8 := by decide
          have e3 : lenE 258 = 0 := by decide
          rw [e2, e3]
          have := ih (i + 258) (by omega) (by omega) (by omega)
          rw [show L - (i + 258) = L - i - 258 by omega] at this
          omega
      · rw [if_neg h3] at hm
        rw [fixU_lit hl (by rw [hm])]
        simp only [getD_zeros]
        have e2 : symN (0 : Int).toNat = 8 := by decide
        rw [e2]
        rcases (show L - i = 1 ∨ L - i = 2 by omega) with hd | hd
        · rw [fixU_end (l := List.replicate L (0 : Int)) (i := i + 1) (by simp; omega)]
          show 8 + 7 ≤ _
          omega
        · have hm2 := mat_zeros L (i + 1) (by omega) (by omega)
          rw [if_neg (by omega)] at hm2
          rw [fixU_lit (l := List.replicate L (0 : Int)) (i := i + 1) (by simp; omega) (by rw [hm2])]
          simp only [getD_zeros]
          rw [e2, fixU_end (l := List.replicate L (0 : Int)) (i := i + 1 + 1) (by simp; omega)]
          show 8 + (8 + 7) ≤ _
          omega
    · rw [fixU_end (by simp; omega)]
      show 7 ≤ _
      omega
theorem fixedB_zeros (L : Nat) (h : L = 70000) : (fixedB (List.replicate L (0 : Int))).length < 1000 := by
  unfold fixedB
  rw [leB_length, symN_end]
  have hU := (fixT_U (List.replicate L (0 : Int)) _ 0 3 3 (Nat.le_refl _)).2
  have h0 : (mat (List.replicate L (0 : Int)) 0).1 = 0 := rfl
  rw [fixU_lit (by simp; omega) h0] at hU
  simp only [getD_zeros] at hU
  have e2 : symN (0 : Int).toNat = 8 := by decide
  rw [e2, Nat.zero_add] at hU
  have hz := fixU_zeros L L 1 (by omega) (by omega) (by omega)
  omega
theorem strS_zeros (L : Nat) (h : L = 70000) : (strS (chS 16 (List.replicate L (0 : Int)))).length = 70010 ∧ (strS (chS 16 (List.replicate L (0 : Int)))).getD 0 0 = 0 ∧ (strS (chS 16 (List.replicate L (0 : Int)))).getD 65540 0 = 1 := by
  have hl : (List.replicate L (0 : Int)).length = L := by simp
  have e : strS (chS 16 (List.replicate L (0 : Int))) = hdS 0 65535 ++ ((List.replicate L (0 : Int)).take 65535 ++ (hdS 1 (L - 65535) ++ (List.replicate L (0 : Int)).drop 65535)) := by
    rw [strS_more (k := 15) (by omega), strS_last (by rw [List.length_drop]; omega), List.length_drop, hl]
  have ht : ((List.replicate L (0 : Int)).take 65535).length = 65535 := by rw [List.length_take]; omega
  rw [e]
  refine ⟨?_, rfl, ?_⟩
  · simp only [List.length_append, hdS_len, ht, List.length_drop, hl]
    omega
  · rw [List.getD_eq_getElem?_getD, List.getElem?_append_right (by rw [hdS_len]; omega), List.getElem?_append_right (by rw [hdS_len, ht]; omega), hdS_len, ht]
    rfl
end Go.Proofs.YtkdklcamgcmifaaDoor
