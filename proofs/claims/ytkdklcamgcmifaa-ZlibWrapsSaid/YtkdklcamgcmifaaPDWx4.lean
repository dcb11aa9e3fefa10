-- Written by fprint.py, a program of this session, over the translation. Not trusted: Lean checks it.
import Derived.Test.YtkdklcamgcmifaaPDWx0
import Derived.Test.YtkdklcamgcmifaaPDWx1
import Derived.Test.YtkdklcamgcmifaaPDWx2
import Derived.Test.YtkdklcamgcmifaaPDWx3
namespace Go.Proofs.Ytkdklcamgcmifaa.PDW
open Go.RowKit Go.Proofs.YtkdklcamgcmifaaW.PrintWords Go.Proofs.YtkdklcamgcmifaaW.PrintLast Go.Proofs.YtkdklcamgcmifaaW.PrintMore
attribute [local go_sem] max2_int min2_int max_two min_two max_three min_three max_four min_four   -- for this text's walks alone
set_option linter.unusedVariables false
set_option linter.unusedSimpArgs false

/-! ### codicilref04_distance: function 32 -/
def dleastN (s : Nat) : Nat := if s < 4 then s + 1 else 1 + (2 + s % 2) * 2 ^ (s / 2 - 1)
def dmoreN (s : Nat) : Nat := if s < 4 then 0 else s / 2 - 1
theorem dis_table : ∀ s : Fin 30, codicilref03_Distance.f (s.val : Int) = some (((dleastN s.val : Nat) : Int), ((dmoreN s.val : Nat) : Int)) := by decide +kernel
/-- The distance's symbol is where it lies. -/
theorem dis_same (n : Nat) (h0 : 1 ≤ n) (h1 : n ≤ 32768) : disS n < 30 ∧ dleastN (disS n) ≤ n ∧ n < dleastN (disS n) + 2 ^ dmoreN (disS n) ∧ disX n = n - dleastN (disS n) ∧ disE n = dmoreN (disS n) := by
  by_cases h : n - 1 < 4
  · have e : disS n = n - 1 := by unfold disS; rw [if_pos h]
    have e2 : disX n = 0 := by unfold disX; rw [if_pos h]
    have e3 : disE n = 0 := by unfold disE; rw [if_pos h]
    rw [e, e2, e3]
    unfold dleastN dmoreN
    rw [if_pos h, if_pos h]
    omega
  · have hex := exN_eq (n - 1) 2 2 (by omega) (by omega)
    have e : disS n = 2 * exN (n - 1) 2 + 2 + (n - 1) / 2 ^ exN (n - 1) 2 % 2 := by unfold disS; rw [if_neg h]
    have e2 : disX n = (n - 1) % 2 ^ exN (n - 1) 2 := by unfold disX; rw [if_neg h]
    have e3 : disE n = exN (n - 1) 2 := by unfold disE; rw [if_neg h]
    rw [e, e2, e3]
    obtain ⟨v, hv⟩ : ∃ v, v = n - 1 := ⟨_, rfl⟩
    rw [← hv] at hex ⊢
    generalize exN v 2 = x at *
    have hp : 0 < 2 ^ x := Nat.pow_pos (by decide)
    have hx1 : 1 ≤ x := by
      rcases Nat.eq_zero_or_pos x with rfl | h9
      · have := hex.2.2; omega
      · exact h9
    have hx13 : x ≤ 13 := by
      rcases Nat.lt_or_ge 13 x with h9 | h9
      · have h8 : 2 ^ 15 ≤ 2 ^ (x + 2 - 1) := Nat.pow_le_pow_right (by decide) (by omega)
        have := hex.2.1
        omega
      · exact h9
    have hdiv : 2 ≤ v / 2 ^ x ∧ v / 2 ^ x < 4 := by
      constructor
      · rw [Nat.le_div_iff_mul_le hp, show 2 * 2 ^ x = 2 ^ (x + 2 - 1) from by rw [show x + 2 - 1 = 1 + x from by omega, Nat.pow_add]]
        exact hex.2.1
      · rw [Nat.div_lt_iff_lt_mul hp, show 4 * 2 ^ x = 2 ^ (x + 2) from by rw [show x + 2 = 2 + x from by omega, Nat.pow_add]]
        exact hex.2.2
    have hdm := Nat.div_add_mod v (2 ^ x)
    have hmlt : v % 2 ^ x < 2 ^ x := Nat.mod_lt _ hp
    obtain ⟨b, hb, hb2⟩ : ∃ b, v / 2 ^ x = 2 + b ∧ b < 2 := ⟨v / 2 ^ x - 2, by omega, by omega⟩
    rw [hb] at hdm ⊢
    rw [show (2 + b) % 2 = b from by omega]
    have hs4 : ¬ 2 * x + 2 + b < 4 := by omega
    have hs2 : (2 * x + 2 + b) % 2 = b := by omega
    have hs3 : (2 * x + 2 + b) / 2 - 1 = x := by omega
    unfold dleastN dmoreN
    rw [if_neg hs4, if_neg hs4, hs2, hs3]
    rw [Nat.mul_comm (2 + b)]
    generalize 2 ^ x * (2 + b) = y at *
    generalize v % 2 ^ x = z at *
    generalize 2 ^ x = u at *
    omega
theorem wrap_spell (l q : Nat) (hl : l ≤ 1000000) (hq : q ≤ 20) : wrap64 ((l : Int) + wrap64 ((2 : Int) ^ q)) = ((l + 2 ^ q : Nat) : Int) := by
  have h2 : 2 ^ q ≤ 2 ^ 20 := Nat.pow_le_pow_right (by decide) hq
  have h3 : (2 : Int) ^ q = ((2 ^ q : Nat) : Int) := by simp
  rw [h3]
  generalize 2 ^ q = u at h2 ⊢
  simp only [wrap64]
  omega
theorem dis_mono : ∀ s t : Fin 30, s.val < t.val → dleastN s.val + 2 ^ dmoreN s.val ≤ dleastN t.val := by decide +kernel
theorem dmore_le : ∀ s : Fin 30, dmoreN s.val ≤ 13 ∧ dleastN s.val ≤ 32768 := by decide +kernel
set_option maxHeartbeats 1000000 in
theorem rdistance_calls (base g : Nat) (W : World) (T N n : Nat) (hw : Bt base g W T N) (hn0 : 1 ≤ n) (hn1 : n ≤ 32768) (hN : N + 30 ≤ 1000000000000000) :
    Calls Try.prog 32 #[.pointer (some ⟨g, 0, none⟩), .int .i64 n] W fun e w' => BPuts base g W T N (disV n) (disN n) e w' := by
  have hW := Lib.hid hw
  have HS := Lib.hid (dis_same n hn0 hn1)
  clear hw
  go_enter Try.func32, Try.ntmps32
  go_wp2_with fail
  go_loopw [4] (fun i wr => ∃ s : Nat, s ≤ disS n ∧ i = .int .i64 s ∧ ∃ m, wr = W.drewN m) (fun i _ => 30 - (intOf i).toNat)
  case atStart => exact ⟨0, by omega, rfl, 0, rfl⟩
  case round =>
    obtain ⟨s, hs0, rfl, m, rfl⟩ := hrel
    have h30 : s < 30 := by have := HS.out.1; omega
    have htab := dis_table ⟨s, h30⟩
    have hmore := dmore_le ⟨s, h30⟩
    simp only at htab hmore
    have HT := Lib.hid htab
    clear htab
    have HM := Lib.hid (show s < disS n → dleastN s + 2 ^ dmoreN s ≤ n from fun h => Nat.le_trans (dis_mono ⟨s, h30⟩ ⟨disS n, HS.out.1⟩ h) HS.out.2.1)
    generalize hl : dleastN s = l at *
    generalize hq : dmoreN s = q at *
    have HL := Lib.hid hl
    have HQ := Lib.hid hq
    clear hl hq
    have hq0 : (0 : Int) ≤ (q : Int) := by omega
    have hq64 : (q : Int) < 64 := by omega
    have hi30 : (s : Int) < 30 := by omega
    go_wp2_with fail
    refine (codicilref03_Distance.calls _ _ _ _ HT.out).mono ?_
    rintro e w1 ⟨rfl, hd⟩
    obtain ⟨m1, rfl⟩ := hd.out
    go_wp2_with fail
    · have h9 : (n : Int) < wrap64 ((l : Int) + wrap64 ((2 : Int) ^ q)) := by assumption
      rw [wrap_spell l q (by omega) (by omega)] at h9
      have hle : l ≤ n := by assumption
      have hsn : s = disS n := by
        rcases Nat.lt_or_ge s (disS n) with h | h
        · have := HM.out h
          omega
        · omega
      have hE : disE n = q := by rw [HS.out.2.2.2.2, ← hsn, HQ.out]
      have hX : (n : Int) - (l : Int) = ((disX n : Nat) : Int) := by
        have h7 := HS.out.2.2.2.1
        rw [← hsn, HL.out] at h7
        omega
      have hXlt : disX n < 2 ^ q := by
        have h7 := HS.out.2.2.2.1
        rw [← hsn, HL.out] at h7
        omega
      have HE := Lib.hid hE
      have HX := Lib.hid hX
      have HXL := Lib.hid hXlt
      have HSN := Lib.hid hsn
      clear hE hX hsn hXlt h9
      refine (rcode_calls base g _ T N s 5 (hW.out.drewN _) (by omega) (by omega) (by omega)).mono ?_
      rintro e w2 ⟨rfl, hs2, hw2⟩
      have HS2 := Lib.hid hs2
      have HW2 := Lib.hid hw2
      clear hs2 hw2
      go_wp2_with fail
      rw [HX.out]
      refine (rnumber_calls base g w2 _ _ (disX n) q HW2.out HXL.out (by omega) (by omega)).mono ?_
      rintro e w3 ⟨rfl, hs3, hw3⟩
      have HS3 := Lib.hid hs3
      have HW3 := Lib.hid hw3
      clear hs3 hw3
      go_wp2_with fail
      refine bodyPost_ret (results_none rfl _ _ _) rfl ?_
      have hfin := BPuts.mk' (e := .returned (.tuple #[])) ⟨rfl, ((SF.refl g W).drewN _).trans HS2.out, HW2.out⟩ ⟨rfl, HS3.out, HW3.out⟩
      unfold disV disN
      rw [HE.out, ← HSN.out]
      exact hfin
    · have h9 : wrap64 ((l : Int) + wrap64 ((2 : Int) ^ q)) ≤ (n : Int) := by assumption
      rw [wrap_spell l q (by omega) (by omega)] at h9
      have hno : s ≠ disS n := fun e => by
        have h7 := HS.out.2.2.1
        rw [← e, HL.out, HQ.out] at h7
        omega
      go_roundw
      case rel => exact ⟨s + 1, by omega, by go_num, m + m1, rfl⟩
      case measure => simp [intOf] <;> omega
    · have h9 : ¬ l ≤ n := by assumption
      have hno : s ≠ disS n := fun e => by
        have h7 := HS.out.2.1
        rw [← e, HL.out] at h7
        omega
      go_roundw
      case rel => exact ⟨s + 1, by omega, by go_num, m + m1, rfl⟩
      case measure => simp [intOf] <;> omega


/-! ### codicilref04_Fixed: function 20 -/
theorem wrap_id (x : Int) (h0 : -9223372036854775808 ≤ x) (h1 : x ≤ 9223372036854775807) : wrap64 x = x := by
  simp only [wrap64]
  omega
theorem rd_nat (l : List Int) (i : Nat) : rd l (i : Int) = l.getD i 0 := by simp [rd, List.getD_eq_getElem?_getD]
theorem rsame (l : List Int) (i j : Nat) (hj : j < i) (hi : i ≤ l.length) (hl : l.length ≤ 1048576) : ∀ m n k : Nat, 258 - n = m → n ≤ 258 → m < k → (∀ t, t < n → i + t < l.length ∧ l.getD (i + t) 0 = l.getD (j + t) 0) → codicilref04_same.l0 k l (i : Int) (j : Int) (n : Int) = some ((sameN l i j : Nat) : Int) := by
  intro m
  induction m with
  | zero =>
    intro n k hm hn hk ha
    obtain ⟨k, rfl⟩ : ∃ q, k = q + 1 := ⟨k - 1, by omega⟩
    have h := (sameN_is l i j).unique ⟨hn, ha, fun h => by omega⟩
    simp only [codicilref04_same.l0]
    rw [if_neg (by omega), h]
  | succ m ih =>
    intro n k hm hn hk ha
    obtain ⟨k, rfl⟩ : ∃ q, k = q + 1 := ⟨k - 1, by omega⟩
    simp only [codicilref04_same.l0]
    rw [wrap_id ((i : Int) + n) (by omega) (by omega), wrap_id ((j : Int) + n) (by omega) (by omega), if_pos (by omega)]
    by_cases h1 : i + n < l.length
    · rw [if_pos (by omega), if_pos (by omega), if_pos (by omega), if_pos (by omega), show (i : Int) + n = ((i + n : Nat) : Int) from by omega, show (j : Int) + n = ((j + n : Nat) : Int) from by omega, rd_nat, rd_nat]
      by_cases h2 : l.getD (i + n) 0 = l.getD (j + n) 0
      · rw [if_pos h2, wrap_id ((n : Int) + 1) (by omega) (by omega), show (n : Int) + 1 = ((n + 1 : Nat) : Int) from by omega]
        exact ih (n + 1) k (by omega) (by omega) (by omega) (same_more ha h1 h2)
      · rw [if_neg h2, (sameN_is l i j).unique ⟨hn, ha, fun h => h2 h.2.2⟩]
    · rw [if_neg (by omega), (sameN_is l i j).unique ⟨hn, ha, fun h => h1 h.2.1⟩]
theorem rmatch (l : List Int) (i : Nat) (hi : i ≤ l.length) (hl : l.length ≤ 1048576) : ∀ (j b f k : Nat), j ≤ i → 2 * j + 300 ≤ k → codicilref04_match.l0 k l (i : Int) (b : Int) (f : Int) ((j : Int) - 1) = some (((docM l i j (b, f)).1 : Int), ((docM l i j (b, f)).2 : Int)) := by
  intro j
  induction j with
  | zero =>
    intro b f k hj hk
    obtain ⟨k, rfl⟩ : ∃ q, k = q + 2 := ⟨k - 2, by omega⟩
    simp only [codicilref04_match.l0, codicilref04_match.j1]
    rw [if_neg (by omega)]
    simp [docM]
  | succ j ih =>
    intro b f k hj hk
    obtain ⟨k, rfl⟩ : ∃ q, k = q + 2 := ⟨k - 2, by omega⟩
    have hsame := rsame l i j (by omega) hi hl 258 0 k (by omega) (by omega) (by omega) (fun t h => absurd h (by omega))
    have e1 : (((j + 1 : Nat) : Int) - 1) = (j : Int) := by omega
    rw [e1]
    simp only [codicilref04_match.l0, codicilref04_match.j1, codicilref04_same.f]
    rw [if_pos (by omega), wrap_id ((i : Int) - j) (by omega) (by omega), wrap_id ((j : Int) - 1) (by omega) (by omega), show ((0 : Nat) : Int) = 0 from rfl] at *
    by_cases hw : i ≤ j + 32768
    · rw [if_pos (by simp; omega)]
      rw [hsame]
      simp only [Option.bind_some]
      have e2 : ((i : Int) - j) = ((i - j : Nat) : Int) := by omega
      rw [docM]
      by_cases h3 : 3 ≤ sameN l i j
      · rw [if_pos (by omega)]
        by_cases h4 : b < sameN l i j
        · rw [if_pos (by omega), if_pos ⟨hw, h3, h4⟩, e2]
          exact ih (sameN l i j) (i - j) k (by omega) (by omega)
        · rw [if_neg (by omega), if_neg (fun h => h4 h.2.2)]
          exact ih b f k (by omega) (by omega)
      · rw [if_neg (by omega), if_neg (fun h => h3 h.2.1)]
        exact ih b f k (by omega) (by omega)
    · rw [if_neg (by simp; omega), docM_done l i (b, f) (j + 1) (fun r hr h => by omega)]
theorem match_is (l : List Int) (i : Nat) (hi : i ≤ l.length) (hl : l.length ≤ 1048576) : codicilref04_match.f (2 * i + 300) l (i : Int) = some (((mat l i).1 : Int), ((mat l i).2 : Int)) := by
  unfold codicilref04_match.f
  rw [wrap_id ((i : Int) - 1) (by omega) (by omega)]
  exact rmatch l i hi hl i 0 0 _ (Nat.le_refl _) (Nat.le_refl _)
theorem bt_row {base g : Nat} {W : World} {T N : Nat} (h : Bt base g W T N) : ∀ i, rowOf W g = some i → base ≤ i := by
  obtain ⟨v, hb, ho, hbg, hT⟩ := h
  intro i hi
  rw [rowOf_eq hb rfl] at hi
  exact own_base ho i hi
theorem bt_new (w : World) : Bt w.heap.size w.heap.size (w.alloc (.cells #[.slice none 0 0, .int .i64 0] 40)) 0 0 :=
  ⟨.slice none 0 0, heap_alloc_new w _, World.ownsRow_nil _ _ _ _, Nat.le_refl _, by decide⟩
set_option maxRecDepth 8000 in
set_option maxHeartbeats 4000000 in
theorem rfixed_calls (w : World) (A : Option Addr) (c : Nat) (l : List Int) (hC : Kd.C (Kd.int .u8) w A l.length l) (hc : l.length ≤ c) (hby : ∀ x ∈ l, 0 ≤ x ∧ x < 256) (hm : l.length ≤ 1048576) :
    Calls Try.prog 20 #[.slice A l.length c] w fun e w' => ∃ v, e = .returned v ∧ Bs 5 w' w.heap.size v (fixedB l) ∧ Below w.heap.size w w' := by
  have HL := Lib.hid (readsC hC)
  have HNEW := Lib.hid (bt_new w)
  clear hC
  go_enter Try.func20, Try.ntmps20
  go_wp2_with fail
  refine (bit_calls w.heap.size w.heap.size _ 0 0 1 HNEW.out (by decide) (by decide)).mono ?_
  rintro e w1 ⟨rfl, hs1, hw1⟩
  have HB1 := Lib.hid (hs1.below (below_alloc (Below.refl w.heap.size w) _) (by simp) (Nat.le_refl _) (bt_row HNEW.out))
  have HW1 := Lib.hid hw1
  clear hs1 hw1 HNEW
  go_wp2_with fail
  refine (rnumber_calls w.heap.size w.heap.size w1 _ _ 1 2 HW1.out (by decide) (by decide) (by decide)).mono ?_
  rintro e w2 ⟨rfl, hs2, hw2⟩
  have HB2 := Lib.hid (hs2.below HB1.out HB1.out.size (Nat.le_refl _) (bt_row HW1.out))
  have HW2 := Lib.hid (show Bt w.heap.size w.heap.size w2 3 3 from hw2)
  clear hs2 hw2 HW1 HB1
  go_wp2_with fail
  go_loopw [4] (fun vi wr => ∃ (i T N : Nat), vi = .int .i64 i ∧ i ≤ l.length ∧ N ≤ 3 + 40 * i ∧ Hid (Bt w.heap.size w.heap.size wr T N) ∧ Hid (Below w.heap.size w wr) ∧ Hid (fixT l i T N = fixT l 0 3 3)) (fun vi _ => l.length - (intOf vi).toNat)
  case atStart => exact ⟨0, 3, 3, rfl, by omega, by omega, HW2, HB2, Lib.hid rfl⟩
  case round =>
    obtain ⟨i, T, N, rfl, hi, hN, hw, hF, hT⟩ := hrel
    by_cases hlt : i < l.length
    · have i1 : (i : Int) < (l.length : Int) := by omega
      have i0 : (0 : Int) ≤ (i : Int) := by omega
      obtain ⟨n, hn⟩ : ∃ n, n = (mat l i).1 := ⟨_, rfl⟩
      obtain ⟨d, hd⟩ : ∃ d, d = (mat l i).2 := ⟨_, rfl⟩
      have hmb := mat_bounds l i
      rw [← hn, ← hd] at hmb
      have hmi := match_is l i hi hm
      rw [← hn, ← hd] at hmi
      have HN := Lib.hid hn
      have HD := Lib.hid hd
      have HM := Lib.hid hmi
      clear hn hd hmi
      go_wp2_with fail
      refine (codicilref04_match.calls (2 * i + 300) A c l (i : Int) (n : Int) (d : Int) wr (Kd.C_of_reads (HL.out.below hF.out)) hc HM.out).mono ?_
      rintro e w2 ⟨he, hdr⟩
      obtain ⟨m, rfl⟩ := hdr.out
      have HF3 := Lib.hid (pw_below_drewN hF.out m)
      have HW3 : Hid (Bt w.heap.size w.heap.size (wr.drewN m) T N) := Lib.hid hw.out
      clear hF hw hdr
      generalize wr.drewN m = w3 at *
      obtain ⟨ad, hA, hcell⟩ := (HL.out.below HF3.out).2.2 (by omega)
      subst hA
      rcases Nat.eq_zero_or_pos n with hz | hz
      · rw [hz, show ((0 : Nat) : Int) = 0 from rfl] at he
        subst he
        have k1 := hcell i hlt
        obtain ⟨s, hs, hs2⟩ : ∃ s : Nat, l.getD i 0 = (s : Int) ∧ s < 256 := by
          have := bytes_getD hby i
          exact ⟨(l.getD i 0).toNat, by omega, by omega⟩
        have HFX := Lib.hid ((fixT_lit hlt (by rw [← HN.out, hz])).symm.trans hT.out)
        rw [hs, Int.toNat_natCast] at HFX
        rw [hs] at k1
        clear hs hcell
        go_wp2_with fail
        refine (rsymbol_calls w.heap.size w.heap.size w3 T N s HW3.out (by omega) (by omega)).mono ?_
        rintro e w5 ⟨rfl, hs5, hw5⟩
        have HF5 := Lib.hid (hs5.below HF3.out HF3.out.size (Nat.le_refl _) (bt_row HW3.out))
        have HW5 := Lib.hid hw5
        have hN5 : N + symN s ≤ 3 + 40 * (i + 1) := by have := symN_le s; omega
        clear hs5 hw5 k1 HF3 HW3
        generalize T + symV s * 2 ^ N = T5 at HFX HW5
        generalize N + symN s = N5 at HFX HW5 hN5
        go_wp2_with fail
        go_roundw
        case rel => exact ⟨i + 1, T5, N5, by go_num, by omega, by omega, HW5, HF5, HFX⟩
        case measure => simp [intOf]; omega
      · subst he
        have hnz : ((n : Int) == 0) = false := by simp; omega
        have HFX := Lib.hid ((fixT_mat hlt (by rw [← HN.out]; omega)).symm.trans hT.out)
        rw [← HN.out, ← HD.out] at HFX
        clear hcell
        have hlN := lenE_le n (by omega) (by omega)
        have hdN := disE_le d (by omega) (by omega)
        go_wp2_with fail
        refine (rlength_calls w.heap.size w.heap.size w3 T N n HW3.out (by omega) (by omega) (by omega)).mono ?_
        rintro e w4 ⟨rfl, hs4, hw4⟩
        have HF4 := Lib.hid (hs4.below HF3.out HF3.out.size (Nat.le_refl _) (bt_row HW3.out))
        have HW4 := Lib.hid hw4
        clear hs4 hw4 HF3 HW3
        go_wp2_with fail
        refine (rdistance_calls w.heap.size w.heap.size w4 _ _ d HW4.out (by omega) (by omega) (by omega)).mono ?_
        rintro e w5 ⟨rfl, hs5, hw5⟩
        have HF5 := Lib.hid (hs5.below HF4.out HF4.out.size (Nat.le_refl _) (bt_row HW4.out))
        have HW5 := Lib.hid hw5
        have hN5 : N + lenN n + disN d ≤ 3 + 40 * (i + n) := by omega
        clear hs5 hw5 HF4 HW4
        generalize T + lenV n * 2 ^ N + disV d * 2 ^ (N + lenN n) = T5 at HFX HW5
        generalize N + lenN n + disN d = N5 at HFX HW5 hN5
        go_wp2_with fail
        go_roundw
        case rel => exact ⟨i + n, T5, N5, by go_num, by omega, by omega, HW5, HF5, HFX⟩
        case measure => simp [intOf]; omega
    · obtain rfl : i = l.length := by omega
      have HE := Lib.hid (hT.out.symm.trans (fixT_end (Nat.le_refl _)))
      go_wp2_with fail
      refine (rsymbol_calls w.heap.size w.heap.size wr T N 256 hw.out (by omega) (by omega)).mono ?_
      rintro e w2 ⟨rfl, hs2, hw2⟩
      have HB2 := Lib.hid (hs2.below hF.out hF.out.size (Nat.le_refl _) (bt_row hw.out))
      have HEQ : Hid (fixedB l = leB ((N + symN 256 + 7) / 8) (T + symV 256 * 2 ^ N)) := Lib.hid (by unfold fixedB; rw [HE.out])
      obtain ⟨v3, hb3, ho3, _, _⟩ := hw2
      have c0 : w2.cell? ⟨w.heap.size, 0, none⟩ = some v3 := blk_cell hb3 0
      have HO3 := Lib.hid ho3
      clear hb3 ho3 hs2 hF hw HE hT
      go_wp2_with fail
      go_ret
      refine ⟨v3, rfl, ?_, HB2.out⟩
      rw [HEQ.out]
      exact HO3.out
def codicilref04_Fixed.f (l0 : List Int) : Option (List Int) := if l0.length ≤ 1048576 ∧ (∀ x ∈ l0, 0 ≤ x ∧ x < 256) then some (fixedB l0) else none
theorem codicilref04_Fixed.calls (A0 : Option Addr) (c0 : Nat) (l0 : List Int) (r : List Int) (w : World) (hr0 : Kd.C (Kd.int .u8) w A0 l0.length l0) (hc0 : l0.length ≤ c0) (h : codicilref04_Fixed.f l0 = some r) :
    Calls Try.prog 20 #[.slice A0 l0.length c0] w fun e w' => ∃ v0_ : Value, e = .returned (v0_) ∧ Kd.R (Kd.int .u8) 5 w' w.heap.size (fun _ => True) v0_ r ∧ Below w.heap.size w w' := by
  unfold codicilref04_Fixed.f at h
  split at h
  · rename_i hb
    obtain rfl := Option.some.inj h
    exact (rfixed_calls w A0 c0 l0 hr0 hc0 hb.2 hb.1).mono fun e w' ⟨v, he, hv, hbl⟩ => ⟨v, he, Bs.toR hv, hbl⟩
  · cases h


/-! ### codicilref04_Stored: function 21 -/
set_option maxRecDepth 8000 in
set_option maxHeartbeats 4000000 in
theorem rstored_calls (w : World) (A : Option Addr) (c : Nat) (l : List Int) (hl : ReadsInt w .u8 A l.length l) (hc : l.length ≤ c) (hm : l.length ≤ 65534) :
    Calls Try.prog 21 #[.slice A l.length c] w fun e w' => ∃ v, e = .returned v ∧ Bs 5 w' w.heap.size v (storedB l) ∧ Below w.heap.size w w' := by
  have HL := Lib.hid hl
  obtain ⟨i0, hi0, _, hsz0, _⟩ := info_parts infoR
  have hcut := cut_to (P := Try.prog) 22 5 .i64 Try.underlying22 hi0 A l.length c (l.length : Int) (by omega) (by omega) hc
  have hcut2 := cut_from (P := Try.prog) 22 5 .i64 Try.underlying22 hi0 1 hsz0 A l.length c (l.length : Int) (by omega) (by omega)
  clear hl
  have h1 : ¬ (65535 : Int) < (l.length : Int) := by omega
  have HNIL := Lib.hid (show Bs 5 w w.heap.size (.slice none 0 0) [] from World.ownsRow_nil _ _ _ _)
  rw [Int.toNat_natCast] at hcut
  go_enter Try.func21, Try.ntmps21
  go_wp2_with fail
  go_loopw [0, 3] (fun v0 v3 wr => v0 = .slice A l.length c ∧ v3 = .slice none 0 0 ∧ Hid (Bs 5 wr w.heap.size (.slice none 0 0) []) ∧ Hid (Below w.heap.size w wr)) (fun _ _ _ => 0)
  case atStart => exact ⟨rfl, rfl, HNIL, Lib.hid (Below.refl _ _)⟩
  case round =>
    obtain ⟨rfl, rfl, hq, hb⟩ := hrel
    clear HNIL
    go_wp2_with (first
      | (at_builtin; refine brow_append_row' (w0 := w) w.heap.size rfl (.tmp 13) (.tmp 27) 22 5 rfl Try.underlying22 infoR (.slice none 0 0) [] _ (some ⟨wr.heap.size, 0, none⟩) 5 5 rfl rfl (pw_own_below hq.out (below_alloc (Below.refl _ _) _)) (own_reads' (own_lit wr _ 5 .u8 [1, (l.length : Int) % 256, (l.length : Int) / 256, Go.bits .xor .u8 255 ((l.length : Int) % 256), Go.bits .xor .u8 255 ((l.length : Int) / 256)] (Nat.le_refl _) (by simp))) (hb.out.alloc hb.out.size _) (by have := hb.out.size; simp; omega) (by simp) ?_; intro v1 w1 hown1 hb1; have HO1 := Lib.hid hown1; have HB1 := Lib.hid hb1; clear hown1 hb1)
      | (at_builtin; refine brow_append_row' (w0 := w) w.heap.size rfl (.tmp 29) (.tmp 32) 22 5 rfl Try.underlying22 infoR v1 _ l A l.length c rfl rfl HO1.out (HL.out.below HB1.out) HB1.out HB1.out.size (by simp; omega) ?_; intro v2 w2 hown2 hb2; have HO2 := Lib.hid hown2; have HB2 := Lib.hid hb2; clear hown2 hb2))
    all_goals (go_ret; exact ⟨v2, rfl, HO2.out, HB2.out⟩)
def codicilref04_Stored.f (l0 : List Int) : Option (List Int) := if l0.length ≤ 65534 then some (storedB l0) else none
theorem codicilref04_Stored.calls (A0 : Option Addr) (c0 : Nat) (l0 : List Int) (r : List Int) (w : World) (hr0 : Kd.C (Kd.int .u8) w A0 l0.length l0) (hc0 : l0.length ≤ c0) (h : codicilref04_Stored.f l0 = some r) :
    Calls Try.prog 21 #[.slice A0 l0.length c0] w fun e w' => ∃ v0_ : Value, e = .returned (v0_) ∧ Kd.R (Kd.int .u8) 5 w' w.heap.size (fun _ => True) v0_ r ∧ Below w.heap.size w w' := by
  unfold codicilref04_Stored.f at h
  split at h
  · rename_i hb
    obtain rfl := Option.some.inj h
    exact (rstored_calls w A0 c0 l0 (readsC hr0) hc0 hb).mono fun e w' ⟨v, he, hv, hbl⟩ => ⟨v, he, Bs.toR hv, hbl⟩
  · cases h


/-! ### codicilref04_Deflate: function 26 -/
def codicilref04_Deflate.f (l0 : List Int) (a1 : Int) : Option (List Int) := (codicilref04_Stored.f l0).bind fun t108 => (if a1 = 0 then (some t108) else ((codicilref04_Fixed.f l0).bind fun t111 => (if a1 = 2 then (if (t111.length : Int) ≥ (t108.length : Int) then (some t108) else (some t111)) else (some t111))))
set_option maxHeartbeats 8000000 in
set_option maxRecDepth 100000 in
theorem codicilref04_Deflate.calls (A0 : Option Addr) (c0 : Nat) (l0 : List Int) (a1 : Int) (r : List Int) (w : World) (hr0 : Kd.C (Kd.int .u8) w A0 l0.length l0) (hc0 : l0.length ≤ c0) (h : codicilref04_Deflate.f l0 a1 = some r) :
    Calls Try.prog 26 #[.slice A0 l0.length c0, .int .i64 a1] w fun e w' => ∃ v0_ : Value, e = .returned (v0_) ∧ Kd.R (Kd.int .u8) 5 w' w.heap.size (fun _ => True) v0_ r ∧ Below w.heap.size w w' := by
  have HR0 := Aside0.mk hr0
  have HC0 := Aside0.mk hc0
  clear hr0 hc0
  have HB := Aside0.mk (Below.refl w.heap.size w)
  have H : ((codicilref04_Stored.f l0).bind fun t108 => (if a1 = 0 then (some t108) else ((codicilref04_Fixed.f l0).bind fun t111 => (if a1 = 2 then (if (t111.length : Int) ≥ (t108.length : Int) then (some t108) else (some t111)) else (some t111))))) = some r := h
  clear h
  replace H := Option.bind_eq_some_iff.mp H
  obtain ⟨t108, A30, H⟩ := H
  replace H : (if a1 = 0 then (some t108) else ((codicilref04_Fixed.f l0).bind fun t111 => (if a1 = 2 then (if (t111.length : Int) ≥ (t108.length : Int) then (some t108) else (some t111)) else (some t111)))) = some r := H
  have A3 := Aside0.mk A30
  clear A30
  by_cases c4 : a1 = 0
  · rw [if_pos c4] at H
    have c4b0 : (a1 == 0) = true := beq_iff_eq.mpr c4
    have c4b1 : (a1 != 0) = false := bne_eq_false_iff_eq.mpr c4
    clear c4
    obtain rfl := Option.some.inj H
    go_enter Try.func26, Try.ntmps26
    go_wp2_with (first | ((with_reducible refine gate_callee (f := 21) rfl ?_); refine goesL_ (some 8) rfl rfl Try.func21 (by kernel_rfl) rfl #[.slice A0 l0.length c0] rfl (by (try simp only [List.map_toArray, List.map_cons, List.map_nil]); first | done | rfl | (simp only [List.length_drop, List.length_take]; rfl)) ?_; (with_reducible refine (codicilref04_Stored.calls _ _ l0 t108 _ ?side1 ?side2 A3.out).mono ?_); (case side1 => repeat (first | exact HR0.out | (with_reducible refine Kd.C_alloc ?_ _) | (with_reducible refine Kd.C_drewN ?_ _) | (with_reducible refine Kd.C_drew ?_))); (case side2 => exact HC0.out); rintro e w5 ⟨v109, rfl, ho0, hb⟩; refine ⟨_, rfl, ?_⟩; have n0_ := Aside0.mk (Kd.R_lower ho0 (below_size (by repeat (first | (with_reducible first | exact HB.out | apply below_alloc | apply pw_below_drewN | apply below_drew1) | exact HB.out)))); have n1_ := Aside0.mk (below_step (by repeat (first | (with_reducible first | exact HB.out | apply below_alloc | apply pw_below_drewN | apply below_drew1) | exact HB.out)) hb); clear HB; have HO110 := n0_; have HB := n1_; clear n0_ n1_; (try clear hb); (try clear hb2); (try clear hk); (try clear hi); (try clear ho0)))
    go_ret
    exact ⟨_, by first | rfl | (simp [errW_none, errW_some] <;> rfl) | (simp [*, errW_none, errW_some] <;> rfl), by (with_reducible repeat (first | apply Kd.R_alloc | apply Kd.R_drewN | apply Kd.R_drew)); exact HO110.out, by repeat (first | (with_reducible first | exact HB.out | apply below_alloc | apply pw_below_drewN | apply below_drew1) | exact HB.out)⟩
  · rw [if_neg c4] at H
    have c4b0 : (a1 == 0) = false := beq_eq_false_iff_ne.mpr c4
    have c4b1 : (a1 != 0) = true := bne_iff_ne.mpr c4
    replace H := Option.bind_eq_some_iff.mp H
    obtain ⟨t111, A60, H⟩ := H
    replace H : (if a1 = 2 then (if (t111.length : Int) ≥ (t108.length : Int) then (some t108) else (some t111)) else (some t111)) = some r := H
    have A6 := Aside0.mk A60
    clear A60
    by_cases c7 : a1 = 2
    · rw [if_pos c7] at H
      have c7b0 : (a1 == 2) = true := beq_iff_eq.mpr c7
      have c7b1 : (a1 != 2) = false := bne_eq_false_iff_eq.mpr c7
      clear c7
      by_cases c8 : (t111.length : Int) ≥ (t108.length : Int)
      · rw [if_pos c8] at H
        have c8b0 : decide ((t108.length : Int) ≤ (t111.length : Int)) = true := decide_eq_true c8
        have c8b1 : decide (t108.length ≤ t111.length) = true := decide_eq_true (Int.ofNat_le.mp c8)
        clear c8
        obtain rfl := Option.some.inj H
        go_enter Try.func26, Try.ntmps26
        go_wp2_with (first | ((with_reducible refine gate_callee (f := 21) rfl ?_); refine goesL_ (some 8) rfl rfl Try.func21 (by kernel_rfl) rfl #[.slice A0 l0.length c0] rfl (by (try simp only [List.map_toArray, List.map_cons, List.map_nil]); first | done | rfl | (simp only [List.length_drop, List.length_take]; rfl)) ?_; (with_reducible refine (codicilref04_Stored.calls _ _ l0 t108 _ ?side1 ?side2 A3.out).mono ?_); (case side1 => repeat (first | exact HR0.out | (with_reducible refine Kd.C_alloc ?_ _) | (with_reducible refine Kd.C_drewN ?_ _) | (with_reducible refine Kd.C_drew ?_))); (case side2 => exact HC0.out); rintro e w9 ⟨v109, rfl, ho0, hb⟩; refine ⟨_, rfl, ?_⟩; have n0_ := Aside0.mk (Kd.R_lower ho0 (below_size (by repeat (first | (with_reducible first | exact HB.out | apply below_alloc | apply pw_below_drewN | apply below_drew1) | exact HB.out)))); have n1_ := Aside0.mk (below_step (by repeat (first | (with_reducible first | exact HB.out | apply below_alloc | apply pw_below_drewN | apply below_drew1) | exact HB.out)) hb); clear HB; have HO110 := n0_; have HB := n1_; clear n0_ n1_; (try clear hb); (try clear hb2); (try clear hk); (try clear hi); (try clear ho0)) | ((with_reducible refine gate_callee (f := 20) rfl ?_); refine goesL_ (some 13) rfl rfl Try.func20 (by kernel_rfl) rfl #[.slice A0 l0.length c0] rfl (by (try simp only [List.map_toArray, List.map_cons, List.map_nil]); first | done | rfl | (simp only [List.length_drop, List.length_take]; rfl)) ?_; (with_reducible refine (codicilref04_Fixed.calls _ _ l0 t111 _ ?side1 ?side2 A6.out).mono ?_); (case side1 => repeat (first | exact (Kd.C_below HR0.out HB.out) | (with_reducible refine Kd.C_alloc ?_ _) | (with_reducible refine Kd.C_drewN ?_ _) | (with_reducible refine Kd.C_drew ?_))); (case side2 => exact HC0.out); rintro e w10 ⟨v112, rfl, ho0, hb⟩; refine ⟨_, rfl, ?_⟩; have n0_ := Aside0.mk (Kd.R_elder' (by (with_reducible repeat (first | apply Kd.R_alloc | apply Kd.R_drewN | apply Kd.R_drew)); exact HO110.out) (Kd.R_base ho0) hb); have n1_ := Aside0.mk (Kd.R_lower (Kd.R_new' ho0 (Kd.R_lt (by (with_reducible repeat (first | apply Kd.R_alloc | apply Kd.R_drewN | apply Kd.R_drew)); exact HO110.out))) (below_size (by repeat (first | (with_reducible first | exact HB.out | apply below_alloc | apply pw_below_drewN | apply below_drew1) | exact HB.out)))); have n2_ := Aside0.mk (below_step (by repeat (first | (with_reducible first | exact HB.out | apply below_alloc | apply pw_below_drewN | apply below_drew1) | exact HB.out)) hb); clear HO110; clear HB; have HO110 := n0_; have HO113 := n1_; have HB := n2_; clear n0_ n1_ n2_; (try clear hb); (try clear hb2); (try clear hk); (try clear hi); (try clear ho0); obtain ⟨Ao11, co11, eo11⟩ := Kd.R_slice HO113.out; subst eo11; obtain ⟨Ao12, co12, eo12⟩ := Kd.R_slice HO110.out; subst eo12))
        go_ret
        exact ⟨_, by first | rfl | (simp [errW_none, errW_some] <;> rfl) | (simp [*, errW_none, errW_some] <;> rfl), by (with_reducible repeat (first | apply Kd.R_alloc | apply Kd.R_drewN | apply Kd.R_drew)); exact Kd.R_mono HO110.out (fun _ hk => trivial), by repeat (first | (with_reducible first | exact HB.out | apply below_alloc | apply pw_below_drewN | apply below_drew1) | exact HB.out)⟩
      · rw [if_neg c8] at H
        have c8b0 : decide ((t108.length : Int) ≤ (t111.length : Int)) = false := decide_eq_false c8
        have c8b1 : decide (t108.length ≤ t111.length) = false := decide_eq_false (fun h => c8 (Int.ofNat_le.mpr h))
        clear c8
        obtain rfl := Option.some.inj H
        go_enter Try.func26, Try.ntmps26
        go_wp2_with (first | ((with_reducible refine gate_callee (f := 21) rfl ?_); refine goesL_ (some 8) rfl rfl Try.func21 (by kernel_rfl) rfl #[.slice A0 l0.length c0] rfl (by (try simp only [List.map_toArray, List.map_cons, List.map_nil]); first | done | rfl | (simp only [List.length_drop, List.length_take]; rfl)) ?_; (with_reducible refine (codicilref04_Stored.calls _ _ l0 t108 _ ?side1 ?side2 A3.out).mono ?_); (case side1 => repeat (first | exact HR0.out | (with_reducible refine Kd.C_alloc ?_ _) | (with_reducible refine Kd.C_drewN ?_ _) | (with_reducible refine Kd.C_drew ?_))); (case side2 => exact HC0.out); rintro e w13 ⟨v109, rfl, ho0, hb⟩; refine ⟨_, rfl, ?_⟩; have n0_ := Aside0.mk (Kd.R_lower ho0 (below_size (by repeat (first | (with_reducible first | exact HB.out | apply below_alloc | apply pw_below_drewN | apply below_drew1) | exact HB.out)))); have n1_ := Aside0.mk (below_step (by repeat (first | (with_reducible first | exact HB.out | apply below_alloc | apply pw_below_drewN | apply below_drew1) | exact HB.out)) hb); clear HB; have HO110 := n0_; have HB := n1_; clear n0_ n1_; (try clear hb); (try clear hb2); (try clear hk); (try clear hi); (try clear ho0)) | ((with_reducible refine gate_callee (f := 20) rfl ?_); refine goesL_ (some 13) rfl rfl Try.func20 (by kernel_rfl) rfl #[.slice A0 l0.length c0] rfl (by (try simp only [List.map_toArray, List.map_cons, List.map_nil]); first | done | rfl | (simp only [List.length_drop, List.length_take]; rfl)) ?_; (with_reducible refine (codicilref04_Fixed.calls _ _ l0 t111 _ ?side1 ?side2 A6.out).mono ?_); (case side1 => repeat (first | exact (Kd.C_below HR0.out HB.out) | (with_reducible refine Kd.C_alloc ?_ _) | (with_reducible refine Kd.C_drewN ?_ _) | (with_reducible refine Kd.C_drew ?_))); (case side2 => exact HC0.out); rintro e w14 ⟨v112, rfl, ho0, hb⟩; refine ⟨_, rfl, ?_⟩; have n0_ := Aside0.mk (Kd.R_elder' (by (with_reducible repeat (first | apply Kd.R_alloc | apply Kd.R_drewN | apply Kd.R_drew)); exact HO110.out) (Kd.R_base ho0) hb); have n1_ := Aside0.mk (Kd.R_lower (Kd.R_new' ho0 (Kd.R_lt (by (with_reducible repeat (first | apply Kd.R_alloc | apply Kd.R_drewN | apply Kd.R_drew)); exact HO110.out))) (below_size (by repeat (first | (with_reducible first | exact HB.out | apply below_alloc | apply pw_below_drewN | apply below_drew1) | exact HB.out)))); have n2_ := Aside0.mk (below_step (by repeat (first | (with_reducible first | exact HB.out | apply below_alloc | apply pw_below_drewN | apply below_drew1) | exact HB.out)) hb); clear HO110; clear HB; have HO110 := n0_; have HO113 := n1_; have HB := n2_; clear n0_ n1_ n2_; (try clear hb); (try clear hb2); (try clear hk); (try clear hi); (try clear ho0); obtain ⟨Ao15, co15, eo15⟩ := Kd.R_slice HO113.out; subst eo15; obtain ⟨Ao16, co16, eo16⟩ := Kd.R_slice HO110.out; subst eo16))
        go_ret
        exact ⟨_, by first | rfl | (simp [errW_none, errW_some] <;> rfl) | (simp [*, errW_none, errW_some] <;> rfl), by (with_reducible repeat (first | apply Kd.R_alloc | apply Kd.R_drewN | apply Kd.R_drew)); exact Kd.R_mono HO113.out (fun _ hk => trivial), by repeat (first | (with_reducible first | exact HB.out | apply below_alloc | apply pw_below_drewN | apply below_drew1) | exact HB.out)⟩
    · rw [if_neg c7] at H
      have c7b0 : (a1 == 2) = false := beq_eq_false_iff_ne.mpr c7
      have c7b1 : (a1 != 2) = true := bne_iff_ne.mpr c7
      obtain rfl := Option.some.inj H
      go_enter Try.func26, Try.ntmps26
      go_wp2_with (first | ((with_reducible refine gate_callee (f := 21) rfl ?_); refine goesL_ (some 8) rfl rfl Try.func21 (by kernel_rfl) rfl #[.slice A0 l0.length c0] rfl (by (try simp only [List.map_toArray, List.map_cons, List.map_nil]); first | done | rfl | (simp only [List.length_drop, List.length_take]; rfl)) ?_; (with_reducible refine (codicilref04_Stored.calls _ _ l0 t108 _ ?side1 ?side2 A3.out).mono ?_); (case side1 => repeat (first | exact HR0.out | (with_reducible refine Kd.C_alloc ?_ _) | (with_reducible refine Kd.C_drewN ?_ _) | (with_reducible refine Kd.C_drew ?_))); (case side2 => exact HC0.out); rintro e w17 ⟨v109, rfl, ho0, hb⟩; refine ⟨_, rfl, ?_⟩; have n0_ := Aside0.mk (Kd.R_lower ho0 (below_size (by repeat (first | (with_reducible first | exact HB.out | apply below_alloc | apply pw_below_drewN | apply below_drew1) | exact HB.out)))); have n1_ := Aside0.mk (below_step (by repeat (first | (with_reducible first | exact HB.out | apply below_alloc | apply pw_below_drewN | apply below_drew1) | exact HB.out)) hb); clear HB; have HO110 := n0_; have HB := n1_; clear n0_ n1_; (try clear hb); (try clear hb2); (try clear hk); (try clear hi); (try clear ho0)) | ((with_reducible refine gate_callee (f := 20) rfl ?_); refine goesL_ (some 13) rfl rfl Try.func20 (by kernel_rfl) rfl #[.slice A0 l0.length c0] rfl (by (try simp only [List.map_toArray, List.map_cons, List.map_nil]); first | done | rfl | (simp only [List.length_drop, List.length_take]; rfl)) ?_; (with_reducible refine (codicilref04_Fixed.calls _ _ l0 t111 _ ?side1 ?side2 A6.out).mono ?_); (case side1 => repeat (first | exact (Kd.C_below HR0.out HB.out) | (with_reducible refine Kd.C_alloc ?_ _) | (with_reducible refine Kd.C_drewN ?_ _) | (with_reducible refine Kd.C_drew ?_))); (case side2 => exact HC0.out); rintro e w18 ⟨v112, rfl, ho0, hb⟩; refine ⟨_, rfl, ?_⟩; have n0_ := Aside0.mk (Kd.R_elder' (by (with_reducible repeat (first | apply Kd.R_alloc | apply Kd.R_drewN | apply Kd.R_drew)); exact HO110.out) (Kd.R_base ho0) hb); have n1_ := Aside0.mk (Kd.R_lower (Kd.R_new' ho0 (Kd.R_lt (by (with_reducible repeat (first | apply Kd.R_alloc | apply Kd.R_drewN | apply Kd.R_drew)); exact HO110.out))) (below_size (by repeat (first | (with_reducible first | exact HB.out | apply below_alloc | apply pw_below_drewN | apply below_drew1) | exact HB.out)))); have n2_ := Aside0.mk (below_step (by repeat (first | (with_reducible first | exact HB.out | apply below_alloc | apply pw_below_drewN | apply below_drew1) | exact HB.out)) hb); clear HO110; clear HB; have HO110 := n0_; have HO113 := n1_; have HB := n2_; clear n0_ n1_ n2_; (try clear hb); (try clear hb2); (try clear hk); (try clear hi); (try clear ho0)))
      go_ret
      exact ⟨_, by first | rfl | (simp [errW_none, errW_some] <;> rfl) | (simp [*, errW_none, errW_some] <;> rfl), by (with_reducible repeat (first | apply Kd.R_alloc | apply Kd.R_drewN | apply Kd.R_drew)); exact Kd.R_mono HO113.out (fun _ hk => trivial), by repeat (first | (with_reducible first | exact HB.out | apply below_alloc | apply pw_below_drewN | apply below_drew1) | exact HB.out)⟩

/-! ### codicilref04_DocDeflate: function 16 -/
def codicilref04_DocDeflate.j0 : Nat → List Int → Int → Bool → Option (List Int × Int)
  | 0, _, _, _ => none
  | k + 1, x0, x1, x11 => if x11 = true then (some (([] : List Int), 1)) else (if (x0.length : Int) > 1048576 then (some (([] : List Int), 2)) else ((codicilref04_Deflate.f x0 x1).bind fun t114 => (some (t114, 0))))
def codicilref04_DocDeflate.f (k : Nat) (l0 : List Int) (a1 : Int) : Option (List Int × Int) := if a1 < 0 then (codicilref04_DocDeflate.j0 k l0 a1 true) else (codicilref04_DocDeflate.j0 k l0 a1 (decide (a1 > 2)))
theorem codicilref04_DocDeflate.mono_l : ∀ k, (∀ y0 y1 y2, LeO (codicilref04_DocDeflate.j0 k y0 y1 y2) (codicilref04_DocDeflate.j0 (k + 1) y0 y1 y2))
  | 0 => fun _ _ _ r h => by simp [codicilref04_DocDeflate.j0] at h
  | k + 1 => by
    have ih0 := codicilref04_DocDeflate.mono_l k
    · intro y0 y1 y2
      unfold codicilref04_DocDeflate.j0
      repeat' first
      | (with_reducible exact ih0 _ _ _)
      | (with_reducible exact LeO.refl _)
      | (with_reducible exact LeO.none _)
      | (with_reducible refine LeO.ite ?_ ?_)
      | (with_reducible refine LeO.bind ?_ (fun _ => ?_))
      | exact ih0 _ _ _
      | exact LeO.none _
      | refine LeO.ite ?_ ?_
      | refine LeO.bind ?_ (fun _ => ?_)
theorem codicilref04_DocDeflate.mono : ∀ a0 a1 k, LeO (codicilref04_DocDeflate.f k a0 a1) (codicilref04_DocDeflate.f (k + 1) a0 a1) := by
  intro a0 a1 k
  have ih0 := codicilref04_DocDeflate.mono_l k
  unfold codicilref04_DocDeflate.f
  repeat' first
      | (with_reducible exact ih0 _ _ _)
      | (with_reducible exact LeO.refl _)
      | (with_reducible exact LeO.none _)
      | (with_reducible refine LeO.ite ?_ ?_)
      | (with_reducible refine LeO.bind ?_ (fun _ => ?_))
      | exact ih0 _ _ _
      | exact LeO.none _
      | refine LeO.ite ?_ ?_
      | refine LeO.bind ?_ (fun _ => ?_)
set_option maxHeartbeats 8000000 in
set_option maxRecDepth 100000 in
theorem codicilref04_DocDeflate.calls (k : Nat) (A0 : Option Addr) (c0 : Nat) (l0 : List Int) (a1 : Int) (r1 : List Int) (r2 : Int) (w : World) (hr0 : Kd.C (Kd.int .u8) w A0 l0.length l0) (hc0 : l0.length ≤ c0) (h : codicilref04_DocDeflate.f k l0 a1 = some (r1, r2)) :
    Calls Try.prog 16 #[.slice A0 l0.length c0, .int .i64 a1] w fun e w' => ∃ v0_ : Value, e = .returned (.tuple #[v0_, .int .i64 r2]) ∧ Kd.R (Kd.int .u8) 5 w' w.heap.size (fun _ => True) v0_ r1 ∧ Below w.heap.size w w' := by
  have HR0 := Aside0.mk hr0
  have HC0 := Aside0.mk hc0
  clear hr0 hc0
  have HB := Aside0.mk (Below.refl w.heap.size w)
  have H : (if a1 < 0 then (codicilref04_DocDeflate.j0 k l0 a1 true) else (codicilref04_DocDeflate.j0 k l0 a1 (decide (a1 > 2)))) = some (r1, r2) := h
  clear h
  have HC3 := Aside0.mk H
  clear H
  go_enter Try.func16, Try.ntmps16
  go_upto_region 1 with (fail)
  go_cut [11] (fun v11 wc => ∃ (kq : Nat) (x11_2 : Bool), v11 = .bool x11_2 ∧ Aside0 (codicilref04_DocDeflate.j0 kq l0 a1 x11_2 = some (r1, r2)) ∧ Aside0 (kq ≤ k) ∧ Aside0 (Below w.heap.size w wc))
  case first =>
    have H := HC3.out
    clear HC3
    by_cases c4 : a1 < 0
    · rw [if_pos c4] at H
      have c4b0 : decide (a1 < 0) = true := decide_eq_true c4
      clear c4
      (first | rw [c4b0] | (simp only [i64_w, i32_w]; rw [c4b0]) | skip)
      have H' := Aside0.mk H
      clear H
      go_wp2
      go_meet
      case rel => exact ⟨_, (true), (by first | rfl | (simp; done) | (simp [*]; done)), H', ⟨by first | omega | exact Nat.le_refl _⟩, ⟨by repeat (first | (with_reducible first | exact HB.out | apply below_alloc | apply pw_below_drewN | apply below_drew1) | exact HB.out)⟩⟩
    · rw [if_neg c4] at H
      have c4b0 : decide (a1 < 0) = false := decide_eq_false c4
      clear c4
      (first | rw [c4b0] | (simp only [i64_w, i32_w]; rw [c4b0]) | skip)
      have H' := Aside0.mk H
      clear H
      go_wp2
      go_meet
      case rel => exact ⟨_, (decide (a1 > 2)), (by first | rfl | (simp; done) | (simp [*]; done)), H', ⟨by first | omega | exact Nat.le_refl _⟩, ⟨by repeat (first | (with_reducible first | exact HB.out | apply below_alloc | apply pw_below_drewN | apply below_drew1) | exact HB.out)⟩⟩
  case rest =>
    clear HC3
    try clear c1
    try clear p2
    try clear c4
    try clear c4b0
    obtain ⟨kq, x11_2, rfl, HA, HJ2, HB⟩ := hcut
    cases kq with
    | zero => exact absurd HA.out (by simp [codicilref04_DocDeflate.j0])
    | succ kj2 =>
      have H := HA.out
      clear HA
      simp only [codicilref04_DocDeflate.j0] at H
      by_cases c5 : x11_2 = true
      · subst c5
        have H1 : (some (([] : List Int), 1)) = some (r1, r2) := by rw [if_pos rfl] at H; exact H
        clear H
        have H := H1
        clear H1
        simp only [Option.some.injEq, Prod.mk.injEq] at H
        obtain ⟨rfl, rfl⟩ := H
        go_wp2
        go_ret2
        exact ⟨_, by first | rfl | (simp [errW_none, errW_some] <;> rfl) | (simp [*, errW_none, errW_some] <;> rfl), by first | exact Kd.R_nil _ _ _ _ _ | exact Kd.N_nil _ _ _ _ _ | exact Kd.V_nil _ _ _ _ _ | exact Kd.Q_nil _ _ _ _ _ | exact Kd.S_nil _ _ _ _ _, by repeat (first | (with_reducible first | exact HB.out | apply below_alloc | apply pw_below_drewN | apply below_drew1) | exact HB.out)⟩
      · replace c5 := Bool.eq_false_iff.mpr c5
        subst c5
        have H1 : (if (l0.length : Int) > 1048576 then (some (([] : List Int), 2)) else ((codicilref04_Deflate.f l0 a1).bind fun t114 => (some (t114, 0)))) = some (r1, r2) := by rw [if_neg (show ¬ (false = true) by decide)] at H; exact H
        clear H
        have H := H1
        clear H1
        by_cases c6 : (l0.length : Int) > 1048576
        · rw [if_pos c6] at H
          have c6b0 : decide (1048576 < (l0.length : Int)) = true := decide_eq_true c6
          have c6b1 : decide (1048576 < l0.length) = true := decide_eq_true (by omega)
          clear c6
          simp only [Option.some.injEq, Prod.mk.injEq] at H
          obtain ⟨rfl, rfl⟩ := H
          go_wp2
          go_ret2
          exact ⟨_, by first | rfl | (simp [errW_none, errW_some] <;> rfl) | (simp [*, errW_none, errW_some] <;> rfl), by first | exact Kd.R_nil _ _ _ _ _ | exact Kd.N_nil _ _ _ _ _ | exact Kd.V_nil _ _ _ _ _ | exact Kd.Q_nil _ _ _ _ _ | exact Kd.S_nil _ _ _ _ _, by repeat (first | (with_reducible first | exact HB.out | apply below_alloc | apply pw_below_drewN | apply below_drew1) | exact HB.out)⟩
        · rw [if_neg c6] at H
          have c6b0 : decide (1048576 < (l0.length : Int)) = false := decide_eq_false c6
          have c6b1 : decide (1048576 < l0.length) = false := decide_eq_false (by omega)
          clear c6
          replace H := Option.bind_eq_some_iff.mp H
          obtain ⟨t114, A70, H⟩ := H
          replace H : (some (t114, 0)) = some (r1, r2) := H
          have A7 := Aside0.mk A70
          clear A70
          simp only [Option.some.injEq, Prod.mk.injEq] at H
          obtain ⟨rfl, rfl⟩ := H
          go_wp2_with (first | ((with_reducible refine gate_callee (f := 26) rfl ?_); refine goesL_ (some 17) rfl rfl Try.func26 (by kernel_rfl) rfl #[.slice A0 l0.length c0, .int .i64 a1] rfl (by (try simp only [List.map_toArray, List.map_cons, List.map_nil]); first | done | rfl | (simp only [List.length_drop, List.length_take]; rfl)) ?_; (with_reducible refine (codicilref04_Deflate.calls _ _ l0 a1 t114 _ ?side1 ?side2 A7.out).mono ?_); (case side1 => repeat (first | exact (Kd.C_below HR0.out HB.out) | (with_reducible refine Kd.C_alloc ?_ _) | (with_reducible refine Kd.C_drewN ?_ _) | (with_reducible refine Kd.C_drew ?_))); (case side2 => exact HC0.out); rintro e w8 ⟨v115, rfl, ho0, hb⟩; refine ⟨_, rfl, ?_⟩; have n0_ := Aside0.mk (Kd.R_lower ho0 (below_size (by repeat (first | (with_reducible first | exact HB.out | apply below_alloc | apply pw_below_drewN | apply below_drew1) | exact HB.out)))); have n1_ := Aside0.mk (below_step (by repeat (first | (with_reducible first | exact HB.out | apply below_alloc | apply pw_below_drewN | apply below_drew1) | exact HB.out)) hb); clear HB; have HO116 := n0_; have HB := n1_; clear n0_ n1_; (try clear hb); (try clear hb2); (try clear hk); (try clear hi); (try clear ho0)))
          go_ret2
          exact ⟨_, by first | rfl | (simp [errW_none, errW_some] <;> rfl) | (simp [*, errW_none, errW_some] <;> rfl), by (with_reducible repeat (first | apply Kd.R_alloc | apply Kd.R_drewN | apply Kd.R_drew)); exact HO116.out, by repeat (first | (with_reducible first | exact HB.out | apply below_alloc | apply pw_below_drewN | apply below_drew1) | exact HB.out)⟩

/-! ### codicillaw04_DeflateWrites: function 4 -/
def codicillaw04_DeflateWrites.f (k : Nat) (l0 : List Int) (a1 : Int) : Option (Bool) := (codicillaw04_awake.f).bind fun t117 => (if t117 = true then (if (l0.length : Int) > 3000 then (some true) else ((codicilref01_Twin.f l0).bind fun t118 => ((deflate_Deflate.f t118 a1).bind fun bt121 => ((codicilref04_DocDeflate.f k l0 a1).bind fun bt125 => ((codicilref01_Same.f bt121.1 bt125.1).bind fun t129 => (if t129 = true then (some (bt121.2 == bt125.2)) else (some false))))))) else (some false))
theorem codicillaw04_DeflateWrites.mono : ∀ a0 a1 k, LeO (codicillaw04_DeflateWrites.f k a0 a1) (codicillaw04_DeflateWrites.f (k + 1) a0 a1) := by
  intro a0 a1 k
  unfold codicillaw04_DeflateWrites.f
  repeat' first
      | (with_reducible exact codicilref04_DocDeflate.mono _ _ _)
      | (with_reducible exact LeO.refl _)
      | (with_reducible exact LeO.none _)
      | (with_reducible refine LeO.ite ?_ ?_)
      | (with_reducible refine LeO.bind ?_ (fun _ => ?_))
      | exact codicilref04_DocDeflate.mono _ _ _
      | exact LeO.none _
      | refine LeO.ite ?_ ?_
      | refine LeO.bind ?_ (fun _ => ?_)
set_option maxHeartbeats 8000000 in
set_option maxRecDepth 100000 in
theorem codicillaw04_DeflateWrites.calls (k : Nat) (A0 : Option Addr) (c0 : Nat) (l0 : List Int) (a1 : Int) (r : Bool) (w : World) (hr0 : Kd.C (Kd.int .u8) w A0 l0.length l0) (hc0 : l0.length ≤ c0) (h : codicillaw04_DeflateWrites.f k l0 a1 = some r) :
    Calls Try.prog 4 #[.slice A0 l0.length c0, .int .i64 a1] w fun e w' => e = .returned (.bool r) ∧ Below w.heap.size w w' := by
  have HR0 := Aside0.mk hr0
  have HC0 := Aside0.mk hc0
  clear hr0 hc0
  have HB := Aside0.mk (Below.refl w.heap.size w)
  have H : ((codicillaw04_awake.f).bind fun t117 => (if t117 = true then (if (l0.length : Int) > 3000 then (some true) else ((codicilref01_Twin.f l0).bind fun t118 => ((deflate_Deflate.f t118 a1).bind fun bt121 => ((codicilref04_DocDeflate.f k l0 a1).bind fun bt125 => ((codicilref01_Same.f bt121.1 bt125.1).bind fun t129 => (if t129 = true then (some (bt121.2 == bt125.2)) else (some false))))))) else (some false))) = some r := h
  clear h
  replace H := Option.bind_eq_some_iff.mp H
  obtain ⟨t117, A30, H⟩ := H
  replace H : (if t117 = true then (if (l0.length : Int) > 3000 then (some true) else ((codicilref01_Twin.f l0).bind fun t118 => ((deflate_Deflate.f t118 a1).bind fun bt121 => ((codicilref04_DocDeflate.f k l0 a1).bind fun bt125 => ((codicilref01_Same.f bt121.1 bt125.1).bind fun t129 => (if t129 = true then (some (bt121.2 == bt125.2)) else (some false))))))) else (some false)) = some r := H
  have A3 := Aside0.mk A30
  clear A30
  by_cases c4 : t117 = true
  · subst c4
    have H1 : (if (l0.length : Int) > 3000 then (some true) else ((codicilref01_Twin.f l0).bind fun t118 => ((deflate_Deflate.f t118 a1).bind fun bt121 => ((codicilref04_DocDeflate.f k l0 a1).bind fun bt125 => ((codicilref01_Same.f bt121.1 bt125.1).bind fun t129 => (if t129 = true then (some (bt121.2 == bt125.2)) else (some false))))))) = some r := by rw [if_pos rfl] at H; exact H
    clear H
    have H := H1
    clear H1
    by_cases c5 : (l0.length : Int) > 3000
    · rw [if_pos c5] at H
      have c5b0 : decide (3000 < (l0.length : Int)) = true := decide_eq_true c5
      have c5b1 : decide (3000 < l0.length) = true := decide_eq_true (by omega)
      clear c5
      obtain rfl := Option.some.inj H
      go_enter Try.func4, Try.ntmps4
      go_wp2_with (first | ((with_reducible refine gate_callee (f := 14) rfl ?_); refine goesL_ (some 9) rfl rfl Try.func14 (by kernel_rfl) rfl #[] rfl (by (try simp only [List.map_toArray, List.map_cons, List.map_nil]); first | done | rfl | (simp only [List.length_drop, List.length_take]; rfl)) ?_; (with_reducible refine (codicillaw04_awake.calls  true _ A3.out).mono ?_); rintro e w6 ⟨rfl, hb⟩; refine ⟨_, rfl, ?_⟩; have n0_ := Aside0.mk (below_step (by repeat (first | (with_reducible first | exact HB.out | apply below_alloc | apply pw_below_drewN | apply below_drew1) | exact HB.out)) hb); clear HB; have HB := n0_; clear n0_; (try clear hb); (try clear hb2); (try clear hk); (try clear hi)))
      go_ret
      exact ⟨by first | rfl | (simp [errW_none, errW_some] <;> rfl) | (simp [*, errW_none, errW_some] <;> rfl), by repeat (first | (with_reducible first | exact HB.out | apply below_alloc | apply pw_below_drewN | apply below_drew1) | exact HB.out)⟩
    · rw [if_neg c5] at H
      have c5b0 : decide (3000 < (l0.length : Int)) = false := decide_eq_false c5
      have c5b1 : decide (3000 < l0.length) = false := decide_eq_false (by omega)
      clear c5
      replace H := Option.bind_eq_some_iff.mp H
      obtain ⟨t118, A70, H⟩ := H
      replace H : ((deflate_Deflate.f t118 a1).bind fun bt121 => ((codicilref04_DocDeflate.f k l0 a1).bind fun bt125 => ((codicilref01_Same.f bt121.1 bt125.1).bind fun t129 => (if t129 = true then (some (bt121.2 == bt125.2)) else (some false))))) = some r := H
      have A7 := Aside0.mk A70
      clear A70
      replace H := Option.bind_eq_some_iff.mp H
      obtain ⟨⟨t121, t122⟩, A80, H⟩ := H
      replace H : ((codicilref04_DocDeflate.f k l0 a1).bind fun bt125 => ((codicilref01_Same.f t121 bt125.1).bind fun t129 => (if t129 = true then (some (t122 == bt125.2)) else (some false)))) = some r := H
      have A8 := Aside0.mk A80
      clear A80
      replace H := Option.bind_eq_some_iff.mp H
      obtain ⟨⟨t125, t126⟩, A90, H⟩ := H
      replace H : ((codicilref01_Same.f t121 t125).bind fun t129 => (if t129 = true then (some (t122 == t126)) else (some false))) = some r := H
      have A9 := Aside0.mk A90
      clear A90
      replace H := Option.bind_eq_some_iff.mp H
      obtain ⟨t129, A100, H⟩ := H
      replace H : (if t129 = true then (some (t122 == t126)) else (some false)) = some r := H
      have A10 := Aside0.mk A100
      clear A100
      by_cases c11 : t129 = true
      · subst c11
        have H1 : (some (t122 == t126)) = some r := by rw [if_pos rfl] at H; exact H
        clear H
        have H := H1
        clear H1
        obtain rfl := Option.some.inj H
        go_enter Try.func4, Try.ntmps4
        go_wp2_with (first | ((with_reducible refine gate_callee (f := 14) rfl ?_); refine goesL_ (some 9) rfl rfl Try.func14 (by kernel_rfl) rfl #[] rfl (by (try simp only [List.map_toArray, List.map_cons, List.map_nil]); first | done | rfl | (simp only [List.length_drop, List.length_take]; rfl)) ?_; (with_reducible refine (codicillaw04_awake.calls  true _ A3.out).mono ?_); rintro e w12 ⟨rfl, hb⟩; refine ⟨_, rfl, ?_⟩; have n0_ := Aside0.mk (below_step (by repeat (first | (with_reducible first | exact HB.out | apply below_alloc | apply pw_below_drewN | apply below_drew1) | exact HB.out)) hb); clear HB; have HB := n0_; clear n0_; (try clear hb); (try clear hb2); (try clear hk); (try clear hi)) | ((with_reducible refine gate_callee (f := 10) rfl ?_); refine goesL_ (some 16) rfl rfl Try.func10 (by kernel_rfl) rfl #[.slice A0 l0.length c0] rfl (by (try simp only [List.map_toArray, List.map_cons, List.map_nil]); first | done | rfl | (simp only [List.length_drop, List.length_take]; rfl)) ?_; (with_reducible refine (codicilref01_Twin.calls _ _ l0 t118 _ ?side1 ?side2 A7.out).mono ?_); (case side1 => repeat (first | exact (Kd.C_below HR0.out HB.out) | (with_reducible refine Kd.C_alloc ?_ _) | (with_reducible refine Kd.C_drewN ?_ _) | (with_reducible refine Kd.C_drew ?_))); (case side2 => exact HC0.out); rintro e w13 ⟨v119, rfl, ho0, hb⟩; refine ⟨_, rfl, ?_⟩; have n0_ := Aside0.mk (Kd.R_lower ho0 (below_size (by repeat (first | (with_reducible first | exact HB.out | apply below_alloc | apply pw_below_drewN | apply below_drew1) | exact HB.out)))); have n1_ := Aside0.mk (below_step (by repeat (first | (with_reducible first | exact HB.out | apply below_alloc | apply pw_below_drewN | apply below_drew1) | exact HB.out)) hb); clear HB; have HO120 := n0_; have HB := n1_; clear n0_ n1_; (try clear hb); (try clear hb2); (try clear hk); (try clear hi); (try clear ho0); obtain ⟨Ao14, co14, eo14⟩ := Kd.R_slice HO120.out; subst eo14) | ((with_reducible refine gate_callee (f := 15) rfl ?_); refine goesL_ (some 18) rfl rfl Try.func15 (by kernel_rfl) rfl #[.slice Ao14 t118.length co14, .int .i64 a1] rfl (by (try simp only [List.map_toArray, List.map_cons, List.map_nil]); first | done | rfl | (simp only [List.length_drop, List.length_take]; rfl)) ?_; (with_reducible refine (deflate_Deflate.calls _ _ t118 a1 t121 t122 _ ?side1 ?side2 A8.out).mono ?_); (case side1 => repeat (first | exact (Kd.R_reads' HO120.out).2.2 | (with_reducible refine Kd.C_alloc ?_ _) | (with_reducible refine Kd.C_drewN ?_ _) | (with_reducible refine Kd.C_drew ?_))); (case side2 => exact (Kd.R_reads' HO120.out).2.1); rintro e w15 ⟨v123, rfl, ho0, hb⟩; refine ⟨_, rfl, ?_⟩; have n0_ := Aside0.mk (Kd.R_elder' (by (with_reducible repeat (first | apply Kd.R_alloc | apply Kd.R_drewN | apply Kd.R_drew)); exact HO120.out) (Kd.R_base ho0) hb); have n1_ := Aside0.mk (Kd.R_lower (Kd.R_new' ho0 (Kd.R_lt (by (with_reducible repeat (first | apply Kd.R_alloc | apply Kd.R_drewN | apply Kd.R_drew)); exact HO120.out))) (below_size (by repeat (first | (with_reducible first | exact HB.out | apply below_alloc | apply pw_below_drewN | apply below_drew1) | exact HB.out)))); have n2_ := Aside0.mk (below_step (by repeat (first | (with_reducible first | exact HB.out | apply below_alloc | apply pw_below_drewN | apply below_drew1) | exact HB.out)) hb); clear HO120; clear HB; have HO120 := n0_; have HO124 := n1_; have HB := n2_; clear n0_ n1_ n2_; (try clear hb); (try clear hb2); (try clear hk); (try clear hi); (try clear ho0)) | ((with_reducible refine gate_callee (f := 16) rfl ?_); refine goesL_ (some 24) rfl rfl Try.func16 (by kernel_rfl) rfl #[.slice A0 l0.length c0, .int .i64 a1] rfl (by (try simp only [List.map_toArray, List.map_cons, List.map_nil]); first | done | rfl | (simp only [List.length_drop, List.length_take]; rfl)) ?_; (with_reducible refine (codicilref04_DocDeflate.calls k _ _ l0 a1 t125 t126 _ ?side1 ?side2 A9.out).mono ?_); (case side1 => repeat (first | exact (Kd.C_below HR0.out HB.out) | (with_reducible refine Kd.C_alloc ?_ _) | (with_reducible refine Kd.C_drewN ?_ _) | (with_reducible refine Kd.C_drew ?_))); (case side2 => exact HC0.out); rintro e w16 ⟨v127, rfl, ho0, hb⟩; refine ⟨_, rfl, ?_⟩; have n0_ := Aside0.mk (Kd.R_elder' (by (with_reducible repeat (first | apply Kd.R_alloc | apply Kd.R_drewN | apply Kd.R_drew)); exact HO120.out) (Kd.R_base ho0) hb); have n1_ := Aside0.mk (Kd.R_elder' (by (with_reducible repeat (first | apply Kd.R_alloc | apply Kd.R_drewN | apply Kd.R_drew)); exact HO124.out) (Kd.R_base ho0) hb); have n2_ := Aside0.mk (Kd.R_lower (Kd.R_new' (Kd.R_new' ho0 (Kd.R_lt (by (with_reducible repeat (first | apply Kd.R_alloc | apply Kd.R_drewN | apply Kd.R_drew)); exact HO120.out))) (Kd.R_lt (by (with_reducible repeat (first | apply Kd.R_alloc | apply Kd.R_drewN | apply Kd.R_drew)); exact HO124.out))) (below_size (by repeat (first | (with_reducible first | exact HB.out | apply below_alloc | apply pw_below_drewN | apply below_drew1) | exact HB.out)))); have n3_ := Aside0.mk (below_step (by repeat (first | (with_reducible first | exact HB.out | apply below_alloc | apply pw_below_drewN | apply below_drew1) | exact HB.out)) hb); clear HO120; clear HO124; clear HB; have HO120 := n0_; have HO124 := n1_; have HO128 := n2_; have HB := n3_; clear n0_ n1_ n2_ n3_; (try clear hb); (try clear hb2); (try clear hk); (try clear hi); (try clear ho0); obtain ⟨Ao17, co17, eo17⟩ := Kd.R_slice HO124.out; subst eo17; obtain ⟨Ao18, co18, eo18⟩ := Kd.R_slice HO128.out; subst eo18) | ((with_reducible refine gate_callee (f := 17) rfl ?_); refine goesL_ (some 29) rfl rfl Try.func17 (by kernel_rfl) rfl #[.slice Ao17 t121.length co17, .slice Ao18 t125.length co18] rfl (by (try simp only [List.map_toArray, List.map_cons, List.map_nil]); first | done | rfl | (simp only [List.length_drop, List.length_take]; rfl)) ?_; (with_reducible refine (codicilref01_Same.calls _ _ t121 _ _ t125 true _ ?side1 ?side2 ?side3 ?side4 A10.out).mono ?_); (case side1 => repeat (first | exact (Kd.R_reads' HO124.out).2.2 | (with_reducible refine Kd.C_alloc ?_ _) | (with_reducible refine Kd.C_drewN ?_ _) | (with_reducible refine Kd.C_drew ?_))); (case side2 => exact (Kd.R_reads' HO124.out).2.1); (case side3 => repeat (first | exact (Kd.R_reads' HO128.out).2.2 | (with_reducible refine Kd.C_alloc ?_ _) | (with_reducible refine Kd.C_drewN ?_ _) | (with_reducible refine Kd.C_drew ?_))); (case side4 => exact (Kd.R_reads' HO128.out).2.1); rintro e w' ⟨rfl, ⟨nd, rfl⟩⟩; refine ⟨_, rfl, ?_⟩))
        go_ret
        exact ⟨by first | rfl | (simp [errW_none, errW_some] <;> rfl) | (simp [*, errW_none, errW_some] <;> rfl), by repeat (first | (with_reducible first | exact HB.out | apply below_alloc | apply pw_below_drewN | apply below_drew1) | exact HB.out)⟩
      · replace c11 := Bool.eq_false_iff.mpr c11
        subst c11
        have H1 : (some false) = some r := by rw [if_neg (show ¬ (false = true) by decide)] at H; exact H
        clear H
        have H := H1
        clear H1
        obtain rfl := Option.some.inj H
        go_enter Try.func4, Try.ntmps4
        go_wp2_with (first | ((with_reducible refine gate_callee (f := 14) rfl ?_); refine goesL_ (some 9) rfl rfl Try.func14 (by kernel_rfl) rfl #[] rfl (by (try simp only [List.map_toArray, List.map_cons, List.map_nil]); first | done | rfl | (simp only [List.length_drop, List.length_take]; rfl)) ?_; (with_reducible refine (codicillaw04_awake.calls  true _ A3.out).mono ?_); rintro e w19 ⟨rfl, hb⟩; refine ⟨_, rfl, ?_⟩; have n0_ := Aside0.mk (below_step (by repeat (first | (with_reducible first | exact HB.out | apply below_alloc | apply pw_below_drewN | apply below_drew1) | exact HB.out)) hb); clear HB; have HB := n0_; clear n0_; (try clear hb); (try clear hb2); (try clear hk); (try clear hi)) | ((with_reducible refine gate_callee (f := 10) rfl ?_); refine goesL_ (some 16) rfl rfl Try.func10 (by kernel_rfl) rfl #[.slice A0 l0.length c0] rfl (by (try simp only [List.map_toArray, List.map_cons, List.map_nil]); first | done | rfl | (simp only [List.length_drop, List.length_take]; rfl)) ?_; (with_reducible refine (codicilref01_Twin.calls _ _ l0 t118 _ ?side1 ?side2 A7.out).mono ?_); (case side1 => repeat (first | exact (Kd.C_below HR0.out HB.out) | (with_reducible refine Kd.C_alloc ?_ _) | (with_reducible refine Kd.C_drewN ?_ _) | (with_reducible refine Kd.C_drew ?_))); (case side2 => exact HC0.out); rintro e w20 ⟨v119, rfl, ho0, hb⟩; refine ⟨_, rfl, ?_⟩; have n0_ := Aside0.mk (Kd.R_lower ho0 (below_size (by repeat (first | (with_reducible first | exact HB.out | apply below_alloc | apply pw_below_drewN | apply below_drew1) | exact HB.out)))); have n1_ := Aside0.mk (below_step (by repeat (first | (with_reducible first | exact HB.out | apply below_alloc | apply pw_below_drewN | apply below_drew1) | exact HB.out)) hb); clear HB; have HO120 := n0_; have HB := n1_; clear n0_ n1_; (try clear hb); (try clear hb2); (try clear hk); (try clear hi); (try clear ho0); obtain ⟨Ao21, co21, eo21⟩ := Kd.R_slice HO120.out; subst eo21) | ((with_reducible refine gate_callee (f := 15) rfl ?_); refine goesL_ (some 18) rfl rfl Try.func15 (by kernel_rfl) rfl #[.slice Ao21 t118.length co21, .int .i64 a1] rfl (by (try simp only [List.map_toArray, List.map_cons, List.map_nil]); first | done | rfl | (simp only [List.length_drop, List.length_take]; rfl)) ?_; (with_reducible refine (deflate_Deflate.calls _ _ t118 a1 t121 t122 _ ?side1 ?side2 A8.out).mono ?_); (case side1 => repeat (first | exact (Kd.R_reads' HO120.out).2.2 | (with_reducible refine Kd.C_alloc ?_ _) | (with_reducible refine Kd.C_drewN ?_ _) | (with_reducible refine Kd.C_drew ?_))); (case side2 => exact (Kd.R_reads' HO120.out).2.1); rintro e w22 ⟨v123, rfl, ho0, hb⟩; refine ⟨_, rfl, ?_⟩; have n0_ := Aside0.mk (Kd.R_elder' (by (with_reducible repeat (first | apply Kd.R_alloc | apply Kd.R_drewN | apply Kd.R_drew)); exact HO120.out) (Kd.R_base ho0) hb); have n1_ := Aside0.mk (Kd.R_lower (Kd.R_new' ho0 (Kd.R_lt (by (with_reducible repeat (first | apply Kd.R_alloc | apply Kd.R_drewN | apply Kd.R_drew)); exact HO120.out))) (below_size (by repeat (first | (with_reducible first | exact HB.out | apply below_alloc | apply pw_below_drewN | apply below_drew1) | exact HB.out)))); have n2_ := Aside0.mk (below_step (by repeat (first | (with_reducible first | exact HB.out | apply below_alloc | apply pw_below_drewN | apply below_drew1) | exact HB.out)) hb); clear HO120; clear HB; have HO120 := n0_; have HO124 := n1_; have HB := n2_; clear n0_ n1_ n2_; (try clear hb); (try clear hb2); (try clear hk); (try clear hi); (try clear ho0)) | ((with_reducible refine gate_callee (f := 16) rfl ?_); refine goesL_ (some 24) rfl rfl Try.func16 (by kernel_rfl) rfl #[.slice A0 l0.length c0, .int .i64 a1] rfl (by (try simp only [List.map_toArray, List.map_cons, List.map_nil]); first | done | rfl | (simp only [List.length_drop, List.length_take]; rfl)) ?_; (with_reducible refine (codicilref04_DocDeflate.calls k _ _ l0 a1 t125 t126 _ ?side1 ?side2 A9.out).mono ?_); (case side1 => repeat (first | exact (Kd.C_below HR0.out HB.out) | (with_reducible refine Kd.C_alloc ?_ _) | (with_reducible refine Kd.C_drewN ?_ _) | (with_reducible refine Kd.C_drew ?_))); (case side2 => exact HC0.out); rintro e w23 ⟨v127, rfl, ho0, hb⟩; refine ⟨_, rfl, ?_⟩; have n0_ := Aside0.mk (Kd.R_elder' (by (with_reducible repeat (first | apply Kd.R_alloc | apply Kd.R_drewN | apply Kd.R_drew)); exact HO120.out) (Kd.R_base ho0) hb); have n1_ := Aside0.mk (Kd.R_elder' (by (with_reducible repeat (first | apply Kd.R_alloc | apply Kd.R_drewN | apply Kd.R_drew)); exact HO124.out) (Kd.R_base ho0) hb); have n2_ := Aside0.mk (Kd.R_lower (Kd.R_new' (Kd.R_new' ho0 (Kd.R_lt (by (with_reducible repeat (first | apply Kd.R_alloc | apply Kd.R_drewN | apply Kd.R_drew)); exact HO120.out))) (Kd.R_lt (by (with_reducible repeat (first | apply Kd.R_alloc | apply Kd.R_drewN | apply Kd.R_drew)); exact HO124.out))) (below_size (by repeat (first | (with_reducible first | exact HB.out | apply below_alloc | apply pw_below_drewN | apply below_drew1) | exact HB.out)))); have n3_ := Aside0.mk (below_step (by repeat (first | (with_reducible first | exact HB.out | apply below_alloc | apply pw_below_drewN | apply below_drew1) | exact HB.out)) hb); clear HO120; clear HO124; clear HB; have HO120 := n0_; have HO124 := n1_; have HO128 := n2_; have HB := n3_; clear n0_ n1_ n2_ n3_; (try clear hb); (try clear hb2); (try clear hk); (try clear hi); (try clear ho0); obtain ⟨Ao24, co24, eo24⟩ := Kd.R_slice HO124.out; subst eo24; obtain ⟨Ao25, co25, eo25⟩ := Kd.R_slice HO128.out; subst eo25) | ((with_reducible refine gate_callee (f := 17) rfl ?_); refine goesL_ (some 29) rfl rfl Try.func17 (by kernel_rfl) rfl #[.slice Ao24 t121.length co24, .slice Ao25 t125.length co25] rfl (by (try simp only [List.map_toArray, List.map_cons, List.map_nil]); first | done | rfl | (simp only [List.length_drop, List.length_take]; rfl)) ?_; (with_reducible refine (codicilref01_Same.calls _ _ t121 _ _ t125 false _ ?side1 ?side2 ?side3 ?side4 A10.out).mono ?_); (case side1 => repeat (first | exact (Kd.R_reads' HO124.out).2.2 | (with_reducible refine Kd.C_alloc ?_ _) | (with_reducible refine Kd.C_drewN ?_ _) | (with_reducible refine Kd.C_drew ?_))); (case side2 => exact (Kd.R_reads' HO124.out).2.1); (case side3 => repeat (first | exact (Kd.R_reads' HO128.out).2.2 | (with_reducible refine Kd.C_alloc ?_ _) | (with_reducible refine Kd.C_drewN ?_ _) | (with_reducible refine Kd.C_drew ?_))); (case side4 => exact (Kd.R_reads' HO128.out).2.1); rintro e w' ⟨rfl, ⟨nd, rfl⟩⟩; refine ⟨_, rfl, ?_⟩))
        go_ret
        exact ⟨by first | rfl | (simp [errW_none, errW_some] <;> rfl) | (simp [*, errW_none, errW_some] <;> rfl), by repeat (first | (with_reducible first | exact HB.out | apply below_alloc | apply pw_below_drewN | apply below_drew1) | exact HB.out)⟩
  · replace c4 := Bool.eq_false_iff.mpr c4
    subst c4
    have H1 : (some false) = some r := by rw [if_neg (show ¬ (false = true) by decide)] at H; exact H
    clear H
    have H := H1
    clear H1
    obtain rfl := Option.some.inj H
    go_enter Try.func4, Try.ntmps4
    go_wp2_with (first | ((with_reducible refine gate_callee (f := 14) rfl ?_); refine goesL_ (some 9) rfl rfl Try.func14 (by kernel_rfl) rfl #[] rfl (by (try simp only [List.map_toArray, List.map_cons, List.map_nil]); first | done | rfl | (simp only [List.length_drop, List.length_take]; rfl)) ?_; (with_reducible refine (codicillaw04_awake.calls  false _ A3.out).mono ?_); rintro e w26 ⟨rfl, hb⟩; refine ⟨_, rfl, ?_⟩; have n0_ := Aside0.mk (below_step (by repeat (first | (with_reducible first | exact HB.out | apply below_alloc | apply pw_below_drewN | apply below_drew1) | exact HB.out)) hb); clear HB; have HB := n0_; clear n0_; (try clear hb); (try clear hb2); (try clear hk); (try clear hi)))
    go_ret
    exact ⟨by first | rfl | (simp [errW_none, errW_some] <;> rfl) | (simp [*, errW_none, errW_some] <;> rfl), by repeat (first | (with_reducible first | exact HB.out | apply below_alloc | apply pw_below_drewN | apply below_drew1) | exact HB.out)⟩

/-- THE ONE PURE STATEMENT of codicillaw04_DeflateWrites: yours. -/
def codicillaw04_DeflateWrites.Pure : Prop := ∀ (l0 : List Int) (a1 : Int), l0.length ≤ maxLen → l0.length * 1 ≤ 140737488351232 → (∀ x ∈ l0, (Lit.int .u8 x).wf = true) → (Lit.int .i64 a1).wf = true → ∃ k, codicillaw04_DeflateWrites.f k l0 a1 = some true
theorem codicillaw04_DeflateWrites.walk (P : codicillaw04_DeflateWrites.Pure) (a0 : Option Addr) (len0 cap0 : Nat) (z0 : List Int) (a1 : Int) (w : World) (w0 : (a0 = none ∧ len0 = 0 ∧ cap0 = 0 ∧ z0 = []) ∨ ∃ x, a0 = some x ∧ len0 ≤ cap0 ∧ cap0 ≤ maxLen ∧ z0.length = cap0 ∧ (∀ i, i < z0.length → w.cell? (x.add i) = some (.int .u8 (z0.getD i 0))) ∧ ∀ n ∈ z0, (Lit.int .u8 n).wf = true) (y0 : len0 * 1 ≤ 140737488351232) (w1 : (Lit.int .i64 a1).wf = true) :
    Calls Try.prog 4 #[.slice a0 len0 cap0, .int .i64 a1] w fun e w' => e = .returned (.bool true) ∧ Below w.heap.size w w' := by
  obtain ⟨l0, rfl, hr0, hm0, hw0, hc0⟩ := ReadsInt.ofRowC w0
  obtain ⟨k, h⟩ := P l0 a1 hm0 y0 hw0 w1
  refine (codicillaw04_DeflateWrites.calls k _ _ l0 a1 true w (Kd.C_of_reads (d := (0 : Int)) (h1 := fun _ => rfl) hr0) hc0 h).mono ?_
  rintro e w' ⟨rfl, hd⟩
  exact ⟨rfl, hd⟩

/-! ### codicillaw04_DeflateSizes: function 5 -/
def codicillaw04_DeflateSizes.Pure : Prop := True
theorem lenN_small (n : Nat) (h : n < 11) : lenN n ≤ 9 := by
  have hs := symN_le (lenS n)
  unfold lenN lenE
  rw [if_neg (by omega), if_pos h]
  omega
theorem fixT_bound (l : List Int) : ∀ (m i T N : Nat), l.length - i = m → (fixT l i T N).2 ≤ N + 9 * m := by
  intro m
  induction m using Nat.strongRecOn with
  | _ m ih =>
    intro i T N hm
    by_cases h : i < l.length
    · by_cases hn : (mat l i).1 = 0
      · rw [fixT_lit h hn]
        have h1 := ih (m - 1) (by omega) (i + 1) (T + symV (l.getD i 0).toNat * 2 ^ N) (N + symN (l.getD i 0).toNat) (by omega)
        have h2 := symN_le (l.getD i 0).toNat
        omega
      · rw [fixT_mat h hn]
        have hb := mat_bounds l i
        generalize (mat l i).1 = n at *
        generalize (mat l i).2 = d at *
        have h1 := ih (m - n) (by omega) (i + n) (T + lenV n * 2 ^ N + disV d * 2 ^ (N + lenN n)) (N + lenN n + disN d) (by omega)
        have h2 := lenE_le n (by omega) (by omega)
        have h3 := disE_le d (by omega) (by omega)
        rcases Nat.lt_or_ge n 11 with e | e
        · have h4 := lenN_small n e
          omega
        · omega
    · rw [fixT_end (by omega)]
      show N ≤ _
      omega
theorem fixed_len (l : List Int) : (fixedB l).length ≤ (9 * l.length + 17) / 8 := by
  unfold fixedB
  rw [leB_length]
  have h := fixT_bound l l.length 0 3 3 (by omega)
  have h2 : symN 256 = 7 := by decide
  rw [h2]
  omega
theorem docD_2 (l : List Int) : docD l 2 = ((docD l 2).1, 0) ∧ (docD l 2).1.length = if (fixedB l).length < l.length + 5 then (fixedB l).length else l.length + 5 := by
  unfold docD
  rw [if_neg (by omega), if_neg (by omega), stored_len]
  by_cases h : l.length + 5 ≤ (fixedB l).length
  · rw [if_pos ⟨rfl, h⟩, if_neg (by omega)]
    exact ⟨rfl, stored_len l⟩
  · rw [if_neg (fun k => h k.2), if_pos (by omega)]
    exact ⟨rfl, rfl⟩
theorem docs_0 (l : List Int) : docD l 0 = (storedB l, 0) := by unfold docD; rw [if_neg (by omega), if_pos rfl]
theorem docs_1 (l : List Int) : docD l 1 = (fixedB l, 0) := by unfold docD; rw [if_neg (by omega), if_neg (by omega), if_neg (by omega)]
theorem twin_calls (w : World) (A : Option Addr) (c : Nat) (l : List Int) (hl : ReadsInt w .u8 A l.length l) (hc : l.length ≤ c) (hm : l.length ≤ 60000) :
    Calls Try.prog 10 #[.slice A l.length c] w fun e w' => ∃ B d, e = .returned (.slice B l.length d) ∧ ReadsInt w' .u8 B l.length l ∧ l.length ≤ d ∧ Below w.heap.size w w' := by
  have ht : codicilref01_Twin.f l = some l := by
    unfold codicilref01_Twin.f
    rw [if_pos (by simp; omega)]
    rfl
  refine (codicilref01_Twin.calls A c l l w (toC hl) hc ht).mono ?_
  rintro e w' ⟨v, rfl, hv, hb⟩
  obtain ⟨B, d, rfl, hd, hr, _⟩ := aw4_open hv
  exact ⟨B, d, rfl, hr, hd, hb⟩
theorem deflates_at (w : World) (A : Option Addr) (c : Nat) (l : List Int) (a : Int) (n : Nat) (hl : ReadsInt w .u8 A l.length l) (hc : l.length ≤ c) (hby : ∀ x ∈ l, 0 ≤ x ∧ x < 256) (hm : l.length ≤ 60000) (h0 : (docD l a).2 = 0) (hn : (docD l a).1.length = n) :
    Calls Try.prog 15 #[.slice A l.length c, .int .i64 a] w fun e w' => ∃ B d, e = .returned (.tuple #[.slice B n d, .int .i64 0]) ∧ Below w.heap.size w w' := by
  refine (deflate_calls w A c l a hl hc hby hm).mono ?_
  rintro e w' ⟨v, rfl, hv, hb⟩
  obtain ⟨B, d, rfl⟩ := own_slice hv
  rw [h0, hn]
  exact ⟨B, d, rfl, hb⟩
set_option maxHeartbeats 4000000 in
set_option maxRecDepth 100000 in
theorem deflateSizes_calls (A : Option Addr) (c : Nat) (l : List Int) (w : World) (hl : ReadsInt w .u8 A l.length l) (hc : l.length ≤ c) (hby : ∀ x ∈ l, 0 ≤ x ∧ x < 256) :
    Calls Try.prog 5 #[.slice A l.length c] w fun e w' => e = .returned (.bool true) ∧ Below w.heap.size w w' := by
  have HL := Lib.hid hl
  have HBY := Lib.hid hby
  have HAW := Lib.hid (show codicillaw04_awake.f = some true from rfl)
  clear hl hby
  by_cases hbig : 5000 < l.length
  · have hbI : (l.length : Int) > 5000 := by omega
    go_enter Try.func5, Try.ntmps5
    go_wp2_with fail
    refine (codicillaw04_awake.calls true _ HAW.out).mono ?_
    rintro e w0 ⟨rfl, hb0⟩
    have HB0 := Lib.hid hb0
    clear hb0
    go_wp2_with fail
    go_ret
    exact ⟨rfl, HB0.out⟩
  have hm : l.length ≤ 60000 := by omega
  have hbI : ¬ (l.length : Int) > 5000 := by omega
  have hfl := fixed_len l
  obtain ⟨nb, hnb⟩ : ∃ n, (fixedB l).length = n := ⟨_, rfl⟩
  obtain ⟨nc, hnc⟩ : ∃ n, (docD l 2).1.length = n := ⟨_, rfl⟩
  have hd2 := (docD_2 l).2
  rw [hnb, hnc] at hd2
  rw [hnb] at hfl
  obtain ⟨na, hna⟩ : ∃ n, l.length + 5 = n := ⟨_, rfl⟩
  rw [hna] at hd2
  obtain ⟨q, hq⟩ : ∃ q, (9 * l.length + 17) / 8 = q := ⟨_, rfl⟩
  have HNB := Lib.hid hnb
  have HNC := Lib.hid hnc
  have HNA := Lib.hid hna
  have hqI : ((9 : Int) * (l.length : Int) + 10 + 7).tdiv 8 = (q : Int) := by rw [Int.tdiv_eq_ediv_of_nonneg (by omega)]; omega
  have hle : (nb : Int) ≤ (q : Int) := by omega
  have hqb : (q : Int) ≤ 10000 := by omega
  have hq0 : (0 : Int) ≤ (q : Int) := by omega
  have hnaI : ((na : Int) == (l.length : Int) + 5) = true := by simp; omega
  have HMIN : Hid ((nb < na ∧ nc = nb) ∨ (¬ nb < na ∧ nc = na)) := Lib.hid (by
    by_cases h : nb < na
    · rw [if_pos h] at hd2; exact .inl ⟨h, hd2⟩
    · rw [if_neg h] at hd2; exact .inr ⟨h, hd2⟩)
  clear hd2 hfl hnb hnc hna hq
  go_enter Try.func5, Try.ntmps5
  go_wp2_with fail
  refine (codicillaw04_awake.calls true _ HAW.out).mono ?_
  rintro e w0 ⟨rfl, hb0⟩
  have HB0 := Lib.hid hb0
  clear hb0
  go_wp2_with fail
  refine (twin_calls w0 A c l (HL.out.below HB0.out) hc hm).mono ?_
  rintro e w0t ⟨At0, ct0, rfl, ht0, hct0, hbt0⟩
  have HT0 := Lib.hid ht0
  have HBT0 := Lib.hid (below_then HB0.out HB0.out.size hbt0)
  clear ht0 hbt0
  go_wp2_with fail
  refine (deflates_at w0t At0 ct0 l 0 na HT0.out hct0 HBY.out hm (by rw [docs_0]) (by rw [docs_0]; exact (stored_len l).trans HNA.out)).mono ?_
  rintro e w0d ⟨Ad0, cd0, rfl, hbd0⟩
  have HBD0 := Lib.hid (below_then HBT0.out HBT0.out.size hbd0)
  clear hbd0 HT0 HBT0
  go_wp2_with fail
  refine (twin_calls w0d A c l (HL.out.below HBD0.out) hc hm).mono ?_
  rintro e w1t ⟨At1, ct1, rfl, ht1, hct1, hbt1⟩
  have HT1 := Lib.hid ht1
  have HBT1 := Lib.hid (below_then HBD0.out HBD0.out.size hbt1)
  clear ht1 hbt1
  go_wp2_with fail
  refine (deflates_at w1t At1 ct1 l 1 nb HT1.out hct1 HBY.out hm (by rw [docs_1]) (by rw [docs_1]; exact HNB.out)).mono ?_
  rintro e w1d ⟨Ad1, cd1, rfl, hbd1⟩
  have HBD1 := Lib.hid (below_then HBT1.out HBT1.out.size hbd1)
  clear hbd1 HT1 HBT1
  go_wp2_with fail
  refine (twin_calls w1d A c l (HL.out.below HBD1.out) hc hm).mono ?_
  rintro e w2t ⟨At2, ct2, rfl, ht2, hct2, hbt2⟩
  have HT2 := Lib.hid ht2
  have HBT2 := Lib.hid (below_then HBD1.out HBD1.out.size hbt2)
  clear ht2 hbt2
  go_wp2_with fail
  refine (deflates_at w2t At2 ct2 l 2 nc HT2.out hct2 HBY.out hm (by rw [(docD_2 l).1]) (HNC.out)).mono ?_
  rintro e w2d ⟨Ad2, cd2, rfl, hbd2⟩
  have HBD2 := Lib.hid (below_then HBT2.out HBT2.out.size hbd2)
  clear hbd2 HT2 HBT2
  rcases HMIN.out with ⟨h1, h2⟩ | ⟨h1, h2⟩
  · have m1 : (nb : Int) < (na : Int) := by omega
    have m2 : ((nc : Int) == (nb : Int)) = true := by simp; omega
    clear h1 h2
    go_wp2_with fail
    go_ret
    exact ⟨rfl, HBD2.out⟩
  · have m1 : ¬ (nb : Int) < (na : Int) := by omega
    have m2 : ((nc : Int) == (na : Int)) = true := by simp; omega
    clear h1 h2
    go_wp2_with fail
    go_ret
    exact ⟨rfl, HBD2.out⟩
theorem codicillaw04_DeflateSizes.walk (P : codicillaw04_DeflateSizes.Pure) (a0 : Option Addr) (len0 cap0 : Nat) (z0 : List Int) (w : World) (w0 : (a0 = none ∧ len0 = 0 ∧ cap0 = 0 ∧ z0 = []) ∨ ∃ x, a0 = some x ∧ len0 ≤ cap0 ∧ cap0 ≤ maxLen ∧ z0.length = cap0 ∧ (∀ i, i < z0.length → w.cell? (x.add i) = some (.int .u8 (z0.getD i 0))) ∧ ∀ n ∈ z0, (Lit.int .u8 n).wf = true) (y0 : len0 * 1 ≤ 140737488351232) :
    Calls Try.prog 5 #[.slice a0 len0 cap0] w fun e w' => e = .returned (.bool true) ∧ Below w.heap.size w w' := by
  obtain ⟨l0, rfl, hr0, hm0, hw0, hc0⟩ := ReadsInt.ofRowC w0
  exact deflateSizes_calls _ _ l0 w hr0 hc0 (fun x hx => by have := hw0 x hx; simp [Lit.wf, IntKind.min, IntKind.max, IntKind.signed, IntKind.bits] at this; omega)


/-! ### codicilref01_Spare: function 18 -/
set_option maxHeartbeats 1000000 in
theorem spare_calls (A : Option Addr) (c : Nat) (l : List Int) (w : World) (hl : ReadsInt w .u8 A l.length l) (hn : l.length + 8 ≤ 140737488355328) :
    Calls Try.prog 18 #[.slice A l.length c] w fun e w' => ∃ g cap, e = .returned (.tuple #[.slice (some ⟨g, 0, none⟩) l.length cap, .slice (some ⟨g, 0, none⟩) (l.length + 4) cap]) ∧ Bs 5 w' w.heap.size (.slice (some ⟨g, 0, none⟩) (l.length + 4) cap) (l ++ [41, 42, 43, 44]) ∧ Below w.heap.size w w' := by
  have HL := Lib.hid hl
  clear hl
  have hmk := make_room (P := Try.prog) 22 5 (.int .u8 0) 1 Try.underlying22 infoU8 rfl ((l.length : Int) + 4) (l.length + 4) (by omega) (by omega) (by omega)
  go_enter Try.func18, Try.ntmps18
  go_wp2_with (first | (at_builtin; refine brow_append_row' (w0 := w) w.heap.size rfl (.tmp 9) (.tmp 10) 22 5 rfl Try.underlying22 infoU8 (.slice (some ⟨w.heap.size, 0, none⟩) 0 (l.length + 4)) [] l A l.length c rfl rfl (own_room w w.heap.size 5 (.int .u8 0) (l.length + 4) (Nat.le_refl _) (by simp only [maxLen]; omega)) (HL.out.allocS _) (below_alloc (Below.refl _ _) _) (by simp) (by simp; omega) ?_; intro v1 w1 hown1 hb1; have HO1 := Lib.hid hown1; have HB1 := Lib.hid hb1; clear hown1 hb1) | (at_builtin; refine brow_append_row' (w0 := w) w.heap.size rfl (.tmp 12) (.tmp 13) 22 5 rfl Try.underlying22 infoU8 v1 ([] ++ l) [41, 42, 43, 44] (some ⟨w1.heap.size, 0, none⟩) 4 4 rfl rfl (pw_own_below HO1.out (below_alloc (Below.refl _ _) _)) (own_reads' (own_lit w1 _ 5 .u8 [41, 42, 43, 44] (Nat.le_refl _) (by simp))) (HB1.out.alloc HB1.out.size _) (by have := HB1.out.size; simp; omega) (by simp; omega) ?_; intro v2 w2 hown2 hb2; have HO2 := Lib.hid hown2; have HB2 := Lib.hid hb2; clear hown2 hb2; obtain ⟨g, cap, hv2, _, _⟩ := World.ownsRow.form HO2.out (by simp); rw [show ([] ++ l ++ [41, 42, 43, 44] : List Int).length = l.length + 4 from by simp] at hv2; subst hv2; have hcap : l.length + 4 ≤ cap := (own_cap (n := l.length + 4) (by simpa [Bs] using HO2.out)).1; have hcap0 : l.length ≤ cap := (by omega)))
  go_ret2
  refine ⟨g, cap, rfl, ?_, HB2.out⟩
  have := HO2.out
  simpa using this


end Go.Proofs.Ytkdklcamgcmifaa.PDW
