/- What the document's Put calls answer, as plain lists. -/
import Derived.Test.YtiocipmnmjpkfaaPAx2
namespace Go.Proofs.Ytiocipmnmjpkfaa
set_option linter.unusedVariables false
set_option linter.unusedSimpArgs false
open Go.RowKit Go.Proofs.YtiocipmnmjpkfaaW.PrintWords Go.Proofs.YtiocipmnmjpkfaaW.PrintLast Go.Proofs.YtiocipmnmjpkfaaW.PrintMore Go.Proofs.Ytiocipmnmjpkfaa.PA

theorem awake_f : codicillaw02_awake.f = some true := by decide +kernel
theorem twin_f (l : List Int) (h : l.length < 140737488355328) : codicilref01_Twin.f l = some l := by simp [codicilref01_Twin.f, h]
theorem same_self (l : List Int) : codicilref01_Same.f l l = some true := by simp [codicilref01_Same.f]
theorem wrap_u64 (x : Int) (h0 : 0 ≤ x) (h1 : x < 18446744073709551616) : IntKind.u64.wrap x = x := by
  simp [IntKind.wrap, IntKind.bits, IntKind.signed]
  omega
theorem wrap_id (x : Int) (h0 : -9223372036854775808 ≤ x) (h1 : x ≤ 9223372036854775807) : wrap64 x = x := by
  unfold wrap64
  omega

theorem docSize_loop : ∀ (f : Nat) (x : Int) (l : List Int) (k : Nat), f < k → 0 ≤ x → x < 128 ^ (f + 1) → x < 18446744073709551616 → l.length + f + 1 ≤ 140737488355328 →
    codicilref02_DocPutSize.l0 k x l = some (l ++ sizeL (f + 1) x) := by
  intro f
  induction f with
  | zero =>
    intro x l k hk h0 h1 h2 hl
    obtain ⟨k, rfl⟩ : ∃ j, k = j + 1 := ⟨k - 1, by omega⟩
    simp only [codicilref02_DocPutSize.l0]
    rw [if_neg (by omega), if_pos (by omega), sizeL_small _ _ (by omega), show x % 256 = x from by omega]
  | succ f ih =>
    intro x l k hk h0 h1 h2 hl
    obtain ⟨k, rfl⟩ : ∃ j, k = j + 1 := ⟨k - 1, by omega⟩
    simp only [codicilref02_DocPutSize.l0]
    by_cases hx : x > 127
    · rw [if_pos hx, if_pos (by omega), Int.tdiv_eq_ediv_of_nonneg h0, Int.tmod_eq_emod_of_nonneg h0, wrap_u64 _ (by omega) (by omega), show (x % 128 + 128) % 256 = x % 128 + 128 from by omega]
      rw [ih (x / 128) _ k (by omega) (by omega) ?_ (by omega) (by simp; omega), sizeL_more (f + 1) x (by omega)]
      · simp
      · rw [Int.pow_succ] at h1
        exact Int.ediv_lt_of_lt_mul (by decide) h1
    · rw [if_neg hx, if_pos (by omega), sizeL_small _ _ (by omega), show x % 256 = x from by omega]
theorem docSize_f (k : Nat) (l : List Int) (v : Int) (hk : 9 < k) (h0 : 0 ≤ v) (h1 : v < 18446744073709551616) (hl : l.length + 10 ≤ 140737488355328) : codicilref02_DocPutSize.f k l v = some (l ++ sizeL 10 v) := by
  unfold codicilref02_DocPutSize.f
  rw [if_pos (by simp; omega)]
  exact docSize_loop 9 v l k hk h0 (Int.lt_of_lt_of_le h1 (by decide)) h1 (by omega)

theorem take_rev_snoc (l : List Int) (i : Nat) (h : i < l.length) : (l.take (i + 1)).reverse = l.getD i 0 :: (l.take i).reverse := by
  rw [List.take_succ_eq_append_getElem h, List.reverse_append]
  simp [h]
theorem docSpan_l1 : ∀ (n : Nat) (b q : List Int) (k : Nat), n ≤ b.length → n < k → q.length + n ≤ 140737488355328 → b.length ≤ 4611686018427387904 →
    codicilref02_DocPutSpan.l1 k b q ((n : Int) - 1) = some (q ++ (b.take n).reverse) := by
  intro n
  induction n with
  | zero =>
    intro b q k hb hk hq hbb
    obtain ⟨k, rfl⟩ : ∃ j, k = j + 1 := ⟨k - 1, by omega⟩
    simp only [codicilref02_DocPutSpan.l1]
    rw [if_neg (by omega)]
    simp
  | succ n ih =>
    intro b q k hb hk hq hbb
    obtain ⟨k, rfl⟩ : ∃ j, k = j + 1 := ⟨k - 1, by omega⟩
    simp only [codicilref02_DocPutSpan.l1]
    have e : (((n + 1 : Nat) : Int) - 1) = (n : Int) := by omega
    rw [e, if_pos (by omega), if_pos (by omega), if_pos (by omega), if_pos (by omega), wrap_id _ (by omega) (by omega)]
    rw [ih b _ k (by omega) (by omega) (by simp; omega) hbb, take_rev_snoc b n (by omega)]
    simp [rd]
theorem docSpan_l0 : ∀ (f : Nat) (x : Int) (l b : List Int) (k : Nat), b.length + f + f + 1 < k → 0 ≤ x → x / 128 < 128 ^ f → x < 18446744073709551616 → b.length + f ≤ 1000 → l.length + b.length + f < 140737488355328 →
    codicilref02_DocPutSpan.l0 k l x b = some (l ++ (b ++ spanL f (x / 128)).reverse) := by
  intro f
  induction f with
  | zero =>
    intro x l b k hk h0 h1 h2 hb hl
    obtain ⟨k, rfl⟩ : ∃ j, k = j + 1 := ⟨k - 1, by omega⟩
    simp only [codicilref02_DocPutSpan.l0]
    rw [if_neg (by omega), if_pos (by simp; omega), wrap_id _ (by omega) (by omega), List.nil_append, docSpan_l1 b.length b l k (by omega) (by omega) (by omega) (by omega)]
    simp [spanL]
  | succ f ih =>
    intro x l b k hk h0 h1 h2 hb hl
    obtain ⟨k, rfl⟩ : ∃ j, k = j + 1 := ⟨k - 1, by omega⟩
    simp only [codicilref02_DocPutSpan.l0]
    by_cases hx : x > 127
    · rw [if_pos hx, if_pos (by omega), Int.tdiv_eq_ediv_of_nonneg h0, wrap_u64 (x / 128) (by omega) (by omega), wrap_u64 (x / 128 - 1) (by omega) (by omega), Int.tmod_eq_emod_of_nonneg (by omega), show ((x / 128 - 1) % 128 + 128) % 256 = (x / 128 - 1) % 128 + 128 from by omega]
      rw [ih (x / 128 - 1) l _ k (by simp; omega) (by omega) ?_ (by omega) (by simp; omega) (by simp; omega), spanL_more _ _ (by omega)]
      · simp
      · rw [Int.pow_succ] at h1
        exact Int.ediv_lt_of_lt_mul (by decide) (by omega)
    · rw [if_neg hx, if_pos (by simp; omega), wrap_id _ (by omega) (by omega), List.nil_append, docSpan_l1 b.length b l k (by omega) (by omega) (by omega) (by omega), spanL_none _ _ (by omega)]
      simp
theorem docSpan_f (k : Nat) (l : List Int) (v : Int) (hk : 30 < k) (h0 : 0 ≤ v) (h1 : v < 18446744073709551616) (hl : l.length + 20 ≤ 140737488355328) :
    codicilref02_DocPutSpan.f k l v = some (l ++ ((v % 128) :: spanL 10 (v / 128)).reverse) := by
  unfold codicilref02_DocPutSpan.f
  rw [Int.tmod_eq_emod_of_nonneg h0, show v % 128 % 256 = v % 128 from by omega]
  have := docSpan_l0 10 v l [v % 128] k (by simp; omega) h0 (Int.lt_of_lt_of_le (show v / 128 < 18446744073709551616 by omega) (by decide)) h1 (by simp) (by simp; omega)
  simpa using this

theorem docBig_loop : ∀ (n : Nat) (v : Int) (q : List Int) (k : Nat), n ≤ 8 → n < k → q.length + n ≤ 140737488355328 →
    codicilref02_PutBig.l0 k v q ((n : Int) - 1) = some (q ++ bigL n v) := by
  intro n
  induction n with
  | zero =>
    intro v q k hn hk hq
    obtain ⟨k, rfl⟩ : ∃ j, k = j + 1 := ⟨k - 1, by omega⟩
    simp only [codicilref02_PutBig.l0]
    rw [if_neg (by omega)]
    simp [bigL]
  | succ n ih =>
    intro v q k hn hk hq
    obtain ⟨k, rfl⟩ : ∃ j, k = j + 1 := ⟨k - 1, by omega⟩
    simp only [codicilref02_PutBig.l0]
    have e : (((n + 1 : Nat) : Int) - 1) = (n : Int) := by omega
    rw [e, if_pos (by omega), wrap_id (8 * (n : Int)) (by omega) (by omega), if_pos (by omega), if_pos (by omega), wrap_id _ (by omega) (by omega), ih v _ k (by omega) (by omega) (by simp; omega)]
    have e2 : bigL (n + 1) v = (v / 2 ^ (8 * n) % 256) :: bigL n v := by
      unfold bigL
      rw [List.range_succ_eq_map, List.map_cons, List.map_map]
      congr 1
      apply List.map_congr_left
      intro i hi
      simp only [List.mem_range] at hi
      simp only [Function.comp, Nat.succ_eq_add_one]
      rw [show n + 1 - 1 - (i + 1) = n - 1 - i from by omega]
    have e3 : shr .u64 v (8 * (n : Int)) = v / 2 ^ (8 * n) := by
      unfold shr
      rw [show (8 * (n : Int)).toNat = 8 * n from by omega, Nat.min_eq_left (by simp [IntKind.bits]; omega)]
    rw [e2, e3]
    simp
theorem docBig_f (k : Nat) (l : List Int) (v : Int) (n : Nat) (hk : 9 < k) (h1 : 1 ≤ n) (hn : n ≤ 8) (hl : l.length + 8 ≤ 140737488355328) : codicilref02_PutBig.f k l v n = some (l ++ bigL n v) := by
  unfold codicilref02_PutBig.f
  rw [if_pos (by simp; omega), wrap_id _ (by omega) (by omega), List.nil_append, docBig_loop n v l k hn (by omega) (by omega)]
theorem big_same (k : Nat) (l : List Int) (v n : Int) (hk : 11 < k) (h0 : 0 ≤ v) (h1 : v < 18446744073709551616) (hl : l.length ≤ 140737488351232) (hn : -9223372036854775808 ≤ n ∧ n ≤ 9223372036854775807) :
    ∃ r, num_PutBig.f l v n = some r ∧ codicilref02_DocPutBig.f k l v n = some r := by
  obtain ⟨k, rfl⟩ : ∃ j, k = j + 1 := ⟨k - 1, by omega⟩
  unfold num_PutBig.f codicilref02_DocPutBig.f
  by_cases h : n < 1
  · rw [if_pos (.inl h), if_pos h]
    exact ⟨_, rfl, by simp [codicilref02_DocPutBig.j0]⟩
  · rw [if_neg h]
    by_cases h8 : 8 < n
    · rw [if_pos (.inr h8), decide_eq_true (show n > 8 from h8)]
      exact ⟨_, rfl, by simp [codicilref02_DocPutBig.j0]⟩
    · rw [if_neg (by omega), if_pos ⟨by omega, h0, h1⟩, decide_eq_false (show ¬ n > 8 from h8)]
      obtain ⟨m, rfl⟩ := Int.eq_ofNat_of_zero_le (show 0 ≤ n by omega)
      simp only [codicilref02_DocPutBig.j0, Int.toNat_natCast, Bool.false_eq_true, if_false]
      rw [docBig_f k l v m (by omega) (by omega) (by omega) (by omega)]
      simp only [Option.bind_some]
      by_cases hm : (m : Int) < 8
      · rw [if_pos hm, wrap_id _ (by omega) (by omega), if_pos (show 0 ≤ 8 * (m : Int) by omega)]
        have e3 : shr .u64 v (8 * (m : Int)) = v / (2 ^ (8 * m) : Nat) := by
          unfold shr
          rw [show (8 * (m : Int)).toNat = 8 * m from by omega, Nat.min_eq_left (by simp [IntKind.bits]; omega)]
          simp
        have hp : 0 < 2 ^ (8 * m) := Nat.pow_pos (by decide)
        rw [e3]
        by_cases hv : v < (2 ^ (8 * m) : Nat)
        · rw [if_pos hv, if_pos (Int.ediv_eq_zero_of_lt h0 hv)]
          exact ⟨_, rfl, rfl⟩
        · rw [if_neg hv, if_neg (by
            intro he
            have h3 := Int.lt_ediv_add_one_mul_self v (show (0 : Int) < (2 ^ (8 * m) : Nat) by omega)
            rw [he] at h3
            omega)]
          exact ⟨_, rfl, rfl⟩
      · obtain rfl : m = 8 := by omega
        rw [if_neg hm, if_pos (by simp; omega)]
        exact ⟨_, rfl, rfl⟩
theorem head_same (k : Nat) (l : List Int) (kd s : Int) (hk : 15 < k) (h0 : 0 ≤ s) (h1 : s < 18446744073709551616) (hl : l.length ≤ 140737488351232) :
    ∃ r, num_PutHead.f l kd s = some r ∧ codicilref02_DocPutHead.f k l kd s = some r := by
  obtain ⟨k, rfl⟩ : ∃ j, k = j + 1 := ⟨k - 1, by omega⟩
  unfold num_PutHead.f codicilref02_DocPutHead.f
  by_cases h : kd < 0
  · rw [if_pos (.inl h), if_pos h]
    exact ⟨_, rfl, by simp [codicilref02_DocPutHead.j0]⟩
  · rw [if_neg h]
    by_cases h7 : 7 < kd
    · rw [if_pos (.inr h7), decide_eq_true (show kd > 7 from h7)]
      exact ⟨_, rfl, by simp [codicilref02_DocPutHead.j0]⟩
    · rw [if_neg (by omega), if_pos ⟨by omega, h0, h1⟩, decide_eq_false (show ¬ kd > 7 from h7)]
      simp only [codicilref02_DocPutHead.j0, Bool.false_eq_true, if_false]
      rw [if_pos (show ([] : List Int).length + l.length < 140737488355328 by simp; omega)]
      simp only [Option.bind_some, List.nil_append]
      rw [if_pos (show l.length < 140737488355328 by omega), Int.tmod_eq_emod_of_nonneg h0, Int.tdiv_eq_ediv_of_nonneg h0]
      unfold headL
      by_cases hs : s < 16
      · rw [if_pos hs, if_pos hs, show (kd % 256 * 16 + s % 16) % 256 = kd * 16 + s from by omega]
        exact ⟨_, rfl, rfl⟩
      · rw [if_neg hs, if_neg hs, if_pos (by omega), wrap_u64 _ (by omega) (by omega), docSize_f k _ _ (by omega) (by omega) (by omega) (by simp; omega), show (kd % 256 * 16 + s % 16 + 128) % 256 = kd * 16 + s % 16 + 128 from by omega]
        exact ⟨_, rfl, by simp⟩
end Go.Proofs.Ytiocipmnmjpkfaa
