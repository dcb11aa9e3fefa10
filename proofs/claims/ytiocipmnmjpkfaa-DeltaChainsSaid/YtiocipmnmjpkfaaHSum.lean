/- num.sum: the value of groups, the lowest first. -/
import Derived.Test.YtiocipmnmjpkfaaHRead
namespace Go.Proofs.Ytiocipmnmjpkfaa
set_option linter.unusedVariables false
set_option linter.unusedSimpArgs false
open Go.RowKit Go.Proofs.YtiocipmnmjpkfaaW.PrintWords Go.Proofs.YtiocipmnmjpkfaaW.PrintMore

/-- The value of groups that begin at the bit s. -/
def sumV : Nat → List Int → Int
  | _, [] => 0
  | s, b :: r => (b % 128) * 2 ^ s + sumV (s + 7) r
theorem sumV_snoc : ∀ (l : List Int) (s : Nat) (b : Int), sumV s (l ++ [b]) = sumV s l + (b % 128) * 2 ^ (s + 7 * l.length) := by
  intro l
  induction l with
  | nil => intro s b; simp [sumV]
  | cons a r ih =>
    intro s b
    simp only [List.cons_append, sumV, ih, List.length_cons]
    rw [show s + 7 + 7 * r.length = s + 7 * (r.length + 1) from by omega]
    omega
theorem sumV_nonneg : ∀ (l : List Int) (s : Nat), 0 ≤ sumV s l := by
  intro l
  induction l with
  | nil => intro s; simp [sumV]
  | cons a r ih =>
    intro s
    simp only [sumV]
    have h1 := ih (s + 7)
    have h2 : 0 ≤ a % 128 := by omega
    have h3 : (0 : Int) ≤ 2 ^ s := Int.le_of_lt (Int.pow_pos (by decide))
    have h4 := Int.mul_nonneg h2 h3
    omega
theorem sumV_le : ∀ (l : List Int) (s : Nat), sumV s l + 2 ^ s ≤ 2 ^ (s + 7 * l.length) := by
  intro l
  induction l with
  | nil => intro s; simp [sumV]
  | cons a r ih =>
    intro s
    simp only [sumV, List.length_cons]
    have h := ih (s + 7)
    have hp : (0 : Int) < 2 ^ s := Int.pow_pos (by decide)
    have e : (2 : Int) ^ (s + 7) = 2 ^ s * 128 := by
      rw [Int.pow_add]
      rfl
    rw [show s + 7 * (r.length + 1) = s + 7 + 7 * r.length from by omega]
    have h2 : a % 128 ≤ 127 := by omega
    have h3 := Int.mul_le_mul_of_nonneg_right h2 (Int.le_of_lt hp)
    rw [e] at h
    generalize (2 : Int) ^ s = p at *
    omega
theorem sumV_lt (l : List Int) (s : Nat) : sumV s l < 2 ^ (s + 7 * l.length) := by
  have h := sumV_le l s
  have hp : (0 : Int) < 2 ^ s := Int.pow_pos (by decide)
  omega
theorem sumV_take_le (l : List Int) (s k : Nat) (h : k ≤ l.length) : sumV s (l.take k) ≤ sumV s l := by
  have key : ∀ (a b : List Int) (s : Nat), sumV s a ≤ sumV s (a ++ b) := by
    intro a
    induction a with
    | nil => intro b s; simpa [sumV] using sumV_nonneg b s
    | cons x r ih =>
      intro b s
      simp only [List.cons_append, sumV]
      have := ih b (s + 7)
      omega
  have := key (l.take k) (l.drop k) s
  rwa [List.take_append_drop] at this

theorem or_zero64 (v : Int) (h0 : 0 ≤ v) (h1 : v < 18446744073709551616) : bits .or .u64 v 0 = v := by
  rw [u64_or v 0 h0 h1 (by omega) (by omega)]
  simp
  omega
/-- sum's answer. -/
def sumF (s : Nat) (l : List Int) : Int × Bool := if sumV s l < 18446744073709551616 then (sumV s l, true) else (0, false)
def IsPair (a : Int × Bool) (e : Ending) : Prop := e = .returned (.tuple #[.int .u64 a.1, .bool a.2])
theorem or_disjoint (v x : Int) (p : Nat) (h0 : 0 ≤ v) (h1 : v < 2 ^ p) (hx : 0 ≤ x) (hb : x * 2 ^ p < 18446744073709551616) (hv : v < 18446744073709551616) : bits .or .u64 v (x * 2 ^ p) = v + x * 2 ^ p := by
  have hp : (0 : Int) ≤ 2 ^ p := Int.le_of_lt (Int.pow_pos (by decide))
  rw [u64_or v _ h0 hv (Int.mul_nonneg hx hp) hb]
  obtain ⟨n, rfl⟩ := Int.eq_ofNat_of_zero_le h0
  obtain ⟨m, rfl⟩ := Int.eq_ofNat_of_zero_le hx
  have e : ((m : Int) * 2 ^ p) = ((m * 2 ^ p : Nat) : Int) := by simp
  rw [e, Int.toNat_natCast, Int.toNat_natCast]
  have hn : n < 2 ^ p := by
    have : ((2 ^ p : Nat) : Int) = 2 ^ p := by simp
    omega
  have := Nat.two_pow_add_eq_or_of_lt hn m
  rw [Nat.or_comm, Nat.mul_comm, ← this]
  omega

def SumInv (s : Nat) (l : List Int) (v i : Value) : Prop := ∃ k : Nat, k ≤ l.length ∧ i = .int .i64 k ∧ v = .int .u64 (sumV s (l.take k)) ∧ sumV s (l.take k) < 18446744073709551616
set_option maxHeartbeats 2000000 in
theorem sum_calls (A : Option Addr) (c : Nat) (l : List Int) (s : Nat) (w : World) (hl : ReadsInt w .u8 A l.length l) (hm : l.length ≤ 140737488355328) (hs : s ≤ 64) (hby : ∀ x ∈ l, 0 ≤ x ∧ x < 256) :
    Calls Try.prog 48 #[.slice A l.length c, .int .i64 s] w fun e w' => IsPair (sumF s l) e ∧ w = w' := by
  have HL := Lib.hid hl
  have HBY := Lib.hid hby
  clear hl hby
  go_enter Try.func48, Try.ntmps48
  go_wp2_with fail
  go_loop [6, 13] (fun v i => SumInv s l v i) (fun _ i => l.length - (intOf i).toNat)
  case atStart => exact ⟨0, by omega, rfl, rfl, by simp [sumV]⟩
  case round =>
    obtain ⟨k, hk, rfl, rfl, hv⟩ := hrel
    by_cases hlt : k < l.length
    · obtain ⟨ad, rfl, hcell⟩ := HL.out.2.2 (by omega)
      have hc := hcell k hlt
      have hg : l.getD k 0 = l[k] := by simp [hlt]
      rw [hg] at hc
      have hby := HBY.out _ (List.getElem_mem hlt)
      have HT := Lib.hid (show l.take (k + 1) = l.take k ++ [l[k]] from List.take_succ_eq_append_getElem hlt)
      have hv0 := sumV_nonneg (l.take k) s
      generalize l[k] = b at hc hby HT
      generalize hV : sumV s (l.take k) = V at hv hv0
      have HV := Lib.hid hV
      clear hcell hg hV
      have h127 := and127 b hby.1 hby.2
      by_cases hx : b % 128 = 0
      · have hx1 : (b % 128 != 0) = false := by simp [hx]
        have hnext : sumV s (l.take (k + 1)) = V := by
          rw [HT.out, sumV_snoc, HV.out, hx]
          simp
        have HN := Lib.hid hnext
        have HX0 := Lib.hid hx
        clear hnext hx
        go_wp2_with fail
        all_goals
          go_round
          case rel => exact ⟨k + 1, hlt, by go_num, by rw [HN.out]; try rw [HX0.out, Int.zero_mul, show IntKind.u64.wrap 0 = 0 from rfl, or_zero64 V hv0 hv], by rw [HN.out]; exact hv⟩
          case measure => simp [intOf]; omega
      · have hx1 : (b % 128 != 0) = true := by simp [hx]
        have hxp : 0 < b % 128 := by omega
        have hl1 := lenI_le (b % 128) 7 (by simp; omega)
        have hl0 := lenI_gt (b % 128) 0 (by simp; omega)
        have hlp : s + 7 * (l.take k).length = s + 7 * k := by simp; omega
        have hvp := sumV_lt (l.take k) s
        rw [hlp, HV.out] at hvp
        have HVP := Lib.hid hvp
        have hnext : sumV s (l.take (k + 1)) = V + b % 128 * 2 ^ (s + 7 * k) := by
          rw [HT.out, sumV_snoc, HV.out, hlp]
        have HN := Lib.hid hnext
        have hpow := (lenI_iff (b % 128) (lenI (b % 128)) hxp (by omega)).1 rfl
        have HPOW := Lib.hid hpow
        have HX1 := Lib.hid hx1
        clear hvp hnext hpow hlp hx hx1
        obtain ⟨len, hlen⟩ : ∃ n : Nat, lenI (b % 128) = n := ⟨(lenI (b % 128)).toNat, by omega⟩
        have HLEN := Lib.hid hlen
        by_cases hfit : s + 7 * k + len ≤ 64
        · have hx64 : b % 128 * 2 ^ (s + 7 * k) < 18446744073709551616 := by
            have h1 := HPOW.out.2
            rw [hlen, Int.toNat_natCast] at h1
            have h2 : (b % 128) < ((2 ^ len : Nat) : Int) := by omega
            have hp : (0 : Int) < 2 ^ (s + 7 * k) := Int.pow_pos (by decide)
            have h3 := Int.mul_lt_mul_of_pos_right h2 hp
            have h4 : ((2 ^ len : Nat) : Int) * 2 ^ (s + 7 * k) = ((2 ^ (len + (s + 7 * k)) : Nat) : Int) := by
              rw [Nat.pow_add]
              simp
            have h5 : 2 ^ (len + (s + 7 * k)) ≤ 2 ^ 64 := Nat.pow_le_pow_right (by decide) (by omega)
            rw [h4] at h3
            omega
          have hlt64 : (s : Int) + 7 * k < 64 := by omega
          have hgt : ¬ ((64 : Int) < s + 7 * k + len) := by omega
          have HX64 := Lib.hid hx64
          rw [hlen] at hl1 hl0
          have hx1 := HX1.out
          clear hx64 hlen
          go_wp2_with fail
          refine (len64_calls _ _ (by omega) (by omega)).mono ?_
          rintro e w' ⟨he, rfl⟩
          unfold IsInt at he
          subst he
          rw [HLEN.out]
          go_wp2_with fail
          go_round
          case rel =>
            have hw : IntKind.u64.wrap (b % 128 * 2 ^ (s + 7 * k)) = b % 128 * 2 ^ (s + 7 * k) := by
              have h0 : (0 : Int) ≤ b % 128 * 2 ^ (s + 7 * k) := Int.mul_nonneg (by omega) (Int.le_of_lt (Int.pow_pos (by decide)))
              have h1 := HX64.out
              exact wrapU64 _ h0 h1
            have hor := or_disjoint V (b % 128) (s + 7 * k) hv0 HVP.out (by omega) HX64.out hv
            refine ⟨k + 1, hlt, by go_num, ?_, ?_⟩
            · rw [HN.out, hw, hor]
            · rw [HN.out]
              have h1 := HPOW.out.2
              rw [HLEN.out, Int.toNat_natCast] at h1
              have h2 : (b % 128) + 1 ≤ ((2 ^ len : Nat) : Int) := by omega
              have hp : (0 : Int) < 2 ^ (s + 7 * k) := Int.pow_pos (by decide)
              have h3 := Int.mul_le_mul_of_nonneg_right h2 (Int.le_of_lt hp)
              have h4 : ((2 ^ len : Nat) : Int) * 2 ^ (s + 7 * k) = ((2 ^ (len + (s + 7 * k)) : Nat) : Int) := by
                rw [Nat.pow_add]
                simp
              have h5 : 2 ^ (len + (s + 7 * k)) ≤ 2 ^ 64 := Nat.pow_le_pow_right (by decide) (by omega)
              have h6 := HVP.out
              rw [h4, Int.add_mul] at h3
              omega
          case measure => simp [intOf]; omega
        · have hgt : (64 : Int) < s + 7 * k + len := by omega
          have hbig : ¬ sumV s l < 18446744073709551616 := by
            have h1 := HPOW.out.1
            rw [hlen, Int.toNat_natCast] at h1
            rw [hlen] at hl0
            have h2 : ((2 ^ (len - 1) : Nat) : Int) ≤ b % 128 := by omega
            have hp : (0 : Int) < 2 ^ (s + 7 * k) := Int.pow_pos (by decide)
            have h3 := Int.mul_le_mul_of_nonneg_right h2 (Int.le_of_lt hp)
            have h4 : ((2 ^ (len - 1) : Nat) : Int) * 2 ^ (s + 7 * k) = ((2 ^ (len - 1 + (s + 7 * k)) : Nat) : Int) := by
              rw [Nat.pow_add]
              simp
            have h5 : 2 ^ 64 ≤ 2 ^ (len - 1 + (s + 7 * k)) := Nat.pow_le_pow_right (by decide) (by omega)
            have h6 := sumV_take_le l s (k + 1) (by omega)
            rw [HN.out] at h6
            rw [h4] at h3
            omega
          have hF : sumF s l = (0, false) := by
            unfold sumF
            rw [if_neg hbig]
          have HF := Lib.hid hF
          rw [hlen] at hl1 hl0
          have hx1 := HX1.out
          clear hlen hbig hF
          go_wp2_with fail
          refine (len64_calls _ _ (by omega) (by omega)).mono ?_
          rintro e w' ⟨he, rfl⟩
          unfold IsInt at he
          subst he
          rw [HLEN.out]
          go_wp2_with fail
          go_ret2
          refine ⟨?_, rfl⟩
          rw [HF.out]
          rfl
    · obtain rfl : k = l.length := by omega
      have hF : sumF s l = (sumV s l, true) := by
        unfold sumF
        rw [List.take_length] at hv
        rw [if_pos hv]
      have hT : l.take l.length = l := List.take_length
      have HF := Lib.hid hF
      have HT := Lib.hid hT
      clear hF hT
      go_wp2_with fail
      go_ret2
      refine ⟨?_, rfl⟩
      rw [HF.out]
      first | rfl | (show Ending.returned _ = _; simp [HT.out])
end Go.Proofs.Ytiocipmnmjpkfaa
