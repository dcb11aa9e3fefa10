/- codicilref04.number, code: n bits more. -/
import Derived.Test.YtkdklcamgcmifaaDoorHBitR
namespace Go.Proofs.YtkdklcamgcmifaaDoor
set_option linter.unusedVariables false
set_option linter.unusedSimpArgs false
open Go.RowKit Go.Proofs.YtkdklcamgcmifaaDoorW.PrintWords Go.Proofs.YtkdklcamgcmifaaDoorW.PrintMore
/-- What a call of the document's that writes bits does. -/
def BPuts (base g : Nat) (W : World) (T N x n : Nat) (e : Ending) (w' : World) : Prop := e = .returned (.tuple #[]) ∧ SF g W w' ∧ Bt base g w' (T + x * 2 ^ N) (N + n)
theorem bit_of (v k : Nat) (hv : v < 1099511627776) : bits .and .i64 ((v : Int) / 2 ^ k) 1 = ((v / 2 ^ k % 2 : Nat) : Int) := by
  have h : ((v : Int) / 2 ^ k) = ((v / 2 ^ k : Nat) : Int) := by simp
  have hle : v / 2 ^ k ≤ v := Nat.div_le_self _ _
  rw [h]
  exact and_mask64 (v / 2 ^ k) 1 (by omega) (by omega)
theorem low_step (v k N T : Nat) : T + v % 2 ^ k * 2 ^ N + v / 2 ^ k % 2 * 2 ^ (N + k) = T + v % 2 ^ (k + 1) * 2 ^ N := by
  have h : v % 2 ^ (k + 1) = v % 2 ^ k + 2 ^ k * (v / 2 ^ k % 2) := by rw [Nat.pow_succ, Nat.mod_mul]
  rw [h, Nat.add_mul, Nat.pow_add, ← Nat.add_assoc]
  congr 1
  rw [Nat.mul_comm (2 ^ k), Nat.mul_assoc, Nat.mul_comm (2 ^ k)]
set_option maxRecDepth 8000 in
set_option maxHeartbeats 1000000 in
theorem rnumber_calls (base g : Nat) (W : World) (T N v n : Nat) (hw : Bt base g W T N) (hv : v < 2 ^ n) (hn : n ≤ 16) (hN : N + n ≤ 1000000000000000) :
    Calls Tryd.prog 75 #[.pointer (some ⟨g, 0, none⟩), .int .i64 v, .int .i64 n] W fun e w' => BPuts base g W T N v n e w' := by
  have hW := Lib.hid hw
  have HV := Lib.hid hv
  have hv40 : v < 1099511627776 := Nat.lt_of_lt_of_le hv (Nat.le_trans (Nat.pow_le_pow_right (by decide) hn) (by decide))
  clear hw hv
  go_enter Tryd.func75, Tryd.ntmps75
  go_wp2_with fail
  go_loopw [6] (fun i wr => ∃ k : Nat, k ≤ n ∧ i = .int .i64 k ∧ Hid (SF g W wr) ∧ Hid (Bt base g wr (T + v % 2 ^ k * 2 ^ N) (N + k))) (fun i _ => n - (intOf i).toNat)
  case atStart => exact ⟨0, by omega, rfl, SF.refl g W, Lib.hid (by simpa [Nat.mod_one] using hW.out)⟩
  case round =>
    obtain ⟨k, hk, rfl, hS, hB⟩ := hrel
    by_cases hlt : k < n
    · have hk0 : (0 : Int) ≤ (k : Int) := by omega
      have hk64 : (k : Int) < 64 := by omega
      go_wp2_with fail
      rw [bit_of v k hv40]
      refine (bit_calls base g wr _ _ _ hB.out (by omega) (by omega)).mono ?_
      rintro e w2 ⟨rfl, hs2, hw2⟩
      have HS2 := Lib.hid hs2
      have HW2 := Lib.hid hw2
      clear hs2 hw2
      go_wp2_with fail
      go_roundw
      case rel => exact ⟨k + 1, hlt, by go_num, hS.out.trans HS2.out, by have h := HW2.out; rw [low_step] at h; exact h⟩
      case measure => simp [intOf]; omega
    · obtain rfl : k = n := by omega
      go_wp2_with fail
      refine bodyPost_end (results_none rfl _ _ _) rfl ⟨rfl, hS.out, ?_⟩
      have h := hB.out
      rw [Nat.mod_eq_of_lt HV.out] at h
      exact h
theorem high_step (v j n N T : Nat) (hj : j < n) : T + rev j (v / 2 ^ (n - j)) * 2 ^ N + v / 2 ^ (n - j - 1) % 2 * 2 ^ (N + j) = T + rev (j + 1) (v / 2 ^ (n - (j + 1))) * 2 ^ N := by
  have e : v / 2 ^ (n - (j + 1)) / 2 = v / 2 ^ (n - j) := by rw [Nat.div_div_eq_div_mul, ← Nat.pow_succ, show (n - (j + 1)).succ = n - j from by omega]
  simp only [rev]
  rw [e, show n - (j + 1) = n - j - 1 from by omega, Nat.add_mul, Nat.pow_add, Nat.add_assoc, Nat.add_comm (rev j _ * 2 ^ N), Nat.mul_comm (2 ^ N), Nat.mul_assoc]
set_option maxRecDepth 8000 in
set_option maxHeartbeats 1000000 in
theorem rcode_calls (base g : Nat) (W : World) (T N v n : Nat) (hw : Bt base g W T N) (hv : v < 2 ^ n) (hn : n ≤ 16) (hN : N + n ≤ 1000000000000000) :
    Calls Tryd.prog 86 #[.pointer (some ⟨g, 0, none⟩), .int .i64 v, .int .i64 n] W fun e w' => BPuts base g W T N (rev n v) n e w' := by
  have hW := Lib.hid hw
  have HV := Lib.hid hv
  have hv40 : v < 1099511627776 := Nat.lt_of_lt_of_le hv (Nat.le_trans (Nat.pow_le_pow_right (by decide) hn) (by decide))
  clear hw hv
  go_enter Tryd.func86, Tryd.ntmps86
  go_wp2_with fail
  go_loopw [6] (fun i wr => ∃ j : Nat, j ≤ n ∧ i = .int .i64 (((n - j : Nat) : Int) - 1) ∧ Hid (SF g W wr) ∧ Hid (Bt base g wr (T + rev j (v / 2 ^ (n - j)) * 2 ^ N) (N + j))) (fun i _ => (intOf i + 1).toNat)
  case atStart => exact ⟨0, by omega, by simp, SF.refl g W, Lib.hid (by simpa [rev] using hW.out)⟩
  case round =>
    obtain ⟨j, hj, rfl, hS, hB⟩ := hrel
    by_cases hlt : j < n
    · obtain ⟨m, hm⟩ : ∃ m : Nat, m = n - j - 1 := ⟨_, rfl⟩
      have hm1 : ((n - j : Nat) : Int) - 1 = (m : Int) := by omega
      rw [hm1]
      have hk0 : (0 : Int) ≤ (m : Int) := by omega
      have hk64 : (m : Int) < 64 := by omega
      have HM := Lib.hid hm
      clear hm
      go_wp2_with fail
      rw [bit_of v m hv40]
      refine (bit_calls base g wr _ _ _ hB.out (by omega) (by omega)).mono ?_
      rintro e w2 ⟨rfl, hs2, hw2⟩
      have HS2 := Lib.hid hs2
      have HW2 := Lib.hid hw2
      clear hs2 hw2
      go_wp2_with fail
      go_roundw
      case rel => exact ⟨j + 1, hlt, by have := HM.out; first | (congr 1; omega) | (simp; omega), hS.out.trans HS2.out, by have h := HW2.out; rw [HM.out, high_step v j n N T hlt] at h; exact h⟩
      case measure => simp [intOf] <;> omega
    · obtain rfl : j = n := by omega
      have hz : ((j - j : Nat) : Int) - 1 = -1 := by omega
      rw [hz]
      go_wp2_with fail
      refine bodyPost_end (results_none rfl _ _ _) rfl ⟨rfl, hS.out, ?_⟩
      have h := hB.out
      rw [Nat.sub_self, Nat.pow_zero, Nat.div_one] at h
      exact h
theorem Bt.drewN {base g : Nat} {W : World} {T N : Nat} (h : Bt base g W T N) (n : Nat) : Bt base g (W.drewN n) T N := by
  obtain ⟨v, hb, ho, h1, h2⟩ := h
  exact ⟨v, hb, own_move ho fun _ _ => rfl, h1, h2⟩
theorem BPuts.mk' {base g : Nat} {W W1 w' : World} {T N x n x2 n2 : Nat} {e e' : Ending} (h : BPuts base g W T N x n e W1) (h2 : BPuts base g W1 (T + x * 2 ^ N) (N + n) x2 n2 e' w') : BPuts base g W T N (x + x2 * 2 ^ n) (n + n2) e' w' := by
  refine ⟨h2.1, h.2.1.trans h2.2.1, ?_⟩
  have h3 := h2.2.2
  rw [show T + (x + x2 * 2 ^ n) * 2 ^ N = T + x * 2 ^ N + x2 * 2 ^ (N + n) from by rw [Nat.add_mul, Nat.mul_assoc, ← Nat.pow_add, Nat.add_comm n N, Nat.add_assoc], show N + (n + n2) = N + n + n2 from by omega]
  exact h3
end Go.Proofs.YtkdklcamgcmifaaDoor
