/- math/bits.Len64: how many bits a number has. -/
import Derived.Test.YtkdklcamgcmifaaDoorProg
import Derived.WalkKit
import Derived.KernelRfl
import Derived.Lib.Hide
import Derived.Deep.DeepMust
namespace Go.Proofs.YtkdklcamgcmifaaDoor
set_option linter.unusedVariables false
set_option linter.unusedSimpArgs false
open Go.RowKit
/-- How many bits v has. -/
def lenI (v : Int) : Int := if v ≤ 0 then 0 else (v.toNat.log2 : Int) + 1

theorem lenI_iff (v r : Int) (hv : 0 < v) (hr : 0 < r) : lenI v = r ↔ 2 ^ (r.toNat - 1) ≤ v.toNat ∧ v.toNat < 2 ^ r.toNat := by
  have hne : v.toNat ≠ 0 := by omega
  have h := Nat.log2_eq_iff (k := r.toNat - 1) hne
  rw [show r.toNat - 1 + 1 = r.toNat from by omega] at h
  rw [← h]
  unfold lenI
  rw [if_neg (by omega)]
  omega
theorem lenI_shift (v : Int) (k : Nat) (h : (2 ^ k : Nat) ≤ v) : lenI v = k + lenI (v / (2 ^ k : Nat)) := by
  have hp : 0 < 2 ^ k := Nat.pow_pos (by decide)
  obtain ⟨n, rfl⟩ := Int.eq_ofNat_of_zero_le (show 0 ≤ v by omega)
  have hn : 2 ^ k ≤ n := by omega
  have hq : 0 < n / 2 ^ k := Nat.div_pos hn hp
  have e : ((n : Int) / (2 ^ k : Nat)) = ((n / 2 ^ k : Nat) : Int) := by simp
  rw [e]
  unfold lenI
  rw [if_neg (by omega), if_neg (by omega)]
  simp only [Int.toNat_natCast]
  have h1 : Nat.log2 n = k + Nat.log2 (n / 2 ^ k) := by
    rw [Nat.log2_eq_iff (by omega)]
    have h2 := (Nat.log2_eq_iff (n := n / 2 ^ k) (k := Nat.log2 (n / 2 ^ k)) (by omega)).1 rfl
    obtain ⟨h3, h4⟩ := h2
    rw [show k + Nat.log2 (n / 2 ^ k) + 1 = k + (Nat.log2 (n / 2 ^ k) + 1) from by omega, Nat.pow_add, Nat.pow_add]
    constructor
    · have := Nat.mul_le_mul_left (2 ^ k) h3
      exact Nat.le_trans this (Nat.mul_div_le n (2 ^ k))
    · have := (Nat.div_lt_iff_lt_mul hp).1 h4
      rwa [Nat.mul_comm]
  omega
theorem lenI_le (v : Int) (r : Nat) (h : v < (2 ^ r : Nat)) : lenI v ≤ r := by
  unfold lenI
  split
  · omega
  · rename_i h0
    have hne : v.toNat ≠ 0 := by omega
    have := (Nat.log2_lt hne (k := r)).2 (by omega)
    omega
theorem lenI_nonneg (v : Int) : 0 ≤ lenI v := by
  unfold lenI
  split <;> omega
theorem lenI_gt (v : Int) (r : Nat) (h : (2 ^ r : Nat) ≤ v) : (r : Int) < lenI v := by
  have hp : 0 < 2 ^ r := Nat.pow_pos (by decide)
  unfold lenI
  rw [if_neg (by omega)]
  have hne : v.toNat ≠ 0 := by omega
  have := (Nat.le_log2 hne (k := r)).2 (by omega)
  omega
theorem len_tab (d : ByteArray) (hall : ∀ i : Fin 256, ((d.data.toList.getD i.val 0).toNat : Int) = lenI i.val) (x n : Int) (h0 : 0 ≤ x) (h1 : x < 256) (hlt : x.toNat < d.size) (hn0 : 0 ≤ n) (hn : n ≤ 56) :
    wrap64 (n + wrap64 ((d[x.toNat]'hlt).toNat : Int)) = n + lenI x := by
  obtain ⟨m, rfl⟩ := Int.eq_ofNat_of_zero_le h0
  have h : ((d.data.toList.getD m 0).toNat : Int) = lenI (m : Int) := hall ⟨m, by omega⟩
  simp only [Int.toNat_natCast] at hlt ⊢
  have e : (d[m]'hlt) = d.data.toList.getD m 0 := by
    rw [List.getD_eq_getElem?_getD, List.getElem?_eq_getElem (by simpa using hlt)]
    rfl
  rw [e, h]
  have h2 := lenI_le (m : Int) 8 (by simp; omega)
  have h3 := lenI_nonneg (m : Int)
  unfold wrap64
  omega

theorem len_tab0 (d : ByteArray) (hall : ∀ i : Fin 256, ((d.data.toList.getD i.val 0).toNat : Int) = lenI i.val) (x : Int) (h0 : 0 ≤ x) (h1 : x < 256) (hlt : x.toNat < d.size) :
    wrap64 (wrap64 ((d[x.toNat]'hlt).toNat : Int)) = lenI x := by
  have h := len_tab d hall x 0 h0 h1 hlt (by omega) (by omega)
  rw [Int.zero_add, Int.zero_add] at h
  exact h

/-- A number's answer behind a definition: the walk doesn't look into it. -/
def IsInt (k : IntKind) (n : Int) (e : Ending) : Prop := e = .returned (.int k n)
theorem IsInt.mk {k : IntKind} {a b : Int} (h : a = b) : IsInt k b (.returned (.int k a)) := by rw [h]; rfl

set_option maxRecDepth 100000 in
set_option maxHeartbeats 1000000 in
theorem len64_calls (v : Int) (w : World) (h0 : 0 ≤ v) (h1 : v < 18446744073709551616) :
    Calls Tryd.prog 84 #[.int .u64 v] w fun e w' => IsInt .i64 (lenI v) e ∧ w = w' := by
  go_enter Tryd.func84, Tryd.ntmps84
  by_cases a : v < 4294967296
  · by_cases b : v < 65536
    · by_cases c : v < 256
      · go_wp2
        go_ret
        exact ⟨IsInt.mk (len_tab0 _ (by decide +kernel) v (by omega) (by omega) _), rfl⟩
      · go_wp2
        go_ret
        exact ⟨IsInt.mk (by rw [lenI_shift v 8 (by omega)]; exact len_tab _ (by decide +kernel) _ _ (by omega) (by omega) _ (by omega) (by omega)), rfl⟩
    · by_cases c : v / 65536 < 256
      · go_wp2
        go_ret
        exact ⟨IsInt.mk (by rw [lenI_shift v 16 (by omega)]; exact len_tab _ (by decide +kernel) _ _ (by omega) (by omega) _ (by omega) (by omega)), rfl⟩
      · go_wp2
        go_ret
        exact ⟨IsInt.mk (by rw [lenI_shift v 16 (by omega), lenI_shift _ 8 (by omega), ← Int.add_assoc]; exact len_tab _ (by decide +kernel) _ _ (by omega) (by omega) _ (by omega) (by omega)), rfl⟩
  · by_cases b : v / 4294967296 < 65536
    · by_cases c : v / 4294967296 < 256
      · go_wp2
        go_ret
        exact ⟨IsInt.mk (by rw [lenI_shift v 32 (by omega)]; exact len_tab _ (by decide +kernel) _ _ (by omega) (by omega) _ (by omega) (by omega)), rfl⟩
      · go_wp2
        go_ret
        exact ⟨IsInt.mk (by rw [lenI_shift v 32 (by omega), lenI_shift _ 8 (by omega), ← Int.add_assoc]; exact len_tab _ (by decide +kernel) _ _ (by omega) (by omega) _ (by omega) (by omega)), rfl⟩
    · by_cases c : v / 4294967296 / 65536 < 256
      · go_wp2
        go_ret
        exact ⟨IsInt.mk (by rw [lenI_shift v 32 (by omega), lenI_shift _ 16 (by omega), ← Int.add_assoc]; exact len_tab _ (by decide +kernel) _ _ (by omega) (by omega) _ (by omega) (by omega)), rfl⟩
      · go_wp2
        go_ret
        exact ⟨IsInt.mk (by rw [lenI_shift v 32 (by omega), lenI_shift _ 16 (by omega), lenI_shift _ 8 (by omega), ← Int.add_assoc, ← Int.add_assoc]; exact len_tab _ (by decide +kernel) _ _ (by omega) (by omega) _ (by omega) (by omega)), rfl⟩
end Go.Proofs.YtkdklcamgcmifaaDoor
