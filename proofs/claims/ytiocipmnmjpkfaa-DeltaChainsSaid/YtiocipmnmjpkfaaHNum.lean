/- What num's Put calls write, as plain lists of numbers. -/
import Derived.Laws.BitsAllLaws
import Derived.Laws.BitsLemmas
namespace Go.Proofs.Ytiocipmnmjpkfaa
set_option linter.unusedVariables false
set_option linter.unusedSimpArgs false

/-- A size: the groups of v, the lowest first (k: at most so many). -/
def sizeL : Nat → Int → List Int
  | 0, _ => []
  | k + 1, v => if v < 128 then [v] else (v % 128 + 128) :: sizeL k (v / 128)
theorem sizeL_small (k : Nat) (v : Int) (h : v < 128) : sizeL (k + 1) v = [v] := by simp [sizeL, h]
theorem sizeL_more (k : Nat) (v : Int) (h : ¬ v < 128) : sizeL (k + 1) v = (v % 128 + 128) :: sizeL k (v / 128) := by simp [sizeL, h]
/-- A span's groups behind the last one, the last first. -/
def spanL : Nat → Int → List Int
  | 0, _ => []
  | k + 1, u => if u ≤ 0 then [] else ((u - 1) % 128 + 128) :: spanL k ((u - 1) / 128)
theorem spanL_none (k : Nat) (u : Int) (h : u ≤ 0) : spanL k u = [] := by cases k <;> simp [spanL, h]
theorem spanL_more (k : Nat) (u : Int) (h : ¬ u ≤ 0) : spanL (k + 1) u = ((u - 1) % 128 + 128) :: spanL k ((u - 1) / 128) := by simp [spanL, h]
/-- n bytes of v, the highest first. -/
def bigL (n : Nat) (v : Int) : List Int := (List.range n).map fun i => (v / 2 ^ (8 * (n - 1 - i))) % 256

theorem or128 (y : Int) (h0 : 0 ≤ y) (h1 : y < 256) : bits .or .u8 y 128 = y % 128 + 128 := by
  rw [u8_or y 128 h0 h1 (by omega) (by omega)]
  obtain ⟨n, rfl⟩ := Int.eq_ofNat_of_zero_le h0
  have hn : n < 256 := by omega
  have key : ∀ m : Fin 256, (m.val ||| 128) = m.val % 128 + 128 := by decide +kernel
  have := key ⟨n, hn⟩
  simp only [Int.toNat_natCast, show (128 : Int).toNat = 128 from rfl, this]
  omega
theorem u64_mask (k : Nat) (hk : k ≤ 63) (s : Int) (h0 : 0 ≤ s) (h1 : s < 18446744073709551616) : bits .and .u64 s ((2 ^ k : Nat) - 1 : Int) = s % (2 ^ k : Nat) := by
  have hp : 0 < 2 ^ k := Nat.pow_pos (by decide)
  have hle : 2 ^ k ≤ 2 ^ 63 := Nat.pow_le_pow_right (by decide) hk
  obtain ⟨n, rfl⟩ := Int.eq_ofNat_of_zero_le h0
  rw [u64_and _ _ h0 h1 (by omega) (by omega)]
  have e : ((2 ^ k : Nat) - 1 : Int).toNat = 2 ^ k - 1 := by omega
  rw [e, Int.toNat_natCast, Nat.and_two_pow_sub_one_eq_mod]
  simp
theorem wrapU64 (x : Int) (h0 : 0 ≤ x) (h1 : x < 18446744073709551616) : IntKind.u64.wrap x = x := by
  simp [IntKind.wrap, IntKind.bits, IntKind.signed]
  omega
theorem wrapU64m (x : Int) : IntKind.u64.wrap x = x % 18446744073709551616 := by
  simp [IntKind.wrap, IntKind.bits, IntKind.signed]
theorem and15 (s : Int) (h0 : 0 ≤ s) (h1 : s < 18446744073709551616) : bits .and .u64 s 15 = s % 16 := u64_mask 4 (by decide) s h0 h1
theorem and127 (x : Int) (h0 : 0 ≤ x) (h1 : x < 256) : bits .and .u8 x 127 = x % 128 := bits_mask .u8 8 (by decide) wraps_u8 7 (by decide) x h0 h1
end Go.Proofs.Ytiocipmnmjpkfaa
