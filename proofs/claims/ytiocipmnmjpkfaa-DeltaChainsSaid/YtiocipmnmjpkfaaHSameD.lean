/- delta.same: how many bytes are alike at the fronts. -/
import Derived.Test.YtiocipmnmjpkfaaHKey
import Derived.Deep.QuietTactic
import Derived.BigQuiet
namespace Go.Proofs.Ytiocipmnmjpkfaa
set_option linter.unusedVariables false
set_option linter.unusedSimpArgs false
open Go.RowKit Go.Proofs.YtiocipmnmjpkfaaW.PrintWords Go.Proofs.YtiocipmnmjpkfaaW.PrintMore

theorem sd_more {W wr : World} (h : ∃ m, wr = W.drewN m) (k : Nat) : ∃ m, wr.drewN k = W.drewN m := by
  obtain ⟨m, rfl⟩ := h
  exact ⟨m + k, World.drewN_drewN _ _ _⟩
theorem reads_drewN {W : World} {k : IntKind} {A : Option Addr} {n : Nat} {l : List Int} (h : ReadsInt W k A n l) (m : Nat) : ReadsInt (W.drewN m) k A n l := h
set_option maxHeartbeats 2000000 in
theorem same_calls (A B : Option Addr) (ca cb : Nat) (a b : List Int) (W : World) (ha : ReadsInt W .u8 A a.length a) (hb : ReadsInt W .u8 B b.length b) (hm : a.length ≤ 140737488355328) (hm2 : b.length ≤ 140737488355328) :
    Calls Try.prog 56 #[.slice A a.length ca, .slice B b.length cb] W fun e w' => e = .returned (.int .i64 (sameL a b)) ∧ ∃ m, w' = W.drewN m := by
  have HA := Lib.hid ha
  have HB := Lib.hid hb
  clear ha hb
  go_enter Try.func56, Try.ntmps56
  go_wp2_with fail
  go_loopw [5] (fun iv wr => ∃ n : Nat, iv = .int .i64 n ∧ n ≤ sameL a b ∧ Hid (∃ m, wr = W.drewN m)) (fun iv _ => a.length - (intOf iv).toNat)
  case atStart => exact ⟨0, rfl, Nat.zero_le _, ⟨0, rfl⟩⟩
  case round =>
    obtain ⟨n, rfl, hn, hw⟩ := hrel
    have hle := sameL_le a b
    have HST := Lib.hid (sameL_step a b n hn)
    have hn1 : (n : Int) ≤ 140737488355328 := by omega
    by_cases h1 : n < a.length
    · have i1 : (n : Int) < (a.length : Int) := by omega
      have i0 : (0 : Int) ≤ (n : Int) := by omega
      obtain ⟨ad, rfl, hca⟩ := HA.out.2.2 (by omega)
      have k1 : wr.cell? (ad.add n) = some (.int .u8 (a.getD n 0)) := by
        obtain ⟨m, rfl⟩ := hw.out
        exact hca n h1
      by_cases h2 : n < b.length
      · have i2 : (n : Int) < (b.length : Int) := by omega
        obtain ⟨bd, rfl, hcb⟩ := HB.out.2.2 (by omega)
        have k2 : wr.cell? (bd.add n) = some (.int .u8 (b.getD n 0)) := by
          obtain ⟨m, rfl⟩ := hw.out
          exact hcb n h2
        by_cases h3 : a.getD n 0 = b.getD n 0
        · have hn2 := (HST.out h1 h2).1 h3
          rw [← h3] at k2
          generalize a.getD n 0 = x at k1 k2
          have hx : (x == x) = true := by simp
          clear hca hcb h3 hle
          go_wp2_with fail
          go_quiet (fail)
          go_wp2_with fail
          go_roundw
          case rel => exact ⟨n + 1, by go_num, hn2, Lib.hid (sd_more hw.out _)⟩
          case measure => simp [intOf]; omega
        · have hn2 := (HST.out h1 h2).2 h3
          have hx : (a.getD n 0 == b.getD n 0) = false := by simpa using h3
          generalize a.getD n 0 = x at k1 hx
          generalize b.getD n 0 = y at k2 hx
          clear hca hcb h3 hle
          go_wp2_with fail
          go_quiet (fail)
          go_wp2_with fail
          go_ret
          exact ⟨by rw [hn2]; rfl, sd_more hw.out _⟩
      · have hn2 : sameL a b = n := by omega
        have i2' : decide (n < b.length) = false := by simp; omega
        have i2 : decide ((n : Int) < (b.length : Int)) = false := by simp; omega
        clear hca hle h2
        go_wp2_with fail
        go_quiet (fail)
        go_wp2_with fail
        go_ret
        exact ⟨by rw [hn2]; rfl, sd_more hw.out _⟩
    · have hn2 : sameL a b = n := by omega
      have i1' : decide (n < a.length) = false := by simp; omega
      have i1 : decide ((n : Int) < (a.length : Int)) = false := by simp; omega
      clear hle h1
      go_wp2_with fail
      go_quiet (fail)
      go_wp2_with fail
      go_ret
      exact ⟨by rw [hn2]; rfl, sd_more hw.out _⟩
end Go.Proofs.Ytiocipmnmjpkfaa
