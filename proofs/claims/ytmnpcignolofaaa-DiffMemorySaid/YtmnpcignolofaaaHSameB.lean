/- codicilref19.SameLines of equal lists (the text of XHSameL, over Apply). -/
import Derived.Test.YtmnpcignolofaaaHAppW
import Derived.BigQuiet
import Derived.Deep.QuietTactic
namespace Go.Proofs.Ytmnpcignolofaaa
set_option linter.unusedVariables false
set_option linter.unusedSimpArgs false
open Go.RowKit Go.Shelf Go.Proofs.YtmnpcignolofaaaW.PrintWords Go.Proofs.YtmnpcignolofaaaW.PrintMore
set_option maxRecDepth 20000 in
set_option maxHeartbeats 40000000 in
theorem sameLines_calls (w : World) (A : Option Addr) (c : Nat) (B : Option Addr) (d n m : Nat) (ss : List ByteArray) (hn : ss.length = n) (hm : ss.length = m) (hu : ReadsOf Value.string ByteArray.empty w A n ss) (hv : ReadsOf Value.string ByteArray.empty w B m ss) :
    Calls Try.prog 11 #[.slice A n c, .slice B m d] w fun e w' => e = .returned (.bool true) ∧ ∃ k, w' = w.drewN k := by
  subst hn
  subst hm
  have HU := Lib.hid hu
  have HV := Lib.hid hv
  have hself : ((ss.length : Int) == (ss.length : Int)) = true := by simp
  have hb := hu.2.1
  clear hu hv
  go_enter Try.func11, Try.ntmps11
  go_wp2_with fail
  go_loopw [13] (fun v13 wr => ∃ i : Nat, v13 = .int .i64 i ∧ i ≤ ss.length ∧ Hid (∃ k, wr = w.drewN k)) (fun v13 _ => ss.length - (intOf v13).toNat)
  case atStart => exact ⟨0, rfl, by omega, Lib.hid ⟨0, rfl⟩⟩
  case round =>
    obtain ⟨i, rfl, hi, hw⟩ := hrel
    by_cases hlt : i < ss.length
    · have i0 : (0 : Int) ≤ (i : Int) := by omega
      have i1 : (i : Int) < (ss.length : Int) := by omega
      obtain ⟨a1, rfl, hc1⟩ := HU.out.2.2 (by omega)
      obtain ⟨a2, rfl, hc2⟩ := HV.out.2.2 (by omega)
      have k1 : wr.cell? (a1.add i) = some (.string (ss.getD i ByteArray.empty)) := by obtain ⟨k, rfl⟩ := hw.out; exact hc1 i hlt
      have k2 : wr.cell? (a2.add i) = some (.string (ss.getD i ByteArray.empty)) := by obtain ⟨k, rfl⟩ := hw.out; exact hc2 i hlt
      generalize ss.getD i ByteArray.empty = s at k1 k2
      clear hc1 hc2
      go_wp2_with fail
      go_quiet (fail)
      go_wp2_with fail
      go_roundw
      case rel =>
        obtain ⟨k, rfl⟩ := hw.out
        exact ⟨i + 1, by go_num, by omega, Lib.hid ⟨k + nq, World.drewN_drewN _ _ _⟩⟩
      case measure => simp [intOf]; omega
    · obtain rfl : i = ss.length := by omega
      go_wp2_with fail
      go_ret
      exact ⟨rfl, hw.out⟩
end Go.Proofs.Ytmnpcignolofaaa
