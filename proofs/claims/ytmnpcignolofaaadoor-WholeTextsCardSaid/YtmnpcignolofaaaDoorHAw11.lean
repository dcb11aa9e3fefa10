/- codiciltop.awake11. -/
import Derived.Test.YtmnpcignolofaaaDoorHAwk
import Derived.Test.YtmnpcignolofaaaDoorHText
namespace Go.Proofs.YtmnpcignolofaaaDoor
set_option linter.unusedVariables false
set_option linter.unusedSimpArgs false
open Go.RowKit Go.Proofs.YtmnpcignolofaaaDoorW.PrintWords Go.Proofs.YtmnpcignolofaaaDoorW.PrintMore
def sXn : ByteArray := ⟨#[120, 10]⟩
def sYn : ByteArray := ⟨#[121, 10]⟩
def sZn : ByteArray := ⟨#[122, 10]⟩
theorem dn_10 : dd [sXn, sYn] [sYn, sZn] 1 0 = 1 := by decide +kernel
theorem dn_01 : dd [sXn, sYn] [sYn, sZn] 0 1 = 3 := by decide +kernel
theorem way_xyn : wayP [sXn, sYn] [sYn, sZn] = [(0, 0), (1, 0), (2, 1), (2, 2)] := by
  have s0 : stepD [sXn, sYn] [sYn, sZn] 0 0 = (1, 0) := by
    unfold stepD
    rw [if_neg (by decide), if_pos ⟨by decide, .inr (by rw [dn_10, dn_01]; decide)⟩]
  have s1 : stepD [sXn, sYn] [sYn, sZn] 1 0 = (1, 1) := by
    unfold stepD
    rw [if_pos (by decide)]
  have s2 : stepD [sXn, sYn] [sYn, sZn] 2 1 = (0, 1) := by
    unfold stepD
    rw [if_neg (by decide), if_neg (fun h => absurd h.1 (by decide))]
  unfold wayP
  rw [wayW_go (by decide) (by decide) (by decide), s0]
  show (0, 0) :: (1, 0) :: wayW [sXn, sYn] [sYn, sZn] 1 0 = _
  rw [wayW_go (by decide) (by decide) (by decide), s1]
  show (0, 0) :: (1, 0) :: (2, 1) :: wayW [sXn, sYn] [sYn, sZn] 2 1 = _
  rw [wayW_go (by decide) (by decide) (by decide), s2]
  show (0, 0) :: (1, 0) :: (2, 1) :: (2, 2) :: wayW [sXn, sYn] [sYn, sZn] 2 2 = _
  rw [show wayW [sXn, sYn] [sYn, sZn] 2 2 = [] from wayW_end [sXn, sYn] [sYn, sZn]]
theorem text_xyn : textT [sXn, sYn] [sYn, sZn] = [45, 120, 10, 32, 121, 10, 43, 122, 10] := by
  unfold textT
  rw [way_xyn]
  decide +kernel
/-- The two lists of awake11, laid. -/
def awN (w : World) : World := (w.alloc (.cells #[.string ⟨#[120, 10]⟩, .string ⟨#[121, 10]⟩] 9)).alloc (.cells #[.string ⟨#[121, 10]⟩, .string ⟨#[122, 10]⟩] 9)
theorem awN_two (w : World) : ReadsOf Value.string ByteArray.empty (awN w) (some ⟨w.heap.size, 0, none⟩) 2 [sXn, sYn] ∧ ReadsOf Value.string ByteArray.empty (awN w) (some ⟨w.heap.size + 1, 0, none⟩) 2 [sYn, sZn] ∧ Below w.heap.size w (awN w) := by
  refine ⟨(aw19_lits w sXn sYn).below (below_alloc (Below.refl _ _) _), ?_, below_alloc (below_alloc (Below.refl _ _) _) _⟩
  have h := aw19_lits (w.alloc (.cells #[.string ⟨#[120, 10]⟩, .string ⟨#[121, 10]⟩] 9)) sYn sZn
  have e : (w.alloc (.cells #[.string ⟨#[120, 10]⟩, .string ⟨#[121, 10]⟩] 9)).heap.size = w.heap.size + 1 := by simp
  rw [e] at h
  exact h
theorem awN_text (w : World) : Calls Tryd.prog 16 #[.slice (some ⟨w.heap.size, 0, none⟩) 2 2, .slice (some ⟨w.heap.size + 1, 0, none⟩) 2 2] (awN w) fun e w' => e = .returned (.tuple #[.string ⟨#[45, 120, 10, 32, 121, 10, 43, 122, 10]⟩, .int .i64 0]) ∧ Below w.heap.size w w' := by
  have h := awN_two w
  refine (text_calls (awN w) _ 2 [sXn, sYn] _ 2 [sYn, sZn] h.1 h.2.1 (by decide) (by decide) (by decide) (by decide)).mono ?_
  rintro e w1 ⟨rfl, hb⟩
  rw [text_xyn]
  exact ⟨rfl, below_then h.2.2 h.2.2.size hb⟩
set_option maxRecDepth 20000 in
set_option maxHeartbeats 4000000 in
theorem awake11_calls (w : World) : Calls Tryd.prog 28 #[] w fun e w' => e = .returned (.bool true) ∧ Below w.heap.size w w' := by
  go_enter Tryd.func28, Tryd.ntmps28
  go_wp2_with fail
  refine (awN_text w).mono ?_
  rintro e w1 ⟨rfl, hb⟩
  have HB := Lib.hid hb
  clear hb
  go_wp2_with fail
  go_ret
  exact ⟨rfl, HB.out⟩
end Go.Proofs.YtmnpcignolofaaaDoor
