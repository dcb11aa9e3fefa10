/- diff.Apply of hunks that are not in form; other parts of DiffFixed. -/
import Derived.Test.YtmnpcignolofaaaDoorHFormSix
namespace Go.Proofs.YtmnpcignolofaaaDoor
set_option linter.unusedVariables false
set_option linter.unusedSimpArgs false
open Go.RowKit Go.Shelf Go.Proofs.YtmnpcignolofaaaDoorW.PrintWords Go.Proofs.YtmnpcignolofaaaDoorW.PrintMore
attribute [local go_sem] Oper.semAt_some
set_option maxRecDepth 100000 in
set_option maxHeartbeats 4000000 in
theorem apply_no (w : World) (A : Option Addr) (ca : Nat) (B : Option Addr) (cb : Nat) (g : Nat) (h : ∀ W, Below w.heap.size w W → Calls Tryd.prog 39 #[.slice (some ⟨g, 0, none⟩) 1 1, .int .i64 2, .int .i64 2] W fun e w' => e = .returned (.bool false) ∧ Below W.heap.size W w') :
    Calls Tryd.prog 18 #[.slice A 2 ca, .slice B 2 cb, .slice (some ⟨g, 0, none⟩) 1 1] w fun e w' => e = .returned (.tuple #[.slice none 0 0, .int .i64 4]) ∧ Below w.heap.size w w' := by
  have HF := Lib.hid h
  clear h
  refine (callsIn_wide (n := 9)).1 ?_
  refine callsIn_of_wp_marks Tryd.func18 rfl trivial ?_ rfl
  simp only [Tryd.ntmps18, List.size_toArray, List.length_cons, List.length_nil, Nat.reduceAdd, Nat.reduceSub, Array.replicate_succ, Array.replicate_zero, List.push_toArray, List.append_toArray, List.nil_append, List.cons_append]
  gi_wp2
  refine ⟨trivial, ?_⟩
  refine (callsIn_wide.2 (HF.out _ (below_alloc (Below.refl _ _) _))).mono ?_
  rintro e w2 ⟨rfl, hb2⟩
  have HB2 : Hid (Below w.heap.size w w2) := Lib.hid (by have h := below_alloc (Below.refl w.heap.size w) (.cells #[.slice B 2 cb] 24); exact h.trans (hb2.mono h.size))
  clear hb2
  gi_wp2
  exact ⟨_, results_tmp2 rfl _ _ _, rfl, HB2.out⟩
end Go.Proofs.YtmnpcignolofaaaDoor
