/- diff's way: end, parts, step. -/
import Derived.Test.YtmnpcignolofaaaDoorHCx
namespace Go.Proofs.YtmnpcignolofaaaDoor
set_option linter.unusedVariables false
set_option linter.unusedSimpArgs false
open Go.RowKit Go.Proofs.YtmnpcignolofaaaDoorW.PrintWords Go.Proofs.YtmnpcignolofaaaDoorW.PrintMore
/-- A point. -/
def pt (p : Nat × Nat) : Value := .complex .f64 (fl p.1) (fl p.2)
theorem cv_if (n : Nat) (w : World) : (convert 3 110 (.int .i64 (n : Int))).run Tryd.prog w = .ok (.float .f64 (fl n)) w := run_convert_int_float w 3 110 .i64 .f64 (n : Int) (by kernel_rfl) Tryd.underlying110
theorem cv_fi (n : Nat) (hn : n ≤ 1001) (w : World) : (convert 110 3 (.float .f64 (fl n))).run Tryd.prog w = .ok (.int .i64 (n : Int)) w := run_convert_float_int w 110 3 .f64 .i64 (fl n) (n : Int) (by kernel_rfl) Tryd.underlying3 (fl_int ⟨n, by omega⟩)
theorem cx_add (x y u v : Nat) (hx : x ≤ 1000) (hy : y ≤ 1000) (hu : u ≤ 1) (hv : v ≤ 1) (w : World) : (binOp .add 36 (.complex .f64 (fl x) (fl y)) (.complex .f64 (fl u) (fl v))).run Tryd.prog w = .ok (.complex .f64 (fl (x + u)) (fl (y + v))) w := by
  refine run_complex_sum w .add (.inl rfl) 36 .f64 _ _ _ _ _ _ ?_
  have h : ∀ z t, z ≤ 1000 → t ≤ 1 → floatBits .add .f64 (fl z) (fl t) = some (fl (z + t)) := by
    intro z t hz ht
    rcases t with _ | _ | t
    · rw [fl_0]; exact fl_add0 ⟨z, by omega⟩
    · rw [fl_1]; exact fl_add1 ⟨z, by omega⟩
    · omega
  unfold cSumBits
  rw [h x u hx hu, h y v hy hv]
  rfl
theorem cx_neq (x y u v : Nat) (hx : x ≤ 1001) (hy : y ≤ 1001) (hu : u ≤ 1001) (hv : v ≤ 1001) (w : World) : (binOp .neq 36 (.complex .f64 (fl x) (fl y)) (.complex .f64 (fl u) (fl v))).run Tryd.prog w = .ok (.bool !(decide (x = u) && decide (y = v))) w := by
  rw [run_neq_complex]
  rw [fl_eq ⟨x, by omega⟩ ⟨u, by omega⟩, fl_eq ⟨y, by omega⟩ ⟨v, by omega⟩]
set_option maxRecDepth 8000 in
set_option maxHeartbeats 2000000 in
theorem end_calls (base g R : Nat) (Aa : Option Addr) (ca : Nat) (Ab : Option Addr) (cb : Nat) (al bl T : List Int) (W : World) (h : Pl base g R Aa ca Ab cb al bl T W) :
    Calls Tryd.prog 57 #[.pointer (some ⟨g, 0, none⟩)] W fun e w' => e = .returned (pt (al.length, bl.length)) ∧ ∃ k, w' = W.drewN k := by
  have c0 : W.cell? ⟨g, 0, none⟩ = some (.slice Aa al.length ca) := blk_cell h.blk 0
  have c1 : W.cell? ⟨g, 1, none⟩ = some (.slice Ab bl.length cb) := blk_cell h.blk 1
  have e1 := cv_if al.length
  have e2 := cv_if bl.length
  clear h
  go_enter Tryd.func57, Tryd.ntmps57
  go_wp2_with fail
  go_quiet (fail)
  go_wp2_with fail
  go_ret
  exact ⟨rfl, nq, rfl⟩
set_option maxRecDepth 8000 in
set_option maxHeartbeats 2000000 in
theorem parts_calls (x y : Nat) (hx : x ≤ 1001) (hy : y ≤ 1001) (W : World) :
    Calls Tryd.prog 34 #[pt (x, y)] W fun e w' => e = .returned (.tuple #[.int .i64 x, .int .i64 y]) ∧ w' = W := by
  have e1 := cv_fi x hx
  have e2 := cv_fi y hy
  show Calls Tryd.prog 34 #[.complex .f64 (fl x) (fl y)] W _
  go_enter Tryd.func34, Tryd.ntmps34
  go_wp2_with fail
  go_ret2
  exact ⟨rfl, rfl⟩
end Go.Proofs.YtmnpcignolofaaaDoor
