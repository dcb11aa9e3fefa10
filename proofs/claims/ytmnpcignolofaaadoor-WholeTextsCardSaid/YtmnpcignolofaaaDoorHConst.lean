/- A row of constant bytes ('[]byte("..")'): its block bears a mark; it reads as any other. -/
import Derived.Test.YtmnpcignolofaaaDoorHRow
import Derived.Lib.SlBytesConst
import Derived.Lib.Hide
namespace Go.Proofs.YtmnpcignolofaaaDoor
set_option linter.unusedVariables false
set_option linter.unusedSimpArgs false
open Go.RowKit Go.Proofs.YtmnpcignolofaaaDoorW.PrintWords
theorem const_reads (W : World) (e : TypeId) (xs : List Int) (cs : Array Value) (m : Nat × Nat) (h : cs = (nums .u8 xs).toArray) (hm : xs.length ≤ 1000) : ReadsInt (W.alloc (.cells cs e m)) .u8 (some ⟨W.heap.size, 0, none⟩) xs.length xs := by
  subst h
  refine ⟨rfl, by omega, fun _ => ⟨_, rfl, fun i hi => ?_⟩⟩
  have hb : (W.alloc (.cells (nums .u8 xs).toArray e m)).heap[W.heap.size]? = some (.cells (nums .u8 xs).toArray e m) := by
    show (W.heap.push _)[W.heap.size]? = _
    simp
  rw [add_plain]
  try rw [Nat.zero_add]
  unfold World.cell?
  rw [hb]
  simp [nums, hi]
end Go.Proofs.YtmnpcignolofaaaDoor
