/- One fact on bytes' cells (where XHMake isn't at hand). -/
import Derived.Test.YtkdklcamgcmifaaDoorHRow
import Derived.Test.YtkdklcamgcmifaaDoorHSmash
import Derived.Laws.OwnMore
import Derived.RegionTactic
import Derived.KernelRfl
import Derived.Test.YtkdklcamgcmifaaDoorProg
namespace Go.Proofs.YtkdklcamgcmifaaDoor
open Go.RowKit
theorem infoU8 : (Tryd.prog.info? 5).map (fun i => (i.zero, i.size, i.bytes)) = some (some (.int .u8 0), 1, 1) := by kernel_rfl
theorem own_cap {w : World} {base n c : Nat} {e : TypeId} {size : Nat} {A : Option Addr} {xs : List Value} (h : w.ownsRow base e size (.slice A n c) n xs) : n ≤ c ∧ c ≤ maxLen := by
  rcases h.2 with ⟨he, h0⟩ | ⟨g, cap, cur, he, _, _, h1, h2, _⟩
  · injection he with _ hn hc
    subst hc
    exact ⟨by omega, by simp [maxLen]⟩
  · injection he with _ _ hc
    subst hc
    exact ⟨h1, h2⟩
end Go.Proofs.YtkdklcamgcmifaaDoor
