/- A finder made: a map with room, a row of zeros. -/
import Derived.Test.YtkdklcamgcmifaaDoorHMatch
import Derived.RegionTactic
import Derived.Laws.OwnMore
namespace Go.Proofs.YtkdklcamgcmifaaDoor
set_option linter.unusedVariables false
set_option linter.unusedSimpArgs false
open Go.RowKit Go.Proofs.YtkdklcamgcmifaaDoorW.PrintWords Go.Proofs.YtkdklcamgcmifaaDoorW.PrintMore
theorem infoU8 : (Tryd.prog.info? 5).map (fun i => (i.zero, i.size, i.bytes)) = some (some (.int .u8 0), 1, 1) := by kernel_rfl
theorem own_cap {w : World} {base n c : Nat} {e : TypeId} {size : Nat} {A : Option Addr} {xs : List Value} (h : w.ownsRow base e size (.slice A n c) n xs) : n ≤ c ∧ c ≤ maxLen := by
  rcases h.2 with ⟨he, h0⟩ | ⟨g, cap, cur, he, _, _, h1, h2, _⟩
  · injection he with _ hn hc
    subst hc
    exact ⟨by omega, by simp [maxLen]⟩
  · injection he with _ _ hc
    subst hc
    exact ⟨h1, h2⟩

theorem make_map (n : Int) (w : World) : (Instr.makeMap 81 (some (.int .i64 n))).run Tryd.prog w = .ok (.map (some w.heap.size)) (w.alloc (.map #[] 0)) := by
  simp [Instr.makeMap, asInt, asIntOf]
theorem infoInt : (Tryd.prog.info? 3).map (fun i => (i.zero, i.size, i.bytes)) = some (some (.int .i64 0), 1, 8) := by kernel_rfl
theorem fd_boxed {w0 wM : World} {M V : Nat} {A : Option Addr} {c : Nat} {l : List Int} (hb : Below w0.heap.size w0 wM) (hrd : ReadsInt w0 .u8 A l.length l) (hM : w0.heap.size ≤ M)
    (hmap : wM.ownsMap (H := Unit) Tryd.prog 39 (plainElem Tryd.prog 3) M 0 (.map [])) (hrow : wM.ownsRow w0.heap.size 3 1 (.slice (some ⟨V, 0, none⟩) l.length l.length) l.length (nums .i64 (List.replicate l.length 0))) :
    Fd w0 wM.heap.size M V A c l.length l 0 (wM.alloc (.cells #[.slice A l.length c, .map (some M), .slice (some ⟨V, 0, none⟩) l.length l.length] 83)) := by
  have hD : MapIs (.map [] : DataW Unit) l 0 := ⟨Maps.isMap_empty, fun k => by simp [Maps.has_eq, lastAt], fun k j h => by cases h⟩
  have hsz := hb.size
  exact ⟨heap_alloc_new wM _, hsz, hM, hrd, below_alloc hb _, ⟨_, 0, hmap.alloc _, Nat.le_refl _, hD⟩, _, hrow.alloc _, fun j hj => absurd hj (by omega)⟩
theorem made_finder1 {w0 w : World} {A : Option Addr} {c : Nat} {l : List Int} (hb : Below w0.heap.size w0 w) (hrd : ReadsInt w0 .u8 A l.length l) (hm : l.length ≤ 1048576) :
    Fd w0 (w.heap.size + 2) w.heap.size (w.heap.size + 1) A c l.length l 0 (((w.alloc (.map #[] 0)).alloc (.cells (madeCells #[.int .i64 0] l.length) 3)).alloc (.cells #[.slice A l.length c, .map (some w.heap.size), .slice (some ⟨w.heap.size + 1, 0, none⟩) l.length l.length] 83)) := by
  have hsz := hb.size
  have hrow := own_made (w.alloc (.map #[] 0)) w0.heap.size 3 .i64 l.length (by simp; omega) (by omega)
  have h := fd_boxed (c := c) (below_alloc (below_alloc hb (.map #[] 0)) (.cells (madeCells #[.int .i64 0] l.length) 3)) hrd hsz ((World.ownsMap_made w Tryd.prog 39 (plainElem Tryd.prog 3)).alloc _) hrow
  simpa using h
theorem made_finder2 {w0 w : World} {A : Option Addr} {c : Nat} {l : List Int} (hb : Below w0.heap.size w0 w) (hrd : ReadsInt w0 .u8 A l.length l) (hm : l.length ≤ 1048576) :
    Fd w0 (w.heap.size + 2) (w.heap.size + 1) w.heap.size A c l.length l 0 (((w.alloc (.cells (madeCells #[.int .i64 0] l.length) 3)).alloc (.map #[] 0)).alloc (.cells #[.slice A l.length c, .map (some (w.heap.size + 1)), .slice (some ⟨w.heap.size, 0, none⟩) l.length l.length] 83)) := by
  have hsz := hb.size
  have hrow := (own_made w w0.heap.size 3 .i64 l.length hsz (by omega)).alloc (.map #[] 0)
  have h := fd_boxed (c := c) (M := w.heap.size + 1) (below_alloc (below_alloc hb (.cells (madeCells #[.int .i64 0] l.length) 3)) (.map #[] 0)) hrd (by omega) (by simpa using World.ownsMap_made (H := Unit) (w.alloc (.cells (madeCells #[.int .i64 0] l.length) 3)) Tryd.prog 39 (plainElem Tryd.prog 3)) hrow
  simpa using h
end Go.Proofs.YtkdklcamgcmifaaDoor
