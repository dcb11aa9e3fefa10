/- codicillaw08.DeltaFixed: the calls that it makes. -/
import Derived.Test.YtiocipmnmjpkfaaHDAwake
import Derived.Test.YtiocipmnmjpkfaaHCopyL
import Derived.Laws.OwnMore
namespace Go.Proofs.Ytiocipmnmjpkfaa
set_option linter.unusedVariables false
set_option linter.unusedSimpArgs false
open Go.RowKit Go.Proofs.YtiocipmnmjpkfaaW.PrintWords Go.Proofs.YtiocipmnmjpkfaaW.PrintMore

theorem apply_head (base d : List Int) (most v p1 p2 : Int) (h0 : sizeF d 0 = ((base.length : Int), p1, 0)) (h1 : sizeF d p1 = (v, p2, 0)) (hv : v ≤ most) (hm0 : 0 ≤ most) (hm : most ≤ 1048576) :
    applyF base d most = runF base v.toNat ((d.drop p2.toNat).length + 1) [] (d.drop p2.toNat) := by
  unfold applyF
  rw [if_neg (by omega), h0]
  dsimp only
  rw [if_neg (by simp), if_neg (by simp), h1]
  dsimp only
  rw [if_neg (by simp), if_neg (by omega)]
/-- A constant base, a literal delta. -/
theorem fx_app (w : World) (bs ds : List Int) (most : Int) (p : Int × List Int) (hp : applyF bs ds most = p) (hb : bs.length ≤ 1000) (hd : ds.length ≤ 1000) (hby : ∀ x ∈ ds, 0 ≤ x ∧ x < 256) :
    Calls Try.prog 37 #[.slice (some ⟨w.heap.size, 0, none⟩) bs.length bs.length, .slice (some ⟨w.heap.size + 1, 0, none⟩) ds.length ds.length, .int .i64 most]
      ((w.alloc (.cells (nums .u8 bs).toArray 5 (bs.length, bs.length + 1))).alloc (.cells (nums .u8 ds).toArray 5)) fun e w' => ∃ A c, e = .returned (.tuple #[.slice A p.2.length c, .int .i64 p.1]) ∧ Below w.heap.size w w' := by
  have hr := own_reads' (own_lit (w.alloc (.cells (nums .u8 bs).toArray 5 (bs.length, bs.length + 1))) 0 5 .u8 ds (Nat.zero_le _) (by omega))
  rw [World.size_alloc] at hr
  have h := dapply_calls (some ⟨w.heap.size, 0, none⟩) (some ⟨w.heap.size + 1, 0, none⟩) bs.length ds.length bs ds most ((w.alloc (.cells (nums .u8 bs).toArray 5 (bs.length, bs.length + 1))).alloc (.cells (nums .u8 ds).toArray 5))
    ((const_reads w 5 bs _ _ rfl hb).below (below_alloc (Below.refl _ _) _)) (Nat.le_refl _) hr (Nat.le_refl _) (by omega) (by omega) hby
  rw [hp] at h
  refine h.mono ?_
  rintro e w' ⟨v, rfl, ho, hb⟩
  obtain ⟨A, n, c, rfl, HO, HN⟩ := Bs.open_ ho
  obtain rfl : n = p.2.length := HN.out
  exact ⟨A, c, rfl, (below_alloc (below_alloc (Below.refl _ _) _) _).trans (hb.mono (by simp; omega))⟩
set_option maxRecDepth 8000 in
set_option maxHeartbeats 1000000 in
theorem make_long (A : Option Addr) (n c : Nat) (w : World) (h : 1048576 < n) :
    Calls Try.prog 41 #[.slice none 0 0, .slice A n c] w fun e w' => e = .returned (.tuple #[.slice none 0 0, .int .i64 2]) ∧ w = w' := by
  have h1 : (1048576 : Int) < (n : Int) := by omega
  clear h
  go_enter Try.func41, Try.ntmps41
  go_wp2_with fail
  go_ret2
  exact ⟨rfl, rfl⟩
theorem fx_big : applyF (List.replicate 70000 0) [240, 162, 4, 128, 128, 4, 128] 65536 = (0, (List.replicate 70000 (0 : Int)).take 65536) := by
  have h0 : sizeF [240, 162, 4, 128, 128, 4, 128] 0 = (70000, 3, 0) := by decide +kernel
  have h1 : sizeF [240, 162, 4, 128, 128, 4, 128] 3 = (65536, 6, 0) := by decide +kernel
  have hl : (List.replicate 70000 (0 : Int)).length = 70000 := List.length_replicate
  have h := apply_head (List.replicate 70000 0) [240, 162, 4, 128, 128, 4, 128] 65536 65536 3 6 (by rw [h0, hl]; rfl) h1 (by omega) (by omega) (by omega)
  have hm : mkB (cpB 0 65536) 7 = 128 := by decide +kernel
  have hs : lsB (cpB 0 65536) 7 = [] := by decide +kernel
  have ho := one_copy (List.replicate 70000 0) [] 0 65536 (by omega) (by omega) (by omega) (by rw [hl]; omega)
  rw [show (((0 : Nat) : Int)) = 0 from rfl, show (((65536 : Nat) : Int)) = 65536 from rfl, hm, hs] at ho
  rw [List.append_nil, List.drop_zero] at ho
  rw [h]
  show runF (List.replicate 70000 0) 65536 2 [] [128] = _
  have ht : ((List.replicate 70000 (0 : Int)).take 65536).length = 65536 := by rw [List.length_take, hl]; rfl
  rw [runF_cons, ho]
  dsimp only
  rw [if_pos rfl, if_neg (by rw [ht]; simp), runF_nil, List.nil_append, if_pos ht]
theorem df_lit (w : World) (o : Obj) : Bs 5 ((w.alloc o).alloc (.cells #[.int .u8 240, .int .u8 162, .int .u8 4, .int .u8 128, .int .u8 128, .int .u8 4] 5)) (w.heap.size + 1) (.slice (some ⟨w.heap.size + 1, 0, none⟩) 6 6) [240, 162, 4, 128, 128, 4] := by
  have h := own_lit (w.alloc o) (w.heap.size + 1) 5 .u8 [240, 162, 4, 128, 128, 4] (by simp) (by simp)
  rw [World.size_alloc] at h
  exact h
theorem df_b1 (w : World) (o o2 : Obj) : Below (w.heap.size + 1) (w.alloc o) ((w.alloc o).alloc o2) := (Below.refl _ _).alloc (by simp) _
theorem df_b2 (w : World) (o o2 : Obj) : w.heap.size + 1 ≤ ((w.alloc o).alloc o2).heap.size := by simp
end Go.Proofs.Ytiocipmnmjpkfaa
