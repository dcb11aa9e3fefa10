/- codicillaw08.awake holds. -/
import Derived.Test.YtiocipmnmjpkfaaHMakeS
import Derived.Test.YtiocipmnmjpkfaaHConst
namespace Go.Proofs.Ytiocipmnmjpkfaa
set_option linter.unusedVariables false
set_option linter.unusedSimpArgs false
open Go.RowKit Go.Proofs.YtiocipmnmjpkfaaW.PrintWords Go.Proofs.YtiocipmnmjpkfaaW.PrintMore

theorem da_1 : applyF [97, 98, 99, 100, 101, 102] [6, 5, 144, 3, 2, 120, 121] 9 = (0, [97, 98, 99, 120, 121]) := by decide +kernel
theorem da_2 : sizeL 10 (([97, 98, 99] : List Int).length : Int) ++ sizeL 10 (([97, 98, 99, 100] : List Int).length : Int) ++ flushL [97, 98, 99, 100] = [3, 4, 4, 97, 98, 99, 100] := by decide +kernel
theorem da_3 : applyF [97, 98, 99] [3, 4, 4, 97, 98, 99, 100] 4 = (0, [97, 98, 99, 100]) := by decide +kernel
theorem da_k6 (W : World) : ReadsInt (W.alloc (.cells #[.int .u8 97, .int .u8 98, .int .u8 99, .int .u8 100, .int .u8 101, .int .u8 102] 5 (6, 7))) .u8 (some ⟨W.heap.size, 0, none⟩) 6 [97, 98, 99, 100, 101, 102] := const_reads W 5 [97, 98, 99, 100, 101, 102] _ _ rfl (by decide)
theorem da_k3 (W : World) : ReadsInt (W.alloc (.cells #[.int .u8 97, .int .u8 98, .int .u8 99] 5 (3, 4))) .u8 (some ⟨W.heap.size, 0, none⟩) 3 [97, 98, 99] := const_reads W 5 [97, 98, 99] _ _ rfl (by decide)
theorem da_k4 (W : World) : ReadsInt (W.alloc (.cells #[.int .u8 97, .int .u8 98, .int .u8 99, .int .u8 100] 5 (4, 5))) .u8 (some ⟨W.heap.size, 0, none⟩) 4 [97, 98, 99, 100] := const_reads W 5 [97, 98, 99, 100] _ _ rfl (by decide)
theorem kc_two (w : World) (o : Obj) (C : Array Value) (n c : Nat) : (convert 22 22 (.slice (some ⟨w.heap.size + 1, 0, none⟩) n c)).run Try.prog ((w.alloc o).alloc (.cells C 5)) = .ok (.slice (some ⟨w.heap.size + 1, 0, none⟩) n c) ((w.alloc o).alloc (.cells C 5 (C.size, C.size + 1))) := by
  have h := Lib.run_convert_bytes_const (P := Try.prog) (w.alloc o) 22 5 C n c Try.underlying22 Try.underlying5
  rwa [World.size_alloc] at h
set_option maxRecDepth 8000 in
theorem da_app1 (w : World) : Calls Try.prog 37 #[.slice (some ⟨w.heap.size, 0, none⟩) 6 6, .slice (some ⟨w.heap.size + 1, 0, none⟩) 7 7, .int .i64 9] ((w.alloc (.cells #[.int .u8 97, .int .u8 98, .int .u8 99, .int .u8 100, .int .u8 101, .int .u8 102] 5 (6, 7))).alloc (.cells #[.int .u8 6, .int .u8 5, .int .u8 144, .int .u8 3, .int .u8 2, .int .u8 120, .int .u8 121] 5)) fun e w' => ∃ A c, e = .returned (.tuple #[.slice A 5 c, .int .i64 0]) ∧ Bs 5 w' w.heap.size (.slice A 5 c) [97, 98, 99, 120, 121] ∧ Below w.heap.size w w' := by
  have h := dapply_calls (some ⟨w.heap.size, 0, none⟩) (some ⟨w.heap.size + 1, 0, none⟩) 6 7 [97, 98, 99, 100, 101, 102] [6, 5, 144, 3, 2, 120, 121] 9 ((w.alloc (.cells #[.int .u8 97, .int .u8 98, .int .u8 99, .int .u8 100, .int .u8 101, .int .u8 102] 5 (6, 7))).alloc (.cells #[.int .u8 6, .int .u8 5, .int .u8 144, .int .u8 3, .int .u8 2, .int .u8 120, .int .u8 121] 5))
    ((da_k6 w).below (below_alloc (Below.refl _ _) _)) (by decide) (by have h2 := own_reads' (own_lit (w.alloc (.cells #[.int .u8 97, .int .u8 98, .int .u8 99, .int .u8 100, .int .u8 101, .int .u8 102] 5 (6, 7))) 0 5 .u8 [6, 5, 144, 3, 2, 120, 121] (Nat.zero_le _) (by simp)); rw [World.size_alloc] at h2; exact h2) (by decide) (by decide) (by decide) (by decide)
  rw [da_1] at h
  refine h.mono ?_
  rintro e w' ⟨v, rfl, ho, hb⟩
  obtain ⟨A, n, c, rfl, HO, HN⟩ := Bs.open_ ho
  obtain rfl : n = 5 := HN.out
  exact ⟨A, c, rfl, own_weaken ho (by simp; omega), (below_alloc (below_alloc (Below.refl _ _) _) _).trans (hb.mono (by simp; omega))⟩
set_option maxRecDepth 8000 in
set_option maxHeartbeats 2000000 in
theorem dawake_calls (w : World) : Calls Try.prog 36 #[] w fun e w' => e = .returned (.bool true) ∧ Below w.heap.size w w' := by
  have kc := fun (w : World) (C : Array Value) (n c : Nat) => Lib.run_convert_bytes_const (P := Try.prog) w 22 5 C n c Try.underlying22 Try.underlying5
  have kc2 := kc_two
  have e1 : (strOfNums [97, 98, 99, 120, 121]).toList = [97, 98, 99, 120, 121] := by decide +kernel
  have e3 : (strOfNums [97, 98, 99, 100]).toList = [97, 98, 99, 100] := by decide +kernel
  go_enter Try.func36, Try.ntmps36
  go_wp2_with fail
  refine (da_app1 w).mono ?_
  rintro e w1 ⟨A1, c1, rfl, ho1, hb1⟩
  have HO1 := Lib.hid ho1
  have HB1 := Lib.hid hb1
  clear ho1 hb1
  go_wp2_with fail
  have hmk := make_small (some ⟨w1.heap.size, 0, none⟩) (some ⟨w1.heap.size + 1, 0, none⟩) 3 4 [97, 98, 99] [97, 98, 99, 100] ((w1.alloc (.cells #[.int .u8 97, .int .u8 98, .int .u8 99] 5 (3, 4))).alloc (.cells #[.int .u8 97, .int .u8 98, .int .u8 99, .int .u8 100] 5 (4, 5))) (by decide) (by decide) (by decide) (by decide) (by have h2 := da_k4 (w1.alloc (.cells #[.int .u8 97, .int .u8 98, .int .u8 99] 5 (3, 4))); rw [World.size_alloc] at h2; exact h2)
  rw [da_2] at hmk
  refine hmk.mono ?_
  rintro e w2 ⟨v2, rfl, ho2, hb2⟩
  obtain ⟨A2, n2, c2, rfl, HO2, HN2⟩ := Bs.open_ ho2
  obtain rfl : n2 = 7 := HN2.out
  have HB2 := Lib.hid (below_then (below_alloc (below_alloc HB1.out _) _) (by have := HB1.out.size; simp; omega) hb2)
  have HO1b := Lib.hid (pw_own_below HO1.out (((below_alloc (below_alloc (Below.refl _ _) _) _)).trans (hb2.mono (by simp; omega))))
  have hc2 := (own_cap HO2.out).1
  clear hmk ho2 hb2 HN2
  go_wp2_with fail
  have hap := dapply_calls (some ⟨w2.heap.size, 0, none⟩) A2 3 c2 [97, 98, 99] [3, 4, 4, 97, 98, 99, 100] 4 (w2.alloc (.cells #[.int .u8 97, .int .u8 98, .int .u8 99] 5 (3, 4))) (da_k3 w2) (by decide) ((own_reads' HO2.out).below (below_alloc (Below.refl _ _) _)) hc2 (by decide) (by decide) (by decide)
  rw [da_3] at hap
  refine hap.mono ?_
  rintro e w3 ⟨v3, rfl, ho3, hb3⟩
  obtain ⟨A3, n3, c3, rfl, HO3, HN3⟩ := Bs.open_ ho3
  obtain rfl : n3 = 4 := HN3.out
  have HB3 := Lib.hid (below_then (below_alloc HB2.out _) (below_alloc HB2.out _).size hb3)
  have HO1c := Lib.hid (pw_own_below HO1b.out ((below_alloc (Below.refl _ _) _).trans (hb3.mono (by simp))))
  have hst1 : (convert 22 9 (.slice A1 5 c1)).run Try.prog w3 = .ok (.string (strOfNums [97, 98, 99, 120, 121])) w3 := own_string Try.underlying22 Try.underlying5 Try.underlying9 HO1c.out
  have hst3 : (convert 22 9 (.slice A3 4 c3)).run Try.prog w3 = .ok (.string (strOfNums [97, 98, 99, 100])) w3 := own_string Try.underlying22 Try.underlying5 Try.underlying9 HO3.out
  clear hap ho3 hb3 HN3
  go_wp2_with fail
  go_ret
  exact ⟨rfl, HB3.out⟩
end Go.Proofs.Ytiocipmnmjpkfaa
