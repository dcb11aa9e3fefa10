/- num.more: slices.Clip(slices.Concat(p)): a copy of the bytes whose room ends with it. -/
import Derived.Test.YtiocipmnmjpkfaaHRow
import Derived.Test.YtiocipmnmjpkfaaProg
import Derived.Test.YtiocipmnmjpkfaaWZeros
import Derived.WalkKit
import Derived.KernelRfl
import Derived.Lib.Hide
import Derived.LoopN
import Derived.Deep.DeepMust
import Derived.Laws.Slices
namespace Go.Proofs.Ytiocipmnmjpkfaa
set_option linter.unusedVariables false
set_option linter.unusedSimpArgs false
open Go.RowKit Go.Proofs.YtiocipmnmjpkfaaW.PrintWords Go.Proofs.YtiocipmnmjpkfaaW.PrintMore

theorem infoU8 : (Try.prog.info? 5).map (fun i => (i.zero, i.size, i.bytes)) = some (some (.int .u8 0), 1, 1) := by kernel_rfl

set_option maxHeartbeats 400000 in
theorem clip_calls (A : Option Addr) (n c : Nat) (w : World) (h : n ≤ c) (hm : c ≤ 9223372036854775807) :
    Calls Try.prog 59 #[.slice A n c] w fun e w' => e = .returned (.slice A n n) ∧ w = w' := by
  go_enter Try.func59, Try.ntmps59
  go_wp2
  go_ret
  exact ⟨rfl, rfl⟩

set_option maxHeartbeats 400000 in
theorem grow_calls (n : Nat) (w : World) (h0 : 0 < n) (hn : n ≤ 140737488355328) :
    Calls Try.prog 67 #[.slice none 0 0, .int .i64 n] w fun e w' => ∃ v, e = .returned v ∧ w'.ownsRow w.heap.size 5 1 v 0 [] ∧ Below w.heap.size w w' := by
  have h1 : ¬ ((n : Int) < 0) := by omega
  have h2 : (0 : Int) < (n : Int) := by omega
  go_enter Try.func67, Try.ntmps67
  go_wp2_with (at_builtin; refine Kd.R_append_zeros (Kd.int .u8) w.heap.size rfl (.tmp 20) (.tmp 21) 22 3 5 (.int .u8 0) 1 rfl Try.underlying22 Try.underlying3 infoU8 rfl (by decide) (by decide) (.slice none 0 0) [] 0 (n : Int) (fun _ => True) rfl rfl rfl (fun _ _ => trivial) (Kd.R_nil _ _ _ _ _) (by omega) (Below.refl w.heap.size w) (Nat.le_refl _) (by simp; omega) ?_; go_must (intro v1 w1 hR hB1 _ _; obtain ⟨A1, c1, hv1, hcap1, _⟩ := Kd.R_reads hR; have hlen1 : ([] ++ List.replicate (n : Int).toNat (0 : Int)).length = n := (by simp); rw [hlen1] at hv1 hcap1; subst hv1; have HR := Lib.hid hR; clear hR hlen1))
  go_ret
  have h2 := Kd.R_take HR.out (m := 0) (by simp)
  have h3 : w1.ownsRow w.heap.size 5 1 (.slice A1 0 c1) 0 [] := Kd.own_of_R (enc := Value.int .u8) h2
  exact ⟨_, rfl, h3, hB1⟩

set_option maxHeartbeats 400000 in
theorem grow_zero (w : World) :
    Calls Try.prog 67 #[.slice none 0 0, .int .i64 0] w fun e w' => e = .returned (.slice none 0 0) ∧ w = w' := by
  go_enter Try.func67, Try.ntmps67
  go_wp2
  go_ret
  exact ⟨rfl, rfl⟩

theorem grow_any (n : Nat) (w : World) (hn : n ≤ 140737488355328) :
    Calls Try.prog 67 #[.slice none 0 0, .int .i64 n] w fun e w' => ∃ v, e = .returned v ∧ w'.ownsRow w.heap.size 5 1 v 0 [] ∧ Below w.heap.size w w' := by
  rcases Nat.eq_zero_or_pos n with rfl | h
  · refine (grow_zero w).mono ?_
    rintro e w' ⟨rfl, rfl⟩
    exact ⟨_, rfl, own_nil _ _ _ _, Below.refl _ _⟩
  · exact grow_calls n w h hn

set_option maxHeartbeats 1000000 in
theorem concat_calls (b : Nat) (A : Option Addr) (c : Nat) (l : List Int) (w : World) (hc : w.cell? ⟨b, 0, none⟩ = some (.slice A l.length c)) (hl : ReadsInt w .u8 A l.length l) (hn : l.length ≤ 140737488355328) :
    Calls Try.prog 60 #[.slice (some ⟨b, 0, none⟩) 1 1] w fun e w' => ∃ v, e = .returned v ∧ w'.ownsRow w.heap.size 5 1 v l.length (nums .u8 l) ∧ Below w.heap.size w w' := by
  go_enter Try.func60, Try.ntmps60
  have HL := Lib.hid hl
  clear hl
  go_wp2
  refine wp_loop_rounds 2 ?_
  rw [rounds_succ]
  go_wp2_with fail
  rw [rounds_succ]
  go_wp2_with fail
  refine (grow_any _ _ hn).mono ?_
  rintro e w1 ⟨v1, rfl, hown1, hb1⟩
  have hc1 : w1.cell? ⟨b, 0, none⟩ = some (.slice A l.length c) := pw_cell_below hb1 hc
  go_wp2_with fail
  refine wp_loop_rounds 2 ?_
  rw [rounds_succ]
  have HL1 := Lib.hid (HL.out.below hb1)
  go_wp2_with (at_builtin; go_must (refine print_append_row (w0 := w) w.heap.size rfl (.tmp 31) (.tmp 32) 22 5 .u8 1 rfl Try.underlying22 infoU8 (by decide) v1 [] l A l.length c rfl rfl (by simpa [nums] using hown1) HL1.out hb1 hb1.size (by simp; omega) ?_; intro v2 w2 hown2 hb2 _ _))
  rw [rounds_succ]
  go_wp2_with fail
  go_ret
  exact ⟨_, rfl, by simpa using hown2, hb2⟩

theorem own_cap {w : World} {base n c : Nat} {e : TypeId} {size : Nat} {A : Option Addr} {xs : List Value} (h : w.ownsRow base e size (.slice A n c) n xs) : n ≤ c ∧ c ≤ maxLen := by
  rcases h.2 with ⟨he, h0⟩ | ⟨g, cap, cur, he, _, _, h1, h2, _⟩
  · injection he with _ hn hc
    subst hc
    exact ⟨by omega, by simp [maxLen]⟩
  · injection he with _ _ hc
    subst hc
    exact ⟨h1, h2⟩

set_option maxHeartbeats 400000 in
/-- num.more: the same bytes; the room ends with them. -/
theorem more_calls (A : Option Addr) (c : Nat) (l : List Int) (w : World) (hl : ReadsInt w .u8 A l.length l) (hn : l.length ≤ 140737488355328) :
    Calls Try.prog 44 #[.slice A l.length c] w fun e w' => ∃ v, e = .returned v ∧ BRow 5 w' w.heap.size v l ∧ Below w.heap.size w w' := by
  have HL := Lib.hid hl
  clear hl
  go_enter Try.func44, Try.ntmps44
  go_wp2_with fail
  refine (concat_calls _ A c l _ (by simp) (HL.out.allocS _) hn).mono ?_
  rintro e w1 ⟨v1, rfl, hown1, hb1⟩
  obtain ⟨A1, c1, rfl, hr1⟩ := own_reads hown1
  have hb2 : Below w.heap.size w w1 := below_then (below_alloc (Below.refl _ _) _) (by simp) hb1
  have hcap := own_cap hown1
  rw [maxLen] at hcap
  go_wp2_with fail
  refine (clip_calls A1 _ c1 w1 hcap.1 hcap.2).mono ?_
  rintro e w2 ⟨rfl, rfl⟩
  go_wp2_with fail
  go_ret
  exact ⟨_, rfl, .inr ⟨A1, rfl, hr1⟩, hb2⟩
end Go.Proofs.Ytiocipmnmjpkfaa
