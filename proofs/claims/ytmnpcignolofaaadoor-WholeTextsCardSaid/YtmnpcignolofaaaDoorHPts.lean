/- Points, ways and hunks: what the walks of Way's callers share. -/
import Derived.Test.YtmnpcignolofaaaDoorHWayF
namespace Go.Proofs.YtmnpcignolofaaaDoor
set_option linter.unusedVariables false
set_option linter.unusedSimpArgs false
open Go.RowKit Go.Proofs.YtmnpcignolofaaaDoorW.PrintWords Go.Proofs.YtmnpcignolofaaaDoorW.PrintMore
theorem fl_sub1 : ∀ n : Fin 1002, floatBits .sub .f64 (fl (n.val + 1)) (fl n.val) = some 4607182418800017408 := by decide +kernel
theorem fl_sub0 : ∀ n : Fin 1002, floatBits .sub .f64 (fl n.val) (fl n.val) = some 0 := by decide +kernel
theorem fl_sub (z t : Nat) (hz : z ≤ 1000) (ht : t ≤ 1) : floatBits .sub .f64 (fl (z + t)) (fl z) = some (fl t) := by
  rcases t with _ | _ | t
  · rw [fl_0]; exact fl_sub0 ⟨z, by omega⟩
  · rw [fl_1]; exact fl_sub1 ⟨z, by omega⟩
  · omega
theorem cx_sub (x y u v : Nat) (hx : x ≤ 1000) (hy : y ≤ 1000) (hu : u ≤ 1) (hv : v ≤ 1) (w : World) : (binOp .sub 36 (.complex .f64 (fl (x + u)) (fl (y + v))) (.complex .f64 (fl x) (fl y))).run Tryd.prog w = .ok (.complex .f64 (fl u) (fl v)) w := by
  refine run_complex_sum w .sub (.inr rfl) 36 .f64 _ _ _ _ _ _ ?_
  unfold cSumBits
  rw [fl_sub x u hx hu, fl_sub y v hy hv]
  rfl
theorem way_len (a b : List ByteArray) : ∀ (k x y : Nat), a.length + b.length - (x + y) = k → x ≤ a.length → y ≤ b.length → (wayW a b x y).length ≤ k := by
  intro k
  induction k using Nat.strongRecOn with
  | _ k ih =>
    intro x y hk hx hy
    by_cases h : x = a.length ∧ y = b.length
    · rw [h.1, h.2, wayW_end]
      simp
    · have hin := stepD_in hx hy h
      rw [wayW_go hx hy h]
      have := ih _ (by omega) (x + (stepD a b x y).1) (y + (stepD a b x y).2) rfl hin.1 hin.2.1
      simp only [List.length_cons]
      omega
theorem way_last (a b : List ByteArray) : ∀ (k x y : Nat), a.length + b.length - (x + y) = k → x ≤ a.length → y ≤ b.length → ∀ d, ((x, y) :: wayW a b x y).getD (wayW a b x y).length d = (a.length, b.length) := by
  intro k
  induction k using Nat.strongRecOn with
  | _ k ih =>
    intro x y hk hx hy d
    by_cases h : x = a.length ∧ y = b.length
    · rw [h.1, h.2, wayW_end]
      rfl
    · have hin := stepD_in hx hy h
      rw [wayW_go hx hy h]
      have := ih _ (by omega) (x + (stepD a b x y).1) (y + (stepD a b x y).2) rfl hin.1 hin.2.1 d
      simpa using this
abbrev Pn := Nat × Nat
/-- Two points that follow. -/
structure Two (a b : List ByteArray) (w : List Pn) (i x y dx dy : Nat) : Prop where
  p : w.getD i (0, 0) = (x, y)
  q : w.getD (i + 1) (0, 0) = (x + dx, y + dy)
  st : stepD a b x y = (dx, dy)
  hx : x + dx ≤ a.length
  hy : y + dy ≤ b.length
  one : 1 ≤ dx + dy
  d1 : dx ≤ 1
  d2 : dy ≤ 1
theorem two_of (a b : List ByteArray) : ∀ (k x y i : Nat), a.length + b.length - (x + y) = k → x ≤ a.length → y ≤ b.length → i + 1 < ((x, y) :: wayW a b x y).length → ∃ u v dx dy, Two a b ((x, y) :: wayW a b x y) i u v dx dy := by
  intro k
  induction k using Nat.strongRecOn with
  | _ k ih =>
    intro x y i hk hx hy hi
    by_cases h : x = a.length ∧ y = b.length
    · rw [h.1, h.2, wayW_end] at hi
      simp at hi
    · have hin := stepD_in hx hy h
      have hgo := wayW_go hx hy h
      rcases i with _ | i
      · rw [hgo]
        exact ⟨x, y, (stepD a b x y).1, (stepD a b x y).2, ⟨rfl, rfl, rfl, hin.1, hin.2.1, hin.2.2.1, hin.2.2.2.1, hin.2.2.2.2⟩⟩
      · rw [hgo] at hi ⊢
        obtain ⟨u, v, dx, dy, t⟩ := ih _ (by omega) (x + (stepD a b x y).1) (y + (stepD a b x y).2) i rfl hin.1 hin.2.1 (by simpa using hi)
        exact ⟨u, v, dx, dy, ⟨t.p, t.q, t.st, t.hx, t.hy, t.one, t.d1, t.d2⟩⟩
theorem two_at (a b : List ByteArray) (i : Nat) (h : i + 1 < (wayP a b).length) : ∃ u v dx dy, Two a b (wayP a b) i u v dx dy := two_of a b _ 0 0 i rfl (by omega) (by omega) h
theorem wayP_len (a b : List ByteArray) : 1 ≤ (wayP a b).length ∧ (wayP a b).length ≤ a.length + b.length + 1 := by
  have h := way_len a b _ 0 0 rfl (by omega) (by omega)
  unfold wayP
  simp only [List.length_cons]
  omega
/-- The cells of hunks. -/
def hc (l : List (Pn × Pn)) : List Value := l.flatMap fun h => [pt h.1, pt h.2]
theorem hc_append (l m : List (Pn × Pn)) : hc (l ++ m) = hc l ++ hc m := by simp [hc]
theorem hc_one (p q : Pn) : hc [(p, q)] = [pt p, pt q] := rfl
theorem hc_length (l : List (Pn × Pn)) : (hc l).length = l.length * 2 := by
  induction l with
  | nil => rfl
  | cons h l ih =>
    rw [show h :: l = [h] ++ l from rfl, hc_append, List.length_append, ih, List.length_append]
    show 2 + l.length * 2 = (1 + l.length) * 2
    omega
theorem eq_guardC (op : BinOp) (u v : Operand) (x y z t : Nat) (w : World) : (eqGuard op 36 u v (.complex .f64 x y) (.complex .f64 z t)).run Tryd.prog w = .ok () w := by
  cases u <;> cases v <;> cases op <;> rfl
theorem k11_11 (w : World) : (binOp .eql 36 (.complex .f64 4607182418800017408 4607182418800017408) (.complex .f64 4607182418800017408 4607182418800017408)).run Tryd.prog w = .ok (.bool true) w := by kernel_rfl
theorem k10_11 (w : World) : (binOp .eql 36 (.complex .f64 4607182418800017408 0) (.complex .f64 4607182418800017408 4607182418800017408)).run Tryd.prog w = .ok (.bool false) w := by kernel_rfl
theorem k01_11 (w : World) : (binOp .eql 36 (.complex .f64 0 4607182418800017408) (.complex .f64 4607182418800017408 4607182418800017408)).run Tryd.prog w = .ok (.bool false) w := by kernel_rfl
theorem k10_10 (w : World) : (binOp .eql 36 (.complex .f64 4607182418800017408 0) (.complex .f64 4607182418800017408 0)).run Tryd.prog w = .ok (.bool true) w := by kernel_rfl
theorem k01_10 (w : World) : (binOp .eql 36 (.complex .f64 0 4607182418800017408) (.complex .f64 4607182418800017408 0)).run Tryd.prog w = .ok (.bool false) w := by kernel_rfl
theorem n11_11 (w : World) : (binOp .neq 36 (.complex .f64 4607182418800017408 4607182418800017408) (.complex .f64 4607182418800017408 4607182418800017408)).run Tryd.prog w = .ok (.bool false) w := by kernel_rfl
theorem n10_11 (w : World) : (binOp .neq 36 (.complex .f64 4607182418800017408 0) (.complex .f64 4607182418800017408 4607182418800017408)).run Tryd.prog w = .ok (.bool true) w := by kernel_rfl
theorem n01_11 (w : World) : (binOp .neq 36 (.complex .f64 0 4607182418800017408) (.complex .f64 4607182418800017408 4607182418800017408)).run Tryd.prog w = .ok (.bool true) w := by kernel_rfl
theorem infoH : (Tryd.prog.info? 38).map (fun i => (i.zero, i.size, i.bytes)) = some (some (.agg #[.complex .f64 0 0, .complex .f64 0 0]), 2, 32) := by kernel_rfl
theorem own_pos {w : World} {base n size : Nat} {e : TypeId} {v : Value} {xs : List Value} (h : w.ownsRow base e size v n xs) (hn : 0 < n) : ∃ g cap, v = .slice (some ⟨g, 0, none⟩) n cap := by
  rcases h.2 with ⟨_, h0⟩ | ⟨g, cap, cur, hv, _⟩
  · omega
  · exact ⟨g, cap, hv⟩
theorem sto_cx (X Y : Nat) (w : World) (a : Addr) : (store a (.complex .f64 X Y)).run Tryd.prog w = stored Tryd.prog w a (.complex .f64 X Y) .plain := run_store _ w a _ _ rfl
theorem hc_0 (l : List (Pn × Pn)) (i : Nat) (h : i < l.length) : (hc l)[i * 2]? = some (pt (l.getD i ((0, 0), (0, 0))).1) ∧ (hc l)[i * 2 + 1]? = some (pt (l.getD i ((0, 0), (0, 0))).2) := by
  induction l generalizing i with
  | nil => simp at h
  | cons p l ih =>
    rcases i with _ | i
    · exact ⟨rfl, rfl⟩
    · have := ih i (by simpa using h)
      rw [show (i + 1) * 2 = i * 2 + 1 + 1 by omega]
      exact ⟨this.1, this.2⟩
theorem own_cells2 {w : World} {base : Nat} {e : TypeId} {g cap : Nat} {l : List (Pn × Pn)} (h : w.ownsRow base e 2 (.slice (some ⟨g, 0, none⟩) l.length cap) l.length (hc l)) (i : Nat) (hi : i < l.length) :
    w.cell? ⟨g, i * 2, none⟩ = some (pt (l.getD i ((0, 0), (0, 0))).1) ∧ w.cell? ⟨g, i * 2 + 1, none⟩ = some (pt (l.getD i ((0, 0), (0, 0))).2) := by
  have h1 := h.cells (g := g) rfl _ _ (hc_0 l i hi).1
  have h2 := h.cells (g := g) rfl _ _ (hc_0 l i hi).2
  rw [add_plain] at h1 h2
  exact ⟨h1, h2⟩
theorem al_size (W : World) (o : Obj) : (W.alloc o).heap.size = W.heap.size + 1 := by simp
theorem sto_cx2 (p : Pn) (w : World) (a : Addr) : (store a (pt p)).run Tryd.prog w = stored Tryd.prog w a (pt p) .plain := run_store _ w a _ _ rfl
set_option maxHeartbeats 2000000 in
theorem lay_long (w : World) (A : Option Addr) (ca n : Nat) (B : Option Addr) (cb m : Nat) (h : 1000 < n ∨ 1000 < m) (hn : n ≤ 9223372036854775807) (hm : m ≤ 9223372036854775807) :
    Calls Tryd.prog 32 #[.slice A n ca, .slice B m cb] w fun e w' => e = .returned (.tuple #[.pointer none, .int .i64 2]) ∧ w' = w := by
  by_cases h1 : 1000 < n
  · have g1 : (n : Int) > 1000 := by omega
    clear h
    go_enter Tryd.func32, Tryd.ntmps32
    go_wp2_with fail
    go_ret2
    exact ⟨rfl, rfl⟩
  · have g1 : ¬ (n : Int) > 1000 := by omega
    have g2 : (m : Int) > 1000 := by omega
    clear h
    go_enter Tryd.func32, Tryd.ntmps32
    go_wp2_with fail
    go_ret2
    exact ⟨rfl, rfl⟩
set_option maxHeartbeats 2000000 in
theorem way_long (w : World) (A : Option Addr) (ca n : Nat) (B : Option Addr) (cb m : Nat) (h : 1000 < n ∨ 1000 < m) (hn : n ≤ 9223372036854775807) (hm : m ≤ 9223372036854775807) :
    Calls Tryd.prog 15 #[.slice A n ca, .slice B m cb] w fun e w' => e = .returned (.tuple #[.slice none 0 0, .int .i64 2]) ∧ w' = w := by
  have HL := Lib.hid (lay_long w A ca n B cb m h hn hm)
  clear h
  go_enter Tryd.func15, Tryd.ntmps15
  go_wp2_with fail
  refine HL.out.mono ?_
  rintro e w1 ⟨rfl, rfl⟩
  go_wp2_with fail
  go_ret2
  exact ⟨rfl, rfl⟩
set_option maxHeartbeats 2000000 in
theorem rest_long (w : World) (A : Option Addr) (ca n : Nat) (B : Option Addr) (cb m : Nat) (h : 1000 < n ∨ 1000 < m) (hn : n ≤ 9223372036854775807) (hm : m ≤ 9223372036854775807) :
    Calls Tryd.prog 17 #[.slice A n ca, .slice B m cb] w fun e w' => e = .returned (.tuple #[.int .i64 0, .int .i64 2]) ∧ w' = w := by
  have HL := Lib.hid (lay_long w A ca n B cb m h hn hm)
  clear h
  go_enter Tryd.func17, Tryd.ntmps17
  go_wp2_with fail
  refine HL.out.mono ?_
  rintro e w1 ⟨rfl, rfl⟩
  go_wp2_with fail
  go_ret2
  exact ⟨rfl, rfl⟩
end Go.Proofs.YtmnpcignolofaaaDoor
