/- diff.Rest and the awake of layer 19 (the same texts as foreign/diff_1Rest, foreign/law19_awake). -/
import Derived.Test.YtmnpcignolofaaaDoorHPts
namespace Go.Proofs.YtmnpcignolofaaaDoor
set_option linter.unusedVariables false
set_option linter.unusedSimpArgs false
open Go.RowKit Go.Proofs.YtmnpcignolofaaaDoorW.PrintWords Go.Proofs.YtmnpcignolofaaaDoorW.PrintMore
def diff_Rest.f (l0 : List ByteArray) (l1 : List ByteArray) : Option (Int × Int) := if l0.length ≤ 1000 ∧ l1.length ≤ 1000 ∧ (∀ s ∈ l0, s.size ≤ maxLen) ∧ (∀ s ∈ l1, s.size ≤ maxLen) then some ((dist (txs l0) (txs l1) : Int), 0) else none
set_option maxRecDepth 8000 in
set_option maxHeartbeats 2000000 in
theorem rest_calls (w : World) (A : Option Addr) (ca : Nat) (a : List ByteArray) (B : Option Addr) (cb : Nat) (b : List ByteArray) (hla : ReadsOf Value.string ByteArray.empty w A a.length a) (hlb : ReadsOf Value.string ByteArray.empty w B b.length b)
    (hna : a.length ≤ 1000) (hnb : b.length ≤ 1000) (hsa : ∀ s ∈ a, s.size ≤ maxLen) (hsb : ∀ s ∈ b, s.size ≤ maxLen) :
    Calls Tryd.prog 17 #[.slice A a.length ca, .slice B b.length cb] w fun e w' => e = .returned (.tuple #[.int .i64 (dist (txs a) (txs b) : Int), .int .i64 0]) ∧ Below w.heap.size w w' := by
  have HL := Lib.hid (lay_calls w A ca a B cb b hla hlb hna hnb hsa hsb)
  obtain ⟨d, hd0⟩ : ∃ d, d = dist (txs a) (txs b) := ⟨_, rfl⟩
  rw [← hd0]
  have HD0 := Lib.hid hd0
  clear hla hlb hsa hsb hd0
  go_enter Tryd.func17, Tryd.ntmps17
  go_wp2_with fail
  refine HL.out.mono ?_
  rintro e w1 ⟨g, R, Aa, c1, Ab, c2, al, bl, T, rfl, hpl, hnums, hok, hbel⟩
  have hla := hnums.la
  have hlb := hnums.lb
  have HPL := Lib.hid hpl
  have HB := Lib.hid hbel
  have h0 := hok 0 0 (by omega) (by omega) (.inr ⟨rfl, Nat.le_refl _⟩)
  have hql : 0 < T.length := by rw [hpl.len]; exact Nat.mul_pos (by omega) (by omega)
  have kc := (hpl.cell 0 hql).1
  rw [Nat.zero_mul, Nat.zero_add] at h0
  rw [h0] at kc
  have hd := dd_le a b 0 0
  have hdd : dd a b 0 0 = d := by rw [HD0.out]; rfl
  rw [hdd] at kc hd
  clear hpl hnums hok hbel h0 hdd HL
  go_wp2_with fail
  refine (at_calls w.heap.size g R Aa c1 Ab c2 al bl T w1 HPL.out (by omega) (by omega) 0 0 (by omega) (by omega) _ _ rfl rfl).mono ?_
  rintro e w2 ⟨rfl, n2, rfl⟩
  rw [Nat.zero_mul, Nat.zero_add]
  go_wp2_with fail
  go_ret2
  exact ⟨rfl, pw_below_drewN HB.out n2⟩
theorem diff_Rest.calls (A0 : Option Addr) (c0 : Nat) (l0 : List ByteArray) (A1 : Option Addr) (c1 : Nat) (l1 : List ByteArray) (r1 : Int) (r2 : Int) (w : World) (hr0 : Kd.C Kd.string w A0 l0.length l0) (hc0 : l0.length ≤ c0) (hr1 : Kd.C Kd.string w A1 l1.length l1) (hc1 : l1.length ≤ c1) (h : diff_Rest.f l0 l1 = some (r1, r2)) :
    Calls Tryd.prog 17 #[.slice A0 l0.length c0, .slice A1 l1.length c1] w fun e w' => e = .returned (.tuple #[.int .i64 r1, .int .i64 r2]) ∧ Below w.heap.size w w' := by
  unfold diff_Rest.f at h
  split at h
  · rename_i hb
    have e := Option.some.inj h
    have h1 : r1 = (dist (txs l0) (txs l1) : Int) := by cases e; rfl
    have h2 : r2 = 0 := by cases e; rfl
    rw [h1, h2]
    exact rest_calls w A0 c0 l0 A1 c1 l1 (Kd.reads_of_C (enc := Value.string) (d := ByteArray.empty) hr0) (Kd.reads_of_C (enc := Value.string) (d := ByteArray.empty) hr1) hb.1 hb.2.1 hb.2.2.1 hb.2.2.2
  · cases h
def codicillaw19_awake.f : Option (Bool) := some true
theorem aw19_lits (w : World) (u v : ByteArray) : ReadsOf Value.string ByteArray.empty (w.alloc (.cells #[.string u, .string v] 9)) (some ⟨w.heap.size, 0, none⟩) 2 [u, v] :=
  own_reads_of' (own_lit_of (enc := Value.string) w w.heap.size 9 [u, v] (Nat.le_refl _) (by simp))
theorem aw19_pts (w : World) : ReadsOf pt (0, 0) (w.alloc (.cells #[.complex .f64 0 0, .complex .f64 4607182418800017408 0, .complex .f64 4611686018427387904 4607182418800017408, .complex .f64 4611686018427387904 4611686018427387904] 36)) (some ⟨w.heap.size, 0, none⟩) 4 [(0, 0), (1, 0), (2, 1), (2, 2)] := by
  have h := own_reads_of' (d := (0, 0)) (own_lit_of (enc := pt) w w.heap.size 36 [(0, 0), (1, 0), (2, 1), (2, 2)] (Nat.le_refl _) (by simp))
  have e : encs pt [(0, 0), (1, 0), (2, 1), (2, 2)] = [.complex .f64 0 0, .complex .f64 4607182418800017408 0, .complex .f64 4611686018427387904 4607182418800017408, .complex .f64 4611686018427387904 4611686018427387904] := by
    simp only [encs, List.map_cons, List.map_nil, pt, fl_0, fl_1, fl_2]
  rw [e] at h
  exact h
theorem aw19_size : ∀ s ∈ [sX, sY], s.size ≤ maxLen := by decide
theorem aw19_size2 : ∀ s ∈ [sY, sZ], s.size ≤ maxLen := by decide
/-- The two lists of awake, laid. -/
def awW (w : World) : World := (w.alloc (.cells #[.string ⟨#[120]⟩, .string ⟨#[121]⟩] 9)).alloc (.cells #[.string ⟨#[121]⟩, .string ⟨#[122]⟩] 9)
theorem aw19_two (w : World) : ReadsOf Value.string ByteArray.empty (awW w) (some ⟨w.heap.size, 0, none⟩) 2 [sX, sY] ∧ ReadsOf Value.string ByteArray.empty (awW w) (some ⟨w.heap.size + 1, 0, none⟩) 2 [sY, sZ] ∧ Below w.heap.size w (awW w) := by
  refine ⟨(aw19_lits w sX sY).below (below_alloc (Below.refl _ _) _), ?_, below_alloc (below_alloc (Below.refl _ _) _) _⟩
  have h := aw19_lits (w.alloc (.cells #[.string ⟨#[120]⟩, .string ⟨#[121]⟩] 9)) sY sZ
  have e : (w.alloc (.cells #[.string ⟨#[120]⟩, .string ⟨#[121]⟩] 9)).heap.size = w.heap.size + 1 := by simp
  rw [e] at h
  exact h
theorem aw19_way (w : World) : Calls Tryd.prog 15 #[.slice (some ⟨w.heap.size, 0, none⟩) 2 2, .slice (some ⟨w.heap.size + 1, 0, none⟩) 2 2] (awW w) fun e w' => ∃ B d, e = .returned (.tuple #[.slice B 4 d, .int .i64 0]) ∧ ReadsOf pt (0, 0) w' B 4 [(0, 0), (1, 0), (2, 1), (2, 2)] ∧ Below w.heap.size w w' := by
  have h := aw19_two w
  refine (diffWay_calls (awW w) _ 2 [sX, sY] _ 2 [sY, sZ] h.1 h.2.1 (by decide) (by decide) aw19_size aw19_size2).mono ?_
  rintro e w1 ⟨v, rfl, hv, hb⟩
  rw [way_xy] at hv
  obtain ⟨B, d, rfl⟩ := own_slice hv
  exact ⟨B, d, rfl, own_reads_of' hv, below_then h.2.2 h.2.2.size hb⟩
theorem aw19_rest (w : World) : Calls Tryd.prog 17 #[.slice (some ⟨w.heap.size, 0, none⟩) 2 2, .slice (some ⟨w.heap.size + 1, 0, none⟩) 2 2] (awW w) fun e w' => e = .returned (.tuple #[.int .i64 2, .int .i64 0]) ∧ Below w.heap.size w w' := by
  have h := aw19_two w
  refine (rest_calls (awW w) _ 2 [sX, sY] _ 2 [sY, sZ] h.1 h.2.1 (by decide) (by decide) aw19_size aw19_size2).mono ?_
  rintro e w1 ⟨rfl, hb⟩
  rw [rest_xy]
  exact ⟨rfl, below_then h.2.2 h.2.2.size hb⟩
set_option maxRecDepth 8000 in
set_option maxHeartbeats 2000000 in
theorem codicillaw19_awake.calls (r : Bool) (w : World) (h : codicillaw19_awake.f = some r) :
    Calls Tryd.prog 11 #[] w fun e w' => e = .returned (.bool r) ∧ Below w.heap.size w w' := by
  obtain rfl := Option.some.inj h
  go_enter Tryd.func11, Tryd.ntmps11
  go_wp2_with fail
  refine (aw19_way w).mono ?_
  rintro e w1 ⟨B1, d1, rfl, hv1, hb1⟩
  have HV1 := Lib.hid hv1
  have HB1 := Lib.hid hb1
  clear hv1 hb1
  go_wp2_with fail
  refine (aw19_rest w1).mono ?_
  rintro e w2 ⟨rfl, hb2⟩
  have HV2 := Lib.hid (HV1.out.below hb2)
  have HB2 := Lib.hid (below_then HB1.out HB1.out.size hb2)
  clear hb2 HV1 HB1
  go_wp2_with fail
  refine (sameWay_calls _ B1 d1 (some ⟨w2.heap.size, 0, none⟩) 4 [(0, 0), (1, 0), (2, 1), (2, 2)] (HV2.out.below (below_alloc (Below.refl _ _) _)) (aw19_pts w2) (by decide) (by decide)).mono ?_
  rintro e w3 ⟨rfl, k3, rfl⟩
  go_wp2_with fail
  go_ret
  exact ⟨rfl, pw_below_drewN (below_alloc HB2.out _) _⟩
end Go.Proofs.YtmnpcignolofaaaDoor
