/- diff.Way, codicilref19.SameWay; the ways of awake. -/
import Derived.Test.YtmnpcignolofaaaDoorHWayL
namespace Go.Proofs.YtmnpcignolofaaaDoor
set_option linter.unusedVariables false
set_option linter.unusedSimpArgs false
open Go.RowKit Go.Proofs.YtmnpcignolofaaaDoorW.PrintWords Go.Proofs.YtmnpcignolofaaaDoorW.PrintMore
set_option maxRecDepth 8000 in
set_option maxHeartbeats 2000000 in
theorem diffWay_calls (w : World) (A : Option Addr) (ca : Nat) (a : List ByteArray) (B : Option Addr) (cb : Nat) (b : List ByteArray) (hla : ReadsOf Value.string ByteArray.empty w A a.length a) (hlb : ReadsOf Value.string ByteArray.empty w B b.length b)
    (hna : a.length ≤ 1000) (hnb : b.length ≤ 1000) (hsa : ∀ s ∈ a, s.size ≤ maxLen) (hsb : ∀ s ∈ b, s.size ≤ maxLen) :
    Calls Tryd.prog 15 #[.slice A a.length ca, .slice B b.length cb] w fun e w' => ∃ v, e = .returned (.tuple #[v, .int .i64 0]) ∧ w'.ownsRow w.heap.size 36 1 v (wayP a b).length (encs pt (wayP a b)) ∧ Below w.heap.size w w' := by
  have HL := Lib.hid (lay_calls w A ca a B cb b hla hlb (by omega) (by omega) hsa hsb)
  clear hla hlb hsa hsb
  go_enter Tryd.func15, Tryd.ntmps15
  go_wp2_with fail
  refine HL.out.mono ?_
  rintro e w1 ⟨g, R, Aa, c1, Ab, c2, al, bl, T, rfl, hpl, hnums, hok, hbel⟩
  have HW := Lib.hid (way_calls w.heap.size g R Aa c1 Ab c2 al bl T w1 a b hpl hnums hok hna hnb)
  have HB := Lib.hid hbel
  clear hpl hnums hok hbel HL
  go_wp2_with fail
  refine HW.out.mono ?_
  rintro e w2 ⟨v, rfl, hv, hb2⟩
  have HV := Lib.hid (own_weaken hv (base' := w.heap.size) HB.out.size)
  have HB2 := Lib.hid (below_then HB.out HB.out.size hb2)
  clear hv hb2
  go_wp2_with fail
  go_ret2
  exact ⟨v, rfl, HV.out, HB2.out⟩
theorem cx_self (p : Nat × Nat) (h1 : p.1 ≤ 1001) (h2 : p.2 ≤ 1001) (w : World) : (binOp .neq 36 (pt p) (pt p)).run Tryd.prog w = .ok (.bool false) w := by
  have h := cx_neq p.1 p.2 p.1 p.2 h1 h2 h1 h2 w
  have e : (!(decide (p.1 = p.1) && decide (p.2 = p.2))) = false := by simp
  rw [e] at h
  exact h
set_option maxRecDepth 8000 in
set_option maxHeartbeats 2000000 in
theorem sameWay_calls (w : World) (A : Option Addr) (ca : Nat) (B : Option Addr) (cb : Nat) (l : List (Nat × Nat)) (ha : ReadsOf pt (0, 0) w A l.length l) (hb : ReadsOf pt (0, 0) w B l.length l) (hl : ∀ p ∈ l, p.1 ≤ 1001 ∧ p.2 ≤ 1001) (hn : l.length ≤ 1000) :
    Calls Tryd.prog 30 #[.slice A l.length ca, .slice B l.length cb] w fun e w' => e = .returned (.bool true) ∧ ∃ k, w' = w.drewN k := by
  have HA := Lib.hid ha
  have HB := Lib.hid hb
  have HL := Lib.hid hl
  have hself : ((l.length : Int) == (l.length : Int)) = true := by simp
  clear ha hb hl
  go_enter Tryd.func30, Tryd.ntmps30
  go_wp2_with fail
  go_loopw [13] (fun vi wr => ∃ i : Nat, vi = .int .i64 i ∧ i ≤ l.length ∧ Hid (∃ k, wr = w.drewN k)) (fun vi _ => l.length - (intOf vi).toNat)
  case atStart => exact ⟨0, rfl, by omega, Lib.hid ⟨0, rfl⟩⟩
  case round =>
    obtain ⟨i, rfl, hi, hw⟩ := hrel
    by_cases hlt : i < l.length
    · have i0 : (0 : Int) ≤ (i : Int) := by omega
      have i1 : (i : Int) < (l.length : Int) := by omega
      obtain ⟨aa, hAa, ka⟩ := HA.out.2.2 (by omega)
      obtain ⟨ab, hAb, kb⟩ := HB.out.2.2 (by omega)
      subst hAa hAb
      have k1 : wr.cell? (aa.add i) = some (pt (l.getD i (0, 0))) := by obtain ⟨k, rfl⟩ := hw.out; exact ka i hlt
      have k2 : wr.cell? (ab.add i) = some (pt (l.getD i (0, 0))) := by obtain ⟨k, rfl⟩ := hw.out; exact kb i hlt
      have hm : l.getD i (0, 0) ∈ l := by
        rw [List.getD_eq_getElem?_getD, List.getElem?_eq_getElem hlt]
        exact List.getElem_mem hlt
      have hp := HL.out _ hm
      have hne := cx_self (l.getD i (0, 0)) hp.1 hp.2
      have hgd := eq_guard (.tmp 19) (.tmp 23) (l.getD i (0, 0)) (l.getD i (0, 0))
      generalize l.getD i (0, 0) = p at k1 k2 hne hgd
      clear ka kb hm hp hlt
      go_wp2_with fail
      go_quiet (fail)
      go_wp2_with fail
      go_roundw
      case rel =>
        obtain ⟨k, rfl⟩ := hw.out
        exact ⟨i + 1, by go_num, by omega, Lib.hid ⟨k + nq, World.drewN_drewN _ _ _⟩⟩
      case measure => simp [intOf]; omega
    · obtain rfl : i = l.length := by omega
      go_wp2_with fail
      go_ret
      exact ⟨rfl, hw.out⟩
def sX : ByteArray := ⟨#[120]⟩
def sY : ByteArray := ⟨#[121]⟩
def sZ : ByteArray := ⟨#[122]⟩
theorem fl_2 : fl 2 = 4611686018427387904 := by decide +kernel
theorem d_yz : dist [[(121 : UInt8)]] [[122]] = 2 := by rw [dist_other (by decide), dist_nil, dist_nil2]; rfl
theorem d_10 : dd [sX, sY] [sY, sZ] 1 0 = 1 := by
  show dist [[(121 : UInt8)]] [[121], [122]] = 1
  rw [dist_same, dist_nil]
  rfl
theorem d_01 : dd [sX, sY] [sY, sZ] 0 1 = 3 := by
  show dist [[(120 : UInt8)], [121]] [[122]] = 3
  rw [dist_other (by decide), d_yz, dist_nil2]
  rfl
theorem rest_xy : dist (txs [sX, sY]) (txs [sY, sZ]) = 2 := by
  show dist [[(120 : UInt8)], [121]] [[121], [122]] = 2
  rw [dist_other (by decide)]
  have h1 : dist [[(121 : UInt8)]] [[121], [122]] = 1 := d_10
  have h2 : dist [[(120 : UInt8)], [121]] [[122]] = 3 := d_01
  rw [h1, h2]
  rfl
theorem way_xy : wayP [sX, sY] [sY, sZ] = [(0, 0), (1, 0), (2, 1), (2, 2)] := by
  have s0 : stepD [sX, sY] [sY, sZ] 0 0 = (1, 0) := by
    unfold stepD
    rw [if_neg (by decide), if_pos ⟨by decide, .inr (by rw [d_10, d_01]; decide)⟩]
  have s1 : stepD [sX, sY] [sY, sZ] 1 0 = (1, 1) := by
    unfold stepD
    rw [if_pos (by decide)]
  have s2 : stepD [sX, sY] [sY, sZ] 2 1 = (0, 1) := by
    unfold stepD
    rw [if_neg (by decide), if_neg (fun h => absurd h.1 (by decide))]
  unfold wayP
  rw [wayW_go (by decide) (by decide) (by decide), s0]
  show (0, 0) :: (1, 0) :: wayW [sX, sY] [sY, sZ] 1 0 = _
  rw [wayW_go (by decide) (by decide) (by decide), s1]
  show (0, 0) :: (1, 0) :: (2, 1) :: wayW [sX, sY] [sY, sZ] 2 1 = _
  rw [wayW_go (by decide) (by decide) (by decide), s2]
  show (0, 0) :: (1, 0) :: (2, 1) :: (2, 2) :: wayW [sX, sY] [sY, sZ] 2 2 = _
  have h := wayW_end [sX, sY] [sY, sZ]
  have h' : wayW [sX, sY] [sY, sZ] 2 2 = [] := h
  rw [h']
end Go.Proofs.YtmnpcignolofaaaDoor
