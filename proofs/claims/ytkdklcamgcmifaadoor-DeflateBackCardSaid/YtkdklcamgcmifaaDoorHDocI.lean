/- The document's reader: right, fixed. -/
import Derived.Test.YtkdklcamgcmifaaDoorHDocH
namespace Go.Proofs.YtkdklcamgcmifaaDoor
set_option linter.unusedVariables false
set_option linter.unusedSimpArgs false
open Go.RowKit Go.Proofs.YtkdklcamgcmifaaDoorW.PrintWords Go.Proofs.YtkdklcamgcmifaaDoorW.PrintMore
/-- right under way: n lengths are gone through. -/
def RgS (l : List Nat) (n S K F : Nat) : Prop := n ≤ l.length ∧ S = sumS (l.take n) ∧ K = cntS (l.take n) ∧ F = fstS (l.take n)
theorem RgS.step {l : List Nat} {n S K F x : Nat} (h : RgS l n S K F) (hx : l[n]? = some x) (hn : n < l.length) : RgS l (n + 1) (S + if x = 0 then 0 else 2 ^ (15 - x)) (K + if x = 0 then 0 else 1) (if x = 0 then F else x) := by
  obtain ⟨h0, rfl, rfl, rfl⟩ := h
  refine ⟨by omega, ?_, ?_, ?_⟩
  · rw [take_snoc hx, sumS_snoc]
  · rw [take_snoc hx, cntS_snoc]
  · rw [take_snoc hx, fstS_snoc]
theorem RgS.bd {l : List Nat} {n S K F : Nat} (h : RgS l n S K F) (hl : l.length ≤ 1000) : S ≤ 32768000 ∧ K ≤ 1000 := by
  obtain ⟨h0, rfl, rfl, rfl⟩ := h
  have h1 := sumS_le (l.take n)
  have h2 := cntS_le (l.take n)
  rw [List.length_take, Nat.min_eq_left h0] at h1 h2
  omega
theorem RgS.done {l : List Nat} {n S K F : Nat} (h : RgS l n S K F) (hn : ¬ n < l.length) (nn : Bool) : rgtF l nn = (S == 32768 || K == 1 && F == 1 || nn && K == 0) := by
  obtain ⟨h0, rfl, rfl, rfl⟩ := h
  rw [show n = l.length by omega, List.take_length]
  rfl
set_option maxRecDepth 8000 in
set_option maxHeartbeats 4000000 in
theorem right_calls (w : World) (A : Option Addr) (c : Nat) (l : List Nat) (nn : Bool) (hr : ReadsInt w .i64 A l.length (natI l)) (hl : l.length ≤ 1000) (hx : ∀ x ∈ l, x < 16) :
    Calls Tryd.prog 56 #[.slice A l.length c, .bool nn] w fun ee w' => ee = .returned (.bool (okT l nn)) ∧ w' = w := by
  rw [← rgt_ok nn hx]
  have HR := Lib.hid hr
  have HL := Lib.hid hl
  have HX := Lib.hid hx
  clear hr hl hx
  go_enter Tryd.func56, Tryd.ntmps56
  go_wp2_with fail
  go_loopw [5, 6, 7, 12] (fun s k f i wr => ∃ n S K F : Nat, i = .int .i64 n ∧ s = .int .i64 S ∧ k = .int .i64 K ∧ f = .int .i64 F ∧ Hid (wr = w) ∧ Hid (RgS l n S K F)) (fun _ _ _ i _ => l.length - (intOf i).toNat)
  case atStart => exact ⟨0, 0, 0, 0, rfl, rfl, rfl, rfl, Lib.hid rfl, Lib.hid ⟨Nat.zero_le _, rfl, rfl, rfl⟩⟩
  case round =>
    obtain ⟨n, S, K, F, rfl, rfl, rfl, rfl, HW, HG⟩ := hrel
    obtain rfl := HW.out
    have hl1 : (l.length : Int) ≤ 1000 := by have := HL.out; omega
    obtain ⟨hb1, hb2⟩ := HG.out.bd HL.out
    have hS : (S : Int) ≤ 32768000 := by omega
    have hK : (K : Int) ≤ 1000 := by omega
    clear hb1 hb2
    by_cases hlt : n < l.length
    · have slt : (n : Int) < (l.length : Int) := by omega
      obtain ⟨ad, rfl, hcl⟩ := HR.out.2.2 (by omega)
      clear hcl
      have hcs := nat_cell HR.out (Below.refl _ _) hlt
      have hx16 := HX.out _ (getD_mem hlt)
      generalize hgx : l.getD n 0 = x at hcs hx16
      have HGX := Lib.hid (getD_get hlt hgx)
      clear hgx
      by_cases h0 : x = 0
      · subst h0
        go_wp2_with fail
        go_roundw
        case rel => exact ⟨n + 1, S, K, F, by simp, rfl, rfl, rfl, by first | exact Lib.hid rfl | exact Lib.hid trivial, Lib.hid (HG.out.step HGX.out hlt)⟩
        case measure => simp [intOf]; omega
      · have hx0 : (0 : Int) < (x : Int) := by omega
        obtain ⟨y, hy⟩ : ∃ y, y = 15 - x := ⟨_, rfl⟩
        have hyI : (15 : Int) - (x : Int) = (y : Int) := by omega
        have hy15 : (y : Int) < 15 := by omega
        have hy0 : (0 : Int) ≤ (y : Int) := by omega
        obtain ⟨z, hz⟩ : ∃ z, z = 2 ^ y := ⟨_, rfl⟩
        have hzb : z ≤ 32768 := by rw [hz]; exact Nat.le_trans (Nat.pow_le_pow_right (by decide) (show y ≤ 15 by omega)) (by decide)
        have hzI : (2 : Int) ^ y = (z : Int) := by rw [hz]; simp
        have hzb2 : (z : Int) ≤ 32768 := by omega
        have HZ := Lib.hid (And.intro hy hz)
        clear hz hzb hy
        have hst := Lib.hid (HG.out.step HGX.out hlt)
        go_wp2_with fail
        have hst2 := hst.out
        rw [if_neg h0, if_neg h0, if_neg h0, ← HZ.out.1, ← HZ.out.2] at hst2
        refine ⟨⟨n + 1, S + z, K + 1, x, by simp, by simp, by simp, rfl, by first | exact Lib.hid rfl | exact Lib.hid trivial, Lib.hid hst2⟩, by simp [intOf]; omega⟩
    · have slt : ¬ (n : Int) < (l.length : Int) := by omega
      have hd := Lib.hid (HG.out.done hlt nn)
      cases nn
      all_goals (
        go_wp2_with fail
        all_goals (
          go_ret
          refine ⟨congrArg (fun b => Ending.returned (.bool b)) ?_, rfl⟩
          rw [hd.out, Bool.eq_iff_iff]
          simp
          omega))
def fixV (s : Nat) : Nat := if 144 ≤ s ∧ s < 256 then 9 else if 256 ≤ s ∧ s < 280 then 7 else 8
theorem fixL_map : fixL = (List.range 288).map fixV := by decide +kernel
theorem fixL_take {s : Nat} (h : s < 288) : fixL.take (s + 1) = fixL.take s ++ [fixV s] := by
  have e : fixL[s]? = some (fixV s) := by rw [fixL_map]; simp [h]
  exact take_snoc e
theorem fixL_tlen {s : Nat} (h : s ≤ 288) : (fixL.take s).length = s := by
  rw [List.length_take, fixL_map, List.length_map, List.length_range]; omega
theorem fixV_cases (n : Nat) (h : n < 288) : (fixV n = 8 ∧ n < 144) ∨ (fixV n = 9 ∧ 144 ≤ n ∧ n < 256) ∨ (fixV n = 7 ∧ 256 ≤ n ∧ n < 280) ∨ (fixV n = 8 ∧ 280 ≤ n) := by
  unfold fixV
  by_cases h1 : 144 ≤ n ∧ n < 256
  · rw [if_pos h1]; omega
  · rw [if_neg h1]
    by_cases h2 : 256 ≤ n ∧ n < 280
    · rw [if_pos h2]; omega
    · rw [if_neg h2]; omega
theorem fixL_natI {n : Nat} (h : n < 288) {x : Nat} (hx : fixV n = x) : natI (fixL.take n) ++ [(x : Int)] = natI (fixL.take (n + 1)) := by
  rw [fixL_take h, hx]
  simp [natI]
set_option maxRecDepth 8000 in
set_option maxHeartbeats 4000000 in
theorem dfixed_calls (w : World) : Calls Tryd.prog 32 #[] w fun ee w' => ∃ (A1 A2 : Option Addr) (c1 c2 : Nat), ee = .returned (.tuple #[.slice A1 fixL.length c1, .slice A2 fixD.length c2]) ∧ Hid (w'.ownsRow w.heap.size 3 1 (.slice A1 fixL.length c1) fixL.length (nums .i64 (natI fixL))) ∧ Hid (w'.ownsRow w.heap.size 3 1 (.slice A2 fixD.length c2) fixD.length (nums .i64 (natI fixD))) ∧ Hid (Below w.heap.size w w') := by
  go_enter Tryd.func32, Tryd.ntmps32
  go_wp2_with fail
  go_loopw [2, 4] (fun v i wr => ∃ n : Nat, i = .int .i64 n ∧ Hid (n ≤ 288) ∧ Hid (wr.ownsRow w.heap.size 3 1 v (natI (fixL.take n)).length (nums .i64 (natI (fixL.take n)))) ∧ Hid (Below w.heap.size w wr)) (fun _ i _ => 288 - (intOf i).toNat)
  case atStart => exact ⟨0, rfl, Lib.hid (by omega), Lib.hid (own_nil _ _ _ _), Lib.hid (Below.refl _ _)⟩
  case round =>
    obtain ⟨n, rfl, HN, HO, HB⟩ := hrel
    by_cases hn : n < 288
    · have in1 : (n : Int) < 288 := by omega
      have HSZ := Lib.hid HB.out.size
      have HN2 := Lib.hid hn
      have hlen := Lib.hid (show (natI (fixL.take n)).length ≤ 288 by rw [natI_length, fixL_tlen (by omega)]; omega)
      rcases fixV_cases n hn with ⟨hv, h1⟩ | ⟨hv, h1, h2⟩ | ⟨hv, h1, h2⟩ | ⟨hv, h1⟩
      · have i1 : ¬ (n : Int) ≥ 144 := by omega
        have i2 : ¬ (n : Int) ≥ 256 := by omega
        have HV := Lib.hid (show natI (fixL.take n) ++ [(8 : Int)] = natI (fixL.take (n + 1)) from fixL_natI hn hv)
        have HNN := Lib.hid hn
        clear hn hv
        go_wp2_with (at_builtin; refine print_append_num (w0 := w) w.heap.size rfl (.tmp 23) (.tmp 25) 51 3 .i64 8 rfl Tryd.underlying51 infoIntB (by omega) _ (natI (fixL.take n)) 8 rfl rfl HO.out HB.out HSZ.out (by have := hlen.out; omega) ?_; intro v1 w1 hown1 hbel1 hgrow hat; have HOWN := Lib.hid hown1; have HB1 := Lib.hid hbel1; clear hown1 hbel1 hgrow hat)
        have ho := HOWN.out
        have e := HV.out
        rw [e] at ho
        exact ⟨⟨n + 1, by simp, Lib.hid (by have := HNN.out; omega), Lib.hid ho, HB1⟩, by have := HNN.out; simp [intOf]; omega⟩
      · have i1 : (n : Int) ≥ 144 := by omega
        have i3 : (n : Int) < 256 := by omega
        have i2 : ¬ (n : Int) ≥ 256 := by omega
        have HV := Lib.hid (show natI (fixL.take n) ++ [(9 : Int)] = natI (fixL.take (n + 1)) from fixL_natI hn hv)
        have HNN := Lib.hid hn
        clear hn hv
        go_wp2_with (at_builtin; refine print_append_num (w0 := w) w.heap.size rfl (.tmp 23) (.tmp 25) 51 3 .i64 8 rfl Tryd.underlying51 infoIntB (by omega) _ (natI (fixL.take n)) 9 rfl rfl HO.out HB.out HSZ.out (by have := hlen.out; omega) ?_; intro v1 w1 hown1 hbel1 hgrow hat; have HOWN := Lib.hid hown1; have HB1 := Lib.hid hbel1; clear hown1 hbel1 hgrow hat)
        have ho := HOWN.out
        have e := HV.out
        rw [e] at ho
        exact ⟨⟨n + 1, by simp, Lib.hid (by have := HNN.out; omega), Lib.hid ho, HB1⟩, by have := HNN.out; simp [intOf]; omega⟩
      · have i1 : (n : Int) ≥ 144 := by omega
        have i3 : ¬ (n : Int) < 256 := by omega
        have i2 : (n : Int) ≥ 256 := by omega
        have i4 : (n : Int) < 280 := by omega
        have HV := Lib.hid (show natI (fixL.take n) ++ [(7 : Int)] = natI (fixL.take (n + 1)) from fixL_natI hn hv)
        have HNN := Lib.hid hn
        clear hn hv
        go_wp2_with (at_builtin; refine print_append_num (w0 := w) w.heap.size rfl (.tmp 23) (.tmp 25) 51 3 .i64 8 rfl Tryd.underlying51 infoIntB (by omega) _ (natI (fixL.take n)) 7 rfl rfl HO.out HB.out HSZ.out (by have := hlen.out; omega) ?_; intro v1 w1 hown1 hbel1 hgrow hat; have HOWN := Lib.hid hown1; have HB1 := Lib.hid hbel1; clear hown1 hbel1 hgrow hat)
        have ho := HOWN.out
        have e := HV.out
        rw [e] at ho
        exact ⟨⟨n + 1, by simp, Lib.hid (by have := HNN.out; omega), Lib.hid ho, HB1⟩, by have := HNN.out; simp [intOf]; omega⟩
      · have i1 : (n : Int) ≥ 144 := by omega
        have i3 : ¬ (n : Int) < 256 := by omega
        have i2 : (n : Int) ≥ 256 := by omega
        have i4 : ¬ (n : Int) < 280 := by omega
        have HV := Lib.hid (show natI (fixL.take n) ++ [(8 : Int)] = natI (fixL.take (n + 1)) from fixL_natI hn hv)
        have HNN := Lib.hid hn
        clear hn hv
        go_wp2_with (at_builtin; refine print_append_num (w0 := w) w.heap.size rfl (.tmp 23) (.tmp 25) 51 3 .i64 8 rfl Tryd.underlying51 infoIntB (by omega) _ (natI (fixL.take n)) 8 rfl rfl HO.out HB.out HSZ.out (by have := hlen.out; omega) ?_; intro v1 w1 hown1 hbel1 hgrow hat; have HOWN := Lib.hid hown1; have HB1 := Lib.hid hbel1; clear hown1 hbel1 hgrow hat)
        have ho := HOWN.out
        have e := HV.out
        rw [e] at ho
        exact ⟨⟨n + 1, by simp, Lib.hid (by have := HNN.out; omega), Lib.hid ho, HB1⟩, by have := HNN.out; simp [intOf]; omega⟩
    · obtain rfl : n = 288 := by have := HN.out; omega
      have HSW := Lib.hid HB.out.size
      have e288 : natI (fixL.take 288) = natI fixL := by rw [List.take_of_length_le (by rw [fixL_map]; simp)]
      have hO2 := HO.out
      rw [e288, natI_length] at hO2
      obtain ⟨A1, c1, rfl⟩ := own_slice hO2
      have HO2 := Lib.hid hO2
      have HB2 := HB
      clear HO HN hO2 HB e288
      rw [show ((288 : Nat) : Int) = 288 from rfl]
      go_wp2_with fail
      go_loopw [3, 6] (fun v i wx => ∃ n : Nat, i = .int .i64 n ∧ Hid (n ≤ 32) ∧ Hid (wx.ownsRow wr.heap.size 3 1 v (natI (fixD.take n)).length (nums .i64 (natI (fixD.take n)))) ∧ Hid (Below wr.heap.size wr wx)) (fun _ i _ => 32 - (intOf i).toNat)
      case atStart => exact ⟨0, rfl, Lib.hid (by omega), Lib.hid (own_nil _ _ _ _), Lib.hid (Below.refl _ _)⟩
      case round =>
        obtain ⟨n, rfl, HN, HO, HB⟩ := hrel
        by_cases hn : n < 32
        · have in1 : (n : Int) < 32 := by omega
          have HSZ := Lib.hid HB.out.size
          have HNN := Lib.hid hn
          have hlen := Lib.hid (show (natI (fixD.take n)).length ≤ 32 by rw [natI_length, List.length_take]; omega)
          have HV := Lib.hid (show natI (fixD.take n) ++ [(5 : Int)] = natI (fixD.take (n + 1)) by
            have e : fixD[n]? = some 5 := by unfold fixD; rw [List.getElem?_replicate, if_pos hn]
            rw [take_snoc e]
            simp [natI])
          clear hn
          go_wp2_with (at_builtin; refine print_append_num (w0 := _) _ rfl (.tmp 31) (.tmp 32) 51 3 .i64 8 rfl Tryd.underlying51 infoIntB (by omega) _ (natI (fixD.take n)) 5 rfl rfl HO.out HB.out HSZ.out (by have := hlen.out; omega) ?_; intro v1 w1 hown1 hbel1 hgrow hat; have HOWN := Lib.hid hown1; have HB1 := Lib.hid hbel1; clear hown1 hbel1 hgrow hat)
          have ho := HOWN.out
          have e := HV.out
          rw [e] at ho
          exact ⟨⟨n + 1, by simp, Lib.hid (by have := HNN.out; omega), Lib.hid ho, HB1⟩, by have := HNN.out; simp [intOf]; omega⟩
        · obtain rfl : n = 32 := by have := HN.out; omega
          have hO3 := HO.out
          rw [show fixD.take 32 = fixD by simp [fixD], natI_length] at hO3
          obtain ⟨A2, c2, rfl⟩ := own_slice hO3
          have HO3 := Lib.hid hO3
          clear HO HN hO3
          go_wp2_with fail
          refine bodyPost_ret (results_tmp2 rfl _ _ _) rfl ?_
          exact ⟨A1, A2, c1, c2, rfl, Lib.hid (pw_own_below HO2.out HB.out), Lib.hid (own_weaken HO3.out HSW.out), Lib.hid (below_then HB2.out HSW.out HB.out)⟩
end Go.Proofs.YtkdklcamgcmifaaDoor
