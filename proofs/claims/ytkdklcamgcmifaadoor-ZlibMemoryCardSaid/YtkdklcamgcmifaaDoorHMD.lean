/- The document's DocUnwrap answers what unwF says. -/
import Derived.Test.YtkdklcamgcmifaaDoorHMB
import Derived.Test.YtkdklcamgcmifaaDoorHDocL
namespace Go.Proofs.YtkdklcamgcmifaaDoor
set_option linter.unusedVariables false
set_option linter.unusedSimpArgs false
open Go.RowKit Go.Proofs.YtkdklcamgcmifaaDoorW.PrintWords Go.Proofs.YtkdklcamgcmifaaDoorW.PrintMore Go.Proofs.YtkdklcamgcmifaaDoor.PM
theorem head_no1 (a b : Int) (ha : 0 ≤ a ∧ a < 256) (h : ¬ a % 16 = 8) : headV a b = false := by
  unfold headV zlib_head.f
  rw [u8_and15 a ha.1 ha.2, if_neg h]
  rfl
theorem head_no2 (a b : Int) (ha : 0 ≤ a ∧ a < 256) (h : a % 16 = 8) (h2 : 128 ≤ a) : headV a b = false := by
  unfold headV zlib_head.f
  rw [u8_and15 a ha.1 ha.2, if_pos h, if_neg (by omega)]
  rfl
theorem head_tab : ∀ (k : _root_.Fin 8) (b : _root_.Fin 256), headV (16 * (k.1 : Int) + 8) (b.1 : Int) = (decide ((256 * (16 * (k.1 : Int) + 8) + (b.1 : Int)) % 31 = 0) && decide ((b.1 : Int) / 32 % 2 = 0)) := by decide +kernel
theorem head_eq (a b : Int) (ha : 0 ≤ a ∧ a < 256) (hb : 0 ≤ b ∧ b < 256) (h : a % 16 = 8) (h2 : a < 128) : headV a b = (decide ((256 * a + b) % 31 = 0) && decide (b / 32 % 2 = 0)) := by
  obtain ⟨k, hk⟩ : ∃ k : Nat, a = 16 * (k : Int) + 8 := ⟨(a / 16).toNat, by omega⟩
  obtain ⟨c, hc⟩ : ∃ c : Nat, b = (c : Int) := ⟨b.toNat, by omega⟩
  subst hk hc
  exact head_tab ⟨k, by omega⟩ ⟨c, by omega⟩
theorem dinflate_any (w : World) (A : Option Addr) (n c : Nat) (l : List Int) (m : Int) (r : List Int × Int × Int) (hn : l.length = n) (hr : ReadsInt w .u8 A n l) (hb : ∀ x ∈ l, 0 ≤ x ∧ x < 256) (hc : n ≤ c) (hl : n ≤ 1000000) (ho : Ord w) (he : infF l m = r) :
    Calls Tryd.prog 16 #[.slice A n c, .int .i64 m] w fun ee w' =>
      ∃ A' c', ee = .returned (.tuple #[.slice A' r.1.length c', .int .i64 r.2.1, .int .i64 r.2.2]) ∧ Hid (Bs 5 w' w.heap.size (.slice A' r.1.length c') r.1) ∧ Hid (Below w.heap.size w w') := by
  subst hn
  refine (dinflate_calls w A c l m hr hb hc (by omega) ho).mono ?_
  rintro ee w2 ⟨v, rfl, hv, hb2⟩
  rw [he] at hv ⊢
  obtain ⟨A', c', rfl⟩ := own_slice hv.out
  exact ⟨A', c', rfl, hv, hb2⟩
theorem be4_byte (q : List Int) (hb : ∀ j, 0 ≤ q.getD j 0 ∧ q.getD j 0 < 256) (i : Nat) (hi : i < 4) : q.getD i 0 = be4 q / 2 ^ (24 - 8 * i) % 256 := by
  have h0 := hb 0
  have h1 := hb 1
  have h2 := hb 2
  have h3 := hb 3
  unfold be4
  rcases (show i = 0 ∨ i = 1 ∨ i = 2 ∨ i = 3 by omega) with rfl | rfl | rfl | rfl
  all_goals simp only [Nat.reduceMul, Nat.reduceSub, Int.reducePow, Int.pow_zero]
  all_goals omega
theorem be4_all (q : List Int) (s : Int) (hs : 0 ≤ s ∧ s < 4294967296) (h : ∀ j, j < 4 → q.getD j 0 = s / 2 ^ (24 - 8 * j) % 256) : s = be4 q := by
  have h0 := h 0 (by omega)
  have h1 := h 1 (by omega)
  have h2 := h 2 (by omega)
  have h3 := h 3 (by omega)
  unfold be4
  rw [h0, h1, h2, h3]
  simp only [Nat.reduceMul, Nat.reduceSub, Int.reducePow, Int.pow_zero]
  omega
set_option maxRecDepth 8000 in
set_option maxHeartbeats 8000000 in
theorem dunwrap_calls (w : World) (A : Option Addr) (c : Nat) (p : List Int) (most : Int) (hrd : ReadsInt w .u8 A p.length p) (hby : ∀ x ∈ p, 0 ≤ x ∧ x < 256) (hcap : p.length ≤ c) (hlen : p.length ≤ 1000000) (hord : Ord w) :
    Calls Tryd.prog 26 #[.slice A p.length c, .int .i64 most] w fun ee w' => InfT w (unwF p most) ee w' := by
  have HR := Lib.hid hrd
  have HY := Lib.hid hby
  have HC := Lib.hid hcap
  have HO := Lib.hid hord
  obtain ⟨r, hr⟩ : ∃ r, unwF p most = r := ⟨_, rfl⟩
  rw [hr]
  unfold unwF at hr
  clear hrd hby hcap hord
  by_cases hm : most < 0 ∨ 1048576 < most
  · rw [if_pos hm] at hr
    subst hr
    by_cases h0 : most < 0
    · go_enter Tryd.func26, Tryd.ntmps26
      go_wp2_with fail
      go_ret3
      exact ⟨_, rfl, Lib.hid (own_nil _ _ _ _), Lib.hid (Below.refl _ _)⟩
    · have h1 : 1048576 < most := by omega
      go_enter Tryd.func26, Tryd.ntmps26
      go_wp2_with fail
      go_ret3
      exact ⟨_, rfl, Lib.hid (own_nil _ _ _ _), Lib.hid (Below.refl _ _)⟩
  rw [if_neg hm] at hr
  have hm1 : ¬ most < 0 := by omega
  have hm2 : ¬ 1048576 < most := by omega
  clear hm
  by_cases h2 : p.length < 2
  · rw [if_pos h2] at hr
    subst hr
    have i2 : (p.length : Int) < 2 := by omega
    go_enter Tryd.func26, Tryd.ntmps26
    go_wp2_with fail
    go_ret3
    exact ⟨_, rfl, Lib.hid (own_nil _ _ _ _), Lib.hid (Below.refl _ _)⟩
  rw [if_neg h2] at hr
  have i2 : ¬ (p.length : Int) < 2 := by omega
  obtain ⟨ad, rfl, hcell⟩ := HR.out.2.2 (by omega)
  obtain ⟨b0, hb0⟩ : ∃ b0, b0 = p.getD 0 0 := ⟨_, rfl⟩
  obtain ⟨b1, hb1⟩ : ∃ b1, b1 = p.getD 1 0 := ⟨_, rfl⟩
  have g0 : 0 ≤ b0 ∧ b0 < 256 := by rw [hb0]; exact byte_of HY.out 0
  have g1 : 0 ≤ b1 ∧ b1 < 256 := by rw [hb1]; exact byte_of HY.out 1
  rw [← hb0, ← hb1] at hr
  have k0 : w.cell? ad = some (.int .u8 b0) := by rw [hb0]; exact hcell 0 (by omega)
  have k1 : w.cell? ⟨ad.block, ad.off + 1, none⟩ = some (.int .u8 b1) := by rw [hb1]; exact hcell 1 (by omega)
  have z0 : (0 : Int) < (p.length : Int) := by omega
  have z1 : (1 : Int) < (p.length : Int) := by omega
  have z0n : 0 < p.length := by omega
  have z1n : 1 < p.length := by omega
  clear hcell hb0 hb1
  have t1 : b0.tmod 16 = b0 % 16 := Int.tmod_eq_emod_of_nonneg (by omega)
  have t2 : (256 * b0 + b1).tmod 31 = (256 * b0 + b1) % 31 := Int.tmod_eq_emod_of_nonneg (by omega)
  have t3 : IntKind.u8.wrap (b1.tdiv 32) = b1 / 32 := by rw [Int.tdiv_eq_ediv_of_nonneg (by omega), IntKind.wrap_u8]; omega
  have t4 : (b1 / 32).tmod 2 = b1 / 32 % 2 := Int.tmod_eq_emod_of_nonneg (by omega)
  have v1 : IntKind.i64.wrap b0 = b0 := by rw [IntKind.wrap_i64]; omega
  have v2 : IntKind.i64.wrap (256 * b0) = 256 * b0 := by rw [IntKind.wrap_i64]; omega
  have v3 : IntKind.i64.wrap b1 = b1 := by rw [IntKind.wrap_i64]; omega
  have v4 : IntKind.i64.wrap (256 * b0 + b1) = 256 * b0 + b1 := by rw [IntKind.wrap_i64]; omega
  have HRW := Lib.hid HR.out
  by_cases c1 : b0 % 16 = 8
  · by_cases c2 : b0 < 128
    · have hh := head_eq b0 b1 g0 g1 c1 c2
      by_cases c3 : (256 * b0 + b1) % 31 = 0
      · have c3' : Int.tmod (256 * b0 + b1) 31 = 0 := by rw [Int.tmod_eq_emod_of_nonneg (by omega)]; exact c3
        by_cases c4 : b1 / 32 % 2 = 0
        · rw [hh] at hr
          simp only [c3, c4, decide_true, Bool.and_self, Bool.true_eq_false, if_false] at hr
          have c4' : ¬ b1 / 32 % 2 = 1 := by omega
          have c2' : ¬ 128 ≤ b0 := by omega
          clear hh
          have hbd := infF_bounds (p.drop 2) most
          have hoy := infF_by (p.drop 2) most
          obtain ⟨⟨o, n, e⟩, hinf⟩ : ∃ r0, infF (p.drop 2) most = r0 := ⟨_, rfl⟩
          rw [hinf] at hr hbd hoy
          simp only [] at hr hbd hoy
          have HOY : Hid (∀ x ∈ o, 0 ≤ x ∧ x < 256) := Lib.hid hoy
          clear hoy
          obtain ⟨nn, rfl⟩ := Int.eq_ofNat_of_zero_le hbd.1
          rw [List.length_drop] at hbd
          have hn1 : 2 + nn ≤ p.length := by omega
          have hol := hbd.2.2
          have HINF := Lib.hid hinf
          rw [Int.toNat_natCast] at hr
          clear hbd hinf
          obtain ⟨i0, hi0, hz0, hz1, hz2⟩ := info_parts infoU8
          obtain ⟨A1, hcut1, hrd1⟩ := cut_end (P := Tryd.prog) 22 5 Tryd.underlying22 hi0 hz1 (some ad) p.length c 2 (by omega) HC.out
          have hc1 := hcut1 2 rfl
          have HRD := Lib.hid hrd1
          clear hcut1 hrd1 hz0 hz1 hz2 hi0
          by_cases he : e = 0
          · subst he
            rw [if_neg (by simp)] at hr
            by_cases h4 : (p.drop (2 + nn)).length < 4
            · rw [if_pos h4] at hr
              subst hr
              have i4 : (p.length : Int) < (nn : Int) + 6 := by rw [List.length_drop] at h4; omega
              clear h4
              go_enter Tryd.func26, Tryd.ntmps26
              go_wp2_with fail
              go_quiet (fail)
              go_wp2_with fail
              refine (dinflate_any (w.drewN nq) A1 (p.length - 2) (c - 2) (p.drop 2) most _ (by simp) (HRD.out _ _ _ HR.out) (fun x hx => HY.out x (List.mem_of_mem_drop hx)) (by have := HC.out; omega) (by omega) HO.out HINF.out).mono ?_
              rintro ee w3 ⟨A3, c3, rfl, HV3, HB3⟩
              go_wp2_with fail
              go_ret3
              exact ⟨_, rfl, Lib.hid (own_nil _ _ _ _), Lib.hid (below_then (pw_below_drewN (Below.refl _ _) nq) (Nat.le_refl _) HB3.out)⟩
            · rw [if_neg h4] at hr
              have i4 : ¬ (p.length : Int) < (nn : Int) + 6 := by rw [List.length_drop] at h4; omega
              have hnl : nn + 6 ≤ p.length := by omega
              obtain ⟨q, hq⟩ : ∃ q, q = p.drop (2 + nn) := ⟨_, rfl⟩
              have hqd : ∀ j, j < 4 → p.getD (nn + 2 + j) 0 = q.getD j 0 := fun j hj => by
                rw [hq, List.getD_eq_getElem?_getD, List.getD_eq_getElem?_getD, List.getElem?_drop, show 2 + nn + j = nn + 2 + j by omega]
              have hqb : ∀ j, 0 ≤ q.getD j 0 ∧ q.getD j 0 < 256 := fun j => by rw [hq]; exact byte_of (fun x hx => HY.out x (List.mem_of_mem_drop hx)) j
              rw [← hq] at hr
              have HQD := Lib.hid hqd
              have HQB := Lib.hid hqb
              have HRR := Lib.hid hr
              clear hr hq hqd hqb h4
              go_enter Tryd.func26, Tryd.ntmps26
              go_wp2_with fail
              go_quiet (fail)
              go_wp2_with fail
              refine (dinflate_any (w.drewN nq) A1 (p.length - 2) (c - 2) (p.drop 2) most _ (by simp) (HRD.out _ _ _ HR.out) (fun x hx => HY.out x (List.mem_of_mem_drop hx)) (by have := HC.out; omega) (by omega) HO.out HINF.out).mono ?_
              rintro ee w3 ⟨A3, c3, rfl, HV3, HB3⟩
              have HBW : Hid (Below w.heap.size w w3) := Lib.hid (below_then (pw_below_drewN (Below.refl _ _) nq) (Nat.le_refl _) HB3.out)
              have HR3 : Hid (ReadsInt w3 .u8 A3 o.length o) := Lib.hid (own_reads' HV3.out)
              have HC3 : Hid (o.length ≤ c3) := Lib.hid (own_cap HV3.out).1
              have HRP : Hid (ReadsInt w3 .u8 (some ad) p.length p) := Lib.hid (HR.out.below HBW.out)
              clear HB3 k0 k1
              go_wp2_with fail
              refine (adlerR_calls w3 A3 o.length c3 o rfl HR3.out HC3.out HOY.out (by omega)).mono ?_
              rintro ee w4 ⟨rfl, n4, rfl⟩
              have hA := A32_range o
              obtain ⟨s, hs⟩ : ∃ s, s = A32 o := ⟨_, rfl⟩
              rw [← hs] at hA ⊢
              have HS := Lib.hid hs
              clear hs
              go_wp2_with fail
              go_loopw [11] (fun v11 wr => ∃ i : Nat, v11 = .int .i64 i ∧ i ≤ 4 ∧ Hid (∀ j, j < i → q.getD j 0 = s / 2 ^ (24 - 8 * j) % 256) ∧ Hid (∃ k, wr = w3.drewN k)) (fun v11 _ => 4 - (intOf v11).toNat)
              case atStart => exact ⟨0, rfl, by omega, Lib.hid (fun j hj => by omega), Lib.hid ⟨n4, rfl⟩⟩
              case round =>
                obtain ⟨i, rfl, hi, hq, hw⟩ := hrel
                by_cases hi4 : i < 4
                · have kc : wr.cell? (ad.add (nn + 2 + i)) = some (.int .u8 (q.getD i 0)) := by
                    obtain ⟨ad', e', hcell⟩ := HRP.out.2.2 (by omega)
                    cases e'
                    obtain ⟨k, rfl⟩ := hw.out
                    rw [← HQD.out i hi4]
                    exact hcell (nn + 2 + i) (by omega)
                  have hb := HQB.out i
                  have hix : (nn : Int) + 2 + (i : Int) < (p.length : Int) := by omega
                  obtain ⟨b, hbq⟩ : ∃ b, b = q.getD i 0 := ⟨_, rfl⟩
                  rw [← hbq] at kc hb
                  have HBQ := Lib.hid hbq
                  clear hbq
                  go_wp2_with fail
                  have htn : ((nn : Int) + 2 + (i : Int)).toNat = nn + 2 + i := by omega
                  have hixn : nn + 2 + i < p.length := by omega
                  go_quiet (fail)
                  go_wp2_with fail
                  · rename_i h
                    have hne : b ≠ s / 2 ^ (24 - 8 * i) % 256 := by simpa using h
                    have hr := HRR.out
                    rw [if_pos (fun e => hne (by rw [HS.out, e, HBQ.out]; exact be4_byte q HQB.out i hi4))] at hr
                    subst hr
                    obtain ⟨k, rfl⟩ := hw.out
                    go_ret3
                    exact ⟨_, rfl, Lib.hid (own_nil _ _ _ _), Lib.hid (pw_below_drewN (pw_below_drewN HBW.out _) _)⟩
                  · rename_i h
                    have heq : b = s / 2 ^ (24 - 8 * i) % 256 := by simpa using h
                    go_roundw
                    case measure => simp only [intOf]; omega
                    case rel =>
                      refine ⟨i + 1, by go_num, by omega, Lib.hid (fun j hj => ?_), Lib.hid ?_⟩
                      · rcases Nat.lt_or_ge j i with h1 | h1
                        · exact hq.out j h1
                        · obtain rfl : j = i := by omega
                          rw [← HBQ.out]
                          exact heq
                      · obtain ⟨k, rfl⟩ := hw.out
                        exact ⟨k + nq, World.drewN_drewN _ _ _⟩
                · obtain rfl : i = 4 := by omega
                  have hall : A32 o = be4 q := by
                    rw [← HS.out]
                    exact be4_all q s (HS.out ▸ A32_range o) hq.out
                  have hr := HRR.out
                  rw [if_neg (by simp [hall])] at hr
                  subst hr
                  obtain ⟨k, rfl⟩ := hw.out
                  go_wp2_with fail
                  go_ret3
                  exact ⟨_, rfl, Lib.hid (own_move HV3.out fun _ _ => rfl), Lib.hid (pw_below_drewN HBW.out _)⟩
          · rw [if_pos he] at hr
            subst hr
            have hbe : (e != 0) = true := by simpa using he
            go_enter Tryd.func26, Tryd.ntmps26
            go_wp2_with fail
            go_quiet (fail)
            go_wp2_with fail
            refine (dinflate_any (w.drewN nq) A1 (p.length - 2) (c - 2) (p.drop 2) most _ (by simp) (HRD.out _ _ _ HR.out) (fun x hx => HY.out x (List.mem_of_mem_drop hx)) (by have := HC.out; omega) (by omega) HO.out HINF.out).mono ?_
            rintro ee w3 ⟨A3, c3, rfl, HV3, HB3⟩
            go_wp2_with fail
            go_ret3
            exact ⟨_, rfl, Lib.hid (own_nil _ _ _ _), Lib.hid (below_then (pw_below_drewN (Below.refl _ _) nq) (Nat.le_refl _) HB3.out)⟩
        · have c4' : b1 / 32 % 2 = 1 := by omega
          have c2' : ¬ 128 ≤ b0 := by omega
          have hf : headV b0 b1 = false := by rw [hh]; simp [c4]
          clear hh
          rw [if_pos (hf)] at hr
          subst hr
          go_enter Tryd.func26, Tryd.ntmps26
          go_wp2_with fail
          go_quiet (fail)
          go_wp2_with fail
          go_ret3
          exact ⟨_, rfl, Lib.hid (own_nil _ _ _ _), Lib.hid (pw_below_drewN (Below.refl _ _) _)⟩
      · have c2' : ¬ 128 ≤ b0 := by omega
        have hf : headV b0 b1 = false := by rw [hh]; simp [c3]
        clear hh
        rw [if_pos (hf)] at hr
        subst hr
        go_enter Tryd.func26, Tryd.ntmps26
        go_wp2_with fail
        go_quiet (fail)
        go_wp2_with fail
        go_ret3
        exact ⟨_, rfl, Lib.hid (own_nil _ _ _ _), Lib.hid (pw_below_drewN (Below.refl _ _) _)⟩
    · have c2' : 128 ≤ b0 := by omega
      have hf := head_no2 b0 b1 g0 c1 c2'
      rw [if_pos (hf)] at hr
      subst hr
      go_enter Tryd.func26, Tryd.ntmps26
      go_wp2_with fail
      go_quiet (fail)
      go_wp2_with fail
      go_ret3
      exact ⟨_, rfl, Lib.hid (own_nil _ _ _ _), Lib.hid (pw_below_drewN (Below.refl _ _) _)⟩
  · have hf := head_no1 b0 b1 g0 c1
    have c1b : (b0 % 16 != 8) = true := by simpa using c1
    clear t2 t3 t4 v1 v2 v3 v4 HRW
    rw [if_pos (hf)] at hr
    subst hr
    go_enter Tryd.func26, Tryd.ntmps26
    go_wp2_with fail
    go_quiet (fail)
    go_wp2_with fail
    go_ret3
    exact ⟨_, rfl, Lib.hid (own_nil _ _ _ _), Lib.hid (pw_below_drewN (Below.refl _ _) _)⟩
end Go.Proofs.YtkdklcamgcmifaaDoor
