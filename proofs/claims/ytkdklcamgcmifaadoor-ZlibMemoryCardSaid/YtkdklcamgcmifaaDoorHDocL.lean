/- The document's Inflate answers what infF says. -/
import Derived.Test.YtkdklcamgcmifaaDoorHDocK
namespace Go.Proofs.YtkdklcamgcmifaaDoor
set_option linter.unusedVariables false
set_option linter.unusedSimpArgs false
open Go.RowKit Go.Proofs.YtkdklcamgcmifaaDoorW.PrintWords Go.Proofs.YtkdklcamgcmifaaDoorW.PrintMore
/-- Ahead of a block: the last one was last (1) or not (0). -/
def DhR (most F T N n : Nat) (res : Res) (last q : Nat) (out : List Int) (e : Int) : Prop :=
  last ≤ 1 ∧ ((e ≠ 0 ∧ res = .error e) ∨ (e = 0 ∧ last = 1 ∧ res = .ok (out, q)) ∨ (e = 0 ∧ last = 0 ∧ N < q + n ∧ runO most F n out T N q = res))
/-- last and way, taken. -/
theorem two_head {most F T N n q q1 q2 x y : Nat} {out : List Int} {e1 e2 : Int} {res : Res} (h1 : DkC N T q 0 1 x q1 e1) (h2 : DkC N T q1 e1 2 y q2 e2) (hr : runO most F (n + 1) out T N q = res) :
    (e2 ≠ 0 ∧ res = .error e2) ∨ (e2 = 0 ∧ q2 = q + 3 ∧ q2 ≤ N ∧ bndR (blkO most F y out) (fun o => if x = 1 then retR o else runO most F n o) T N q2 = res) := by
  have tk_q : ∀ {k a b c : Nat}, tk k T N a = .ok (b, c) → c = a + k ∧ c ≤ N := by
    intro k a b c h
    unfold tk at h
    split at h
    · simp only [Except.ok.injEq, Prod.mk.injEq] at h
      omega
    · cases h
  simp only [runO] at hr
  rcases h1.2 with ⟨h, _⟩ | ⟨_, ⟨a1, rfl⟩ | ⟨a1, rfl⟩⟩
  · exact absurd rfl h
  · rw [bnd_ok a1] at hr
    rcases h2.2 with ⟨h, _⟩ | ⟨_, ⟨a2, rfl⟩ | ⟨a2, rfl⟩⟩
    · exact absurd rfl h
    · rw [bnd_ok a2] at hr
      have := tk_q a1
      have := tk_q a2
      exact .inr ⟨rfl, by omega, by omega, hr⟩
    · rw [bnd_err a2] at hr
      exact .inl ⟨by decide, hr.symm⟩
  · rw [bnd_err a1] at hr
    rcases h2.2 with ⟨_, _, rfl⟩ | ⟨h, _⟩
    · exact .inl ⟨by decide, hr.symm⟩
    · exact absurd h (by decide)
theorem blk_after {most F T N n q q2 q3 x y : Nat} {out o3 : List Int} {e3 : Int} {res : Res} (h8 : N % 8 = 0) (hx : x < 2) (hq : q2 = q + 3) (hqN : q2 ≤ N) (hn : N < q + (n + 1)) (h : DrT (blkO most F y out T N q2) o3 q3 e3) (hr : bndR (blkO most F y out) (fun o => if x = 1 then retR o else runO most F n o) T N q2 = res) :
    DhR most F T N n res x q3 o3 e3 := by
  refine ⟨by omega, ?_⟩
  rcases h with ⟨h, rfl⟩ | ⟨h, he⟩
  · right
    have hle := (Stb.blkO most F y out T N q2 o3 q3 h8 hqN h).le
    rw [bnd_ok h] at hr
    by_cases h1 : x = 1
    · rw [if_pos h1] at hr
      exact .inl ⟨rfl, h1, hr.symm⟩
    · rw [if_neg h1] at hr
      exact .inr ⟨rfl, by omega, by omega, hr⟩
  · rw [bnd_err h] at hr
    exact .inl ⟨he, hr.symm⟩
theorem fixL_16 : ∀ x ∈ fixL, x < 16 := by decide +kernel
theorem fixD_16 : ∀ x ∈ fixD, x < 16 := by decide +kernel
theorem dyn_blk {l d : List Nat} {most F T N q q3 q4 : Nat} {out o4 : List Int} {e3 e4 : Int} (h : DrT (dynR T N q) (l, d) q3 e3) (h2 : (e3 ≠ 0 ∧ o4 = out ∧ q4 = q3 ∧ e4 = e3) ∨ (e3 = 0 ∧ DrT (symsO l d most F out T N q3) o4 q4 e4)) : DrT (blkO most F 2 out T N q) o4 q4 e4 := by
  have hb : blkO most F 2 out = bndR dynR fun (l, d) => symsO l d most F out := rfl
  rw [hb]
  rcases h with ⟨h, rfl⟩ | ⟨h, he⟩
  · rw [bnd_ok h]
    rcases h2 with ⟨h, _⟩ | ⟨_, h⟩
    · exact absurd rfl h
    · exact h
  · rw [bnd_err h]
    rcases h2 with ⟨_, _, _, rfl⟩ | ⟨h0, _⟩
    · exact .inr ⟨rfl, he⟩
    · exact absurd h0 he
theorem bd_made (w : World) (A : Option Addr) (c : Nat) (p : List Int) (m : Nat) (hm : m ≤ 1048576) :
    Bd w A c p m w.heap.size 0 [] 0 (w.alloc (.cells #[.slice A p.length c, .int .i64 0, .slice none 0 0, .int .i64 m, .int .i64 0] 47)) :=
  ⟨.slice none 0 0, heap_alloc_new _ _, own_nil _ _ _ _, by omega, by omega, by simp, hm⟩
set_option maxRecDepth 8000 in
set_option maxHeartbeats 8000000 in
theorem dinflate_calls (w : World) (A : Option Addr) (c : Nat) (p : List Int) (most : Int) (hrd : ReadsInt w .u8 A p.length p) (hby : ∀ x ∈ p, 0 ≤ x ∧ x < 256) (hcap : p.length ≤ c) (hlen : p.length ≤ 1048576) (hord : Ord w) :
    Calls Tryd.prog 16 #[.slice A p.length c, .int .i64 most] w fun ee w' => InfT w (infF p most) ee w' := by
  have HP := Lib.hid (And.intro hrd (And.intro hby (And.intro hcap (And.intro hlen hord))))
  clear hrd hby hcap hlen hord
  by_cases hm : most < 0 ∨ 1048576 < most
  · have hr : infF p most = ([], 0, 1) := by unfold infF; rw [if_pos hm]
    rw [hr]
    by_cases h0 : most < 0
    · go_enter Tryd.func16, Tryd.ntmps16
      go_wp2_with fail
      go_ret3
      exact ⟨_, rfl, Lib.hid (own_nil _ _ _ _), Lib.hid (Below.refl _ _)⟩
    · have h1 : most > 1048576 := by omega
      go_enter Tryd.func16, Tryd.ntmps16
      go_wp2_with fail
      go_ret3
      exact ⟨_, rfl, Lib.hid (own_nil _ _ _ _), Lib.hid (Below.refl _ _)⟩
  · obtain ⟨m, rfl⟩ : ∃ m : Nat, most = (m : Int) := ⟨most.toNat, by omega⟩
    have hm1 : ¬ (m : Int) < 0 := by omega
    have hm2 : ¬ (m : Int) > 1048576 := by omega
    obtain ⟨res, hres⟩ : ∃ res, runO m (8 * p.length + 1) (8 * p.length + 1) [] (numB p) (8 * p.length) 0 = res := ⟨_, rfl⟩
    have hr := infF_eq p m hm
    rw [hres] at hr
    have HR := Lib.hid hr
    have HD0 : Hid (DhR m (8 * p.length + 1) (numB p) (8 * p.length) (8 * p.length + 1) res 0 0 [] 0) := Lib.hid ⟨by omega, .inr (.inr ⟨rfl, rfl, by omega, hres⟩)⟩
    have HMM := Lib.hid (show m ≤ 1048576 by omega)
    clear hr hres hm
    go_enter Tryd.func16, Tryd.ntmps16
    go_wp2_with fail
    have hb : Below w.heap.size w (w.alloc (.cells #[.slice A p.length c, .int .i64 0, .slice none 0 0, .int .i64 m, .int .i64 0] 47)) := (Below.refl _ _).alloc (Nat.le_refl _) _
    have hw : Rw w A c p w.heap.size (w.alloc (.cells #[.slice A p.length c, .int .i64 0, .slice none 0 0, .int .i64 m, .int .i64 0] 47)) :=
      ⟨Nat.le_refl _, HP.out.1, HP.out.2.1, HP.out.2.2.1, HP.out.2.2.2.1, hb, HP.out.2.2.2.2⟩
    have HW := Lib.hid hw
    have HRD := Lib.hid (bd_made w A c p m HMM.out)
    have HS0 := Lib.hid (SK.refl 2 w.heap.size (w.alloc (.cells #[.slice A p.length c, .int .i64 0, .slice none 0 0, .int .i64 m, .int .i64 0] 47)))
    clear hw hb
    have HB0 := HRD
    generalize w.alloc (.cells #[.slice A p.length c, .int .i64 0, .slice none 0 0, .int .i64 m, .int .i64 0] 47) = W at *
    go_loopg [8] (8 * p.length + 1) (fun n lv wr => ∃ (last q : Nat) (out : List Int) (e : Int), lv = .int .i64 last ∧ Hid (SK 2 w.heap.size W wr) ∧ Hid (Bd w A c p m w.heap.size q out e wr) ∧ Hid (DhR m (8 * p.length + 1) (numB p) (8 * p.length) n res last q out e))
    case atStart => exact ⟨0, 0, [], 0, rfl, HS0, HB0, HD0⟩
    case round =>
      clear HS0 HB0 HD0
      obtain ⟨last, q, out, e, rfl, HS, HB, HD⟩ := hrel
      have c4 := HB.out.e_cell
      by_cases hgo : last = 0 ∧ e = 0
      · obtain ⟨rfl, rfl⟩ := hgo
        obtain ⟨hN, hrun⟩ : 8 * p.length < q + gk ∧ runO m (8 * p.length + 1) gk out (numB p) (8 * p.length) q = res := by
          rcases HD.out.2 with ⟨h, _⟩ | ⟨_, h, _⟩ | ⟨_, _, h⟩
          · exact absurd rfl h
          · exact absurd h (by decide)
          · exact h
        obtain ⟨n', rfl⟩ : ∃ n', gk = n' + 1 := ⟨gk - 1, by have := HB.out.q_le; omega⟩
        have HN := Lib.hid hN
        have HRUN := Lib.hid hrun
        clear hN hrun
        go_wp2_with fail
        refine (dbit_calls w A c p m w.heap.size q out 0 wr HB.out (HW.out.sk2 HRD.out HS.out)).mono ?_
        rintro ee w1 ⟨x, q1, e1, rfl, hs1, hb1, hd1⟩
        have HS1 := Lib.hid (HS.out.trans hs1.out)
        have HB1 := Lib.hid hb1.out
        have HD1 : Hid (DkC (8 * p.length) (numB p) q 0 1 x q1 e1) := Lib.hid hd1
        clear hs1 hb1 hd1
        go_wp2_with fail
        refine (dnum_calls w A c p m w.heap.size q1 out e1 w1 2 HB1.out (HW.out.sk2 HRD.out HS1.out) (by omega)).mono ?_
        rintro ee w2 ⟨y, q2, e2, rfl, hs2, hb2, hd2⟩
        have HS2 := Lib.hid (HS1.out.trans hs2.out)
        have HB2 := Lib.hid hb2.out
        have HT := Lib.hid (two_head HD1.out hd2 HRUN.out)
        have HXY := Lib.hid (show x < 2 ∧ y < 4 from ⟨HD1.out.1, hd2.1⟩)
        clear c4
        have c4 := hb2.out.e_cell
        clear hs2 hb2 hd2
        rcases HT.out with ⟨he2, hr2⟩ | ⟨rfl, hq2, hqN, hr2⟩
        · have he' : (e2 != 0) = true := by simpa using he2
          have HER := Lib.hid hr2
          clear HT hr2
          have HRS : Hid (infF p (m : Int) = ([], 0, e2)) := Lib.hid (by rw [HR.out, HER.out]; rfl)
          have HBW := Lib.hid ((HW.out.sk2 HRD.out HS2.out).below)
          go_wp2_with fail
          go_quiet (fail)
          go_wp2_with fail
          go_ret3
          unfold InfT
          rw [HRS.out]
          exact ⟨_, rfl, Lib.hid (own_nil _ _ _ _), Lib.hid (pw_below_drewN HBW.out _)⟩
        · have HQ := Lib.hid (And.intro hq2 hqN)
          have HR2 := Lib.hid hr2
          clear hr2 hq2 hqN HT
          rcases (show y = 0 ∨ y = 1 ∨ y = 2 ∨ y = 3 by have := HXY.out.2; omega) with rfl | rfl | rfl | rfl
          · go_wp2_with fail
            refine (dstored_calls w A c p m w.heap.size q2 out w2 HB2.out (HW.out.sk2 HRD.out HS2.out)).mono ?_
            rintro ee w3 ⟨o3, q3, e3, rfl, hs3, hb3, hd3⟩
            have HS3 := Lib.hid (HS2.out.trans hs3.out)
            have HB3 := Lib.hid hb3.out
            have HD3 : Hid (DrT (blkO m (8 * p.length + 1) 0 out (numB p) (8 * p.length) q2) o3 q3 e3) := Lib.hid hd3
            clear hs3 hb3 hd3 c4
            go_wp2_with fail
            go_roundg n'
            case measure => omega
            case rel => exact ⟨x, q3, o3, e3, rfl, HS3, HB3, Lib.hid (blk_after (by omega) HXY.out.1 HQ.out.1 HQ.out.2 HN.out HD3.out HR2.out)⟩
          · go_wp2_with fail
            refine (dfixed_calls w2).mono ?_
            rintro ee w3 ⟨A1, A2, c1, c2, rfl, hl3, hd3, hb3⟩
            have HSB := Lib.hid (HS2.out.trans (SK.ofBelow hb3.out HB2.out.lt))
            have HBB := Lib.hid (HB2.out.below hb3.out)
            have HL3 := Lib.hid (own_reads' hl3.out)
            have HD3 := Lib.hid (own_reads' hd3.out)
            clear hl3 hd3 hb3 c4
            go_wp2_with fail
            refine (dsymbols_calls w A c p m w.heap.size q2 out 0 w3 fixL fixD A1 A2 c1 c2 HBB.out (HW.out.sk2 HRD.out HSB.out) HL3.out HD3.out (by rw [fixL_map]; simp) (by simp [fixD]) fixL_16 fixD_16 (8 * p.length + 1) (by omega)).mono ?_
            rintro ee w4 ⟨o4, q4, e4, rfl, hs4, hb4, hd4⟩
            have HS4 := Lib.hid (HSB.out.trans hs4.out)
            have HB4 := Lib.hid hb4.out
            have HD4 : Hid (DrT (blkO m (8 * p.length + 1) 1 out (numB p) (8 * p.length) q2) o4 q4 e4) := Lib.hid ((hd4.resolve_left fun h => absurd rfl h.1).2)
            clear hs4 hb4 hd4
            go_wp2_with fail
            go_roundg n'
            case measure => omega
            case rel => exact ⟨x, q4, o4, e4, rfl, HS4, HB4, Lib.hid (blk_after (by omega) HXY.out.1 HQ.out.1 HQ.out.2 HN.out HD4.out HR2.out)⟩
          · go_wp2_with fail
            refine (dlengths_calls w A c p m w.heap.size q2 out w2 HB2.out (HW.out.sk2 HRD.out HS2.out)).mono ?_
            rintro ee w3 ⟨l, d, A1, A2, c1, c2, q3, e3, rfl, hs3, hb3, hl3, hd3, hx3, hc3⟩
            have HSB := Lib.hid (HS2.out.trans hs3.out)
            have HBB := Lib.hid hb3.out
            have HL3 := hl3
            have HD3 := hd3
            have HX3 := hx3
            have HC3 : Hid (DrT (dynR (numB p) (8 * p.length) q2) (l, d) q3 e3) := Lib.hid (by
              rcases hc3 with ⟨h1, h2⟩ | ⟨h1, h2⟩
              · exact .inl ⟨h2, h1⟩
              · exact .inr ⟨h2, h1⟩)
            clear hl3 hd3 hx3 hc3 hs3 hb3 c4
            go_wp2_with fail
            refine (dsymbols_calls w A c p m w.heap.size q3 out e3 w3 l d A1 A2 c1 c2 HBB.out (HW.out.sk2 HRD.out HSB.out) HL3.out HD3.out HX3.out.1 HX3.out.2.1 HX3.out.2.2.1 HX3.out.2.2.2 (8 * p.length + 1) (by omega)).mono ?_
            rintro ee w4 ⟨o4, q4, e4, rfl, hs4, hb4, hd4⟩
            have HS4 := Lib.hid (HSB.out.trans hs4.out)
            have HB4 := Lib.hid hb4.out
            have HD4 : Hid (DrT (blkO m (8 * p.length + 1) 2 out (numB p) (8 * p.length) q2) o4 q4 e4) := Lib.hid (dyn_blk HC3.out hd4)
            clear hs4 hb4 hd4
            go_wp2_with fail
            go_roundg n'
            case measure => omega
            case rel => exact ⟨x, q4, o4, e4, rfl, HS4, HB4, Lib.hid (blk_after (by omega) HXY.out.1 HQ.out.1 HQ.out.2 HN.out HD4.out HR2.out)⟩
          · go_wp2_with fail
            refine (dfail_calls w A c p m w.heap.size q2 out 0 w2 HB2.out).mono ?_
            rintro ee w4 ⟨rfl, hs4, hb4⟩
            have HS4 := Lib.hid (HS2.out.trans hs4)
            have HB4 : Hid (Bd w A c p m w.heap.size q2 out 4 w4) := Lib.hid hb4
            have HD4 : Hid (DrT (blkO m (8 * p.length + 1) 3 out (numB p) (8 * p.length) q2) out q2 4) := Lib.hid (.inr ⟨rfl, by decide⟩)
            clear hs4 hb4 c4
            go_wp2_with fail
            go_roundg n'
            case measure => omega
            case rel => exact ⟨x, q2, out, 4, rfl, HS4, HB4, Lib.hid (blk_after (by omega) HXY.out.1 HQ.out.1 HQ.out.2 HN.out HD4.out HR2.out)⟩
      · have HBW := Lib.hid ((HW.out.sk2 HRD.out HS.out).below)
        by_cases he : e = 0
        · subst he
          obtain ⟨rfl, hres⟩ : last = 1 ∧ res = .ok (out, q) := by
            rcases HD.out.2 with ⟨h, _⟩ | ⟨_, h1, h2⟩ | ⟨_, h, _⟩
            · exact absurd rfl h
            · exact ⟨h1, h2⟩
            · exact absurd ⟨h, rfl⟩ hgo
          have HRS : Hid (infF p (m : Int) = (out, (((q + 7) / 8 : Nat) : Int), 0)) := Lib.hid (by rw [HR.out, hres]; rfl)
          obtain ⟨v, hb, ho, hq1, _⟩ := HB.out
          have c1 : wr.cell? ⟨w.heap.size, 1, none⟩ = some (.int .i64 q) := blk_cell hb 1
          have c2 : wr.cell? ⟨w.heap.size, 2, none⟩ = some v := blk_cell hb 2
          have HVO := Lib.hid ho
          have hqb : (q : Int) ≤ 8388608 := by have := HP.out.2.2.2.1; omega
          have hq0 : (0 : Int) ≤ (q : Int) := by omega
          clear hb ho hq1 hres hgo HD
          obtain ⟨a, ha⟩ : ∃ a, a = (q + 7) / 8 := ⟨_, rfl⟩
          have haI : ((q : Int) + 7).tdiv 8 = (a : Int) := by rw [Int.tdiv_eq_ediv_of_nonneg (by omega)]; omega
          have hwI : IntKind.i64.wrap ((q : Int) + 7) = (q : Int) + 7 := by rw [IntKind.wrap_i64]; omega
          have hwa := Lib.hid (show wrap64 (a : Int) = (a : Int) from IntWalk.wrap64_in _ (by omega))
          rw [← ha] at HRS
          clear ha
          go_wp2_with fail
          go_quiet (fail)
          go_wp2_with fail
          go_ret3
          unfold InfT
          rw [HRS.out]
          rw [hwa.out]
          exact ⟨v, rfl, Lib.hid (own_move HVO.out fun _ _ => rfl), Lib.hid (pw_below_drewN HBW.out _)⟩
        · have hres : res = .error e := by
            rcases HD.out.2 with ⟨_, h⟩ | ⟨h, _⟩ | ⟨h, _⟩
            · exact h
            · exact absurd h he
            · exact absurd h he
          have HRS : Hid (infF p (m : Int) = ([], 0, e)) := Lib.hid (by rw [HR.out, hres]; rfl)
          have he' : (e == 0) = false := by simpa using he
          have he'' : (e != 0) = true := by simpa using he
          clear hres hgo HD
          by_cases hl : last = 0
          · subst hl
            go_wp2_with fail
            go_quiet (fail)
            go_wp2_with fail
            go_ret3
            unfold InfT
            rw [HRS.out]
            exact ⟨_, rfl, Lib.hid (own_nil _ _ _ _), Lib.hid (pw_below_drewN HBW.out _)⟩
          · have hlI : ¬ (last : Int) = 0 := by omega
            go_wp2_with fail
            go_quiet (fail)
            go_wp2_with fail
            go_ret3
            unfold InfT
            rw [HRS.out]
            exact ⟨_, rfl, Lib.hid (own_nil _ _ _ _), Lib.hid (pw_below_drewN HBW.out _)⟩
end Go.Proofs.YtkdklcamgcmifaaDoor
