/- delta.Apply. -/
import Derived.Test.YtiocipmnmjpkfaaHRun
namespace Go.Proofs.Ytiocipmnmjpkfaa
set_option linter.unusedVariables false
set_option linter.unusedSimpArgs false
open Go.RowKit Go.Proofs.YtiocipmnmjpkfaaW.PrintWords Go.Proofs.YtiocipmnmjpkfaaW.PrintMore

theorem sizeF_ok (l : List Int) (a : Int) (h : (sizeF l a).2.2 = 0) : 0 ≤ (sizeF l a).1 ∧ (sizeF l a).1 < 18446744073709551616 ∧ 0 ≤ (sizeF l a).2.1 ∧ (sizeF l a).2.1 ≤ l.length := by
  unfold sizeF at h ⊢
  split
  · rename_i h0; rw [if_pos h0] at h; simp at h
  · rename_i h0
    rw [if_neg h0] at h
    split
    · rename_i h1; rw [if_pos h1] at h; simp at h
    · rename_i h1
      rw [if_neg h1] at h
      cases hl : lowAt (l.drop a.toNat) with
      | none => rw [hl] at h; simp at h
      | some i =>
        rw [hl] at h
        dsimp only at h ⊢
        by_cases hs : (sumF 0 (groupsL l a.toNat i)).2 = true
        · rw [if_pos hs]
          have hlt := lowAt_lt hl
          rw [List.length_drop] at hlt
          have hv : sumV 0 (groupsL l a.toNat i) < 18446744073709551616 := by
            unfold sumF at hs
            split at hs
            · assumption
            · simp at hs
          have h0 := sumV_nonneg (groupsL l a.toNat i) 0
          unfold sumF
          rw [if_pos hv]
          exact ⟨h0, hv, by dsimp only; omega, by dsimp only; omega⟩
        · rw [if_neg hs] at h; simp at h
set_option maxRecDepth 8000 in
set_option maxHeartbeats 4000000 in
theorem dapply_calls (Ab Ad : Option Addr) (cb cd : Nat) (base d : List Int) (most : Int) (w : World) (hb : ReadsInt w .u8 Ab base.length base) (hcb : base.length ≤ cb) (hd : ReadsInt w .u8 Ad d.length d) (hcd : d.length ≤ cd)
    (hmb : base.length ≤ 1099511627776) (hmd : d.length ≤ 1099511627776) (hby : ∀ x ∈ d, 0 ≤ x ∧ x < 256) :
    Calls Try.prog 37 #[.slice Ab base.length cb, .slice Ad d.length cd, .int .i64 most] w fun e w' => RunAns w (applyF base d most) e w' := by
  have HBS := Lib.hid hb
  have HD := Lib.hid hd
  have HBY := Lib.hid hby
  have HS0 := Lib.hid (size_calls Ad cd d 0 w hd hcd (by omega) hby)
  have HS1 := Lib.hid (size_calls Ad cd d (sizeF d 0).2.1 w hd hcd (by omega) hby)
  have HK0 := Lib.hid (sizeF_ok d 0)
  have HK1 := Lib.hid (sizeF_ok d (sizeF d 0).2.1)
  obtain ⟨i0, hi0, _, hsz0, _⟩ := info_parts infoU8
  obtain ⟨p, hp⟩ : ∃ p, applyF base d most = p := ⟨_, rfl⟩
  rw [hp]
  have HF := Lib.hid hp
  clear hb hd hby hp
  by_cases hm : most < 0 ∨ 1048576 < most
  · rw [applyF, if_pos hm] at HF
    rcases hm with hm | hm
    all_goals
      go_enter Try.func37, Try.ntmps37
      go_wp2_with fail
      go_ret2
      exact RunAns.err HF.out.symm (Below.refl _ _)
  · have hm1 : ¬ most < 0 := fun h => hm (.inl h)
    have hm2 : ¬ 1048576 < most := fun h => hm (.inr h)
    rw [applyF, if_neg hm] at HF
    generalize hp0 : sizeF d 0 = p0 at HF HS0 HS1 HK0 HK1
    obtain ⟨v0, at0, e0⟩ := p0
    dsimp only at HF HS1 HK0 HK1
    clear hp0 hm
    by_cases he0 : e0 = 0
    · subst he0
      have hk0 := HK0.out rfl
      rw [if_neg (by simp)] at HF
      by_cases hv0 : v0 = base.length
      · rw [if_neg (by simpa using hv0)] at HF
        generalize hp1 : sizeF d at0 = p1 at HF HS1 HK1
        obtain ⟨v1, at1, e1⟩ := p1
        dsimp only at HF HK1
        clear hp1
        by_cases he1 : e1 = 0
        · subst he1
          have hk1 := HK1.out rfl
          rw [if_neg (by simp)] at HF
          by_cases hl : most < v1
          · rw [if_pos hl] at HF
            go_enter Try.func37, Try.ntmps37
            go_wp2_with fail
            refine HS0.out.mono ?_
            rintro e w' ⟨he, rfl⟩
            unfold IsTriple at he
            subst he
            go_wp2_with fail
            refine HS1.out.mono ?_
            rintro e w' ⟨he, rfl⟩
            unfold IsTriple at he
            subst he
            go_wp2_with fail
            go_ret2
            exact RunAns.err HF.out.symm (Below.refl _ _)
          · rw [if_neg hl] at HF
            obtain ⟨n1, rfl⟩ := Int.eq_ofNat_of_zero_le hk1.2.2.1
            obtain ⟨z, rfl⟩ := Int.eq_ofNat_of_zero_le hk1.1
            rw [Int.toNat_natCast, Int.toNat_natCast] at HF
            have hn1 : n1 ≤ d.length := by omega
            have hz : z ≤ 1048576 := by omega
            obtain ⟨A1, hcut, hcr⟩ := cut_endk .i64 22 5 Try.underlying22 hi0 hsz0 Ad d.length cd (n1 : Int) n1 rfl hn1 hcd
            have HR := Lib.hid (hcr w .u8 _ HD.out)
            have hdl : (d.drop n1).length = d.length - n1 := by rw [List.length_drop]
            have HRUN := Lib.hid (drun_calls Ab A1 cb (cd - n1) base (d.drop n1) z w HBS.out hcb (by rw [hdl]; exact HR.out) (by omega) hmb (by omega) (by omega) (fun x hx => HBY.out x (List.mem_of_mem_drop hx)))
            rw [HF.out, hdl] at HRUN
            clear hcr hdl HF
            go_enter Try.func37, Try.ntmps37
            go_wp2_with fail
            refine HS0.out.mono ?_
            rintro e w' ⟨he, rfl⟩
            unfold IsTriple at he
            subst he
            go_wp2_with fail
            refine HS1.out.mono ?_
            rintro e w' ⟨he, rfl⟩
            unfold IsTriple at he
            subst he
            go_wp2_with fail
            refine HRUN.out.mono ?_
            rintro e w' ⟨v, rfl, hv, hb⟩
            go_wp2_with fail
            go_ret2
            exact ⟨v, rfl, hv, hb⟩
        · rw [if_pos (by simpa using he1)] at HF
          go_enter Try.func37, Try.ntmps37
          go_wp2_with fail
          refine HS0.out.mono ?_
          rintro e w' ⟨he, rfl⟩
          unfold IsTriple at he
          subst he
          go_wp2_with fail
          refine HS1.out.mono ?_
          rintro e w' ⟨he, rfl⟩
          unfold IsTriple at he
          subst he
          go_wp2_with fail
          go_ret2
          exact RunAns.err HF.out.symm (Below.refl _ _)
      · rw [if_pos (by simpa using hv0)] at HF
        go_enter Try.func37, Try.ntmps37
        go_wp2_with fail
        refine HS0.out.mono ?_
        rintro e w' ⟨he, rfl⟩
        unfold IsTriple at he
        subst he
        go_wp2_with fail
        go_ret2
        exact RunAns.err HF.out.symm (Below.refl _ _)
    · rw [if_pos (by simpa using he0)] at HF
      go_enter Try.func37, Try.ntmps37
      go_wp2_with fail
      refine HS0.out.mono ?_
      rintro e w' ⟨he, rfl⟩
      unfold IsTriple at he
      subst he
      go_wp2_with fail
      go_ret2
      exact RunAns.err HF.out.symm (Below.refl _ _)
end Go.Proofs.Ytiocipmnmjpkfaa
