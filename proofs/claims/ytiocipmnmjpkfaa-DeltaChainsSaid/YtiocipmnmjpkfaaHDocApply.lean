/- codicilref08.DocApply. -/
import Derived.Test.YtiocipmnmjpkfaaHDocSize
import Derived.Deep.LoopGhost
namespace Go.Proofs.Ytiocipmnmjpkfaa
set_option linter.unusedVariables false
set_option linter.unusedSimpArgs false
open Go.RowKit Go.Proofs.YtiocipmnmjpkfaaW.PrintWords Go.Proofs.YtiocipmnmjpkfaaW.PrintMore

theorem runF_step (base : List Int) (size k : Nat) (out : List Int) (c : Int) (d : List Int) : runF base size (k + 1) out (c :: d) = if (stepF base size out c d).1 = 0 then runF base size k (stepF base size out c d).2.1 (stepF base size out c d).2.2 else ((stepF base size out c d).1, []) := by
  rw [runF_cons]
  unfold stepF
  by_cases h1 : (oneF base c d).1 = 0
  · rw [if_pos h1, if_pos h1]
    by_cases h2 : size < out.length + (oneF base c d).2.1.length
    · rw [if_pos h2, if_pos h2, if_neg (by simp)]
    · rw [if_neg h2, if_neg h2, if_pos rfl]
  · rw [if_neg h1, if_neg h1, if_neg h1]
theorem stepF_ok (base : List Int) (size : Nat) (out : List Int) (c : Int) (d : List Int) (h : (stepF base size out c d).1 = 0) : (stepF base size out c d).2.1.length ≤ size ∧ (stepF base size out c d).2.2.length ≤ d.length := by
  unfold stepF at h ⊢
  by_cases h1 : (oneF base c d).1 = 0
  · rw [if_pos h1] at h ⊢
    by_cases h2 : size < out.length + (oneF base c d).2.1.length
    · rw [if_pos h2] at h; simp at h
    · rw [if_neg h2]
      refine ⟨by simp only [List.length_append]; omega, oneF_rest base c d⟩
  · rw [if_neg h1] at h; exact absurd h h1
def DocInv (w0 : World) (g : Nat) (A : Option Addr) (cp : Nat) (l base : List Int) (size : Nat) (p : Int × List Int) (k : Nat) (wr : World) : Prop :=
  Hid (Below w0.heap.size w0 wr) ∧ ∃ (n : Nat) (ov : Value) (e : Int), n ≤ l.length ∧ Hid (Tl wr g (.slice A l.length cp) n ov e) ∧
    ((e = 0 ∧ ∃ out : List Int, out.length ≤ size ∧ l.length - n < k ∧ Hid (Bs 5 wr w0.heap.size ov out) ∧ Hid (runF base size k out (l.drop n) = p)) ∨ (e ≠ 0 ∧ p = (e, [])))
theorem Tl.new (w0 W : World) (dv ov : Value) (a e : Int) : Tl (W.alloc (.cells #[dv, .int .i64 a, ov, .int .i64 e] 64)) W.heap.size dv a ov e := heap_alloc_new W _
set_option maxRecDepth 8000 in
set_option maxHeartbeats 4000000 in
theorem docApply_calls (Ab Ad : Option Addr) (cb cd : Nat) (base d : List Int) (most : Int) (w : World) (hb : ReadsInt w .u8 Ab base.length base) (hcb : base.length ≤ cb) (hd : ReadsInt w .u8 Ad d.length d) (hcd : d.length ≤ cd)
    (hmb : base.length ≤ 1099511627776) (hmd : d.length ≤ 1099511627776) (hby : ∀ x ∈ d, 0 ≤ x ∧ x < 256) :
    Calls Try.prog 38 #[.slice Ab base.length cb, .slice Ad d.length cd, .int .i64 most] w fun e w' => RunAns w (applyF base d most) e w' := by
  have HBS := Lib.hid hb
  have HD := Lib.hid hd
  have HBY := Lib.hid hby
  have HS0 := Lib.hid (docSize_calls Ad cd d 0 w hd hcd (by omega) (by omega) hby)
  have HS1 := Lib.hid (fun h => docSize_calls Ad cd d (sizeF d 0).2.1 w hd hcd (by omega) h hby)
  have HK0 := Lib.hid (sizeF_ok d 0)
  have HK1 := Lib.hid (sizeF_ok d (sizeF d 0).2.1)
  obtain ⟨p, hp⟩ : ∃ p, applyF base d most = p := ⟨_, rfl⟩
  rw [hp]
  have HF := Lib.hid hp
  clear hb hd hby hp
  by_cases hm : most < 0 ∨ 1048576 < most
  · rw [applyF, if_pos hm] at HF
    rcases hm with hm | hm
    all_goals
      go_enter Try.func38, Try.ntmps38
      go_wp2_with fail
      go_ret2
      exact RunAns.err HF.out.symm (Below.refl _ _)
  · have hm1 : ¬ most < 0 := fun h => hm (.inl h)
    have hm2 : ¬ 1048576 < most := fun h => hm (.inr h)
    rw [applyF, if_neg hm] at HF
    generalize hp0 : sizeF d 0 = p0 at HF HS0 HS1 HK0 HK1
    obtain ⟨v0, at0, e0⟩ := p0
    dsimp only at HF HS1 HK0 HK1
    clear hp0 hm
    by_cases he0 : e0 = 0
    · subst he0
      have hk0 := HK0.out rfl
      have HS1 := Lib.hid (HS1.out (by omega))
      rw [if_neg (by simp)] at HF
      by_cases hv0 : v0 = base.length
      · rw [if_neg (by simpa using hv0)] at HF
        generalize hp1 : sizeF d at0 = p1 at HF HS1 HK1
        obtain ⟨v1, at1, e1⟩ := p1
        dsimp only at HF HK1
        clear hp1
        by_cases he1 : e1 = 0
        · subst he1
          have hk1 := HK1.out rfl
          rw [if_neg (by simp)] at HF
          by_cases hl : most < v1
          · rw [if_pos hl] at HF
            go_enter Try.func38, Try.ntmps38
            go_wp2_with fail
            refine HS0.out.mono ?_
            rintro e w' ⟨he, rfl⟩
            unfold IsTriple at he
            subst he
            go_wp2_with fail
            refine HS1.out.mono ?_
            rintro e w' ⟨he, rfl⟩
            unfold IsTriple at he
            subst he
            go_wp2_with fail
            go_ret2
            exact RunAns.err HF.out.symm (Below.refl _ _)
          · rw [if_neg hl] at HF
            obtain ⟨n1, rfl⟩ := Int.eq_ofNat_of_zero_le hk1.2.2.1
            obtain ⟨z, rfl⟩ := Int.eq_ofNat_of_zero_le hk1.1
            rw [Int.toNat_natCast, Int.toNat_natCast] at HF
            have hn1 : n1 ≤ d.length := by omega
            have hz : z ≤ 1048576 := by omega
            have hdl : (d.drop n1).length = d.length - n1 := by rw [List.length_drop]
            go_enter Try.func38, Try.ntmps38
            go_wp2_with fail
            refine HS0.out.mono ?_
            rintro e w' ⟨he, rfl⟩
            unfold IsTriple at he
            subst he
            go_wp2_with fail
            refine HS1.out.mono ?_
            rintro e w' ⟨he, rfl⟩
            unfold IsTriple at he
            subst he
            go_wp2_with fail
            go_loopg [] (d.length - n1 + 1) (fun k wr => DocInv w w.heap.size Ad cd d base z p k wr)
            case atStart => exact ⟨Lib.hid (below_alloc (Below.refl _ _) _), n1, _, 0, hn1, Lib.hid (Tl.new w w _ _ _ _), .inl ⟨rfl, [], Nat.zero_le _, Nat.lt_succ_self _, Lib.hid (own_nil _ _ _ _), by rw [← hdl]; exact HF⟩⟩
            case round =>
              obtain ⟨HB, n, ov, e, hn, HT, hcase⟩ := hrel
              have c1 := HT.out.c1
              have c2 := HT.out.c2
              have c3 := HT.out.c3
              have f3 := HT.out.f 3
              rcases hcase with ⟨rfl, out, hos, hgk, HO, HR⟩ | ⟨hne, hpe⟩
              · obtain ⟨k, rfl⟩ : ∃ j, gk = j + 1 := ⟨gk - 1, by omega⟩
                by_cases hlt : n < d.length
                · have hdn : d.drop n = d.getD n 0 :: d.drop (n + 1) := by rw [show d.getD n 0 = d[n] from by simp [hlt]]; exact List.drop_eq_getElem_cons hlt
                  rw [hdn, runF_step] at HR
                  have HST := Lib.hid (step_calls w wr w.heap.size Ad Ab cd cb d base out n z ov HT.out HO.out HB.out (Nat.le_refl _) HD.out HBS.out hcb hmd hmb hlt HBY.out hos (by omega))
                  have HSO := Lib.hid (stepF_ok base z out (d.getD n 0) (d.drop (n + 1)))
                  generalize stepF base z out (d.getD n 0) (d.drop (n + 1)) = s at HST HSO HR
                  clear hdn
                  go_wp2_with fail
                  refine HST.out.mono ?_
                  rintro e w2 ⟨rfl, hb2, n', ov', hn', hT2, hs2⟩
                  have HB2 := Lib.hid hb2
                  have HT2 := Lib.hid hT2
                  have HS2 := Lib.hid hs2
                  clear hb2 hT2 hs2
                  go_wp2_with fail
                  go_roundg k
                  case measure => omega
                  case rel =>
                    refine ⟨HB2, n', ov', s.1, hn', HT2, ?_⟩
                    by_cases hs1 : s.1 = 0
                    · left
                      have hso := HSO.out hs1
                      have hs3 := HS2.out hs1
                      have hr := HR.out
                      rw [if_pos hs1, ← hs3.2] at hr
                      refine ⟨hs1, s.2.1, hso.1, ?_, Lib.hid hs3.1, Lib.hid hr⟩
                      have h2 := hso.2
                      rw [← hs3.2, List.length_drop, List.length_drop] at h2
                      omega
                    · right
                      have hr := HR.out
                      rw [if_neg hs1] at hr
                      exact ⟨hs1, hr.symm⟩
                · have hdn : d.drop n = [] := List.drop_eq_nil_of_le (by omega)
                  rw [hdn, runF_nil] at HR
                  obtain ⟨Ao, no, co, rfl, HO', HN⟩ := Bs.open_ HO.out
                  have hno := HN.out
                  have c3b := (HT.out.set3 4).c3
                  clear hdn
                  by_cases he : out.length = z
                  · rw [if_pos he] at HR
                    have he2 : (no : Int) = z := by omega
                    go_wp2_with fail
                    go_ret2
                    rw [← HR.out]
                    have hz2 : no = z := by omega
                    have ho2 := HO.out
                    rw [hz2] at ho2
                    exact ⟨_, rfl, ho2, HB.out⟩
                  · rw [if_neg he] at HR
                    have he2 : ¬ (no : Int) = z := by omega
                    go_wp2_with fail
                    go_quiet (fail)
                    try go_wp2_with fail
                    go_ret2
                    exact RunAns.err HR.out.symm (pw_below_drewN (below_set HB.out (Nat.le_refl _)) _)
              · have hne1 : (e == 0) = false := beq_eq_false_iff_ne.2 hne
                have hne2 : (e != 0) = true := bne_iff_ne.2 hne
                have HPE := Lib.hid hpe
                have HNE := Lib.hid hne
                clear hpe hne
                by_cases hlt : n < d.length
                all_goals
                  go_wp2_with fail
                  go_quiet (fail)
                  try go_wp2_with fail
                  go_ret2
                  exact RunAns.err HPE.out (pw_below_drewN HB.out _)
        · rw [if_pos (by simpa using he1)] at HF
          go_enter Try.func38, Try.ntmps38
          go_wp2_with fail
          refine HS0.out.mono ?_
          rintro e w' ⟨he, rfl⟩
          unfold IsTriple at he
          subst he
          go_wp2_with fail
          refine HS1.out.mono ?_
          rintro e w' ⟨he, rfl⟩
          unfold IsTriple at he
          subst he
          go_wp2_with fail
          go_ret2
          exact RunAns.err HF.out.symm (Below.refl _ _)
      · rw [if_pos (by simpa using hv0)] at HF
        go_enter Try.func38, Try.ntmps38
        go_wp2_with fail
        refine HS0.out.mono ?_
        rintro e w' ⟨he, rfl⟩
        unfold IsTriple at he
        subst he
        go_wp2_with fail
        go_ret2
        exact RunAns.err HF.out.symm (Below.refl _ _)
    · rw [if_pos (by simpa using he0)] at HF
      go_enter Try.func38, Try.ntmps38
      go_wp2_with fail
      refine HS0.out.mono ?_
      rintro e w' ⟨he, rfl⟩
      unfold IsTriple at he
      subst he
      go_wp2_with fail
      go_ret2
      exact RunAns.err HF.out.symm (Below.refl _ _)
end Go.Proofs.Ytiocipmnmjpkfaa
