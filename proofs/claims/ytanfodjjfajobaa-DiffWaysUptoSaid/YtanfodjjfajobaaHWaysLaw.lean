/- codicillaw19.DiffWays: walked. -/
import Derived.Test.YtanfodjjfajobaaHAwake
namespace Go.Proofs.Ytanfodjjfajobaa
set_option linter.unusedVariables false
set_option linter.unusedSimpArgs false
open Go.RowKit Go.Proofs.YtanfodjjfajobaaW.PrintWords Go.Proofs.YtanfodjjfajobaaW.PrintMore
theorem wayP_bound (a b : List ByteArray) (ha : a.length ≤ 60) (hb : b.length ≤ 60) : ∀ p ∈ wayP a b, p.1 ≤ 61 ∧ p.2 ≤ 61 := by
  intro p hp
  obtain ⟨i, hi, rfl⟩ := List.getElem_of_mem hp
  have hl := wayP_len a b
  have e : ∀ i (h : i < (wayP a b).length), (wayP a b)[i] = (wayP a b).getD i (0, 0) := fun i h => by simp [List.getD_eq_getElem?_getD, List.getElem?_eq_getElem h]
  by_cases h : i + 1 < (wayP a b).length
  · obtain ⟨x, y, dx, dy, t⟩ := two_at a b i h
    rw [e i hi, t.p]
    have := t.hx
    have := t.hy
    exact ⟨by show x ≤ 61; omega, by show y ≤ 61; omega⟩
  · rcases i with _ | i
    · exact ⟨Nat.zero_le _, Nat.zero_le _⟩
    · obtain ⟨x, y, dx, dy, t⟩ := two_at a b i (by omega)
      rw [e (i + 1) hi, t.q]
      have := t.hx
      have := t.hy
      exact ⟨by show x + dx ≤ 61; omega, by show y + dy ≤ 61; omega⟩
theorem hk_in (S : Pn → Prop) : ∀ (r : List Pn) (o : Option Pn) (p : Pn), (∀ q ∈ r, S q) → S p → (∀ f, o = some f → S f) → ∀ h ∈ hk o p r, S h.1 ∧ S h.2
  | [], o, p, hr, hp, ho => by
    intro h hh
    cases o with
    | none => simp [hk] at hh
    | some f => simp [hk] at hh; subst hh; exact ⟨ho f rfl, hp⟩
  | q :: r, o, p, hr, hp, ho => by
    intro h hh
    have hq := hr q (List.mem_cons_self ..)
    have hr' : ∀ z ∈ r, S z := fun z hz => hr z (List.mem_cons_of_mem _ hz)
    rw [hk.eq_def] at hh
    dsimp only at hh
    split at hh
    · cases o with
      | none => exact hk_in S r none q hr' hq (fun f e => by cases e) h hh
      | some f =>
        rcases List.mem_cons.1 hh with e | hh
        · subst e; exact ⟨ho f rfl, hp⟩
        · exact hk_in S r none q hr' hq (fun f e => by cases e) h hh
    · refine hk_in S r _ q hr' hq ?_ h hh
      intro f e
      cases o with
      | none => simp at e; subst e; exact hp
      | some g => simp at e; subst e; exact ho g rfl
theorem hks_bound (a b : List ByteArray) (ha : a.length ≤ 60) (hb : b.length ≤ 60) : ∀ h ∈ hks a b, h.1.1 ≤ 61 ∧ h.1.2 ≤ 61 ∧ h.2.1 ≤ 61 ∧ h.2.2 ≤ 61 := by
  intro h hh
  have hw := wayP_bound a b ha hb
  have := hk_in (fun p => p.1 ≤ 61 ∧ p.2 ≤ 61) (wayW a b 0 0) none (0, 0) (fun q hq => hw q (List.mem_cons_of_mem _ hq)) ⟨by decide, by decide⟩ (fun f e => by cases e) h hh
  exact ⟨this.1.1, this.1.2, this.2.1, this.2.2⟩
theorem hk_len : ∀ (r : List Pn) (o : Option Pn) (p : Pn), (hk o p r).length ≤ r.length + (match o with | none => 0 | some _ => 1)
  | [], o, p => by cases o <;> simp [hk]
  | q :: r, o, p => by
    rw [hk.eq_def]
    dsimp only
    have h1 := hk_len r none q
    have h2 := hk_len r (some (o.getD p)) q
    split
    · cases o <;> simp at * <;> omega
    · cases o <;> simp at * <;> omega
theorem hks_len (a b : List ByteArray) (ha : a.length ≤ 60) (hb : b.length ≤ 60) : (hks a b).length ≤ 1000 := by
  have h := hk_len (wayW a b 0 0) none (0, 0)
  have hl := wayP_len a b
  unfold wayP at hl
  simp only [List.length_cons] at hl
  unfold hks
  simp at h
  omega
theorem codicillaw19_awakes (w : World) : Calls Try.prog 8 #[] w fun e w' => e = .returned (.bool true) ∧ Below w.heap.size w w' := codicillaw19_awake.calls true w rfl
theorem reads_nil {w : World} : ReadsOf pt (0, 0) w none ([] : List Pn).length [] := ⟨rfl, Nat.zero_le _, fun h => absurd h (Nat.lt_irrefl _)⟩
set_option maxRecDepth 20000 in
set_option maxHeartbeats 40000000 in
theorem diffWays_calls (w : World) (A : Option Addr) (ca : Nat) (a : List ByteArray) (B : Option Addr) (cb : Nat) (b : List ByteArray) (hra : ReadsOf Value.string ByteArray.empty w A a.length a) (hrb : ReadsOf Value.string ByteArray.empty w B b.length b)
    (hA : a.length ≤ 1048576) (hB : b.length ≤ 1048576) (hsa : ∀ s ∈ a, s.size ≤ 1048576) (hsb : ∀ s ∈ b, s.size ≤ 1048576) :
    Calls Try.prog 5 #[.slice A a.length ca, .slice B b.length cb] w fun e w' => e = .returned (.bool true) ∧ Below w.heap.size w w' := by
  by_cases hlong : 1000 < a.length ∨ 1000 < b.length
  · have HL := Lib.hid hlong
    clear hlong hsa hsb hra hrb
    go_enter Try.func5, Try.ntmps5
    go_wp2_with fail
    refine (codicillaw19_awakes w).mono ?_
    rintro e w1 ⟨rfl, hb1⟩
    have HB := Lib.hid hb1
    clear hb1
    go_wp2_with fail
    refine (small_long w1 A ca _ B cb _ HL.out).mono ?_
    rintro e w2 ⟨rfl, rfl⟩
    go_wp2_with fail
    refine (way_long w2 A ca _ B cb _ HL.out (by omega) (by omega)).mono ?_
    rintro e w3 ⟨rfl, rfl⟩
    go_wp2_with fail
    refine (docWay_long w3 A ca _ B cb _ HL.out).mono ?_
    rintro e w4 ⟨rfl, rfl⟩
    go_wp2_with fail
    refine (sameWay_calls w4 none 0 none 0 [] reads_nil reads_nil (by simp) (by simp)).mono ?_
    rintro e w5 ⟨rfl, k5, rfl⟩
    have HB5 := Lib.hid (pw_below_drewN HB.out k5)
    clear HB
    generalize w4.drewN k5 = w5 at *
    go_wp2_with fail
    refine (rest_long w5 A ca _ B cb _ HL.out (by omega) (by omega)).mono ?_
    rintro e w6 ⟨rfl, rfl⟩
    go_wp2_with fail
    refine (docRest_long w6 A ca _ B cb _ HL.out).mono ?_
    rintro e w7 ⟨rfl, rfl⟩
    go_wp2_with fail
    refine (hunks_long w7 A ca _ B cb _ HL.out (by omega) (by omega)).mono ?_
    rintro e w8 ⟨rfl, rfl⟩
    go_wp2_with fail
    refine (docHunks_long w8 A ca _ B cb _ HL.out).mono ?_
    rintro e w9 ⟨rfl, rfl⟩
    go_wp2_with fail
    refine (of_calls w9 w9.heap.size (.slice none 0 0) [] (own_nil _ _ _ _) (by simp)).mono ?_
    rintro e w10 ⟨u, rfl, hu, hb10⟩
    have HU := Lib.hid hu
    have HB10 := Lib.hid (below_then HB5.out HB5.out.size hb10)
    clear hu hb10
    go_wp2_with fail
    refine (sameHunks_calls w10 w9.heap.size w9.heap.size u (.slice none 0 0) [] HU.out (own_nil _ _ _ _) (by simp) (by simp)).mono ?_
    rintro e w11 ⟨rfl, k11, rfl⟩
    have HB11 := Lib.hid (pw_below_drewN HB10.out k11)
    clear HB10 HU
    generalize w10.drewN k11 = w11 at *
    go_wp2_with fail
    refine (text_long w11 A ca _ B cb _ HL.out (by omega) (by omega)).mono ?_
    rintro e w12 ⟨rfl, rfl⟩
    go_wp2_with fail
    refine (docText_long w12 A ca _ B cb _ HL.out).mono ?_
    rintro e w13 ⟨rfl, rfl⟩
    go_wp2_with fail
    go_ret
    exact ⟨rfl, HB11.out⟩
  · by_cases hs : a.length ≤ 60 ∧ b.length ≤ 60
    · have hna := hs.1
      have hnb := hs.2
      have HRA := Lib.hid hra
      have HRB := Lib.hid hrb
      have HSA := Lib.hid hsa
      have HSB := Lib.hid hsb
      have HSA' : Hid (∀ s ∈ a, s.size ≤ maxLen) := Lib.hid fun s h => Nat.le_trans (hsa s h) (by decide)
      have HSB' : Hid (∀ s ∈ b, s.size ≤ maxLen) := Lib.hid fun s h => Nat.le_trans (hsb s h) (by decide)
      clear hlong hsa hsb hra hrb hs
      go_enter Try.func5, Try.ntmps5
      go_wp2_with fail
      refine (codicillaw19_awakes w).mono ?_
      rintro e w1 ⟨rfl, hb1⟩
      have HB := Lib.hid hb1
      clear hb1
      go_wp2_with fail
      refine (small_yes w1 A ca _ B cb _ hna hnb).mono ?_
      rintro e w2 ⟨rfl, rfl⟩
      go_wp2_with fail
      refine (diffWay_calls w2 A ca a B cb b (HRA.out.below HB.out) (HRB.out.below HB.out) hna hnb HSA'.out HSB'.out).mono ?_
      rintro e w3 ⟨v3, rfl, hv3, hb3⟩
      obtain ⟨A3, c3, rfl⟩ := own_slice hv3
      have HV3 := Lib.hid (own_reads_of' (d := (0, 0)) hv3)
      have HB3 := Lib.hid (below_then HB.out HB.out.size hb3)
      clear hv3 hb3 HB
      go_wp2_with fail
      refine (docWay_calls w3 A ca a B cb b (HRA.out.below HB3.out) (HRB.out.below HB3.out) hna hnb).mono ?_
      rintro e w4 ⟨v4, rfl, hv4, hb4⟩
      obtain ⟨A4, c4, rfl⟩ := own_slice hv4
      have HV4 := Lib.hid (own_reads_of' (d := (0, 0)) hv4)
      have HV3' := Lib.hid (HV3.out.below hb4)
      have HB4 := Lib.hid (below_then HB3.out HB3.out.size hb4)
      clear hv4 hb4 HB3 HV3
      go_wp2_with fail
      refine (sameWay_calls w4 A3 c3 A4 c4 (wayP a b) HV3'.out HV4.out (wayP_bound a b hna hnb) (by have := (wayP_len a b).2; omega)).mono ?_
      rintro e w5 ⟨rfl, k5, rfl⟩
      have HB5 := Lib.hid (pw_below_drewN HB4.out k5)
      clear HB4 HV3' HV4
      generalize w4.drewN k5 = w5 at *
      go_wp2_with fail
      refine (rest_calls w5 A ca a B cb b (HRA.out.below HB5.out) (HRB.out.below HB5.out) (by omega) (by omega) HSA'.out HSB'.out).mono ?_
      rintro e w6 ⟨rfl, hb6⟩
      have HB6 := Lib.hid (below_then HB5.out HB5.out.size hb6)
      clear hb6 HB5
      go_wp2_with fail
      refine (docRest_calls w6 A ca a B cb b (HRA.out.below HB6.out) (HRB.out.below HB6.out) hna hnb).mono ?_
      rintro e w7 ⟨rfl, hb7⟩
      have HB7 := Lib.hid (below_then HB6.out HB6.out.size hb7)
      clear hb7 HB6
      have hself : ((dist (txs a) (txs b) : Int) == (dist (txs a) (txs b) : Int)) = true := by simp
      generalize dist (txs a) (txs b) = D at hself ⊢
      go_wp2_with fail
      refine (diffHunks_calls w7 A ca a B cb b (HRA.out.below HB7.out) (HRB.out.below HB7.out) hna hnb HSA'.out HSB'.out).mono ?_
      rintro e w8 ⟨v8, rfl, hv8, hb8⟩
      have HV8 := Lib.hid hv8
      have HB8 := Lib.hid (below_then HB7.out HB7.out.size hb8)
      clear hv8 hb8 HB7
      go_wp2_with fail
      refine (docHunks_calls w8 A ca a B cb b (HRA.out.below HB8.out) (HRB.out.below HB8.out) hna hnb).mono ?_
      rintro e w9 ⟨v9, rfl, hv9, hb9⟩
      have HV9 := Lib.hid hv9
      have HV8' := Lib.hid (pw_own_below HV8.out hb9)
      have HB9 := Lib.hid (below_then HB8.out HB8.out.size hb9)
      clear hv9 hb9 HB8 HV8
      go_wp2_with fail
      refine (of_calls w9 _ v8 (hks a b) HV8'.out (hks_len a b hna hnb)).mono ?_
      rintro e w10 ⟨u, rfl, hu, hb10⟩
      have HU := Lib.hid hu
      have HV9' := Lib.hid (pw_own_below HV9.out hb10)
      have HB10 := Lib.hid (below_then HB9.out HB9.out.size hb10)
      clear hu hb10 HV8' HV9 HB9
      go_wp2_with fail
      refine (sameHunks_calls w10 _ _ u v9 (hks a b) HU.out HV9'.out (hks_len a b hna hnb) (hks_bound a b hna hnb)).mono ?_
      rintro e w11 ⟨rfl, k11, rfl⟩
      have HB11 := Lib.hid (pw_below_drewN HB10.out k11)
      clear HB10 HU HV9'
      generalize w10.drewN k11 = w11 at *
      go_wp2_with fail
      refine (text_calls w11 A ca a B cb b (HRA.out.below HB11.out) (HRB.out.below HB11.out) hna hnb HSA.out HSB.out).mono ?_
      rintro e w12 ⟨rfl, hb12⟩
      have HB12 := Lib.hid (below_then HB11.out HB11.out.size hb12)
      clear hb12 HB11
      go_wp2_with fail
      refine (docText_calls w12 A ca a B cb b (HRA.out.below HB12.out) (HRB.out.below HB12.out) hna hnb HSA.out HSB.out).mono ?_
      rintro e w13 ⟨rfl, hb13⟩
      have HB13 := Lib.hid (below_then HB12.out HB12.out.size hb13)
      clear hb13 HB12
      generalize textT a b = T
      have hst : ((⟨T.toArray⟩ : ByteArray).toList == (⟨T.toArray⟩ : ByteArray).toList) = true := by simp
      go_wp2_with fail
      go_ret
      exact ⟨rfl, HB13.out⟩
    · have HN := Lib.hid (small_no · A ca a.length B cb b.length hs (by omega) (by omega))
      clear hlong hsa hsb hra hrb hs
      go_enter Try.func5, Try.ntmps5
      go_wp2_with fail
      refine (codicillaw19_awakes w).mono ?_
      rintro e w1 ⟨rfl, hb1⟩
      have HB := Lib.hid hb1
      clear hb1
      go_wp2_with fail
      refine (HN.out w1).mono ?_
      rintro e w2 ⟨rfl, rfl⟩
      go_wp2_with fail
      go_ret
      exact ⟨rfl, HB.out⟩
end Go.Proofs.Ytanfodjjfajobaa
