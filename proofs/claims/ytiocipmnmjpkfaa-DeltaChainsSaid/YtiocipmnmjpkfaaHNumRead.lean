/- num.Size, Head, Span: what they answer. -/
import Derived.Test.YtiocipmnmjpkfaaHSum
import Derived.Deep.QuietTactic
import Derived.BigQuiet
import Derived.Outline
namespace Go.Proofs.Ytiocipmnmjpkfaa
set_option linter.unusedVariables false
set_option linter.unusedSimpArgs false
open Go.RowKit Go.Proofs.YtiocipmnmjpkfaaW.PrintWords Go.Proofs.YtiocipmnmjpkfaaW.PrintMore

def inBytes (l : List Int) : Bool := l.all fun x => decide (0 ≤ x) && decide (x < 256)
theorem inBytes_iff {l : List Int} : inBytes l = true ↔ ∀ x ∈ l, 0 ≤ x ∧ x < 256 := by simp [inBytes]
theorem groupsL_mem {l : List Int} {a i : Nat} {x : Int} (h : x ∈ groupsL l a i) : x ∈ l := List.mem_of_mem_drop (List.mem_of_mem_take h)
theorem groupsL_length {l : List Int} {a i : Nat} (h : lowAt (l.drop a) = some i) : (groupsL l a i).length = i + 1 := by
  have := lowAt_lt h
  simp [groupsL] at this ⊢
  omega

/-- What Size answers. -/
def sizeF (l : List Int) (a : Int) : Int × Int × Int :=
  if a < 0 then (0, 0, 1) else if (l.length : Int) ≤ a then (0, 0, 5) else match lowAt (l.drop a.toNat) with
    | none => (0, 0, 5)
    | some i => if (sumF 0 (groupsL l a.toNat i)).2 = true then ((sumF 0 (groupsL l a.toNat i)).1, a + i + 1, 0) else (0, 0, 10)
def IsTriple (p : Int × Int × Int) (e : Ending) : Prop := e = .returned (.tuple #[.int .u64 p.1, .int .i64 p.2.1, .int .i64 p.2.2])

theorem IsTriple.mk {p : Int × Int × Int} {a b c : Int} (h1 : a = p.1) (h2 : b = p.2.1) (h3 : c = p.2.2) : IsTriple p (.returned (.tuple #[.int .u64 a, .int .i64 b, .int .i64 c])) := by
  subst h1 h2 h3
  rfl
set_option maxHeartbeats 2000000 in
theorem size_calls (A : Option Addr) (c : Nat) (l : List Int) (a : Int) (w : World) (hl : ReadsInt w .u8 A l.length l) (hc : l.length ≤ c) (hm : l.length ≤ 140737488355328) (hby : ∀ x ∈ l, 0 ≤ x ∧ x < 256) :
    Calls Try.prog 29 #[.slice A l.length c, .int .i64 a] w fun e w' => IsTriple (sizeF l a) e ∧ w = w' := by
  have HL := Lib.hid hl
  have HBY := Lib.hid hby
  clear hl hby
  by_cases h0 : a < 0
  · have HF := Lib.hid (show sizeF l a = (0, 0, 1) by unfold sizeF; rw [if_pos h0])
    go_enter Try.func29, Try.ntmps29
    go_wp2_with fail
    refine (groups_arg A l.length c a w h0).mono ?_
    rintro e w' ⟨rfl, rfl⟩
    go_wp2_with fail
    go_ret3
    exact ⟨by rw [HF.out]; rfl, rfl⟩
  · by_cases h1 : (l.length : Int) ≤ a
    · have HF := Lib.hid (show sizeF l a = (0, 0, 5) by unfold sizeF; rw [if_neg h0, if_pos h1])
      go_enter Try.func29, Try.ntmps29
      go_wp2_with fail
      refine (groups_far A l.length c a w (by omega) h1).mono ?_
      rintro e w' ⟨rfl, rfl⟩
      go_wp2_with fail
      go_ret3
      exact ⟨by rw [HF.out]; rfl, rfl⟩
    · obtain ⟨n, rfl⟩ := Int.eq_ofNat_of_zero_le (show 0 ≤ a by omega)
      cases hlow : lowAt (l.drop n) with
      | none =>
        have HF := Lib.hid (show sizeF l n = (0, 0, 5) by unfold sizeF; rw [if_neg h0, if_neg h1, Int.toNat_natCast, hlow])
        have HLOW := Lib.hid hlow
        clear hlow
        go_enter Try.func29, Try.ntmps29
        go_wp2_with fail
        refine (groups_short A c l n w HL.out hc (by omega) HLOW.out).mono ?_
        rintro e w' ⟨rfl, rfl⟩
        go_wp2_with fail
        go_ret3
        exact ⟨by rw [HF.out]; rfl, rfl⟩
      | some i =>
        have hF : sizeF l n = if (sumF 0 (groupsL l n i)).2 = true then ((sumF 0 (groupsL l n i)).1, (n : Int) + i + 1, 0) else (0, 0, 10) := by unfold sizeF; rw [if_neg h0, if_neg h1, Int.toNat_natCast, hlow]
        have hlt := lowAt_lt hlow
        rw [List.length_drop] at hlt
        have hgl := groupsL_length hlow
        have HF := Lib.hid hF
        have HLOW := Lib.hid hlow
        have HGL := Lib.hid hgl
        clear hlow hF hgl
        go_enter Try.func29, Try.ntmps29
        go_wp2_with fail
        refine (groups_ok A c l n i w HL.out hc (by omega) HLOW.out).mono ?_
        rintro e w' ⟨A', c', rfl, hr, hc', rfl⟩
        have HR := Lib.hid hr
        clear hr
        go_wp2_with fail
        have hsum := sum_calls A' c' (groupsL l n i) 0 w (by rw [HGL.out]; exact HR.out) (by rw [HGL.out]; omega) (by omega) (fun x hx => HBY.out x (groupsL_mem hx))
        rw [HGL.out] at hsum
        refine hsum.mono ?_
        rintro e w' ⟨he, rfl⟩
        unfold IsPair at he
        subst he
        clear hsum
        generalize sumF 0 (groupsL l n i) = p at HF
        obtain ⟨v, b⟩ := p
        cases b with
        | true =>
          go_wp2_with fail
          go_ret3
          refine ⟨?_, rfl⟩
          rw [HF.out, if_pos trivial]
          exact IsTriple.mk rfl (by simp; omega) rfl
        | false =>
          go_wp2_with fail
          go_ret3
          refine ⟨?_, rfl⟩
          rw [HF.out]
          exact IsTriple.mk rfl rfl rfl

/-- What Head answers. -/
def headF (l : List Int) (a : Int) : Int × Int × Int × Int :=
  if a < 0 then (0, 0, 0, 1) else if (l.length : Int) ≤ a then (0, 0, 0, 5) else match lowAt (l.drop a.toNat) with
    | none => (0, 0, 0, 5)
    | some i => if (sumF 4 ((groupsL l a.toNat i).drop 1)).2 = true then ((groupsL l a.toNat i).getD 0 0 / 16 % 8, (sumF 4 ((groupsL l a.toNat i).drop 1)).1 + (groupsL l a.toNat i).getD 0 0 % 16, a + i + 1, 0) else (0, 0, 0, 10)
def IsFour (p : Int × Int × Int × Int) (e : Ending) : Prop := e = .returned (.tuple #[.int .i64 p.1, .int .u64 p.2.1, .int .i64 p.2.2.1, .int .i64 p.2.2.2])
theorem IsFour.mk {p : Int × Int × Int × Int} {a b c d : Int} (h1 : a = p.1) (h2 : b = p.2.1) (h3 : c = p.2.2.1) (h4 : d = p.2.2.2) : IsFour p (.returned (.tuple #[.int .i64 a, .int .u64 b, .int .i64 c, .int .i64 d])) := by
  subst h1 h2 h3 h4
  rfl
theorem results_tmp4' {fn : Func} {t u v x : Tmp} (h : fn.results = #[.tmp t, .tmp u, .tmp v, .tmp x]) (tmps : Array Value) (P : Program) (w : World) :
    (results fn tmps).run P w = .ok (.tuple #[tmps.getD t undef, tmps.getD u undef, tmps.getD v undef, tmps.getD x undef]) w := by simp [results, h]
theorem sumV_16 : ∀ (l : List Int) (s : Nat), 4 ≤ s → sumV s l % 16 = 0 := by
  intro l
  induction l with
  | nil => intro s hs; simp [sumV]
  | cons a r ih =>
    intro s hs
    simp only [sumV]
    have h := ih (s + 7) (by omega)
    obtain ⟨d, rfl⟩ : ∃ d, s = d + 4 := ⟨s - 4, by omega⟩
    rw [Int.pow_add, ← Int.mul_assoc, show (2 : Int) ^ 4 = 16 from rfl]
    omega
theorem or_low (v x : Int) (h0 : 0 ≤ v) (h1 : v < 18446744073709551616) (hv : v % 16 = 0) (hx : 0 ≤ x) (hx1 : x < 16) : bits .or .u64 v x = v + x := by
  rw [u64_or v _ h0 h1 hx (by omega)]
  obtain ⟨n, rfl⟩ := Int.eq_ofNat_of_zero_le h0
  obtain ⟨m, rfl⟩ := Int.eq_ofNat_of_zero_le hx
  rw [Int.toNat_natCast, Int.toNat_natCast]
  obtain ⟨q, rfl⟩ : ∃ q, n = 2 ^ 4 * q := ⟨n / 16, by omega⟩
  have := Nat.two_pow_add_eq_or_of_lt (show m < 2 ^ 4 by omega) q
  rw [← this]
  omega
theorem and7 (x : Int) (h0 : 0 ≤ x) (h1 : x < 256) : bits .and .u8 x 7 = x % 8 := bits_mask .u8 8 (by decide) wraps_u8 3 (by decide) x h0 h1
theorem and15b (x : Int) (h0 : 0 ≤ x) (h1 : x < 256) : bits .and .u8 x 15 = x % 16 := bits_mask .u8 8 (by decide) wraps_u8 4 (by decide) x h0 h1

set_option maxHeartbeats 2000000 in
theorem head_calls (A : Option Addr) (c : Nat) (l : List Int) (a : Int) (w : World) (hl : ReadsInt w .u8 A l.length l) (hc : l.length ≤ c) (hm : l.length ≤ 140737488355328) (hby : ∀ x ∈ l, 0 ≤ x ∧ x < 256) :
    Calls Try.prog 30 #[.slice A l.length c, .int .i64 a] w fun e w' => IsFour (headF l a) e ∧ Drawn0 w w' := by
  have HL := Lib.hid hl
  have HBY := Lib.hid hby
  clear hl hby
  by_cases h0 : a < 0
  · have HF := Lib.hid (show headF l a = (0, 0, 0, 1) by unfold headF; rw [if_pos h0])
    go_enter Try.func30, Try.ntmps30
    go_wp2_with fail
    refine (groups_arg A l.length c a w h0).mono ?_
    rintro e w' ⟨rfl, rfl⟩
    go_wp2_with fail
    refine bodyPost_ret (results_tmp4' rfl _ _ _) rfl ?_
    exact ⟨by rw [HF.out]; rfl, Drawn0.refl _⟩
  · by_cases h1 : (l.length : Int) ≤ a
    · have HF := Lib.hid (show headF l a = (0, 0, 0, 5) by unfold headF; rw [if_neg h0, if_pos h1])
      go_enter Try.func30, Try.ntmps30
      go_wp2_with fail
      refine (groups_far A l.length c a w (by omega) h1).mono ?_
      rintro e w' ⟨rfl, rfl⟩
      go_wp2_with fail
      refine bodyPost_ret (results_tmp4' rfl _ _ _) rfl ?_
      exact ⟨by rw [HF.out]; rfl, Drawn0.refl _⟩
    · obtain ⟨n, rfl⟩ := Int.eq_ofNat_of_zero_le (show 0 ≤ a by omega)
      cases hlow : lowAt (l.drop n) with
      | none =>
        have HF := Lib.hid (show headF l n = (0, 0, 0, 5) by unfold headF; rw [if_neg h0, if_neg h1, Int.toNat_natCast, hlow])
        have HLOW := Lib.hid hlow
        clear hlow
        go_enter Try.func30, Try.ntmps30
        go_wp2_with fail
        refine (groups_short A c l n w HL.out hc (by omega) HLOW.out).mono ?_
        rintro e w' ⟨rfl, rfl⟩
        go_wp2_with fail
        refine bodyPost_ret (results_tmp4' rfl _ _ _) rfl ?_
        exact ⟨by rw [HF.out]; rfl, Drawn0.refl _⟩
      | some i =>
        have hF : headF l n = if (sumF 4 ((groupsL l n i).drop 1)).2 = true then ((groupsL l n i).getD 0 0 / 16 % 8, (sumF 4 ((groupsL l n i).drop 1)).1 + (groupsL l n i).getD 0 0 % 16, (n : Int) + i + 1, 0) else (0, 0, 0, 10) := by unfold headF; rw [if_neg h0, if_neg h1, Int.toNat_natCast, hlow]
        have hlt := lowAt_lt hlow
        rw [List.length_drop] at hlt
        have hgl := groupsL_length hlow
        have hg0 : 0 ≤ (groupsL l n i).getD 0 0 ∧ (groupsL l n i).getD 0 0 < 256 := by
          have hp : 0 < (groupsL l n i).length := by omega
          rw [List.getD_eq_getElem?_getD, List.getElem?_eq_getElem hp]
          exact HBY.out _ (groupsL_mem (List.getElem_mem hp))
        have hv16 : (sumF 4 ((groupsL l n i).drop 1)).1 % 16 = 0 ∧ 0 ≤ (sumF 4 ((groupsL l n i).drop 1)).1 ∧ (sumF 4 ((groupsL l n i).drop 1)).1 < 18446744073709551616 := by
          unfold sumF
          split
          · exact ⟨sumV_16 _ 4 (by omega), sumV_nonneg _ _, by assumption⟩
          · exact ⟨rfl, by simp, by simp⟩
        have HV16 := Lib.hid hv16
        have HF := Lib.hid hF
        have HLOW := Lib.hid hlow
        have HGL := Lib.hid hgl
        clear hlow hF hgl hv16
        go_enter Try.func30, Try.ntmps30
        go_wp2_with fail
        refine (groups_ok A c l n i w HL.out hc (by omega) HLOW.out).mono ?_
        rintro e w' ⟨A', c', rfl, hr, hc', rfl⟩
        have HR := Lib.hid hr
        obtain ⟨i0, hi0, _, hsz0, _⟩ := info_parts infoU8
        obtain ⟨A2, hcut, hcr⟩ := cut_end 22 5 Try.underlying22 hi0 hsz0 A' (i + 1) c' 1 (by omega) hc'
        have hcut1 := hcut 1 rfl
        rw [show i + 1 - 1 = i from by omega] at hcut1 hcr
        have HCR := Lib.hid (hcr w .u8 _ HR.out)
        obtain ⟨ad, hAd, hcell⟩ := HR.out.2.2 (by omega)
        have hc0 := hcell 0 (by omega)
        rw [show ad.add 0 = ad from by simp [Addr.add]] at hc0
        subst hAd
        clear hr hcut hcr hcell hi0 hsz0
        go_wp2_with fail
        have hdl : ((groupsL l n i).drop 1).length = i := by rw [List.length_drop, HGL.out]; omega
        have hsum := sum_calls A2 (c' - 1) ((groupsL l n i).drop 1) 4 w (by rw [hdl]; exact HCR.out) (by rw [hdl]; omega) (by omega) (fun x hx => HBY.out x (groupsL_mem (List.mem_of_mem_drop hx)))
        rw [hdl] at hsum
        refine hsum.mono ?_
        rintro e w' ⟨he, rfl⟩
        unfold IsPair at he
        subst he
        clear hsum hdl
        generalize sumF 4 ((groupsL l n i).drop 1) = p at HF HV16
        generalize (groupsL l n i).getD 0 0 = g0 at HF hg0 hc0
        have hA7 := and7 (g0 / 16) (by omega) (by omega)
        have hA15 := and15b g0 hg0.1 hg0.2
        obtain ⟨v, b⟩ := p
        have hv := HV16.out.2
        cases b with
        | true =>
          go_wp2_with fail
          go_quiet (fail)
          go_wp2_with fail
          refine bodyPost_ret (results_tmp4' rfl _ _ _) rfl ?_
          refine ⟨?_, (Drawn0.refl _).step _⟩
          rw [HF.out, if_pos trivial]
          exact IsFour.mk rfl (or_low v _ hv.1 hv.2 HV16.out.1 (by omega) (by omega)) (by simp; omega) rfl
        | false =>
          go_wp2_with fail
          refine bodyPost_ret (results_tmp4' rfl _ _ _) rfl ?_
          refine ⟨?_, Drawn0.refl _⟩
          rw [HF.out]
          exact IsFour.mk rfl rfl rfl rfl

/-- Span's rounds: v so far, the groups to come. -/
def spanR : Int → List Int → Option Int
  | v, [] => some v
  | v, b :: r => if 144115188075855872 ≤ (v + 1) % 18446744073709551616 then none else spanR ((v + 1) % 18446744073709551616 * 128 + b % 128) r
def spanF (l : List Int) (a : Int) : Int × Int × Int :=
  if a < 0 then (0, 0, 1) else if (l.length : Int) ≤ a then (0, 0, 5) else match lowAt (l.drop a.toNat) with
    | none => (0, 0, 5)
    | some i => match spanR ((groupsL l a.toNat i).getD 0 0 % 128) ((groupsL l a.toNat i).drop 1) with
      | some v => (v, a + i + 1, 0)
      | none => (0, 0, 10)
theorem or_low7 (v x : Int) (h0 : 0 ≤ v) (h1 : v < 144115188075855872) (hx : 0 ≤ x) (hx1 : x < 128) : bits .or .u64 (v * 128) x = v * 128 + x := by
  rw [u64_or _ _ (by omega) (by omega) hx (by omega)]
  obtain ⟨n, rfl⟩ := Int.eq_ofNat_of_zero_le h0
  obtain ⟨m, rfl⟩ := Int.eq_ofNat_of_zero_le hx
  rw [show ((n : Int) * 128).toNat = 2 ^ 7 * n from by omega, Int.toNat_natCast]
  have := Nat.two_pow_add_eq_or_of_lt (show m < 2 ^ 7 by omega) n
  rw [← this]
  omega
def SpanInvR (G : List Int) (v0 : Int) (v i : Value) : Prop := ∃ (k : Nat) (x : Int), k ≤ G.length ∧ i = .int .i64 k ∧ v = .int .u64 x ∧ 0 ≤ x ∧ x < 18446744073709551616 ∧ spanR v0 G = spanR x (G.drop k)

set_option maxHeartbeats 2000000 in
theorem span_calls (A : Option Addr) (c : Nat) (l : List Int) (a : Int) (w : World) (hl : ReadsInt w .u8 A l.length l) (hc : l.length ≤ c) (hm : l.length ≤ 140737488355328) (hby : ∀ x ∈ l, 0 ≤ x ∧ x < 256) :
    Calls Try.prog 28 #[.slice A l.length c, .int .i64 a] w fun e w' => IsTriple (spanF l a) e ∧ w = w' := by
  have HL := Lib.hid hl
  have HBY := Lib.hid hby
  clear hl hby
  by_cases h0 : a < 0
  · have HF := Lib.hid (show spanF l a = (0, 0, 1) by unfold spanF; rw [if_pos h0])
    go_enter Try.func28, Try.ntmps28
    go_wp2_with fail
    refine (groups_arg A l.length c a w h0).mono ?_
    rintro e w' ⟨rfl, rfl⟩
    go_wp2_with fail
    go_ret3
    exact ⟨by rw [HF.out]; rfl, rfl⟩
  · by_cases h1 : (l.length : Int) ≤ a
    · have HF := Lib.hid (show spanF l a = (0, 0, 5) by unfold spanF; rw [if_neg h0, if_pos h1])
      go_enter Try.func28, Try.ntmps28
      go_wp2_with fail
      refine (groups_far A l.length c a w (by omega) h1).mono ?_
      rintro e w' ⟨rfl, rfl⟩
      go_wp2_with fail
      go_ret3
      exact ⟨by rw [HF.out]; rfl, rfl⟩
    · obtain ⟨n, rfl⟩ := Int.eq_ofNat_of_zero_le (show 0 ≤ a by omega)
      cases hlow : lowAt (l.drop n) with
      | none =>
        have HF := Lib.hid (show spanF l n = (0, 0, 5) by unfold spanF; rw [if_neg h0, if_neg h1, Int.toNat_natCast, hlow])
        have HLOW := Lib.hid hlow
        clear hlow
        go_enter Try.func28, Try.ntmps28
        go_wp2_with fail
        refine (groups_short A c l n w HL.out hc (by omega) HLOW.out).mono ?_
        rintro e w' ⟨rfl, rfl⟩
        go_wp2_with fail
        go_ret3
        exact ⟨by rw [HF.out]; rfl, rfl⟩
      | some i =>
        have hF : spanF l n = match spanR ((groupsL l n i).getD 0 0 % 128) ((groupsL l n i).drop 1) with
            | some v => (v, (n : Int) + i + 1, 0)
            | none => (0, 0, 10) := by unfold spanF; rw [if_neg h0, if_neg h1, Int.toNat_natCast, hlow]
        have hlt := lowAt_lt hlow
        rw [List.length_drop] at hlt
        have hgl := groupsL_length hlow
        have hg0 : 0 ≤ (groupsL l n i).getD 0 0 ∧ (groupsL l n i).getD 0 0 < 256 := by
          have hp : 0 < (groupsL l n i).length := by omega
          rw [List.getD_eq_getElem?_getD, List.getElem?_eq_getElem hp]
          exact HBY.out _ (groupsL_mem (List.getElem_mem hp))
        have hgd : ∀ x ∈ (groupsL l n i).drop 1, 0 ≤ x ∧ x < 256 := fun x hx => HBY.out x (groupsL_mem (List.mem_of_mem_drop hx))
        have hdl : ((groupsL l n i).drop 1).length = i := by rw [List.length_drop, hgl]; omega
        have HF := Lib.hid hF
        have HLOW := Lib.hid hlow
        have HGL := Lib.hid hgl
        clear hlow hF hgl
        go_enter Try.func28, Try.ntmps28
        go_wp2_with fail
        refine (groups_ok A c l n i w HL.out hc (by omega) HLOW.out).mono ?_
        rintro e w' ⟨A', c', rfl, hr, hc', rfl⟩
        have HR := Lib.hid hr
        obtain ⟨i0, hi0, _, hsz0, _⟩ := info_parts infoU8
        obtain ⟨A2, hcut, hcr⟩ := cut_end 22 5 Try.underlying22 hi0 hsz0 A' (i + 1) c' 1 (by omega) hc'
        have hcut1 := hcut 1 rfl
        rw [show i + 1 - 1 = i from by omega] at hcut1 hcr
        have hcr1 := hcr w .u8 _ HR.out
        obtain ⟨ad, hAd, hcell⟩ := HR.out.2.2 (by omega)
        have hc0 := hcell 0 (by omega)
        rw [show ad.add 0 = ad from by simp [Addr.add]] at hc0
        subst hAd
        clear hr hcut hcr hcell hi0 hsz0
        generalize (groupsL l n i).getD 0 0 = g0 at HF hg0 hc0
        generalize (groupsL l n i).drop 1 = G at HF hcr1 hgd hdl
        have h127 := and127 g0 hg0.1 hg0.2
        subst hdl
        have HCR := Lib.hid hcr1
        have HGD := Lib.hid hgd
        clear hcr1 hgd HGL HR HLOW
        go_wp2_with fail
        go_loop [9, 29] (fun v i => SpanInvR G (g0 % 128) v i) (fun _ i => G.length - (intOf i).toNat)
        case atStart => exact ⟨0, g0 % 128, by omega, rfl, rfl, by omega, by omega, rfl⟩
        case round =>
          obtain ⟨k, x, hk, rfl, rfl, hx0, hx1, hE⟩ := hrel
          have HE := Lib.hid hE
          clear hE
          by_cases hlt' : k < G.length
          · obtain ⟨ad2, hA2, hcell2⟩ := HCR.out.2.2 (by omega)
            have hc2 := hcell2 k hlt'
            have hg : G.getD k 0 = G[k] := by simp [hlt']
            rw [hg] at hc2
            have hb := HGD.out _ (List.getElem_mem hlt')
            have HD := Lib.hid (show G.drop k = G[k] :: G.drop (k + 1) from List.drop_eq_getElem_cons hlt')
            generalize G[k] = b at hc2 hb HD
            subst hA2
            clear hcell2 hg
            have h127b := and127 b hb.1 hb.2
            have hw := wrapU64m (x + 1)
            have HW := Lib.hid hw
            have hspR : spanR x (b :: G.drop (k + 1)) = if 144115188075855872 ≤ (x + 1) % 18446744073709551616 then none else spanR ((x + 1) % 18446744073709551616 * 128 + b % 128) (G.drop (k + 1)) := rfl
            by_cases hbig : 144115188075855872 ≤ (x + 1) % 18446744073709551616
            · rw [if_pos hbig] at hspR
              rw [HE.out, HD.out, hspR] at HF
              have HB := Lib.hid hbig
              clear hspR hbig hw
              go_wp2_with fail
              · go_ret3
                refine ⟨?_, rfl⟩
                rw [HF.out]
                exact IsTriple.mk rfl rfl rfl
              · exfalso
                have h9 : IntKind.u64.wrap (x + 1) < 144115188075855872 := by assumption
                rw [HW.out] at h9
                have := HB.out
                omega
            · rw [if_neg hbig] at hspR
              obtain ⟨x', hx'⟩ : ∃ x', x' = (x + 1) % 18446744073709551616 * 128 + b % 128 := ⟨_, rfl⟩
              have hor := or_low7 ((x + 1) % 18446744073709551616) (b % 128) (by omega) (by omega) (by omega) (by omega)
              have HOR := Lib.hid hor
              have HX' := Lib.hid hx'
              rw [← hx'] at hspR
              clear hor hx'
              have HR2 := Lib.hid hspR
              clear hspR hw
              go_wp2_with fail
              go_round
              case rel =>
                refine ⟨k + 1, x', hlt', by go_num, ?_, ?_, ?_, ?_⟩
                · rw [HW.out, wrapU64 _ (by omega) (by omega), HOR.out, HX'.out]
                · rw [HX'.out]; omega
                · rw [HX'.out]; omega
                · rw [HE.out, HD.out, HR2.out]
              case measure => simp [intOf]; omega
          · have hkk : k = G.length := by omega
            subst hkk
            have hE := HE.out
            rw [List.drop_length] at hE
            have hE2 : spanR (g0 % 128) G = some x := hE
            rw [hE2] at HF
            go_wp2_with fail
            go_ret3
            refine ⟨?_, rfl⟩
            rw [HF.out]
            exact IsTriple.mk rfl (by simp; omega) rfl
end Go.Proofs.Ytiocipmnmjpkfaa
