/- codicilref02.end, size, DocSize: what num.Size answers. -/
import Derived.Test.YtiocipmnmjpkfaaHDStep
namespace Go.Proofs.Ytiocipmnmjpkfaa
set_option linter.unusedVariables false
set_option linter.unusedSimpArgs false
open Go.RowKit Go.Proofs.YtiocipmnmjpkfaaW.PrintWords Go.Proofs.YtiocipmnmjpkfaaW.PrintMore

/-- Behind the first byte below 128 from a place on. -/
def endI (l : List Int) (a : Nat) : Int := match lowAt (l.drop a) with
  | some i => (a : Int) + i + 1
  | none => -1
theorem endI_far (l : List Int) (a : Nat) (h : ¬ a < l.length) : endI l a = -1 := by
  have : l.drop a = [] := List.drop_eq_nil_of_le (by omega)
  simp [endI, this, lowAt]
theorem endI_here (l : List Int) (a : Nat) (h : a < l.length) (hx : l.getD a 0 < 128) : endI l a = a + 1 := by
  rw [show l.getD a 0 = l[a] from by simp [h]] at hx
  have e : l.drop a = l[a] :: l.drop (a + 1) := List.drop_eq_getElem_cons h
  unfold endI
  rw [e]
  simp only [lowAt, List.findIdx?_cons, decide_eq_true hx]
  simp
theorem endI_on (l : List Int) (a : Nat) (h : a < l.length) (hx : ¬ l.getD a 0 < 128) : endI l a = endI l (a + 1) := by
  rw [show l.getD a 0 = l[a] from by simp [h]] at hx
  have e : l.drop a = l[a] :: l.drop (a + 1) := List.drop_eq_getElem_cons h
  unfold endI
  rw [e]
  simp only [lowAt, List.findIdx?_cons, decide_eq_false hx]
  cases List.findIdx? (fun b => decide (b < 128)) (List.drop (a + 1) l) with
  | none => rfl
  | some i => simp; omega
set_option maxHeartbeats 1000000 in
theorem end_calls (A : Option Addr) (c : Nat) (l : List Int) (a : Nat) (w : World) (hl : ReadsInt w .u8 A l.length l) (hm : l.length ≤ 140737488355328) (ha : a ≤ 140737488355328) (hby : ∀ x ∈ l, 0 ≤ x ∧ x < 256) :
    Calls Try.prog 50 #[.slice A l.length c, .int .i64 a] w fun e w' => IsInt .i64 (endI l a) e ∧ w = w' := by
  have HL := Lib.hid hl
  have HBY := Lib.hid hby
  clear hl hby
  go_enter Try.func50, Try.ntmps50
  go_wp2_with fail
  go_loop [5] (fun i => ∃ k : Nat, i = .int .i64 k ∧ k ≤ a + l.length ∧ Hid (endI l a = endI l k)) (fun i => l.length - (intOf i).toNat)
  case atStart => exact ⟨a, rfl, by omega, Lib.hid rfl⟩
  case round =>
    obtain ⟨k, rfl, hk, HE⟩ := hrel
    by_cases hlt : k < l.length
    · obtain ⟨ad, rfl, hcell⟩ := HL.out.2.2 (by omega)
      have hc := hcell k hlt
      by_cases hx : l.getD k 0 < 128
      · have he := endI_here l k hlt hx
        generalize l.getD k 0 = x at hc hx
        have HEE := Lib.hid (HE.out.trans he)
        clear hcell he
        go_wp2_with fail
        go_ret
        exact ⟨IsInt.mk HEE.out.symm, rfl⟩
      · have he := endI_on l k hlt hx
        have HEE := Lib.hid (HE.out.trans he)
        generalize l.getD k 0 = x at hc hx
        clear hcell he
        go_wp2_with fail
        go_round
        case rel => exact ⟨k + 1, by simp, by omega, HEE⟩
        case measure => simp [intOf]; omega
    · have HEE := Lib.hid (HE.out.trans (endI_far l k hlt))
      go_wp2_with fail
      go_ret
      exact ⟨IsInt.mk HEE.out.symm, rfl⟩
theorem sumV_shift : ∀ (l : List Int) (s : Nat), sumV (s + 7) l = 128 * sumV s l := by
  intro l
  induction l with
  | nil => intro s; simp [sumV]
  | cons x r ih =>
    intro s
    simp only [sumV, ih]
    rw [Int.mul_add, Int.pow_add, ← Int.mul_assoc, Int.mul_comm 128 (x % 128 * 2 ^ s)]
    rfl
theorem sumV_cons0 (x : Int) (r : List Int) : sumV 0 (x :: r) = sumV 0 r * 128 + x % 128 := by
  have := sumV_shift r 0
  simp only [sumV]
  rw [this]
  simp
  omega
theorem sumV_drop (l : List Int) (k : Nat) : sumV 0 (l.drop k) ≤ sumV 0 l := by
  induction l generalizing k with
  | nil => simp
  | cons x r ih =>
    cases k with
    | zero => simp
    | succ k =>
      have h1 := ih k
      have h2 := sumV_nonneg r 0
      have h3 := sumV_cons0 x r
      simp only [List.drop_succ_cons]
      have : 0 ≤ x % 128 := by omega
      omega
set_option maxHeartbeats 1000000 in
theorem rsize_calls (A : Option Addr) (c : Nat) (l : List Int) (w : World) (hl : ReadsInt w .u8 A l.length l) (hm : l.length ≤ 140737488355328) (hby : ∀ x ∈ l, 0 ≤ x ∧ x < 256) :
    Calls Try.prog 51 #[.slice A l.length c] w fun e w' => IsPair (sumF 0 l) e ∧ w = w' := by
  have HL := Lib.hid hl
  have HBY := Lib.hid hby
  clear hl hby
  go_enter Try.func51, Try.ntmps51
  go_wp2_with fail
  go_loop [4, 5] (fun v i => ∃ k : Nat, k ≤ l.length ∧ i = .int .i64 ((k : Int) - 1) ∧ v = .int .u64 (sumV 0 (l.drop k)) ∧ sumV 0 (l.drop k) < 18446744073709551616) (fun v i => (intOf i + 1).toNat)
  case atStart => exact ⟨l.length, Nat.le_refl _, rfl, by simp [sumV], by simp [sumV]⟩
  case round =>
    obtain ⟨k, hk, rfl, rfl, hv⟩ := hrel
    rcases k with _ | k
    · have hF : sumF 0 l = (sumV 0 l, true) := by
        unfold sumF
        rw [if_pos (by simpa using hv)]
      have HF := Lib.hid hF
      clear hF
      simp only [List.drop_zero] at hv ⊢
      go_wp2_with fail
      go_ret2
      exact ⟨by rw [HF.out]; rfl, rfl⟩
    · have hk1 : ((k + 1 : Nat) : Int) - 1 = k := by omega
      rw [hk1]
      have hlt : k < l.length := by omega
      have h0 := sumV_nonneg (l.drop (k + 1)) 0
      have hdk : l.drop k = l[k] :: l.drop (k + 1) := List.drop_eq_getElem_cons hlt
      have hsv := sumV_cons0 l[k] (l.drop (k + 1))
      rw [← hdk] at hsv
      have hle := sumV_drop l k
      by_cases hbig : 144115188075855872 ≤ sumV 0 (l.drop (k + 1))
      · have hF : sumF 0 l = (0, false) := by
          unfold sumF
          rw [if_neg (by have : 0 ≤ l[k] % 128 := by omega
                         omega)]
        have HF := Lib.hid hF
        generalize sumV 0 (l.drop (k + 1)) = v at hbig hv h0
        clear hF hsv hdk hle
        go_wp2_with fail
        go_ret2
        exact ⟨by rw [HF.out]; rfl, rfl⟩
      · obtain ⟨ad, rfl, hcell⟩ := HL.out.2.2 (by omega)
        have hc := hcell k hlt
        rw [show l.getD k 0 = l[k] from by simp [hlt]] at hc
        have hbx := HBY.out _ (List.getElem_mem hlt)
        have HSV := Lib.hid hsv
        generalize sumV 0 (l.drop (k + 1)) = v at hbig hv h0 HSV
        generalize l[k] = x at hc hbx HSV
        have htm : Int.tmod x 128 = x % 128 := Int.tmod_eq_emod_of_nonneg hbx.1
        clear hcell hsv hdk hle
        go_wp2_with fail
        go_round
        case rel =>
          refine ⟨k, by omega, by simp, ?_, ?_⟩
          · rw [HSV.out]
          · rw [HSV.out]; omega
        case measure => simp [intOf]
set_option maxHeartbeats 2000000 in
theorem docSize_calls (A : Option Addr) (c : Nat) (l : List Int) (a : Int) (w : World) (hl : ReadsInt w .u8 A l.length l) (hc : l.length ≤ c) (hm : l.length ≤ 140737488355328) (ha : a ≤ 140737488355328) (hby : ∀ x ∈ l, 0 ≤ x ∧ x < 256) :
    Calls Try.prog 33 #[.slice A l.length c, .int .i64 a] w fun e w' => IsTriple (sizeF l a) e ∧ w = w' := by
  have HL := Lib.hid hl
  have HBY := Lib.hid hby
  clear hl hby
  by_cases h0 : a < 0
  · have HF := Lib.hid (show sizeF l a = (0, 0, 1) by unfold sizeF; rw [if_pos h0])
    go_enter Try.func33, Try.ntmps33
    go_wp2_with fail
    go_ret3
    exact ⟨by rw [HF.out]; rfl, rfl⟩
  · obtain ⟨n, rfl⟩ := Int.eq_ofNat_of_zero_le (show 0 ≤ a by omega)
    have HE := Lib.hid (end_calls A c l n w HL.out hm (by omega) HBY.out)
    cases hlow : lowAt (l.drop n) with
    | none =>
      have hF : sizeF l n = (0, 0, 5) := by
        unfold sizeF
        rw [if_neg h0]
        split
        · rfl
        · rw [Int.toNat_natCast, hlow]
      have HF := Lib.hid hF
      have HI := Lib.hid (show endI l n = -1 by simp [endI, hlow])
      rw [HI.out] at HE
      clear hlow hF HI
      go_enter Try.func33, Try.ntmps33
      go_wp2_with fail
      refine HE.out.mono ?_
      rintro e w' ⟨he, rfl⟩
      unfold IsInt at he
      subst he
      go_wp2_with fail
      go_ret3
      exact ⟨by rw [HF.out]; rfl, rfl⟩
    | some i =>
      have hlt := lowAt_lt hlow
      rw [List.length_drop] at hlt
      have hF : sizeF l n = if (sumF 0 (groupsL l n i)).2 = true then ((sumF 0 (groupsL l n i)).1, (n : Int) + i + 1, 0) else (0, 0, 10) := by unfold sizeF; rw [if_neg h0, if_neg (by omega), Int.toNat_natCast, hlow]
      have hgl := groupsL_length hlow
      have HF := Lib.hid hF
      have HI := Lib.hid (show endI l n = (n : Int) + i + 1 by simp [endI, hlow])
      rw [HI.out] at HE
      have HGL := Lib.hid hgl
      obtain ⟨i0, hi0, _, hsz0, _⟩ := info_parts infoU8
      obtain ⟨A2, hcut2, hr2⟩ := cut_mid 22 5 Try.underlying22 hi0 hsz0 A l.length c n (n + i + 1) (by omega) (by omega) hc
      have hcut3 := hcut2 n ((n : Int) + i + 1) rfl (by omega)
      rw [show n + i + 1 - n = i + 1 from by omega] at hcut3 hr2
      have HR2 := Lib.hid (hr2 w .u8 l HL.out)
      have HS := Lib.hid (rsize_calls A2 (c - n) (groupsL l n i) w (by rw [HGL.out]; exact HR2.out) (by rw [HGL.out]; omega) (fun x hx => HBY.out x (groupsL_mem hx)))
      rw [HGL.out] at HS
      clear hlow hF hgl hcut2 hr2 HI
      go_enter Try.func33, Try.ntmps33
      go_wp2_with fail
      refine HE.out.mono ?_
      rintro e w' ⟨he, rfl⟩
      unfold IsInt at he
      subst he
      go_wp2_with fail
      refine HS.out.mono ?_
      rintro e w' ⟨he, rfl⟩
      unfold IsPair at he
      subst he
      generalize sumF 0 (groupsL l n i) = p at HF
      obtain ⟨v, b⟩ := p
      cases b with
      | true =>
        go_wp2_with fail
        go_ret3
        refine ⟨?_, rfl⟩
        rw [HF.out, if_pos trivial]
        exact IsTriple.mk rfl rfl rfl
      | false =>
        go_wp2_with fail
        go_ret3
        refine ⟨?_, rfl⟩
        rw [HF.out]
        exact IsTriple.mk rfl rfl rfl
end Go.Proofs.Ytiocipmnmjpkfaa
