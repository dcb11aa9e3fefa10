/- num.groups, sum, Size, Span, Head: what they read. -/
import Derived.Test.YtiocipmnmjpkfaaHMore
import Derived.Test.YtiocipmnmjpkfaaHNum
import Derived.Test.YtiocipmnmjpkfaaHLen
import Derived.Outline
namespace Go.Proofs.Ytiocipmnmjpkfaa
set_option linter.unusedVariables false
set_option linter.unusedSimpArgs false
open Go.RowKit Go.Proofs.YtiocipmnmjpkfaaW.PrintWords Go.Proofs.YtiocipmnmjpkfaaW.PrintMore

/-- Where the first byte below 128 stands. -/
def lowAt (l : List Int) : Option Nat := l.findIdx? fun b => decide (b < 128)
def lowI (l : List Int) : Int := match lowAt l with
  | some i => i
  | none => -1
theorem lowI_at (l : List Int) (k : Nat) (hk : k < l.length) (h : l.getD k 0 < 128) (hb : ∀ j, j < k → 128 ≤ l.getD j 0) : lowI l = k := by
  have : lowAt l = some k := by
    unfold lowAt
    rw [List.findIdx?_eq_some_iff_getElem]
    refine ⟨hk, ?_, fun j hj => ?_⟩
    · simpa [hk] using h
    · have := hb j hj
      have hj' : j < l.length := by omega
      simpa [hj'] using this
  simp [lowI, this]
theorem lowI_none (l : List Int) (hb : ∀ j, j < l.length → 128 ≤ l.getD j 0) : lowI l = -1 := by
  have : lowAt l = none := by
    unfold lowAt
    rw [List.findIdx?_eq_none_iff]
    intro x hx
    obtain ⟨j, hj, rfl⟩ := List.getElem_of_mem hx
    have := hb j hj
    simpa [hj] using this
  simp [lowI, this]

set_option maxHeartbeats 1000000 in
theorem low_calls (b : Int) (w : World) : Calls Try.prog 62 #[.int .u8 b] w fun e w' => e = .returned (.bool (decide (b < 128))) ∧ w = w' := by
  go_enter Try.func62, Try.ntmps62
  go_wp2
  go_ret
  exact ⟨rfl, rfl⟩

set_option maxHeartbeats 1000000 in
theorem indexFunc_calls (A : Option Addr) (c : Nat) (l : List Int) (w : World) (hl : ReadsInt w .u8 A l.length l) :
    Calls Try.prog 61 #[.slice A l.length c, .func (.func 62) #[] #[]] w fun e w' => IsInt .i64 (lowI l) e ∧ w = w' := by
  have HL := Lib.hid hl
  have hm := hl.2.1
  clear hl
  go_enter Try.func61, Try.ntmps61
  go_wp2_with fail
  go_loop [8] (fun i => ∃ k : Nat, k ≤ l.length ∧ i = .int .i64 k ∧ Hid (∀ j, j < k → 128 ≤ l.getD j 0)) (fun i => l.length - (intOf i).toNat)
  case atStart => exact ⟨0, by omega, rfl, fun j hj => absurd hj (by omega)⟩
  case round =>
    obtain ⟨k, hk, rfl, hb⟩ := hrel
    by_cases hlt : k < l.length
    · obtain ⟨ad, rfl, hcell⟩ := HL.out.2.2 (by omega)
      have hc := hcell k hlt
      clear hcell
      go_wp2_with fail
      refine (low_calls _ _).mono ?_
      rintro e w' ⟨rfl, rfl⟩
      have hg : l.getD k 0 = l[k] := by simp [hlt]
      have HG := Lib.hid hg
      clear hg
      go_wp2_with fail
      · have hx : l[k] < 128 := by assumption
        go_ret
        exact ⟨IsInt.mk (lowI_at l k hlt (by rw [HG.out]; exact hx) hb.out).symm, rfl⟩
      · have hx : 128 ≤ l[k] := by assumption
        go_round
        case rel => exact ⟨k + 1, hlt, by go_num, fun j hj => by
          by_cases e : j = k
          · subst e; rw [HG.out]; exact hx
          · exact hb.out j (by omega)⟩
        case measure => simp [intOf]; omega
    · go_wp2_with fail
      go_ret
      exact ⟨IsInt.mk (lowI_none l fun j hj => hb.out j (by omega)).symm, rfl⟩

theorem lowAt_lt {l : List Int} {i : Nat} (h : lowAt l = some i) : i < l.length := by
  unfold lowAt at h
  rw [List.findIdx?_eq_some_iff_getElem] at h
  exact h.1
theorem lowI_some {l : List Int} {i : Nat} (h : lowAt l = some i) : lowI l = i := by simp [lowI, h]
theorem lowI_no {l : List Int} (h : lowAt l = none) : lowI l = -1 := by simp [lowI, h]

/-- num.groups: the error, or the groups. -/
def GroupsErr (w : World) (x : Int) (e : Ending) (w' : World) : Prop := e = .returned (.tuple #[.slice none 0 0, .int .i64 x]) ∧ w = w'

set_option maxHeartbeats 1000000 in
theorem groups_arg (A : Option Addr) (n c : Nat) (at_ : Int) (w : World) (h : at_ < 0) :
    Calls Try.prog 47 #[.slice A n c, .int .i64 at_] w fun e w' => GroupsErr w 1 e w' := by
  go_enter Try.func47, Try.ntmps47
  go_wp2_with fail
  go_ret2
  exact ⟨rfl, rfl⟩
set_option maxHeartbeats 1000000 in
theorem groups_far (A : Option Addr) (n c : Nat) (at_ : Int) (w : World) (h0 : 0 ≤ at_) (h : (n : Int) ≤ at_) :
    Calls Try.prog 47 #[.slice A n c, .int .i64 at_] w fun e w' => GroupsErr w 5 e w' := by
  go_enter Try.func47, Try.ntmps47
  go_wp2_with fail
  go_ret2
  exact ⟨rfl, rfl⟩
set_option maxHeartbeats 1000000 in
theorem groups_short (A : Option Addr) (c : Nat) (l : List Int) (a : Nat) (w : World) (hl : ReadsInt w .u8 A l.length l) (hc : l.length ≤ c) (h : a < l.length) (hlow : lowAt (l.drop a) = none) :
    Calls Try.prog 47 #[.slice A l.length c, .int .i64 a] w fun e w' => GroupsErr w 5 e w' := by
  obtain ⟨i0, hi, _, hsz, _⟩ := info_parts infoU8
  obtain ⟨A1, hcut, hr⟩ := cut_end 22 5 Try.underlying22 hi hsz A l.length c a (by omega) hc
  have hcut1 := hcut a rfl
  have HR := Lib.hid (hr w .u8 l hl)
  have HN := Lib.hid (lowI_no hlow)
  clear hl hlow hr hi hsz hcut
  go_enter Try.func47, Try.ntmps47
  go_wp2_with fail
  rw [show l.length - a = (l.drop a).length from by simp] at HR
  have hx := indexFunc_calls A1 (c - a) (l.drop a) w HR.out
  rw [show (l.drop a).length = l.length - a from by simp] at hx
  refine hx.mono ?_
  rintro e w' ⟨he, rfl⟩
  unfold IsInt at he
  subst he
  rw [HN.out]
  clear hx
  go_wp2_with fail
  go_ret2
  exact ⟨rfl, rfl⟩

/-- The groups from a place on, up to the first byte below 128. -/
def groupsL (l : List Int) (a i : Nat) : List Int := (l.drop a).take (i + 1)
def GroupsOk (w : World) (l : List Int) (a i : Nat) (e : Ending) (w' : World) : Prop := ∃ A' c', e = .returned (.tuple #[.slice A' (i + 1) c', .int .i64 0]) ∧ ReadsInt w .u8 A' (i + 1) (groupsL l a i) ∧ i + 1 ≤ c' ∧ w = w'
set_option maxHeartbeats 1000000 in
theorem groups_ok (A : Option Addr) (c : Nat) (l : List Int) (a i : Nat) (w : World) (hl : ReadsInt w .u8 A l.length l) (hc : l.length ≤ c) (hm : l.length ≤ 9223372036854775807) (hlow : lowAt (l.drop a) = some i) :
    Calls Try.prog 47 #[.slice A l.length c, .int .i64 a] w fun e w' => GroupsOk w l a i e w' := by
  have hlt := lowAt_lt hlow
  rw [List.length_drop] at hlt
  obtain ⟨i0, hi, _, hsz, _⟩ := info_parts infoU8
  obtain ⟨A1, hcut, hr⟩ := cut_end 22 5 Try.underlying22 hi hsz A l.length c a (by omega) hc
  obtain ⟨A2, hcut2, hr2⟩ := cut_mid 22 5 Try.underlying22 hi hsz A l.length c a (a + i + 1) (by omega) (by omega) hc
  have hcut1 := hcut a rfl
  have hcut3 := hcut2 a ((a : Int) + i + 1) rfl (by omega)
  rw [show a + i + 1 - a = i + 1 from by omega] at hcut3 hr2
  have HR := Lib.hid (hr w .u8 l hl)
  have HR2 := Lib.hid (hr2 w .u8 l hl)
  have HN := Lib.hid (lowI_some hlow)
  clear hl hlow hr hi hsz hcut hcut2 hr2
  go_enter Try.func47, Try.ntmps47
  go_wp2_with fail
  rw [show l.length - a = (l.drop a).length from by simp] at HR
  have hx := indexFunc_calls A1 (c - a) (l.drop a) w HR.out
  rw [show (l.drop a).length = l.length - a from by simp] at hx
  refine hx.mono ?_
  rintro e w' ⟨he, rfl⟩
  unfold IsInt at he
  subst he
  rw [HN.out]
  clear hx
  go_wp2_with fail
  go_ret2
  exact ⟨A2, c - a, rfl, HR2.out, by omega, rfl⟩
end Go.Proofs.Ytiocipmnmjpkfaa
