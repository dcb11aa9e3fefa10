/- codiciltop.WholePatches: walked. -/
import Derived.Test.YtmnpcignolofaaaHSameB
import Derived.Test.YtmnpcignolofaaaHHunkW
import Derived.Test.YtmnpcignolofaaaHAwk
import Derived.Test.YtmnpcignolofaaaHText
import Derived.Test.YtmnpcignolofaaaHAppP
import Derived.Test.YtmnpcignolofaaaHTwinL
namespace Go.Proofs.Ytmnpcignolofaaa
set_option linter.unusedVariables false
set_option linter.unusedSimpArgs false
open Go.RowKit Go.Shelf Go.Proofs.YtmnpcignolofaaaW.PrintWords Go.Proofs.YtmnpcignolofaaaW.PrintMore
def sXn : ByteArray := ⟨#[120, 10]⟩
def sYn : ByteArray := ⟨#[121, 10]⟩
def sZn : ByteArray := ⟨#[122, 10]⟩
theorem dn_10 : dd [sXn, sYn] [sYn, sZn] 1 0 = 1 := by decide +kernel
theorem dn_01 : dd [sXn, sYn] [sYn, sZn] 0 1 = 3 := by decide +kernel
theorem way_xyn : wayP [sXn, sYn] [sYn, sZn] = [(0, 0), (1, 0), (2, 1), (2, 2)] := by
  have s0 : stepD [sXn, sYn] [sYn, sZn] 0 0 = (1, 0) := by
    unfold stepD
    rw [if_neg (by decide), if_pos ⟨by decide, .inr (by rw [dn_10, dn_01]; decide)⟩]
  have s1 : stepD [sXn, sYn] [sYn, sZn] 1 0 = (1, 1) := by
    unfold stepD
    rw [if_pos (by decide)]
  have s2 : stepD [sXn, sYn] [sYn, sZn] 2 1 = (0, 1) := by
    unfold stepD
    rw [if_neg (by decide), if_neg (fun h => absurd h.1 (by decide))]
  unfold wayP
  rw [wayW_go (by decide) (by decide) (by decide), s0]
  show (0, 0) :: (1, 0) :: wayW [sXn, sYn] [sYn, sZn] 1 0 = _
  rw [wayW_go (by decide) (by decide) (by decide), s1]
  show (0, 0) :: (1, 0) :: (2, 1) :: wayW [sXn, sYn] [sYn, sZn] 2 1 = _
  rw [wayW_go (by decide) (by decide) (by decide), s2]
  show (0, 0) :: (1, 0) :: (2, 1) :: (2, 2) :: wayW [sXn, sYn] [sYn, sZn] 2 2 = _
  rw [show wayW [sXn, sYn] [sYn, sZn] 2 2 = [] from wayW_end [sXn, sYn] [sYn, sZn]]
theorem text_xyn : textT [sXn, sYn] [sYn, sZn] = [45, 120, 10, 32, 121, 10, 43, 122, 10] := by
  unfold textT
  rw [way_xyn]
  decide +kernel
/-- The two lists of awake11, laid. -/
def awN (w : World) : World := (w.alloc (.cells #[.string ⟨#[120, 10]⟩, .string ⟨#[121, 10]⟩] 9)).alloc (.cells #[.string ⟨#[121, 10]⟩, .string ⟨#[122, 10]⟩] 9)
theorem awN_two (w : World) : ReadsOf Value.string ByteArray.empty (awN w) (some ⟨w.heap.size, 0, none⟩) 2 [sXn, sYn] ∧ ReadsOf Value.string ByteArray.empty (awN w) (some ⟨w.heap.size + 1, 0, none⟩) 2 [sYn, sZn] ∧ Below w.heap.size w (awN w) := by
  refine ⟨(aw19_lits w sXn sYn).below (below_alloc (Below.refl _ _) _), ?_, below_alloc (below_alloc (Below.refl _ _) _) _⟩
  have h := aw19_lits (w.alloc (.cells #[.string ⟨#[120, 10]⟩, .string ⟨#[121, 10]⟩] 9)) sYn sZn
  have e : (w.alloc (.cells #[.string ⟨#[120, 10]⟩, .string ⟨#[121, 10]⟩] 9)).heap.size = w.heap.size + 1 := by simp
  rw [e] at h
  exact h
theorem awN_text (w : World) : Calls Try.prog 20 #[.slice (some ⟨w.heap.size, 0, none⟩) 2 2, .slice (some ⟨w.heap.size + 1, 0, none⟩) 2 2] (awN w) fun e w' => e = .returned (.tuple #[.string ⟨#[45, 120, 10, 32, 121, 10, 43, 122, 10]⟩, .int .i64 0]) ∧ Below w.heap.size w w' := by
  have h := awN_two w
  refine (text_calls (awN w) _ 2 [sXn, sYn] _ 2 [sYn, sZn] h.1 h.2.1 (by decide) (by decide) (by decide) (by decide)).mono ?_
  rintro e w1 ⟨rfl, hb⟩
  rw [text_xyn]
  exact ⟨rfl, below_then h.2.2 h.2.2.size hb⟩
set_option maxRecDepth 20000 in
set_option maxHeartbeats 4000000 in
theorem awake11_calls (w : World) : Calls Try.prog 25 #[] w fun e w' => e = .returned (.bool true) ∧ Below w.heap.size w w' := by
  go_enter Try.func25, Try.ntmps25
  go_wp2_with fail
  refine (awN_text w).mono ?_
  rintro e w1 ⟨rfl, hb⟩
  have HB := Lib.hid hb
  clear hb
  go_wp2_with fail
  go_ret
  exact ⟨rfl, HB.out⟩
/-- What stands at the i-th place of the four. -/
def four {α : Type} (x y z : α) (i : Nat) : α := if i = 1 then y else if i = 3 then z else x
def five {α : Type} (a b c : α) (i : Nat) : α := if i = 0 ∨ i = 4 then a else if i = 2 then c else b
theorem five_next {α : Type} (a b c : α) (i : Nat) (h : i < 4) : five a b c (i + 1) = four b c a i := by
  unfold five four
  rcases i with _ | _ | _ | _ | i
  · rfl
  · rfl
  · rfl
  · rfl
  · omega
theorem five_all {α : Type} {P : α → Prop} {a b c : α} (ha : P a) (hb : P b) (hc : P c) (i : Nat) : P (five a b c i) := by
  unfold five
  split
  · exact ha
  · split
    · exact hc
    · exact hb
set_option maxRecDepth 20000 in
set_option maxHeartbeats 40000000 in
theorem patches_calls (w : World) (A : Option Addr) (ca : Nat) (a : List ByteArray) (B : Option Addr) (cb : Nat) (b : List ByteArray) (C : Option Addr) (cc : Nat) (c : List ByteArray) (hla : ReadsOf Value.string ByteArray.empty w A a.length a) (hlb : ReadsOf Value.string ByteArray.empty w B b.length b) (hlc : ReadsOf Value.string ByteArray.empty w C c.length c)
    (hca : a.length ≤ ca) (hcb : b.length ≤ cb) (hcc : c.length ≤ cc) (hsa : ∀ s ∈ a, s.size ≤ maxLen) (hsb : ∀ s ∈ b, s.size ≤ maxLen) (hsc : ∀ s ∈ c, s.size ≤ maxLen) :
    Calls Try.prog 7 #[.slice A a.length ca, .slice B b.length cb, .slice C c.length cc] w fun e w' => e = .returned (.bool true) ∧ Below w.heap.size w w' := by
  have HR := Lib.hid (And.intro hla (And.intro hlb hlc))
  have HS := Lib.hid (And.intro hsa (And.intro hsb hsc))
  have HC := Lib.hid (And.intro hca (And.intro hcb hcc))
  have hna : (a.length : Int) ≤ 9223372036854775807 := by have := hla.2.1; omega
  clear hla hlb hlc hsa hsb hsc hca hcb hcc hna
  by_cases h1 : 60 < a.length
  · have g1 : (60 : Int) < (a.length : Int) := by omega
    go_enter Try.func7, Try.ntmps7
    go_wp2_with fail
    refine (awake11_calls w).mono ?_
    rintro e w1 ⟨rfl, hb⟩
    have HB := Lib.hid hb
    clear hb
    go_wp2_with fail
    go_ret
    exact ⟨rfl, HB.out⟩
  have g1 : decide ((60 : Int) < (a.length : Int)) = false := by simp; omega
  by_cases h2 : 60 < b.length
  · have g2 : (60 : Int) < (b.length : Int) := by omega
    go_enter Try.func7, Try.ntmps7
    go_wp2_with fail
    refine (awake11_calls w).mono ?_
    rintro e w1 ⟨rfl, hb⟩
    have HB := Lib.hid hb
    clear hb
    go_wp2_with fail
    go_ret
    exact ⟨rfl, HB.out⟩
  have g2 : decide ((60 : Int) < (b.length : Int)) = false := by simp; omega
  by_cases h3 : 60 < c.length
  · have g3 : (60 : Int) < (c.length : Int) := by omega
    go_enter Try.func7, Try.ntmps7
    go_wp2_with fail
    refine (awake11_calls w).mono ?_
    rintro e w1 ⟨rfl, hb⟩
    have HB := Lib.hid hb
    clear hb
    go_wp2_with fail
    go_ret
    exact ⟨rfl, HB.out⟩
  have g3 : decide ((60 : Int) < (c.length : Int)) = false := by simp; omega
  have HN := Lib.hid (show a.length ≤ 60 ∧ b.length ≤ 60 ∧ c.length ≤ 60 by omega)
  clear h1 h2 h3
  go_enter Try.func7, Try.ntmps7
  go_wp2_with fail
  refine (awake11_calls w).mono ?_
  rintro e w1 ⟨rfl, hb⟩
  have HB := Lib.hid hb
  clear hb
  go_wp2_with fail
  refine (twinLines_calls w1 A ca a (HR.out.1.below HB.out) (by have := HN.out; omega)).mono ?_
  rintro e w2 ⟨v2, rfl, ho2, hb2⟩
  have HO2 := Lib.hid (own_weaken ho2 HB.out.size)
  have HB2 := Lib.hid (below_then HB.out HB.out.size hb2)
  clear ho2 hb2 HB
  obtain ⟨A2, c2, rfl⟩ := own_slice HO2.out
  go_wp2_with fail
  obtain ⟨W3, hW3⟩ : ∃ W3, W3 = w2.alloc (.cells #[.slice B b.length cb, .slice C c.length cc, .slice B b.length cb, .slice A a.length ca] 22) := ⟨_, rfl⟩
  have k3 : W3.heap[w2.heap.size]? = some (.cells #[.slice B b.length cb, .slice C c.length cc, .slice B b.length cb, .slice A a.length ca] 22 (0, 0)) := by rw [hW3]; exact heap_alloc_new w2 _
  have HB3 : Hid (Below w.heap.size w W3) := Lib.hid (by rw [hW3]; exact below_alloc HB2.out _)
  have HO3 : Hid (W3.ownsRow w.heap.size 9 1 (.slice A2 a.length c2) a.length (encs Value.string a)) := Lib.hid (by rw [hW3]; exact HO2.out.alloc _)
  have HK3 := Lib.hid k3
  rw [← hW3]
  clear hW3 k3 HO2 HB2
  go_loopw [36, 7] (fun v36 v7 wr => ∃ i : Nat, v36 = .int .i64 i ∧ i ≤ 4 ∧ Hid (wr.ownsRow w.heap.size 9 1 v7 (five a b c i).length (encs Value.string (five a b c i))) ∧ Hid (Below W3.heap.size W3 wr)) (fun v36 _ _ => 4 - (intOf v36).toNat)
  case atStart => exact ⟨0, rfl, by omega, HO3, Lib.hid (Below.refl _ _)⟩
  case round =>
    obtain ⟨i, rfl, hi, ho, hbel⟩ := hrel
    by_cases hlt : i < 4
    · have i0 : (0 : Int) ≤ (i : Int) := by omega
      have i1 : (i : Int) < 4 := by omega
      obtain ⟨L, hL⟩ : ∃ L, L = five a b c i := ⟨_, rfl⟩
      obtain ⟨T, hT⟩ : ∃ T, T = four b c a i := ⟨_, rfl⟩
      have hnx := five_next a b c i hlt
      rw [← hT] at hnx
      obtain ⟨TA, TC, hk, hrT, hcT⟩ : ∃ TA TC, wr.cell? ⟨w2.heap.size, i, none⟩ = some (.slice TA T.length TC) ∧ ReadsOf Value.string ByteArray.empty w TA T.length T ∧ T.length ≤ TC := by
        have hkk := (hbel.out.block _ (blk_lt HK3.out)).trans HK3.out
        have hr := HR.out
        have hc := HC.out
        rcases i with _ | _ | _ | _ | i
        · exact ⟨B, cb, by rw [hT]; exact blk_cell hkk 0, by rw [hT]; exact hr.2.1, by rw [hT]; exact hc.2.1⟩
        · exact ⟨C, cc, by rw [hT]; exact blk_cell hkk 1, by rw [hT]; exact hr.2.2, by rw [hT]; exact hc.2.2⟩
        · exact ⟨B, cb, by rw [hT]; exact blk_cell hkk 2, by rw [hT]; exact hr.2.1, by rw [hT]; exact hc.2.1⟩
        · exact ⟨A, ca, by rw [hT]; exact blk_cell hkk 3, by rw [hT]; exact hr.1, by rw [hT]; exact hc.1⟩
        · omega
      have hl60 : L.length ≤ 60 := by rw [hL]; exact five_all (P := fun (l : List ByteArray) => l.length ≤ 60) HN.out.1 HN.out.2.1 HN.out.2.2 i
      have hLs : ∀ s ∈ L, s.size ≤ maxLen := by rw [hL]; exact five_all (P := fun (l : List ByteArray) => ∀ s ∈ l, s.size ≤ maxLen) HS.out.1 HS.out.2.1 HS.out.2.2 i
      have ht60 : T.length ≤ 60 := by rw [← hnx]; exact five_all (P := fun (l : List ByteArray) => l.length ≤ 60) HN.out.1 HN.out.2.1 HN.out.2.2 _
      have hTs : ∀ s ∈ T, s.size ≤ maxLen := by rw [← hnx]; exact five_all (P := fun (l : List ByteArray) => ∀ s ∈ l, s.size ≤ maxLen) HS.out.1 HS.out.2.1 HS.out.2.2 _
      have hsw : w.heap.size ≤ W3.heap.size := HB3.out.size
      have HBW : Hid (Below w.heap.size w wr) := Lib.hid (HB3.out.trans (hbel.out.mono hsw))
      rw [← hL] at ho
      obtain ⟨A7, c7, rfl⟩ := own_slice ho.out
      have HO7 := ho
      have HRT := Lib.hid (hrT.below HBW.out)
      have HHK := Lib.hid (diffHunks_calls wr A7 c7 L TA TC T (own_reads_of' ho.out) HRT.out (by omega) (by omega) hLs hTs)
      have HX := Lib.hid (And.intro hnx (And.intro hcT (And.intro hl60 ht60)))
      clear ho hrT hL hT hnx hcT hl60 hLs ht60 hTs
      go_wp2_with fail
      refine HHK.out.mono ?_
      rintro e w4 ⟨v4, rfl, ho4, hb4⟩
      obtain ⟨A4, c4, rfl⟩ := own_slice ho4
      have HO4 := Lib.hid ho4
      have HB4 : Hid (Below wr.heap.size wr w4) := Lib.hid hb4
      have HAP := Lib.hid (apply_calls w4 A7 c7 L TA TC T wr.heap.size (.slice A4 (hks L T).length c4) (hks L T) (own_reads_of' (pw_own_below HO7.out hb4)) (HRT.out.below hb4) HX.out.2.2.1 HX.out.2.2.2 HX.out.2.1 ho4 (hks_ok L T))
      clear ho4 hb4 HHK
      go_wp2_with fail
      refine HAP.out.mono ?_
      rintro e w5 ⟨v5, rfl, ho5, hb5⟩
      rw [hks_app] at ho5
      obtain ⟨A5, c5, rfl⟩ := own_slice ho5
      have HO5 := Lib.hid ho5
      have HB5 : Hid (Below wr.heap.size wr w5) := Lib.hid (below_then HB4.out HB4.out.size hb5)
      have HSL := Lib.hid (sameLines_calls w5 A5 c5 TA TC T.length T.length T rfl rfl (own_reads_of' ho5) (HRT.out.below HB5.out))
      have hs4 : wr.heap.size ≤ w4.heap.size := HB4.out.size
      clear ho5 hb5 HAP HB4 HO4
      go_wp2_with fail
      refine HSL.out.mono ?_
      rintro e w6 ⟨rfl, k6, rfl⟩
      go_wp2_with fail
      go_roundw
      case rel =>
        refine ⟨i + 1, by go_num, by omega, Lib.hid ?_, Lib.hid (pw_below_drewN (below_then hbel.out hbel.out.size HB5.out) k6)⟩
        rw [HX.out.1]
        exact own_weaken HO5.out (Nat.le_trans HBW.out.size hs4)
      case measure => simp only [intOf]; omega
    · obtain rfl : i = 4 := by omega
      go_wp2_with fail
      go_ret
      exact ⟨rfl, HB3.out.trans (hbel.out.mono HB3.out.size)⟩
end Go.Proofs.Ytmnpcignolofaaa
