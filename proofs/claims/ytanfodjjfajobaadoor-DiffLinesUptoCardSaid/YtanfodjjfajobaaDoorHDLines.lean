/- codicillaw19.DiffLines: walked. -/
import Derived.Test.YtanfodjjfajobaaDoorHSameL
import Derived.Test.YtanfodjjfajobaaDoorPLx1
namespace Go.Proofs.YtanfodjjfajobaaDoor
set_option linter.unusedVariables false
set_option linter.unusedSimpArgs false
open Go.RowKit Go.Shelf Go.Proofs.YtanfodjjfajobaaDoorW.PrintWords Go.Proofs.YtanfodjjfajobaaDoorW.PrintMore Go.Proofs.YtanfodjjfajobaaDoor.PL
theorem cat_nums (xs ys : List Int) : strOfNums xs ++ strOfNums ys = strOfNums (xs ++ ys) := by
  apply ByteArray.ext
  simp [strOfNums, ByteArray.data_append]
theorem str_add (a b : ByteArray) (h : a.size + b.size ≤ 9223372036854775807) (w : World) : (binOp .add 9 (.string a) (.string b)).run Tryd.prog w = .ok (.string (a ++ b)) w := by
  simp [binOp, run_string_add_sum _ _ _ h]
theorem strV_encs (ls : List (List Int)) : ls.map strV = encs Value.string (ls.map strOfNums) := by simp [encs, strV, Function.comp_def]
theorem flat_take (ls : List (List Int)) (i : Nat) (h : i < ls.length) : (ls.take i).flatten ++ ls.getD i [] = (ls.take (i + 1)).flatten := by
  rw [List.take_add_one, List.flatten_append, List.getD_eq_getElem?_getD, List.getElem?_eq_getElem h]
  simp
theorem flat_le (ls : List (List Int)) (i : Nat) : ((ls.take i).flatten).length ≤ ls.flatten.length := by
  have h : ls.flatten = (ls.take i).flatten ++ (ls.drop i).flatten := by rw [← List.flatten_append, List.take_append_drop]
  rw [h, List.length_append]
  omega
theorem lines_read {w : World} {base : Nat} {A : Option Addr} {n c : Nat} {ls : List (List Int)} (hn : ls.length = n) (h : w.ownsRow base 9 1 (.slice A n c) n (ls.map strV)) : ReadsOf Value.string ByteArray.empty w A n (ls.map strOfNums) := by
  subst hn
  rw [strV_encs, show ls.length = (ls.map strOfNums).length by simp] at h
  have := own_reads_of' (d := ByteArray.empty) h
  rwa [List.length_map] at this
set_option maxRecDepth 20000 in
set_option maxHeartbeats 8000000 in
theorem diffLines_card (w : World) (A : Option Addr) (c : Nat) (text : List Int) (hr : ReadsInt w .u8 A text.length text) (hb : ∀ x ∈ text, 0 ≤ x ∧ x < 256) (hc : text.length ≤ c) (hm : text.length ≤ 1099511627776) :
    Calls Tryd.prog 4 #[.slice A text.length c] w fun e w' => e = .returned (.bool true) ∧ Below w.heap.size w w' := by
  have HR := Lib.hid hr
  have HY := Lib.hid hb
  have HC := Lib.hid hc
  have HAW := Lib.hid (show codicillaw19_awake.f = some true from rfl)
  clear hr hb hc
  go_enter Tryd.func4, Tryd.ntmps4
  go_wp2_with fail
  refine (codicillaw19_awake.calls true w HAW.out).mono ?_
  rintro e w0 ⟨rfl, hb0⟩
  have HB0 := Lib.hid hb0
  clear hb0
  go_wp2_with fail
  refine (lines_calls w0 A c text (HR.out.below HB0.out) HC.out HY.out hm).mono ?_
  rintro e w1 ⟨v1, rfl, hv1, hb1⟩
  obtain ⟨A1, c1, rfl⟩ := own_slice hv1
  obtain ⟨ls, hls⟩ : ∃ ls, ls = linesF text := ⟨_, rfl⟩
  have hflat : ls.flatten = text := by rw [hls]; exact linesF_join text
  rw [← hls] at hv1
  have HL := Lib.hid hls
  have HF := Lib.hid hflat
  have HV1 := Lib.hid (lines_read rfl hv1)
  have HB1 := Lib.hid (below_then HB0.out HB0.out.size hb1)
  have hn := HV1.out.2.1
  clear hv1 hb1 HB0 hls hflat
  rw [← HL.out]
  go_wp2_with fail
  go_loopw [13, 4] (fun v13 v4 wr => ∃ i : Nat, v13 = .int .i64 i ∧ v4 = .string (strOfNums (ls.take i).flatten) ∧ i ≤ ls.length ∧ Hid (∃ k, wr = w1.drewN k)) (fun v13 _ _ => ls.length - (intOf v13).toNat)
  case atStart => exact ⟨0, rfl, by rw [List.take_zero]; simp [strOfNums, ByteArray.empty, ByteArray.emptyWithCapacity], by omega, Lib.hid ⟨0, rfl⟩⟩
  case round =>
    obtain ⟨i, rfl, rfl, hi, hw⟩ := hrel
    by_cases hlt : i < ls.length
    · have i1 : (i : Int) < (ls.length : Int) := by omega
      obtain ⟨a1, rfl, hc1⟩ := HV1.out.2.2 (by omega)
      have k1 : wr.cell? (a1.add i) = some (.string (strOfNums (ls.getD i []))) := by
        obtain ⟨k, rfl⟩ := hw.out
        have h := hc1 i hlt
        have e : (ls.map strOfNums).getD i ByteArray.empty = strOfNums (ls.getD i []) := by
          simp [List.getD_eq_getElem?_getD, List.getElem?_map, List.getElem?_eq_getElem hlt]
        rw [e] at h
        exact h
      have hsum : (strOfNums (ls.take i).flatten).size + (strOfNums (ls.getD i [])).size ≤ 9223372036854775807 := by
        have h1 := flat_le ls (i + 1)
        rw [HF.out, ← flat_take ls i hlt, List.length_append] at h1
        rw [strOfNums_size, strOfNums_size]
        omega
      have hs3 : strOfNums (ls.take i).flatten ++ strOfNums (ls.getD i []) = strOfNums (ls.take (i + 1)).flatten := by rw [← flat_take ls i hlt, ← cat_nums]
      generalize strOfNums (ls.getD i []) = s2 at k1 hs3 hsum
      generalize strOfNums (ls.take i).flatten = s1 at hs3 hsum ⊢
      have hsz : ¬ 9223372036854775807 < s1.size + s2.size := by omega
      have HS3 := Lib.hid hs3
      clear hc1 hs3 hsum
      go_wp2_with fail
      go_roundw
      case measure => simp only [intOf]; omega
      case rel => exact ⟨i + 1, by go_num, by rw [HS3.out], by omega, hw⟩
    · obtain rfl : i = ls.length := by omega
      obtain ⟨k, rfl⟩ := hw.out
      rw [List.take_length, HF.out]
      have HB2 := Lib.hid (pw_below_drewN HB1.out k)
      have HV2 : Hid (ReadsOf Value.string ByteArray.empty (w1.drewN k) A1 ls.length (ls.map strOfNums)) := Lib.hid (HV1.out.below (pw_below_drewN (Below.refl _ _) k))
      clear hw HV1 HB1
      generalize w1.drewN k = w2 at *
      go_wp2_with fail
      refine (refLines_calls w2 A c text (HR.out.below HB2.out) HC.out hm).mono ?_
      rintro e w3 ⟨v3, rfl, hv3, hb3⟩
      obtain ⟨A3, c3, rfl⟩ := own_slice hv3
      have HB3 := Lib.hid (below_then HB2.out HB2.out.size hb3)
      have HV3 := Lib.hid (lines_read rfl (by rw [← HL.out] at hv3; exact hv3))
      have HV23 := Lib.hid (HV2.out.below hb3)
      rw [← HL.out]
      clear hv3 hb3 HV2 HB2
      go_wp2_with fail
      refine (sameLines_calls w3 A1 c1 A3 c3 ls.length ls.length (ls.map strOfNums) (by simp) (by simp) HV23.out HV3.out).mono ?_
      rintro e w4 ⟨rfl, n4, rfl⟩
      have HB4 := Lib.hid (pw_below_drewN HB3.out n4)
      have hcv := Kd.C_string (P := Tryd.prog) (A := A) (c := c) Tryd.underlying22 Tryd.underlying5 Tryd.underlying9 (toC (HR.out.below HB4.out))
      generalize w3.drewN n4 = w4 at *
      go_wp2_with fail
      go_ret
      exact ⟨rfl, HB4.out⟩
theorem diffLines_upto (w : World) (A : Option Addr) (c : Nat) (text : List Int) (hr : ReadsInt w .u8 A text.length text) (hb : ∀ x ∈ text, 0 ≤ x ∧ x < 256) (hc : text.length ≤ c) (hm : text.length ≤ 1048576) :
    Calls Tryd.prog 4 #[.slice A text.length c] w fun e w' => e = .returned (.bool true) ∧ Below w.heap.size w w' :=
  diffLines_card w A c text hr hb hc (by omega)
end Go.Proofs.YtanfodjjfajobaaDoor
