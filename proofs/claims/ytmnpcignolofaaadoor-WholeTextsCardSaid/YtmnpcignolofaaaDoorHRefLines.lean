/- codicilref19.Lines answers what linesF says. -/
import Derived.Test.YtmnpcignolofaaaDoorHLines
import Derived.Test.YtmnpcignolofaaaDoorHRow
namespace Go.Proofs.YtmnpcignolofaaaDoor
set_option linter.unusedVariables false
set_option linter.unusedSimpArgs false
open Go.RowKit Go.Shelf Go.Proofs.YtmnpcignolofaaaDoorW.PrintWords Go.Proofs.YtmnpcignolofaaaDoorW.PrintMore
theorem infoB8 : (Tryd.prog.info? 5).map (fun i => (i.zero, i.size, i.bytes)) = some (some (.int .u8 0), 1, 1) := by kernel_rfl
theorem lnA_at {text : List Int} {a i : Nat} (ha : a ≤ i) (hi : i < text.length) (h : text.getD i 0 ≠ 10) :
    lnA ((text.drop a).take (i - a)) (text.drop i) = lnA ((text.drop a).take (i + 1 - a)) (text.drop (i + 1)) := by
  rw [List.drop_eq_getElem_cons hi]
  rw [List.getD_eq_getElem?_getD, List.getElem?_eq_getElem hi] at h
  simp only [Option.getD_some] at h
  simp only [lnA, if_neg h]
  congr 1
  rw [show i + 1 - a = (i - a) + 1 by omega, List.take_add_one, List.getElem?_drop, show a + (i - a) = i by omega, List.getElem?_eq_getElem hi]
  rfl
theorem lnA_cut {text : List Int} {a i : Nat} (ha : a ≤ i) (hi : i < text.length) (h : text.getD i 0 = 10) :
    lnA ((text.drop a).take (i - a)) (text.drop i) = (text.drop a).take (i + 1 - a) :: lnA ((text.drop (i + 1)).take (i + 1 - (i + 1))) (text.drop (i + 1)) := by
  rw [List.drop_eq_getElem_cons hi]
  rw [List.getD_eq_getElem?_getD, List.getElem?_eq_getElem hi] at h
  simp only [Option.getD_some] at h
  simp only [lnA, if_pos h]
  congr 1
  · rw [show i + 1 - a = (i - a) + 1 by omega, List.take_add_one, List.getElem?_drop, show a + (i - a) = i by omega, List.getElem?_eq_getElem hi]
    rfl
  · simp
theorem lnA_last {text : List Int} {a : Nat} (ha : a ≤ text.length) : lnA ((text.drop a).take (text.length - a)) (text.drop text.length) = if a < text.length then [text.drop a] else [] := by
  have e : (text.drop a).take (text.length - a) = text.drop a := by rw [List.take_of_length_le]; simp
  rw [e, List.drop_length]
  simp only [lnA]
  by_cases h : a < text.length
  · rw [if_pos h, if_neg]
    intro e
    have := congrArg List.length e
    simp at this
    omega
  · rw [if_neg h, if_pos]
    exact List.drop_eq_nil_of_le (by omega)
set_option maxRecDepth 20000 in
set_option maxHeartbeats 8000000 in
theorem refLines_calls (w : World) (A : Option Addr) (c : Nat) (text : List Int) (ht : ReadsInt w .u8 A text.length text) (hc : text.length ≤ c) (hm : text.length ≤ 1099511627776) :
    Calls Tryd.prog 14 #[.slice A text.length c] w fun e w' => ∃ v, e = .returned v ∧ w'.ownsRow w.heap.size 9 1 v (linesF text).length ((linesF text).map strV) ∧ Below w.heap.size w w' := by
  have HR := Lib.hid ht
  have HC := Lib.hid hc
  clear ht hc
  obtain ⟨i0, hi0, _, hsz, _⟩ := info_parts infoB8
  go_enter Tryd.func14, Tryd.ntmps14
  go_wp2_with fail
  go_loopw [9, 4, 3] (fun v9 v4 v3 wr => ∃ (i a : Nat) (ls : List (List Int)), v9 = .int .i64 i ∧ v4 = .int .i64 a ∧ a ≤ i ∧ i ≤ text.length ∧ ls.length ≤ i ∧ Hid (ls ++ lnA ((text.drop a).take (i - a)) (text.drop i) = linesF text) ∧
    Hid (wr.ownsRow w.heap.size 9 1 v3 ls.length (ls.map strV)) ∧ Hid (Below w.heap.size w wr)) (fun v9 _ _ _ => text.length - (intOf v9).toNat)
  case atStart => exact ⟨0, 0, [], rfl, rfl, by omega, by omega, by simp, Lib.hid (by simp [linesF]), Lib.hid (own_nil _ _ _ _), Lib.hid (Below.refl _ _)⟩
  case round =>
    obtain ⟨i, a, ls, rfl, rfl, hai, hi, hls, hq, hrow, hbel⟩ := hrel
    by_cases hlt : i < text.length
    · have i1 : (i : Int) < (text.length : Int) := by omega
      obtain ⟨ad, rfl, hcell⟩ := (HR.out.below hbel.out).2.2 (by omega)
      have hc1 := hcell i hlt
      clear hcell
      obtain ⟨b, hb⟩ : ∃ b, b = text.getD i 0 := ⟨_, rfl⟩
      rw [← hb] at hc1
      by_cases hb10 : b = 10
      · have hq2 := lnA_cut hai hlt (hb.symm.trans hb10)
        subst hb10
        have HQ : Hid ((ls ++ [(text.drop a).take (i + 1 - a)]) ++ lnA ((text.drop (i + 1)).take (i + 1 - (i + 1))) (text.drop (i + 1)) = linesF text) := Lib.hid (by rw [← hq.out, hq2]; simp)
        obtain ⟨A2, hcut, hcr⟩ := cut_mid (P := Tryd.prog) 22 5 Tryd.underlying22 hi0 hsz (some ad) text.length c a (i + 1) (by omega) (by omega) HC.out
        have hcut1 := hcut a ((i : Int) + 1) rfl (by omega)
        have hcv := Kd.C_string (P := Tryd.prog) (A := A2) (c := c - a) Tryd.underlying22 Tryd.underlying5 Tryd.underlying9 (toC (hcr wr .u8 text (HR.out.below hbel.out)))
        obtain ⟨y, hy⟩ : ∃ y, y = (text.drop a).take (i + 1 - a) := ⟨_, rfl⟩
        rw [← hy] at hcv HQ
        have HRW : Hid (wr.ownsRow w.heap.size 9 1 u3 (ls.map strV).length (ls.map strV)) := Lib.hid (by rw [List.length_map]; exact hrow.out)
        clear hcut hcr hq2 hq hy hrow
        go_wp2_with (at_builtin; refine print_append (w0 := w) w.heap.size rfl (.tmp 16) (.tmp 23) 24 9 (.string .empty) 16 rfl Tryd.underlying24 infoStr rfl (by omega) _ (ls.map strV) (.string (strOfNums y)) rfl rfl rfl HRW.out hbel.out hbel.out.size (by rw [List.length_map]; omega) ?_; intro v1 w4 hown1 hbel1 hgrow hat1; have HO1 := Lib.hid hown1; have HB1 := Lib.hid hbel1; clear hown1 hbel1 hgrow hat1)
        go_roundw
        case measure => simp only [intOf]; omega
        case rel =>
          refine ⟨i + 1, i + 1, ls ++ [y], by go_num, by go_num, by omega, by omega, by simp; omega, HQ, Lib.hid ?_, HB1⟩
          have h := HO1.out
          rw [List.length_append, List.length_map, show ls.map strV ++ [Value.string (strOfNums y)] = (ls ++ [y]).map strV by simp [strV]] at h
          rw [List.length_append]
          exact h
      · have hq2 := lnA_at hai hlt (by rw [← hb]; exact hb10)
        have HQ : Hid (ls ++ lnA ((text.drop a).take (i + 1 - a)) (text.drop (i + 1)) = linesF text) := Lib.hid (by rw [← hq.out, hq2])
        clear hq2 hq hb
        go_wp2_with fail
        go_roundw
        case measure => simp only [intOf]; omega
        case rel => exact ⟨i + 1, a, ls, by go_num, rfl, by omega, by omega, by omega, HQ, hrow, hbel⟩
    · have he : i = text.length := by omega
      have i1 : ¬ (i : Int) < (text.length : Int) := by omega
      have hq2 := lnA_last (text := text) (a := a) (by omega)
      have HQ : Hid (ls ++ (if a < text.length then [text.drop a] else []) = linesF text) := Lib.hid (by rw [← hq.out, he, hq2])
      clear hq2 hq
      by_cases hal : a < text.length
      · have i2 : (a : Int) < (text.length : Int) := by omega
        rw [if_pos hal] at HQ
        obtain ⟨A2, hcut, hcr⟩ := cut_end (P := Tryd.prog) 22 5 Tryd.underlying22 hi0 hsz A text.length c a (by omega) HC.out
        have hcut1 := hcut a rfl
        have hrl := hcr wr .u8 text (HR.out.below hbel.out)
        have hcv := Kd.C_string (P := Tryd.prog) (A := A2) (c := c - a) Tryd.underlying22 Tryd.underlying5 Tryd.underlying9 (toC hrl)
        obtain ⟨y, hy⟩ : ∃ y, y = text.drop a := ⟨_, rfl⟩
        rw [← hy] at hcv HQ
        have HRW : Hid (wr.ownsRow w.heap.size 9 1 u3 (ls.map strV).length (ls.map strV)) := Lib.hid (by rw [List.length_map]; exact hrow.out)
        clear hcut hcr hrl hy hrow
        go_wp2_with (at_builtin; refine print_append (w0 := w) w.heap.size rfl (.tmp 32) (.tmp 37) 24 9 (.string .empty) 16 rfl Tryd.underlying24 infoStr rfl (by omega) _ (ls.map strV) (.string (strOfNums y)) rfl rfl rfl HRW.out hbel.out hbel.out.size (by rw [List.length_map]; omega) ?_; intro v1 w4 hown1 hbel1 hgrow hat1; have HO1 := Lib.hid hown1; have HB1 := Lib.hid hbel1; clear hown1 hbel1 hgrow hat1)
        go_ret
        refine ⟨v1, rfl, ?_, HB1.out⟩
        have h := HO1.out
        rw [show ls.map strV ++ [Value.string (strOfNums y)] = (ls ++ [y]).map strV by simp [strV], List.length_map, HQ.out] at h
        exact h
      · have i2 : ¬ (a : Int) < (text.length : Int) := by omega
        rw [if_neg hal, List.append_nil] at HQ
        go_wp2_with fail
        go_ret
        refine ⟨u3, rfl, ?_, hbel.out⟩
        have h := hrow.out
        rw [HQ.out] at h
        exact h
end Go.Proofs.YtmnpcignolofaaaDoor
