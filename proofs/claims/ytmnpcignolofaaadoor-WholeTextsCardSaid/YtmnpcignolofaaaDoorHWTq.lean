/- WholeTexts, plain: the lines of a text that ends. -/
import Derived.Test.YtmnpcignolofaaaDoorHSides
import Derived.Test.YtmnpcignolofaaaDoorHAw11
import Derived.Test.YtmnpcignolofaaaDoorHRefLines
namespace Go.Proofs.YtmnpcignolofaaaDoor
set_option linter.unusedVariables false
set_option linter.unusedSimpArgs false
open Go.RowKit Go.Proofs.YtmnpcignolofaaaDoorW.PrintWords Go.Proofs.YtmnpcignolofaaaDoorW.PrintMore
/-- A text that is empty or ends with a line feed. -/
def Ends (t : List Int) : Prop := t = [] ∨ ∃ p, t = p ++ [10]
theorem cut_at : ∀ (t : List Int), (∀ x ∈ t, x ≠ 10) ∨ ∃ p s, t = p ++ 10 :: s ∧ ∀ x ∈ p, x ≠ 10
  | [] => .inl (by simp)
  | x :: t => by
    by_cases hx : x = 10
    · exact .inr ⟨[], t, by rw [hx]; rfl, by simp⟩
    · rcases cut_at t with h | ⟨p, s, rfl, hp⟩
      · exact .inl (by
          intro y hy
          rcases List.mem_cons.1 hy with rfl | hy
          · exact hx
          · exact h y hy)
      · exact .inr ⟨x :: p, s, rfl, by
          intro y hy
          rcases List.mem_cons.1 hy with rfl | hy
          · exact hx
          · exact hp y hy⟩
theorem linesF_ends : ∀ (k : Nat) (t : List Int), t.length = k → Ends t → ∀ l ∈ linesF t, ∃ p : List Int, l = p ++ [10] ∧ ∀ x ∈ p, x ≠ 10 := by
  intro k
  induction k using Nat.strongRecOn with
  | _ k ih =>
    intro t hk he l hl
    rcases cut_at t with h | ⟨p, s, rfl, hp⟩
    · rcases he with rfl | ⟨p, rfl⟩
      · cases hl
      · exact absurd rfl (h 10 (by simp))
    · unfold linesF at hl
      rw [lnA_some p [] s hp] at hl
      rcases List.mem_cons.1 hl with rfl | hl
      · exact ⟨p, rfl, hp⟩
      · refine ih s.length (by rw [← hk, List.length_append, List.length_cons]; omega) s rfl ?_ l hl
        rcases he with h0 | ⟨q, hq⟩
        · simp at h0
        · rcases List.eq_nil_or_concat s with rfl | ⟨s', x, rfl⟩
          · exact .inl rfl
          · right
            have h2 : (p ++ 10 :: s') ++ [x] = q ++ [10] := by
              rw [← hq]
              simp
            have h3 := List.append_inj_right' h2 rfl
            have h4 : x = 10 := by simpa using h3
            exact ⟨s', by rw [h4]; simp⟩
def LB (t : List Int) : List ByteArray := (linesF t).map strOfNums
theorem LB_len (t : List Int) : (LB t).length = (linesF t).length := by unfold LB; rw [List.length_map]
theorem LB_enc (t : List Int) : (linesF t).map strV = encs Value.string (LB t) := by
  unfold LB encs
  rw [List.map_map]
  rfl
theorem u8_ne {x : Int} (h0 : 0 ≤ x ∧ x < 256) (h : x ≠ 10) : UInt8.ofNat x.toNat ≠ 10 := fun e => h (by
  have h2 := congrArg UInt8.toNat e
  rw [UInt8.toNat_ofNat'] at h2
  have h3 : (10 : UInt8).toNat = 10 := rfl
  rw [h3] at h2
  omega)
theorem mem_flatten_len {L : List (List Int)} {l : List Int} (h : l ∈ L) : l.length ≤ L.flatten.length := by
  induction L with
  | nil => cases h
  | cons m L ih =>
    rw [List.flatten_cons, List.length_append]
    rcases List.mem_cons.1 h with rfl | h
    · omega
    · have := ih h
      omega
theorem mem_of_line {t l : List Int} (h : l ∈ linesF t) {x : Int} (hx : x ∈ l) : x ∈ t := by
  rw [← linesF_join t]
  exact List.mem_flatten.2 ⟨l, h, hx⟩
theorem LB_ln {t : List Int} (hb : ∀ x ∈ t, 0 ≤ x ∧ x < 256) (he : Ends t) : ∀ s ∈ LB t, Ln s := by
  intro s hs
  obtain ⟨l, hl, rfl⟩ := List.mem_map.1 hs
  obtain ⟨p, rfl, hp⟩ := linesF_ends _ t rfl he l hl
  refine ⟨p.map fun n => UInt8.ofNat n.toNat, ?_, ?_⟩
  · rw [strOfNums_data, List.map_append]
    rfl
  · intro x hx
    obtain ⟨y, hy, rfl⟩ := List.mem_map.1 hx
    exact u8_ne (hb y (mem_of_line hl (List.mem_append_left _ hy))) (hp y hy)
theorem LB_size {t : List Int} {M : Nat} (h : t.length ≤ M) : ∀ s ∈ LB t, s.size ≤ M := by
  intro s hs
  obtain ⟨l, hl, rfl⟩ := List.mem_map.1 hs
  rw [strOfNums_size]
  have := mem_flatten_len hl
  rw [linesF_join] at this
  omega
theorem cat_LB (t : List Int) : (⟨(cat (LB t)).toArray⟩ : ByteArray) = strOfNums t := by
  unfold strOfNums
  congr 2
  have h : ∀ L : List (List Int), cat (L.map strOfNums) = L.flatten.map fun n => UInt8.ofNat n.toNat := by
    intro L
    induction L with
    | nil => rfl
    | cons l L ih =>
      rw [List.flatten_cons, List.map_append, ← ih]
      rfl
  unfold LB
  rw [h, linesF_join]
/-- What WholeTexts finds, of two texts that end. -/
theorem whole_told (ta tb : List Int) (hba : ∀ x ∈ ta, 0 ≤ x ∧ x < 256) (hbb : ∀ x ∈ tb, 0 ≤ x ∧ x < 256) (ha : Ends ta) (hb : Ends tb) :
    ∃ ls : List Tld, linesF (bi (textT (LB ta) (LB tb))) = ls.map (fun h => bi (tlB h)) ∧ (∀ h ∈ ls, (h.1 = 32 ∨ h.1 = 45 ∨ h.1 = 43) ∧ 0 < h.2.size) ∧ strA ls = strOfNums ta ∧ strB ls = strOfNums tb ∧ chg ls = dist (txs (LB ta)) (txs (LB tb)) := by
  obtain ⟨ls, _, h2, h3, h4, h5, h6⟩ := told_lines (LB ta) (LB tb) (LB_ln hba ha) (LB_ln hbb hb)
  refine ⟨ls, h2, fun h hm => ⟨(h3 h hm).1, ?_⟩, by unfold strA; rw [h4, cat_LB], by unfold strB; rw [h5, cat_LB], h6⟩
  obtain ⟨p, hp, _⟩ := (h3 h hm).2
  show 0 < h.2.data.toList.length
  rw [hp, List.length_append]
  exact Nat.succ_pos _
theorem textT_size (ta tb : List Int) (h1 : ta.length ≤ 1500) (h2 : tb.length ≤ 1500) (h3 : (LB ta).length ≤ 300) (h4 : (LB tb).length ≤ 300) : (textT (LB ta) (LB tb)).length ≤ 2000000 := by
  unfold textT
  have h := textF_len (LB ta) (LB tb) 1500 (LB_size h1) (LB_size h2) (wayP (LB ta) (LB tb)) ((wayP (LB ta) (LB tb)).length - 1)
  have hl := (wayP_len (LB ta) (LB tb)).2
  have h5 : (wayP (LB ta) (LB tb)).length - 1 ≤ 600 := by omega
  have h6 := Nat.mul_le_mul_right (1500 + 4) h5
  omega
end Go.Proofs.YtmnpcignolofaaaDoor
