/- What Text tells, plain. -/
import Derived.Test.YtmnpcignolofaaaDoorHPts
import Derived.Test.YtmnpcignolofaaaDoorHBld
namespace Go.Proofs.YtmnpcignolofaaaDoor
set_option linter.unusedVariables false
set_option linter.unusedSimpArgs false
open Go.RowKit Go.Proofs.YtmnpcignolofaaaDoorW.PrintWords Go.Proofs.YtmnpcignolofaaaDoorW.PrintMore
/-- A line told, with a sign in front. -/
def tl (g : UInt8) (s : List UInt8) : List UInt8 := g :: (s ++ if Lib.hasSuffix s [10] then [] else [10, 92, 10])
theorem bcat (x y : List UInt8) : (⟨x.toArray⟩ : ByteArray) ++ ⟨y.toArray⟩ = ⟨(x ++ y).toArray⟩ := by
  apply ByteArray.ext
  rw [ByteArray.data_append]
  simp
theorem ba_of (s : ByteArray) : s = ⟨s.data.toList.toArray⟩ := by cases s; simp
theorem suf_snoc (i : List UInt8) (x : UInt8) : Lib.hasSuffix (i ++ [x]) [10] = (10 == x) := by
  simp [Lib.hasSuffix, List.isSuffixOf, List.isPrefixOf]
theorem suf_nil : Lib.hasSuffix [] [10] = false := rfl
theorem suf_at (s : ByteArray) (h : 0 < s.size) : Lib.hasSuffix s.data.toList [10] = (10 == s[s.size - 1]'(by omega)) := by
  have hn : s.data.toList ≠ [] := fun e => by
    have := congrArg List.length e
    simp at this
    have h2 : s.size = s.data.size := rfl
    rw [h2, this] at h
    simp at h
  obtain ⟨i, x, hx⟩ : ∃ i x, s.data.toList = i ++ [x] := ⟨s.data.toList.dropLast, s.data.toList.getLast hn, (List.dropLast_concat_getLast hn).symm⟩
  have hl : s.size = i.length + 1 := by
    have := congrArg List.length hx
    simp at this
    exact this
  have hg : s[s.size - 1]'(by omega) = x := by
    have : s[s.size - 1]'(by omega) = s.data.toList[s.size - 1]'(by rw [hx]; simp; omega) := by
      simp [ByteArray.getElem_eq_getElem_data]
    rw [this]
    simp only [hx]
    rw [List.getElem_append_right (by omega)]
    simp
  rw [hg, hx, suf_snoc]
/-- What is told of one step. -/
def piece (a b : List ByteArray) (p q : Pn) : List UInt8 :=
  if q = (p.1 + 1, p.2 + 1) then tl 32 (a.getD p.1 ByteArray.empty).data.toList else if q.1 = p.1 + 1 then tl 45 (a.getD p.1 ByteArray.empty).data.toList else tl 43 (b.getD p.2 ByteArray.empty).data.toList
def textF (a b : List ByteArray) (w : List Pn) : Nat → List UInt8
  | 0 => []
  | n + 1 => textF a b w n ++ piece a b (w.getD n (0, 0)) (w.getD (n + 1) (0, 0))
def textT (a b : List ByteArray) : List UInt8 := textF a b (wayP a b) ((wayP a b).length - 1)
theorem getD_size {l : List ByteArray} {M : Nat} (h : ∀ s ∈ l, s.size ≤ M) (i : Nat) : (l.getD i ByteArray.empty).size ≤ M := by
  rw [List.getD_eq_getElem?_getD]
  by_cases hi : i < l.length
  · rw [List.getElem?_eq_getElem hi]; exact h _ (List.getElem_mem hi)
  · rw [List.getElem?_eq_none (by omega)]; exact Nat.zero_le _
theorem tl_len (g : UInt8) (s : ByteArray) : (tl g s.data.toList).length ≤ s.size + 4 := by
  unfold tl
  rw [List.length_cons, List.length_append, data_length]
  split <;> simp
theorem piece_len (a b : List ByteArray) (M : Nat) (ha : ∀ s ∈ a, s.size ≤ M) (hb : ∀ s ∈ b, s.size ≤ M) (p q : Pn) : (piece a b p q).length ≤ M + 4 := by
  unfold piece
  split
  · exact Nat.le_trans (tl_len _ _) (by have := getD_size ha p.1; omega)
  · split
    · exact Nat.le_trans (tl_len _ _) (by have := getD_size ha p.1; omega)
    · exact Nat.le_trans (tl_len _ _) (by have := getD_size hb p.2; omega)
theorem textF_len (a b : List ByteArray) (M : Nat) (ha : ∀ s ∈ a, s.size ≤ M) (hb : ∀ s ∈ b, s.size ≤ M) (w : List Pn) : ∀ n, (textF a b w n).length ≤ n * (M + 4)
  | 0 => by simp [textF]
  | n + 1 => by
    have h1 := textF_len a b M ha hb w n
    have h2 := piece_len a b M ha hb (w.getD n (0, 0)) (w.getD (n + 1) (0, 0))
    rw [textF, List.length_append, Nat.succ_mul]
    omega
end Go.Proofs.YtmnpcignolofaaaDoor
