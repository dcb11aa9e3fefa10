/- codicilref19.told. -/
import Derived.Test.YtanfodjjfajobaaHSameW
import Derived.Test.YtanfodjjfajobaaHBld
namespace Go.Proofs.Ytanfodjjfajobaa
set_option linter.unusedVariables false
set_option linter.unusedSimpArgs false
open Go.RowKit Go.Proofs.YtanfodjjfajobaaW.PrintWords Go.Proofs.YtanfodjjfajobaaW.PrintMore
/-- A line told, with a sign in front. -/
def tl (g : UInt8) (s : List UInt8) : List UInt8 := g :: (s ++ if Lib.hasSuffix s [10] then [] else [10, 92, 10])
theorem bcat (x y : List UInt8) : (⟨x.toArray⟩ : ByteArray) ++ ⟨y.toArray⟩ = ⟨(x ++ y).toArray⟩ := by
  apply ByteArray.ext
  rw [ByteArray.data_append]
  simp
theorem ba_of (s : ByteArray) : s = ⟨s.data.toList.toArray⟩ := by cases s; simp
theorem suf_snoc (i : List UInt8) (x : UInt8) : Lib.hasSuffix (i ++ [x]) [10] = (10 == x) := by
  simp [Lib.hasSuffix, List.isSuffixOf, List.isPrefixOf]
theorem suf_nil : Lib.hasSuffix [] [10] = false := rfl
theorem suf_at (s : ByteArray) (h : 0 < s.size) : Lib.hasSuffix s.data.toList [10] = (10 == s[s.size - 1]'(by omega)) := by
  have hn : s.data.toList ≠ [] := fun e => by
    have := congrArg List.length e
    simp at this
    have h2 : s.size = s.data.size := rfl
    rw [h2, this] at h
    simp at h
  obtain ⟨i, x, hx⟩ : ∃ i x, s.data.toList = i ++ [x] := ⟨s.data.toList.dropLast, s.data.toList.getLast hn, (List.dropLast_concat_getLast hn).symm⟩
  have hl : s.size = i.length + 1 := by
    have := congrArg List.length hx
    simp at this
    exact this
  have hg : s[s.size - 1]'(by omega) = x := by
    have : s[s.size - 1]'(by omega) = s.data.toList[s.size - 1]'(by rw [hx]; simp; omega) := by
      simp [ByteArray.getElem_eq_getElem_data]
    rw [this]
    simp only [hx]
    rw [List.getElem_append_right (by omega)]
    simp
  rw [hg, hx, suf_snoc]
set_option maxRecDepth 8000 in
set_option maxHeartbeats 2000000 in
theorem told_calls (g : UInt8) (s : ByteArray) (hs : s.size ≤ 1099511627776) (w : World) :
    Calls Try.prog 36 #[.string ⟨#[g]⟩, .string s] w fun e w' => e = .returned (.string ⟨(tl g s.data.toList).toArray⟩) ∧ w' = w := by
  have c1 : (⟨#[g]⟩ : ByteArray) ++ s = ⟨(g :: s.data.toList).toArray⟩ := by
    conv => lhs; rw [ba_of s]
    exact bcat [g] _
  have c2 : (⟨#[g]⟩ : ByteArray) ++ s ++ ⟨#[10, 92, 10]⟩ = ⟨(g :: (s.data.toList ++ [10, 92, 10])).toArray⟩ := by
    rw [c1]
    exact bcat _ [10, 92, 10]
  have C1 := Lib.hid c1
  have C2 := Lib.hid c2
  clear c1 c2
  by_cases h0 : s.size = 0
  · have e0 : s = ⟨#[]⟩ := by cases s with | mk d => simp [ByteArray.size] at h0; simp [h0]
    subst e0
    go_enter Try.func36, Try.ntmps36
    go_wp2_with fail
    go_ret
    exact ⟨congrArg (fun x => Ending.returned (Value.string x)) C2.out, rfl⟩
  · have h1 : 0 < s.size := by omega
    have hsf := suf_at s h1
    have hne : s.toList ≠ [] := fun e => by
      rw [ByteArray.toList_eq] at e
      have := congrArg List.length e
      rw [data_length] at this
      exact h0 this
    go_enter Try.func36, Try.ntmps36
    go_wp2_with fail
    · rename_i h6 h7
      go_ret
      have hf : Lib.hasSuffix s.data.toList [10] = false := by
        rw [hsf]
        rcases h7 with h7 | h7
        · simp at h7; exact absurd h7 hne
        · simp at h7
          simp
          intro e
          rw [← e] at h7
          exact h7 rfl
      refine ⟨?_, rfl⟩
      unfold tl
      rw [hf]
      exact congrArg (fun x => Ending.returned (Value.string x)) C2.out
    · rename_i h6 h7
      go_ret
      have hf : Lib.hasSuffix s.data.toList [10] = true := by
        rw [hsf]
        have h8 := h7.2
        simp at h8
        simp
        exact UInt8.toNat_inj.1 (by rw [← Int.ofNat_inj]; exact h8.symm)
      refine ⟨?_, rfl⟩
      unfold tl
      rw [hf, if_pos rfl, List.append_nil]
      exact congrArg (fun x => Ending.returned (Value.string x)) C1.out
end Go.Proofs.Ytanfodjjfajobaa
