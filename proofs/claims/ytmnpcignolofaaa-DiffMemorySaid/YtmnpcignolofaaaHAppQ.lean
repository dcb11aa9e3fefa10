/- diff.Apply, plain: hunks in form (okH) and what they make (app). -/
import Derived.Test.YtmnpcignolofaaaHPts
namespace Go.Proofs.Ytmnpcignolofaaa
set_option linter.unusedVariables false
set_option linter.unusedSimpArgs false
open Go.RowKit Go.Proofs.YtmnpcignolofaaaW.PrintWords Go.Proofs.YtmnpcignolofaaaW.PrintMore
/-- One hunk made. -/
def rep1 (b : List ByteArray) (h : Pn × Pn) (l : List ByteArray) : List ByteArray := l.take h.1.1 ++ (b.drop h.1.2).take (h.2.2 - h.1.2) ++ l.drop h.2.1
def app (a b : List ByteArray) (hs : List (Pn × Pn)) : List ByteArray := hs.foldr (rep1 b) a
/-- Hunks in form behind the point l; k: by how much the first one stands off. -/
def okH (n m : Nat) : Nat → Pn → List (Pn × Pn) → Prop
  | _, l, [] => n + l.2 = m + l.1
  | k, l, h :: r => h.1.1 ≤ h.2.1 ∧ h.1.2 ≤ h.2.2 ∧ h.2.1 ≤ n ∧ h.2.2 ≤ m ∧ h.1.1 + h.1.2 < h.2.1 + h.2.2 ∧ l.1 + k ≤ h.1.1 ∧ l.2 + k ≤ h.1.2 ∧ h.1.1 + l.2 = h.1.2 + l.1 ∧ okH n m 1 h.2 r
theorem rep1_len (b : List ByteArray) (h : Pn × Pn) (l : List ByteArray) (h1 : h.1.1 ≤ h.2.1) (h2 : h.1.2 ≤ h.2.2) (h3 : h.2.1 ≤ l.length) (h4 : h.2.2 ≤ b.length) : (rep1 b h l).length = h.1.1 + (h.2.2 - h.1.2) + (l.length - h.2.1) := by
  unfold rep1
  simp only [List.length_append, List.length_take, List.length_drop]
  omega
theorem app_len (a b : List ByteArray) : ∀ (hs : List (Pn × Pn)) (k : Nat) (l : Pn), okH a.length b.length k l hs → l.1 ≤ a.length → l.2 ≤ b.length → (app a b hs).length + l.2 = b.length + l.1
  | [], _, l, h, _, _ => h
  | h :: r, k, l, ⟨h1, h2, h3, h4, h5, h6, h7, h8, h9⟩, l1, l2 => by
    have ih := app_len a b r 1 h.2 h9 h3 h4
    show (rep1 b h (app a b r)).length + l.2 = _
    rw [rep1_len b h _ h1 h2 (by omega) h4]
    omega
end Go.Proofs.Ytmnpcignolofaaa
