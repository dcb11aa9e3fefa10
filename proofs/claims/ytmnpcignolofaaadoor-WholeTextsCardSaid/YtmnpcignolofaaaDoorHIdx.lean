/- bytes.Index where what is looked for is one byte; lines, in plain Lean. -/
import Derived.Lib.BytesEntry
import Derived.Test.YtmnpcignolofaaaDoorHConst
import Derived.Test.YtmnpcignolofaaaDoorProg
import Derived.WalkKit
import Derived.KernelRfl
namespace Go.Proofs.YtmnpcignolofaaaDoor
set_option linter.unusedVariables false
set_option linter.unusedSimpArgs false
open Go.RowKit Go.Proofs.YtmnpcignolofaaaDoorW.PrintWords Go.Proofs.YtmnpcignolofaaaDoorW.PrintMore
/-- Lines: cur is the line under way. -/
def lnA (cur : List Int) : List Int → List (List Int)
  | [] => if cur = [] then [] else [cur]
  | b :: r => if b = 10 then (cur ++ [b]) :: lnA [] r else lnA (cur ++ [b]) r
def linesF (l : List Int) : List (List Int) := lnA [] l
theorem lnA_none : ∀ (r cur : List Int), (∀ x ∈ r, x ≠ 10) → lnA cur r = if cur ++ r = [] then [] else [cur ++ r] := by
  intro r
  induction r with
  | nil => intro cur h; simp [lnA]
  | cons b r ih =>
    intro cur h
    have hb := h b List.mem_cons_self
    simp only [lnA, if_neg hb]
    rw [ih _ fun x hx => h x (List.mem_cons_of_mem _ hx)]
    simp
theorem lnA_some : ∀ (p cur s : List Int), (∀ x ∈ p, x ≠ 10) → lnA cur (p ++ 10 :: s) = (cur ++ p ++ [10]) :: lnA [] s := by
  intro p
  induction p with
  | nil => intro cur s h; simp [lnA]
  | cons b p ih =>
    intro cur s h
    have hb := h b List.mem_cons_self
    simp only [List.cons_append, lnA, if_neg hb]
    rw [ih _ _ fun x hx => h x (List.mem_cons_of_mem _ hx)]
    simp
theorem linesF_join (l : List Int) : (linesF l).flatten = l := by
  have : ∀ (r cur : List Int), (lnA cur r).flatten = cur ++ r := by
    intro r
    induction r with
    | nil =>
      intro cur
      by_cases h : cur = []
      · simp [lnA, h]
      · simp [lnA, h]
    | cons b r ih =>
      intro cur
      by_cases hb : b = 10
      · simp [lnA, hb, ih]
      · simp [lnA, hb, ih]
  exact (this l []).trans (List.nil_append l)
/-- Where the first line feed stands; -1: nowhere. -/
def idxF (l : List Int) : Int := Lib.indexByte (Lib.bytesOf l) 10
theorem idxF_cases : ∀ (l : List Int), (∀ x ∈ l, 0 ≤ x ∧ x < 256) → (idxF l = -1 ∧ ∀ x ∈ l, x ≠ 10) ∨ ∃ (p s : List Int), l = p ++ 10 :: s ∧ idxF l = (p.length : Int) ∧ ∀ x ∈ p, x ≠ 10 := by
  intro l
  induction l with
  | nil => intro _; left; exact ⟨rfl, by simp⟩
  | cons b l ih =>
    intro h
    have hb := h b List.mem_cons_self
    have hl := ih fun x hx => h x (List.mem_cons_of_mem _ hx)
    have hu : (b.toNat.toUInt8 == (10 : UInt8)) = decide (b = 10) := by
      rw [Bool.eq_iff_iff, beq_iff_eq, decide_eq_true_eq]
      constructor
      · intro e
        have := congrArg UInt8.toNat e
        simp at this
        omega
      · rintro rfl; rfl
    have e : idxF (b :: l) = if b = 10 then 0 else if idxF l == -1 then -1 else idxF l + 1 := by
      show (if (b.toNat.toUInt8 == (10 : UInt8)) = true then _ else _) = _
      rw [hu]
      by_cases h10 : b = 10
      · simp [h10]
      · simp [h10]; rfl
    by_cases h10 : b = 10
    · right
      subst h10
      exact ⟨[], l, rfl, by rw [e]; simp, by simp⟩
    · rcases hl with ⟨h1, h2⟩ | ⟨p, s, h1, h2, h3⟩
      · left
        refine ⟨by rw [e, if_neg h10, h1]; rfl, fun x hx => ?_⟩
        rcases List.mem_cons.1 hx with rfl | hx
        · exact h10
        · exact h2 x hx
      · right
        refine ⟨b :: p, s, by rw [h1]; rfl, ?_, fun x hx => ?_⟩
        · rw [e, if_neg h10, h2, if_neg (by simp), List.length_cons]; omega
        · rcases List.mem_cons.1 hx with rfl | hx
          · exact h10
          · exact h3 x hx
theorem addr_add (b o i : Nat) : (⟨b, o, none⟩ : Addr).add i = ⟨b, o + i, none⟩ := by
  unfold Addr.add
  split <;> simp_all
theorem run_idx (P : Program) (w : World) (A : Option Addr) (c : Nat) (l : List Int) (hr : ReadsInt w .u8 A l.length l) : (Extern.BytealgIndexByte.indexByte #[.slice A l.length c, .int .u8 10]).run P w = .ok (.int .i64 (idxF l)) w := by
  by_cases h0 : l = []
  · subst h0
    cases A with
    | none => exact Lib.run_indexByteNil w 0 c 10
    | some a =>
      have hs := Lib.run_indexByteNil (P := P) w 0 c 10
      exact hs
  · have hn : 0 < l.length := by cases l; exact absurd rfl h0; simp
    obtain ⟨ad, rfl, hc⟩ := hr.2.2 hn
    have hsp : ad.spot = none := by
      have h := hc 0 hn
      simp only [World.cell?, Addr.add, if_true] at h
      cases hs : ad.spot with
      | none => rfl
      | some b =>
        rw [hs] at h
        split at h <;> simp at h
    obtain ⟨b, o, sp⟩ := ad
    simp only at hsp
    subst hsp
    exact Lib.run_indexByteSlice w b o l.length c l rfl (fun i hi => by have := hc i hi; rw [addr_add] at this; exact this) 10
set_option maxRecDepth 8000 in
theorem indexByte_calls (w : World) (A : Option Addr) (c : Nat) (l : List Int) (hr : ReadsInt w .u8 A l.length l) :
    Calls Tryd.prog 86 #[.slice A l.length c, .int .u8 10] w fun e w' => e = .returned (.int .i64 (idxF l)) ∧ w' = w := by
  have hx := run_idx Tryd.prog w A c l hr
  go_enter Tryd.func86, Tryd.ntmps86
  go_wp2_with fail
  rw [run_callFunc_extern Tryd.func100 (by kernel_rfl) (by kernel_rfl) (by kernel_rfl) (e := Extern.BytealgIndexByte.indexByte) (by kernel_rfl), hx]
  simp only [Result.andThen]
  rw [Oper.upon_value]
  go_wp2_with fail
  go_ret
  exact ⟨rfl, rfl⟩
set_option maxRecDepth 8000 in
theorem index_calls (w : World) (A : Option Addr) (c sb : Nat) (l : List Int) (hr : ReadsInt w .u8 A l.length l) (hs : w.cell? ⟨sb, 0, none⟩ = some (.int .u8 10)) :
    Calls Tryd.prog 76 #[.slice A l.length c, .slice (some ⟨sb, 0, none⟩) 1 1] w fun e w' => e = .returned (.int .i64 (idxF l)) ∧ w' = w := by
  go_enter Tryd.func76, Tryd.ntmps76
  go_wp2_with fail
  refine (indexByte_calls w A c l hr).mono ?_
  rintro e w' ⟨rfl, rfl⟩
  go_wp2_with fail
  go_ret
  exact ⟨rfl, rfl⟩
end Go.Proofs.YtmnpcignolofaaaDoor
