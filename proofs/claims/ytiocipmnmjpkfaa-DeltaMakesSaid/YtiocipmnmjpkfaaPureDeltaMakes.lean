/- What Make answers makes the target of the base; it isn't longer than the bound, and short where both are alike. No condition. -/
import Derived.Test.YtiocipmnmjpkfaaPDMx2
import Derived.Test.YtiocipmnmjpkfaaHMakeP
namespace Go.Proofs.Ytiocipmnmjpkfaa.Pure
open Go.RowKit Go.Proofs.Ytiocipmnmjpkfaa Go.Proofs.YtiocipmnmjpkfaaW.PrintWords Go.Proofs.YtiocipmnmjpkfaaW.PrintLast Go.Proofs.YtiocipmnmjpkfaaW.PrintMore Go.Proofs.Ytiocipmnmjpkfaa.PDM
theorem dm_twin (l : List Int) (hl : l.length ≤ 1000000) : codicilref01_Twin.f l = some l := by
  unfold codicilref01_Twin.f
  rw [if_pos (by simp; omega)]
  rfl
theorem dm_same (l : List Int) : codicilref01_Same.f l l = some true := by simp [codicilref01_Same.f]
theorem map_u8_inj : ∀ {a b : List Int}, (∀ x ∈ a, 0 ≤ x ∧ x < 256) → (∀ x ∈ b, 0 ≤ x ∧ x < 256) → (a.map fun n : Int => UInt8.ofNat n.toNat) = (b.map fun n : Int => UInt8.ofNat n.toNat) → a = b := by
  intro a
  induction a with
  | nil => intro b _ _ h; cases b with
    | nil => rfl
    | cons y b => simp at h
  | cons x a ih =>
    intro b ha hb h
    cases b with
    | nil => simp at h
    | cons y b =>
      simp only [List.map_cons, List.cons.injEq] at h
      have hx := ha x List.mem_cons_self
      have hy := hb y List.mem_cons_self
      have e := congrArg UInt8.toNat h.1
      simp only [UInt8.toNat_ofNat'] at e
      rw [ih (fun z hz => ha z (List.mem_cons_of_mem _ hz)) (fun z hz => hb z (List.mem_cons_of_mem _ hz)) h.2]
      congr 1
      omega
theorem same_ne {a b : List Int} (ha : ∀ x ∈ a, 0 ≤ x ∧ x < 256) (hb : ∀ x ∈ b, 0 ≤ x ∧ x < 256) (h : a ≠ b) : codicilref01_Same.f a b = some false := by
  unfold codicilref01_Same.f
  rw [ByteArray.toList_eq, ByteArray.toList_eq, strOfNums_data, strOfNums_data]
  have : ¬ (a.map fun n : Int => UInt8.ofNat n.toNat) = (b.map fun n : Int => UInt8.ofNat n.toNat) := fun e => h (map_u8_inj ha hb e)
  simpa using this
theorem dm_bytes {l : List Int} (h : ∀ x ∈ l, (Lit.int .u8 x).wf = true) : ∀ x ∈ l, 0 ≤ x ∧ x < 256 := fun x hx => by
  have := h x hx
  simp [Lit.wf, IntKind.min, IntKind.max, IntKind.signed, IntKind.bits] at this
  omega
theorem dm_bound (n : Nat) (h : n ≤ 60000) : codicilref08_Bound.f (n : Int) = some ((20 + n + (n + 126) / 127 : Nat) : Int) := by
  unfold codicilref08_Bound.f
  rw [IntWalk.wrap64_in (20 + (n : Int)) (by omega), IntWalk.wrap64_in ((n : Int) + 126) (by omega), Int.tdiv_eq_ediv_of_nonneg (by omega), IntWalk.wrap64_in (((n : Int) + 126) / 127) (by omega), IntWalk.wrap64_in _ (by omega)]
  congr 1
theorem dm_j1 (k : Nat) (b t : List Int) (hb : b.length ≤ 60000) (ht : t.length ≤ 60000) (hbt : ∀ x ∈ t, 0 ≤ x ∧ x < 256) : codicillaw08_DeltaMakes.j1 (k + 1) b t (makeF b t) false = some true := by
  have hl := make_len b t
  have hmb := inBytes_iff.2 (make_bytes b t hbt)
  simp only [codicillaw08_DeltaMakes.j1]
  rw [if_neg (by simp), dm_twin b (by omega), dm_twin (makeF b t) (by omega)]
  simp only [Option.bind_some]
  unfold delta_Apply.f codicilref08_DocApply.f
  rw [if_pos ⟨hmb, by omega, by omega⟩]
  simp only [Option.bind_some, apply_make b t (by omega) (by omega), dm_same, if_true]
theorem DeltaMakes : codicillaw08_DeltaMakes.Pure := by
  intro l0 l1 _ _ hw0 _ _ hw1
  have hb0 := dm_bytes hw0
  have hb1 := dm_bytes hw1
  refine ⟨2, ?_⟩
  have yes : codicillaw08_DeltaMakes.j0 2 l0 l1 true = some true := rfl
  unfold codicillaw08_DeltaMakes.f
  rw [show codicillaw08_awake.f = some true from rfl]
  simp only [Option.bind_some, if_true]
  by_cases h0 : l0.length ≤ 60000
  · rw [if_neg (by omega)]
    by_cases h1 : l1.length ≤ 60000
    · rw [decide_eq_false (by omega)]
      have hl := make_len l0 l1
      have hj := dm_j1 0 l0 l1 h0 h1 hb1
      simp only [codicillaw08_DeltaMakes.j0]
      rw [if_neg (by simp), dm_twin l0 (by omega), dm_twin l1 (by omega)]
      simp only [Option.bind_some]
      rw [show delta_Make.f l0 l1 = some (makeF l0 l1, 0) from if_pos ⟨inBytes_iff.2 hb0, inBytes_iff.2 hb1, by omega, by omega⟩]
      simp only [Option.bind_some, if_true, dm_bound l1.length h1]
      rw [if_neg (by omega)]
      split
      · rename_i h64
        by_cases he : l0 = l1
        · subst he
          have h40 := make_alike l0 (by omega)
          rw [dm_same]
          simp only [Option.bind_some, if_true]
          rw [decide_eq_false (by omega)]
          exact hj
        · rw [show codicilref01_Same.f l0 l1 = some false from same_ne hb0 hb1 he]
          simp only [Option.bind_some]
          rw [if_neg (by simp)]
          exact hj
      · exact hj
    · rw [decide_eq_true (by omega)]
      exact yes
  · rw [if_pos (by omega)]
    exact yes
end Go.Proofs.Ytiocipmnmjpkfaa.Pure
