/- DeltaChains: from one text to the next and on, any number of deltas lead to the last one. No condition. -/
import Derived.Test.YtiocipmnmjpkfaaRows
import Derived.Test.YtiocipmnmjpkfaaChainsW
import Derived.WalkKit
import Derived.ProofKit
import Derived.OpenShut
import Derived.ShutString
import Derived.ChangeOld
import Derived.Below
import Derived.SizedLaws
import Derived.Deep.Matrix
import Derived.Test.YtiocipmnmjpkfaaWSized
namespace Go.Proofs.Ytiocipmnmjpkfaa.deltaChains
open Go.ChangeShapes Go.WideShapes Go.ChangeAt Go.RowKit
open Go.ChangeMaps (open_string shut_string)
set_option linter.unusedVariables false
theorem own : ownKnob Try.prog.godebug = none := by kernel_rfl
theorem laidOut : laidOutB Try.prog = true := by kernel_rfl
theorem wf_u8 {n : Int} (h : (Lit.int .u8 n).wf = true) : 0 ≤ n ∧ n < 256 := by
  simp only [Lit.wf, Bool.and_eq_true, decide_eq_true_eq] at h
  have e1 : IntKind.u8.min = 0 := by decide
  have e2 : IntKind.u8.max = 255 := by decide
  omega
theorem all_mem {H : Type} {P : Program} {e : TypeId} : ∀ {l : List (DataW H)} {d : DataW H}, d ∈ l → ∀ n ∈ d.weights P e, n ∈ DataW.weightsAll P e l
  | d0 :: l, d, hd, n, hn => by
    simp only [DataW.weightsAll, List.mem_append]
    rcases List.mem_cons.1 hd with rfl | h
    · exact .inl hn
    · exact .inr (all_mem h n hn)
  | [], _, hd, _, _ => by cases hd
/-- The rows that came in. -/
theorem rows_in {W : World} {H : Type} {enc : TypeId × Value → H} {a : Option Addr} {len cap : Nat} {d : DataW H} {ds : List (DataW H)} {ts : List TypeId} {p : List MemPlace} {held : Bool} (h : ∃ fuel, DataW.trod enc Try.prog W 0 (fun _ => true) held fuel 35 (Value.slice a len cap).cells.toList = some (d, p))
    (hsz : (DataW.weightsEach Try.prog (35 :: ts) (d :: ds)).all (· ≤ reachBytes) = true) :
    ∃ A L C X, Rws W a len cap A L C X := by
  obtain ⟨fuel, hf⟩ := h
  rcases Go.Deep.open_int_rows Try.underlying35 Try.underlying22 Try.underlying5 (by kernel_rfl) (by kernel_rfl) hf with ⟨hcs, _⟩ | ⟨x, l, c, A, L, C, Z, hcs, _, hl, hm, hx, hr⟩
  · simp [Value.cells] at hcs
    obtain ⟨rfl, rfl, rfl⟩ := hcs
    exact ⟨fun _ => none, fun _ => 0, fun _ => 0, fun _ => [], ⟨Nat.le_refl _, fun h => absurd h (Nat.lt_irrefl _), fun ad h => by simp at h, fun j h => absurd h (Nat.not_lt_zero _), fun j h => absurd h (Nat.not_lt_zero _), fun j h => absurd h (Nat.not_lt_zero _), fun j h => absurd h (Nat.not_lt_zero _), fun j h => absurd h (Nat.not_lt_zero _)⟩⟩
  · simp [Value.cells] at hcs
    obtain ⟨rfl, rfl, rfl⟩ := hcs
    obtain ⟨rfl, _⟩ := Prod.mk.inj hx
    have hlen : ∀ r, r < len → ((Z r).take (L r)).length = L r := fun r hrl => by
      obtain ⟨_, h2, _, h4, _⟩ := hr r (by omega)
      rw [List.length_take]; omega
    refine ⟨A, L, C, fun r => (Z r).take (L r), ⟨hl, fun _ => ⟨x, rfl⟩, fun ad had j hj => ?_, fun j hj => ?_, fun j hj => (hlen j hj).symm, fun j hj => ?_, fun j hj => ?_, fun j hj => ?_⟩⟩
    · cases had
      exact (hr j (by omega)).1
    · obtain ⟨h1, h2, h3, h4, h5, h6, h7⟩ := hr j (by omega)
      refine ⟨hlen j hj, by simp only [maxLen] at h3; omega, fun h0 => ?_⟩
      cases hA : A j with
      | none => have := h6 hA; omega
      | some ad =>
        refine ⟨ad, rfl, fun i hi => ?_⟩
        rw [(h7 ad hA).2 i (by omega)]
        have : ((Z j).take (L j)).getD i 0 = (Z j).getD i 0 := by
          simp only [List.getD_eq_getElem?_getD]
          rw [List.getElem?_take_of_lt hi]
        rw [this]
    · exact (hr j (by omega)).2.1
    · obtain ⟨h1, h2, h3, h4, h5, h6, h7⟩ := hr j (by omega)
      cases hA : A j with
      | none => have := h6 hA; omega
      | some ad =>
        have hw := List.all_eq_true.1 hsz (C j) (DataW.weights_mem_each (j := 0) rfl rfl _ (by
          simp only [DataW.weights, Try.underlying35, List.mem_cons, List.mem_append]
          refine .inr (.inl (all_mem (d := Go.Deep.intRow .u8 (A j) (L j) (Z j)) (List.mem_map.2 ⟨j, List.mem_range.2 hj, rfl⟩) _ ?_))
          rw [hA]
          simp only [Go.Deep.intRow, DataW.weights, Try.underlying22, List.mem_cons]
          left
          rw [show Try.prog.bytesOf 5 = 1 by kernel_rfl]
          simp only [lits, List.length_map, List.length_take, List.length_drop]
          omega))
        have : C j ≤ reachBytes := by simpa using hw
        simp only [reachBytes] at this
        omega
    · intro y hy
      exact wf_u8 ((hr j (by omega)).2.2.2.2.1 y (List.mem_of_mem_take hy))
set_option maxRecDepth 100000 in
theorem lifted (os : Os) (started : os.Started) (H : Type) (enc : TypeId × Value → H) :
    ReturnsInHanded {} Try.checked os 12 .any (Rows.deltaChainsSpec.pre6 enc Try.prog Try.f12 Rows.deltaChainsRow.domain false) (Rows.deltaChainsSpec.post enc Try.prog Try.f12 false true false false) := by
  refine returnsInHanded_of_change_sized (C := Try.checked) own started (by kernel_rfl) Try.func12
    (ChangeSpec.witness6 (enc := enc) (C := Try.checked) false ⟨#[], #[.slice none 0 0], []⟩ 8 (by kernel_rfl) (by kernel_rfl) (by kernel_rfl) (by kernel_rfl)) ?_
  intro W base args ds gs before hval0 hW hcnd hsz0 _
  have hsz : (DataW.weightsEach Try.prog (Try.f12.params.toList ++ Rows.deltaChainsSpec.plain.varTypes Try.prog) (ds ++ gs)).all (· ≤ reachBytes) = true := hsz0
  have hval : ∀ (j : Nat) t v, Try.f12.params[j]? = some t → args[j]? = some v → Value.okWide Try.prog W .any base t v := hval0
  have hW' := hW
  obtain ⟨p, q, hA0, hV, rfl, hfz, hnd⟩ := hW
  have hA : DataW.TrodAll enc Try.prog W 0 (fun _ => true) true Try.f12.params.toList args.toList ds p := hA0
  rw [Try.params12] at hA hval hsz
  obtain ⟨v0, vs0, d0, ds0, p0, q0, hargs, rfl, rfl, h0, r0⟩ := trodAll_cons hA
  obtain ⟨rfl, rfl, rfl⟩ := trodAll_nil r0
  obtain rfl : args = #[v0] := by cases args; simp_all
  obtain ⟨rfl, rfl⟩ := trodVars_none hV
  obtain ⟨a0, len0, cap0, rfl⟩ := okWide_slice Try.underlying35 (hval 0 35 v0 rfl rfl)
  have k0 := h0
  have lt0 : ∀ x ∈ p0, x.block < W.heap.size := by obtain ⟨m, hm⟩ := k0; exact DataW.trod_lt m _ _ _ hm
  obtain ⟨A0, L0, C0, X0, hr0⟩ := rows_in h0 hsz
  clear hA0 hval0 hsz0 hsz
  refine (deltaChains_calls a0 len0 cap0 A0 L0 C0 X0 W hr0).mono fun e W' ⟨he, bel⟩ => ?_
  subst he
  exact ⟨_, rfl, _, _, _, [], _, [], hW', trodAll_mk1 (shut_bool Try.underlying4 _), (trodAll_cons_mk (Below.trod laidOut (by kernel_rfl) (of_decide_eq_true (by kernel_rfl)) k0 bel lt0) trodAll_mk0), rfl, bel.frame _, fun h => by cases h⟩
theorem over : Rows.deltaChainsRow.holds Try.pinned (OpenSpec.ofChange Rows.deltaChainsSpec) :=
  OpenClaim.holds_of_wide 12 Try.f12 rfl rfl rfl rfl rfl rfl rfl ⟨rfl, rfl, rfl, rfl, rfl⟩ rfl rfl rfl rfl rfl (by kernel_rfl) Try.func12 (by kernel_rfl)
    (of_decide_eq_true (by kernel_rfl)) (by unfold Func.isWrapper; first | (rw [if_pos (by decide +kernel)]; kernel_rfl) | (rw [if_neg (by decide +kernel)]; exact ⟨rfl, rfl⟩))
    (fun os started H enc _ => lifted os started H enc)
theorem proved : Rows.DeltaChainsSaid := over
#print axioms proved
end Go.Proofs.Ytiocipmnmjpkfaa.deltaChains
namespace Go.Proofs.Ytiocipmnmjpkfaa
/-- The row, under a short name, for the claim. -/
theorem deltaChains_holds : Rows.DeltaChainsSaid := deltaChains.proved
end Go.Proofs.Ytiocipmnmjpkfaa
