/- DiffWays: Way, Rest, Hunks and Text answer just what the document says (what is read is of bulk at most 1048576). -/
import Derived.Test.YtanfodjjfajobaaRows
import Derived.Test.YtanfodjjfajobaaHWaysLaw
import Derived.Test.YtanfodjjfajobaaHBulk
import Derived.JoinedCond
import Derived.Deep.CondSized
import Derived.WalkKit
import Derived.ProofKit
import Derived.OpenShut
import Derived.ShutString
import Derived.SliceStrings
import Derived.ChangeOld
import Derived.Below
import Derived.SizedLaws
import Derived.Test.YtanfodjjfajobaaWSized
namespace Go.Proofs.Ytanfodjjfajobaa.diffWays
open Go.ChangeShapes Go.WideShapes Go.ChangeAt Go.RowKit
open Go.ChangeMaps (open_string shut_string)
open Go.Proofs.YtanfodjjfajobaaW.PrintWords
set_option linter.unusedVariables false
theorem own : ownKnob Try.prog.godebug = none := by kernel_rfl
theorem laidOut : laidOutB Try.prog = true := by kernel_rfl
theorem str_le {H : Type} (ss : List ByteArray) (s : ByteArray) (h : s ∈ ss) : s.size + 1 ≤ Rows.uptoBulkAll (strs (H := H) ss) := by
  have hm : (DataW.lit (.string s.data.toList) : DataW H) ∈ strs ss := List.mem_map.2 ⟨s, h, rfl⟩
  have h2 := bulks.part_le hm
  simp only [Rows.uptoBulk] at h2
  rw [data_length] at h2
  exact h2
theorem lines_upto {W : World} {H : Type} {enc : TypeId × Value → H} {a : Option Addr} {len cap : Nat} {d : DataW H} {p : List MemPlace} {ds : List (DataW H)} {i : Nat} (hk : Rows.uptoSmall H ds = true) (hd : ds[i]? = some d) (h : ∃ fuel, DataW.trod enc Try.prog W 0 (fun _ => true) true fuel 22 (Value.slice a len cap).cells.toList = some (d, p)) :
    ∃ l : List ByteArray, l.length = len ∧ ReadsOf Value.string ByteArray.empty W a len l ∧ len ≤ cap ∧ (∀ s ∈ l, s.size ≤ 1048576) ∧ l.length ≤ 1048576 := by
  have hb : Rows.uptoBulkAll ds ≤ 1048576 := of_decide_eq_true hk
  have hm2 := bulks.part_le (List.mem_of_getElem? hd)
  obtain ⟨fuel, hf⟩ := h
  rcases open_strings Try.underlying22 Try.underlying9 (by kernel_rfl) hf with ⟨hcs, _⟩ | ⟨x, l, c, ss, hcs, _, hl, hm, hz, hx, hcell, hwz⟩
  · simp [Value.cells] at hcs
    obtain ⟨rfl, rfl, rfl⟩ := hcs
    exact ⟨[], rfl, ⟨rfl, by omega, fun h => absurd h (by omega)⟩, by omega, by simp, by simp⟩
  · simp [Value.cells] at hcs
    obtain ⟨rfl, rfl, rfl⟩ := hcs
    obtain ⟨rfl, _⟩ := Prod.mk.inj hx
    have hlen : ss.length = cap := by simpa using hz
    have hmx : cap ≤ 9223372036854775807 := by simpa [maxLen] using hm
    have htk : (ss.take len).length = len := by rw [List.length_take]; omega
    refine ⟨ss.take len, htk, ⟨htk, by omega, fun _ => ⟨x, rfl, fun j hj => ?_⟩⟩, hl, fun s hs => ?_, ?_⟩
    · rw [hcell j (by omega)]
      have : (ss.take len).getD j ByteArray.empty = ss.getD j ByteArray.empty := by
        simp only [List.getD_eq_getElem?_getD]
        rw [List.getElem?_take_of_lt hj]
      rw [this]
    · have h1 := str_le (H := H) (ss.take len) s hs
      simp only [Rows.uptoBulk] at hm2
      omega
    · have h1 := bulks.slice_le (H := H) (strs (H := H) (ss.take len)) (strs (H := H) (ss.drop len))
      have h3 : (strs (H := H) (ss.take len)).length = (ss.take len).length := by simp [strs]
      omega
set_option maxRecDepth 100000 in
theorem lifted (os : Os) (started : os.Started) (H : Type) (enc : TypeId × Value → H) (F : Stop.Interp) :
    ReturnsInHanded {} Try.checked os 5 .any ((Rows.OpenSpec.upto Rows.diffWaysSpec).pre6 enc Try.prog Try.f5 Rows.diffWaysUptoRow.domain false) (((Rows.OpenSpec.upto Rows.diffWaysSpec).at F).post enc Try.prog Try.f5 false true false false) := by
  refine returnsInHanded_of_cond_sized (C := Try.checked) (s := (Rows.OpenSpec.upto Rows.diffWaysSpec)) (k := Rows.uptoSmall) rfl own started (by kernel_rfl) Try.func5
    (OpenSpec.witness (enc := enc) (C := Try.checked) (s := (Rows.OpenSpec.upto Rows.diffWaysSpec)) (k := Rows.uptoSmall) rfl false ⟨#[], #[.slice none 0 0, .slice none 0 0], []⟩ 8 (by kernel_rfl) (by kernel_rfl) (by kernel_rfl)
      (x := ([.nil, .nil], [], [])) (by kernel_rfl) rfl (by kernel_rfl)) ?_
  intro W base args ds gs before hval0 hW hcnd hbk hsz0 _
  have hval : ∀ (j : Nat) t v, Try.f5.params[j]? = some t → args[j]? = some v → Value.okWide Try.prog W .any base t v := hval0
  have hW' := hW
  obtain ⟨p, q, hA0, hV, rfl, hfz, hnd⟩ := hW
  have hA : DataW.TrodAll enc Try.prog W 0 (fun _ => true) true Try.f5.params.toList args.toList ds p := hA0
  rw [Try.params5] at hA hval
  obtain ⟨v0, vs0, d0, ds0, p0, q0, hargs, rfl, rfl, h0, r0⟩ := trodAll_cons hA
  obtain ⟨v1, vs1, d1, ds1, p1, q1, rfl, rfl, rfl, h1, r1⟩ := trodAll_cons r0
  obtain ⟨rfl, rfl, rfl⟩ := trodAll_nil r1
  obtain rfl : args = #[v0, v1] := by cases args; simp_all
  obtain ⟨rfl, rfl⟩ := trodVars_none hV
  obtain ⟨a0, len0, cap0, rfl⟩ := okWide_slice Try.underlying22 (hval 0 22 v0 rfl rfl)
  obtain ⟨a1, len1, cap1, rfl⟩ := okWide_slice Try.underlying22 (hval 1 22 v1 rfl rfl)
  have k0 := h0
  have k1 := h1
  have lt0 : ∀ x ∈ p0, x.block < W.heap.size := by obtain ⟨m, hm⟩ := k0; exact DataW.trod_lt m _ _ _ hm
  have lt1 : ∀ x ∈ p1, x.block < W.heap.size := by obtain ⟨m, hm⟩ := k1; exact DataW.trod_lt m _ _ _ hm
  obtain ⟨l0, rfl, hr0, hc0, hs0, hn0⟩ := lines_upto hbk (i := 0) rfl h0
  obtain ⟨l1, rfl, hr1, hc1, hs1, hn1⟩ := lines_upto hbk (i := 1) rfl h1
  clear hA0 hval0 hsz0
  refine (diffWays_calls W a0 cap0 l0 a1 cap1 l1 hr0 hr1 hn0 hn1 hs0 hs1).mono fun e W' ⟨he, bel⟩ => ?_
  subst he
  exact ⟨_, rfl, _, _, _, [], _, [], hW', trodAll_mk1 (shut_bool Try.underlying4 _), (trodAll_cons_mk (Below.trod laidOut (by kernel_rfl) (of_decide_eq_true (by kernel_rfl)) k0 bel lt0) (trodAll_cons_mk (Below.trod laidOut (by kernel_rfl) (of_decide_eq_true (by kernel_rfl)) k1 bel lt1) trodAll_mk0)), rfl, bel.frame _, fun h => by cases h⟩
theorem over : Rows.diffWaysUptoRow.holds Try.pinned (Rows.OpenSpec.upto Rows.diffWaysSpec) :=
  OpenClaim.holds_of_cond 5 Try.f5 rfl rfl rfl rfl rfl rfl rfl ⟨rfl, rfl, rfl, rfl, rfl⟩ rfl rfl rfl rfl rfl (by kernel_rfl) Try.func5 (by kernel_rfl)
    (of_decide_eq_true (by kernel_rfl)) (by unfold Func.isWrapper; first | (rw [if_pos (by decide +kernel)]; kernel_rfl) | (rw [if_neg (by decide +kernel)]; exact ⟨rfl, rfl⟩))
    (fun os started H enc _ F => lifted os started H enc F)
theorem proved : Rows.DiffWaysUptoSaid := over
#print axioms proved
end Go.Proofs.Ytanfodjjfajobaa.diffWays
namespace Go.Proofs.Ytanfodjjfajobaa
/-- The row, under a short name, for the claim. -/
theorem diffWays_holds : Rows.DiffWaysUptoSaid := diffWays.proved
end Go.Proofs.Ytanfodjjfajobaa
