/- DiffLines: the card, of what is of bulk at most 1048576. -/
import Derived.Test.YtanfodjjfajobaaDoorTie
import Derived.Test.YtanfodjjfajobaaDoorCards
import Derived.Test.YtanfodjjfajobaaDoorHCardU
import Derived.Test.YtanfodjjfajobaaDoorHDLines
import Derived.WalkKit
import Derived.ProofKit
import Derived.OpenShut
import Derived.ShutString
import Derived.ChangeOld
import Derived.Below
import Derived.LaidMore
import Derived.SevenTiedAt
import Derived.Stop.Joined
namespace Go.Proofs.YtanfodjjfajobaaDoor.diffLines
open Go.ChangeShapes Go.WideShapes Go.ChangeAt Go.RowKit
open Go.ChangeMaps (open_string shut_string)
set_option linter.unusedVariables false
theorem own : ownKnob Tryd.prog.godebug = none := by kernel_rfl
theorem laidOut : laidOutB Tryd.prog = true := by kernel_rfl
set_option maxRecDepth 100000 in
theorem lifted (os : Os) (started : os.Started) (H : Type) (enc : TypeId × Value → H) (F : Stop.Interp) :
    ReturnsInHanded {} Tryd.checked os 4 .any (fun w args => ((Rows.OpenSpec.upto Rows.diffLinesSpec).pre enc Tryd.prog Tryd.f4 [] false w args ∧ laidMetH Tryd.prog utfLaid w) ∧ sizedMet enc Tryd.prog Tryd.f4 (Rows.OpenSpec.upto Rows.diffLinesSpec) false w args)
      (((Rows.OpenSpec.upto Rows.diffLinesSpec).at F).post enc Tryd.prog Tryd.f4 false true false false) := by
  refine handed_cond_and (C := Tryd.checked) (s := (Rows.OpenSpec.upto Rows.diffLinesSpec)) (k := Rows.uptoSmall) rfl (X := fun w => laidMetH Tryd.prog utfLaid w) (fun _ _ hh h => h.of_heap hh) own started (by kernel_rfl) Tryd.func4
    (witness_cond (enc := enc) (C := Tryd.checked) (os := os) (s := (Rows.OpenSpec.upto Rows.diffLinesSpec)) (k := Rows.uptoSmall) rfl (X := fun w => laidMetH Tryd.prog utfLaid w) false (World.laidAll Tryd.prog os utfLaid) #[.slice none 0 0] 8 (World.laidAll_os _ _ _) (World.shaped_of_ZipB (by kernel_rfl) (by kernel_rfl)) (by kernel_rfl)
      (x := ([.nil], [], [])) (by kernel_rfl) rfl (by kernel_rfl) (by kernel_rfl) (utf_met os _)) ?_
  intro W base args ds gs before hval0 hW hbk _
  have hval : ∀ (j : Nat) t v, Tryd.f4.params[j]? = some t → args[j]? = some v → Value.okWide Tryd.prog W .any base t v := hval0
  have hW' := hW
  obtain ⟨p, q, hA0, hV, rfl, hfz, hnd⟩ := hW
  have hA : DataW.TrodAll enc Tryd.prog W 0 (fun _ => true) true Tryd.f4.params.toList args.toList ds p := hA0
  rw [Tryd.params4] at hA hval
  obtain ⟨v0, vs0, d0, ds0, p0, q0, hargs, rfl, rfl, h0, r0⟩ := trodAll_cons hA
  obtain ⟨rfl, rfl, rfl⟩ := trodAll_nil r0
  obtain rfl : args = #[v0] := by cases args; simp_all
  obtain ⟨rfl, rfl⟩ := trodVars_none hV
  obtain ⟨a0, len0, cap0, rfl⟩ := okWide_slice Tryd.underlying22 (hval 0 22 v0 rfl rfl)
  have k0 := h0
  have lt0 : ∀ x ∈ p0, x.block < W.heap.size := by obtain ⟨m, hm⟩ := k0; exact DataW.trod_lt m _ _ _ hm
  have hm0 := bulks.bulk_ints hbk (j := 0) rfl Tryd.underlying22 Tryd.underlying5 (by kernel_rfl) h0
  obtain ⟨l0, rfl, hr0, hc0, hb0⟩ := bytes_in h0
  clear hA0 hval0
  refine (diffLines_upto W a0 cap0 l0 hr0 hb0 hc0 (by omega)).mono fun e W' ⟨he, bel⟩ => ?_
  subst he
  exact ⟨_, rfl, _, _, _, [], _, [], hW', trodAll_mk1 (shut_bool Tryd.underlying4 _), (trodAll_cons_mk (Below.trod laidOut (by kernel_rfl) (of_decide_eq_true (by kernel_rfl)) k0 bel lt0) trodAll_mk0), rfl, bel.frame _, fun h => by cases h⟩
theorem over : Rows.DiffLinesUptoSaid :=
  OpenClaim.holds_of_cond 4 Tryd.f4 rfl rfl rfl rfl rfl rfl rfl ⟨rfl, rfl, rfl, rfl, rfl⟩ rfl rfl rfl rfl rfl (by kernel_rfl) Tryd.func4 (by kernel_rfl)
    (of_decide_eq_true (by kernel_rfl)) (by unfold Func.isWrapper; first | (rw [if_pos (by decide +kernel)]; kernel_rfl) | (rw [if_neg (by decide +kernel)]; exact ⟨rfl, rfl⟩))
    (fun os started H enc _ F => lifted os started H enc F)
theorem uptoTie : Rows.diffLinesUptoRow.laidByTextAt .later Tryd.pinned [.data, .pinned] true :=
  OpenClaim.laidByTextAt_pinned rfl rfl tie rfl rfl rfl rfl (fun y hy _e => by
    simp only [Rows.diffLinesUptoRow, List.zip_cons_cons, List.zip_nil_right, List.mem_cons, List.mem_nil_iff, or_false] at hy
    rcases hy with rfl | rfl
    · cases _e
    · exact ⟨pin_laid_unicode_utf8_first, by kernel_rfl⟩) fits1
theorem proved : Rows.DiffLinesUptoCardSaid :=
  Claim7.holds_tied_plain_at .later [] [.data, .pinned] true (true, "e54efb4d482701bfe98680fbf1cd4fa4facc3945a334d15d8d2e04fe4874bd36") false
    over (fun _ h => by cases h) (by kernel_rfl) (fun _ h => by cases h) uptoTie rfl ⟨rfl, rfl⟩ (by kernel_rfl) rfl
    (fun f fn hf hfn => by
      obtain rfl : f = 4 := Option.some.inj ((show Tryd.prog.funcNamed "codicil/codicillaw19.DiffLines" = some 4 by kernel_rfl).symm.trans hf) |>.symm
      obtain rfl : fn = Tryd.f4 := (Option.some.inj (Tryd.func4.symm.trans hfn)).symm
      exact ⟨by kernel_rfl, fun j t ht => by
        rw [Tryd.params4] at ht
        have hm : t ∈ [22] := by simpa using Array.mem_of_getElem? ht
        have hall : ([22].all fun u => !Tryd.prog.wantsStandIn u) = true := by kernel_rfl
        exact (show Tryd.prog.wantsStandIn t = false by simpa using List.all_eq_true.1 hall t hm)⟩)
    (by kernel_rfl)
#print axioms proved
end Go.Proofs.YtanfodjjfajobaaDoor.diffLines
namespace Go.Proofs.YtanfodjjfajobaaDoor
/-- The card, under a short name, for the claim. -/
theorem diffLines_holds : Rows.DiffLinesUptoCardSaid := diffLines.proved
end Go.Proofs.YtanfodjjfajobaaDoor
