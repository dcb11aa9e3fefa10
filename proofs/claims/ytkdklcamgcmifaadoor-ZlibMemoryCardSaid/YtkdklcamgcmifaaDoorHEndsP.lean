/- Inflate in plain Lean: rounds don't matter, nor what stands behind. -/
import Derived.Test.YtkdklcamgcmifaaDoorHIA
namespace Go.Proofs.YtkdklcamgcmifaaDoor
set_option linter.unusedVariables false
set_option linter.unusedSimpArgs false
/-! Bytes in front and behind. -/
/-- What a stream tells. -/
def strO (p : List Int) (m : Nat) : Except Int (List Int × Nat) := runO m (8 * p.length + 1) (8 * p.length + 1) [] (numB p) (8 * p.length) 0
theorem strO_ok {p : List Int} {m q : Nat} {o : List Int} (h : strO p m = .ok (o, q)) : 1 ≤ q ∧ q ≤ 8 * p.length := by
  have hs := Stb.runO m (8 * p.length + 1) (8 * p.length + 1) [] (numB p) (8 * p.length) 0 o q (by omega) (by omega) h
  refine ⟨?_, hs.top⟩
  rcases Nat.lt_or_ge 0 q with h0 | h0
  · exact h0
  · exfalso
    have hq : q = 0 := by omega
    subst hq
    unfold strO runO bndR tk at h
    split at h
    · rename_i x r hr
      split at hr
      · simp only [Except.ok.injEq, Prod.mk.injEq] at hr
        have h1 := hr.2
        have hs2 := Stb.bnd (Stb.tk 2) (fun way => Stb.bnd (Stb.blkO m (8 * p.length + 1) way []) fun o => Stb.ite (c := x = 1) (Stb.ret o) (Stb.runO m (8 * p.length + 1) (8 * p.length) o))
        have h2 := hs2 (numB p) (8 * p.length) r o 0 (by omega) (by omega) h
        have := h2.le
        omega
      · cases hr
    · cases h
theorem strO_top {p : List Int} {m q : Nat} {o : List Int} (h : strO p m = .ok (o, q)) : o.length ≤ m := (Lm.runO _ _ [] _ _ _ _ o q h).top (by simp)
/-! What is wrong is never 0. -/
def NZ {α : Type} (a : Rdr α) : Prop := ∀ T N p e, a T N p = .error e → e ≠ 0
theorem NZ.ret {α : Type} (x : α) : NZ (retR x) := fun _ _ _ _ h => by cases h
theorem NZ.bad {α : Type} {e : Int} (he : e ≠ 0) : NZ (badR (α := α) e) := fun _ _ _ _ h => by cases h; exact he
theorem NZ.tk (n : Nat) : NZ (tk n) := by
  intro T N p e h
  unfold Proofs.YtkdklcamgcmifaaDoor.tk at h
  split at h
  · cases h
  · cases h
    decide
theorem NZ.bnd {α β : Type} {a : Rdr α} {f : α → Rdr β} (ha : NZ a) (hf : ∀ x, NZ (f x)) : NZ (bndR a f) := by
  intro T N p e h
  unfold bndR at h
  split at h
  · exact hf _ _ _ _ _ h
  · rename_i e1 h1
    cases h
    exact ha _ _ _ _ h1
theorem NZ.ite {α : Type} {c : Prop} [Decidable c] {a b : Rdr α} (ha : NZ a) (hb : NZ b) : NZ (if c then a else b) := by
  split
  · exact ha
  · exact hb
theorem putO_nz {most : Nat} {out : List Int} {b e : Int} (h : putO most out b = .error e) : e ≠ 0 := by
  unfold putO at h
  split at h
  · cases h; decide
  · cases h
theorem repO_nz {most far : Nat} {e : Int} : ∀ n out, repO most far n out = .error e → e ≠ 0 := by
  intro n
  induction n with
  | zero => intro out h; cases h
  | succ n ih =>
    intro out h
    unfold repO at h
    split at h
    · exact ih _ h
    · rename_i e1 h1
      cases h
      exact putO_nz h1
theorem NZ.onO {α : Type} {x : Except Int (List Int)} {f : List Int → Rdr α} (hx : ∀ e, x = .error e → e ≠ 0) (hf : ∀ o, NZ (f o)) : NZ (onO x f) := by
  cases x with
  | ok o => exact hf o
  | error e => exact NZ.bad (hx e rfl)
theorem NZ.symR (c : Nat → Nat) (ss : List Nat) : ∀ k n code first index, NZ (symR c ss k n code first index) := by
  intro k
  induction k with
  | zero => intro n code first index; exact NZ.bad (by decide)
  | succ k ih =>
    intro n code first index
    unfold Proofs.YtkdklcamgcmifaaDoor.symR
    exact NZ.ite (NZ.bad (by decide)) (NZ.bnd (NZ.tk 1) fun b => NZ.ite (NZ.ret _) (ih _ _ _ _))
theorem NZ.symL (l : List Nat) : NZ (symL l) := NZ.symR _ _ _ _ _ _ _
theorem NZ.lenR (s : Nat) : NZ (lenR s) := NZ.ite (NZ.bad (by decide)) (NZ.ite (NZ.ret _) (NZ.ite (NZ.ret _) (NZ.bnd (NZ.tk _) fun _ => NZ.ret _)))
theorem NZ.disR (s : Nat) : NZ (disR s) := NZ.ite (NZ.bad (by decide)) (NZ.ite (NZ.ret _) (NZ.bnd (NZ.tk _) fun _ => NZ.ret _))
theorem NZ.copR (d : List Nat) (s : Nat) : NZ (copR d s) := NZ.bnd (NZ.lenR s) fun _ => NZ.bnd (NZ.symL d) fun _ => NZ.bnd (NZ.disR _) fun _ => NZ.ret _
theorem NZ.symsO (l d : List Nat) (most : Nat) : ∀ k out, NZ (symsO l d most k out) := by
  intro k
  induction k with
  | zero => intro out; exact NZ.bad (by decide)
  | succ k ih =>
    intro out
    unfold Proofs.YtkdklcamgcmifaaDoor.symsO
    refine NZ.bnd (NZ.symL l) fun s => NZ.ite (NZ.ret _) (NZ.ite (NZ.onO (fun e h => putO_nz h) ih) (NZ.bnd (NZ.copR d s) fun nf => ?_))
    obtain ⟨n, far⟩ := nf
    exact NZ.ite (NZ.bad (by decide)) (NZ.onO (fun e h => repO_nz _ _ h) ih)
theorem NZ.bytO (most : Nat) : ∀ n out, NZ (bytO most n out) := by
  intro n
  induction n with
  | zero => intro out; exact NZ.ret _
  | succ n ih =>
    intro out
    unfold Proofs.YtkdklcamgcmifaaDoor.bytO
    exact NZ.bnd (NZ.tk 8) fun b => NZ.onO (fun e h => putO_nz h) ih
theorem NZ.fstR (c : Nat) : ∀ k l, NZ (fstR c k l) := by
  intro k
  induction k with
  | zero => intro l; exact NZ.ret _
  | succ k ih => intro l; exact NZ.bnd (NZ.tk 3) fun _ => ih _
theorem NZ.nxtR (l : List Nat) (s : Nat) : NZ (nxtR l s) :=
  NZ.ite (NZ.ite (NZ.bad (by decide)) (NZ.bnd (NZ.tk 2) fun _ => NZ.ret _)) (NZ.ite (NZ.bnd (NZ.tk 3) fun _ => NZ.ret _) (NZ.ite (NZ.bnd (NZ.tk 7) fun _ => NZ.ret _) (NZ.ret _)))
theorem NZ.lnsR (first : List Nat) (want : Nat) : ∀ k l, NZ (lnsR first want k l) := by
  intro k
  induction k with
  | zero => intro l; exact NZ.ret _
  | succ k ih =>
    intro l
    unfold Proofs.YtkdklcamgcmifaaDoor.lnsR
    refine NZ.ite (NZ.ret _) (NZ.bnd (NZ.symL first) fun s => NZ.bnd (NZ.nxtR l s) fun vt => ?_)
    obtain ⟨v, t⟩ := vt
    exact NZ.ite (NZ.bad (by decide)) (ih _)
theorem NZ.dynR : NZ dynR := NZ.bnd (NZ.tk 5) fun _ => NZ.bnd (NZ.tk 5) fun _ => NZ.bnd (NZ.tk 4) fun _ => NZ.ite (NZ.bad (by decide)) (NZ.bnd (NZ.fstR _ _ _) fun _ => NZ.ite (NZ.bad (by decide)) (NZ.bnd (NZ.lnsR _ _ _ _) fun _ => NZ.ite (NZ.ret _) (NZ.bad (by decide))))
theorem NZ.stoO (most : Nat) (out : List Int) : NZ (stoO most out) := by
  intro T N p e h
  have hs : NZ (bndR (Proofs.YtkdklcamgcmifaaDoor.tk 16) (fun n => bndR (Proofs.YtkdklcamgcmifaaDoor.tk 16) fun m => if n + m ≠ 65535 then badR 4 else Proofs.YtkdklcamgcmifaaDoor.bytO most n out)) := NZ.bnd (NZ.tk 16) fun n => NZ.bnd (NZ.tk 16) fun m => NZ.ite (NZ.bad (by decide)) (NZ.bytO most n out)
  exact hs T N ((p + 7) / 8 * 8) e h
theorem NZ.blkO (most F way : Nat) (out : List Int) : NZ (blkO most F way out) :=
  NZ.ite (NZ.stoO most out) (NZ.ite (NZ.symsO _ _ _ _ _) (NZ.ite (NZ.bnd NZ.dynR fun ld => NZ.symsO _ _ _ _ _) (NZ.bad (by decide))))
theorem NZ.runO (most F : Nat) : ∀ k out, NZ (runO most F k out) := by
  intro k
  induction k with
  | zero => intro out; exact NZ.bad (by decide)
  | succ k ih => intro out; exact NZ.bnd (NZ.tk 1) fun last => NZ.bnd (NZ.tk 2) fun way => NZ.bnd (NZ.blkO most F way out) fun o => NZ.ite (NZ.ret _) (ih _)
end Go.Proofs.YtkdklcamgcmifaaDoor

