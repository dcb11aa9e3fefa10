/- Inflate in plain Lean: rounds don't matter, nor what stands behind. -/
import Derived.Test.YtkdklcamgcmifaaDoorHIA
namespace Go.Proofs.YtkdklcamgcmifaaDoor
set_option linter.unusedVariables false
set_option linter.unusedSimpArgs false
theorem symR_one {c : Nat → Nat} {ss : List Nat} {k n code first index T N q x q' : Nat} (h8 : N % 8 = 0) (h : symR c ss k n code first index T N q = .ok (x, q')) : q + 1 ≤ q' ∧ q' ≤ N := by
  cases k with
  | zero => cases h
  | succ k =>
    unfold symR at h
    split at h
    · cases h
    · unfold bndR at h
      split at h
      · rename_i y r hr
        unfold tk at hr
        split at hr
        · rename_i hle
          simp only [Except.ok.injEq, Prod.mk.injEq] at hr
          have hr2 := hr.2
          have hs := Stb.ite (c := code + y < first + c n) (Stb.ret (ss.getD (index + (code + y - first)) 0)) (Stb.symR c ss k (n + 1) (2 * (code + y)) (2 * (first + c n)) (index + c n))
          have h3 := hs T N r x q' h8 (by omega) h
          have := h3.le
          exact ⟨by omega, h3.top⟩
        · cases hr
      · cases h
theorem symL_one {l : List Nat} {T N q x q' : Nat} (h8 : N % 8 = 0) (h : symL l T N q = .ok (x, q')) : q + 1 ≤ q' ∧ q' ≤ N := symR_one h8 h
theorem bnd_same {α β : Type} {a : Rdr α} {f g : α → Rdr β} {T N q : Nat} (h : ∀ x q', a T N q = .ok (x, q') → f x T N q' = g x T N q') : bndR a f T N q = bndR a g T N q := by
  unfold bndR
  split
  · rename_i x r hr
    exact h x r hr
  · rfl
theorem on_same {α : Type} {x : Except Int (List Int)} {f g : List Int → Rdr α} {T N q : Nat} (h : ∀ o, f o T N q = g o T N q) : onO x f T N q = onO x g T N q := by
  cases x with
  | ok o => exact h o
  | error e => rfl
theorem symsO_fuel (l d : List Nat) (most T N : Nat) (h8 : N % 8 = 0) : ∀ k k' out q, q ≤ N → N < q + k → N < q + k' → symsO l d most k out T N q = symsO l d most k' out T N q := by
  intro k
  induction k with
  | zero => intro k' out q h1 h2 h3; omega
  | succ k ih =>
    intro k' out q h1 h2 h3
    obtain ⟨k', rfl⟩ : ∃ j, k' = j + 1 := ⟨k' - 1, by omega⟩
    unfold symsO
    refine bnd_same fun s q1 hs => ?_
    have ha := symL_one h8 hs
    by_cases h256 : s = 256
    · rw [if_pos h256, if_pos h256]
    · rw [if_neg h256, if_neg h256]
      by_cases hlt : s < 256
      · rw [if_pos hlt, if_pos hlt]
        exact on_same fun o => ih k' o q1 ha.2 (by omega) (by omega)
      · rw [if_neg hlt, if_neg hlt]
        refine bnd_same fun nf q2 hc => ?_
        have hb := Stb.copR d s T N q1 nf q2 h8 ha.2 hc
        have := hb.le
        obtain ⟨n, far⟩ := nf
        show (if out.length < far then badR 4 else onO (repO most far n out) (symsO l d most k)) T N q2 = (if out.length < far then badR 4 else onO (repO most far n out) (symsO l d most k')) T N q2
        by_cases hf : out.length < far
        · rw [if_pos hf, if_pos hf]
        · rw [if_neg hf, if_neg hf]
          exact on_same fun o => ih k' o q2 hb.top (by omega) (by omega)
theorem blkO_fuel (most F F' way : Nat) (out : List Int) (T N q : Nat) (h8 : N % 8 = 0) (hq : q ≤ N) (h1 : N < F) (h2 : N < F') : blkO most F way out T N q = blkO most F' way out T N q := by
  unfold blkO
  by_cases h0 : way = 0
  · rw [if_pos h0, if_pos h0]
  · rw [if_neg h0, if_neg h0]
    by_cases hw : way = 1
    · rw [if_pos hw, if_pos hw]
      exact symsO_fuel _ _ most T N h8 F F' out q hq (by omega) (by omega)
    · rw [if_neg hw, if_neg hw]
      by_cases hw : way = 2
      · rw [if_pos hw, if_pos hw]
        refine bnd_same fun ld q' hd => ?_
        have := Stb.dynR T N q ld q' h8 hq hd
        have hle := this.le
        obtain ⟨l, d⟩ := ld
        exact symsO_fuel _ _ most T N h8 F F' out q' this.top (by omega) (by omega)
      · rw [if_neg hw, if_neg hw]
theorem runO_fuel (most F F' T N : Nat) (h8 : N % 8 = 0) (h1 : N < F) (h2 : N < F') : ∀ k k' out q, q ≤ N → N < q + k → N < q + k' → runO most F k out T N q = runO most F' k' out T N q := by
  intro k
  induction k with
  | zero => intro k' out q h1 h2 h3; omega
  | succ k ih =>
    intro k' out q hq h3 h4
    obtain ⟨k', rfl⟩ : ∃ j, k' = j + 1 := ⟨k' - 1, by omega⟩
    unfold runO
    refine bnd_same fun last q1 ht => ?_
    have ha := Stb.tk 1 T N q last q1 h8 hq ht
    have hg : q + 1 = q1 := by
      unfold tk at ht
      split at ht
      · simp only [Except.ok.injEq, Prod.mk.injEq] at ht
        exact ht.2
      · cases ht
    refine bnd_same fun way q2 ht2 => ?_
    have hb := Stb.tk 2 T N q1 way q2 h8 ha.top ht2
    have hle := hb.le
    have e : blkO most F way out T N q2 = blkO most F' way out T N q2 := blkO_fuel most F F' way out T N q2 h8 hb.top h1 h2
    unfold bndR
    rw [e]
    split
    · rename_i o q3 ho
      have hc := Stb.blkO most F' way out T N q2 o q3 h8 hb.top ho
      have hle2 := hc.le
      show (if last = 1 then retR o else runO most F k o) T N q3 = (if last = 1 then retR o else runO most F' k' o) T N q3
      by_cases hl : last = 1
      · rw [if_pos hl, if_pos hl]
      · rw [if_neg hl, if_neg hl]
        exact ih k' o q3 hc.top (by omega) (by omega)
    · rfl

/-! Bytes in front and behind. -/
theorem numB_app : ∀ (a b : List Int), numB (a ++ b) = numB a + 2 ^ (8 * a.length) * numB b := by
  intro a
  induction a with
  | nil => intro b; simp [numB]
  | cons x a ih =>
    intro b
    simp only [List.cons_append, numB, ih, List.length_cons]
    rw [show 8 * (a.length + 1) = 8 + 8 * a.length from by omega, Nat.pow_add, Nat.mul_add, Nat.mul_assoc]
    omega
theorem numB_mod (a b c : List Int) {q : Nat} (hq : q ≤ 8 * a.length) : numB (a ++ b) % 2 ^ q = numB (a ++ c) % 2 ^ q := by
  refine mod_pow_le ?_ hq
  rw [numB_app, numB_app, Nat.add_mul_mod_self_left, Nat.add_mul_mod_self_left]
/-- What a stream tells. -/
def strO (p : List Int) (m : Nat) : Except Int (List Int × Nat) := runO m (8 * p.length + 1) (8 * p.length + 1) [] (numB p) (8 * p.length) 0
theorem strO_any {p : List Int} {m F k : Nat} (hF : 8 * p.length < F) (hk : 8 * p.length < k) : runO m F k [] (numB p) (8 * p.length) 0 = strO p m :=
  runO_fuel m _ _ _ _ (by omega) hF (by omega) _ _ [] 0 (by omega) (by omega) (by omega)
theorem strO_ok {p : List Int} {m q : Nat} {o : List Int} (h : strO p m = .ok (o, q)) : 1 ≤ q ∧ q ≤ 8 * p.length := by
  have hs := Stb.runO m (8 * p.length + 1) (8 * p.length + 1) [] (numB p) (8 * p.length) 0 o q (by omega) (by omega) h
  refine ⟨?_, hs.top⟩
  rcases Nat.lt_or_ge 0 q with h0 | h0
  · exact h0
  · exfalso
    have hq : q = 0 := by omega
    subst hq
    unfold strO runO bndR tk at h
    split at h
    · rename_i x r hr
      split at hr
      · simp only [Except.ok.injEq, Prod.mk.injEq] at hr
        have h1 := hr.2
        have hs2 := Stb.bnd (Stb.tk 2) (fun way => Stb.bnd (Stb.blkO m (8 * p.length + 1) way []) fun o => Stb.ite (c := x = 1) (Stb.ret o) (Stb.runO m (8 * p.length + 1) (8 * p.length) o))
        have h2 := hs2 (numB p) (8 * p.length) r o 0 (by omega) (by omega) h
        have := h2.le
        omega
      · cases hr
    · cases h
/-- What stands behind a stream makes no difference; nor does more room. -/
theorem strO_on {a b c : List Int} {m m' q : Nat} {o : List Int} (h : strO (a ++ b) m = .ok (o, q)) (hq : q ≤ 8 * a.length) (hm : o.length ≤ m') : strO (a ++ c) m' = .ok (o, q) := by
  have hK : 8 * (a ++ b).length < 8 * ((a ++ b).length + (a ++ c).length) + 1 := by omega
  have h1 := (strO_any (p := a ++ b) (m := m) hK hK).trans h
  have hs := (Stb.runO m _ _ [] _ _ 0 o q (by omega) (by omega) h1).on (numB (a ++ c)) (8 * (a ++ c).length) (numB_mod a c b hq) (by simp; omega)
  have hl := (Lm.runO _ _ [] m _ _ _ o q hs).same m' hm
  exact (strO_any (by omega) (by omega)).symm.trans hl
theorem strO_short {a b : List Int} {m q : Nat} {o : List Int} (h : strO (a ++ b) m = .ok (o, q)) (hq : 8 * a.length < q) : strO a m = .error 5 := by
  have hK : 8 * (a ++ b).length < 8 * ((a ++ b).length + a.length) + 1 := by omega
  have h1 := (strO_any (p := a ++ b) (m := m) hK hK).trans h
  have hs := (Stb.runO m _ _ [] _ _ 0 o q (by omega) (by omega) h1).short (numB a) (8 * a.length) (by omega) (by omega) hq (by
    have := numB_mod a [] b (q := 8 * a.length) (Nat.le_refl _)
    rwa [List.append_nil] at this)
  exact (strO_any (by simp; omega) (by simp; omega)).symm.trans hs
theorem strO_room {a b : List Int} {m m' q : Nat} {o : List Int} (h : strO (a ++ b) m = .ok (o, q)) (hq : q ≤ 8 * a.length) (hm : m' < o.length) : strO a m' = .error 10 := by
  have h1 := strO_on (c := []) h hq (Nat.le_refl _)
  rw [List.append_nil] at h1
  exact (Lm.runO _ _ [] _ _ _ _ o q h1).limit m' (by simp) hm
theorem strO_top {p : List Int} {m q : Nat} {o : List Int} (h : strO p m = .ok (o, q)) : o.length ≤ m := (Lm.runO _ _ [] _ _ _ _ o q h).top (by simp)
theorem infF_str {p : List Int} {m : Nat} (hm : m ≤ 1048576) : infF p m = match strO p m with
    | .ok (out, q) => (out, (((q + 7) / 8 : Nat) : Int), 0)
    | .error e => ([], 0, e) := by
  unfold infF
  rw [if_neg (by omega), Int.toNat_natCast]
  rfl
theorem infF_ok {p : List Int} {m q : Nat} {o : List Int} (hm : m ≤ 1048576) (h : strO p m = .ok (o, q)) : infF p m = (o, (((q + 7) / 8 : Nat) : Int), 0) := by rw [infF_str hm, h]
theorem infF_err {p : List Int} {m : Nat} {e : Int} (hm : m ≤ 1048576) (h : strO p m = .error e) : infF p m = ([], 0, e) := by rw [infF_str hm, h]
/-! What is wrong is never 0. -/
def NZ {α : Type} (a : Rdr α) : Prop := ∀ T N p e, a T N p = .error e → e ≠ 0
theorem NZ.ret {α : Type} (x : α) : NZ (retR x) := fun _ _ _ _ h => by cases h
theorem NZ.bad {α : Type} {e : Int} (he : e ≠ 0) : NZ (badR (α := α) e) := fun _ _ _ _ h => by cases h; exact he
theorem NZ.tk (n : Nat) : NZ (tk n) := by
  intro T N p e h
  unfold Proofs.YtkdklcamgcmifaaDoor.tk at h
  split at h
  · cases h
  · cases h
    decide
theorem NZ.bnd {α β : Type} {a : Rdr α} {f : α → Rdr β} (ha : NZ a) (hf : ∀ x, NZ (f x)) : NZ (bndR a f) := by
  intro T N p e h
  unfold bndR at h
  split at h
  · exact hf _ _ _ _ _ h
  · rename_i e1 h1
    cases h
    exact ha _ _ _ _ h1
theorem NZ.ite {α : Type} {c : Prop} [Decidable c] {a b : Rdr α} (ha : NZ a) (hb : NZ b) : NZ (if c then a else b) := by
  split
  · exact ha
  · exact hb
theorem putO_nz {most : Nat} {out : List Int} {b e : Int} (h : putO most out b = .error e) : e ≠ 0 := by
  unfold putO at h
  split at h
  · cases h; decide
  · cases h
theorem repO_nz {most far : Nat} {e : Int} : ∀ n out, repO most far n out = .error e → e ≠ 0 := by
  intro n
  induction n with
  | zero => intro out h; cases h
  | succ n ih =>
    intro out h
    unfold repO at h
    split at h
    · exact ih _ h
    · rename_i e1 h1
      cases h
      exact putO_nz h1
theorem NZ.onO {α : Type} {x : Except Int (List Int)} {f : List Int → Rdr α} (hx : ∀ e, x = .error e → e ≠ 0) (hf : ∀ o, NZ (f o)) : NZ (onO x f) := by
  cases x with
  | ok o => exact hf o
  | error e => exact NZ.bad (hx e rfl)
theorem NZ.symR (c : Nat → Nat) (ss : List Nat) : ∀ k n code first index, NZ (symR c ss k n code first index) := by
  intro k
  induction k with
  | zero => intro n code first index; exact NZ.bad (by decide)
  | succ k ih =>
    intro n code first index
    unfold Proofs.YtkdklcamgcmifaaDoor.symR
    exact NZ.ite (NZ.bad (by decide)) (NZ.bnd (NZ.tk 1) fun b => NZ.ite (NZ.ret _) (ih _ _ _ _))
theorem NZ.symL (l : List Nat) : NZ (symL l) := NZ.symR _ _ _ _ _ _ _
theorem NZ.lenR (s : Nat) : NZ (lenR s) := NZ.ite (NZ.bad (by decide)) (NZ.ite (NZ.ret _) (NZ.ite (NZ.ret _) (NZ.bnd (NZ.tk _) fun _ => NZ.ret _)))
theorem NZ.disR (s : Nat) : NZ (disR s) := NZ.ite (NZ.bad (by decide)) (NZ.ite (NZ.ret _) (NZ.bnd (NZ.tk _) fun _ => NZ.ret _))
theorem NZ.copR (d : List Nat) (s : Nat) : NZ (copR d s) := NZ.bnd (NZ.lenR s) fun _ => NZ.bnd (NZ.symL d) fun _ => NZ.bnd (NZ.disR _) fun _ => NZ.ret _
theorem NZ.symsO (l d : List Nat) (most : Nat) : ∀ k out, NZ (symsO l d most k out) := by
  intro k
  induction k with
  | zero => intro out; exact NZ.bad (by decide)
  | succ k ih =>
    intro out
    unfold Proofs.YtkdklcamgcmifaaDoor.symsO
    refine NZ.bnd (NZ.symL l) fun s => NZ.ite (NZ.ret _) (NZ.ite (NZ.onO (fun e h => putO_nz h) ih) (NZ.bnd (NZ.copR d s) fun nf => ?_))
    obtain ⟨n, far⟩ := nf
    exact NZ.ite (NZ.bad (by decide)) (NZ.onO (fun e h => repO_nz _ _ h) ih)
theorem NZ.bytO (most : Nat) : ∀ n out, NZ (bytO most n out) := by
  intro n
  induction n with
  | zero => intro out; exact NZ.ret _
  | succ n ih =>
    intro out
    unfold Proofs.YtkdklcamgcmifaaDoor.bytO
    exact NZ.bnd (NZ.tk 8) fun b => NZ.onO (fun e h => putO_nz h) ih
theorem NZ.fstR (c : Nat) : ∀ k l, NZ (fstR c k l) := by
  intro k
  induction k with
  | zero => intro l; exact NZ.ret _
  | succ k ih => intro l; exact NZ.bnd (NZ.tk 3) fun _ => ih _
theorem NZ.nxtR (l : List Nat) (s : Nat) : NZ (nxtR l s) :=
  NZ.ite (NZ.ite (NZ.bad (by decide)) (NZ.bnd (NZ.tk 2) fun _ => NZ.ret _)) (NZ.ite (NZ.bnd (NZ.tk 3) fun _ => NZ.ret _) (NZ.ite (NZ.bnd (NZ.tk 7) fun _ => NZ.ret _) (NZ.ret _)))
theorem NZ.lnsR (first : List Nat) (want : Nat) : ∀ k l, NZ (lnsR first want k l) := by
  intro k
  induction k with
  | zero => intro l; exact NZ.ret _
  | succ k ih =>
    intro l
    unfold Proofs.YtkdklcamgcmifaaDoor.lnsR
    refine NZ.ite (NZ.ret _) (NZ.bnd (NZ.symL first) fun s => NZ.bnd (NZ.nxtR l s) fun vt => ?_)
    obtain ⟨v, t⟩ := vt
    exact NZ.ite (NZ.bad (by decide)) (ih _)
theorem NZ.dynR : NZ dynR := NZ.bnd (NZ.tk 5) fun _ => NZ.bnd (NZ.tk 5) fun _ => NZ.bnd (NZ.tk 4) fun _ => NZ.ite (NZ.bad (by decide)) (NZ.bnd (NZ.fstR _ _ _) fun _ => NZ.ite (NZ.bad (by decide)) (NZ.bnd (NZ.lnsR _ _ _ _) fun _ => NZ.ite (NZ.ret _) (NZ.bad (by decide))))
theorem NZ.stoO (most : Nat) (out : List Int) : NZ (stoO most out) := by
  intro T N p e h
  have hs : NZ (bndR (Proofs.YtkdklcamgcmifaaDoor.tk 16) (fun n => bndR (Proofs.YtkdklcamgcmifaaDoor.tk 16) fun m => if n + m ≠ 65535 then badR 4 else Proofs.YtkdklcamgcmifaaDoor.bytO most n out)) := NZ.bnd (NZ.tk 16) fun n => NZ.bnd (NZ.tk 16) fun m => NZ.ite (NZ.bad (by decide)) (NZ.bytO most n out)
  exact hs T N ((p + 7) / 8 * 8) e h
theorem NZ.blkO (most F way : Nat) (out : List Int) : NZ (blkO most F way out) :=
  NZ.ite (NZ.stoO most out) (NZ.ite (NZ.symsO _ _ _ _ _) (NZ.ite (NZ.bnd NZ.dynR fun ld => NZ.symsO _ _ _ _ _) (NZ.bad (by decide))))
theorem NZ.runO (most F : Nat) : ∀ k out, NZ (runO most F k out) := by
  intro k
  induction k with
  | zero => intro out; exact NZ.bad (by decide)
  | succ k ih => intro out; exact NZ.bnd (NZ.tk 1) fun last => NZ.bnd (NZ.tk 2) fun way => NZ.bnd (NZ.blkO most F way out) fun o => NZ.ite (NZ.ret _) (ih _)
theorem strO_nz {p : List Int} {m : Nat} {e : Int} (h : strO p m = .error e) : e ≠ 0 := NZ.runO _ _ _ _ _ _ _ _ h
end Go.Proofs.YtkdklcamgcmifaaDoor
