/- Inflate over what Deflate writes, in plain Lean. -/
import Derived.Test.YtkdklcamgcmifaaDoorHStoP
import Derived.Test.YtkdklcamgcmifaaDoorPBx2
namespace Go.Proofs.YtkdklcamgcmifaaDoor
set_option linter.unusedVariables false
set_option linter.unusedSimpArgs false
open Go.Proofs.YtkdklcamgcmifaaDoor.PB
/-! A reader set back. -/
def shR {α : Type} (d : Nat) : Except Int (α × Nat) → Except Int (α × Nat)
  | .ok (x, q) => .ok (x, d + q)
  | .error e => .error e
def Shf {α : Type} (a : Rdr α) : Prop := ∀ T N d p, d ≤ N → a T N (d + p) = shR d (a (T / 2 ^ d) (N - d) p)
theorem Shf.ret {α : Type} (x : α) : Shf (retR x) := fun _ _ _ _ _ => rfl
theorem Shf.bad {α : Type} (e : Int) : Shf (badR (α := α) e) := fun _ _ _ _ _ => rfl
theorem Shf.tk (n : Nat) : Shf (tk n) := by
  intro T N d p hd
  unfold Proofs.YtkdklcamgcmifaaDoor.tk
  by_cases h : p + n ≤ N - d
  · rw [if_pos h, if_pos (by omega), Nat.pow_add, ← Nat.div_div_eq_div_mul]
    show _ = Except.ok (_, d + (p + n))
    rw [Nat.add_assoc]
  · rw [if_neg h, if_neg (by omega)]
    rfl
theorem Shf.bnd {α β : Type} {a : Rdr α} {f : α → Rdr β} (ha : Shf a) (hf : ∀ x, Shf (f x)) : Shf (bndR a f) := by
  intro T N d p hd
  unfold bndR
  rw [ha T N d p hd]
  cases h : a (T / 2 ^ d) (N - d) p with
  | ok xq =>
    obtain ⟨x, q⟩ := xq
    exact hf x T N d q hd
  | error e => rfl
theorem Shf.ite {α : Type} {c : Prop} [Decidable c] {a b : Rdr α} (ha : Shf a) (hb : Shf b) : Shf (if c then a else b) := by
  split
  · exact ha
  · exact hb
theorem Shf.symR (c : Nat → Nat) (ss : List Nat) : ∀ k n code first index, Shf (symR c ss k n code first index) := by
  intro k
  induction k with
  | zero => intro n code first index; exact Shf.bad 4
  | succ k ih =>
    intro n code first index
    unfold Proofs.YtkdklcamgcmifaaDoor.symR
    exact Shf.ite (Shf.bad 4) (Shf.bnd (Shf.tk 1) fun b => Shf.ite (Shf.ret _) (ih _ _ _ _))
theorem Shf.symL (l : List Nat) : Shf (symL l) := Shf.symR _ _ _ _ _ _ _
theorem Shf.lenR (s : Nat) : Shf (lenR s) := Shf.ite (Shf.bad 4) (Shf.ite (Shf.ret _) (Shf.ite (Shf.ret _) (Shf.bnd (Shf.tk _) fun _ => Shf.ret _)))
theorem Shf.disR (s : Nat) : Shf (disR s) := Shf.ite (Shf.bad 4) (Shf.ite (Shf.ret _) (Shf.bnd (Shf.tk _) fun _ => Shf.ret _))
/-- What is read of some bits is read of them wherever they stand. -/
theorem rd_at {α : Type} {a : Rdr α} (hs : Stb a) (hf : Shf a) {S K n T N q : Nat} {x : α} (hK : K % 8 = 0) (h : a S K 0 = .ok (x, n)) (hv : T / 2 ^ q % 2 ^ n = S % 2 ^ n) (hq : q + n ≤ N) : a T N q = .ok (x, q + n) := by
  have h1 := (hs S K 0 x n hK (Nat.zero_le _) h).on (T / 2 ^ q) (N - q) hv (by omega)
  have h2 := hf T N q 0 (by omega)
  rw [Nat.add_zero] at h2
  rw [h2, h1]
  rfl
def isOk (r : Except Int (Nat × Nat)) (x q : Nat) : Bool := match r with
  | .ok (a, b) => a == x && b == q
  | .error _ => false
theorem isOk_eq {r : Except Int (Nat × Nat)} {x q : Nat} (h : isOk r x q = true) : r = .ok (x, q) := by
  cases r with
  | ok ab =>
    obtain ⟨a, b⟩ := ab
    simp only [isOk, Bool.and_eq_true, beq_iff_eq] at h
    rw [h.1, h.2]
  | error e => cases h
theorem fix_symB : ∀ s, s < 288 → isOk (symL fixL (symV s) 16 0) s (symN s) = true := by decide +kernel
theorem fix_disB : ∀ s, s < 30 → isOk (symL fixD (rev 5 s) 8 0) s 5 = true := by decide +kernel
theorem fix_lenB : ∀ n, n < 259 → 3 ≤ n → isOk (lenR (lenS n) (lenX n) 8 0) n (lenE n) = true := by decide +kernel
theorem fix_sym (s : Nat) (h : s < 288) : symL fixL (symV s) 16 0 = .ok (s, symN s) := isOk_eq (fix_symB s h)
theorem fix_dis (s : Nat) (h : s < 30) : symL fixD (rev 5 s) 8 0 = .ok (s, 5) := isOk_eq (fix_disB s h)
theorem fix_len (n : Nat) (h : n < 259) (h3 : 3 ≤ n) : lenR (lenS n) (lenX n) 8 0 = .ok (n, lenE n) := isOk_eq (fix_lenB n h h3)
theorem symN_end : symN 256 = 7 := by decide +kernel
theorem end_at {T N q : Nat} (hv : T / 2 ^ q % 2 ^ 7 = symV 256) (hq : q + 7 ≤ N) : symL fixL T N q = .ok (256, q + 7) := by
  have h1 := rd_at (Stb.symL fixL) (Shf.symL fixL) (by decide) (fix_sym 256 (by decide)) (T := T) (N := N) (q := q) (by rw [symN_end, hv, Nat.mod_eq_of_lt (by decide +kernel)]) (by rw [symN_end]; exact hq)
  rwa [symN_end] at h1
theorem fix_lenS : ∀ n, n < 259 → 3 ≤ n → 257 ≤ lenS n ∧ lenS n ≤ 285 := by decide +kernel
theorem symV_lt : ∀ s, s < 288 → symV s < 2 ^ symN s := by decide +kernel
theorem lenX_lt : ∀ n, n < 259 → 3 ≤ n → lenX n < 2 ^ lenE n := by decide +kernel
theorem rev5_lt : ∀ s, s < 30 → rev 5 s < 2 ^ 5 := by decide +kernel
theorem dis_ok (d : Nat) (h0 : 1 ≤ d) (h1 : d ≤ 32768) : disR (disS d) (disX d) 16 0 = .ok (d, disE d) ∧ disS d < 30 ∧ disX d < 2 ^ disE d := by
  unfold disR disS disX disE
  by_cases h4 : d - 1 < 4
  · rw [if_pos h4, if_pos h4, if_pos h4, if_neg (by omega), if_pos (by omega)]
    refine ⟨?_, by omega, by decide⟩
    simp only [retR, Except.ok.injEq, Prod.mk.injEq, and_true]
    omega
  · rw [if_neg h4, if_neg h4, if_neg h4]
    obtain ⟨e1, e2, e3⟩ := exN_eq (d - 1) 2 2 (by omega) (by omega)
    generalize exN (d - 1) 2 = x at *
    have hx : x ≤ 13 := by
      have h15 : x + 2 - 1 < 15 := (Nat.pow_lt_pow_iff_right (by decide : 1 < 2)).1 (by omega)
      omega
    have hp : 0 < 2 ^ x := Nat.pow_pos (by decide)
    have ep : 2 ^ (x + 2 - 1) = 2 * 2 ^ x := by rw [show x + 2 - 1 = x + 1 by omega, Nat.pow_succ]; omega
    have ep2 : 2 ^ (x + 2) = 4 * 2 ^ x := by rw [Nat.pow_add]; omega
    rw [ep] at e2
    rw [ep2] at e3
    have hq1 : 2 ≤ (d - 1) / 2 ^ x := (Nat.le_div_iff_mul_le hp).2 (by omega)
    have hq2 : (d - 1) / 2 ^ x < 4 := (Nat.div_lt_iff_lt_mul hp).2 (by omega)
    have hx1 : 1 ≤ x := by
      rcases Nat.eq_zero_or_pos x with h | h
      · subst h
        rw [Nat.pow_zero] at e3
        omega
      · exact h
    have hdm := Nat.div_add_mod (d - 1) (2 ^ x)
    have hml := Nat.mod_lt (d - 1) hp
    have hb : (2 * x + 2 + (d - 1) / 2 ^ x % 2) / 2 - 1 = x := by omega
    have hb2 : (2 * x + 2 + (d - 1) / 2 ^ x % 2) % 2 = (d - 1) / 2 ^ x % 2 := by omega
    refine ⟨?_, by omega, hml⟩
    rw [if_neg (by omega), if_neg (by omega), hb, hb2]
    unfold bndR tk
    rw [if_pos (by omega)]
    simp only [retR, Nat.pow_zero, Nat.div_one, Nat.mod_mod, Nat.zero_add, Except.ok.injEq, Prod.mk.injEq, and_true]
    rw [show 2 + (d - 1) / 2 ^ x % 2 = (d - 1) / 2 ^ x by omega, Nat.mul_comm]
    omega
/-! Matches. -/
theorem docM_same (l : List Int) (i : Nat) : ∀ j a, j ≤ i → (a.1 = 0 ∨ (a.2 ≤ i ∧ ∀ m, m < a.1 → l.getD (i + m) 0 = l.getD (i - a.2 + m) 0)) → ((docM l i j a).1 = 0 ∨ ((docM l i j a).2 ≤ i ∧ ∀ m, m < (docM l i j a).1 → l.getD (i + m) 0 = l.getD (i - (docM l i j a).2 + m) 0)) := by
  intro j
  induction j with
  | zero => intro a _ h; exact h
  | succ j ih =>
    intro a hj h
    rw [docM]
    refine ih _ (by omega) ?_
    split
    · exact .inr ⟨by show i - j ≤ i; omega, fun m hm => by
        show _ = l.getD (i - (i - j) + m) 0
        rw [show i - (i - j) = j by omega]
        exact ((sameN_is l i j).eq m hm).2⟩
    · exact h
theorem mat_same (l : List Int) (i : Nat) (h : (mat l i).1 ≠ 0) : (mat l i).2 ≤ i ∧ ∀ m, m < (mat l i).1 → l.getD (i + m) 0 = l.getD (i - (mat l i).2 + m) 0 :=
  (docM_same l i i (0, 0) (Nat.le_refl _) (.inl rfl)).resolve_left h
theorem getD_take {l : List Int} {i j : Nat} (h : j < i) : (l.take i).getD j 0 = l.getD j 0 := by
  simp only [List.getD_eq_getElem?_getD]
  rw [List.getElem?_take_of_lt h]
theorem take_one {l : List Int} {i : Nat} (h : i < l.length) : l.take i ++ [l.getD i 0] = l.take (i + 1) := by
  rw [List.take_succ_eq_append_getElem h, List.getD_eq_getElem?_getD, List.getElem?_eq_getElem h]
  rfl
theorem rep_take (l : List Int) (most far : Nat) (hm : l.length ≤ most) (h1 : 1 ≤ far) : ∀ n i, i + n ≤ l.length → far ≤ i → (∀ m, m < n → l.getD (i + m) 0 = l.getD (i - far + m) 0) → repO most far n (l.take i) = .ok (l.take (i + n)) := by
  intro n
  induction n with
  | zero => intro i _ _ _; rfl
  | succ n ih =>
    intro i hi hf he
    have hl : (l.take i).length = i := by rw [List.length_take]; omega
    unfold repO putO
    rw [hl, if_neg (by omega), getD_take (by omega)]
    have h0 := he 0 (by omega)
    rw [Nat.add_zero, Nat.add_zero] at h0
    rw [← h0, take_one (by omega)]
    simp only []
    have h2 := ih (i + 1) (by omega) (by omega) fun m hm => by
      have := he (m + 1) (by omega)
      rw [show i + 1 + m = i + (m + 1) by omega, show i + 1 - far + m = i - far + (m + 1) by omega]
      exact this
    rw [h2, show i + 1 + n = i + (n + 1) by omega]
/-! What is written from a place on. -/
def fixU (l : List Int) (i : Nat) : Nat × Nat :=
  if h : i < l.length then
    if hn : (mat l i).1 = 0 then (symV (l.getD i 0).toNat + 2 ^ symN (l.getD i 0).toNat * (fixU l (i + 1)).1, symN (l.getD i 0).toNat + (fixU l (i + 1)).2)
    else (symV (lenS (mat l i).1) + 2 ^ symN (lenS (mat l i).1) * (lenX (mat l i).1 + 2 ^ lenE (mat l i).1 * (rev 5 (disS (mat l i).2) + 2 ^ 5 * (disX (mat l i).2 + 2 ^ disE (mat l i).2 * (fixU l (i + (mat l i).1)).1))),
      symN (lenS (mat l i).1) + (lenE (mat l i).1 + (5 + (disE (mat l i).2 + (fixU l (i + (mat l i).1)).2))))
  else (symV 256, 7)
termination_by l.length - i
decreasing_by all_goals omega
theorem fixU_end {l : List Int} {i : Nat} (h : l.length ≤ i) : fixU l i = (symV 256, 7) := by rw [fixU, dif_neg (by omega)]
theorem fixU_lit {l : List Int} {i : Nat} (h : i < l.length) (hn : (mat l i).1 = 0) : fixU l i = (symV (l.getD i 0).toNat + 2 ^ symN (l.getD i 0).toNat * (fixU l (i + 1)).1, symN (l.getD i 0).toNat + (fixU l (i + 1)).2) := by
  conv => lhs; rw [fixU]
  rw [dif_pos h, dif_pos hn]
theorem fixU_mat {l : List Int} {i : Nat} (h : i < l.length) (hn : (mat l i).1 ≠ 0) : fixU l i = (symV (lenS (mat l i).1) + 2 ^ symN (lenS (mat l i).1) * (lenX (mat l i).1 + 2 ^ lenE (mat l i).1 * (rev 5 (disS (mat l i).2) + 2 ^ 5 * (disX (mat l i).2 + 2 ^ disE (mat l i).2 * (fixU l (i + (mat l i).1)).1))),
      symN (lenS (mat l i).1) + (lenE (mat l i).1 + (5 + (disE (mat l i).2 + (fixU l (i + (mat l i).1)).2)))) := by
  conv => lhs; rw [fixU]
  rw [dif_pos h, dif_neg hn]
theorem fixT_U (l : List Int) : ∀ m i T N, l.length - i ≤ m → (fixT l i T N).1 + symV 256 * 2 ^ (fixT l i T N).2 = T + 2 ^ N * (fixU l i).1 ∧ (fixT l i T N).2 + 7 = N + (fixU l i).2 := by
  intro m
  induction m with
  | zero =>
    intro i T N h
    rw [fixT_end (by omega), fixU_end (by omega)]
    exact ⟨by show T + symV 256 * 2 ^ N = T + 2 ^ N * symV 256; rw [Nat.mul_comm], rfl⟩
  | succ m ih =>
    intro i T N h
    by_cases hi : i < l.length
    · by_cases hn : (mat l i).1 = 0
      · rw [fixT_lit hi hn, fixU_lit hi hn]
        obtain ⟨h1, h2⟩ := ih (i + 1) (T + symV (l.getD i 0).toNat * 2 ^ N) (N + symN (l.getD i 0).toNat) (by omega)
        refine ⟨h1.trans ?_, h2.trans (by simp only []; omega)⟩
        simp only []
        generalize symN (l.getD i 0).toNat = a
        generalize symV (l.getD i 0).toNat = u
        generalize (fixU l (i + 1)).1 = z
        rw [Nat.pow_add, Nat.mul_add, Nat.mul_assoc, Nat.add_assoc, Nat.mul_comm u]
      · rw [fixT_mat hi hn, fixU_mat hi hn]
        obtain ⟨h1, h2⟩ := ih (i + (mat l i).1) (T + lenV (mat l i).1 * 2 ^ N + disV (mat l i).2 * 2 ^ (N + lenN (mat l i).1)) (N + lenN (mat l i).1 + disN (mat l i).2) (by omega)
        refine ⟨h1.trans ?_, h2.trans ?_⟩
        · simp only [lenV, disV, lenN, disN]
          generalize (fixU l (i + (mat l i).1)).1 = z
          generalize symV (lenS (mat l i).1) = u1
          generalize symN (lenS (mat l i).1) = a1
          generalize lenX (mat l i).1 = u2
          generalize lenE (mat l i).1 = a2
          generalize rev 5 (disS (mat l i).2) = u3
          generalize disX (mat l i).2 = u4
          generalize disE (mat l i).2 = a4
          generalize 5 = a3
          simp only [Nat.pow_add, Nat.mul_add, Nat.add_mul]
          generalize 2 ^ N = p0
          generalize 2 ^ a1 = p1
          generalize 2 ^ a2 = p2
          generalize 2 ^ a3 = p3
          generalize 2 ^ a4 = p4
          simp only [Nat.mul_assoc, Nat.mul_comm, Nat.mul_left_comm, Nat.add_assoc]
        · simp only [lenN, disN]
          omega
    · rw [fixT_end (by omega), fixU_end (by omega)]
      exact ⟨by show T + symV 256 * 2 ^ N = T + 2 ^ N * symV 256; rw [Nat.mul_comm], rfl⟩
theorem comb_lt {a r u U : Nat} (hu : u < 2 ^ a) (hU : U < 2 ^ r) : u + 2 ^ a * U < 2 ^ (a + r) := by
  rw [Nat.pow_add]
  have : 2 ^ a * (U + 1) ≤ 2 ^ a * 2 ^ r := Nat.mul_le_mul_left _ hU
  rw [Nat.mul_add] at this
  omega
theorem split_bits {X a r u U : Nat} (h : X % 2 ^ (a + r) = u + 2 ^ a * U) (hu : u < 2 ^ a) : X % 2 ^ a = u ∧ X / 2 ^ a % 2 ^ r = U := by
  have hp : 0 < 2 ^ a := Nat.pow_pos (by decide)
  refine ⟨?_, ?_⟩
  · rw [← Nat.mod_mod_of_dvd X (Nat.pow_dvd_pow 2 (show a ≤ a + r by omega)), h, Nat.add_mul_mod_self_left, Nat.mod_eq_of_lt hu]
  · rw [← Nat.mod_mul_right_div_self, ← Nat.pow_add, h, Nat.add_mul_div_left _ _ hp, Nat.div_eq_of_lt hu, Nat.zero_add]
theorem byte_lt {l : List Int} (h : ∀ x ∈ l, 0 ≤ x ∧ x < 256) (i : Nat) : (l.getD i 0).toNat < 256 := by
  rw [List.getD_eq_getElem?_getD]
  cases hi : l[i]? with
  | none => simp
  | some x =>
    have := h x (List.mem_of_getElem? hi)
    simp
    omega
theorem byte_eq {l : List Int} (h : ∀ x ∈ l, 0 ≤ x ∧ x < 256) (i : Nat) : (((l.getD i 0).toNat : Nat) : Int) = l.getD i 0 := by
  rw [List.getD_eq_getElem?_getD]
  cases hi : l[i]? with
  | none => simp
  | some x =>
    have := h x (List.mem_of_getElem? hi)
    simp
    omega
theorem fixU_lt (l : List Int) (hb : ∀ x ∈ l, 0 ≤ x ∧ x < 256) : ∀ m i, l.length - i ≤ m → (fixU l i).1 < 2 ^ (fixU l i).2 := by
  intro m
  induction m with
  | zero =>
    intro i h
    rw [fixU_end (by omega)]
    decide +kernel
  | succ m ih =>
    intro i h
    by_cases hi : i < l.length
    · by_cases hn : (mat l i).1 = 0
      · rw [fixU_lit hi hn]
        exact comb_lt (symV_lt _ (by have := byte_lt hb i; omega)) (ih (i + 1) (by omega))
      · rw [fixU_mat hi hn]
        have hmb := (mat_bounds l i).resolve_left hn
        have hd := dis_ok (mat l i).2 (by omega) (by omega)
        have hs := fix_lenS (mat l i).1 (by omega) (by omega)
        exact comb_lt (symV_lt _ (by omega)) (comb_lt (lenX_lt _ (by omega) (by omega)) (comb_lt (rev5_lt _ hd.2.1) (comb_lt hd.2.2 (ih _ (by omega)))))
    · rw [fixU_end (by omega)]
      decide +kernel
theorem bnd_is {α β : Type} {a : Rdr α} {f : α → Rdr β} {T N q q' : Nat} {x : α} (h : a T N q = .ok (x, q')) : bndR a f T N q = f x T N q' := by
  unfold bndR
  rw [h]
theorem fix_run (l : List Int) (hb : ∀ x ∈ l, 0 ≤ x ∧ x < 256) (most : Nat) (hm : l.length ≤ most) (T N : Nat) : ∀ m i k q, l.length - i ≤ m → i ≤ l.length → T / 2 ^ q % 2 ^ (fixU l i).2 = (fixU l i).1 → q + (fixU l i).2 ≤ N → m < k →
    symsO fixL fixD most k (l.take i) T N q = .ok (l, q + (fixU l i).2) := by
  intro m
  induction m with
  | zero =>
    intro i k q h hi hv hq hk
    obtain ⟨k, rfl⟩ : ∃ j, k = j + 1 := ⟨k - 1, by omega⟩
    rw [fixU_end (by omega)] at hv hq ⊢
    have h1 := end_at hv hq
    rw [symsO, bnd_is h1, if_pos rfl, List.take_of_length_le (by omega)]
    rfl
  | succ m ih =>
    intro i k q h hi hv hq hk
    obtain ⟨k, rfl⟩ : ∃ j, k = j + 1 := ⟨k - 1, by omega⟩
    by_cases hlt : i < l.length
    · have hlen : (l.take i).length = i := by rw [List.length_take]; omega
      by_cases hn : (mat l i).1 = 0
      · rw [fixU_lit hlt hn] at hv hq ⊢
        simp only [] at hv hq ⊢
        have hbl := byte_lt hb i
        have hbe := byte_eq hb i
        obtain ⟨e1, e2⟩ := split_bits hv (symV_lt _ (by omega))
        have h1 := rd_at (Stb.symL fixL) (Shf.symL fixL) (by decide) (fix_sym (l.getD i 0).toNat (by omega)) (T := T) (N := N) (q := q) (by rw [e1, Nat.mod_eq_of_lt (symV_lt _ (by omega))]) (by omega)
        rw [symsO, bnd_is h1, if_neg (by omega), if_pos hbl, hbe]
        unfold putO
        rw [hlen, if_neg (by omega), take_one hlt]
        show symsO fixL fixD most k (l.take (i + 1)) T N _ = _
        rw [ih (i + 1) k (q + symN (l.getD i 0).toNat) (by omega) (by omega) (by rw [Nat.pow_add, ← Nat.div_div_eq_div_mul]; exact e2) (by omega) (by omega), Nat.add_assoc]
      · rw [fixU_mat hlt hn] at hv hq ⊢
        simp only [] at hv hq ⊢
        have hmb := (mat_bounds l i).resolve_left hn
        have hms := mat_same l i hn
        have hd := dis_ok (mat l i).2 (by omega) (by omega)
        have hs := fix_lenS (mat l i).1 (by omega) (by omega)
        obtain ⟨e1, f1⟩ := split_bits hv (symV_lt _ (by omega))
        obtain ⟨e2, f2⟩ := split_bits f1 (lenX_lt _ (by omega) (by omega))
        obtain ⟨e3, f3⟩ := split_bits f2 (rev5_lt _ hd.2.1)
        obtain ⟨e4, f4⟩ := split_bits f3 hd.2.2
        rw [Nat.div_div_eq_div_mul, ← Nat.pow_add] at e2 e3 e4 f4
        rw [Nat.div_div_eq_div_mul, ← Nat.pow_add] at e3 e4 f4
        rw [Nat.div_div_eq_div_mul, ← Nat.pow_add] at e4 f4
        rw [Nat.div_div_eq_div_mul, ← Nat.pow_add] at f4
        simp only [← Nat.add_assoc] at e2 e3 e4 f4
        have h1 := rd_at (Stb.symL fixL) (Shf.symL fixL) (by decide) (fix_sym (lenS (mat l i).1) (by omega)) (T := T) (N := N) (q := q) (by rw [e1, Nat.mod_eq_of_lt (symV_lt _ (by omega))]) (by omega)
        have h2 := rd_at (Stb.lenR _) (Shf.lenR _) (by decide) (fix_len (mat l i).1 (by omega) (by omega)) (T := T) (N := N) (q := q + symN (lenS (mat l i).1)) (by rw [e2, Nat.mod_eq_of_lt (lenX_lt _ (by omega) (by omega))]) (by omega)
        have h3 := rd_at (Stb.symL fixD) (Shf.symL fixD) (by decide) (fix_dis (disS (mat l i).2) hd.2.1) (T := T) (N := N) (q := q + symN (lenS (mat l i).1) + lenE (mat l i).1) (by rw [e3, Nat.mod_eq_of_lt (rev5_lt _ hd.2.1)]) (by omega)
        have h4 := rd_at (Stb.disR _) (Shf.disR _) (by decide) hd.1 (T := T) (N := N) (q := q + symN (lenS (mat l i).1) + lenE (mat l i).1 + 5) (by rw [e4, Nat.mod_eq_of_lt hd.2.2]) (by omega)
        have hc : copR fixD (lenS (mat l i).1) T N (q + symN (lenS (mat l i).1)) = .ok (((mat l i).1, (mat l i).2), q + symN (lenS (mat l i).1) + lenE (mat l i).1 + 5 + disE (mat l i).2) := by
          unfold copR
          rw [bnd_is h2, bnd_is h3, bnd_is h4]
          rfl
        rw [symsO, bnd_is h1, if_neg (by omega), if_neg (by omega), bnd_is hc]
        show (if (l.take i).length < (mat l i).2 then badR 4 else onO (repO most (mat l i).2 (mat l i).1 (l.take i)) (symsO fixL fixD most k)) T N _ = _
        rw [hlen, if_neg (by omega), rep_take l most (mat l i).2 hm (by omega) (mat l i).1 i (by omega) hms.1 hms.2]
        show symsO fixL fixD most k (l.take (i + (mat l i).1)) T N _ = _
        rw [ih (i + (mat l i).1) k _ (by omega) (by omega) f4 (by omega) (by omega)]
        simp only [Except.ok.injEq, Prod.mk.injEq, true_and]
        omega
    · exact (by
        have hu := fixU_end (l := l) (i := i) (by omega)
        rw [hu] at hv hq ⊢
        have h1 := end_at hv hq
        rw [symsO, bnd_is h1, if_pos rfl, List.take_of_length_le (by omega)]
        rfl)
theorem numB_leB : ∀ k T, numB (leB k T) = T % 256 ^ k := by
  intro k
  induction k with
  | zero => intro T; simp [leB, numB, Nat.mod_one]
  | succ k ih =>
    intro T
    rw [leB_succ, numB_app, ih, leB_length]
    simp only [numB, Nat.mul_zero, Nat.add_zero, Int.toNat_natCast]
    rw [show (2 : Nat) ^ (8 * k) = 256 ^ k by rw [Nat.pow_mul], Nat.pow_succ, Nat.mod_mul]
/-- What way 1 writes is read again. -/
theorem strO_fixed {l more : List Int} {most : Nat} (hb : ∀ x ∈ l, 0 ≤ x ∧ x < 256) (hm : l.length ≤ most) : ∃ q, strO (fixedB l ++ more) most = .ok (l, q) ∧ (q + 7) / 8 = (fixedB l).length := by
  have hU := fixT_U l l.length 0 3 3 (by omega)
  have hlt := fixU_lt l hb l.length 0 (by omega)
  have e7 : symN 256 = 7 := by decide +kernel
  have hlen : (fixedB l).length = (3 + (fixU l 0).2 + 7) / 8 := by
    unfold fixedB
    rw [leB_length, e7, hU.2]
  have hfin : 3 + 2 ^ 3 * (fixU l 0).1 < 2 ^ (3 + (fixU l 0).2) := comb_lt (by decide) hlt
  have hnum : numB (fixedB l) = 3 + 2 ^ 3 * (fixU l 0).1 := by
    unfold fixedB
    rw [numB_leB, hU.1, e7, hU.2, Nat.mod_eq_of_lt]
    refine Nat.lt_of_lt_of_le hfin ?_
    rw [show (256 : Nat) = 2 ^ 8 from rfl, ← Nat.pow_mul]
    exact Nat.pow_le_pow_right (by decide) (by omega)
  refine ⟨3 + (fixU l 0).2, ?_, hlen.symm⟩
  have hN : 3 + (fixU l 0).2 ≤ 8 * (fixedB l ++ more).length := by rw [List.length_append]; omega
  obtain ⟨N, hNN⟩ : ∃ N, N = 8 * (fixedB l ++ more).length := ⟨_, rfl⟩
  obtain ⟨T, hT⟩ : ∃ T, T = numB (fixedB l ++ more) := ⟨_, rfl⟩
  have hTM : T % 2 ^ (3 + (fixU l 0).2) = 3 + 2 ^ 3 * (fixU l 0).1 := by
    rw [hT, numB_app, hnum, show 8 * (fixedB l).length = (3 + (fixU l 0).2) + (8 * (fixedB l).length - (3 + (fixU l 0).2)) by omega, Nat.pow_add, Nat.mul_assoc, Nat.add_mul_mod_self_left, Nat.mod_eq_of_lt hfin]
  obtain ⟨g1, g2⟩ := split_bits hTM (by decide)
  have h8 : N % 8 = 0 := by omega
  have t1 : tk 1 T N 0 = .ok (1, 1) := by
    unfold tk
    rw [if_pos (by omega)]
    simp only [Nat.pow_zero, Nat.div_one, Nat.zero_add, Except.ok.injEq, Prod.mk.injEq, and_true]
    omega
  have t2 : tk 2 T N 1 = .ok (1, 3) := by
    unfold tk
    rw [if_pos (by omega)]
    simp only [Except.ok.injEq, Prod.mk.injEq, and_true]
    omega
  have hr := fix_run l hb most hm T N l.length 0 (N + l.length + 1) 3 (by omega) (by omega) g2 (by omega) (by omega)
  rw [List.take_zero, symsO_fuel fixL fixD most T N h8 (N + l.length + 1) (N + 1) [] 3 (by omega) (by omega) (by omega)] at hr
  unfold strO
  rw [← hT, ← hNN]
  unfold runO
  rw [bnd_is t1, bnd_is t2]
  unfold blkO
  rw [if_neg (by decide), if_pos rfl, bnd_is hr, if_pos rfl]
  rfl
theorem xor255 {x : Nat} (h : x < 256) : Go.bits .xor .u8 255 (x : Int) = 255 - (x : Int) := by
  have : ∀ x : Nat, x < 256 → Go.bits .xor .u8 255 (x : Int) = 255 - (x : Int) := by decide +kernel
  exact this x h
theorem stored_strS {l : List Int} (h : l.length < 65536) : storedB l = strS [l] := by
  unfold storedB strS strS hdS
  rw [show (l.length : Int) % 256 = ((l.length % 256 : Nat) : Int) by omega, show (l.length : Int) / 256 = ((l.length / 256 : Nat) : Int) by omega, xor255 (by omega), xor255 (by omega)]
  simp
/-- What Deflate writes is read again, whatever stands behind it. -/
theorem strO_docD {l more : List Int} {most : Nat} {way : Int} (hb : ∀ x ∈ l, 0 ≤ x ∧ x < 256) (hl : l.length < 65536) (hm : l.length ≤ most) (h0 : 0 ≤ way) (h2 : way ≤ 2) : (docD l way).2 = 0 ∧ ∃ q, strO ((docD l way).1 ++ more) most = .ok (l, q) ∧ (q + 7) / 8 = (docD l way).1.length := by
  have hs : ∃ q, strO (storedB l ++ more) most = .ok (l, q) ∧ (q + 7) / 8 = (storedB l).length := by
    have h := strO_stored (ps := [l]) (rest := more) (m := most) (by simp) (fun x hx => by simp at hx; subst hx; exact ⟨hl, hb⟩) (by simpa using hm)
    rw [← stored_strS hl] at h
    exact ⟨_, by simpa using h, by omega⟩
  unfold docD
  rw [if_neg (by omega)]
  split
  · exact ⟨rfl, hs⟩
  · split
    · exact ⟨rfl, hs⟩
    · exact ⟨rfl, strO_fixed hb hm⟩
end Go.Proofs.YtkdklcamgcmifaaDoor
