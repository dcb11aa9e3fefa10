/- What Make makes leads from the base to the target; how long it is; what bytes it has. In plain Lean. -/
import Derived.Test.YtiocipmnmjpkfaaHCopyM
namespace Go.Proofs.Ytiocipmnmjpkfaa
set_option linter.unusedVariables false
set_option linter.unusedSimpArgs false
open Go.RowKit Go.Proofs.YtiocipmnmjpkfaaW.PrintWords Go.Proofs.YtiocipmnmjpkfaaW.PrintMore

/-! What a copy's bytes name (as in HCopyL, which stands by itself for DeltaCopies). -/
theorem mk_bit (f : Nat → Int) : ∀ j, j ≤ 7 → ∀ i, i < j → mkB f j / 2 ^ i % 2 = if f i = 0 then 0 else 1 := by
  intro j
  induction j with
  | zero => intro _ i hi; omega
  | succ j ih =>
    intro hj i hi
    have hb := mkB_bound f j
    rcases Nat.lt_or_ge i j with h | h
    · rw [← ih (by omega) i h]
      simp only [mkB]
      split
      · rfl
      · have h6 : j = 1 ∨ j = 2 ∨ j = 3 ∨ j = 4 ∨ j = 5 ∨ j = 6 := by omega
        generalize mkB f j = m at *
        have hi6 : i = 0 ∨ i = 1 ∨ i = 2 ∨ i = 3 ∨ i = 4 ∨ i = 5 := by omega
        rcases h6 with rfl | rfl | rfl | rfl | rfl | rfl <;> rcases hi6 with rfl | rfl | rfl | rfl | rfl | rfl <;> first | omega | (simp; omega)
    · obtain rfl : i = j := by omega
      simp only [mkB]
      have h6 : i = 0 ∨ i = 1 ∨ i = 2 ∨ i = 3 ∨ i = 4 ∨ i = 5 ∨ i = 6 := by omega
      generalize mkB f i = m at *
      split
      · rcases h6 with rfl | rfl | rfl | rfl | rfl | rfl | rfl <;> simp at hb ⊢ <;> omega
      · rcases h6 with rfl | rfl | rfl | rfl | rfl | rfl | rfl <;> simp at hb ⊢ <;> omega
theorem lsB_pre (f : Nat → Int) (i : Nat) : ∀ d, ∃ r, lsB f (i + d) = lsB f i ++ r := by
  intro d
  induction d with
  | zero => exact ⟨[], by simp⟩
  | succ d ih =>
    obtain ⟨r, hr⟩ := ih
    rw [← Nat.add_assoc]
    simp only [lsB]
    split
    · exact ⟨r, hr⟩
    · exact ⟨r ++ [f (i + d)], by rw [hr, List.append_assoc]⟩
theorem pick_copy (f : Nat → Int) (rest : List Int) : ∀ i, i ≤ 7 → pickV (mkB f 7) (lsB f 7 ++ rest) i = some ((List.range i).map f, (lsB f i).length) := by
  intro i
  induction i with
  | zero => intro _; rfl
  | succ i ih =>
    intro hi
    have h1 := ih (by omega)
    have hb := mk_bit f 7 (Nat.le_refl _) i (by omega)
    by_cases h0 : f i = 0
    · rw [if_pos h0] at hb
      rw [pickV_zero _ _ _ h1 hb, List.range_succ, List.map_append]
      simp [lsB, h0]
    · rw [if_neg h0] at hb
      obtain ⟨r, hr⟩ := lsB_pre f (i + 1) (7 - (i + 1))
      rw [show i + 1 + (7 - (i + 1)) = 7 from by omega] at hr
      have hs : lsB f (i + 1) = lsB f i ++ [f i] := by simp [lsB, h0]
      have hl : (lsB f i).length < (lsB f 7 ++ rest).length := by rw [hr, hs]; simp
      have hg : (lsB f 7 ++ rest).getD (lsB f i).length 0 = f i := by
        rw [hr, hs]
        simp
      rw [pickV_one _ _ _ h1 (by rw [hb]; decide) hl, hg, hs, List.range_succ, List.map_append]
      simp
theorem cp_at (at_ n : Int) (h0 : 0 ≤ at_) (h1 : at_ < 4294967296) : atV ((List.range 7).map (cpB at_ n)) = at_ := by
  show leV [cpB at_ n 0, cpB at_ n 1, cpB at_ n 2, cpB at_ n 3] = at_
  simp [leV, cpB]
  omega
theorem cp_cnt (at_ n : Int) (h0 : 1 ≤ n) (h1 : n < 16777216) : cntV ((List.range 7).map (cpB at_ n)) = n := by
  unfold cntV
  have e : leV (((List.range 7).map (cpB at_ n)).drop 4) = leV [cpB at_ n 4, cpB at_ n 5, cpB at_ n 6] := rfl
  rw [e]
  by_cases hn : n = 65536
  · subst hn
    simp [leV, cpB]
  · have e2 : leV [cpB at_ n 4, cpB at_ n 5, cpB at_ n 6] = n := by
      simp [leV, cpB, hn]
      omega
    rw [e2, if_neg (by omega)]
theorem one_copy (base rest : List Int) (at_ n : Nat) (h1 : at_ < 4294967296) (h2 : 1 ≤ n) (h3 : n < 16777216) (hb : at_ + n ≤ base.length) :
    oneF base (mkB (cpB at_ n) 7) (lsB (cpB at_ n) 7 ++ rest) = (0, (base.drop at_).take n, rest) := by
  have hm := mkB_bound (cpB at_ n) 7
  rw [oneF_some base _ _ (by omega) (by omega) (pick_copy (cpB at_ n) rest 7 (Nat.le_refl _)), cp_at _ _ (by omega) (by omega), cp_cnt _ _ (by omega) (by omega), if_neg (by omega), Int.toNat_natCast, Int.toNat_natCast]
  simp
theorem cpB_byte (at_ n : Int) (i : Nat) : 0 ≤ cpB at_ n i ∧ cpB at_ n i < 256 := by
  unfold cpB
  split
  · omega
  · split <;> omega
theorem lsB_bytes (f : Nat → Int) (hf : ∀ i, 0 ≤ f i ∧ f i < 256) : ∀ i, ∀ x ∈ lsB f i, 0 ≤ x ∧ x < 256 := by
  intro i
  induction i with
  | zero => intro x hx; simp [lsB] at hx
  | succ i ih =>
    intro x hx
    simp only [lsB] at hx
    split at hx
    · exact ih x hx
    · rcases List.mem_append.1 hx with hx | hx
      · exact ih x hx
      · rw [List.mem_singleton] at hx; rw [hx]; exact hf i
theorem copyL_bytes (at_ n : Int) : ∀ x ∈ copyL at_ n, 0 ≤ x ∧ x < 256 := by
  intro x hx
  have hm := mkB_bound (cpB at_ n) 7
  unfold copyL at hx
  rcases List.mem_cons.1 hx with rfl | hx
  · omega
  · exact lsB_bytes _ (cpB_byte at_ n) 7 x hx
/-- A number's groups: all but the last have the high bit. -/
def Grp (G : List Int) : Prop := ∃ i b, G = i ++ [b] ∧ (∀ x ∈ i, 128 ≤ x) ∧ b < 128
theorem Grp.one {b : Int} (h : b < 128) : Grp [b] := ⟨[], b, rfl, by simp, h⟩
theorem Grp.cons {a : Int} {G : List Int} (h : 128 ≤ a) (hG : Grp G) : Grp (a :: G) := by
  obtain ⟨i, b, rfl, h1, h2⟩ := hG
  exact ⟨a :: i, b, rfl, by simpa [h] using h1, h2⟩
theorem Grp.low {G : List Int} (h : Grp G) (q : List Int) : lowAt (G ++ q) = some (G.length - 1) := by
  obtain ⟨i, b, rfl, h1, h2⟩ := h
  unfold lowAt
  rw [List.append_assoc, List.findIdx?_append, show i.findIdx? (fun b => decide (b < 128)) = none from by
    rw [List.findIdx?_eq_none_iff]
    intro x hx
    have := h1 x hx
    simp
    omega]
  simp [List.findIdx?_cons, h2]
theorem Grp.pos {G : List Int} (h : Grp G) : 0 < G.length := by
  obtain ⟨i, b, rfl, h1, h2⟩ := h
  simp
theorem Grp.lowL {l G q : List Int} (h : Grp G) : lowAt ((l ++ G ++ q).drop l.length) = some (G.length - 1) := by
  rw [List.append_assoc, List.drop_left]
  exact h.low q
theorem Grp.groups {l G q : List Int} (h : Grp G) : groupsL (l ++ G ++ q) l.length (G.length - 1) = G := by
  have := h.pos
  unfold groupsL
  rw [List.append_assoc, List.drop_left, show G.length - 1 + 1 = G.length from by omega, List.take_left]

theorem sizeL_grp : ∀ (k : Nat) (v : Int), 0 ≤ v → v < 128 ^ k → 0 < k → Grp (sizeL k v) := by
  intro k
  induction k with
  | zero => intro v h0 h1 h2; omega
  | succ k ih =>
    intro v h0 h1 _
    by_cases h : v < 128
    · rw [sizeL_small k v h]
      exact Grp.one h
    · rw [sizeL_more k v h]
      have hk : 0 < k := by
        rcases Nat.eq_zero_or_pos k with rfl | hk
        · simp at h1
          omega
        · exact hk
      refine Grp.cons (by omega) (ih (v / 128) (by omega) ?_ hk)
      rw [Int.pow_succ] at h1
      exact Int.ediv_lt_of_lt_mul (by decide) h1
theorem sizeL_sum : ∀ (k : Nat) (v : Int) (s : Nat), 0 ≤ v → v < 128 ^ k → sumV s (sizeL k v) = v * 2 ^ s := by
  intro k
  induction k with
  | zero =>
    intro v s h0 h1
    simp at h1
    obtain rfl : v = 0 := by omega
    simp [sizeL, sumV]
  | succ k ih =>
    intro v s h0 h1
    by_cases h : v < 128
    · rw [sizeL_small k v h]
      simp only [sumV]
      rw [Int.emod_eq_of_lt h0 h]
      omega
    · rw [sizeL_more k v h]
      simp only [sumV]
      rw [Int.pow_succ] at h1
      rw [ih (v / 128) (s + 7) (by omega) (Int.ediv_lt_of_lt_mul (by decide) h1), show (v % 128 + 128) % 128 = v % 128 from by omega, Int.pow_add, show (2 : Int) ^ 7 = 128 from rfl]
      have e : v = v % 128 + v / 128 * 128 := by omega
      have e2 : v / 128 * (2 ^ s * 128) = v / 128 * 128 * 2 ^ s := by
        rw [Int.mul_comm (2 ^ s) 128, ← Int.mul_assoc]
      rw [e2, ← Int.add_mul, ← e]
theorem sizeL_byte : ∀ (k : Nat) (v : Int), 0 ≤ v → ∀ x ∈ sizeL k v, 0 ≤ x ∧ x < 256 := by
  intro k
  induction k with
  | zero => intro v h0 x hx; simp [sizeL] at hx
  | succ k ih =>
    intro v h0 x hx
    by_cases h : v < 128
    · rw [sizeL_small k v h] at hx
      simp at hx
      omega
    · rw [sizeL_more k v h] at hx
      rcases List.mem_cons.1 hx with rfl | hx
      · omega
      · exact ih (v / 128) (by omega) x hx
theorem size_back (l q : List Int) (v : Int) (h0 : 0 ≤ v) (h1 : v < 18446744073709551616) :
    sizeF (l ++ sizeL 10 v ++ q) l.length = (v, (l.length : Int) + (sizeL 10 v).length, 0) := by
  have hlt : v < 128 ^ 10 := Int.lt_of_lt_of_le h1 (by decide)
  have hG := sizeL_grp 10 v h0 hlt (by omega)
  have hp := hG.pos
  unfold sizeF
  rw [if_neg (by omega), if_neg (by simp; omega), Int.toNat_natCast, hG.lowL]
  simp only
  rw [hG.groups]
  have hs := sizeL_sum 10 v 0 h0 hlt
  rw [Int.pow_zero, Int.mul_one] at hs
  have hF : sumF 0 (sizeL 10 v) = (v, true) := by
    unfold sumF
    rw [hs, if_pos h1]
  rw [hF, if_pos rfl]
  simp only [Prod.mk.injEq]
  exact ⟨trivial, by omega, trivial⟩


/-- Running goes on from out, l to out', l'. -/
def Runs (base : List Int) (size : Nat) (out l out' l' : List Int) : Prop := ∀ k, l.length < k → ∃ k', l'.length < k' ∧ runF base size k out l = runF base size k' out' l'
theorem Runs.refl (base : List Int) (size : Nat) (out l : List Int) : Runs base size out l out l := fun k hk => ⟨k, hk, rfl⟩
theorem Runs.trans {base : List Int} {size : Nat} {a b c d e f : List Int} (h : Runs base size a b c d) (h2 : Runs base size c d e f) : Runs base size a b e f := by
  intro k hk
  obtain ⟨k1, h1, e1⟩ := h k hk
  obtain ⟨k2, h3, e2⟩ := h2 k1 h1
  exact ⟨k2, h3, e1.trans e2⟩
theorem Runs.one {base : List Int} {size : Nat} {out d piece rest : List Int} {c : Int} (h : oneF base c d = (0, piece, rest)) (hs : out.length + piece.length ≤ size) : Runs base size out (c :: d) (out ++ piece) rest := by
  intro k hk
  obtain ⟨k, rfl⟩ : ∃ j, k = j + 1 := ⟨k - 1, by omega⟩
  refine ⟨k, ?_, ?_⟩
  · have := oneF_rest base c d
    rw [h] at this
    simp only [List.length_cons] at hk
    simp only at this
    omega
  · rw [runF_cons, h]
    dsimp only
    rw [if_pos rfl, if_neg (by omega)]
theorem one_insert (base P rest : List Int) (h0 : 0 < P.length) (h1 : P.length ≤ 127) : oneF base (P.length : Int) (P ++ rest) = (0, P, rest) := by
  unfold oneF
  rw [if_neg (by omega), if_pos (by omega), Int.toNat_natCast, if_neg (by simp)]
  simp
theorem runs_chunks (base : List Int) (size : Nat) (H out : List Int) (hs : out.length + H.length ≤ size) : ∀ (j : Nat), j ≤ (H.length + 126) / 127 → ∀ rest, Runs base size out (ckBs H (List.range j) ++ rest) (out ++ H.take (127 * j)) rest := by
  intro j
  induction j with
  | zero => intro _ rest; simpa [ckBs] using Runs.refl base size out rest
  | succ j ih =>
    intro hj rest
    rw [List.range_succ, ckBs_snoc, List.append_assoc]
    refine (ih (by omega) _).trans ?_
    have hc : ckLen H.length j = min 127 (H.length - 127 * j) := by unfold ckLen; omega
    have hpl : ((H.drop (127 * j)).take (ckLen H.length j)).length = ckLen H.length j := by rw [List.length_take, List.length_drop]; omega
    have ho := one_insert base ((H.drop (127 * j)).take (ckLen H.length j)) rest (by omega) (by omega)
    rw [hpl] at ho
    have h := Runs.one (size := size) (out := out ++ H.take (127 * j)) ho (by rw [List.length_append, List.length_take, hpl]; omega)
    have e : out ++ H.take (127 * j) ++ (H.drop (127 * j)).take (ckLen H.length j) = out ++ H.take (127 * (j + 1)) := by
      rw [List.append_assoc]
      congr 1
      rw [show 127 * (j + 1) = 127 * j + 127 from by omega, List.take_add]
      congr 1
      rw [hc]
      rcases Nat.le_total 127 (H.length - 127 * j) with h1 | h1
      · rw [Nat.min_eq_left h1]
      · rw [Nat.min_eq_right h1, List.take_of_length_le (by rw [List.length_drop]; omega), List.take_of_length_le (by rw [List.length_drop]; omega)]
    rw [e] at h
    exact h
theorem runs_flush (base : List Int) (size : Nat) (H out rest : List Int) (hs : out.length + H.length ≤ size) : Runs base size out (flushL H ++ rest) (out ++ H) rest := by
  have h := runs_chunks base size H out hs _ (Nat.le_refl _) rest
  rw [List.take_of_length_le (by omega)] at h
  exact h
theorem runs_copy (base : List Int) (size : Nat) (out rest : List Int) (a n : Nat) (h1 : a < 4294967296) (h2 : 1 ≤ n) (h3 : n < 16777216) (hb : a + n ≤ base.length) (hs : out.length + n ≤ size) :
    Runs base size out (copyL a n ++ rest) (out ++ (base.drop a).take n) rest := by
  unfold copyL
  exact Runs.one (one_copy base rest a n h1 h2 h3 hb) (by rw [List.length_take, List.length_drop]; omega)
/-- held stands in the target, just ahead of i. -/
def Ahead (target : List Int) (i : Nat) (held : List Int) : Prop := held.length ≤ i ∧ i ≤ target.length ∧ target.take i = target.take (i - held.length) ++ held
theorem Ahead.nil {target : List Int} {i : Nat} (h : i ≤ target.length) : Ahead target i [] := ⟨Nat.zero_le _, h, by simp⟩
theorem take_snoc {l : List Int} {i : Nat} (h : i < l.length) : l.take (i + 1) = l.take i ++ [l.getD i 0] := by
  rw [List.take_succ_eq_append_getElem h]
  simp [h]
theorem Ahead.snoc {target held : List Int} {i : Nat} (h : Ahead target i held) (hi : i < target.length) : Ahead target (i + 1) (held ++ [target.getD i 0]) := by
  obtain ⟨h1, h2, h3⟩ := h
  refine ⟨by simp; omega, hi, ?_⟩
  rw [take_snoc hi, h3, List.length_append, List.append_assoc, List.length_singleton, show i + 1 - (held.length + 1) = i - held.length from by omega]
theorem Ahead.back {target held : List Int} {x : Int} {i : Nat} (h : Ahead target i (held ++ [x])) : ∃ i', i = i' + 1 ∧ Ahead target i' held ∧ target.getD i' 0 = x := by
  obtain ⟨h1, h2, h3⟩ := h
  rw [List.length_append, List.length_singleton] at h1
  obtain ⟨i', rfl⟩ : ∃ i', i = i' + 1 := ⟨i - 1, by omega⟩
  rw [take_snoc (by omega), ← List.append_assoc, List.length_append, List.length_singleton, show i' + 1 - (held.length + 1) = i' - held.length from by omega] at h3
  have e := List.append_inj' h3 rfl
  refine ⟨i', rfl, ⟨by omega, by omega, e.1⟩, ?_⟩
  have := e.2
  simpa using this
theorem runs_tail (base target held rest : List Int) (i a n : Nat) (hA : Ahead target i held) (hin : i + n ≤ target.length) (han : a + n ≤ base.length) (he : (base.drop a).take n = (target.drop i).take n) (h1 : a < 4294967296) (h2 : 1 ≤ n) (h3 : n < 16777216) :
    Runs base target.length (target.take (i - held.length)) (flushL held ++ copyL a n ++ rest) (target.take (i + n)) rest := by
  obtain ⟨k1, k2, k3⟩ := hA
  rw [List.append_assoc]
  refine (runs_flush base target.length held _ _ (by rw [List.length_take]; omega)).trans ?_
  rw [← k3]
  have h := runs_copy base target.length (target.take i) rest a n h1 h2 h3 han (by rw [List.length_take]; omega)
  rw [he, ← List.take_add] at h
  exact h
theorem runs_out (base target rest : List Int) (hb : base.length < 16777216) : ∀ (held : List Int) (i a n : Nat), Ahead target i held → i + n ≤ target.length → a + n ≤ base.length → (base.drop a).take n = (target.drop i).take n → 1 ≤ n →
    Runs base target.length (target.take (i - held.length)) (outF base held a n ++ rest) (target.take (i + n)) rest := by
  suffices h : ∀ (m : Nat) (held : List Int), held.length = m → ∀ (i a n : Nat), Ahead target i held → i + n ≤ target.length → a + n ≤ base.length → (base.drop a).take n = (target.drop i).take n → 1 ≤ n →
      Runs base target.length (target.take (i - held.length)) (outF base held a n ++ rest) (target.take (i + n)) rest from fun held => h _ held rfl
  intro m
  induction m with
  | zero =>
    intro held hm i a n hA hin han he hn
    obtain rfl : held = [] := List.length_eq_zero_iff.1 hm
    rw [outF_nil]
    exact runs_tail base target [] rest i a n hA hin han he (by omega) hn (by omega)
  | succ m ih =>
    intro held hm i a n hA hin han he hn
    rcases List.eq_nil_or_concat held with rfl | ⟨h3, x, hx⟩
    · simp at hm
    · rw [List.concat_eq_append] at hx
      subst hx
      cases a with
      | zero =>
        rw [outF_zero]
        exact runs_tail base target _ rest i 0 n hA hin han he (by omega) hn (by omega)
      | succ a =>
        by_cases hxy : x = base.getD a 0
        · obtain ⟨i', rfl, hA', hx'⟩ := hA.back
          rw [outF_yes base h3 x a n hxy]
          have hlen : h3.length = m := by simpa using hm
          have e2 : (base.drop a).take (n + 1) = (target.drop i').take (n + 1) := by
            have b1 : base.drop a = base.getD a 0 :: base.drop (a + 1) := by rw [List.drop_eq_getElem_cons (show a < base.length by omega)]; simp [show a < base.length by omega]
            have b2 : target.drop i' = target.getD i' 0 :: target.drop (i' + 1) := by rw [List.drop_eq_getElem_cons (show i' < target.length by omega)]; simp [show i' < target.length by omega]
            rw [b1, b2, List.take_succ_cons, List.take_succ_cons, he, ← hxy, hx']
          have h := ih h3 hlen i' a (n + 1) hA' (by omega) (by omega) e2 (by omega)
          rw [List.length_append, List.length_singleton, show i' + 1 - (h3.length + 1) = i' - h3.length from by omega, show i' + 1 + n = i' + (n + 1) from by omega]
          exact h
        · rw [outF_no base h3 x a n hxy]
          exact runs_tail base target _ rest i (a + 1) n hA hin han he (by omega) hn (by omega)
theorem hit_same (base target : List Int) (i : Nat) (h : 16 ≤ (hitAt base target i).2) : (base.drop (hitAt base target i).1).take (hitAt base target i).2 = (target.drop i).take (hitAt base target i).2 := by
  revert h
  unfold hitAt
  split
  · split
    · intro _
      exact sameL_take _ _
    · intro h; simp at h
  · intro h; simp at h
theorem runs_mk (base target : List Int) (hb : base.length < 16777216) : ∀ (m i : Nat) (held : List Int), target.length - i ≤ m → Ahead target i held → Runs base target.length (target.take (i - held.length)) (mkF base target i held) target [] := by
  intro m
  induction m with
  | zero =>
    intro i held hm hA
    have h2 := hA.2.1
    obtain rfl : i = target.length := by omega
    rw [mkF_end base target held _ (by omega)]
    have h := runs_flush base target.length held (target.take (target.length - held.length)) [] (by have := hA.1; rw [List.length_take]; omega)
    rw [← hA.2.2, List.take_length, List.append_nil] at h
    exact h
  | succ m ih =>
    intro i held hm hA
    by_cases hi : i < target.length
    · have hle := hitAt_le base target i
      by_cases hn : (hitAt base target i).2 < 16
      · rw [mkF_hold base target held i hi hn]
        have h := ih (i + 1) (held ++ [target.getD i 0]) (by omega) (hA.snoc hi)
        rw [List.length_append, List.length_singleton, show i + 1 - (held.length + 1) = i - held.length from by omega] at h
        exact h
      · rw [mkF_copy base target held i hi hn]
        have h1 := runs_out base target (mkF base target (i + (hitAt base target i).2) []) hb held i _ _ hA (hle.2 hi) hle.1 (hit_same base target i (by omega)) (by omega)
        have h2 := ih (i + (hitAt base target i).2) [] (by omega) (Ahead.nil (hle.2 hi))
        exact h1.trans h2
    · have h2 := hA.2.1
      obtain rfl : i = target.length := by omega
      rw [mkF_end base target held _ (by omega)]
      have h := runs_flush base target.length held (target.take (target.length - held.length)) [] (by have := hA.1; rw [List.length_take]; omega)
      rw [← hA.2.2, List.take_length, List.append_nil] at h
      exact h
theorem size_head (b t : Int) (q : List Int) (h0 : 0 ≤ b) (h1 : b < 18446744073709551616) (h2 : 0 ≤ t) (h3 : t < 18446744073709551616) :
    sizeF (sizeL 10 b ++ sizeL 10 t ++ q) 0 = (b, ((sizeL 10 b).length : Int), 0) ∧ sizeF (sizeL 10 b ++ sizeL 10 t ++ q) ((sizeL 10 b).length : Int) = (t, ((sizeL 10 b).length : Int) + (sizeL 10 t).length, 0) := by
  constructor
  · have h := size_back [] (sizeL 10 t ++ q) b h0 h1
    simpa [List.append_assoc] using h
  · exact size_back (sizeL 10 b) q t h2 h3
/-- What Make makes leads from the base to the target. -/
theorem apply_make (base target : List Int) (hb : base.length ≤ 1048576) (ht : target.length ≤ 1048576) : applyF base (makeF base target) target.length = (0, target) := by
  have hs := size_head base.length target.length (mkF base target 0 []) (by omega) (by omega) (by omega) (by omega)
  have hd : (makeF base target).drop ((sizeL 10 (base.length : Int)).length + (sizeL 10 (target.length : Int)).length) = mkF base target 0 [] := by
    unfold makeF
    rw [← List.length_append, List.drop_left]
  have hr := runs_mk base target (by omega) target.length 0 [] (by omega) (Ahead.nil (Nat.zero_le _)) ((mkF base target 0 []).length + 1) (by omega)
  obtain ⟨k, hk, he⟩ := hr
  simp only [List.length_nil] at hk
  obtain ⟨k, rfl⟩ : ∃ j, k = j + 1 := ⟨k - 1, by omega⟩
  rw [runF_nil, if_pos rfl] at he
  unfold applyF
  rw [if_neg (by omega)]
  rw [show sizeF (makeF base target) 0 = _ from hs.1]
  dsimp only
  rw [if_neg (by simp), if_neg (by simp)]
  rw [show sizeF (makeF base target) ((sizeL 10 (base.length : Int)).length : Int) = _ from hs.2]
  dsimp only
  rw [if_neg (by simp), if_neg (by omega)]
  rw [show ((((sizeL 10 (base.length : Int)).length : Int) + ((sizeL 10 (target.length : Int)).length : Int))).toNat = (sizeL 10 (base.length : Int)).length + (sizeL 10 (target.length : Int)).length from by omega, hd, Int.toNat_natCast]
  simpa using he
/-! How long. -/
theorem backF_len (base : List Int) : ∀ (r : List Int) (a n : Nat), (backF base r a n).1.length ≤ r.length := by
  intro r
  induction r with
  | nil => intro a n; cases a <;> simp [backF]
  | cons x r ih =>
    intro a n
    cases a with
    | zero => simp [backF]
    | succ a =>
      simp only [backF]
      split
      · have := ih a (n + 1)
        simp only [List.length_cons]
        omega
      · simp
theorem outF_len (base held : List Int) (a n : Nat) : (outF base held a n).length ≤ held.length + (held.length + 126) / 127 + 8 := by
  unfold outF
  have h1 := backF_len base held.reverse a n
  have h2 := copyL_len ((backF base held.reverse a n).2.1 : Int) ((backF base held.reverse a n).2.2 : Int)
  rw [List.length_append, flushL_len, List.length_reverse]
  rw [List.length_reverse] at h1
  omega
theorem mkF_len (base target : List Int) : ∀ (m i : Nat) (held : List Int), target.length - i ≤ m → (mkF base target i held).length ≤ held.length + (target.length - i) + (held.length + (target.length - i) + 126) / 127 := by
  intro m
  induction m with
  | zero =>
    intro i held hm
    rw [mkF_end base target held i (by omega), flushL_len]
    omega
  | succ m ih =>
    intro i held hm
    by_cases hi : i < target.length
    · have hle := (hitAt_le base target i).2 hi
      by_cases hn : (hitAt base target i).2 < 16
      · rw [mkF_hold base target held i hi hn]
        have h := ih (i + 1) (held ++ [target.getD i 0]) (by omega)
        rw [List.length_append, List.length_singleton] at h
        omega
      · rw [mkF_copy base target held i hi hn, List.length_append]
        have h := ih (i + (hitAt base target i).2) [] (by omega)
        have h2 := outF_len base held (hitAt base target i).1 (hitAt base target i).2
        simp only [List.length_nil] at h
        omega
    · rw [mkF_end base target held i hi, flushL_len]
      omega
theorem make_len (base target : List Int) : (makeF base target).length ≤ 20 + target.length + (target.length + 126) / 127 := by
  unfold makeF
  have h1 := sizeL_len 10 (base.length : Int)
  have h2 := sizeL_len 10 (target.length : Int)
  have h3 := mkF_len base target target.length 0 [] (by omega)
  simp only [List.length_nil] at h3
  rw [List.length_append, List.length_append]
  omega
theorem firstAt_first (l : List Int) : ∀ r, 0 < r → firstAt l r (pieceAt l 0) = some 0 := by
  intro r
  induction r with
  | zero => intro h; omega
  | succ r ih =>
    intro _
    cases r with
    | zero => simp [firstAt]
    | succ r => rw [firstAt, ih (by omega)]
theorem make_alike (base : List Int) (h : 64 ≤ base.length) : (makeF base base).length ≤ 40 := by
  have hh : hitAt base base 0 = (0, base.length) := by
    unfold hitAt
    rw [if_pos (by omega), firstAt_first base _ (by omega)]
    simp [sameL_self]
  have h1 := sizeL_len 10 (base.length : Int)
  unfold makeF
  rw [mkF_copy base base [] 0 (by omega) (by rw [hh]; simp only; omega), hh]
  simp only [Nat.zero_add]
  rw [mkF_end base base [] base.length (by omega), outF_nil, flushL_nil]
  have h2 := copyL_len ((0 : Nat) : Int) (base.length : Int)
  simp only [List.length_append, List.length_nil]
  omega
/-! Bytes. -/
theorem ckBs_bytes (H : List Int) (hH : ∀ x ∈ H, 0 ≤ x ∧ x < 256) : ∀ (l : List Nat), ∀ x ∈ ckBs H l, 0 ≤ x ∧ x < 256 := by
  intro l
  induction l with
  | nil => intro x hx; simp [ckBs] at hx
  | cons k r ih =>
    intro x hx
    simp only [ckBs, ckB, List.cons_append, List.mem_cons, List.mem_append] at hx
    rcases hx with rfl | hx | hx
    · simp only [ckLen]; omega
    · exact hH x (List.mem_of_mem_drop (List.mem_of_mem_take hx))
    · exact ih x hx
theorem backF_bytes (base : List Int) : ∀ (r : List Int) (a n : Nat), ∀ x ∈ (backF base r a n).1, x ∈ r := by
  intro r
  induction r with
  | nil => intro a n x hx; cases a <;> simp [backF] at hx
  | cons y r ih =>
    intro a n x hx
    cases a with
    | zero => simpa [backF] using hx
    | succ a =>
      simp only [backF] at hx
      split at hx
      · exact List.mem_cons_of_mem _ (ih a (n + 1) x hx)
      · exact hx
theorem outF_bytes (base held : List Int) (a n : Nat) (hH : ∀ x ∈ held, 0 ≤ x ∧ x < 256) : ∀ x ∈ outF base held a n, 0 ≤ x ∧ x < 256 := by
  intro x hx
  unfold outF at hx
  rcases List.mem_append.1 hx with hx | hx
  · exact ckBs_bytes _ (fun y hy => hH y (by have := backF_bytes base held.reverse a n y (List.mem_reverse.1 hy); exact List.mem_reverse.1 this)) _ x hx
  · exact copyL_bytes _ _ x hx
theorem mkF_bytes (base target : List Int) (ht : ∀ x ∈ target, 0 ≤ x ∧ x < 256) : ∀ (m i : Nat) (held : List Int), target.length - i ≤ m → (∀ x ∈ held, 0 ≤ x ∧ x < 256) → ∀ x ∈ mkF base target i held, 0 ≤ x ∧ x < 256 := by
  intro m
  induction m with
  | zero =>
    intro i held hm hh x hx
    rw [mkF_end base target held i (by omega)] at hx
    exact ckBs_bytes held hh _ x hx
  | succ m ih =>
    intro i held hm hh x hx
    by_cases hi : i < target.length
    · by_cases hn : (hitAt base target i).2 < 16
      · rw [mkF_hold base target held i hi hn] at hx
        refine ih (i + 1) (held ++ [target.getD i 0]) (by omega) ?_ x hx
        intro y hy
        rcases List.mem_append.1 hy with hy | hy
        · exact hh y hy
        · rw [List.mem_singleton] at hy
          rw [hy, show target.getD i 0 = target[i] from by simp [hi]]
          exact ht _ (List.getElem_mem hi)
      · rw [mkF_copy base target held i hi hn] at hx
        rcases List.mem_append.1 hx with hx | hx
        · exact outF_bytes base held _ _ hh x hx
        · exact ih (i + (hitAt base target i).2) [] (by omega) (by simp) x hx
    · rw [mkF_end base target held i hi] at hx
      exact ckBs_bytes held hh _ x hx
theorem make_bytes (base target : List Int) (ht : ∀ x ∈ target, 0 ≤ x ∧ x < 256) : ∀ x ∈ makeF base target, 0 ≤ x ∧ x < 256 := by
  intro x hx
  unfold makeF at hx
  rcases List.mem_append.1 hx with hx | hx
  · rcases List.mem_append.1 hx with hx | hx
    · exact sizeL_byte 10 _ (by omega) x hx
    · exact sizeL_byte 10 _ (by omega) x hx
  · exact mkF_bytes base target ht target.length 0 [] (by omega) (by simp) x hx
end Go.Proofs.Ytiocipmnmjpkfaa
