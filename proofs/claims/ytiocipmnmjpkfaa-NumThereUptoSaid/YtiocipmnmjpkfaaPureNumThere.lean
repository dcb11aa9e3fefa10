/- What is put behind bytes is read there again, whatever stands behind it. No condition but the bound. -/
import Derived.Test.YtiocipmnmjpkfaaPUx
namespace Go.Proofs.Ytiocipmnmjpkfaa.Pure
set_option linter.unusedVariables false
set_option linter.unusedSimpArgs false
open Go.RowKit Go.Proofs.Ytiocipmnmjpkfaa Go.Proofs.YtiocipmnmjpkfaaW.PrintWords Go.Proofs.YtiocipmnmjpkfaaW.PrintLast Go.Proofs.YtiocipmnmjpkfaaW.PrintMore Go.Proofs.Ytiocipmnmjpkfaa.PU

/-- A number's groups: all but the last have the high bit. -/
def Grp (G : List Int) : Prop := ∃ i b, G = i ++ [b] ∧ (∀ x ∈ i, 128 ≤ x) ∧ b < 128
theorem Grp.one {b : Int} (h : b < 128) : Grp [b] := ⟨[], b, rfl, by simp, h⟩
theorem Grp.cons {a : Int} {G : List Int} (h : 128 ≤ a) (hG : Grp G) : Grp (a :: G) := by
  obtain ⟨i, b, rfl, h1, h2⟩ := hG
  exact ⟨a :: i, b, rfl, by simpa [h] using h1, h2⟩
theorem Grp.low {G : List Int} (h : Grp G) (q : List Int) : lowAt (G ++ q) = some (G.length - 1) := by
  obtain ⟨i, b, rfl, h1, h2⟩ := h
  unfold lowAt
  rw [List.append_assoc, List.findIdx?_append, show i.findIdx? (fun b => decide (b < 128)) = none from by
    rw [List.findIdx?_eq_none_iff]
    intro x hx
    have := h1 x hx
    simp
    omega]
  simp [List.findIdx?_cons, h2]
theorem Grp.pos {G : List Int} (h : Grp G) : 0 < G.length := by
  obtain ⟨i, b, rfl, h1, h2⟩ := h
  simp
theorem Grp.lowL {l G q : List Int} (h : Grp G) : lowAt ((l ++ G ++ q).drop l.length) = some (G.length - 1) := by
  rw [List.append_assoc, List.drop_left]
  exact h.low q
theorem Grp.groups {l G q : List Int} (h : Grp G) : groupsL (l ++ G ++ q) l.length (G.length - 1) = G := by
  have := h.pos
  unfold groupsL
  rw [List.append_assoc, List.drop_left, show G.length - 1 + 1 = G.length from by omega, List.take_left]

theorem sizeL_grp : ∀ (k : Nat) (v : Int), 0 ≤ v → v < 128 ^ k → 0 < k → Grp (sizeL k v) := by
  intro k
  induction k with
  | zero => intro v h0 h1 h2; omega
  | succ k ih =>
    intro v h0 h1 _
    by_cases h : v < 128
    · rw [sizeL_small k v h]
      exact Grp.one h
    · rw [sizeL_more k v h]
      have hk : 0 < k := by
        rcases Nat.eq_zero_or_pos k with rfl | hk
        · simp at h1
          omega
        · exact hk
      refine Grp.cons (by omega) (ih (v / 128) (by omega) ?_ hk)
      rw [Int.pow_succ] at h1
      exact Int.ediv_lt_of_lt_mul (by decide) h1
theorem sizeL_sum : ∀ (k : Nat) (v : Int) (s : Nat), 0 ≤ v → v < 128 ^ k → sumV s (sizeL k v) = v * 2 ^ s := by
  intro k
  induction k with
  | zero =>
    intro v s h0 h1
    simp at h1
    obtain rfl : v = 0 := by omega
    simp [sizeL, sumV]
  | succ k ih =>
    intro v s h0 h1
    by_cases h : v < 128
    · rw [sizeL_small k v h]
      simp only [sumV]
      rw [Int.emod_eq_of_lt h0 h]
      omega
    · rw [sizeL_more k v h]
      simp only [sumV]
      rw [Int.pow_succ] at h1
      rw [ih (v / 128) (s + 7) (by omega) (Int.ediv_lt_of_lt_mul (by decide) h1), show (v % 128 + 128) % 128 = v % 128 from by omega, Int.pow_add, show (2 : Int) ^ 7 = 128 from rfl]
      have e : v = v % 128 + v / 128 * 128 := by omega
      have e2 : v / 128 * (2 ^ s * 128) = v / 128 * 128 * 2 ^ s := by
        rw [Int.mul_comm (2 ^ s) 128, ← Int.mul_assoc]
      rw [e2, ← Int.add_mul, ← e]
theorem sizeL_byte : ∀ (k : Nat) (v : Int), 0 ≤ v → ∀ x ∈ sizeL k v, 0 ≤ x ∧ x < 256 := by
  intro k
  induction k with
  | zero => intro v h0 x hx; simp [sizeL] at hx
  | succ k ih =>
    intro v h0 x hx
    by_cases h : v < 128
    · rw [sizeL_small k v h] at hx
      simp at hx
      omega
    · rw [sizeL_more k v h] at hx
      rcases List.mem_cons.1 hx with rfl | hx
      · omega
      · exact ih (v / 128) (by omega) x hx
theorem sizeL_len : ∀ (k : Nat) (v : Int), (sizeL k v).length ≤ k := by
  intro k
  induction k with
  | zero => intro v; simp [sizeL]
  | succ k ih =>
    intro v
    by_cases h : v < 128
    · rw [sizeL_small k v h]; simp
    · rw [sizeL_more k v h]
      have := ih (v / 128)
      simp
      omega
theorem size_back (l q : List Int) (v : Int) (h0 : 0 ≤ v) (h1 : v < 18446744073709551616) :
    sizeF (l ++ sizeL 10 v ++ q) l.length = (v, (l.length : Int) + (sizeL 10 v).length, 0) := by
  have hlt : v < 128 ^ 10 := Int.lt_of_lt_of_le h1 (by decide)
  have hG := sizeL_grp 10 v h0 hlt (by omega)
  have hp := hG.pos
  unfold sizeF
  rw [if_neg (by omega), if_neg (by simp; omega), Int.toNat_natCast, hG.lowL]
  simp only
  rw [hG.groups]
  have hs := sizeL_sum 10 v 0 h0 hlt
  rw [Int.pow_zero, Int.mul_one] at hs
  have hF : sumF 0 (sizeL 10 v) = (v, true) := by
    unfold sumF
    rw [hs, if_pos h1]
  rw [hF, if_pos rfl]
  simp only [Prod.mk.injEq]
  exact ⟨trivial, by omega, trivial⟩

theorem spanL_byte : ∀ (k : Nat) (u : Int), ∀ x ∈ spanL k u, 128 ≤ x ∧ x < 256 := by
  intro k
  induction k with
  | zero => intro u x hx; simp [spanL] at hx
  | succ k ih =>
    intro u x hx
    by_cases h : u ≤ 0
    · rw [spanL_none _ u h] at hx
      simp at hx
    · rw [spanL_more k u h] at hx
      rcases List.mem_cons.1 hx with rfl | hx
      · omega
      · exact ih _ x hx
theorem spanL_len : ∀ (k : Nat) (u : Int), (spanL k u).length ≤ k := by
  intro k
  induction k with
  | zero => intro u; simp [spanL]
  | succ k ih =>
    intro u
    by_cases h : u ≤ 0
    · rw [spanL_none _ u h]; simp
    · rw [spanL_more k u h]
      have := ih ((u - 1) / 128)
      simp
      omega
theorem spanL_read : ∀ (k : Nat) (u : Int) (T : List Int), 0 < u → u < 128 ^ k → u < 144115188075855872 →
    ∃ h R, (spanL k u).reverse = h :: R ∧ spanR (h % 128) (R ++ T) = spanR (u - 1) T := by
  intro k
  induction k with
  | zero => intro u T h0 h1; simp at h1; omega
  | succ k ih =>
    intro u T h0 h1 h2
    rw [spanL_more k u (by omega), List.reverse_cons]
    by_cases h : (u - 1) / 128 ≤ 0
    · rw [spanL_none _ _ h]
      refine ⟨(u - 1) % 128 + 128, [], rfl, ?_⟩
      rw [List.nil_append, show ((u - 1) % 128 + 128) % 128 = u - 1 from by omega]
    · rw [Int.pow_succ] at h1
      obtain ⟨x, R, e, hR⟩ := ih ((u - 1) / 128) (((u - 1) % 128 + 128) :: T) (by omega) (Int.ediv_lt_of_lt_mul (by decide) (by omega)) (by omega)
      refine ⟨x, R ++ [(u - 1) % 128 + 128], by rw [e]; rfl, ?_⟩
      rw [List.append_assoc, List.singleton_append, hR]
      simp only [spanR]
      rw [show ((u - 1) / 128 - 1 + 1) % 18446744073709551616 = (u - 1) / 128 from by omega, if_neg (by omega), show (u - 1) / 128 * 128 + ((u - 1) % 128 + 128) % 128 = u - 1 from by omega]
def spanG (v : Int) : List Int := ((v % 128) :: spanL 10 (v / 128)).reverse
theorem spanG_grp (v : Int) : Grp (spanG v) := by
  unfold spanG
  rw [List.reverse_cons]
  exact ⟨_, v % 128, rfl, fun x hx => (spanL_byte 10 (v / 128) x (by simpa using hx)).1, by omega⟩
theorem span_back (l q : List Int) (v : Int) (h0 : 0 ≤ v) (h1 : v < 18446744073709551616) :
    spanF (l ++ spanG v ++ q) l.length = (v, (l.length : Int) + (spanG v).length, 0) := by
  have hG := spanG_grp v
  have hp := hG.pos
  unfold spanF
  rw [if_neg (by omega), if_neg (by simp; omega), Int.toNat_natCast, hG.lowL]
  simp only
  rw [hG.groups]
  have hR : spanR ((spanG v).getD 0 0 % 128) ((spanG v).drop 1) = some v := by
    unfold spanG
    rw [List.reverse_cons]
    by_cases h : v / 128 ≤ 0
    · rw [spanL_none _ _ h]
      simp [spanR]
      omega
    · obtain ⟨x, R, e, hR⟩ := spanL_read 10 (v / 128) [v % 128] (by omega) (Int.lt_of_lt_of_le (show v / 128 < 144115188075855872 by omega) (by decide)) (by omega)
      rw [e]
      simp only [List.cons_append, List.drop_succ_cons, List.drop_zero, List.getD_cons_zero]
      rw [hR]
      simp only [spanR]
      rw [show (v / 128 - 1 + 1) % 18446744073709551616 = v / 128 from by omega, if_neg (by omega), show v / 128 * 128 + v % 128 % 128 = v from by omega]
  rw [hR]
  simp only [Prod.mk.injEq]
  exact ⟨trivial, by omega, trivial⟩
theorem headL_grp (kind v : Int) (hk0 : 0 ≤ kind) (hk1 : kind ≤ 7) (h0 : 0 ≤ v) (h1 : v < 18446744073709551616) : Grp (headL kind v) := by
  unfold headL
  split
  · exact Grp.one (by omega)
  · exact Grp.cons (by omega) (sizeL_grp 10 _ (by omega) (Int.lt_of_lt_of_le (show v / 16 < 18446744073709551616 by omega) (by decide)) (by omega))
theorem head_back (l q : List Int) (kind v : Int) (hk0 : 0 ≤ kind) (hk1 : kind ≤ 7) (h0 : 0 ≤ v) (h1 : v < 18446744073709551616) :
    headF (l ++ headL kind v ++ q) l.length = (kind, v, (l.length : Int) + (headL kind v).length, 0) := by
  have hG := headL_grp kind v hk0 hk1 h0 h1
  have hp := hG.pos
  unfold headF
  rw [if_neg (by omega), if_neg (by simp; omega), Int.toNat_natCast, hG.lowL]
  simp only
  rw [hG.groups]
  have hF : sumF 4 ((headL kind v).drop 1) = (v / 16 * 16, true) := by
    unfold headL sumF
    split
    · simp [sumV]
      omega
    · simp only [List.drop_succ_cons, List.drop_zero]
      rw [sizeL_sum 10 (v / 16) 4 (by omega) (Int.lt_of_lt_of_le (show v / 16 < 18446744073709551616 by omega) (by decide)), show (2 : Int) ^ 4 = 16 from rfl, if_pos (by omega)]
  have h00 : (headL kind v).getD 0 0 / 16 % 8 = kind ∧ v / 16 * 16 + (headL kind v).getD 0 0 % 16 = v := by
    unfold headL
    split
    · simp only [List.getD_cons_zero]
      omega
    · simp only [List.getD_cons_zero]
      omega
  rw [hF, if_pos rfl, h00.1, h00.2]
  simp only [Prod.mk.injEq]
  exact ⟨trivial, trivial, by omega, trivial⟩
theorem inBytes_app {a b : List Int} (ha : ∀ x ∈ a, 0 ≤ x ∧ x < 256) (hb : ∀ x ∈ b, 0 ≤ x ∧ x < 256) : ∀ x ∈ a ++ b, 0 ≤ x ∧ x < 256 := fun x hx => (List.mem_append.1 hx).elim (ha x) (hb x)
theorem twinU (l : List Int) (h : l.length < 140737488355328) : codicilref01_Twin.f l = some l := by simp [codicilref01_Twin.f, h]
theorem awakeU : codicillaw02_awake.f = some true := by decide +kernel
theorem wrapId (x : Int) (h0 : -9223372036854775808 ≤ x) (h1 : x ≤ 9223372036854775807) : wrap64 x = x := by
  simp only [wrap64]
  omega
theorem NumThere : codicillaw02_NumThere.Pure := by
  intro l q v kind _ hl hlb _ hq hqb hv hk
  have hv' : 0 ≤ v ∧ v ≤ 18446744073709551615 := by simpa [Lit.wf, IntKind.min, IntKind.max, IntKind.signed, IntKind.bits] using hv
  have hlb' : ∀ x ∈ l, 0 ≤ x ∧ x < 256 := fun x hx => by have := hlb x hx; simp [Lit.wf, IntKind.min, IntKind.max, IntKind.signed, IntKind.bits] at this; omega
  have hqb' : ∀ x ∈ q, 0 ≤ x ∧ x < 256 := fun x hx => by have := hqb x hx; simp [Lit.wf, IntKind.min, IntKind.max, IntKind.signed, IntKind.bits] at this; omega
  refine ⟨2, ?_⟩
  have hs := sizeL_len 10 v
  have hp : (spanG v).length ≤ 11 := by
    have := spanL_len 10 (v / 128)
    simp [spanG]
    omega
  have hh : (headL kind v).length ≤ 11 := by
    have := sizeL_len 10 (v / 16)
    unfold headL
    split <;> simp <;> omega
  have e1 : num_PutSize.f l v = some (l ++ sizeL 10 v) := by
    unfold num_PutSize.f
    rw [if_pos ⟨by omega, hv'.1, by omega⟩]
  have e2 : num_PutSpan.f l v = some (l ++ spanG v) := by
    unfold num_PutSpan.f
    rw [if_pos ⟨by omega, hv'.1, by omega⟩]
    rfl
  have e3 : num_Size.f (l ++ sizeL 10 v ++ q) l.length = some (v, (l.length : Int) + (sizeL 10 v).length, 0) := by
    unfold num_Size.f
    rw [if_pos ⟨inBytes_iff.2 (inBytes_app (inBytes_app hlb' (sizeL_byte 10 v hv'.1)) hqb'), by simp; omega⟩, size_back l q v hv'.1 (by omega)]
  have e4 : num_Span.f (l ++ spanG v ++ q) l.length = some (v, (l.length : Int) + (spanG v).length, 0) := by
    unfold num_Span.f
    have hb : ∀ x ∈ spanG v, 0 ≤ x ∧ x < 256 := fun x hx => by
      rcases List.mem_cons.1 (List.mem_reverse.1 hx) with rfl | hx
      · omega
      · have := spanL_byte 10 (v / 128) x hx
        omega
    rw [if_pos ⟨inBytes_iff.2 (inBytes_app (inBytes_app hlb' hb) hqb'), by simp; omega⟩, span_back l q v hv'.1 (by omega)]
  have hw1 : wrap64 (((l ++ sizeL 10 v ++ q).length : Int) - (q.length : Int)) = (l.length : Int) + (sizeL 10 v).length := by
    rw [wrapId _ (by simp; omega) (by simp; omega)]
    simp
    omega
  have hw2 : wrap64 (((l ++ spanG v ++ q).length : Int) - (q.length : Int)) = (l.length : Int) + (spanG v).length := by
    rw [wrapId _ (by simp; omega) (by simp; omega)]
    simp
    omega
  unfold codicillaw02_NumThere.f
  rw [awakeU, twinU l (by omega)]
  simp only [Option.bind_some, if_true]
  rw [e1, e2]
  simp only [Option.bind_some]
  rw [if_pos (by simp; omega), if_pos (by simp; omega), e3, e4]
  simp only [Option.bind_some, if_true]
  rw [hw1, hw2, if_pos rfl]
  simp only [codicillaw02_NumThere.j0]
  rw [if_neg (by simp), twinU l (by omega)]
  simp only [Option.bind_some]
  by_cases hk7 : kind < 0 ∨ 7 < kind
  · have e5 : num_PutHead.f l kind v = some ([], 1) := by
      unfold num_PutHead.f
      rw [if_pos hk7]
    rw [e5]
    simp only [Option.bind_some]
    rw [if_neg (by decide)]
    rcases hk7 with h | h
    · rw [if_pos h]; rfl
    · rw [if_neg (by omega), if_pos h]; rfl
  · have e5 : num_PutHead.f l kind v = some (l ++ headL kind v, 0) := by
      unfold num_PutHead.f
      rw [if_neg hk7, if_pos ⟨by omega, hv'.1, by omega⟩]
    have e6 : num_Head.f (l ++ headL kind v ++ q) l.length = some (kind, v, (l.length : Int) + (headL kind v).length, 0) := by
      unfold num_Head.f
      have hb : ∀ x ∈ headL kind v, 0 ≤ x ∧ x < 256 := fun x hx => by
        unfold headL at hx
        split at hx
        · simp at hx; omega
        · rcases List.mem_cons.1 hx with rfl | hx
          · omega
          · exact sizeL_byte 10 (v / 16) (by omega) x hx
      rw [if_pos ⟨inBytes_iff.2 (inBytes_app (inBytes_app hlb' hb) hqb'), by simp; omega⟩, head_back l q kind v (by omega) (by omega) hv'.1 (by omega)]
    have hw3 : wrap64 (((l ++ headL kind v ++ q).length : Int) - (q.length : Int)) = (l.length : Int) + (headL kind v).length := by
      rw [wrapId _ (by simp; omega) (by simp; omega)]
      simp
      omega
    rw [e5]
    simp only [Option.bind_some, if_true]
    rw [if_pos (by simp; omega), e6]
    simp only [Option.bind_some, if_true]
    rw [hw3]
    simp
end Go.Proofs.Ytiocipmnmjpkfaa.Pure
