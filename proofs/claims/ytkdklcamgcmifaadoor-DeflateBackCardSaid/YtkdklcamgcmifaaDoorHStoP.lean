/- Inflate over blocks of way 0, in plain Lean. -/
import Derived.Test.YtkdklcamgcmifaaDoorHEndsP
namespace Go.Proofs.YtkdklcamgcmifaaDoor
set_option linter.unusedVariables false
set_option linter.unusedSimpArgs false
/-- What stands from a byte on. -/
theorem numB_shift {pre l : List Int} : ∀ b, numB (pre ++ l) / 2 ^ (8 * pre.length + b) % 2 ^ 0 = 0 := fun b => by simp [Nat.mod_one]
theorem numB_lo : ∀ {l : List Int}, (∀ x ∈ l, 0 ≤ x ∧ x < 256) → numB l < 2 ^ (8 * l.length) := by
  intro l
  induction l with
  | nil => intro _; simp [numB]
  | cons b l ih =>
    intro h
    have h1 := ih fun x hx => h x (List.mem_cons_of_mem _ hx)
    have h2 := h b List.mem_cons_self
    simp only [numB, List.length_cons]
    rw [show 8 * (l.length + 1) = 8 * l.length + 8 from by omega, Nat.pow_add]
    omega
theorem numB_at {pre l : List Int} (h : ∀ x ∈ pre, 0 ≤ x ∧ x < 256) (b : Nat) : numB (pre ++ l) / 2 ^ (8 * pre.length + b) = numB l / 2 ^ b := by
  rw [Nat.pow_add, ← Nat.div_div_eq_div_mul, numB_app, Nat.add_mul_div_left _ _ (Nat.pow_pos (by decide)), Nat.div_eq_of_lt (numB_lo h), Nat.zero_add]
theorem tk_at {pre l : List Int} (h : ∀ x ∈ pre, 0 ≤ x ∧ x < 256) {n b q : Nat} (hq : q = 8 * pre.length + b) (hb : b + n ≤ 8 * l.length) : tk n (numB (pre ++ l)) (8 * (pre ++ l).length) q = .ok (numB l / 2 ^ b % 2 ^ n, q + n) := by
  subst hq
  unfold tk
  rw [if_pos (by rw [List.length_append]; omega), numB_at h]
theorem numB_two (a b : Int) (l : List Int) (ha : 0 ≤ a ∧ a < 256) (hb : 0 ≤ b ∧ b < 256) : numB (a :: b :: l) % 65536 = a.toNat + 256 * b.toNat := by
  simp only [numB]
  omega
theorem bytO_over (most : Nat) : ∀ (x pre rest out : List Int), (∀ y ∈ pre, 0 ≤ y ∧ y < 256) → (∀ y ∈ x, 0 ≤ y ∧ y < 256) → out.length + x.length ≤ most →
    bytO most x.length out (numB (pre ++ (x ++ rest))) (8 * (pre ++ (x ++ rest)).length) (8 * pre.length) = .ok (out ++ x, 8 * (pre.length + x.length)) := by
  intro x
  induction x with
  | nil => intro pre rest out _ _ _; simp [bytO, retR]
  | cons b x ih =>
    intro pre rest out hp hx hm
    have hb := hx b List.mem_cons_self
    simp only [List.length_cons] at hm
    have h1 := tk_at (pre := pre) (l := b :: x ++ rest) hp (n := 8) (b := 0) (q := 8 * pre.length) (by omega) (by simp; omega)
    have hv : numB (b :: x ++ rest) / 2 ^ 0 % 2 ^ 8 = b.toNat := by
      simp only [List.cons_append, numB, Nat.pow_zero, Nat.div_one]
      omega
    rw [hv] at h1
    simp only [List.length_cons]
    unfold bytO bndR
    rw [h1]
    show onO (putO most out ((b.toNat : Nat) : Int)) (bytO most x.length) _ _ _ = _
    have he : ((b.toNat : Nat) : Int) = b := by omega
    rw [he]
    unfold putO
    rw [if_neg (by omega)]
    show bytO most x.length (out ++ [b]) _ _ _ = _
    have h2 := ih (pre ++ [b]) rest (out ++ [b]) (fun y hy => (List.mem_append.1 hy).elim (hp y) fun h => by simp at h; subst h; exact hb) (fun y hy => hx y (List.mem_cons_of_mem _ hy)) (by simp; omega)
    have e1 : pre ++ [b] ++ (x ++ rest) = pre ++ (b :: x ++ rest) := by simp
    rw [e1] at h2
    have e2 : 8 * (pre ++ [b]).length = 8 * pre.length + 8 := by simp; omega
    rw [e2] at h2
    rw [h2]
    simp only [List.length_append, List.length_singleton, List.append_assoc, List.singleton_append, Except.ok.injEq, Prod.mk.injEq, true_and]
    omega
/-- The head of a block of way 0. -/
def hdS (f : Int) (n : Nat) : List Int := [f, ((n % 256 : Nat) : Int), ((n / 256 : Nat) : Int), 255 - ((n % 256 : Nat) : Int), 255 - ((n / 256 : Nat) : Int)]
theorem hdS_len (f : Int) (n : Nat) : (hdS f n).length = 5 := rfl
theorem hdS_by {f : Int} {n : Nat} (hf : f = 0 ∨ f = 1) (hn : n < 65536) : ∀ y ∈ hdS f n, 0 ≤ y ∧ y < 256 := by
  intro y hy
  simp only [hdS, List.mem_cons, List.not_mem_nil, or_false] at hy
  rcases hy with rfl | rfl | rfl | rfl | rfl <;> omega
theorem stoO_over {most : Nat} {x pre rest out : List Int} {f : Int} {q : Nat} (hp : ∀ y ∈ pre, 0 ≤ y ∧ y < 256) (hx : ∀ y ∈ x, 0 ≤ y ∧ y < 256) (hf : f = 0 ∨ f = 1) (hn : x.length < 65536) (hm : out.length + x.length ≤ most) (hq : (q + 7) / 8 * 8 = 8 * (pre.length + 1)) :
    stoO most out (numB (pre ++ (hdS f x.length ++ (x ++ rest)))) (8 * (pre ++ (hdS f x.length ++ (x ++ rest))).length) q = .ok (out ++ x, 8 * (pre.length + 5 + x.length)) := by
  unfold stoO
  rw [hq]
  have hfb : ∀ y ∈ pre ++ [f], 0 ≤ y ∧ y < 256 := fun y hy => (List.mem_append.1 hy).elim (hp y) fun h => by simp at h; subst h; omega
  have e0 : pre ++ (hdS f x.length ++ (x ++ rest)) = (pre ++ [f]) ++ ([((x.length % 256 : Nat) : Int), ((x.length / 256 : Nat) : Int), 255 - ((x.length % 256 : Nat) : Int), 255 - ((x.length / 256 : Nat) : Int)] ++ (x ++ rest)) := by simp [hdS]
  have h1 := tk_at (l := [((x.length % 256 : Nat) : Int), ((x.length / 256 : Nat) : Int), 255 - ((x.length % 256 : Nat) : Int), 255 - ((x.length / 256 : Nat) : Int)] ++ (x ++ rest)) hfb (n := 16) (b := 0) (q := 8 * (pre.length + 1)) (by simp) (by simp; omega)
  rw [← e0] at h1
  have hv : numB ([((x.length % 256 : Nat) : Int), ((x.length / 256 : Nat) : Int), 255 - ((x.length % 256 : Nat) : Int), 255 - ((x.length / 256 : Nat) : Int)] ++ (x ++ rest)) / 2 ^ 0 % 2 ^ 16 = x.length := by
    have := numB_two ((x.length % 256 : Nat) : Int) ((x.length / 256 : Nat) : Int) ((255 - ((x.length % 256 : Nat) : Int)) :: (255 - ((x.length / 256 : Nat) : Int)) :: (x ++ rest)) (by omega) (by omega)
    simp only [List.cons_append, List.nil_append, Nat.pow_zero, Nat.div_one]
    rw [show 2 ^ 16 = 65536 from rfl, this]
    omega
  rw [hv] at h1
  unfold bndR
  rw [h1]
  have hgb : ∀ y ∈ pre ++ [f, ((x.length % 256 : Nat) : Int), ((x.length / 256 : Nat) : Int)], 0 ≤ y ∧ y < 256 := by
    intro y hy
    rcases List.mem_append.1 hy with h | h
    · exact hp y h
    · simp only [List.mem_cons, List.not_mem_nil, or_false] at h
      rcases h with rfl | rfl | rfl <;> omega
  have e1 : pre ++ (hdS f x.length ++ (x ++ rest)) = (pre ++ [f, ((x.length % 256 : Nat) : Int), ((x.length / 256 : Nat) : Int)]) ++ ([255 - ((x.length % 256 : Nat) : Int), 255 - ((x.length / 256 : Nat) : Int)] ++ (x ++ rest)) := by simp [hdS]
  have h2 := tk_at (l := [255 - ((x.length % 256 : Nat) : Int), 255 - ((x.length / 256 : Nat) : Int)] ++ (x ++ rest)) hgb (n := 16) (b := 0) (q := 8 * (pre.length + 1) + 16) (by simp; omega) (by simp; omega)
  rw [← e1] at h2
  have hv2 : numB ([255 - ((x.length % 256 : Nat) : Int), 255 - ((x.length / 256 : Nat) : Int)] ++ (x ++ rest)) / 2 ^ 0 % 2 ^ 16 = 65535 - x.length := by
    have := numB_two (255 - ((x.length % 256 : Nat) : Int)) (255 - ((x.length / 256 : Nat) : Int)) (x ++ rest) (by omega) (by omega)
    simp only [List.cons_append, List.nil_append, Nat.pow_zero, Nat.div_one]
    rw [show 2 ^ 16 = 65536 from rfl, this]
    omega
  rw [hv2] at h2
  simp only []
  rw [h2]
  simp only []
  rw [if_neg (by omega)]
  have hkb : ∀ y ∈ pre ++ hdS f x.length, 0 ≤ y ∧ y < 256 := fun y hy => (List.mem_append.1 hy).elim (hp y) (hdS_by hf hn y)
  have h3 := bytO_over most x (pre ++ hdS f x.length) rest out hkb hx hm
  rw [List.append_assoc] at h3
  have e3 : 8 * (pre ++ hdS f x.length).length = 8 * (pre.length + 1) + 16 + 16 := by simp [hdS]; omega
  rw [e3] at h3
  rw [h3]
  simp [hdS]
/-- A stream of blocks of way 0. -/
def strS : List (List Int) → List Int
  | [] => []
  | x :: r => hdS (if r = [] then 1 else 0) x.length ++ (x ++ strS r)
theorem strS_by : ∀ (ps : List (List Int)), (∀ x ∈ ps, x.length < 65536 ∧ ∀ y ∈ x, 0 ≤ y ∧ y < 256) → ∀ y ∈ strS ps, 0 ≤ y ∧ y < 256 := by
  intro ps
  induction ps with
  | nil => intro _ y hy; simp [strS] at hy
  | cons x r ih =>
    intro h y hy
    have hx := h x List.mem_cons_self
    rw [strS] at hy
    rcases List.mem_append.1 hy with h1 | h1
    · exact hdS_by (by split <;> omega) hx.1 y h1
    · rcases List.mem_append.1 h1 with h2 | h2
      · exact hx.2 y h2
      · exact ih (fun z hz => h z (List.mem_cons_of_mem _ hz)) y h2
theorem runO_over (most F : Nat) : ∀ (ps : List (List Int)) (pre rest out : List Int) (k : Nat), ps ≠ [] → (∀ y ∈ pre, 0 ≤ y ∧ y < 256) → (∀ x ∈ ps, x.length < 65536 ∧ ∀ y ∈ x, 0 ≤ y ∧ y < 256) → out.length + ps.flatten.length ≤ most → ps.length ≤ k →
    runO most F k out (numB (pre ++ (strS ps ++ rest))) (8 * (pre ++ (strS ps ++ rest)).length) (8 * pre.length) = .ok (out ++ ps.flatten, 8 * (pre.length + (strS ps).length)) := by
  intro ps
  induction ps with
  | nil => intro pre rest out k h; exact absurd rfl h
  | cons x r ih =>
    intro pre rest out k _ hp hx hm hk
    obtain ⟨k, rfl⟩ : ∃ j, k = j + 1 := ⟨k - 1, by simp at hk; omega⟩
    have hx0 := hx x List.mem_cons_self
    simp only [List.flatten_cons, List.length_append] at hm
    obtain ⟨f, hf⟩ : ∃ f : Int, f = if r = [] then 1 else 0 := ⟨_, rfl⟩
    have hf01 : f = 0 ∨ f = 1 := by rw [hf]; split <;> omega
    have es : strS (x :: r) ++ rest = hdS f x.length ++ (x ++ (strS r ++ rest)) := by rw [strS, hf]; simp
    rw [es]
    have h1 := tk_at (pre := pre) (l := hdS f x.length ++ (x ++ (strS r ++ rest))) hp (n := 1) (b := 0) (q := 8 * pre.length) (by omega) (by simp [hdS]; omega)
    have h2 := tk_at (pre := pre) (l := hdS f x.length ++ (x ++ (strS r ++ rest))) hp (n := 2) (b := 1) (q := 8 * pre.length + 1) (by omega) (by simp [hdS]; omega)
    have v1 : numB (hdS f x.length ++ (x ++ (strS r ++ rest))) / 2 ^ 0 % 2 ^ 1 = f.toNat := by
      simp only [hdS, List.cons_append, numB, Nat.pow_zero, Nat.div_one]
      omega
    have v2 : numB (hdS f x.length ++ (x ++ (strS r ++ rest))) / 2 ^ 1 % 2 ^ 2 = 0 := by
      simp only [hdS, List.cons_append, numB]
      omega
    rw [v1] at h1
    rw [v2] at h2
    have h3 := stoO_over (most := most) (q := 8 * pre.length + 1 + 2) (rest := strS r ++ rest) (out := out) hp hx0.2 hf01 hx0.1 (by omega) (by omega)
    unfold runO bndR
    rw [h1]
    simp only []
    rw [h2]
    simp only [blkO, if_true]
    rw [h3]
    simp only []
    by_cases hr : r = []
    · subst hr
      rw [if_pos rfl] at hf
      subst hf
      simp [retR, strS, hdS]
      omega
    · rw [if_neg hr] at hf
      subst hf
      rw [if_neg (by decide)]
      have hb : ∀ y ∈ pre ++ (hdS 0 x.length ++ x), 0 ≤ y ∧ y < 256 := by
        intro y hy
        rcases List.mem_append.1 hy with h | h
        · exact hp y h
        · rcases List.mem_append.1 h with h | h
          · exact hdS_by (.inl rfl) hx0.1 y h
          · exact hx0.2 y h
      have h4 := ih (pre ++ (hdS 0 x.length ++ x)) rest (out ++ x) k hr hb (fun z hz => hx z (List.mem_cons_of_mem _ hz)) (by rw [List.length_append]; omega) (by simp at hk; omega)
      have e4 : pre ++ (hdS 0 x.length ++ x) ++ (strS r ++ rest) = pre ++ (hdS 0 x.length ++ (x ++ (strS r ++ rest))) := by simp
      rw [e4] at h4
      have e5 : 8 * (pre ++ (hdS 0 x.length ++ x)).length = 8 * (pre.length + 5 + x.length) := by simp [hdS]; omega
      rw [e5] at h4
      rw [h4]
      simp only [strS, if_neg hr, List.length_append, List.flatten_cons, List.append_assoc, hdS_len, Except.ok.injEq, Prod.mk.injEq, true_and]
      omega
theorem strS_len (ps : List (List Int)) : (strS ps).length = 5 * ps.length + ps.flatten.length := by
  induction ps with
  | nil => rfl
  | cons x r ih =>
    rw [strS]
    simp only [List.length_append, hdS_len, ih, List.length_cons, List.flatten_cons]
    omega
theorem strO_stored {ps : List (List Int)} {rest : List Int} {m : Nat} (h0 : ps ≠ []) (hx : ∀ x ∈ ps, x.length < 65536 ∧ ∀ y ∈ x, 0 ≤ y ∧ y < 256) (hm : ps.flatten.length ≤ m) : strO (strS ps ++ rest) m = .ok (ps.flatten, 8 * (strS ps).length) := by
  have h := runO_over m (8 * (strS ps ++ rest).length + 1) ps [] rest [] (8 * (strS ps ++ rest).length + 1) h0 (by simp) hx (by simpa using hm) (by
    have := strS_len ps
    rw [List.length_append]
    omega)
  simpa [strO] using h
end Go.Proofs.YtkdklcamgcmifaaDoor
