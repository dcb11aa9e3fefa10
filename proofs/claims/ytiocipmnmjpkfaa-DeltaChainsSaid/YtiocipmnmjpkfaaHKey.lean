/- delta.Make's map: the base's pieces of sixteen bytes, by what stands in them. In plain Lean: what Make makes. -/
import Derived.Test.YtiocipmnmjpkfaaHMakeS
import Derived.Test.YtiocipmnmjpkfaaHPutCopy
import Derived.WideKeyArr
import Derived.Maps.OwnOps
import Derived.Maps.OwnSet
import Derived.Deep.MidRow
namespace Go.Proofs.Ytiocipmnmjpkfaa
set_option linter.unusedVariables false
set_option linter.unusedSimpArgs false
open Go.RowKit Go.Proofs.YtiocipmnmjpkfaaW.PrintWords Go.Proofs.YtiocipmnmjpkfaaW.PrintMore
open Go.Maps (Keyed)

/-- How many bytes are alike at the fronts. -/
def sameL : List Int → List Int → Nat
  | x :: a, y :: b => if x = y then sameL a b + 1 else 0
  | _, _ => 0
theorem sameL_le : ∀ (a b : List Int), sameL a b ≤ a.length ∧ sameL a b ≤ b.length := by
  intro a
  induction a with
  | nil => intro b; simp [sameL]
  | cons x a ih =>
    intro b
    cases b with
    | nil => simp [sameL]
    | cons y b =>
      have := ih b
      simp only [sameL, List.length_cons]
      split <;> omega
theorem sameL_take : ∀ (a b : List Int), a.take (sameL a b) = b.take (sameL a b) := by
  intro a
  induction a with
  | nil => intro b; simp [sameL]
  | cons x a ih =>
    intro b
    cases b with
    | nil => simp [sameL]
    | cons y b =>
      simp only [sameL]
      split
      · rename_i h
        simp only [List.take_succ_cons, h, ih b]
      · simp
theorem sameL_self : ∀ (a : List Int), sameL a a = a.length := by
  intro a
  induction a with
  | nil => rfl
  | cons x a ih => simp [sameL, ih]
theorem sameL_drop : ∀ (n : Nat) (a b : List Int), n ≤ sameL a b → sameL a b = n + sameL (a.drop n) (b.drop n) := by
  intro n
  induction n with
  | zero => intro a b _; simp
  | succ n ih =>
    intro a b h
    cases a with
    | nil => simp [sameL] at h
    | cons x a =>
      cases b with
      | nil => simp [sameL] at h
      | cons y b =>
        simp only [sameL] at h ⊢
        split at h
        · rename_i hxy
          rw [if_pos hxy, ih a b (by omega)]
          simp only [List.drop_succ_cons]
          omega
        · omega
theorem sameL_step (a b : List Int) (n : Nat) (hn : n ≤ sameL a b) (ha : n < a.length) (hb : n < b.length) : (a.getD n 0 = b.getD n 0 → n + 1 ≤ sameL a b) ∧ (a.getD n 0 ≠ b.getD n 0 → sameL a b = n) := by
  have h := sameL_drop n a b hn
  have ea : a.drop n = a.getD n 0 :: a.drop (n + 1) := by
    rw [List.drop_eq_getElem_cons ha]; simp [ha]
  have eb : b.drop n = b.getD n 0 :: b.drop (n + 1) := by
    rw [List.drop_eq_getElem_cons hb]; simp [hb]
  rw [ea, eb] at h
  simp only [sameL] at h
  constructor
  · intro e
    rw [if_pos e] at h
    omega
  · intro e
    rw [if_neg e] at h
    omega

/-- Sixteen bytes at i. -/
def pieceAt (l : List Int) (i : Nat) : List Int := (l.drop i).take 16
theorem pieceAt_len (l : List Int) (i : Nat) (h : i + 16 ≤ l.length) : (pieceAt l i).length = 16 := by
  simp [pieceAt]; omega
theorem pieceAt_bytes {l : List Int} (h : ∀ x ∈ l, 0 ≤ x ∧ x < 256) (i : Nat) : ∀ x ∈ pieceAt l i, 0 ≤ x ∧ x < 256 := fun x hx => h x (List.mem_of_mem_drop (List.mem_of_mem_take hx))
/-- Among the first r pieces, the first that is ks. -/
def firstAt (l : List Int) : Nat → List Int → Option Nat
  | 0, _ => none
  | r + 1, ks => match firstAt l r ks with
    | some j => some j
    | none => if pieceAt l (16 * r) = ks then some (16 * r) else none
theorem firstAt_lt (l ks : List Int) : ∀ (r j : Nat), firstAt l r ks = some j → j + 16 ≤ 16 * r := by
  intro r
  induction r with
  | zero => intro j h; simp [firstAt] at h
  | succ r ih =>
    intro j h
    simp only [firstAt] at h
    cases hp : firstAt l r ks with
    | some q =>
      rw [hp] at h
      simp only [Option.some.injEq] at h
      have := ih q hp
      omega
    | none =>
      rw [hp] at h
      simp only at h
      split at h
      · simp only [Option.some.injEq] at h; omega
      · cases h
/-- Where the base has what stands in the target at i, and how far both are alike from there. -/
def hitAt (base target : List Int) (i : Nat) : Nat × Nat :=
  if i + 16 ≤ target.length then match firstAt base (base.length / 16) (pieceAt target i) with
    | some j => (j, sameL (base.drop j) (target.drop i))
    | none => (0, 0)
  else (0, 0)
theorem hitAt_le (base target : List Int) (i : Nat) : (hitAt base target i).1 + (hitAt base target i).2 ≤ base.length ∧ (i < target.length → i + (hitAt base target i).2 ≤ target.length) := by
  unfold hitAt
  split
  · split
    · rename_i j hj
      have h1 := firstAt_lt _ _ _ _ hj
      have h2 := sameL_le (base.drop j) (target.drop i)
      simp only [List.length_drop] at h2
      omega
    · simp; omega
  · simp; omega
/-- What is held (the last byte ahead) may be copied too, back from at. -/
def backF (base : List Int) : List Int → Nat → Nat → List Int × Nat × Nat
  | x :: r, a + 1, n => if x = base.getD a 0 then backF base r a (n + 1) else (x :: r, a + 1, n)
  | [], a, n => ([], a, n)
  | x :: r, 0, n => (x :: r, 0, n)
/-- What is written where the base has n bytes at a, and held is held. -/
def outF (base held : List Int) (a n : Nat) : List Int := flushL (backF base held.reverse a n).1.reverse ++ copyL (backF base held.reverse a n).2.1 (backF base held.reverse a n).2.2
theorem outF_nil (base : List Int) (a n : Nat) : outF base [] a n = flushL [] ++ copyL a n := by
  unfold outF
  cases a <;> rfl
theorem outF_zero (base held : List Int) (n : Nat) : outF base held 0 n = flushL held ++ copyL ((0 : Nat) : Int) n := by
  unfold outF
  cases h : held.reverse with
  | nil =>
    have : held = [] := by simpa using h
    subst this
    rfl
  | cons x r =>
    have : (x :: r).reverse = held := by rw [← h, List.reverse_reverse]
    simp only [backF, this]
theorem outF_yes (base held : List Int) (x : Int) (a n : Nat) (h : x = base.getD a 0) : outF base (held ++ [x]) (a + 1) n = outF base held a (n + 1) := by
  unfold outF
  simp only [List.reverse_append, List.reverse_cons, List.reverse_nil, List.nil_append, List.singleton_append, backF]
  rw [if_pos h]
theorem outF_no (base held : List Int) (x : Int) (a n : Nat) (h : x ≠ base.getD a 0) : outF base (held ++ [x]) (a + 1) n = flushL (held ++ [x]) ++ copyL ((a + 1 : Nat) : Int) n := by
  unfold outF
  simp only [List.reverse_append, List.reverse_cons, List.reverse_nil, List.nil_append, List.singleton_append, backF]
  rw [if_neg h]
  simp
/-- What Make writes from i on, where held is held. -/
def mkF (base target : List Int) (i : Nat) (held : List Int) : List Int :=
  if h : i < target.length then
    if h2 : (hitAt base target i).2 < 16 then mkF base target (i + 1) (held ++ [target.getD i 0])
    else outF base held (hitAt base target i).1 (hitAt base target i).2 ++ mkF base target (i + (hitAt base target i).2) []
  else flushL held
termination_by target.length - i
decreasing_by all_goals omega
theorem mkF_end (base target held : List Int) (i : Nat) (h : ¬ i < target.length) : mkF base target i held = flushL held := by
  rw [mkF, dif_neg h]
theorem mkF_hold (base target held : List Int) (i : Nat) (h : i < target.length) (h2 : (hitAt base target i).2 < 16) : mkF base target i held = mkF base target (i + 1) (held ++ [target.getD i 0]) := by
  rw [mkF, dif_pos h, dif_pos h2]
theorem mkF_copy (base target held : List Int) (i : Nat) (h : i < target.length) (h2 : ¬ (hitAt base target i).2 < 16) : mkF base target i held = outF base held (hitAt base target i).1 (hitAt base target i).2 ++ mkF base target (i + (hitAt base target i).2) [] := by
  rw [mkF, dif_pos h, dif_neg h2]
/-- What Make makes. -/
def makeF (base target : List Int) : List Int := sizeL 10 base.length ++ sizeL 10 target.length ++ mkF base target 0 []

/-! The keys. -/
def keyV (ks : List Int) : Value := .agg (nums .u8 ks).toArray
theorem key_arr : WideMaps.ArrKey Try.prog 71 5 16 := ⟨Try.underlying71, by kernel_rfl, by kernel_rfl, by kernel_rfl⟩
theorem lawK16 : Keyed Try.prog 71 := Keyed.of_law key_arr.law
theorem mapM_all {α β : Type} {f : α → Option β} : ∀ (l : List α), (∀ x ∈ l, ∃ y, f x = some y) → ∃ ys, l.mapM f = some ys := by
  intro l
  induction l with
  | nil => intro _; exact ⟨[], rfl⟩
  | cons x r ih =>
    intro h
    obtain ⟨y, hy⟩ := h x List.mem_cons_self
    obtain ⟨ys, hys⟩ := ih fun z hz => h z (List.mem_cons_of_mem _ hz)
    exact ⟨y :: ys, by rw [List.mapM_cons, hy, hys]; rfl⟩
theorem prog_types : ∃ m, Try.prog.types.size = m + 2 := by
  have h : decide (2 ≤ Try.prog.types.size) = true := by kernel_rfl
  have := of_decide_eq_true h
  exact ⟨Try.prog.types.size - 2, by omega⟩
theorem key_of (ks : List Int) (h : ks.length = 16) (hb : ∀ x ∈ ks, 0 ≤ x ∧ x < 256) : ∃ kl, keyOf Try.prog 71 (keyV ks) = some kl := by
  obtain ⟨m, hm⟩ := prog_types
  have hty := key_arr.keyType ⟨m + 1, hm⟩
  have hf : (keyV ks).formed Try.prog 71 = true := by
    unfold keyV Value.formed
    rw [Try.underlying71]
    simp [key_arr.size, nums, h]
  have hl : ∃ ls, Try.prog.keyLits (Try.prog.types.size + 1) 71 (nums .u8 ks) = some ls := by
    rw [hm]
    unfold Program.keyLits
    simp only [Try.underlying71, key_arr.size, key_arr.one]
    rw [if_pos (by simp [nums, h])]
    obtain ⟨ys, hys⟩ := mapM_all (f := fun i => Try.prog.keyLits (m + 2) 5 (((nums .u8 ks).drop (i * 1)).take 1)) (List.range 16) (by
      intro i hi
      have hi16 : i < ks.length := by rw [h]; exact List.mem_range.1 hi
      have e : ((nums .u8 ks).drop (i * 1)).take 1 = [.int .u8 ks[i]] := by
        rw [Nat.mul_one, List.drop_eq_getElem_cons (by simpa [nums] using hi16)]
        simp [nums]
      rw [e]
      unfold Program.keyLits
      have hx := hb _ (List.getElem_mem hi16)
      simp only [Try.underlying5]
      exact ⟨_, if_pos ⟨trivial, WalkArith.wf_u8 (by omega)⟩⟩)
    exact ⟨_, by rw [hys]; rfl⟩
  obtain ⟨ls, hls⟩ := hl
  refine ⟨.string (keyBytes ls), ?_⟩
  unfold keyOf
  rw [Try.underlying71]
  simp only [hty, hf, Bool.and_self, if_true]
  have e : (keyV ks).cells.toList = nums .u8 ks := by simp [keyV, Value.cells]
  rw [e, hls]
  rfl
theorem nums_inj : ∀ {a b : List Int}, nums .u8 a = nums .u8 b → a = b := by
  intro a
  induction a with
  | nil => intro b h; cases b with
    | nil => rfl
    | cons y b => simp [nums] at h
  | cons x a ih =>
    intro b h
    cases b with
    | nil => simp [nums] at h
    | cons y b =>
      simp only [nums, List.map_cons, List.cons.injEq, Value.int.injEq, true_and] at h
      rw [h.1, ih h.2]
theorem keyV_inj {a b : List Int} (h : keyV a = keyV b) : a = b := by
  unfold keyV at h
  injection h with h
  exact nums_inj (by simpa using congrArg Array.toList h)
/-- The map holds the first r pieces. -/
structure MapIs (D : DataW Unit) (l : List Int) (r : Nat) : Prop where
  map : Maps.IsMap D
  has : ∀ ks kl, keyOf Try.prog 71 (keyV ks) = some kl → Maps.has D kl = (firstAt l r ks).isSome
  at_ : ∀ ks kl j, keyOf Try.prog 71 (keyV ks) = some kl → firstAt l r ks = some j → ∀ z, D.atKey kl z = .lit (.int .i64 j)
theorem MapIs.empty (l : List Int) : MapIs (.map [] : DataW Unit) l 0 := ⟨Maps.isMap_empty, fun ks kl _ => by simp [Maps.has_eq, firstAt], fun ks kl j _ h => by cases h⟩
theorem MapIs.skip {D : DataW Unit} {l : List Int} {r j : Nat} (hD : MapIs D l r) (h : firstAt l r (pieceAt l (16 * r)) = some j) : MapIs D l (r + 1) := by
  have e : ∀ ks, firstAt l (r + 1) ks = firstAt l r ks := by
    intro ks
    simp only [firstAt]
    cases hp : firstAt l r ks with
    | some q => rfl
    | none =>
      simp only
      rw [if_neg]
      rintro rfl
      rw [hp] at h
      cases h
  exact ⟨hD.map, fun ks kl hk => by rw [e]; exact hD.has ks kl hk, fun ks kl j hk hj => hD.at_ ks kl j hk (by rw [← e]; exact hj)⟩
theorem MapIs.put {D : DataW Unit} {l : List Int} {r : Nat} {kl0 : Lit} (hD : MapIs D l r) (h0 : keyOf Try.prog 71 (keyV (pieceAt l (16 * r))) = some kl0) (h : firstAt l r (pieceAt l (16 * r)) = none) : MapIs (D.put kl0 (.lit (.int .i64 ((16 * r : Nat) : Int)))) l (r + 1) := by
  have hkey := lawK16.key h0
  have e1 : firstAt l (r + 1) (pieceAt l (16 * r)) = some (16 * r) := by simp [firstAt, h]
  have e2 : ∀ ks, ks ≠ pieceAt l (16 * r) → firstAt l (r + 1) ks = firstAt l r ks := by
    intro ks hne
    simp only [firstAt]
    cases hp : firstAt l r ks with
    | some q => rfl
    | none => simp only; rw [if_neg (fun e => hne e.symm)]
  have hne : ∀ ks kl, keyOf Try.prog 71 (keyV ks) = some kl → ks ≠ pieceAt l (16 * r) → kl ≠ kl0 := by
    rintro ks kl hk hks rfl
    exact hks (keyV_inj (lawK16.inj hk h0))
  refine ⟨hD.map.put _ _, fun ks kl hk => ?_, fun ks kl j hk hj z => ?_⟩
  · by_cases hks : ks = pieceAt l (16 * r)
    · subst hks
      rw [h0] at hk
      cases hk
      rw [e1, Maps.has_put_same hD.map hkey]
      rfl
    · rw [e2 ks hks, Maps.has_put_other (hne ks kl hk hks)]
      exact hD.has ks kl hk
  · by_cases hks : ks = pieceAt l (16 * r)
    · subst hks
      rw [h0] at hk
      cases hk
      rw [e1] at hj
      cases hj
      exact Maps.atKey_put_same hD.map hkey _ _
    · rw [e2 ks hks] at hj
      rw [Maps.atKey_put_other (hne ks kl hk hks)]
      exact hD.at_ ks kl j hk hj z
end Go.Proofs.Ytiocipmnmjpkfaa
