/- PutCopy writes just the instruction that the document says, and it copies just what it names. No condition. -/
import Derived.Test.YtiocipmnmjpkfaaPDCx2
import Derived.Test.YtiocipmnmjpkfaaHCopyL
namespace Go.Proofs.Ytiocipmnmjpkfaa.Pure
open Go.RowKit Go.Proofs.Ytiocipmnmjpkfaa Go.Proofs.YtiocipmnmjpkfaaW.PrintWords Go.Proofs.YtiocipmnmjpkfaaW.PrintLast Go.Proofs.YtiocipmnmjpkfaaW.PrintMore Go.Proofs.Ytiocipmnmjpkfaa.PDC
theorem dc_twin (l : List Int) (hl : l.length ≤ 140737488351232) : codicilref01_Twin.f l = some l := by
  unfold codicilref01_Twin.f
  rw [if_pos (by simp; omega)]
  rfl
theorem dc_same (l : List Int) : codicilref01_Same.f l l = some true := by simp [codicilref01_Same.f]
/-- Two bytes of a size, at a place. -/
theorem size_two (a b : Int) (l rest : List Int) (ha : 128 ≤ a ∧ a < 256) (hb : 0 ≤ b ∧ b < 128) : sizeF (l ++ a :: b :: rest) l.length = (a % 128 + b * 128, (l.length : Int) + 2, 0) := by
  have hd : (l ++ a :: b :: rest).drop l.length = a :: b :: rest := by simp
  have hlow : lowAt (a :: b :: rest) = some 1 := by
    unfold lowAt
    rw [List.findIdx?_cons, decide_eq_false (by omega), List.findIdx?_cons, decide_eq_true hb.2]
    rfl
  have hs : sumV 0 [a, b] = a % 128 + b * 128 := by simp [sumV]; omega
  have hg : groupsL (l ++ a :: b :: rest) l.length 1 = [a, b] := by unfold groupsL; rw [hd]; rfl
  unfold sizeF
  rw [if_neg (by omega), if_neg (by simp; omega), Int.toNat_natCast, hd, hlow]
  simp only [hg]
  have hf : sumF 0 [a, b] = (a % 128 + b * 128, true) := by
    unfold sumF
    rw [hs, if_pos (by omega)]
  rw [hf, if_pos rfl]
  simp
  omega
theorem size_three (a b c : Int) (rest : List Int) (ha : 128 ≤ a ∧ a < 256) (hb : 128 ≤ b ∧ b < 256) (hc : 0 ≤ c ∧ c < 128) : sizeF (a :: b :: c :: rest) 0 = (a % 128 + b % 128 * 128 + c * 16384, 3, 0) := by
  have hlow : lowAt (a :: b :: c :: rest) = some 2 := by
    unfold lowAt
    rw [List.findIdx?_cons, decide_eq_false (by omega), List.findIdx?_cons, decide_eq_false (by omega), List.findIdx?_cons, decide_eq_true hc.2]
    rfl
  have hs : sumV 0 [a, b, c] = a % 128 + b % 128 * 128 + c * 16384 := by simp [sumV]; omega
  have hg : groupsL (a :: b :: c :: rest) 0 2 = [a, b, c] := by unfold groupsL; rfl
  unfold sizeF
  rw [if_neg (by omega), if_neg (by simp; omega), Int.toNat_zero, List.drop_zero, hlow]
  simp only [hg]
  have hf : sumF 0 [a, b, c] = (a % 128 + b % 128 * 128 + c * 16384, true) := by
    unfold sumF
    rw [hs, if_pos (by omega)]
  rw [hf, if_pos rfl]
  rfl
theorem apply_head (base d : List Int) (most v p1 p2 : Int) (h0 : sizeF d 0 = ((base.length : Int), p1, 0)) (h1 : sizeF d p1 = (v, p2, 0)) (hv : v ≤ most) (hm0 : 0 ≤ most) (hm : most ≤ 1048576) :
    applyF base d most = runF base v.toNat ((d.drop p2.toNat).length + 1) [] (d.drop p2.toNat) := by
  unfold applyF
  rw [if_neg (by omega), h0]
  dsimp only
  rw [if_neg (by simp), if_neg (by simp), h1]
  dsimp only
  rw [if_neg (by simp), if_neg (by omega)]
theorem run_copy (x : List Int) (at_ n : Nat) (h1 : 1 ≤ n) (h2 : n ≤ 3000) (h3 : at_ ≤ 3000) (hx : at_ + n ≤ x.length) : runF x n ((copyL (at_ : Int) (n : Int)).length + 1) [] (copyL (at_ : Int) (n : Int)) = (0, (x.drop at_).take n) := by
  have ho := one_copy x [] at_ n (by omega) h1 (by omega) hx
  rw [List.append_nil] at ho
  have hl : ((x.drop at_).take n).length = n := by rw [List.length_take, List.length_drop]; omega
  unfold copyL
  rw [runF_cons, ho]
  dsimp only
  rw [if_pos rfl, if_neg (by rw [List.length_nil, hl]; omega), List.length_cons, runF_nil, List.nil_append, if_pos hl]
def dcHead (L n : Int) (c : List Int) : List Int := (L % 128 + 128) :: (L / 128 % 128 + 128) :: (L / 16384) :: (n % 128 + 128) :: (n / 128) :: c
theorem dc_apply (x c : List Int) (n : Nat) (h2 : n ≤ 3000) (hx : x.length ≤ 6005) :
    applyF x (dcHead x.length n c) n = runF x n (c.length + 1) [] c := by
  have s0 := size_three ((x.length : Int) % 128 + 128) ((x.length : Int) / 128 % 128 + 128) ((x.length : Int) / 16384) (((n : Int) % 128 + 128) :: ((n : Int) / 128) :: c) (by omega) (by omega) (by omega)
  have s1 := size_two ((n : Int) % 128 + 128) ((n : Int) / 128) [(x.length : Int) % 128 + 128, (x.length : Int) / 128 % 128 + 128, (x.length : Int) / 16384] c (by omega) (by omega)
  have e0 : ((x.length : Int) % 128 + 128) % 128 + ((x.length : Int) / 128 % 128 + 128) % 128 * 128 + (x.length : Int) / 16384 * 16384 = x.length := by omega
  have e1 : ((n : Int) % 128 + 128) % 128 + (n : Int) / 128 * 128 = n := by omega
  rw [e0] at s0
  rw [e1] at s1
  have h := apply_head x (dcHead x.length n c) n n 3 5 s0 s1 (Int.le_refl _) (by omega) (by omega)
  rw [h, Int.toNat_natCast]
  rfl
theorem w64_small (x : Int) (h0 : 0 ≤ x) (h1 : x < 1000000) : wrap64 x = x := by simp [wrap64]; omega
theorem dc_sum (at_ n : Nat) (h2 : n ≤ 3000) (h3 : at_ ≤ 3000) : wrap64 ((at_ : Int) + n) = (at_ : Int) + n := w64_small _ (by omega) (by omega)
theorem dc_e1 (L : Nat) (hL : L ≤ 6005) : (Int.tmod (wrap64 ((L : Int) / 128)) 128 + 128) % 256 = (L : Int) / 128 % 128 + 128 := by
  rw [w64_small _ (by omega) (by omega), Int.tmod_eq_emod_of_nonneg (show 0 ≤ (L : Int) / 128 by omega)]
  omega
theorem dc_e2 (L : Nat) (hL : L ≤ 6005) : wrap64 ((L : Int) / 16384) % 256 = (L : Int) / 16384 := by
  rw [w64_small _ (by omega) (by omega)]
  omega
theorem dc_e3 (n : Nat) (hn : n ≤ 3000) : (Int.tmod (n : Int) 128 + 128) % 256 = (n : Int) % 128 + 128 := by
  rw [Int.tmod_eq_emod_of_nonneg (show 0 ≤ (n : Int) by omega)]
  omega
theorem dc_e4 (n : Nat) (hn : n ≤ 3000) : wrap64 (Int.tdiv (n : Int) 128) % 256 = (n : Int) / 128 := by
  rw [Int.tdiv_eq_ediv_of_nonneg (show 0 ≤ (n : Int) by omega), w64_small _ (by omega) (by omega)]
  omega
theorem dc_head_eq (L n : Nat) (hL : L ≤ 6005) (hn : n ≤ 3000) : [((L : Int) % 128) + 128, (Int.tmod (wrap64 ((L : Int) / 128)) 128 + 128) % 256, wrap64 ((L : Int) / 16384) % 256, (Int.tmod (n : Int) 128 + 128) % 256, wrap64 (Int.tdiv (n : Int) 128) % 256] = [(L : Int) % 128 + 128, (L : Int) / 128 % 128 + 128, (L : Int) / 16384, (n : Int) % 128 + 128, (n : Int) / 128] := by
  rw [dc_e1 L hL, dc_e2 L hL, dc_e3 n hn, dc_e4 n hn]
set_option maxHeartbeats 1000000 in
theorem dc_fin (x : List Int) (at_ n : Nat) (h1 : 1 ≤ n) (h2 : n ≤ 3000) (h3 : at_ ≤ 3000) (hx : x.length = at_ + n + 5) : ∀ (m i k : Nat), x.length - i ≤ m → i ≤ x.length → m < k → ∀ y : List Int, y.length = x.length → codicillaw08_DeltaCopies.l0 k at_ n y x.length i = some true := by
  intro m
  induction m with
  | zero =>
    intro i k hi hix hk y hy
    obtain ⟨k, rfl⟩ : ∃ j, k = j + 1 := ⟨k - 1, by omega⟩
    simp only [codicillaw08_DeltaCopies.l0]
    rw [if_neg (by omega), if_neg (by omega)]
    rw [dc_head_eq y.length n (by omega) h2, dc_sum at_ n h2 h3]
    unfold delta_PutCopy.f
    rw [if_pos (by simp), putCopyF, if_neg (by omega)]
    simp only [Option.bind_some, if_true]
    unfold delta_Apply.f
    have hcl := copyL_len (at_ : Int) n
    have hby : inBytes (dcHead y.length n (copyL at_ n)) = true := by
      rw [inBytes_iff]
      intro z hz
      have hb := copyL_bytes (at_ : Int) n
      unfold dcHead at hz
      simp only [List.mem_cons] at hz
      rcases hz with rfl | rfl | rfl | rfl | rfl | hz
      · omega
      · omega
      · omega
      · omega
      · omega
      · exact hb z hz
    have hln : (dcHead y.length n (copyL at_ n)).length ≤ 1099511627776 := by unfold dcHead; simp only [List.length_cons]; omega
    have happ : applyF y (dcHead y.length n (copyL at_ n)) n = (0, (y.drop at_).take n) := by rw [dc_apply y _ n h2 (by omega), run_copy y at_ n h1 h2 h3 (by omega)]
    have hcat : [(y.length : Int) % 128 + 128, (y.length : Int) / 128 % 128 + 128, (y.length : Int) / 16384, (n : Int) % 128 + 128, (n : Int) / 128] ++ copyL at_ n = dcHead y.length n (copyL at_ n) := rfl
    rw [hcat, if_pos ⟨hby, by omega, hln⟩, happ]
    simp only [Option.bind_some, if_true]
    rw [if_pos (by omega), if_pos (by omega), if_pos (by omega)]
    have e : (y.take ((at_ : Int) + n).toNat).drop (at_ : Int).toNat = (y.drop at_).take n := by
      rw [show ((at_ : Int) + n).toNat = at_ + n from by omega, Int.toNat_natCast, List.drop_take]
      simp
    rw [e, dc_same]
    rfl
  | succ m ih =>
    intro i k hi hix hk y hy
    by_cases hlt : i < x.length
    · obtain ⟨k, rfl⟩ : ∃ j, k = j + 1 := ⟨k - 1, by omega⟩
      simp only [codicillaw08_DeltaCopies.l0]
      rw [if_pos (by omega), if_pos (by omega), if_pos (by omega)]
      have w : wrap64 ((i : Int) + 1) = ((i + 1 : Nat) : Int) := by rw [w64_small _ (by omega) (by omega)]; omega
      rw [w]
      exact ih (i + 1) k (by omega) (by omega) (by omega) _ (by simpa using hy)
    · exact ih i k (by omega) hix (by omega) y hy
theorem dc_sum5 (at_ n : Nat) (h2 : n ≤ 3000) (h3 : at_ ≤ 3000) : wrap64 (wrap64 ((at_ : Int) + n) + 5) = ((at_ + n + 5 : Nat) : Int) := by
  rw [dc_sum at_ n h2 h3, w64_small _ (by omega) (by omega)]
  omega
theorem dc_copy (at_ n : Nat) (h1 : 1 ≤ n) (h2 : n ≤ 3000) (h3 : at_ ≤ 3000) : codicillaw08_DeltaCopies.j1 (6010 + 1) at_ n false = some true := by
  simp only [codicillaw08_DeltaCopies.j1]
  rw [if_neg (by simp), dc_sum5 at_ n h2 h3, if_pos (by omega), if_pos (by rw [Int.toNat_natCast]; omega), Int.toNat_natCast, Option.bind_some]
  have hl : (List.replicate (at_ + n + 5) (0 : Int)).length = at_ + n + 5 := List.length_replicate
  exact dc_fin (List.replicate (at_ + n + 5) 0) at_ n h1 h2 h3 hl 6005 0 6010 (by rw [hl]; omega) (Nat.zero_le _) (by omega) _ rfl
theorem DeltaCopies : codicillaw08_DeltaCopies.Pure := by
  intro l a n hl1 hl2 hb ha hn
  refine ⟨6010 + 1 + 1, ?_⟩
  unfold codicillaw08_DeltaCopies.f
  rw [show codicillaw08_awake.f = some true from rfl]
  simp only [Option.bind_some, if_true]
  rw [dc_twin l (by omega)]
  simp only [Option.bind_some]
  unfold delta_PutCopy.f codicilref08_DocPutCopy.f
  rw [if_pos (by omega)]
  simp only [Option.bind_some, dc_same, if_true, bne_self_eq_false]
  have yes : ∀ k, codicillaw08_DeltaCopies.j1 (k + 1) a n true = some true := by
    intro k
    simp only [codicillaw08_DeltaCopies.j1, if_true]
  simp only [codicillaw08_DeltaCopies.j0]
  rw [if_neg (by simp)]
  by_cases hbad : a < 0 ∨ 4294967296 ≤ a ∨ n < 1 ∨ 16777215 < n
  · have hF : putCopyF l a n = ([], 1) := by unfold putCopyF; rw [if_pos hbad]
    rw [hF]
    dsimp only
    rw [if_neg (by decide), yes]
  · have hF : putCopyF l a n = (l ++ copyL a n, 0) := by unfold putCopyF; rw [if_neg hbad]
    rw [hF]
    dsimp only
    rw [if_pos rfl]
    by_cases ha3 : a > 3000
    · rw [if_pos ha3, yes]
    · rw [if_neg ha3]
      by_cases hn3 : n > 3000
      · rw [decide_eq_true hn3, yes]
      · rw [decide_eq_false hn3]
        obtain ⟨at_, rfl⟩ := Int.eq_ofNat_of_zero_le (show 0 ≤ a by omega)
        obtain ⟨m, rfl⟩ := Int.eq_ofNat_of_zero_le (show 0 ≤ n by omega)
        exact dc_copy at_ m (by omega) (by omega) (by omega)
end Go.Proofs.Ytiocipmnmjpkfaa.Pure
