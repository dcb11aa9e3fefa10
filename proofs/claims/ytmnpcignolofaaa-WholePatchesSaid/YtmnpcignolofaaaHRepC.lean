/- slices.Replace at []string: in place, the rest moved down; at the end. -/
import Derived.Test.YtmnpcignolofaaaHRepB
namespace Go.Proofs.Ytmnpcignolofaaa
set_option linter.unusedVariables false
set_option linter.unusedSimpArgs false
open Go.RowKit Go.Shelf Go.Proofs.YtmnpcignolofaaaW.PrintWords Go.Proofs.YtmnpcignolofaaaW.PrintMore
theorem run_clear_empty (w : World) (ty : TypeId) (B : Option Addr) (c : Nat) : (Builtin.clear_ #[22] ty #[.slice B 0 c]).run Try.prog w = .ok (.tuple #[]) w := by
  cases B <;> simp [Builtin.clear_, run_underlying Try.underlying22]
theorem zeroS (w : World) : (zeroValue 9).run Try.prog w = .ok (.string .empty) w := by
  obtain ⟨i0, hi0, hz0, hz1, hz2⟩ := info_parts infoS
  simp [zeroValue, typeInfo, hi0, hz0]
/-- clear of the cells of a row from o on. -/
theorem Rw.clear {W : World} {g : Nat} {L : List Value} (h : Rw W g 9 L) (ty : TypeId) (o d c : Nat) (hd : o + d ≤ L.length) (B : Option Addr) (hB : 0 < d → B = some ⟨g, o, none⟩) :
    (Builtin.clear_ #[22] ty #[.slice B d c]).run Try.prog W = .ok (.tuple #[]) (W.setCells g o (List.replicate d (.string .empty))) := by
  rcases Nat.eq_zero_or_pos d with h0 | h0
  · subst h0
    exact run_clear_empty W ty B c
  · rw [hB h0]
    exact Lib.run_clear_slice W 22 9 ty (.string .empty) Try.underlying22 zeroS rfl rfl g o d c h0 (fun j hj => h.has (by omega)) (fun j _ => h.frozen _)
/-- 'copy' of what may be nothing. -/
theorem Rw.copyN {W : World} {g : Nat} {L : List Value} (h : Rw W g 9 L) (ty : TypeId) (o dl dc : Nat) (A : Option Addr) (m sc : Nat) (ys : List ByteArray) (hy : ReadsOf Value.string ByteArray.empty W A m ys) (hd : m ≤ dl) (hf : o + m ≤ L.length) :
    (Builtin.copy_ #[22, 22] ty #[.slice (some ⟨g, o, none⟩) dl dc, .slice A m sc]).run Try.prog W = .ok (goInt (encs Value.string ys).length) (W.setCells g o (encs Value.string ys)) := by
  have hm := hy.1
  have hl : (encs Value.string ys).length = m := by rw [encs_length, hm]
  rcases Nat.eq_zero_or_pos m with h0 | h0
  · have h1 : ys = [] := List.eq_nil_of_length_eq_zero (by omega)
    subst h1 h0
    exact run_copy_none W 22 22 ty 9 _ A dl dc 0 sc Try.underlying22 szS (by simp)
  · obtain ⟨ad, rfl, _⟩ := hy.2.2 h0
    exact h.copy 22 ty Try.underlying22 szS o dl dc ad m sc _ (by rw [hl]; simp only [Nat.min_def]; split <;> omega) (src_of hy) (oneS _) (by omega)
set_option maxRecDepth 100000 in
set_option maxHeartbeats 40000000 in
theorem rep_small (w : World) (base g cap : Nat) (L : List Value) (l ys : List ByteArray) (x z n m q : Nat) (A : Option Addr) (mc : Nat) (h : RepIn w base g cap L l ys x z n m q A) (hq : 0 < q) (hsm : x + m ≤ z) :
    Calls Try.prog 40 #[.slice (some ⟨g, 0, none⟩) n cap, .int .i64 x, .int .i64 z, .slice A m mc] w (RepPost w base (.slice (some ⟨g, 0, none⟩) n cap) (l.take x ++ ys ++ l.drop z)) := by
  obtain ⟨hr, hb, hg, hL, hm, hlt, hlc, hx, hz, hn, hmm, hy, hne, hl, hyl⟩ := h
  have hcap : cap ≤ 9223372036854775807 := by unfold maxLen at hm; omega
  have hnz : n - z = q := by omega
  have hz1 : ¬ ((x : Int) = (z : Int)) := by omega
  have hz2 : ¬ ((z : Int) = (n : Int)) := by omega
  have hw1 : IntKind.i64.wrap ((x : Int) + (m : Int)) = (x : Int) + (m : Int) := by rw [IntKind.wrap_i64]; omega
  have hw0 : IntKind.i64.wrap ((x : Int) + (m : Int) + (q : Int)) = (x : Int) + (m : Int) + (q : Int) := by rw [IntKind.wrap_i64]; omega
  have hz3 : ¬ ((cap : Int) < (x : Int) + (m : Int) + (q : Int)) := by omega
  have hz4 : (x : Int) + (m : Int) ≤ (z : Int) := by omega
  have hb00 : (0 : Int) ≤ (x : Int) + (m : Int) + (q : Int) := by omega
  have hb1 : (0 : Int) ≤ (x : Int) + (m : Int) := by omega
  have hb6 : (x : Int) + (m : Int) + (q : Int) ≤ (cap : Int) := by omega
  have hxz : (x : Int) ≤ (z : Int) := by omega
  have hzn : (z : Int) ≤ (n : Int) := by omega
  have hzc : (z : Int) ≤ (cap : Int) := by omega
  have hxc : (x : Int) ≤ (cap : Int) := by omega
  have htn : ((x : Int) + (m : Int)).toNat = x + m := by omega
  have htn2 : ((x : Int) + (m : Int) + (q : Int)).toNat = x + m + q := by omega
  have hb3 : (x : Int) ≤ (x : Int) + (m : Int) + (q : Int) := by omega
  have hb2 : ¬ (cap = x + m) := by omega
  have hb4 : ¬ (cap = x) := by omega
  have hb9 : ¬ (cap = z) := by omega
  have hb7 : (x : Int) + (m : Int) ≤ (x : Int) + (m : Int) + (q : Int) := by omega
  obtain ⟨d, hd⟩ : ∃ d, d = n - (x + m + q) := ⟨_, rfl⟩
  have hd2 : n - (x + m + q) = d := hd.symm
  have hb10 : (x : Int) + (m : Int) + (q : Int) ≤ (n : Int) := by omega
  have mixed : Try.prog.follows Departure.mixedOrders = true := by kernel_rfl
  have HH := Lib.hid (And.intro hr (And.intro hy (And.intro hn (And.intro hmm (And.intro hlt (And.intro hz hd))))))
  clear hr hy hn hmm hlt hz hd
  go_enter Try.func40, Try.ntmps40
  go_wp2_with fail
  go_quiet (fail)
  obtain ⟨hr0, hy0, hn, hmm, hlt, hz, hd⟩ := HH.out
  have hr : Rw (w.drewN nq) g 9 L := hr0
  have hy : ReadsOf Value.string ByteArray.empty (w.drewN nq) A m ys := hy0
  have hgr : w.grownBy (w.drewN nq) none := ⟨rfl, rfl, rfl, Nat.le_refl _, fun _ _ _ => rfl⟩
  clear hr0 hy0 HH
  generalize w.drewN nq = w0 at *
  obtain ⟨tl, htl⟩ : ∃ tl, tl = encs Value.string (l.drop z) := ⟨_, rfl⟩
  obtain ⟨vs, hvs⟩ : ∃ vs, vs = encs Value.string ys := ⟨_, rfl⟩
  have htll : tl.length = q := by rw [htl, encs_length, List.length_drop]; omega
  have hvsl : vs.length = m := by rw [hvs, encs_length, hmm]
  have hc1 : ∀ ty dl dc, m ≤ dl → (Builtin.copy_ #[22, 22] ty #[.slice (some ⟨g, x, none⟩) dl dc, .slice A m mc]).run Try.prog w0 = .ok (goInt vs.length) (w0.setCells g x vs) := fun ty dl dc hdl => by
    rw [hvs]
    exact hr.copyN ty x _ dc A m mc ys hy hdl (by omega)
  have hc1 := fun ty dc => hc1 ty (x + m + q - x) dc (by omega)
  have hR1 : Rw (w0.setCells g x vs) g 9 (put L x vs) := Rw.sets vs x _ _ hr (by omega)
  have hG1 : w0.grownBy (w0.setCells g x vs) (some g) := grown_sets g vs x w0
  have hpl : (put L x vs).length = cap := by rw [put_len (by omega), hL]
  obtain ⟨W1, hW1⟩ : ∃ W1, W1 = w0.setCells g x vs := ⟨_, rfl⟩
  rw [← hW1] at hc1 hR1 hG1
  have htlc : ∀ j v, tl[j]? = some v → W1.drew.cell? ((⟨g, z, none⟩ : Addr).add j) = some v := fun j v hj => by
    have h0 := rw_tail hr hlt j v (by rw [← htl]; exact hj)
    rw [Addr.add_lit, hr.cell] at h0
    rw [Addr.add_lit, hR1.drew.cell, put_get (by omega), if_neg (by omega), if_neg (by omega)]
    exact h0
  have hc2 : ∀ ty dc sc, (Builtin.copy_ #[22, 22] ty #[.slice (some ⟨g, x + m, none⟩) q dc, .slice (some ⟨g, z, none⟩) q sc]).run Try.prog W1.drew = .ok (goInt tl.length) (W1.drew.setCells g (x + m) tl) := fun ty dc sc =>
    hR1.drew.copy 22 ty Try.underlying22 szS (x + m) _ dc ⟨g, z, none⟩ _ sc tl (by rw [htll]; simp only [Nat.min_def]; split <;> omega) htlc (by rw [htl]; exact oneS _) (by omega)
  have hR2 : Rw (W1.drew.setCells g (x + m) tl) g 9 (put (put L x vs) (x + m) tl) := Rw.sets tl (x + m) _ _ hR1.drew (by omega)
  have hG2 : w0.grownBy (W1.drew.setCells g (x + m) tl) (some g) := grown_trans hG1 (grown_trans (grown_drew W1 _) (grown_sets g tl (x + m) W1.drew))
  have hp2 : (put (put L x vs) (x + m) tl).length = cap := by rw [put_len (by omega), hpl]
  obtain ⟨W2, hW2⟩ : ∃ W2, W2 = W1.drew.setCells g (x + m) tl := ⟨_, rfl⟩
  rw [← hW2] at hc2 hR2 hG2
  have hcl : ∀ ty c B, (0 < d → B = some ⟨g, x + m + q, none⟩) → (Builtin.clear_ #[22] ty #[.slice B d c]).run Try.prog W2 = .ok (.tuple #[]) (W2.setCells g (x + m + q) (List.replicate d (.string .empty))) := fun ty c B hB =>
    hR2.clear ty (x + m + q) d c (by omega) B hB
  have hR3 : Rw (W2.setCells g (x + m + q) (List.replicate d (.string .empty))) g 9 (put (put (put L x vs) (x + m) tl) (x + m + q) (List.replicate d (.string .empty))) := Rw.sets _ _ _ _ hR2 (by rw [List.length_replicate]; omega)
  have hG3 : w0.grownBy (W2.setCells g (x + m + q) (List.replicate d (.string .empty))) (some g) := grown_trans hG2 (grown_sets g _ _ W2)
  have hfin : (put (put (put L x vs) (x + m) tl) (x + m + q) (List.replicate d (.string .empty))).take (x + m + q) = encs Value.string (l.take x ++ ys ++ l.drop z) := by
    rw [put_keep _ _ _ _ (Nat.le_refl _) (by rw [List.length_replicate]; omega)]
    have h := put_vt L vs tl x (by omega)
    rw [hvsl, htll] at h
    rw [h, encs_append, encs_append, ← hvs, ← htl, take_encs hlt (by omega)]
  obtain ⟨W3, hW3⟩ : ∃ W3, W3 = W2.setCells g (x + m + q) (List.replicate d (.string .empty)) := ⟨_, rfl⟩
  rw [← hW3] at hcl hR3 hG3
  have hown : W3.ownsRow base 9 1 (.slice (some ⟨g, 0, none⟩) (x + m + q) cap) (l.take x ++ ys ++ l.drop z).length (encs Value.string (l.take x ++ ys ++ l.drop z)) := by
    have h := hR3.own (base := base) (n := x + m + q) (cap := cap) hg (by rw [put_len (by rw [List.length_replicate]; omega), hp2]) (by omega) hm
    rw [hfin] at h
    rw [show (l.take x ++ ys ++ l.drop z).length = x + m + q by simp only [List.length_append, List.length_take, List.length_drop]; omega]
    exact h
  have HF := Lib.hid (And.intro hown (grown_trans (grown_any hgr (some g)) hG3))
  have HD := Lib.hid (show cap = x + m + q → d = 0 by omega)
  clear hy hlt hfin hown hG1 hG2 hG3 hR1 hR2 hR3 htl hvs hr hL hpl hp2 htll hvsl hn hmm hW1 hW2 hW3 hz hne hgr hd htlc
  by_cases hct : cap = x + m + q
  · have hcl1 := fun ty c => hcl ty c (some ⟨g, 0, none⟩) (fun h => by have := HD.out hct; omega)
    have hct1 : (cap = x + m + q) = True := eq_true hct
    clear hct hcl
    go_wp2_with (at_builtin; refine wpList_copy_runI _ rfl _ _ 22 22 rfl _ _ rfl rfl (hc1 _ _) ?_)
    go_region_law_o (refine step_copy_runI rfl _ _ 22 22 rfl _ _ (by simp [Act.eval, Act.put]) (by simp [Act.eval, Act.put]) (hc2 _ _ _) ?_)
    go_wp2_with fail
    go_ret
    exact ⟨_, rfl, HF.out.1, HF.out.2⟩
  · have hcl1 := fun ty c => hcl ty c (some ⟨g, x + m + q, none⟩) (fun _ => rfl)
    have hct1 : (cap = x + m + q) = False := eq_false hct
    clear hct hcl
    go_wp2_with (at_builtin; refine wpList_copy_runI _ rfl _ _ 22 22 rfl _ _ rfl rfl (hc1 _ _) ?_)
    go_region_law_o (refine step_copy_runI rfl _ _ 22 22 rfl _ _ (by simp [Act.eval, Act.put]) (by simp [Act.eval, Act.put]) (hc2 _ _ _) ?_)
    go_wp2_with fail
    go_ret
    exact ⟨_, rfl, HF.out.1, HF.out.2⟩
end Go.Proofs.Ytmnpcignolofaaa
