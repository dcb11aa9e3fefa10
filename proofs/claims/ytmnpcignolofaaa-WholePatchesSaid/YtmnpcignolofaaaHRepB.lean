/- slices.Replace at []string: in place, the rest moved up. -/
import Derived.Test.YtmnpcignolofaaaHRepA
namespace Go.Proofs.Ytmnpcignolofaaa
set_option linter.unusedVariables false
set_option linter.unusedSimpArgs false
open Go.RowKit Go.Shelf Go.Proofs.YtmnpcignolofaaaW.PrintWords Go.Proofs.YtmnpcignolofaaaW.PrintMore
theorem grown_srcs {w W : World} {g : Nat} {ad : Addr} {vs : List Value} (h : w.grownBy W (some g)) (hne : ad.block ≠ g) (hs : ∀ j u, vs[j]? = some u → w.cell? (ad.add j) = some u) : ∀ j u, vs[j]? = some u → W.cell? (ad.add j) = some u := fun j u hj =>
  h.cell (hs j u hj) (by rw [addn_block]; intro e; exact hne (Option.some.inj e))
set_option maxRecDepth 100000 in
set_option maxHeartbeats 40000000 in
theorem rep_room (w : World) (base g cap : Nat) (L : List Value) (l ys : List ByteArray) (x z n m q : Nat) (ad : Addr) (mc : Nat) (h : RepIn w base g cap L l ys x z n m q (some ad)) (hq : 0 < q) (hroom : x + m + q ≤ cap) (hbig : z < x + m) :
    Calls Try.prog 40 #[.slice (some ⟨g, 0, none⟩) n cap, .int .i64 x, .int .i64 z, .slice (some ad) m mc] w (RepPost w base (.slice (some ⟨g, 0, none⟩) n cap) (l.take x ++ ys ++ l.drop z)) := by
  obtain ⟨hr, hb, hg, hL, hm, hlt, hlc, hx, hz, hn, hmm, hy, hne, hl, hyl⟩ := h
  have hcap : cap ≤ 9223372036854775807 := by unfold maxLen at hm; omega
  have hnz : n - z = q := by omega
  have hz1 : ¬ ((x : Int) = (z : Int)) := by omega
  have hz2 : ¬ ((z : Int) = (n : Int)) := by omega
  have hw1 : IntKind.i64.wrap ((x : Int) + (m : Int)) = (x : Int) + (m : Int) := by rw [IntKind.wrap_i64]; omega
  have hw0 : IntKind.i64.wrap ((x : Int) + (m : Int) + (q : Int)) = (x : Int) + (m : Int) + (q : Int) := by rw [IntKind.wrap_i64]; omega
  have hz3 : ¬ ((cap : Int) < (x : Int) + (m : Int) + (q : Int)) := by omega
  have hz4 : ¬ ((x : Int) + (m : Int) ≤ (z : Int)) := by omega
  have hb0 : (0 : Int) ≤ (x : Int) + (m : Int) + (q : Int) := by omega
  have hb1 : (0 : Int) ≤ (x : Int) + (m : Int) := by omega
  have hb6 : (x : Int) + (m : Int) + (q : Int) ≤ (cap : Int) := by omega
  have hxz : (x : Int) ≤ (z : Int) := by omega
  have hzn : (z : Int) ≤ (n : Int) := by omega
  have hzc : (z : Int) ≤ (cap : Int) := by omega
  have hxc : (x : Int) ≤ (cap : Int) := by omega
  have htn : ((x : Int) + (m : Int)).toNat = x + m := by omega
  have htn2 : ((x : Int) + (m : Int) + (q : Int)).toNat = x + m + q := by omega
  have hb3 : (x : Int) ≤ (x : Int) + (m : Int) + (q : Int) := by omega
  have hb2 : ¬ (cap = x + m) := by omega
  have hb4 : ¬ (cap = x) := by omega
  have hb9 : ¬ (cap = z) := by omega
  have hb7 : (x : Int) + (m : Int) ≤ (x : Int) + (m : Int) + (q : Int) := by omega
  have mixed : Try.prog.follows Departure.mixedOrders = true := by kernel_rfl
  have HH := Lib.hid (And.intro hr (And.intro hy (And.intro hn (And.intro hmm (And.intro hlt hz)))))
  clear hr hy hn hmm hlt hz
  go_enter Try.func40, Try.ntmps40
  go_wp2_with fail
  go_quiet (fail)
  obtain ⟨hr0, hy0, hn, hmm, hlt, hz⟩ := HH.out
  have hr : Rw (w.drewN nq) g 9 L := hr0
  have hy : ReadsOf Value.string ByteArray.empty (w.drewN nq) (some ad) m ys := hy0
  have hb0 : base ≤ (w.drewN nq).heap.size := hb
  have hgr : w.grownBy (w.drewN nq) none := ⟨rfl, rfl, rfl, Nat.le_refl _, fun _ _ _ => rfl⟩
  clear hr0 hy0 HH
  generalize w.drewN nq = w0 at *
  have hsrc := src_of hy
  obtain ⟨tl, htl⟩ : ∃ tl, tl = encs Value.string (l.drop z) := ⟨_, rfl⟩
  obtain ⟨vs, hvs⟩ : ∃ vs, vs = encs Value.string ys := ⟨_, rfl⟩
  have htll : tl.length = q := by rw [htl, encs_length, List.length_drop]; omega
  have hvsl : vs.length = m := by rw [hvs, encs_length, hmm]
  rw [← hvs] at hsrc
  obtain ⟨tA, kA, hsA, hkA⟩ : ∃ t k, w0.shape? ad.block = some (t, k) ∧ k ≠ 0 := by
    have h0 := hsrc 0 _ (List.getElem?_eq_getElem (by omega))
    have h1 := shape_of_cell h0
    rw [add0_block] at h1
    exact h1
  have hov : ∀ lb cb, (callFunc 50 #[.slice (some ⟨g, x + m, none⟩) lb cb, .slice (some ad) m mc]).run Try.prog w0 = .ok (.value (.bool false)) w0 := fun lb cb => by
    rw [run_callFunc_extern Try.func50 (by kernel_rfl) (by kernel_rfl) (by kernel_rfl) (e := Extern.SlicesOverlaps.overlaps #[22, 22] #[4]) (by kernel_rfl),
      Lib.run_overlaps_apart w0 22 4 9 Try.underlying22 1 sizeS ⟨g, x + m, none⟩ ad lb cb m mc (fun e => hne (by omega) ad rfl e.symm) 9 tA L.length kA hr.shape hsA hkA (hr.frozen _) (hr.frozen _)]
    rfl
  have hc1 : ∀ ty dc sc, (Builtin.copy_ #[22, 22] ty #[.slice (some ⟨g, x + m, none⟩) q dc, .slice (some ⟨g, z, none⟩) q sc]).run Try.prog w0.drew = .ok (goInt tl.length) (w0.drew.setCells g (x + m) tl) := fun ty dc sc =>
    hr.drew.copy 22 ty Try.underlying22 szS (x + m) _ dc ⟨g, z, none⟩ _ sc tl (by rw [htll]; simp only [Nat.min_def]; split <;> omega) (fun j v hj => rw_tail hr.drew hlt j v (by rw [← htl]; exact hj)) (by rw [htl]; exact oneS _) (by omega)
  have hR1 : Rw (w0.drew.setCells g (x + m) tl) g 9 (put L (x + m) tl) := Rw.sets tl (x + m) _ _ hr.drew (by omega)
  have hG1 : w0.grownBy (w0.drew.setCells g (x + m) tl) (some g) := grown_trans (grown_drew w0 _) (grown_sets g tl (x + m) w0.drew)
  have hpl : (put L (x + m) tl).length = cap := by rw [put_len (by omega), hL]
  obtain ⟨W1, hW1⟩ : ∃ W1, W1 = w0.drew.setCells g (x + m) tl := ⟨_, rfl⟩
  rw [← hW1] at hc1 hR1 hG1
  have hc2 : ∀ ty dc, (Builtin.copy_ #[22, 22] ty #[.slice (some ⟨g, x, none⟩) (x + m + q - x) dc, .slice (some ad) m mc]).run Try.prog W1 = .ok (goInt vs.length) (W1.setCells g x vs) := fun ty dc =>
    hR1.copy 22 ty Try.underlying22 szS x _ dc ad m mc vs (by rw [hvsl]; simp only [Nat.min_def]; split <;> omega) (grown_srcs hG1 (hne (by omega) ad rfl) hsrc) (by rw [hvs]; exact oneS _) (by omega)
  have hR2 : Rw (W1.setCells g x vs) g 9 (put (put L (x + m) tl) x vs) := Rw.sets vs x _ _ hR1 (by omega)
  have hG2 : w0.grownBy (W1.setCells g x vs) (some g) := grown_trans hG1 (grown_sets g vs x W1)
  have hfin : (put (put L (x + m) tl) x vs).take (x + m + q) = encs Value.string (l.take x ++ ys ++ l.drop z) := by
    have h := put_tv L vs tl x (by omega)
    rw [hvsl, htll] at h
    rw [h, encs_append, encs_append, ← hvs, ← htl, take_encs hlt (by omega)]
  have hown : (W1.setCells g x vs).ownsRow base 9 1 (.slice (some ⟨g, 0, none⟩) (x + m + q) cap) (l.take x ++ ys ++ l.drop z).length (encs Value.string (l.take x ++ ys ++ l.drop z)) := by
    have h := hR2.own (base := base) (n := x + m + q) (cap := cap) hg (by rw [put_len (by omega), hpl]) (by omega) hm
    rw [hfin] at h
    rw [show (l.take x ++ ys ++ l.drop z).length = x + m + q by simp only [List.length_append, List.length_take, List.length_drop]; omega]
    exact h
  have HF := Lib.hid (And.intro hown (grown_trans (grown_any hgr (some g)) hG2))
  clear hsrc hy hlt hfin hown hG1 hG2 hR1 hR2 htl hvs hr hL hpl htll hvsl hn hmm hW1 hz hne hgr hb0 hsA hkA
  go_wp2_with (first | simp only [hov] | (at_builtin; refine wpList_copy_runI _ rfl _ _ 22 22 rfl _ _ rfl rfl (hc2 _ _) ?_))
  go_region_law_o (refine step_copy_runI rfl _ _ 22 22 rfl _ _ (by simp [Act.eval, Act.put]) (by simp [Act.eval, Act.put]) (hc1 _ _ _) ?_)
  go_wp2_with (first | simp only [hov] | (at_builtin; refine wpList_copy_runI _ rfl _ _ 22 22 rfl _ _ rfl rfl (hc2 _ _) ?_))
  go_ret
  exact ⟨_, rfl, HF.out.1, HF.out.2⟩
end Go.Proofs.Ytmnpcignolofaaa
