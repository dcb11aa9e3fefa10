/- slices.Insert at []string where there is no room: a new row. -/
import Derived.Test.YtmnpcignolofaaaHIns
namespace Go.Proofs.Ytmnpcignolofaaa
set_option linter.unusedVariables false
set_option linter.unusedSimpArgs false
open Go.RowKit Go.Shelf Go.Proofs.YtmnpcignolofaaaW.PrintWords Go.Proofs.YtmnpcignolofaaaW.PrintMore
set_option maxRecDepth 100000 in
set_option maxHeartbeats 40000000 in
theorem ins_grow (w : World) (base g cap : Nat) (L : List Value) (l ys : List ByteArray) (x : Nat) (hr : Rw w g 9 L) (hb : base ≤ w.heap.size) (hL : L.length = cap) (hm : cap ≤ maxLen) (hlt : L.take l.length = encs Value.string l) (hlc : l.length ≤ cap)
    (hx : x < l.length) (hroom : cap < l.length + ys.length) (ad : Addr) (mc : Nat) (hy : ReadsOf Value.string ByteArray.empty w (some ad) ys.length ys) (hy0 : 0 < ys.length) (hl : l.length ≤ 1000) (hyl : ys.length ≤ 1000) :
    Calls Try.prog 49 #[.slice (some ⟨g, 0, none⟩) l.length cap, .int .i64 x, .slice (some ad) ys.length mc] w (RepPost w base (.slice (some ⟨g, 0, none⟩) l.length cap) (l.take x ++ ys ++ l.drop x)) := by
  obtain ⟨n, hn⟩ : ∃ n, n = l.length := ⟨_, rfl⟩
  obtain ⟨m, hmm⟩ : ∃ m, m = ys.length := ⟨_, rfl⟩
  have hsrc := src_of hy
  have hcap : cap ≤ 9223372036854775807 := by unfold maxLen at hm; omega
  obtain ⟨G, W1, R0, HG, happ⟩ := append_make w g cap x (n + m) L hr hL (by omega) (by omega) (by omega) (by omega)
  obtain ⟨tl, htl⟩ : ∃ tl, tl = encs Value.string (l.drop x) := ⟨_, rfl⟩
  obtain ⟨vs, hvs⟩ : ∃ vs, vs = encs Value.string ys := ⟨_, rfl⟩
  have htll : tl.length = n - x := by rw [htl, encs_length, List.length_drop, hn]
  have hvsl : vs.length = m := by rw [hvs, encs_length, hmm]
  have hGt := HG.tot
  have hGm := HG.max
  have hGl := HG.len
  have hG63 : G ≤ 9223372036854775807 := by unfold maxLen at hGm; omega
  have hc1 : ∀ ty dc, (Builtin.copy_ #[22, 22] ty #[.slice (some ⟨w.heap.size, x, none⟩) (n + m - x) dc, .slice (some ad) m mc]).run Try.prog W1 = .ok (goInt vs.length) (W1.setCells w.heap.size x vs) := fun ty dc =>
    HG.rw.copy 22 ty Try.underlying22 szS x _ dc ad m mc vs (by rw [hvsl]; simp only [Nat.min_def]; split <;> omega) (fun j u hj => grown_cell HG.gr (hsrc j u (by rw [← hvs]; exact hj))) (by rw [hvs]; exact oneS _) (by omega)
  have hR1 : Rw (W1.setCells w.heap.size x vs) w.heap.size 9 (put R0 x vs) := Rw.sets vs x _ _ HG.rw (by omega)
  have hg1 : w.grownBy (W1.setCells w.heap.size x vs) none := grown_new HG.gr (Nat.le_refl _) x vs
  have hp1 : (put R0 x vs).length = G := by rw [put_len (by omega), hGl]
  obtain ⟨W2, hW2⟩ : ∃ W2, W2 = W1.setCells w.heap.size x vs := ⟨_, rfl⟩
  rw [← hW2] at hc1 hR1 hg1
  have htlc : ∀ j v, tl[j]? = some v → W2.drew.cell? ((⟨g, x, none⟩ : Addr).add j) = some v := fun j v hj => grown_cell hg1 (rw_tail hr hlt j v (by rw [← htl]; exact hj))
  have hc2 : ∀ ty dc sc, (Builtin.copy_ #[22, 22] ty #[.slice (some ⟨w.heap.size, x + m, none⟩) (n + m - (x + m)) dc, .slice (some ⟨g, x, none⟩) (n - x) sc]).run Try.prog W2.drew = .ok (goInt tl.length) (W2.drew.setCells w.heap.size (x + m) tl) := fun ty dc sc =>
    hR1.drew.copy 22 ty Try.underlying22 szS (x + m) _ dc ⟨g, x, none⟩ _ sc tl (by rw [htll]; simp only [Nat.min_def]; split <;> omega) htlc (by rw [htl]; exact oneS _) (by omega)
  have hR2 : Rw (W2.drew.setCells w.heap.size (x + m) tl) w.heap.size 9 (put (put R0 x vs) (x + m) tl) := Rw.sets tl (x + m) _ _ hR1.drew (by omega)
  have hg2 : w.grownBy (W2.drew.setCells w.heap.size (x + m) tl) none := grown_new (grown_trans hg1 (grown_drew W2 none)) (Nat.le_refl _) _ tl
  have hfin : (put (put R0 x vs) (x + m) tl).take (n + m) = encs Value.string (l.take x ++ ys ++ l.drop x) := by
    have h := put_vt R0 vs tl x (by omega)
    rw [hvsl, htll, show x + m + (n - x) = n + m by omega] at h
    have ho := HG.old
    rw [show (L.take x).length = x by rw [List.length_take]; omega] at ho
    rw [h, encs_append, encs_append, ← hvs, ← htl, ho, take_encs hlt (by omega)]
  have hown : (W2.drew.setCells w.heap.size (x + m) tl).ownsRow base 9 1 (.slice (some ⟨w.heap.size, 0, none⟩) (n + m) G) (l.take x ++ ys ++ l.drop x).length (encs Value.string (l.take x ++ ys ++ l.drop x)) := by
    have h := hR2.own (base := base) (n := n + m) (cap := G) hb (by rw [put_len (by omega), hp1]) hGt hGm
    rw [hfin] at h
    rw [show (l.take x ++ ys ++ l.drop x).length = n + m by simp only [List.length_append, List.length_take, List.length_drop]; omega]
    exact h
  have HF := Lib.hid (And.intro hown (grown_any hg2 (some g)))
  have hz1 : ¬ ((m : Int) = 0) := by omega
  have hz2 : ¬ ((x : Int) = (n : Int)) := by omega
  have hw0 : IntKind.i64.wrap ((n : Int) + (m : Int)) = (n : Int) + (m : Int) := by rw [IntKind.wrap_i64]; omega
  have hw2 : IntKind.i64.wrap ((n : Int) + (m : Int) - (x : Int)) = (n : Int) + (m : Int) - (x : Int) := by rw [IntKind.wrap_i64]; omega
  have hw1 : IntKind.i64.wrap ((x : Int) + (m : Int)) = (x : Int) + (m : Int) := by rw [IntKind.wrap_i64]; omega
  have hz3 : (cap : Int) < (n : Int) + (m : Int) := by omega
  have hb1 : (0 : Int) ≤ (x : Int) + (m : Int) := by omega
  have hxn : (x : Int) ≤ (n : Int) := by omega
  have hxc : (x : Int) ≤ (cap : Int) := by omega
  have htn : ((x : Int) + (m : Int)).toNat = x + m := by omega
  have hb2 : ¬ (G = x + m) := by omega
  have hb8 : ¬ (G = x) := by omega
  have hb3 : (x : Int) ≤ (n : Int) + (m : Int) := by omega
  have hb4 : ¬ (cap = x) := by omega
  have hb7 : (x : Int) + (m : Int) ≤ (n : Int) + (m : Int) := by omega
  have mixed : Try.prog.follows Departure.mixedOrders = true := by kernel_rfl
  have hcst : (((n + m : Nat) : Int) - (x : Int)) = (n : Int) + (m : Int) - (x : Int) := by omega
  rw [hcst] at happ
  have HNM := Lib.hid (And.intro hn hmm)
  rw [← hn, ← hmm]
  clear hsrc hy hlt hfin hown hg1 hg2 hR1 hR2 htlc htl hvs hr hL hp1 htll hvsl HG hGl hGm hcst hn hmm hW2
  go_enter Try.func49, Try.ntmps49
  go_wp2_with (first
    | (at_builtin; refine Lib.wpList_append_run _ rfl _ _ _ _ rfl _ _ rfl rfl _ _ (happ _) ?_)
    | (at_builtin; refine wpList_copy_runI _ rfl _ _ 22 22 rfl _ _ rfl rfl (hc1 _ _) ?_))
  go_region_law_o (refine step_copy_runI rfl _ _ 22 22 rfl (.slice (some ⟨w.heap.size, x + m, none⟩) (n + m - (x + m)) (G - (x + m))) (.slice (some ⟨g, x, none⟩) (n - x) (cap - x)) (by simp [Act.eval, Act.put]) (by simp [Act.eval, Act.put]) (hc2 3 (G - (x + m)) (cap - x)) ?_)
  go_wp2_with fail
  go_ret
  exact ⟨_, rfl, HF.out.1, HF.out.2⟩
end Go.Proofs.Ytmnpcignolofaaa
