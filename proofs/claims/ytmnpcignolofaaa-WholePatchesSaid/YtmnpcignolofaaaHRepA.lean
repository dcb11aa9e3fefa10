/- slices.Replace at []string: in place (the rest moved up), and a new row. -/
import Derived.Test.YtmnpcignolofaaaHInsG
namespace Go.Proofs.Ytmnpcignolofaaa
set_option linter.unusedVariables false
set_option linter.unusedSimpArgs false
open Go.RowKit Go.Shelf Go.Proofs.YtmnpcignolofaaaW.PrintWords Go.Proofs.YtmnpcignolofaaaW.PrintMore
theorem ins_calls (w : World) (base : Nat) (v : Value) (l ys : List ByteArray) (x : Nat) (hv : w.ownsRow base 9 1 v l.length (encs Value.string l)) (hb : base ≤ w.heap.size) (hx : x ≤ l.length) (ad : Addr) (mc : Nat) (hy : ReadsOf Value.string ByteArray.empty w (some ad) ys.length ys) (hm : 0 < ys.length) (hne : some ad.block ≠ v.ownBlock) (hl : l.length ≤ 1000) (hyl : ys.length ≤ 1000) :
    Calls Try.prog 49 #[v, .int .i64 x, .slice (some ad) ys.length mc] w (RepPost w base v (l.take x ++ ys ++ l.drop x)) := by
  rcases Nat.lt_or_eq_of_le hx with h | h
  · rcases own_rw hv with ⟨_, h0, _⟩ | ⟨g, cap, L, rfl, hg, hr, hn, hmx, hL, ht⟩
    · omega
    · rcases Nat.lt_or_ge cap (l.length + ys.length) with h1 | h1
      · exact ins_grow w base g cap L l ys x hr hb hL hmx ht hn h h1 ad mc hy hm hl hyl
      · exact ins_shift w base g cap L l ys x hr hg hL hmx ht h h1 ad mc hy hm (fun e => hne (by rw [e]; rfl)) hl hyl
  · subst h
    have h := ins_end w base v l ys hv hb (some ad) mc hy hm hl hyl
    rw [List.take_length, List.drop_length, List.append_nil]
    exact h
/-- What Replace says: the lines from x to z give way to ys. -/
structure RepIn (w : World) (base g cap : Nat) (L : List Value) (l ys : List ByteArray) (x z n m q : Nat) (A : Option Addr) : Prop where
  r : Rw w g 9 L
  hb : base ≤ w.heap.size
  hg : base ≤ g
  hL : L.length = cap
  hm : cap ≤ maxLen
  ht : L.take l.length = encs Value.string l
  hlc : n ≤ cap
  hx : x < z
  hz : z + q = n
  hn : n = l.length
  hmm : m = ys.length
  hy : ReadsOf Value.string ByteArray.empty w A m ys
  hne : 0 < m → ∀ ad, A = some ad → ad.block ≠ g
  hl : n ≤ 1000
  hyl : m ≤ 1000
set_option maxRecDepth 100000 in
set_option maxHeartbeats 40000000 in
theorem rep_grow (w : World) (base g cap : Nat) (L : List Value) (l ys : List ByteArray) (x z n m q : Nat) (ad : Addr) (mc : Nat) (h : RepIn w base g cap L l ys x z n m q (some ad)) (hq : 0 < q) (hroom : cap < x + m + q) :
    Calls Try.prog 40 #[.slice (some ⟨g, 0, none⟩) n cap, .int .i64 x, .int .i64 z, .slice (some ad) m mc] w (RepPost w base (.slice (some ⟨g, 0, none⟩) n cap) (l.take x ++ ys ++ l.drop z)) := by
  obtain ⟨hr, hb, hg, hL, hm, hlt, hlc, hx, hz, hn, hmm, hy, hne, hl, hyl⟩ := h
  have hcap : cap ≤ 9223372036854775807 := by unfold maxLen at hm; omega
  have hnz : n - z = q := by omega
  have hz1 : ¬ ((x : Int) = (z : Int)) := by omega
  have hz2 : ¬ ((z : Int) = (n : Int)) := by omega
  have hw1 : IntKind.i64.wrap ((x : Int) + (m : Int)) = (x : Int) + (m : Int) := by rw [IntKind.wrap_i64]; omega
  have hw0 : IntKind.i64.wrap ((x : Int) + (m : Int) + (q : Int)) = (x : Int) + (m : Int) + (q : Int) := by rw [IntKind.wrap_i64]; omega
  have hw2 : IntKind.i64.wrap ((x : Int) + (m : Int) + (q : Int) - (x : Int)) = (x : Int) + (m : Int) + (q : Int) - (x : Int) := by rw [IntKind.wrap_i64]; omega
  have hz3 : (cap : Int) < (x : Int) + (m : Int) + (q : Int) := by omega
  have hb1 : (0 : Int) ≤ (x : Int) + (m : Int) := by omega
  have hxz : (x : Int) ≤ (z : Int) := by omega
  have hzn : (z : Int) ≤ (n : Int) := by omega
  have hzc : (z : Int) ≤ (cap : Int) := by omega
  have hxc : (x : Int) ≤ (cap : Int) := by omega
  have htn : ((x : Int) + (m : Int)).toNat = x + m := by omega
  have hb3 : (x : Int) ≤ (x : Int) + (m : Int) + (q : Int) := by omega
  have hb4 : ¬ (cap = x) := by omega
  have hb9 : ¬ (cap = z) := by omega
  have hb7 : (x : Int) + (m : Int) ≤ (x : Int) + (m : Int) + (q : Int) := by omega
  have mixed : Try.prog.follows Departure.mixedOrders = true := by kernel_rfl
  have HH := Lib.hid (And.intro hr (And.intro hy (And.intro hn (And.intro hmm (And.intro hlt hz)))))
  clear hr hy hn hmm hlt hz
  go_enter Try.func40, Try.ntmps40
  go_wp2_with fail
  go_quiet (fail)
  obtain ⟨hr0, hy0, hn, hmm, hlt, hz⟩ := HH.out
  have hr : Rw (w.drewN nq) g 9 L := hr0
  have hy : ReadsOf Value.string ByteArray.empty (w.drewN nq) (some ad) m ys := hy0
  have hb0 : base ≤ (w.drewN nq).heap.size := hb
  have hgr : w.grownBy (w.drewN nq) none := ⟨rfl, rfl, rfl, Nat.le_refl _, fun _ _ _ => rfl⟩
  clear hr0 hy0 HH
  generalize w.drewN nq = w0 at *
  have hsrc := src_of hy
  obtain ⟨G, W1, R0, HG, happ⟩ := append_make w0 g cap x (x + m + q) L hr hL (by omega) (by omega) (by omega) (by omega)
  obtain ⟨tl, htl⟩ : ∃ tl, tl = encs Value.string (l.drop z) := ⟨_, rfl⟩
  obtain ⟨vs, hvs⟩ : ∃ vs, vs = encs Value.string ys := ⟨_, rfl⟩
  have htll : tl.length = q := by rw [htl, encs_length, List.length_drop]; omega
  have hvsl : vs.length = m := by rw [hvs, encs_length, hmm]
  have hGt := HG.tot
  have hGm := HG.max
  have hGl := HG.len
  have hG63 : G ≤ 9223372036854775807 := by unfold maxLen at hGm; omega
  have hc1 : ∀ ty dc, (Builtin.copy_ #[22, 22] ty #[.slice (some ⟨w0.heap.size, x, none⟩) (x + m + q - x) dc, .slice (some ad) m mc]).run Try.prog W1 = .ok (goInt vs.length) (W1.setCells w0.heap.size x vs) := fun ty dc =>
    HG.rw.copy 22 ty Try.underlying22 szS x _ dc ad m mc vs (by rw [hvsl]; simp only [Nat.min_def]; split <;> omega) (fun j u hj => grown_cell HG.gr (hsrc j u (by rw [← hvs]; exact hj))) (by rw [hvs]; exact oneS _) (by omega)
  have hR1 : Rw (W1.setCells w0.heap.size x vs) w0.heap.size 9 (put R0 x vs) := Rw.sets vs x _ _ HG.rw (by omega)
  have hg1 : w0.grownBy (W1.setCells w0.heap.size x vs) none := grown_new HG.gr (Nat.le_refl _) x vs
  have hp1 : (put R0 x vs).length = G := by rw [put_len (by omega), hGl]
  obtain ⟨W2, hW2⟩ : ∃ W2, W2 = W1.setCells w0.heap.size x vs := ⟨_, rfl⟩
  rw [← hW2] at hc1 hR1 hg1
  have htlc : ∀ j v, tl[j]? = some v → W2.drew.cell? ((⟨g, z, none⟩ : Addr).add j) = some v := fun j v hj => grown_cell hg1 (rw_tail hr hlt j v (by rw [← htl]; exact hj))
  have hc2 : ∀ ty dc sc, (Builtin.copy_ #[22, 22] ty #[.slice (some ⟨w0.heap.size, x + m, none⟩) q dc, .slice (some ⟨g, z, none⟩) q sc]).run Try.prog W2.drew = .ok (goInt tl.length) (W2.drew.setCells w0.heap.size (x + m) tl) := fun ty dc sc =>
    hR1.drew.copy 22 ty Try.underlying22 szS (x + m) _ dc ⟨g, z, none⟩ _ sc tl (by rw [htll]; simp only [Nat.min_def]; split <;> omega) htlc (by rw [htl]; exact oneS _) (by omega)
  have hR2 : Rw (W2.drew.setCells w0.heap.size (x + m) tl) w0.heap.size 9 (put (put R0 x vs) (x + m) tl) := Rw.sets tl (x + m) _ _ hR1.drew (by omega)
  have hg2 : w0.grownBy (W2.drew.setCells w0.heap.size (x + m) tl) none := grown_new (grown_trans hg1 (grown_drew W2 none)) (Nat.le_refl _) _ tl
  have hfin : (put (put R0 x vs) (x + m) tl).take (x + m + q) = encs Value.string (l.take x ++ ys ++ l.drop z) := by
    have h := put_vt R0 vs tl x (by omega)
    rw [hvsl, htll] at h
    have ho := HG.old
    rw [show (L.take x).length = x by rw [List.length_take]; omega] at ho
    rw [h, encs_append, encs_append, ← hvs, ← htl, ho, take_encs hlt (by omega)]
  have hown : (W2.drew.setCells w0.heap.size (x + m) tl).ownsRow base 9 1 (.slice (some ⟨w0.heap.size, 0, none⟩) (x + m + q) G) (l.take x ++ ys ++ l.drop z).length (encs Value.string (l.take x ++ ys ++ l.drop z)) := by
    have h := hR2.own (base := base) (n := x + m + q) (cap := G) hb0 (by rw [put_len (by omega), hp1]) hGt hGm
    rw [hfin] at h
    rw [show (l.take x ++ ys ++ l.drop z).length = x + m + q by simp only [List.length_append, List.length_take, List.length_drop]; omega]
    exact h
  have HF := Lib.hid (And.intro hown (grown_any (grown_trans hgr hg2) (some g)))
  have hb2 : ¬ (G = x + m) := by omega
  have hb8 : ¬ (G = x) := by omega
  have hcst : (((x + m + q : Nat) : Int) - (x : Int)) = (x : Int) + (m : Int) + (q : Int) - (x : Int) := by omega
  rw [hcst] at happ
  clear hsrc hy hlt hfin hown hg1 hg2 hR1 hR2 htlc htl hvs hr hL hp1 htll hvsl HG hGl hGm hcst hn hmm hW2 hz hne hgr hb0
  go_wp2_with (first
    | (at_builtin; refine Lib.wpList_append_run _ rfl _ _ _ _ rfl _ _ rfl rfl _ _ (happ _) ?_)
    | (at_builtin; refine wpList_copy_runI _ rfl _ _ 22 22 rfl _ _ rfl rfl (hc1 _ _) ?_))
  go_region_law_o (refine step_copy_runI rfl _ _ 22 22 rfl _ _ (by simp [Act.eval, Act.put]) (by simp [Act.eval, Act.put]) (hc2 _ _ _) ?_)
  go_wp2_with fail
  go_ret
  exact ⟨_, rfl, HF.out.1, HF.out.2⟩
end Go.Proofs.Ytmnpcignolofaaa
