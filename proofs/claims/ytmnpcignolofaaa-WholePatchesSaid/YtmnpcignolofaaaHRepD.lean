/- slices.Replace at []string: at the end; all cases. -/
import Derived.Test.YtmnpcignolofaaaHRepC
namespace Go.Proofs.Ytmnpcignolofaaa
set_option linter.unusedVariables false
set_option linter.unusedSimpArgs false
open Go.RowKit Go.Shelf Go.Proofs.YtmnpcignolofaaaW.PrintWords Go.Proofs.YtmnpcignolofaaaW.PrintMore
theorem src_opt {w : World} {A : Option Addr} {m mc : Nat} {ys : List ByteArray} (hy : ReadsOf Value.string ByteArray.empty w A m ys) : Src Try.prog 1 22 (.slice A m mc) m (encs Value.string ys) w := by
  have hm := hy.1
  cases A with
  | some ad => exact Src.ofSlice w Try.underlying22 ad m mc _ (by rw [encs_length, hm]; omega) (src_of hy) (oneS _)
  | none =>
    have h0 : m = 0 := by
      rcases Nat.eq_zero_or_pos m with h0 | h0
      · exact h0
      · obtain ⟨ad, h, _⟩ := hy.2.2 h0
        cases h
    subst h0
    rw [List.eq_nil_of_length_eq_zero hm]
    exact Src.ofNil w Try.underlying22 mc
set_option maxRecDepth 100000 in
set_option maxHeartbeats 40000000 in
theorem rep_end (w : World) (base g cap : Nat) (L : List Value) (l ys : List ByteArray) (x n m : Nat) (A : Option Addr) (mc : Nat) (h : RepIn w base g cap L l ys x n n m 0 A) :
    Calls Try.prog 40 #[.slice (some ⟨g, 0, none⟩) n cap, .int .i64 x, .int .i64 n, .slice A m mc] w (RepPost w base (.slice (some ⟨g, 0, none⟩) n cap) (l.take x ++ ys ++ l.drop n)) := by
  obtain ⟨hr, hb, hg, hL, hm, hlt, hlc, hx, hz, hn, hmm, hy, hne, hl, hyl⟩ := h
  obtain ⟨i0, hi0, hz0, hz1, hz2⟩ := info_parts infoS
  have hcap : cap ≤ 9223372036854775807 := by unfold maxLen at hm; omega
  have hnl : (l.take x ++ ys ++ l.drop n).length = x + m := by simp only [List.length_append, List.length_take, List.length_drop]; omega
  have hne1 : ¬ ((x : Int) = (n : Int)) := by omega
  have hxn : (x : Int) ≤ (n : Int) := by omega
  have hnc : (n : Int) ≤ (cap : Int) := by omega
  have hxc : (x : Int) ≤ (cap : Int) := by omega
  have hb4 : ¬ (cap = x) := by omega
  obtain ⟨vs, hvs⟩ : ∃ vs, vs = encs Value.string ys := ⟨_, rfl⟩
  have hvsl : vs.length = m := by rw [hvs, encs_length, hmm]
  have hS := src_opt (mc := mc) hy
  rw [← hvs] at hS
  have hdr : l.drop n = [] := List.drop_of_length_le (by omega)
  rcases Nat.lt_or_ge cap (x + m) with hroom | hroom
  · -- a new row
    have hold := rw_first (cap := cap) hr.drew (n := x) (by omega)
    have happ := fun ty => run_append_grow_src (P := Try.prog) w 22 22 ty 9 i0 _ Try.underlying22 hi0 hz0 (some ⟨g, 0, none⟩) x cap (L.take x) (by rw [hz1]; exact hold) (.slice A m mc) m vs (by rw [hz1]; exact hS) hroom (by omega) (by rw [hz2]; exact growslice_fits hroom (by omega))
    obtain ⟨G, hG⟩ : ∃ G, G = grownCap w (x + m) cap 9 := ⟨_, rfl⟩
    have hG1 : x + m ≤ G := by rw [hG]; exact grownCap_ge w _ _ _
    have hG2 : G ≤ maxLen := by rw [hG]; exact grownCap_le_maxLen w _ _ _ (by unfold maxLen; omega)
    rw [← hG] at happ
    obtain ⟨ROW, hROW⟩ : ∃ ROW : Array Value, ROW = (L.take x ++ vs).toArray ++ Builtin.zeroCells (Value.string ByteArray.empty).cells (G - (x + m)) := ⟨_, rfl⟩
    rw [← hROW] at happ
    have hlv : (L.take x ++ vs).length = x + m := by rw [List.length_append, List.length_take]; omega
    have hRw : Rw (w.drew.alloc (.cells ROW 9)) w.heap.size 9 ROW.toList := by
      show (w.drew.alloc (.cells ROW 9)).heap[w.heap.size]? = some (.cells ROW.toList.toArray 9 (0, 0))
      rw [show ROW.toList.toArray = ROW by simp]
      exact heap_alloc_new w.drew _
    have hRl : ROW.toList.length = G := by
      rw [Array.length_toList, hROW]
      simp only [Array.size_append, List.size_toArray, hlv, Builtin.zeroCells, Value.cells, Array.size_ofFn]
      simp
      omega
    have hRt : ROW.toList.take (x + m) = encs Value.string (l.take x ++ ys ++ l.drop n) := by
      rw [hROW]
      simp only [Array.toList_append]
      rw [← hlv, List.take_append_of_le_length (Nat.le_refl _), List.take_of_length_le (Nat.le_refl _), hdr, List.append_nil, encs_append, ← hvs, take_encs hlt (by omega)]
    have hg2 : w.grownBy (w.drew.alloc (.cells ROW 9)) none := grown_trans (grown_drew w none) (World.grownBy_alloc w.drew _ none)
    have hown : (w.drew.alloc (.cells ROW 9)).ownsRow base 9 1 (.slice (some ⟨w.heap.size, 0, none⟩) (x + m) G) (l.take x ++ ys ++ l.drop n).length (encs Value.string (l.take x ++ ys ++ l.drop n)) := by
      have h := hRw.own (base := base) (n := x + m) (cap := G) hb hRl hG1 hG2
      rw [hRt] at h
      rw [hnl]
      exact h
    obtain ⟨W1, hW1⟩ : ∃ W1, W1 = w.drew.alloc (.cells ROW 9) := ⟨_, rfl⟩
    rw [← hW1] at happ hown hg2
    have HF := Lib.hid (And.intro hown (grown_any hg2 (some g)))
    have hc1 : ¬ ((x : Int) + (m : Int) < (n : Int)) := by omega
    clear hr hy hn hmm hlt hz hvs hS hdr hRw hRl hRt hown hg2 hW1 hROW hG hold hi0 hz0 hz1 hz2 hlv hvsl hnl hL hne
    go_enter Try.func40, Try.ntmps40
    go_wp2_with (at_builtin; refine Lib.wpList_append_run _ rfl _ _ _ _ rfl _ _ rfl rfl _ _ (happ _) ?_)
    go_ret
    exact ⟨_, rfl, by rw [← List.append_assoc]; exact HF.out.1, HF.out.2⟩
  · -- in place
    have happ := fun ty => run_append_room_src (P := Try.prog) w 22 22 ty 9 i0 Try.underlying22 hi0 g 0 x cap (.slice A m mc) m vs (by rw [hz1]; exact hS) hroom (fun j hj => hr.has (by rw [hz1]; omega)) (fun j _ => hr.frozen _)
    rw [hz1, Nat.mul_one, Nat.zero_add] at happ
    have hR1 : Rw (w.setCells g x vs) g 9 (put L x vs) := Rw.sets vs x _ _ hr (by omega)
    have hG1 : w.grownBy (w.setCells g x vs) (some g) := grown_sets g vs x w
    have hpl : (put L x vs).length = cap := by rw [put_len (by omega), hL]
    obtain ⟨W1, hW1⟩ : ∃ W1, W1 = w.setCells g x vs := ⟨_, rfl⟩
    rw [← hW1] at happ hR1 hG1
    obtain ⟨d, hd⟩ : ∃ d, d = n - (x + m) := ⟨_, rfl⟩
    have hcl : ∀ ty c, (Builtin.clear_ #[22] ty #[.slice (some ⟨g, x + m, none⟩) d c]).run Try.prog W1 = .ok (.tuple #[]) (W1.setCells g (x + m) (List.replicate d (.string .empty))) := fun ty c =>
      hR1.clear ty (x + m) d c (by omega) _ (fun _ => rfl)
    have hR3 : Rw (W1.setCells g (x + m) (List.replicate d (.string .empty))) g 9 (put (put L x vs) (x + m) (List.replicate d (.string .empty))) := Rw.sets _ _ _ _ hR1 (by rw [List.length_replicate]; omega)
    have hG3 : w.grownBy (W1.setCells g (x + m) (List.replicate d (.string .empty))) (some g) := grown_trans hG1 (grown_sets g _ _ W1)
    have hfin0 : (put L x vs).take (x + m) = encs Value.string (l.take x ++ ys ++ l.drop n) := by
      have h := put_end L vs x (by omega)
      rw [hvsl] at h
      rw [h, hdr, List.append_nil, encs_append, ← hvs, take_encs hlt (by omega)]
    have hfin : (put (put L x vs) (x + m) (List.replicate d (.string .empty))).take (x + m) = encs Value.string (l.take x ++ ys ++ l.drop n) := by
      rw [put_keep _ _ _ _ (Nat.le_refl _) (by rw [List.length_replicate]; omega), hfin0]
    obtain ⟨W3, hW3⟩ : ∃ W3, W3 = W1.setCells g (x + m) (List.replicate d (.string .empty)) := ⟨_, rfl⟩
    rw [← hW3] at hcl hR3 hG3
    have hown1 : W1.ownsRow base 9 1 (.slice (some ⟨g, 0, none⟩) (x + m) cap) (l.take x ++ ys ++ l.drop n).length (encs Value.string (l.take x ++ ys ++ l.drop n)) := by
      have h := hR1.own (base := base) (n := x + m) (cap := cap) hg hpl hroom hm
      rw [hfin0] at h
      rw [hnl]
      exact h
    have hown3 : W3.ownsRow base 9 1 (.slice (some ⟨g, 0, none⟩) (x + m) cap) (l.take x ++ ys ++ l.drop n).length (encs Value.string (l.take x ++ ys ++ l.drop n)) := by
      have h := hR3.own (base := base) (n := x + m) (cap := cap) hg (by rw [put_len (by rw [List.length_replicate]; omega), hpl]) hroom hm
      rw [hfin] at h
      rw [hnl]
      exact h
    have H1 := Lib.hid (And.intro hown1 hG1)
    have H3 := Lib.hid (And.intro hown3 hG3)
    have hd2 : n - (x + m) = d := hd.symm
    have hlt2 : x + m < n ∨ n ≤ x + m := Nat.lt_or_ge _ _
    clear hr hy hn hmm hlt hz hvs hS hdr hR1 hR3 hG1 hG3 hfin hfin0 hW1 hW3 hown1 hown3 hi0 hz0 hz1 hz2 hvsl hnl hL hne hpl hd
    rcases hlt2 with hlt2 | hlt2
    · have hc1 : (x : Int) + (m : Int) < (n : Int) := by omega
      have hc2 : ¬ (cap = x + m) := by omega
      have hc3 : (0 : Int) ≤ (x : Int) + (m : Int) := by omega
      have hc4 : ((x : Int) + (m : Int)).toNat = x + m := by omega
      have hc5 : (x : Int) + (m : Int) ≤ (n : Int) := by omega
      clear hlt2
      go_enter Try.func40, Try.ntmps40
      go_wp2_with (at_builtin; refine Lib.wpList_append_run _ rfl _ _ _ _ rfl _ _ rfl rfl _ _ (happ _) ?_)
      go_ret
      exact ⟨_, rfl, H3.out.1, H3.out.2⟩
    · have hc1 : ¬ ((x : Int) + (m : Int) < (n : Int)) := by omega
      clear hlt2
      go_enter Try.func40, Try.ntmps40
      go_wp2_with (at_builtin; refine Lib.wpList_append_run _ rfl _ _ _ _ rfl _ _ rfl rfl _ _ (happ _) ?_)
      go_ret
      exact ⟨_, rfl, by rw [← List.append_assoc]; exact H1.out.1, H1.out.2⟩
set_option maxRecDepth 100000 in
set_option maxHeartbeats 40000000 in
/-- slices.Replace of a row of its own: the lines from x to z give way to ys. -/
theorem rep_calls (w : World) (base : Nat) (v : Value) (l ys : List ByteArray) (x z : Nat) (hv : w.ownsRow base 9 1 v l.length (encs Value.string l)) (hb : base ≤ w.heap.size) (hx : x ≤ z) (hz : z ≤ l.length) (A : Option Addr) (mc : Nat) (hy : ReadsOf Value.string ByteArray.empty w A ys.length ys) (hne : 0 < ys.length → ∀ ad, A = some ad → some ad.block ≠ v.ownBlock) (hm : x < z ∨ 0 < ys.length) (hl : l.length ≤ 1000) (hyl : ys.length ≤ 1000) :
    Calls Try.prog 40 #[v, .int .i64 x, .int .i64 z, .slice A ys.length mc] w (RepPost w base v (l.take x ++ ys ++ l.drop z)) := by
  rcases Nat.lt_or_eq_of_le hx with h | h
  · rcases own_rw hv with ⟨_, h0, _⟩ | ⟨g, cap, L, rfl, hg, hr, hn, hmx, hL, ht⟩
    · omega
    · have hne2 : 0 < ys.length → ∀ ad, A = some ad → ad.block ≠ g := fun h0 ad e e2 => hne h0 ad e (by rw [e2]; rfl)
      have R := fun q hq => (⟨hr, hb, hg, hL, hmx, ht, hn, h, hq, rfl, rfl, hy, hne2, hl, hyl⟩ : RepIn w base g cap L l ys x z l.length ys.length q A)
      rcases Nat.lt_or_eq_of_le hz with h1 | h1
      · rcases Nat.lt_or_ge z (x + ys.length) with h2 | h2
        · obtain ⟨ad, rfl, _⟩ := hy.2.2 (by omega)
          rcases Nat.lt_or_ge cap (x + ys.length + (l.length - z)) with h3 | h3
          · exact rep_grow w base g cap L l ys x z _ _ _ ad mc (R (l.length - z) (by omega)) (by omega) h3
          · exact rep_room w base g cap L l ys x z _ _ _ ad mc (R (l.length - z) (by omega)) (by omega) h3 h2
        · exact rep_small w base g cap L l ys x z _ _ _ A mc (R (l.length - z) (by omega)) (by omega) h2
      · subst h1
        exact rep_end w base g cap L l ys x _ _ A mc (R 0 rfl)
  · subst h
    obtain ⟨ad, rfl, _⟩ := hy.2.2 (by omega)
    obtain ⟨B, c, rfl⟩ := own_slice hv
    have hcc := own_cap hv
    have hxl : (x : Int) ≤ (l.length : Int) := by omega
    have hxc : (x : Int) ≤ (c : Int) := by omega
    have hI := Lib.hid (ins_calls w base _ l ys x hv hb hz ad mc hy (by omega) (hne (by omega) ad rfl) hl hyl)
    obtain ⟨n, hn⟩ : ∃ n, n = l.length := ⟨_, rfl⟩
    obtain ⟨m, hm2⟩ : ∃ n, n = ys.length := ⟨_, rfl⟩
    obtain ⟨R, hR⟩ : ∃ R, R = l.take x ++ ys ++ l.drop x := ⟨_, rfl⟩
    rw [← hn, ← hm2, ← hR] at hI
    rw [← hn, ← hm2, ← hR]
    rw [← hn] at hxl hcc
    clear hv hy hne hn hm2 hR hz hl hyl hm
    by_cases hcx : c = x
    · subst hcx
      go_enter Try.func40, Try.ntmps40
      go_wp2_with fail
      refine hI.out.mono ?_
      rintro e w' ⟨v', rfl, ho, hg⟩
      have HO := Lib.hid (And.intro ho hg)
      clear ho hg hI
      go_wp2_with fail
      go_ret
      exact ⟨_, rfl, HO.out.1, HO.out.2⟩
    · go_enter Try.func40, Try.ntmps40
      go_wp2_with fail
      refine hI.out.mono ?_
      rintro e w' ⟨v', rfl, ho, hg⟩
      have HO := Lib.hid (And.intro ho hg)
      clear ho hg hI
      go_wp2_with fail
      go_ret
      exact ⟨_, rfl, HO.out.1, HO.out.2⟩
end Go.Proofs.Ytmnpcignolofaaa
