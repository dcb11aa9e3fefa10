-- Written by fprint.py, a program of this session, over the translation. Not trusted: Lean checks it.
import Derived.Test.YtkdklcamgcmifaaDoorPMx0
import Derived.Test.YtkdklcamgcmifaaDoorPMx1
namespace Go.Proofs.YtkdklcamgcmifaaDoor.PM
open Go.RowKit Go.Proofs.YtkdklcamgcmifaaDoorW.PrintWords Go.Proofs.YtkdklcamgcmifaaDoorW.PrintLast Go.Proofs.YtkdklcamgcmifaaDoorW.PrintMore
attribute [local go_sem] max2_int min2_int max_two min_two max_three min_three max_four min_four   -- for this text's walks alone
set_option linter.unusedVariables false
set_option linter.unusedSimpArgs false

/-! ### deflate_writer_distance: function 62 -/
def disS (n : Nat) : Nat := if n - 1 < 4 then n - 1 else 2 * exN (n - 1) 2 + 2 + (n - 1) / 2 ^ exN (n - 1) 2 % 2
def disE (n : Nat) : Nat := if n - 1 < 4 then 0 else exN (n - 1) 2
def disX (n : Nat) : Nat := if n - 1 < 4 then 0 else (n - 1) % 2 ^ exN (n - 1) 2
/-- A distance's bits. -/
def disV (n : Nat) : Nat := rev 5 (disS n) + disX n * 2 ^ 5
def disN (n : Nat) : Nat := 5 + disE n
set_option maxHeartbeats 1000000 in
set_option maxRecDepth 100000 in
theorem distance_calls (base g : Nat) (W : World) (T N n : Nat) (hw : Wr base g W T N) (hn0 : 1 ≤ n) (hn1 : n ≤ 32768) (hN : N + 30 ≤ 1000000000000000) :
    Calls Tryd.prog 62 #[.pointer (some ⟨g, 0, none⟩), .int .i64 n] W fun e w' => Puts base g W T N (disV n) (disN n) e w' := by
  have hW := Lib.hid hw
  clear hw
  obtain ⟨v, hnv⟩ : ∃ v, v = n - 1 := ⟨n - 1, rfl⟩
  have hnv1 : (n : Int) - 1 = (v : Int) := by omega
  have HNV := Lib.hid hnv1
  by_cases h2 : v < 4
  · have hS : disS n = v := by unfold disS; rw [← hnv, if_pos h2]
    have hV : disV n = rev 5 v := by unfold disV disX; rw [hS, ← hnv, if_pos h2]; omega
    have hM : disN n = 5 := by unfold disN disE; rw [← hnv, if_pos h2]
    rw [hV, hM]
    have i2 : (v : Int) < 4 := by omega
    have i3 : (n : Int) - 1 < 4 := by omega
    clear hS hV hM hnv
    go_enter Tryd.func62, Tryd.ntmps62
    go_wp2_with fail
    try rw [HNV.out]
    refine (code_calls base g W T N v 5 hW.out (by omega) (by omega) (by omega)).mono ?_
    rintro e w2 ⟨rfl, h2, h3⟩
    go_wp2_with fail
    exact bodyPost_ret (results_none rfl _ _ _) rfl ⟨rfl, h2, h3⟩
  · have i2 : ¬ (n : Int) - 1 < 4 := by omega
    have hex := exN_eq v 2 2 (by omega) (by omega)
    have hS : disS n = 2 * exN v 2 + 2 + v / 2 ^ exN v 2 % 2 := by unfold disS; rw [← hnv, if_neg h2]
    have hV : disV n = rev 5 (2 * exN v 2 + 2 + v / 2 ^ exN v 2 % 2) + v % 2 ^ exN v 2 * 2 ^ 5 := by unfold disV disX; rw [hS, ← hnv, if_neg h2]
    have hM : disN n = 5 + exN v 2 := by unfold disN disE; rw [← hnv, if_neg h2]
    rw [hV, hM]
    generalize exN v 2 = x at *
    have hx13 : x ≤ 13 := by
      rcases Nat.lt_or_ge 13 x with h | h
      · have h9 : 2 ^ 15 ≤ 2 ^ (x + 2 - 1) := Nat.pow_le_pow_right (by decide) (by omega)
        have := hex.2.1
        omega
      · exact h
    have HR : LenIs v x 2 := ⟨by rw [len_call v (by omega), hex.1]⟩
    have hx0 : (0 : Int) ≤ (x : Int) := by omega
    have hx64 : (x : Int) < 64 := by omega
    have hdi : ((v : Int) / 2 ^ x) = ((v / 2 ^ x : Nat) : Int) := by simp
    have hdl : v / 2 ^ x ≤ v := Nat.div_le_self _ _
    have hv15 : v < 32768 := by omega
    have hbit : bits .and .i64 ((v : Int) / 2 ^ x) 1 = ((v / 2 ^ x % 2 : Nat) : Int) := by
      rw [hdi]
      exact and_mask64 (v / 2 ^ x) 1 (by omega) (by omega)
    have HBIT := Lib.hid hbit
    clear hV hM hS hdi hex hnv h2 hnv1 hbit hdl
    go_enter Tryd.func62, Tryd.ntmps62
    go_wp2_with fail
    try rw [HNV.out]
    refine (bits_Len.calls _ _ W HR.eq).mono ?_
    rintro e w1 ⟨rfl, hd⟩
    obtain ⟨m1, rfl⟩ := hd.out
    go_wp2_with fail
    have hq : wrap64 (2 * (x : Int) + 2 + bits .and .i64 ((v : Int) / 2 ^ x) 1) = ((2 * x + 2 + v / 2 ^ x % 2 : Nat) : Int) := by
      rw [HBIT.out]
      generalize v / 2 ^ x = y
      simp only [wrap64]
      omega
    rw [hq]
    refine (code_calls base g (W.drewN m1) T N (2 * x + 2 + v / 2 ^ x % 2) 5 (hW.out.drewN m1) (by generalize v / 2 ^ x = y; omega) (by omega) (by omega)).mono ?_
    clear hq
    rintro e w2 ⟨rfl, hs2, hw2⟩
    have HS2 := Lib.hid hs2
    have HW2 := Lib.hid hw2
    clear hs2 hw2
    go_wp2_with fail
    rw [mask_spell v x (by omega) (by omega)]
    have hmod : v % 2 ^ x < 2 ^ x := Nat.mod_lt _ (Nat.pow_pos (by decide))
    refine (number_calls base g w2 _ _ _ x HW2.out hmod (by omega) (by omega)).mono ?_
    clear hmod
    rintro e w3 ⟨rfl, hs3, hw3⟩
    have HS3 := Lib.hid hs3
    have HW3 := Lib.hid hw3
    clear hs3 hw3
    go_wp2_with fail
    refine bodyPost_end (results_none rfl _ _ _) rfl ?_
    exact Puts.mk' (e := .returned (.tuple #[])) ⟨rfl, ((SF.refl g W).drewN m1).trans HS2.out, HW2.out⟩ ⟨rfl, HS3.out, HW3.out⟩


-- NOT PRINTED: function 63 (deflate_finder_note)

/-! ### deflate_fixed: function 37 -/
/-- From the place i on, T of N bits having been written: what there is before the end's symbol. -/
def fixT (l : List Int) (i T N : Nat) : Nat × Nat :=
  if h : i < l.length then
    if hn : (mat l i).1 = 0 then fixT l (i + 1) (T + symV (l.getD i 0).toNat * 2 ^ N) (N + symN (l.getD i 0).toNat)
    else fixT l (i + (mat l i).1) (T + lenV (mat l i).1 * 2 ^ N + disV (mat l i).2 * 2 ^ (N + lenN (mat l i).1)) (N + lenN (mat l i).1 + disN (mat l i).2)
  else (T, N)
termination_by l.length - i
decreasing_by all_goals omega
theorem fixT_end {l : List Int} {i T N : Nat} (h : l.length ≤ i) : fixT l i T N = (T, N) := by rw [fixT, dif_neg (by omega)]
theorem fixT_lit {l : List Int} {i T N : Nat} (h : i < l.length) (hn : (mat l i).1 = 0) : fixT l i T N = fixT l (i + 1) (T + symV (l.getD i 0).toNat * 2 ^ N) (N + symN (l.getD i 0).toNat) := by
  conv => lhs; rw [fixT]
  rw [dif_pos h, dif_pos hn]
theorem fixT_mat {l : List Int} {i T N : Nat} (h : i < l.length) (hn : (mat l i).1 ≠ 0) : fixT l i T N = fixT l (i + (mat l i).1) (T + lenV (mat l i).1 * 2 ^ N + disV (mat l i).2 * 2 ^ (N + lenN (mat l i).1)) (N + lenN (mat l i).1 + disN (mat l i).2) := by
  conv => lhs; rw [fixT]
  rw [dif_pos h, dif_neg hn]
/-- The bytes of the stream of way 1. -/
def fixedB (l : List Int) : List Int := leB (((fixT l 0 3 3).2 + symN 256 + 7) / 8) ((fixT l 0 3 3).1 + symV 256 * 2 ^ (fixT l 0 3 3).2)
theorem lenE_le (n : Nat) (h0 : 3 ≤ n) (h1 : n ≤ 258) : lenN n ≤ 17 := by
  have hs := symN_le (lenS n)
  unfold lenN lenE
  by_cases h : n = 258
  · rw [if_pos h]; omega
  · rw [if_neg h]
    by_cases h2 : n < 11
    · rw [if_pos h2]; omega
    · rw [if_neg h2]
      obtain ⟨e1, e2, e3⟩ := exN_eq (n - 3) 3 3 (Nat.le_refl _) (by omega)
      have : exN (n - 3) 3 + 3 - 1 < 8 := (Nat.pow_lt_pow_iff_right (by decide : 1 < 2)).1 (by omega)
      omega
theorem disE_le (n : Nat) (h0 : 1 ≤ n) (h1 : n ≤ 32768) : disN n ≤ 18 := by
  unfold disN disE
  by_cases h2 : n - 1 < 4
  · rw [if_pos h2]; omega
  · rw [if_neg h2]
    obtain ⟨e1, e2, e3⟩ := exN_eq (n - 1) 2 2 (Nat.le_refl _) (by omega)
    have : exN (n - 1) 2 + 2 - 1 < 15 := (Nat.pow_lt_pow_iff_right (by decide : 1 < 2)).1 (by omega)
    omega
theorem wr_note {w0 : World} {base g f M V : Nat} {A : Option Addr} {c cv : Nat} {l : List Int} {i T N : Nat} {W W' : World} (hw : Wr base g W T N) (hF : Fd w0 f M V A c cv l i W) (h : MF M V W W') : Wr base g W' T N := by
  have hlt := hw.lt
  have hrow := hw.row_ge
  obtain ⟨v, hb, ho, hbg, hT⟩ := hw
  obtain ⟨P, hP, _⟩ := hF.row
  obtain ⟨cur, hV⟩ := own_typed hP V rfl
  obtain ⟨D, k, ⟨es, clock, hM, _⟩, _⟩ := hF.map
  refine Wr.keep ⟨v, hb, ho, hbg, hT⟩ (h.keep g hlt ?_ (blk_ne hb hV (by decide))) fun i hi => h.keep i (hrow i hi).2 ?_ ?_
  · rintro rfl
    rw [hb] at hM
    cases hM
  · rintro rfl
    rw [rowOf_eq hb rfl] at hi
    obtain ⟨cur2, h2⟩ := own_typed ho i hi
    rw [h2] at hM
    cases hM
  · rw [rowOf_eq hb rfl] at hi
    obtain ⟨cur2, h2⟩ := own_typed ho i hi
    exact blk_ne h2 hV (by decide)
theorem fd_put {w0 : World} {g f M V : Nat} {A : Option Addr} {c cv : Nat} {l : List Int} {i T N : Nat} {W W' : World} (hw : Wr w0.heap.size g W T N) (hF : Fd w0 f M V A c cv l i W) (h : SF g W W') : Fd w0 f M V A c cv l i W' := by
  have hrow := hw.row_ge
  obtain ⟨v, hb, ho, hbg, hT⟩ := hw
  obtain ⟨P, hP, hPv⟩ := hF.row
  obtain ⟨cur, hV⟩ := own_typed hP V rfl
  obtain ⟨D, k, hown, hk, hD⟩ := hF.map
  have hown' := hown
  obtain ⟨es, clock, hM, hM2⟩ := hown'
  have hr : ∀ j, rowOf W g = some j → ∃ cur2, W.heap[j]? = some (.cells cur2 5 (0, 0)) := fun j hj => by
    rw [rowOf_eq hb rfl] at hj
    exact own_typed ho j hj
  have kf : W'.heap[f]? = W.heap[f]? := h.keep f (blk_lt hF.blk) (blk_ne hF.blk hb (by decide)) fun e => by
    obtain ⟨cur2, h2⟩ := hr f e
    exact blk_ne hF.blk h2 (by decide) rfl
  have kV : W'.heap[V]? = W.heap[V]? := h.keep V (blk_lt hV) (blk_ne hV hb (by decide)) fun e => by
    obtain ⟨cur2, h2⟩ := hr V e
    exact blk_ne hV h2 (by decide) rfl
  have kM : W'.heap[M]? = W.heap[M]? := h.keep M (blk_lt hM) (by rintro rfl; rw [hb] at hM; cases hM) fun e => by
    obtain ⟨cur2, h2⟩ := hr M e
    rw [h2] at hM
    cases hM
  exact ⟨kf.trans hF.blk, hF.bf, hF.bM, hF.rd, h.below hF.below hF.below.size hbg (fun j hj => (hrow j hj).1), ⟨D, k, ⟨es, clock, kM.trans hM, hM2⟩, hk, hD⟩, P, own_move hP (fun j hj => by
    have : V = j := by simpa [Value.ownBlock] using hj
    rw [← this]
    exact kV), hPv⟩
theorem wr_new (w : World) : Wr w.heap.size w.heap.size (w.alloc (.cells #[.slice none 0 0, .int .u32 0, .int .i64 0] 79)) 0 0 :=
  ⟨.slice none 0 0, heap_alloc_new w _, World.ownsRow_nil _ _ _ _, Nat.le_refl _, by decide⟩
theorem fd_drew1 {w0 : World} {f M V : Nat} {A : Option Addr} {c cv : Nat} {l : List Int} {i : Nat} {W : World} (h : Fd w0 f M V A c cv l i W) : Fd w0 f M V A c cv l i W.drew := h.drewN 1
theorem wr_allocs {base g : Nat} {W : World} {T N : Nat} (h : Wr base g W T N) (o : Obj) : Wr base g (W.alloc o) T N := h.keep (Below.heap_alloc W o g h.lt) fun i hi => Below.heap_alloc W o i (h.row_ge i hi).2
theorem wr_drew1 {base g : Nat} {W : World} {T N : Nat} (h : Wr base g W T N) : Wr base g W.drew T N := h.keep rfl (fun _ _ => rfl)
set_option maxRecDepth 8000 in
set_option maxHeartbeats 4000000 in
theorem fixed_calls (w : World) (A : Option Addr) (c : Nat) (l : List Int) (hl : ReadsInt w .u8 A l.length l) (hby : ∀ x ∈ l, 0 ≤ x ∧ x < 256) (hm : l.length ≤ 1048576) :
    Calls Tryd.prog 37 #[.slice A l.length c] w fun e w' => ∃ v, e = .returned v ∧ Bs 5 w' w.heap.size v (fixedB l) ∧ Below w.heap.size w w' := by
  have HL := Lib.hid hl
  have HNEW := Lib.hid (wr_new w)
  have hmi := print_make (P := Tryd.prog) 51 3 .i64 8 Tryd.underlying51 infoInt (by decide) l.length (by omega)
  clear hl
  have hmm := make_map
  go_enter Tryd.func37, Tryd.ntmps37
  go_wp2_with fail
  refine (number_calls w.heap.size w.heap.size _ 0 0 3 3 HNEW.out (by decide) (by decide) (by decide)).mono ?_
  rintro e w1 ⟨rfl, hs1, hw1⟩
  have HB1 := Lib.hid (hs1.below (below_alloc (Below.refl w.heap.size w) _) (by simp) (Nat.le_refl _) (fun j hj => (HNEW.out.row_ge j hj).1))
  have HW1 := Lib.hid hw1
  clear hs1 hw1
  go_wp2_with fail
  go_region
  · have HF2 : Hid (Fd w (w1.heap.size + 1 + 1) w1.heap.size (w1.heap.size + 1) A c l.length l 0 _) := Lib.hid (fd_drew1 (made_finder1 (c := c) HB1.out HL.out hm))
    have HW2 := Lib.hid (wr_drew1 (wr_allocs (wr_allocs (wr_allocs HW1.out (.map #[] 0)) (.cells (madeCells #[.int .i64 0] l.length) 3)) (.cells #[.slice A l.length c, .map (some (w1.heap.size)), .slice (some ⟨w1.heap.size + 1, 0, none⟩) l.length l.length] 83)))
    generalize (World.drew _) = W2 at HF2 HW2 ⊢
    generalize w1.heap.size + 1 + 1 = f at HF2 ⊢
    obtain ⟨M, hM⟩ : ∃ M, M = w1.heap.size := ⟨_, rfl⟩
    obtain ⟨V, hV⟩ : ∃ V, V = w1.heap.size + 1 := ⟨_, rfl⟩
    rw [← hV, ← hM] at HF2
    clear hM hV
    generalize (if (65535 : Int) < (l.length : Int) then (65535 : Int) else (l.length : Int)) = q15
    clear hmi hmm HW1 HB1 HNEW
    go_wp2_with fail
    go_loopw [5] (fun vi wr => ∃ (i T N : Nat), vi = .int .i64 i ∧ i ≤ l.length ∧ N ≤ 3 + 40 * i ∧ Hid (Wr w.heap.size w.heap.size wr T N) ∧ Hid (Fd w f M V A c l.length l i wr) ∧ Hid (fixT l i T N = fixT l 0 3 3)) (fun vi _ => l.length - (intOf vi).toNat)
    case atStart => exact ⟨0, 3, 3, rfl, by omega, by omega, HW2, HF2, Lib.hid rfl⟩
    case round =>
      obtain ⟨i, T, N, rfl, hi, hN, hw, hF, hT⟩ := hrel
      by_cases hlt : i < l.length
      · have i1 : (i : Int) < (l.length : Int) := by omega
        have i0 : (0 : Int) ≤ (i : Int) := by omega
        obtain ⟨n, hn⟩ : ∃ n, n = (mat l i).1 := ⟨_, rfl⟩
        obtain ⟨d, hd⟩ : ∃ d, d = (mat l i).2 := ⟨_, rfl⟩
        have hmb := mat_bounds l i
        rw [← hn, ← hd] at hmb
        have HN := Lib.hid hn
        have HD := Lib.hid hd
        go_wp2_with fail
        refine (match_calls w f M V A c l.length l i wr hF.out hby (by omega) hi).mono ?_
        rintro e w2 ⟨he, m, rfl⟩
        rw [← hn, ← hd] at he
        clear hn hd
        have HF3 := Lib.hid (hF.out.drewN m)
        have HW3 := Lib.hid (hw.out.drewN m)
        clear hF hw
        generalize wr.drewN m = w3 at *
        obtain ⟨ad, hA, hcell⟩ := HF3.out.reads.2.2 (by omega)
        subst hA
        rcases Nat.eq_zero_or_pos n with hz | hz
        · rw [hz, show ((0 : Nat) : Int) = 0 from rfl] at he
          subst he
          have k1 := hcell i hlt
          obtain ⟨s, hs, hs2⟩ : ∃ s : Nat, l.getD i 0 = (s : Int) ∧ s < 256 := by
            have := bytes_getD hby i
            exact ⟨(l.getD i 0).toNat, by omega, by omega⟩
          have HFX := Lib.hid ((fixT_lit hlt (by rw [← HN.out, hz])).symm.trans hT.out)
          rw [hs, Int.toNat_natCast] at HFX
          rw [hs] at k1
          clear hs hcell
          go_wp2_with fail
          refine (symbol_calls w.heap.size w.heap.size w3 T N s HW3.out (by omega) (by omega)).mono ?_
          rintro e w5 ⟨rfl, hs5, hw5⟩
          have HF5 := Lib.hid (fd_put HW3.out HF3.out hs5)
          have HW5 := Lib.hid hw5
          have hN5 : N + symN s ≤ 3 + 40 * (i + 1) := by have := symN_le s; omega
          clear hs5 hw5 k1 HF3 HW3
          generalize T + symV s * 2 ^ N = T5 at HFX HW5
          generalize N + symN s = N5 at HFX HW5 hN5
          have HHX := HFX
          go_wp2_with fail
          go_loopw [48, 5] (fun vk vi wr => ∃ k : Nat, vk = .int .i64 k ∧ vi = .int .i64 ((i + k : Nat) : Int) ∧ k ≤ 1 ∧ Hid (Wr w.heap.size w.heap.size wr T5 N5) ∧ Hid (Fd w f M V (some ad) c l.length l (i + k) wr)) (fun vk _ _ => 1 - (intOf vk).toNat)
          case atStart => exact ⟨0, rfl, rfl, by omega, HW5, HF5⟩
          case round =>
            obtain ⟨k, rfl, rfl, hk, hwk, hFk⟩ := hrel
            by_cases hkn : k < 1
            · have hkI : (k : Int) < ((1 : Nat) : Int) := by omega
              go_wp2_with fail
              refine (note_calls w f M V (some ad) c l.length l (i + k) wr hFk.out hby (by omega) (by omega)).mono ?_
              rintro e w6 ⟨rfl, hm6, hF6⟩
              have HW6 := Lib.hid (wr_note hwk.out hFk.out hm6)
              have HF6 := Lib.hid hF6
              clear hm6 hF6
              go_wp2_with fail
              go_roundw
              case rel => exact ⟨k + 1, by go_num, by go_num, by omega, HW6, HF6⟩
              case measure => simp [intOf]; omega
            · obtain rfl : k = 1 := by omega
              go_wp2_with fail
              go_roundw
              case rel => exact ⟨_, T5, N5, rfl, by omega, by omega, hwk, hFk, HFX⟩
              case measure => simp [intOf]; omega
        · subst he
          have hnz : ((n : Int) == 0) = false := by simp; omega
          have HFX := Lib.hid ((fixT_mat hlt (by rw [← HN.out]; omega)).symm.trans hT.out)
          rw [← HN.out, ← HD.out] at HFX
          clear hcell
          have hlN := lenE_le n (by omega) (by omega)
          have hdN := disE_le d (by omega) (by omega)
          go_wp2_with fail
          refine (length_calls w.heap.size w.heap.size w3 T N n HW3.out (by omega) (by omega) (by omega)).mono ?_
          rintro e w4 ⟨rfl, hs4, hw4⟩
          have HF4 := Lib.hid (fd_put HW3.out HF3.out hs4)
          have HW4 := Lib.hid hw4
          clear hs4 hw4 HF3 HW3
          go_wp2_with fail
          refine (distance_calls w.heap.size w.heap.size w4 _ _ d HW4.out (by omega) (by omega) (by omega)).mono ?_
          rintro e w5 ⟨rfl, hs5, hw5⟩
          have HF5 := Lib.hid (fd_put HW4.out HF4.out hs5)
          have HW5 := Lib.hid hw5
          have hN5 : N + lenN n + disN d ≤ 3 + 40 * (i + n) := by omega
          clear hs5 hw5 HF4 HW4
          generalize T + lenV n * 2 ^ N + disV d * 2 ^ (N + lenN n) = T5 at HFX HW5
          generalize N + lenN n + disN d = N5 at HFX HW5 hN5
          go_wp2_with fail
          go_loopw [48, 5] (fun vk vi wr => ∃ k : Nat, vk = .int .i64 k ∧ vi = .int .i64 ((i + k : Nat) : Int) ∧ k ≤ n ∧ Hid (Wr w.heap.size w.heap.size wr T5 N5) ∧ Hid (Fd w f M V (some ad) c l.length l (i + k) wr)) (fun vk _ _ => n - (intOf vk).toNat)
          case atStart => exact ⟨0, rfl, rfl, by omega, HW5, HF5⟩
          case round =>
            obtain ⟨k, rfl, rfl, hk, hwk, hFk⟩ := hrel
            by_cases hkn : k < n
            · have hkI : (k : Int) < ((n : Nat) : Int) := by omega
              go_wp2_with fail
              refine (note_calls w f M V (some ad) c l.length l (i + k) wr hFk.out hby (by omega) (by omega)).mono ?_
              rintro e w6 ⟨rfl, hm6, hF6⟩
              have HW6 := Lib.hid (wr_note hwk.out hFk.out hm6)
              have HF6 := Lib.hid hF6
              clear hm6 hF6
              go_wp2_with fail
              go_roundw
              case rel => exact ⟨k + 1, by go_num, by go_num, by omega, HW6, HF6⟩
              case measure => simp [intOf]; omega
            · obtain rfl : k = n := by omega
              go_wp2_with fail
              go_roundw
              case rel => exact ⟨_, T5, N5, rfl, by omega, by omega, hwk, hFk, HFX⟩
              case measure => simp [intOf]; omega
      · obtain rfl : i = l.length := by omega
        have HE := Lib.hid (hT.out.symm.trans (fixT_end (Nat.le_refl _)))
        go_wp2_with fail
        refine (symbol_calls w.heap.size w.heap.size wr T N 256 hw.out (by omega) (by omega)).mono ?_
        rintro e w2 ⟨rfl, hs2, hw2⟩
        have HB2 := Lib.hid (hs2.below hF.out.below hF.out.below.size (Nat.le_refl _) (fun j hj => (hw.out.row_ge j hj).1))
        have HW2 := Lib.hid hw2
        have HEQ : Hid (fixedB l = leB ((N + symN 256 + 7) / 8) (T + symV 256 * 2 ^ N)) := Lib.hid (by unfold fixedB; rw [HE.out])
        have hsy := symN_le 256
        clear hs2 hw2 hF hw HE hT
        generalize T + symV 256 * 2 ^ N = T3 at HW2 HEQ
        have hN3 : N + symN 256 ≤ 100000000 := by omega
        generalize N + symN 256 = N3 at HW2 HEQ hN3
        obtain ⟨cc, hcc⟩ : ∃ cc, cc = N3 % 8 := ⟨_, rfl⟩
        obtain ⟨q, hq⟩ : ∃ q, q = (8 - cc) % 8 := ⟨_, rfl⟩
        obtain ⟨v, hb, ho, hbg, hT3⟩ := HW2.out
        have c2 : w2.cell? ⟨w.heap.size, 2, none⟩ = some (.int .i64 ((cc : Nat) : Int)) := by rw [hcc]; exact blk_cell hb 2
        have hc8 : (cc : Int) < 8 := by omega
        have hc0 : (0 : Int) ≤ (cc : Int) := by omega
        have htm : ((8 : Int) - (cc : Int)).tmod 8 = (q : Int) := by rw [Int.tmod_eq_emod_of_nonneg (by omega)]; omega
        have HQ := Lib.hid (show (N3 + q) / 8 = (N3 + 7) / 8 by omega)
        have hq7 : q ≤ 7 := by omega
        clear hb ho hbg hT3 hcc hq
        go_wp2_with fail
        refine (number_calls w.heap.size w.heap.size w2 T3 N3 0 q HW2.out (Nat.pow_pos (by decide)) (by omega) (by omega)).mono ?_
        rintro e w3 ⟨rfl, hs3, hw3⟩
        have HB3 := Lib.hid (hs3.below HB2.out HB2.out.size (Nat.le_refl _) (fun j hj => (HW2.out.row_ge j hj).1))
        obtain ⟨v3, hb3, ho3, _, _⟩ := hw3
        have c0 : w3.cell? ⟨w.heap.size, 0, none⟩ = some v3 := blk_cell hb3 0
        have HO3 := Lib.hid ho3
        clear hb3 ho3 hs3 c2
        go_wp2_with fail
        go_ret
        refine ⟨v3, rfl, ?_, HB3.out⟩
        rw [HEQ.out, ← HQ.out]
        simpa using HO3.out
  · have HF2 : Hid (Fd w (w1.heap.size + 1 + 1) (w1.heap.size + 1) w1.heap.size A c l.length l 0 _) := Lib.hid (fd_drew1 (made_finder2 (c := c) HB1.out HL.out hm))
    have HW2 := Lib.hid (wr_drew1 (wr_allocs (wr_allocs (wr_allocs HW1.out (.cells (madeCells #[.int .i64 0] l.length) 3)) (.map #[] 0)) (.cells #[.slice A l.length c, .map (some (w1.heap.size + 1)), .slice (some ⟨w1.heap.size, 0, none⟩) l.length l.length] 83)))
    generalize (World.drew _) = W2 at HF2 HW2 ⊢
    generalize w1.heap.size + 1 + 1 = f at HF2 ⊢
    obtain ⟨M, hM⟩ : ∃ M, M = w1.heap.size + 1 := ⟨_, rfl⟩
    obtain ⟨V, hV⟩ : ∃ V, V = w1.heap.size := ⟨_, rfl⟩
    rw [← hM, ← hV] at HF2
    clear hM hV
    generalize (if (65535 : Int) < (l.length : Int) then (65535 : Int) else (l.length : Int)) = q15
    clear hmi hmm HW1 HB1 HNEW
    go_wp2_with fail
    go_loopw [5] (fun vi wr => ∃ (i T N : Nat), vi = .int .i64 i ∧ i ≤ l.length ∧ N ≤ 3 + 40 * i ∧ Hid (Wr w.heap.size w.heap.size wr T N) ∧ Hid (Fd w f M V A c l.length l i wr) ∧ Hid (fixT l i T N = fixT l 0 3 3)) (fun vi _ => l.length - (intOf vi).toNat)
    case atStart => exact ⟨0, 3, 3, rfl, by omega, by omega, HW2, HF2, Lib.hid rfl⟩
    case round =>
      obtain ⟨i, T, N, rfl, hi, hN, hw, hF, hT⟩ := hrel
      by_cases hlt : i < l.length
      · have i1 : (i : Int) < (l.length : Int) := by omega
        have i0 : (0 : Int) ≤ (i : Int) := by omega
        obtain ⟨n, hn⟩ : ∃ n, n = (mat l i).1 := ⟨_, rfl⟩
        obtain ⟨d, hd⟩ : ∃ d, d = (mat l i).2 := ⟨_, rfl⟩
        have hmb := mat_bounds l i
        rw [← hn, ← hd] at hmb
        have HN := Lib.hid hn
        have HD := Lib.hid hd
        go_wp2_with fail
        refine (match_calls w f M V A c l.length l i wr hF.out hby (by omega) hi).mono ?_
        rintro e w2 ⟨he, m, rfl⟩
        rw [← hn, ← hd] at he
        clear hn hd
        have HF3 := Lib.hid (hF.out.drewN m)
        have HW3 := Lib.hid (hw.out.drewN m)
        clear hF hw
        generalize wr.drewN m = w3 at *
        obtain ⟨ad, hA, hcell⟩ := HF3.out.reads.2.2 (by omega)
        subst hA
        rcases Nat.eq_zero_or_pos n with hz | hz
        · rw [hz, show ((0 : Nat) : Int) = 0 from rfl] at he
          subst he
          have k1 := hcell i hlt
          obtain ⟨s, hs, hs2⟩ : ∃ s : Nat, l.getD i 0 = (s : Int) ∧ s < 256 := by
            have := bytes_getD hby i
            exact ⟨(l.getD i 0).toNat, by omega, by omega⟩
          have HFX := Lib.hid ((fixT_lit hlt (by rw [← HN.out, hz])).symm.trans hT.out)
          rw [hs, Int.toNat_natCast] at HFX
          rw [hs] at k1
          clear hs hcell
          go_wp2_with fail
          refine (symbol_calls w.heap.size w.heap.size w3 T N s HW3.out (by omega) (by omega)).mono ?_
          rintro e w5 ⟨rfl, hs5, hw5⟩
          have HF5 := Lib.hid (fd_put HW3.out HF3.out hs5)
          have HW5 := Lib.hid hw5
          have hN5 : N + symN s ≤ 3 + 40 * (i + 1) := by have := symN_le s; omega
          clear hs5 hw5 k1 HF3 HW3
          generalize T + symV s * 2 ^ N = T5 at HFX HW5
          generalize N + symN s = N5 at HFX HW5 hN5
          have HHX := HFX
          go_wp2_with fail
          go_loopw [48, 5] (fun vk vi wr => ∃ k : Nat, vk = .int .i64 k ∧ vi = .int .i64 ((i + k : Nat) : Int) ∧ k ≤ 1 ∧ Hid (Wr w.heap.size w.heap.size wr T5 N5) ∧ Hid (Fd w f M V (some ad) c l.length l (i + k) wr)) (fun vk _ _ => 1 - (intOf vk).toNat)
          case atStart => exact ⟨0, rfl, rfl, by omega, HW5, HF5⟩
          case round =>
            obtain ⟨k, rfl, rfl, hk, hwk, hFk⟩ := hrel
            by_cases hkn : k < 1
            · have hkI : (k : Int) < ((1 : Nat) : Int) := by omega
              go_wp2_with fail
              refine (note_calls w f M V (some ad) c l.length l (i + k) wr hFk.out hby (by omega) (by omega)).mono ?_
              rintro e w6 ⟨rfl, hm6, hF6⟩
              have HW6 := Lib.hid (wr_note hwk.out hFk.out hm6)
              have HF6 := Lib.hid hF6
              clear hm6 hF6
              go_wp2_with fail
              go_roundw
              case rel => exact ⟨k + 1, by go_num, by go_num, by omega, HW6, HF6⟩
              case measure => simp [intOf]; omega
            · obtain rfl : k = 1 := by omega
              go_wp2_with fail
              go_roundw
              case rel => exact ⟨_, T5, N5, rfl, by omega, by omega, hwk, hFk, HFX⟩
              case measure => simp [intOf]; omega
        · subst he
          have hnz : ((n : Int) == 0) = false := by simp; omega
          have HFX := Lib.hid ((fixT_mat hlt (by rw [← HN.out]; omega)).symm.trans hT.out)
          rw [← HN.out, ← HD.out] at HFX
          clear hcell
          have hlN := lenE_le n (by omega) (by omega)
          have hdN := disE_le d (by omega) (by omega)
          go_wp2_with fail
          refine (length_calls w.heap.size w.heap.size w3 T N n HW3.out (by omega) (by omega) (by omega)).mono ?_
          rintro e w4 ⟨rfl, hs4, hw4⟩
          have HF4 := Lib.hid (fd_put HW3.out HF3.out hs4)
          have HW4 := Lib.hid hw4
          clear hs4 hw4 HF3 HW3
          go_wp2_with fail
          refine (distance_calls w.heap.size w.heap.size w4 _ _ d HW4.out (by omega) (by omega) (by omega)).mono ?_
          rintro e w5 ⟨rfl, hs5, hw5⟩
          have HF5 := Lib.hid (fd_put HW4.out HF4.out hs5)
          have HW5 := Lib.hid hw5
          have hN5 : N + lenN n + disN d ≤ 3 + 40 * (i + n) := by omega
          clear hs5 hw5 HF4 HW4
          generalize T + lenV n * 2 ^ N + disV d * 2 ^ (N + lenN n) = T5 at HFX HW5
          generalize N + lenN n + disN d = N5 at HFX HW5 hN5
          go_wp2_with fail
          go_loopw [48, 5] (fun vk vi wr => ∃ k : Nat, vk = .int .i64 k ∧ vi = .int .i64 ((i + k : Nat) : Int) ∧ k ≤ n ∧ Hid (Wr w.heap.size w.heap.size wr T5 N5) ∧ Hid (Fd w f M V (some ad) c l.length l (i + k) wr)) (fun vk _ _ => n - (intOf vk).toNat)
          case atStart => exact ⟨0, rfl, rfl, by omega, HW5, HF5⟩
          case round =>
            obtain ⟨k, rfl, rfl, hk, hwk, hFk⟩ := hrel
            by_cases hkn : k < n
            · have hkI : (k : Int) < ((n : Nat) : Int) := by omega
              go_wp2_with fail
              refine (note_calls w f M V (some ad) c l.length l (i + k) wr hFk.out hby (by omega) (by omega)).mono ?_
              rintro e w6 ⟨rfl, hm6, hF6⟩
              have HW6 := Lib.hid (wr_note hwk.out hFk.out hm6)
              have HF6 := Lib.hid hF6
              clear hm6 hF6
              go_wp2_with fail
              go_roundw
              case rel => exact ⟨k + 1, by go_num, by go_num, by omega, HW6, HF6⟩
              case measure => simp [intOf]; omega
            · obtain rfl : k = n := by omega
              go_wp2_with fail
              go_roundw
              case rel => exact ⟨_, T5, N5, rfl, by omega, by omega, hwk, hFk, HFX⟩
              case measure => simp [intOf]; omega
      · obtain rfl : i = l.length := by omega
        have HE := Lib.hid (hT.out.symm.trans (fixT_end (Nat.le_refl _)))
        go_wp2_with fail
        refine (symbol_calls w.heap.size w.heap.size wr T N 256 hw.out (by omega) (by omega)).mono ?_
        rintro e w2 ⟨rfl, hs2, hw2⟩
        have HB2 := Lib.hid (hs2.below hF.out.below hF.out.below.size (Nat.le_refl _) (fun j hj => (hw.out.row_ge j hj).1))
        have HW2 := Lib.hid hw2
        have HEQ : Hid (fixedB l = leB ((N + symN 256 + 7) / 8) (T + symV 256 * 2 ^ N)) := Lib.hid (by unfold fixedB; rw [HE.out])
        have hsy := symN_le 256
        clear hs2 hw2 hF hw HE hT
        generalize T + symV 256 * 2 ^ N = T3 at HW2 HEQ
        have hN3 : N + symN 256 ≤ 100000000 := by omega
        generalize N + symN 256 = N3 at HW2 HEQ hN3
        obtain ⟨cc, hcc⟩ : ∃ cc, cc = N3 % 8 := ⟨_, rfl⟩
        obtain ⟨q, hq⟩ : ∃ q, q = (8 - cc) % 8 := ⟨_, rfl⟩
        obtain ⟨v, hb, ho, hbg, hT3⟩ := HW2.out
        have c2 : w2.cell? ⟨w.heap.size, 2, none⟩ = some (.int .i64 ((cc : Nat) : Int)) := by rw [hcc]; exact blk_cell hb 2
        have hc8 : (cc : Int) < 8 := by omega
        have hc0 : (0 : Int) ≤ (cc : Int) := by omega
        have htm : ((8 : Int) - (cc : Int)).tmod 8 = (q : Int) := by rw [Int.tmod_eq_emod_of_nonneg (by omega)]; omega
        have HQ := Lib.hid (show (N3 + q) / 8 = (N3 + 7) / 8 by omega)
        have hq7 : q ≤ 7 := by omega
        clear hb ho hbg hT3 hcc hq
        go_wp2_with fail
        refine (number_calls w.heap.size w.heap.size w2 T3 N3 0 q HW2.out (Nat.pow_pos (by decide)) (by omega) (by omega)).mono ?_
        rintro e w3 ⟨rfl, hs3, hw3⟩
        have HB3 := Lib.hid (hs3.below HB2.out HB2.out.size (Nat.le_refl _) (fun j hj => (HW2.out.row_ge j hj).1))
        obtain ⟨v3, hb3, ho3, _, _⟩ := hw3
        have c0 : w3.cell? ⟨w.heap.size, 0, none⟩ = some v3 := blk_cell hb3 0
        have HO3 := Lib.hid ho3
        clear hb3 ho3 hs3 c2
        go_wp2_with fail
        go_ret
        refine ⟨v3, rfl, ?_, HB3.out⟩
        rw [HEQ.out, ← HQ.out]
        simpa using HO3.out
def deflate_fixed.f (l0 : List Int) : Option (List Int) := if l0.length ≤ 1048576 ∧ (∀ x ∈ l0, 0 ≤ x ∧ x < 256) then some (fixedB l0) else none
theorem deflate_fixed.calls (A0 : Option Addr) (c0 : Nat) (l0 : List Int) (r : List Int) (w : World) (hr0 : Kd.C (Kd.int .u8) w A0 l0.length l0) (hc0 : l0.length ≤ c0) (h : deflate_fixed.f l0 = some r) :
    Calls Tryd.prog 37 #[.slice A0 l0.length c0] w fun e w' => ∃ v0_ : Value, e = .returned (v0_) ∧ Kd.R (Kd.int .u8) 5 w' w.heap.size (fun _ => True) v0_ r ∧ Below w.heap.size w w' := by
  unfold deflate_fixed.f at h
  split at h
  · rename_i hb
    obtain rfl := Option.some.inj h
    exact (fixed_calls w A0 c0 l0 (readsC hr0) hb.2 hb.1).mono fun e w' ⟨v, he, hv, hbl⟩ => ⟨v, he, Bs.toR hv, hbl⟩
  · cases h


/-! ### deflate_Deflate: function 20 -/
/-- What Deflate answers. -/
def docD (l : List Int) (a : Int) : List Int × Int := if a < 0 ∨ 2 < a then ([], 1) else if a = 0 then (storedB l, 0) else if a = 2 ∧ (storedB l).length ≤ (fixedB l).length then (storedB l, 0) else (fixedB l, 0)
theorem stored_len (l : List Int) : (storedB l).length = l.length + 5 := by simp [storedB]
theorem Bs.mono_ {e : Nat} {w : World} {b b' : Nat} {v : Value} {l : List Int} (h : Bs e w b v l) (hb : b' ≤ b) : Bs e w b' v l := own_weaken h hb
set_option maxRecDepth 8000 in
set_option maxHeartbeats 2000000 in
theorem fixed_nil : fixedB [] = [3, 0] := by
  unfold fixedB
  rw [fixT_end (by decide)]
  decide +kernel
theorem deflate_nil (w : World) (A : Option Addr) (c : Nat) (hl : ReadsInt w .u8 A 0 []) :
    Calls Tryd.prog 20 #[.slice A 0 c, .int .i64 2] w fun e w' => ∃ v, e = .returned (.tuple #[v, .int .i64 (docD [] 2).2]) ∧ Bs 5 w' w.heap.size v (docD [] 2).1 ∧ Below w.heap.size w w' := by
  have e : docD [] 2 = ([3, 0], 0) := by
    unfold docD
    rw [stored_len, fixed_nil]
    decide
  rw [e]
  have hF := fixed_calls w A c [] hl (by simp) (by decide)
  rw [fixed_nil, List.length_nil] at hF
  have HF := Lib.hid hF
  clear hF hl e
  go_enter Tryd.func20, Tryd.ntmps20
  go_wp2_with fail
  refine HF.out.mono ?_
  rintro e w1 ⟨v, rfl, hv, hb⟩
  have HB := Lib.hid hb
  obtain ⟨Av, cv, hve⟩ := own_slice hv
  subst hve
  have HV := Lib.hid hv
  clear hv hb
  rw [show ([3, 0] : List Int).length = 2 from rfl]
  go_wp2_with fail
  go_ret2
  exact ⟨_, rfl, HV.out, HB.out⟩
set_option maxRecDepth 8000 in
set_option maxHeartbeats 2000000 in
theorem deflate_calls (w : World) (A : Option Addr) (c : Nat) (l : List Int) (a : Int) (hl : ReadsInt w .u8 A l.length l) (hc : l.length ≤ c) (hby : ∀ x ∈ l, 0 ≤ x ∧ x < 256) (hm : l.length ≤ 60000) :
    Calls Tryd.prog 20 #[.slice A l.length c, .int .i64 a] w fun e w' => ∃ v, e = .returned (.tuple #[v, .int .i64 (docD l a).2]) ∧ Bs 5 w' w.heap.size v (docD l a).1 ∧ Below w.heap.size w w' := by
  have HL := Lib.hid hl
  have HBY := Lib.hid hby
  have hlen : ¬ (l.length : Int) > 1048576 := by omega
  clear hl hby
  by_cases h1 : a < 0 ∨ 2 < a
  · have e : docD l a = ([], 1) := by unfold docD; rw [if_pos h1]
    rw [e]
    rcases h1 with h1 | h1
    · go_enter Tryd.func20, Tryd.ntmps20
      go_wp2_with fail
      go_ret2
      exact ⟨.slice none 0 0, rfl, World.ownsRow_nil _ _ _ _, Below.refl _ _⟩
    · have h2 : ¬ a < 0 := by omega
      have h3 : a > 2 := by omega
      go_enter Tryd.func20, Tryd.ntmps20
      go_wp2_with fail
      go_ret2
      exact ⟨.slice none 0 0, rfl, World.ownsRow_nil _ _ _ _, Below.refl _ _⟩
  · have n1 : ¬ a < 0 := by omega
    have n2 : ¬ a > 2 := by omega
    by_cases h0 : a = 0
    · have e : docD l a = (storedB l, 0) := by unfold docD; rw [if_neg h1, if_pos h0]
      rw [e]
      have b0 : (a == 0) = true := by simp [h0]
      clear e h1 h0
      go_enter Tryd.func20, Tryd.ntmps20
      go_wp2_with fail
      refine (stored_calls w A c l HL.out hc (by omega)).mono ?_
      rintro e w1 ⟨v, rfl, hv, hb⟩
      have HV := Lib.hid hv
      have HB := Lib.hid hb
      clear hv hb
      go_wp2_with fail
      go_ret2
      exact ⟨v, rfl, HV.out, HB.out⟩
    · have b0 : (a == 0) = false := by simp [h0]
      by_cases h2 : a = 2
      · rcases Nat.eq_zero_or_pos l.length with hz0 | hz0
        · obtain rfl := List.eq_nil_of_length_eq_zero hz0
          rw [h2]
          exact deflate_nil w A c HL.out
        have b2 : (a == 2) = true := by simp [h2]
        obtain ⟨n, hn⟩ : ∃ n, n = (fixedB l).length := ⟨_, rfl⟩
        have e : docD l a = if l.length + 5 ≤ n then (storedB l, 0) else (fixedB l, 0) := by
          unfold docD
          rw [if_neg h1, if_neg h0, stored_len, ← hn]
          by_cases h5 : l.length + 5 ≤ n
          · rw [if_pos ⟨h2, h5⟩, if_pos h5]
          · rw [if_neg (fun h => h5 h.2), if_neg h5]
        by_cases h5 : l.length + 5 ≤ n
        · rw [e, if_pos h5]
          have HN := Lib.hid hn
          have i5 : (n : Int) ≥ (l.length : Int) + 5 := by omega
          clear e h1 h0 h2 hn
          go_enter Tryd.func20, Tryd.ntmps20
          go_wp2_with fail
          refine (fixed_calls w A c l HL.out HBY.out (by omega)).mono ?_
          rintro e w1 ⟨v, rfl, hv, hb⟩
          have HB := Lib.hid hb
          obtain ⟨Av, cv, hve⟩ := own_slice hv
          subst hve
          rw [← HN.out] at hv ⊢
          have HV := Lib.hid hv
          clear hv hb
          rcases Nat.eq_zero_or_pos l.length with hz | hz
          · exact absurd hz (by omega)
          · have hmy : ¬ ((l.length : Int) - 1 < 0) := by omega
            have hmz : ((l.length : Int) - 1).tdiv 65535 = 0 := by rw [Int.tdiv_eq_ediv_of_nonneg (by omega)]; omega
            go_wp2_with fail
            refine (stored_calls w1 A c l (HL.out.below HB.out) hc (by omega)).mono ?_
            rintro e w2 ⟨v2, rfl, hv2, hb2⟩
            have HV2 := Lib.hid (Bs.mono_ hv2 HB.out.size)
            have HB2 := Lib.hid (below_then HB.out HB.out.size hb2)
            clear hv2 hb2
            go_wp2_with fail
            go_ret2
            exact ⟨v2, rfl, HV2.out, HB2.out⟩
        · rw [e, if_neg h5]
          have HN := Lib.hid hn
          have i5 : ¬ (n : Int) ≥ (l.length : Int) + 5 := by omega
          clear e h1 h0 h2 hn
          go_enter Tryd.func20, Tryd.ntmps20
          go_wp2_with fail
          refine (fixed_calls w A c l HL.out HBY.out (by omega)).mono ?_
          rintro e w1 ⟨v, rfl, hv, hb⟩
          have HB := Lib.hid hb
          obtain ⟨Av, cv, hve⟩ := own_slice hv
          subst hve
          rw [← HN.out] at hv ⊢
          have HV := Lib.hid hv
          clear hv hb
          rcases Nat.eq_zero_or_pos l.length with hz | hz
          · exact absurd hz (by omega)
          · have hmy : ¬ ((l.length : Int) - 1 < 0) := by omega
            have hmz : ((l.length : Int) - 1).tdiv 65535 = 0 := by rw [Int.tdiv_eq_ediv_of_nonneg (by omega)]; omega
            go_wp2_with fail
            go_ret2
            exact ⟨_, rfl, HV.out, HB.out⟩
      · have b2 : (a == 2) = false := by simp [h2]
        have e : docD l a = (fixedB l, 0) := by unfold docD; rw [if_neg h1, if_neg h0, if_neg (fun h => h2 h.1)]
        rw [e]
        clear e h1 h0 h2
        go_enter Tryd.func20, Tryd.ntmps20
        go_wp2_with fail
        refine (fixed_calls w A c l HL.out HBY.out (by omega)).mono ?_
        rintro e w1 ⟨v, rfl, hv, hb⟩
        have HV := Lib.hid hv
        have HB := Lib.hid hb
        clear hv hb
        go_wp2_with fail
        go_ret2
        exact ⟨v, rfl, HV.out, HB.out⟩
def deflate_Deflate.f (l0 : List Int) (a1 : Int) : Option (List Int × Int) := if l0.length ≤ 60000 ∧ (∀ x ∈ l0, 0 ≤ x ∧ x < 256) then some (docD l0 a1) else none
theorem deflate_Deflate.calls (A0 : Option Addr) (c0 : Nat) (l0 : List Int) (a1 : Int) (r1 : List Int) (r2 : Int) (w : World) (hr0 : Kd.C (Kd.int .u8) w A0 l0.length l0) (hc0 : l0.length ≤ c0) (h : deflate_Deflate.f l0 a1 = some (r1, r2)) :
    Calls Tryd.prog 20 #[.slice A0 l0.length c0, .int .i64 a1] w fun e w' => ∃ v0_ : Value, e = .returned (.tuple #[v0_, .int .i64 r2]) ∧ Kd.R (Kd.int .u8) 5 w' w.heap.size (fun _ => True) v0_ r1 ∧ Below w.heap.size w w' := by
  unfold deflate_Deflate.f at h
  split at h
  · rename_i hb
    have e := Option.some.inj h
    have h1 : r1 = (docD l0 a1).1 := by rw [e]
    have h2 : r2 = (docD l0 a1).2 := by rw [e]
    rw [h1, h2]
    exact (deflate_calls w A0 c0 l0 a1 (readsC hr0) hc0 hb.2 hb.1).mono fun e w' ⟨v, he, hv, hbl⟩ => ⟨v, he, Bs.toR hv, hbl⟩
  · cases h


/-! ### zlib_Wrap: function 22 -/
def zlib_Wrap.f (k : Nat) (l0 : List Int) (a1 : Int) : Option (List Int × Int) := (deflate_Deflate.f l0 a1).bind fun bt104 => (if bt104.2 = 0 then ((zlib_Adler.f k l0).bind fun t108 => ((some (([120, 1] : List Int) : List Int)).bind fun y109 => (if y109.length + bt104.1.length < 140737488355328 then ((some (y109 ++ bt104.1 : List Int)).bind fun y112 => ((some (([(t108 / 16777216) % 256, (t108 / 65536) % 256, (t108 / 256) % 256, (t108) % 256] : List Int) : List Int)).bind fun y115 => (if y112.length + y115.length < 140737488355328 then (some ((y112 ++ y115), 0)) else (none)))) else (none)))) else (some (([] : List Int), bt104.2)))
theorem zlib_Wrap.mono : ∀ a0 a1 k, LeO (zlib_Wrap.f k a0 a1) (zlib_Wrap.f (k + 1) a0 a1) := by
  intro a0 a1 k
  unfold zlib_Wrap.f
  repeat' first
      | (with_reducible exact zlib_Adler.mono _ _)
      | (with_reducible exact LeO.refl _)
      | (with_reducible exact LeO.none _)
      | (with_reducible refine LeO.ite ?_ ?_)
      | (with_reducible refine LeO.bind ?_ (fun _ => ?_))
      | exact zlib_Adler.mono _ _
      | exact LeO.none _
      | refine LeO.ite ?_ ?_
      | refine LeO.bind ?_ (fun _ => ?_)
set_option maxHeartbeats 8000000 in
set_option maxRecDepth 100000 in
theorem zlib_Wrap.calls (k : Nat) (A0 : Option Addr) (c0 : Nat) (l0 : List Int) (a1 : Int) (r1 : List Int) (r2 : Int) (w : World) (hr0 : Kd.C (Kd.int .u8) w A0 l0.length l0) (hc0 : l0.length ≤ c0) (h : zlib_Wrap.f k l0 a1 = some (r1, r2)) :
    Calls Tryd.prog 22 #[.slice A0 l0.length c0, .int .i64 a1] w fun e w' => ∃ v0_ : Value, e = .returned (.tuple #[v0_, .int .i64 r2]) ∧ Kd.R (Kd.int .u8) 5 w' w.heap.size (fun _ => True) v0_ r1 ∧ Below w.heap.size w w' := by
  have HR0 := Aside0.mk hr0
  have HC0 := Aside0.mk hc0
  clear hr0 hc0
  have HB := Aside0.mk (Below.refl w.heap.size w)
  have H : ((deflate_Deflate.f l0 a1).bind fun bt104 => (if bt104.2 = 0 then ((zlib_Adler.f k l0).bind fun t108 => ((some (([120, 1] : List Int) : List Int)).bind fun y109 => (if y109.length + bt104.1.length < 140737488355328 then ((some (y109 ++ bt104.1 : List Int)).bind fun y112 => ((some (([(t108 / 16777216) % 256, (t108 / 65536) % 256, (t108 / 256) % 256, (t108) % 256] : List Int) : List Int)).bind fun y115 => (if y112.length + y115.length < 140737488355328 then (some ((y112 ++ y115), 0)) else (none)))) else (none)))) else (some (([] : List Int), bt104.2)))) = some (r1, r2) := h
  clear h
  replace H := Option.bind_eq_some_iff.mp H
  obtain ⟨⟨t104, t105⟩, A30, H⟩ := H
  replace H : (if t105 = 0 then ((zlib_Adler.f k l0).bind fun t108 => ((some (([120, 1] : List Int) : List Int)).bind fun y109 => (if y109.length + t104.length < 140737488355328 then ((some (y109 ++ t104 : List Int)).bind fun y112 => ((some (([(t108 / 16777216) % 256, (t108 / 65536) % 256, (t108 / 256) % 256, (t108) % 256] : List Int) : List Int)).bind fun y115 => (if y112.length + y115.length < 140737488355328 then (some ((y112 ++ y115), 0)) else (none)))) else (none)))) else (some (([] : List Int), t105))) = some (r1, r2) := H
  have A3 := Aside0.mk A30
  clear A30
  by_cases c4 : t105 = 0
  · rw [if_pos c4] at H
    have c4b0 : (t105 == 0) = true := beq_iff_eq.mpr c4
    have c4b1 : (t105 != 0) = false := bne_eq_false_iff_eq.mpr c4
    clear c4
    replace H := Option.bind_eq_some_iff.mp H
    obtain ⟨t108, A50, H⟩ := H
    replace H : ((some (([120, 1] : List Int) : List Int)).bind fun y109 => (if y109.length + t104.length < 140737488355328 then ((some (y109 ++ t104 : List Int)).bind fun y112 => ((some (([(t108 / 16777216) % 256, (t108 / 65536) % 256, (t108 / 256) % 256, (t108) % 256] : List Int) : List Int)).bind fun y115 => (if y112.length + y115.length < 140737488355328 then (some ((y112 ++ y115), 0)) else (none)))) else (none))) = some (r1, r2) := H
    have A5 := Aside0.mk A50
    clear A50
    obtain ⟨y109, hy109⟩ : ∃ y_ : List Int, y_ = (([120, 1] : List Int)) := ⟨_, rfl⟩
    replace H : (if y109.length + t104.length < 140737488355328 then ((some (y109 ++ t104 : List Int)).bind fun y112 => ((some (([(t108 / 16777216) % 256, (t108 / 65536) % 256, (t108 / 256) % 256, (t108) % 256] : List Int) : List Int)).bind fun y115 => (if y112.length + y115.length < 140737488355328 then (some ((y112 ++ y115), 0)) else (none)))) else (none)) = some (r1, r2) := by first | (rw [hy109]; with_reducible exact H) | (have H2_ := (Option.bind_some _ _).symm.trans H; rw [hy109]; with_reducible exact H2_) | (have H2_ := (Option.bind_some _ _).symm.trans H; with_reducible exact H2_) | with_reducible exact H | (rw [hy109]; exact H) | exact H
    have Ny109 := Aside0.mk hy109
    clear hy109
    by_cases c6 : y109.length + t104.length < 140737488355328
    · rw [if_pos c6] at H
      have LMc6 := Aside0.mk c6
      clear c6
      obtain ⟨y112, hy112⟩ : ∃ y_ : List Int, y_ = (y109 ++ t104) := ⟨_, rfl⟩
      replace H : ((some (([(t108 / 16777216) % 256, (t108 / 65536) % 256, (t108 / 256) % 256, (t108) % 256] : List Int) : List Int)).bind fun y115 => (if y112.length + y115.length < 140737488355328 then (some ((y112 ++ y115), 0)) else (none))) = some (r1, r2) := by first | (rw [hy112]; with_reducible exact H) | (have H2_ := (Option.bind_some _ _).symm.trans H; rw [hy112]; with_reducible exact H2_) | (have H2_ := (Option.bind_some _ _).symm.trans H; with_reducible exact H2_) | with_reducible exact H | (rw [hy112]; exact H) | exact H
      have Ny112 := Aside0.mk hy112
      clear hy112
      obtain ⟨y115, hy115⟩ : ∃ y_ : List Int, y_ = (([(t108 / 16777216) % 256, (t108 / 65536) % 256, (t108 / 256) % 256, (t108) % 256] : List Int)) := ⟨_, rfl⟩
      replace H : (if y112.length + y115.length < 140737488355328 then (some ((y112 ++ y115), 0)) else (none)) = some (r1, r2) := by first | (rw [hy115]; with_reducible exact H) | (have H2_ := (Option.bind_some _ _).symm.trans H; rw [hy115]; with_reducible exact H2_) | (have H2_ := (Option.bind_some _ _).symm.trans H; with_reducible exact H2_) | with_reducible exact H | (rw [hy115]; exact H) | exact H
      have Ny115 := Aside0.mk hy115
      clear hy115
      by_cases c7 : y112.length + y115.length < 140737488355328
      · rw [if_pos c7] at H
        have LMc7 := Aside0.mk c7
        clear c7
        obtain ⟨y118, hy118⟩ : ∃ y_ : List Int, y_ = (y112 ++ y115) := ⟨_, rfl⟩
        replace H : (some (y118, 0)) = some (r1, r2) := by first | (rw [hy118]; with_reducible exact H) | (have H2_ := (Option.bind_some _ _).symm.trans H; rw [hy118]; with_reducible exact H2_) | (have H2_ := (Option.bind_some _ _).symm.trans H; with_reducible exact H2_) | with_reducible exact H | (rw [hy118]; exact H) | exact H
        have Ny118 := Aside0.mk hy118
        clear hy118
        simp only [Option.some.injEq, Prod.mk.injEq] at H
        obtain ⟨rfl, rfl⟩ := H
        go_enter Tryd.func22, Tryd.ntmps22
        go_wp2_with (first | ((with_reducible refine gate_callee (f := 20) rfl ?_); refine goesL_ (some 13) rfl rfl Tryd.func20 (by kernel_rfl) rfl #[.slice A0 l0.length c0, .int .i64 a1] rfl (by (try simp only [List.map_toArray, List.map_cons, List.map_nil]); first | done | rfl | (simp only [List.length_drop, List.length_take]; rfl)) ?_; (with_reducible refine (deflate_Deflate.calls _ _ l0 a1 t104 t105 _ ?side1 ?side2 A3.out).mono ?_); (case side1 => repeat (first | exact HR0.out | (with_reducible refine Kd.C_alloc ?_ _) | (with_reducible refine Kd.C_drewN ?_ _) | (with_reducible refine Kd.C_drew ?_))); (case side2 => exact HC0.out); rintro e w8 ⟨v106, rfl, ho0, hb⟩; refine ⟨_, rfl, ?_⟩; have n0_ := Aside0.mk (Kd.R_lower ho0 (below_size (by repeat (first | (with_reducible first | exact HB.out | apply below_alloc | apply pw_below_drewN | apply below_drew1) | exact HB.out)))); have n1_ := Aside0.mk (below_step (by repeat (first | (with_reducible first | exact HB.out | apply below_alloc | apply pw_below_drewN | apply below_drew1) | exact HB.out)) hb); clear HB; have HO107 := n0_; have HB := n1_; clear n0_ n1_; (try clear hb); (try clear hb2); (try clear hk); (try clear hi); (try clear ho0)) | ((with_reducible refine gate_callee (f := 24) rfl ?_); refine goesL_ (some 20) rfl rfl Tryd.func24 (by kernel_rfl) rfl #[.slice A0 l0.length c0] rfl (by (try simp only [List.map_toArray, List.map_cons, List.map_nil]); first | done | rfl | (simp only [List.length_drop, List.length_take]; rfl)) ?_; (with_reducible refine (zlib_Adler.calls k _ _ l0 t108 _ ?side1 ?side2 A5.out).mono ?_); (case side1 => repeat (first | exact (Kd.C_below HR0.out HB.out) | (with_reducible refine Kd.C_alloc ?_ _) | (with_reducible refine Kd.C_drewN ?_ _) | (with_reducible refine Kd.C_drew ?_))); (case side2 => exact HC0.out); rintro e w' ⟨rfl, ⟨nd, rfl⟩⟩; refine ⟨_, rfl, ?_⟩) | ((with_reducible refine gate_dst (N := 21) rfl ?_); refine Kd.R_lit (Kd.int .u8) _ 5 ?hg (N := 21) ?hd (xs := ([120, 1] : List Int)) (inner := [.int .u8 120, .int .u8 1]) (ok := fun _ => True) (okp := fun _ => True) ?hr ?hp (fun _ hk => hk) trivial (Below.refl _ _) (Nat.le_refl _) (by simp) ?_; (case hd => rfl); (case hg => rfl); (case hr => first | (go_simp; done) | (go_simp; rfl)); (case hp => exact (Reps.one (show Kd.M (Kd.int .u8) _ _ _ 120 [.int .u8 120] from rfl) (Reps.one (show Kd.M (Kd.int .u8) _ _ _ 1 [.int .u8 1] from rfl) (Reps.none _ _)))); intro v110 w9 ho10 hb hg_ hnew_; clear hg_ hnew_; (first | rw [← Ny109.out] at ho10 | (simp only [Int.reduceToNat] at ho10; rw [← Ny109.out] at ho10)); have n0_ := Aside0.mk (Kd.R_elder' (by (with_reducible repeat (first | apply Kd.R_alloc | apply Kd.R_drewN | apply Kd.R_drew)); exact HO107.out) (Kd.R_base ho10) hb); have n1_ := Aside0.mk (Kd.R_lower (Kd.R_new' ho10 (Kd.R_lt (by (with_reducible repeat (first | apply Kd.R_alloc | apply Kd.R_drewN | apply Kd.R_drew)); exact HO107.out))) (below_size (by repeat (first | (with_reducible first | exact HB.out | apply below_alloc | apply pw_below_drewN | apply below_drew1) | exact HB.out)))); have n2_ := Aside0.mk (below_step (by repeat (first | (with_reducible first | exact HB.out | apply below_alloc | apply pw_below_drewN | apply below_drew1) | exact HB.out)) hb); clear HO107; clear HB; have HO107 := n0_; have HO111 := n1_; have HB := n2_; clear n0_ n1_ n2_; clear hb ho10; obtain ⟨Ao12, co12, eo12⟩ := Kd.R_slice HO107.out; subst eo12) | ((with_reducible refine gate_builtin (b := .append) (xs := #[.tmp 21, .tmp 22]) rfl ?_); at_builtin; refine Kd.R_append_rows (Kd.int .u8) (w0 := w) w.heap.size rfl (.tmp 21) (.tmp 22) 22 5 (.int .u8 0) 1 rfl Tryd.underlying22 info5 rfl (by decide) (by omega) v110 y109 t104 _ _ _ (fun k_ => some k_ ≠ (.slice Ao12 t104.length co12 : Value).ownBlock) (fun _ => False) rfl rfl ?aO ?aR (fun _ _ h => h) (fun _ h => h.elim) ?aF ?aB ?aS ?aL ?_; (case aR => repeat (first | exact (Kd.R_reads' HO107.out).2.2 | (with_reducible refine Kd.C_alloc ?_ _) | (with_reducible refine Kd.C_drewN ?_ _) | (with_reducible refine Kd.C_drew ?_))); (case aB => exact (by repeat (first | (with_reducible first | exact HB.out | apply below_alloc | apply pw_below_drewN | apply below_drew1) | exact HB.out))); (case aF => exact (fun k_ hk => Kd.fresh' (Kd.R_lt (by (with_reducible repeat (first | apply Kd.R_alloc | apply Kd.R_drewN | apply Kd.R_drew)); exact HO107.out)) k_ hk)); (case aO => exact (by (with_reducible repeat (first | apply Kd.R_alloc | apply Kd.R_drewN | apply Kd.R_drew)); exact Kd.R_mono HO111.out (fun _ hk => hk.2))); (case aS => exact (below_size (by repeat (first | (with_reducible first | exact HB.out | apply below_alloc | apply pw_below_drewN | apply below_drew1) | exact HB.out)))); (case aL => have := LMc6.out; omega); intro v113 w11 ho hb hg hat; rw [← Ny112.out] at ho; have n0_ := Aside0.mk (Kd.R_after (ok := (fun _ => True)) (by (with_reducible repeat (first | apply Kd.R_alloc | apply Kd.R_drewN | apply Kd.R_drew)); exact HO107.out) hg hat); have n1_ := Aside0.mk (hb); have n2_ := Aside0.mk (ho); clear HO107; clear HB; clear HO111; have HO107 := n0_; have HB := n1_; have HO114 := n2_; clear n0_ n1_ n2_; clear ho hb hg hat) | ((with_reducible refine gate_dst (N := 36) rfl ?_); refine Kd.R_lit (Kd.int .u8) _ 5 ?hg (N := 36) ?hd (xs := ([(t108 / 16777216) % 256, (t108 / 65536) % 256, (t108 / 256) % 256, (t108) % 256] : List Int)) (inner := [.int .u8 ((t108 / 16777216) % 256), .int .u8 ((t108 / 65536) % 256), .int .u8 ((t108 / 256) % 256), .int .u8 ((t108) % 256)]) (ok := fun _ => True) (okp := fun _ => True) ?hr ?hp (fun _ hk => hk) trivial (Below.refl _ _) (Nat.le_refl _) (by simp) ?_; (case hd => rfl); (case hg => rfl); (case hr => first | (go_simp; done) | (go_simp; rfl)); (case hp => exact (Reps.one (show Kd.M (Kd.int .u8) _ _ _ ((t108 / 16777216) % 256) [.int .u8 ((t108 / 16777216) % 256)] from rfl) (Reps.one (show Kd.M (Kd.int .u8) _ _ _ ((t108 / 65536) % 256) [.int .u8 ((t108 / 65536) % 256)] from rfl) (Reps.one (show Kd.M (Kd.int .u8) _ _ _ ((t108 / 256) % 256) [.int .u8 ((t108 / 256) % 256)] from rfl) (Reps.one (show Kd.M (Kd.int .u8) _ _ _ ((t108) % 256) [.int .u8 ((t108) % 256)] from rfl) (Reps.none _ _)))))); intro v116 w13 ho14 hb hg_ hnew_; clear hg_ hnew_; (first | rw [← Ny115.out] at ho14 | (simp only [Int.reduceToNat] at ho14; rw [← Ny115.out] at ho14)); have n0_ := Aside0.mk (Kd.R_elder' (by (with_reducible repeat (first | apply Kd.R_alloc | apply Kd.R_drewN | apply Kd.R_drew)); exact HO107.out) (Kd.R_base ho14) hb); have n1_ := Aside0.mk (Kd.R_elder' (by (with_reducible repeat (first | apply Kd.R_alloc | apply Kd.R_drewN | apply Kd.R_drew)); exact HO114.out) (Kd.R_base ho14) hb); have n2_ := Aside0.mk (Kd.R_lower (Kd.R_new' (Kd.R_new' ho14 (Kd.R_lt (by (with_reducible repeat (first | apply Kd.R_alloc | apply Kd.R_drewN | apply Kd.R_drew)); exact HO107.out))) (Kd.R_lt (by (with_reducible repeat (first | apply Kd.R_alloc | apply Kd.R_drewN | apply Kd.R_drew)); exact HO114.out))) (below_size (by repeat (first | (with_reducible first | exact HB.out | apply below_alloc | apply pw_below_drewN | apply below_drew1) | exact HB.out)))); have n3_ := Aside0.mk (below_step (by repeat (first | (with_reducible first | exact HB.out | apply below_alloc | apply pw_below_drewN | apply below_drew1) | exact HB.out)) hb); clear HO107; clear HO114; clear HB; have HO107 := n0_; have HO114 := n1_; have HO117 := n2_; have HB := n3_; clear n0_ n1_ n2_ n3_; clear hb ho14; obtain ⟨Ao16, co16, eo16⟩ := Kd.R_slice HO117.out; subst eo16) | ((with_reducible refine gate_builtin (b := .append) (xs := #[.tmp 24, .tmp 36]) rfl ?_); at_builtin; refine Kd.R_append_rows (Kd.int .u8) (w0 := w) w.heap.size rfl (.tmp 24) (.tmp 36) 22 5 (.int .u8 0) 1 rfl Tryd.underlying22 info5 rfl (by decide) (by omega) v113 y112 y115 _ _ _ (fun k_ => some k_ ≠ (.slice Ao12 t104.length co12 : Value).ownBlock ∧ some k_ ≠ (.slice Ao16 y115.length co16 : Value).ownBlock) (fun _ => False) rfl rfl ?aO ?aR (fun _ _ h => h) (fun _ h => h.elim) ?aF ?aB ?aS ?aL ?_; (case aR => repeat (first | exact (Kd.R_reads' HO117.out).2.2 | (with_reducible refine Kd.C_alloc ?_ _) | (with_reducible refine Kd.C_drewN ?_ _) | (with_reducible refine Kd.C_drew ?_))); (case aB => exact (by repeat (first | (with_reducible first | exact HB.out | apply below_alloc | apply pw_below_drewN | apply below_drew1) | exact HB.out))); (case aF => exact (fun k_ hk => ⟨Kd.fresh' (Kd.R_lt (by (with_reducible repeat (first | apply Kd.R_alloc | apply Kd.R_drewN | apply Kd.R_drew)); exact HO107.out)) k_ hk, Kd.fresh' (Kd.R_lt (by (with_reducible repeat (first | apply Kd.R_alloc | apply Kd.R_drewN | apply Kd.R_drew)); exact HO117.out)) k_ hk⟩)); (case aO => exact (by (with_reducible repeat (first | apply Kd.R_alloc | apply Kd.R_drewN | apply Kd.R_drew)); exact HO114.out)); (case aS => exact (below_size (by repeat (first | (with_reducible first | exact HB.out | apply below_alloc | apply pw_below_drewN | apply below_drew1) | exact HB.out)))); (case aL => have := LMc7.out; omega); intro v119 w15 ho hb hg hat; rw [← Ny118.out] at ho; have n0_ := Aside0.mk (Kd.R_after (ok := (fun k_ => some k_ ≠ (.slice Ao16 y115.length co16 : Value).ownBlock)) (by (with_reducible repeat (first | apply Kd.R_alloc | apply Kd.R_drewN | apply Kd.R_drew)); exact Kd.R_mono HO107.out (fun _ hk => ⟨hk.2, hk.1.2⟩)) hg hat); have n1_ := Aside0.mk (Kd.R_after (ok := (fun k_ => some k_ ≠ (.slice Ao12 t104.length co12 : Value).ownBlock)) (by (with_reducible repeat (first | apply Kd.R_alloc | apply Kd.R_drewN | apply Kd.R_drew)); exact Kd.R_mono HO117.out (fun _ hk => ⟨hk.1.2, hk.2⟩)) hg hat); have n2_ := Aside0.mk (hb); have n3_ := Aside0.mk (ho); clear HO107; clear HO117; clear HB; clear HO114; have HO107 := n0_; have HO117 := n1_; have HB := n2_; have HO120 := n3_; clear n0_ n1_ n2_ n3_; clear ho hb hg hat))
        go_ret2
        exact ⟨_, by first | rfl | (simp [errW_none, errW_some] <;> rfl) | (simp [*, errW_none, errW_some] <;> rfl), by (with_reducible repeat (first | apply Kd.R_alloc | apply Kd.R_drewN | apply Kd.R_drew)); exact Kd.R_mono HO120.out (fun _ hk => trivial), by repeat (first | (with_reducible first | exact HB.out | apply below_alloc | apply pw_below_drewN | apply below_drew1) | exact HB.out)⟩
      · rw [if_neg c7] at H
        exact absurd H (by simp)
    · rw [if_neg c6] at H
      exact absurd H (by simp)
  · rw [if_neg c4] at H
    have c4b0 : (t105 == 0) = false := beq_eq_false_iff_ne.mpr c4
    have c4b1 : (t105 != 0) = true := bne_iff_ne.mpr c4
    simp only [Option.some.injEq, Prod.mk.injEq] at H
    obtain ⟨rfl, rfl⟩ := H
    go_enter Tryd.func22, Tryd.ntmps22
    go_wp2_with (first | ((with_reducible refine gate_callee (f := 20) rfl ?_); refine goesL_ (some 13) rfl rfl Tryd.func20 (by kernel_rfl) rfl #[.slice A0 l0.length c0, .int .i64 a1] rfl (by (try simp only [List.map_toArray, List.map_cons, List.map_nil]); first | done | rfl | (simp only [List.length_drop, List.length_take]; rfl)) ?_; (with_reducible refine (deflate_Deflate.calls _ _ l0 a1 t104 t105 _ ?side1 ?side2 A3.out).mono ?_); (case side1 => repeat (first | exact HR0.out | (with_reducible refine Kd.C_alloc ?_ _) | (with_reducible refine Kd.C_drewN ?_ _) | (with_reducible refine Kd.C_drew ?_))); (case side2 => exact HC0.out); rintro e w17 ⟨v106, rfl, ho0, hb⟩; refine ⟨_, rfl, ?_⟩; have n0_ := Aside0.mk (Kd.R_lower ho0 (below_size (by repeat (first | (with_reducible first | exact HB.out | apply below_alloc | apply pw_below_drewN | apply below_drew1) | exact HB.out)))); have n1_ := Aside0.mk (below_step (by repeat (first | (with_reducible first | exact HB.out | apply below_alloc | apply pw_below_drewN | apply below_drew1) | exact HB.out)) hb); clear HB; have HO107 := n0_; have HB := n1_; clear n0_ n1_; (try clear hb); (try clear hb2); (try clear hk); (try clear hi); (try clear ho0)))
    go_ret2
    exact ⟨_, by first | rfl | (simp [errW_none, errW_some] <;> rfl) | (simp [*, errW_none, errW_some] <;> rfl), by first | exact Kd.R_nil _ _ _ _ _ | exact Kd.N_nil _ _ _ _ _ | exact Kd.V_nil _ _ _ _ _ | exact Kd.Q_nil _ _ _ _ _ | exact Kd.S_nil _ _ _ _ _, by repeat (first | (with_reducible first | exact HB.out | apply below_alloc | apply pw_below_drewN | apply below_drew1) | exact HB.out)⟩

/-! ### bits_Mul32: function 87 -/
def bits_Mul32.f (a0 : Int) (a1 : Int) : Option (Int × Int) := some (((IntKind.u64.wrap ((IntKind.u64.wrap (a0)) * (IntKind.u64.wrap (a1)))) / 4294967296) % 4294967296, (IntKind.u64.wrap ((IntKind.u64.wrap (a0)) * (IntKind.u64.wrap (a1)))) % 4294967296)
set_option maxHeartbeats 8000000 in
set_option maxRecDepth 100000 in
theorem bits_Mul32.calls (a0 : Int) (a1 : Int) (r1 : Int) (r2 : Int) (w : World) (h : bits_Mul32.f a0 a1 = some (r1, r2)) :
    Calls Tryd.prog 87 #[.int .u32 a0, .int .u32 a1] w fun e w' => e = .returned (.tuple #[.int .u32 r1, .int .u32 r2]) ∧ Drawn0 w w' := by
  have H : (some (((IntKind.u64.wrap ((IntKind.u64.wrap (a0)) * (IntKind.u64.wrap (a1)))) / 4294967296) % 4294967296, (IntKind.u64.wrap ((IntKind.u64.wrap (a0)) * (IntKind.u64.wrap (a1)))) % 4294967296)) = some (r1, r2) := h
  clear h
  simp only [Option.some.injEq, Prod.mk.injEq] at H
  obtain ⟨rfl, rfl⟩ := H
  go_enter Tryd.func87, Tryd.ntmps87
  go_wp2
  go_ret2
  exact ⟨by first | rfl | (simp; done) | (simp [*]; done), by repeat (first | exact Drawn0.refl _ | apply Drawn0.step)⟩

/-! ### bits_Mul64: function 88 -/
def bits_Mul64.f (a0 : Int) (a1 : Int) : Option (Int × Int) := some (IntKind.u64.wrap ((IntKind.u64.wrap ((IntKind.u64.wrap ((a0 / 4294967296) * (a1 / 4294967296))) + ((IntKind.u64.wrap ((IntKind.u64.wrap ((a0 / 4294967296) * (Go.bits .and .u64 a1 4294967295))) + ((IntKind.u64.wrap ((Go.bits .and .u64 a0 4294967295) * (Go.bits .and .u64 a1 4294967295))) / 4294967296))) / 4294967296))) + ((IntKind.u64.wrap ((Go.bits .and .u64 (IntKind.u64.wrap ((IntKind.u64.wrap ((a0 / 4294967296) * (Go.bits .and .u64 a1 4294967295))) + ((IntKind.u64.wrap ((Go.bits .and .u64 a0 4294967295) * (Go.bits .and .u64 a1 4294967295))) / 4294967296))) 4294967295) + (IntKind.u64.wrap ((Go.bits .and .u64 a0 4294967295) * (a1 / 4294967296))))) / 4294967296)), IntKind.u64.wrap (a0 * a1))
set_option maxHeartbeats 8000000 in
set_option maxRecDepth 100000 in
theorem bits_Mul64.calls (a0 : Int) (a1 : Int) (r1 : Int) (r2 : Int) (w : World) (h : bits_Mul64.f a0 a1 = some (r1, r2)) :
    Calls Tryd.prog 88 #[.int .u64 a0, .int .u64 a1] w fun e w' => e = .returned (.tuple #[.int .u64 r1, .int .u64 r2]) ∧ Drawn0 w w' := by
  have H : (some (IntKind.u64.wrap ((IntKind.u64.wrap ((IntKind.u64.wrap ((a0 / 4294967296) * (a1 / 4294967296))) + ((IntKind.u64.wrap ((IntKind.u64.wrap ((a0 / 4294967296) * (Go.bits .and .u64 a1 4294967295))) + ((IntKind.u64.wrap ((Go.bits .and .u64 a0 4294967295) * (Go.bits .and .u64 a1 4294967295))) / 4294967296))) / 4294967296))) + ((IntKind.u64.wrap ((Go.bits .and .u64 (IntKind.u64.wrap ((IntKind.u64.wrap ((a0 / 4294967296) * (Go.bits .and .u64 a1 4294967295))) + ((IntKind.u64.wrap ((Go.bits .and .u64 a0 4294967295) * (Go.bits .and .u64 a1 4294967295))) / 4294967296))) 4294967295) + (IntKind.u64.wrap ((Go.bits .and .u64 a0 4294967295) * (a1 / 4294967296))))) / 4294967296)), IntKind.u64.wrap (a0 * a1))) = some (r1, r2) := h
  clear h
  simp only [Option.some.injEq, Prod.mk.injEq] at H
  obtain ⟨rfl, rfl⟩ := H
  go_enter Tryd.func88, Tryd.ntmps88
  go_wp2
  go_ret2
  exact ⟨by first | rfl | (simp; done) | (simp [*]; done), by repeat (first | exact Drawn0.refl _ | apply Drawn0.step)⟩

/-! ### bits_Mul: function 81 -/
def bits_Mul.f (a0 : Int) (a1 : Int) : Option (Int × Int) := (bits_Mul64.f a0 a1).bind fun bt121 => (some (bt121.1, bt121.2))
set_option maxHeartbeats 8000000 in
set_option maxRecDepth 100000 in
theorem bits_Mul.calls (a0 : Int) (a1 : Int) (r1 : Int) (r2 : Int) (w : World) (h : bits_Mul.f a0 a1 = some (r1, r2)) :
    Calls Tryd.prog 81 #[.int .u64 a0, .int .u64 a1] w fun e w' => e = .returned (.tuple #[.int .u64 r1, .int .u64 r2]) ∧ Drawn0 w w' := by
  have H : ((bits_Mul64.f a0 a1).bind fun bt121 => (some (bt121.1, bt121.2))) = some (r1, r2) := h
  clear h
  replace H := Option.bind_eq_some_iff.mp H
  obtain ⟨⟨t121, t122⟩, A30, H⟩ := H
  replace H : (some (t121, t122)) = some (r1, r2) := H
  have A3 := Aside0.mk A30
  clear A30
  simp only [Option.some.injEq, Prod.mk.injEq] at H
  obtain ⟨rfl, rfl⟩ := H
  go_enter Tryd.func81, Tryd.ntmps81
  go_wp2_with (first | ((with_reducible refine gate_callee (f := 88) rfl ?_); refine goesL_ (some 25) rfl rfl Tryd.func88 (by kernel_rfl) rfl #[.int .u64 a0, .int .u64 a1] rfl (by (try simp only [List.map_toArray, List.map_cons, List.map_nil]); first | done | rfl | (simp only [List.length_drop, List.length_take]; rfl)) ?_; (with_reducible refine (bits_Mul64.calls a0 a1 t121 t122 _ A3.out).mono ?_); rintro e w' ⟨rfl, ⟨nd, rfl⟩⟩; refine ⟨_, rfl, ?_⟩))
  go_ret2
  exact ⟨by first | rfl | (simp; done) | (simp [*]; done), by repeat (first | exact Drawn0.refl _ | apply Drawn0.step)⟩

/-! ### zlib_head: function 38 -/
def zlib_head.f (a0 : Int) (a1 : Int) : Option (Bool) := if (Go.bits .and .u8 a0 15) = 8 then (if (a0 / 16) ≤ 7 then (if (Int.tmod (Go.bits .or .i64 (wrap64 ((wrap64 (a0)) * 256)) (wrap64 (a1))) 31) = 0 then (some ((Go.bits .and .u8 a1 32) == 0)) else (some false)) else (some false)) else (some false)
set_option maxHeartbeats 8000000 in
set_option maxRecDepth 100000 in
theorem zlib_head.calls (a0 : Int) (a1 : Int) (r : Bool) (w : World) (h : zlib_head.f a0 a1 = some r) :
    Calls Tryd.prog 38 #[.int .u8 a0, .int .u8 a1] w fun e w' => e = .returned (.bool r) ∧ Drawn0 w w' := by
  have H : (if (Go.bits .and .u8 a0 15) = 8 then (if (a0 / 16) ≤ 7 then (if (Int.tmod (Go.bits .or .i64 (wrap64 ((wrap64 (a0)) * 256)) (wrap64 (a1))) 31) = 0 then (some ((Go.bits .and .u8 a1 32) == 0)) else (some false)) else (some false)) else (some false)) = some r := h
  clear h
  by_cases c3 : (Go.bits .and .u8 a0 15) = 8
  · rw [if_pos c3] at H
    have c3b0 : ((Go.bits .and .u8 a0 15) == 8) = true := beq_iff_eq.mpr c3
    have c3b1 : ((Go.bits .and .u8 a0 15) != 8) = false := bne_eq_false_iff_eq.mpr c3
    clear c3
    by_cases c4 : (a0 / 16) ≤ 7
    · rw [if_pos c4] at H
      have c4b0 : decide ((a0 / 16) ≤ 7) = true := decide_eq_true c4
      clear c4
      by_cases c5 : (Int.tmod (Go.bits .or .i64 (wrap64 ((wrap64 (a0)) * 256)) (wrap64 (a1))) 31) = 0
      · rw [if_pos c5] at H
        have c5b0 : ((Int.tmod (Go.bits .or .i64 (wrap64 ((wrap64 (a0)) * 256)) (wrap64 (a1))) 31) == 0) = true := beq_iff_eq.mpr c5
        have c5b1 : ((Int.tmod (Go.bits .or .i64 (wrap64 ((wrap64 (a0)) * 256)) (wrap64 (a1))) 31) != 0) = false := bne_eq_false_iff_eq.mpr c5
        clear c5
        obtain rfl := Option.some.inj H
        go_enter Tryd.func38, Tryd.ntmps38
        go_wp2
        go_ret
        exact ⟨by first | rfl | (simp; done) | (simp [*]; done), by repeat (first | exact Drawn0.refl _ | apply Drawn0.step)⟩
      · rw [if_neg c5] at H
        have c5b0 : ((Int.tmod (Go.bits .or .i64 (wrap64 ((wrap64 (a0)) * 256)) (wrap64 (a1))) 31) == 0) = false := beq_eq_false_iff_ne.mpr c5
        have c5b1 : ((Int.tmod (Go.bits .or .i64 (wrap64 ((wrap64 (a0)) * 256)) (wrap64 (a1))) 31) != 0) = true := bne_iff_ne.mpr c5
        obtain rfl := Option.some.inj H
        go_enter Tryd.func38, Tryd.ntmps38
        go_wp2
        go_ret
        exact ⟨by first | rfl | (simp; done) | (simp [*]; done), by repeat (first | exact Drawn0.refl _ | apply Drawn0.step)⟩
    · rw [if_neg c4] at H
      have c4b0 : decide ((a0 / 16) ≤ 7) = false := decide_eq_false c4
      clear c4
      obtain rfl := Option.some.inj H
      go_enter Tryd.func38, Tryd.ntmps38
      go_wp2
      go_ret
      exact ⟨by first | rfl | (simp; done) | (simp [*]; done), by repeat (first | exact Drawn0.refl _ | apply Drawn0.step)⟩
  · rw [if_neg c3] at H
    have c3b0 : ((Go.bits .and .u8 a0 15) == 8) = false := beq_eq_false_iff_ne.mpr c3
    have c3b1 : ((Go.bits .and .u8 a0 15) != 8) = true := bne_iff_ne.mpr c3
    obtain rfl := Option.some.inj H
    go_enter Tryd.func38, Tryd.ntmps38
    go_wp2
    go_ret
    exact ⟨by first | rfl | (simp; done) | (simp [*]; done), by repeat (first | exact Drawn0.refl _ | apply Drawn0.step)⟩

end Go.Proofs.YtkdklcamgcmifaaDoor.PM
