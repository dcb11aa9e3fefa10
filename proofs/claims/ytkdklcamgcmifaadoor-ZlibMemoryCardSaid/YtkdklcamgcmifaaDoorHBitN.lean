/- writer.number: n bits more. -/
import Derived.Test.YtkdklcamgcmifaaDoorHBits
import Derived.StillTailTactics
import Derived.Deep.RegionLaw
namespace Go.Proofs.YtkdklcamgcmifaaDoor
set_option linter.unusedVariables false
set_option linter.unusedSimpArgs false
open Go.RowKit Go.Proofs.YtkdklcamgcmifaaDoorW.PrintWords Go.Proofs.YtkdklcamgcmifaaDoorW.PrintMore
theorem infoB : (Tryd.prog.info? 5).map (fun i => (i.zero, i.size, i.bytes)) = some (some (.int .u8 0), 1, 1) := by kernel_rfl

/-- In the loop: q bytes of T are out, the rest is held. -/
def NumInv (base g : Nat) (W : World) (T N : Nat) (k : Nat) (w : World) : Prop := ∃ q c v, w.heap[g]? = some (.cells #[v, .int .u32 ((T / 2 ^ (8 * q) : Nat) : Int), .int .i64 ((c : Nat) : Int)] 79 (0, 0)) ∧ Bs 5 w base v (leB q T) ∧ 8 * q + c = N ∧ c ≤ k ∧ c ≤ 23 ∧ SF g W w
theorem or_low32 (h x c n : Nat) (hh : h < 2 ^ c) (hc : c < 8) (hx : x < 2 ^ n) (hn : n ≤ 16) : bits .or .u32 (h : Int) ((x : Int) % 4294967296 * 2 ^ c % 4294967296) = ((h + x * 2 ^ c : Nat) : Int) := by
  have h1 : 2 ^ n ≤ 2 ^ 16 := Nat.pow_le_pow_right (by decide) hn
  have h2 : 2 ^ c ≤ 2 ^ 7 := Nat.pow_le_pow_right (by decide) (by omega)
  have h3 : x * 2 ^ c < 65536 * 128 := Nat.mul_lt_mul_of_lt_of_le (by omega) h2 (by omega)
  have e : (x : Int) % 4294967296 * 2 ^ c % 4294967296 = ((x * 2 ^ c : Nat) : Int) := by
    rw [show (x : Int) % 4294967296 = x from by omega]
    have : (x : Int) * 2 ^ c = ((x * 2 ^ c : Nat) : Int) := by simp
    rw [this]
    omega
  rw [e, u32_or _ _ (by omega) (by omega) (by omega) (by omega), Int.toNat_natCast, Int.toNat_natCast]
  have := Nat.two_pow_add_eq_or_of_lt hh x
  rw [Nat.or_comm, Nat.mul_comm x, ← this]
  simp
  omega
theorem split_at (T x N : Nat) : (T + x * 2 ^ N) / 2 ^ (8 * (N / 8)) = T / 2 ^ (8 * (N / 8)) + x * 2 ^ (N % 8) := by
  have e : (2 : Nat) ^ N = 2 ^ (8 * (N / 8)) * 2 ^ (N % 8) := by
    rw [← Nat.pow_add]
    congr 1
    omega
  rw [e, Nat.mul_left_comm, Nat.add_mul_div_left _ _ (Nat.pow_pos (by decide))]
theorem held_lt (T N : Nat) (h : T < 2 ^ N) : T / 2 ^ (8 * (N / 8)) < 2 ^ (N % 8) := by
  rw [Nat.div_lt_iff_lt_mul (Nat.pow_pos (by decide)), ← Nat.pow_add]
  rw [show N % 8 + 8 * (N / 8) = N from by omega]
  exact h
theorem num_step {base g : Nat} {W wr w1 : World} {T N q c' h' gk g2 cap : Nat} {v' : Value} (hbg : base ≤ g) (hh : T / 2 ^ (8 * q) = h') (h8 : 8 ≤ c') (hq : 8 * q + c' = N) (hk : c' ≤ gk) (hc : c' ≤ 23)
    (hb : wr.heap[g]? = some (.cells #[v', .int .u32 (h' : Int), .int .i64 (c' : Int)] 79 (0, 0)))
    (hb1 : w1.heap[g]? = some (.cells #[v', .int .u32 (h' : Int), .int .i64 (c' : Int)] 79 (0, 0)))
    (hown : w1.ownsRow base 5 1 (.slice (some ⟨g2, 0, none⟩) ((nums .u8 (leB q T)).length + 1) cap) ((nums .u8 (leB q T)).length + 1) (nums .u8 (leB q T) ++ [.int .u8 (IntKind.u8.wrap (h' : Int))]))
    (hgrow : (wr.alloc (.cells #[.int .u8 (IntKind.u8.wrap (h' : Int))] 5)).drew.grownBy w1 v'.ownBlock) (hne : v'.ownBlock ≠ some g) (hat : v'.ownBlock = some g2 ∨ g2 = wr.heap.size + 1) (hSF : SF g W wr) :
    NumInv base g W T N (gk - 8) (((w1.setCell ⟨g, 0, none⟩ (.slice (some ⟨g2, 0, none⟩) ((nums .u8 (leB q T)).length + 1) cap)).setCell ⟨g, 1, none⟩ (.int .u32 ((h' : Int) / 256))).setCell ⟨g, 2, none⟩ (.int .i64 ((c' : Int) - 8))) := by
  have b1 := blk_set hb1 0 (.slice (some ⟨g2, 0, none⟩) ((nums .u8 (leB q T)).length + 1) cap)
  have b2 := blk_set b1 1 (.int .u32 ((h' : Int) / 256))
  have b3 := blk_set b2 2 (.int .i64 ((c' : Int) - 8))
  have hlt := blk_lt hb
  have hrow : rowOf wr g = v'.ownBlock := rowOf_eq hb rfl
  have hg2 : g2 ≠ g := by
    rcases hat with e | e
    · intro e2; rw [e2] at e; exact hne e
    · omega
  refine ⟨q + 1, c' - 8, .slice (some ⟨g2, 0, none⟩) ((nums .u8 (leB q T)).length + 1) cap, ?_, ?_, by omega, by omega, by omega, ?_⟩
  · rw [b3]
    have e1 : ((h' : Int) / 256) = ((T / 2 ^ (8 * (q + 1)) : Nat) : Int) := by
      rw [show 8 * (q + 1) = 8 * q + 8 from by omega, Nat.pow_add, ← Nat.div_div_eq_div_mul, hh]
      rfl
    have e2 : ((c' : Int) - 8) = ((c' - 8 : Nat) : Int) := by omega
    rw [e1, e2]
    simp
  · have hl : (nums .u8 (leB q T)).length + 1 = (leB (q + 1) T).length := by simp [nums, leB_length]
    have hn : nums .u8 (leB q T) ++ [.int .u8 (IntKind.u8.wrap (h' : Int))] = nums .u8 (leB (q + 1) T) := by
      rw [leB_succ, show (256 : Nat) ^ q = 2 ^ (8 * q) from by rw [show (256 : Nat) = 2 ^ 8 from rfl, ← Nat.pow_mul], hh]
      simp [nums, IntKind.wrap, IntKind.bits, IntKind.signed]
    rw [hl, hn] at hown
    rw [hl]
    have hk2 : ∀ k, Value.ownBlock (.slice (some ⟨g2, 0, none⟩) (leB (q + 1) T).length cap) = some k → k ≠ g := fun k e => by
      have : g2 = k := by simpa [Value.ownBlock] using e
      omega
    exact own_move hown fun k e => ((Below.heap_setCell _ ⟨g, 2, none⟩ _ k (hk2 k e)).trans (Below.heap_setCell _ ⟨g, 1, none⟩ _ k (hk2 k e))).trans (Below.heap_setCell _ ⟨g, 0, none⟩ _ k (hk2 k e))
  · have s1 : SF g W (wr.alloc (.cells #[.int .u8 (IntKind.u8.wrap (h' : Int))] 5)).drew := (hSF.alloc hlt _).drew
    have hr1 : rowOf (wr.alloc (.cells #[.int .u8 (IntKind.u8.wrap (h' : Int))] 5)).drew g = v'.ownBlock := rowOf_eq ((Below.heap_alloc wr _ g hlt).trans hb) rfl
    have s2 : SF g W w1 := s1.grow (by simp; omega) (by rw [hr1]; exact hgrow) (by rw [hr1]; exact hne)
    have s3 : SF g W (w1.setCell ⟨g, 0, none⟩ (.slice (some ⟨g2, 0, none⟩) ((nums .u8 (leB q T)).length + 1) cap)) := s2.put hb1 0 _ (by
      rw [rowOf_eq hb1 rfl]
      rcases hat with e | e
      · exact .inl e.symm
      · exact .inr ⟨g2, rfl, by have := hSF.size; omega⟩)
    have s4 := s3.put b1 1 (.int .u32 ((h' : Int) / 256)) (.inl (by rw [rowOf_eq b1 rfl]; rfl))
    exact s4.put b2 2 _ (.inl (by rw [rowOf_eq b2 rfl]; rfl))
set_option maxRecDepth 8000 in
set_option maxHeartbeats 2000000 in
theorem number_calls (base g : Nat) (W : World) (T N x n : Nat) (hw : Wr base g W T N) (hx : x < 2 ^ n) (hn : n ≤ 16) (hN : N + n ≤ 1000000000000000) :
    Calls Tryd.prog 58 #[.pointer (some ⟨g, 0, none⟩), .int .i64 x, .int .i64 n] W fun e w' => e = .returned (.tuple #[]) ∧ SF g W w' ∧ Wr base g w' (T + x * 2 ^ N) (N + n) := by
  obtain ⟨v, hb, ho, hbg, hT⟩ := hw
  have c0 : W.cell? ⟨g, 0, none⟩ = some v := blk_cell hb 0
  have c1 : W.cell? ⟨g, 1, none⟩ = some (.int .u32 ((T / 2 ^ (8 * (N / 8)) : Nat) : Int)) := blk_cell hb 1
  have c2 : W.cell? ⟨g, 2, none⟩ = some (.int .i64 ((N % 8 : Nat) : Int)) := blk_cell hb 2
  have f0 := blk_frozen hb 0
  have f1 := blk_frozen hb 1
  have f2 := blk_frozen hb 2
  generalize hh : T / 2 ^ (8 * (N / 8)) = h at *
  generalize hc : N % 8 = c at *
  have hc8 : c < 8 := by omega
  have HB := Lib.hid hb
  have HO := Lib.hid ho
  have HT := Lib.hid hT
  have HH := Lib.hid hh
  have HC := Lib.hid hc
  have HX := Lib.hid hx
  clear hb ho hT hh hc hx
  have hc0 : (0 : Int) ≤ (c : Int) := by omega
  have hc64 : (c : Int) < 64 := by omega
  go_enter Tryd.func58, Tryd.ntmps58
  go_wp2_with fail
  go_still_tail 14, (by kernel_rfl)
  go_wp2_with fail
  have hO := or_low32 h x c n (by rw [← HH.out, ← HC.out]; exact held_lt T N HT.out) hc8 HX.out hn
  go_loopg [] (c + n) (fun k wr => NumInv base g W (T + x * 2 ^ N) (N + n) k wr)
  case atStart =>
    have hlen : N / 8 * 8 + c = N := by have := HC.out; omega
    have hval : bits .or .u32 (h : Int) ((x : Int) % 4294967296 * 2 ^ c % 4294967296) = (((T + x * 2 ^ N) / 2 ^ (8 * (N / 8)) : Nat) : Int) := by
      rw [hO, split_at T x N, HH.out, HC.out]
    refine ⟨N / 8, c + n, v, ?_, ?_, by omega, Nat.le_refl _, by omega, ?_⟩
    · have h1 := blk_set HB.out 1 (.int .u32 (bits .or .u32 (h : Int) ((x : Int) % 4294967296 * 2 ^ c % 4294967296)))
      have h2 := blk_set h1 2 (.int .i64 ((c : Int) + (n : Int)))
      rw [hval] at h2 ⊢
      change ((W.setCell ⟨g, 1, none⟩ _).setCell ⟨g, 2, none⟩ _).heap[g]? = _
      rw [h2]
      simp
    · rw [leB_add _ _ _ _ (by omega)]
      have hne : ∀ k, v.ownBlock = some k → k ≠ g := fun k hk e => by
        obtain ⟨cur, hc⟩ := own_typed HO.out k hk
        rw [e] at hc
        rw [HB.out] at hc
        simp at hc
      exact own_move HO.out fun k hk => (Below.heap_setCell _ ⟨g, 2, none⟩ _ k (hne k hk)).trans (Below.heap_setCell _ ⟨g, 1, none⟩ _ k (hne k hk))
    · refine SF.drew ?_
      have h1 := blk_set HB.out 1 (.int .u32 (bits .or .u32 (h : Int) ((x : Int) % 4294967296 * 2 ^ c % 4294967296)))
      refine SF.put (SF.put (SF.refl g W) HB.out 1 _ (.inl ?_)) h1 2 _ (.inl ?_)
      · rw [rowOf_eq HB.out rfl]; rfl
      · rw [rowOf_eq h1 rfl]; rfl
  case round =>
    obtain ⟨q, c', v', hb', ho', hq, hk, hc23, hSF⟩ := hrel
    have d0 : wr.cell? ⟨g, 0, none⟩ = some v' := blk_cell hb' 0
    have d1 : wr.cell? ⟨g, 1, none⟩ = some (.int .u32 (((T + x * 2 ^ N) / 2 ^ (8 * q) : Nat) : Int)) := blk_cell hb' 1
    have d2 : wr.cell? ⟨g, 2, none⟩ = some (.int .i64 ((c' : Nat) : Int)) := blk_cell hb' 2
    have e0 := blk_frozen hb' 0
    have e1 := blk_frozen hb' 1
    have e2 := blk_frozen hb' 2
    have HB' := Lib.hid hb'
    have HO' := Lib.hid ho'
    have HS' := Lib.hid hSF
    clear hb' ho' hSF c0 c1 c2 f0 f1 f2
    generalize hh' : (T + x * 2 ^ N) / 2 ^ (8 * q) = h' at *
    have HH' := Lib.hid hh'
    clear hh'
    by_cases h8 : 8 ≤ c'
    · have h8i : (8 : Int) ≤ (c' : Int) := by omega
      obtain ⟨i0, hi, hz0, hz1, hz2⟩ := info_parts infoB
      have hrow : rowOf wr g = v'.ownBlock := rowOf_eq HB'.out rfl
      have hne : v'.ownBlock ≠ some g := fun e => by
        obtain ⟨cur, hc⟩ := own_typed HO'.out g e
        rw [HB'.out] at hc
        simp at hc
      have hlt := blk_lt HB'.out
      go_wp2_with fail
      have hoA : (wr.alloc (.cells #[.int .u8 (IntKind.u8.wrap (h' : Int))] 5)).drew.ownsRow base 5 1 v' (nums .u8 (leB q (T + x * 2 ^ N))).length (nums .u8 (leB q (T + x * 2 ^ N))) := by
        have := HO'.out.alloc (.cells #[.int .u8 (IntKind.u8.wrap (h' : Int))] 5)
        rw [show (nums .u8 (leB q (T + x * 2 ^ N))).length = (leB q (T + x * 2 ^ N)).length from by simp [nums]]
        exact this
      have hnA : ∀ j u, [Value.int .u8 (IntKind.u8.wrap (h' : Int))][j]? = some u → (wr.alloc (.cells #[.int .u8 (IntKind.u8.wrap (h' : Int))] 5)).drew.cell? ((⟨wr.heap.size, 0, none⟩ : Addr).add j) = some u := World.news_of_block (w := (wr.alloc (.cells #[.int .u8 (IntKind.u8.wrap (h' : Int))] 5)).drew) (cs := #[.int .u8 (IntKind.u8.wrap (h' : Int))]) (heap_alloc_new wr _)
      have HOA := Lib.hid hoA
      have HNA := Lib.hid hnA
      clear hoA hnA
      go_region_law (refine step_append_lies _ (by rfl) (.tmp 37) (.tmp 43) 22 (by rfl) base 5 i0 (.int .u8 0) 1 1 Tryd.underlying22 hi hz0 hz1 hz2 rfl (by omega) v' _ _ (by rfl) HOA.out ⟨wr.heap.size, 0, none⟩ 1 1 [.int .u8 (IntKind.u8.wrap (h' : Int))] (by rfl) rfl HNA.out (by intro u hu; simp at hu; subst hu; rfl) (by omega) (by simp only [maxLen, nums, List.length_map, leB_length]; omega) (by simp only [nums, List.length_map, leB_length]; omega) (by simp; omega) (wr.heap.size + 1) (by simp) ?_; intro g2 cap w1 hown1 hgrow hat hlt2; have hb1 : w1.heap[g]? = some (.cells #[v', .int .u32 (h' : Int), .int .i64 (c' : Int)] 79 (0, 0)) := (hgrow.block g (by simp; omega) (fun e => hne e.symm)).trans ((Below.heap_alloc wr _ g hlt).trans HB'.out); have k0 := blk_cell hb1 0; have k1 := blk_cell hb1 1; have k2 := blk_cell hb1 2; have j0 := blk_frozen hb1 0; have j1 := blk_frozen hb1 1; have j2 := blk_frozen hb1 2; have HB1 := Lib.hid hb1; have HOWN := Lib.hid hown1; have HGROW := Lib.hid hgrow; have HAT := Lib.hid hat; have HLT2 := Lib.hid hlt2; clear hb1 hown1 hgrow hat hlt2)
      all_goals
        go_wp2_with fail
        go_roundg (gk - 8)
        case rel =>
          exact num_step hbg HH'.out h8 hq hk hc23 HB'.out HB1.out HOWN.out HGROW.out hne HAT.out HS'.out
        case measure => omega
    · go_wp2_with fail
      refine bodyPost_end (results_none rfl _ _ _) rfl ?_
      have e8 : (N + n) / 8 = q ∧ (N + n) % 8 = c' := by omega
      refine ⟨rfl, HS'.out, v', ?_, ?_, hbg, ?_⟩
      · rw [e8.1, e8.2, HH'.out]; exact HB'.out
      · rw [e8.1]; exact HO'.out
      · rw [Nat.pow_add]
        have h1 := HT.out
        have h2 := HX.out
        have h3 : x * 2 ^ N + 2 ^ N ≤ 2 ^ n * 2 ^ N := by rw [← Nat.succ_mul]; exact Nat.mul_le_mul_right _ h2
        rw [Nat.mul_comm (2 ^ N)]
        omega
end Go.Proofs.YtkdklcamgcmifaaDoor
