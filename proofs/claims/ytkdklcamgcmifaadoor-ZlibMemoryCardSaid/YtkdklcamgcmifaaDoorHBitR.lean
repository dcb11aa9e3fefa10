/- codicilref04.bit: one bit more. -/
import Derived.Test.YtkdklcamgcmifaaDoorHBits
import Derived.StillTailTactics
import Derived.Deep.RegionLaw
import Derived.Deep.QuietTactic
import Derived.BigQuiet
namespace Go.Proofs.YtkdklcamgcmifaaDoor
set_option linter.unusedVariables false
set_option linter.unusedSimpArgs false
open Go.RowKit Go.Proofs.YtkdklcamgcmifaaDoorW.PrintWords Go.Proofs.YtkdklcamgcmifaaDoorW.PrintMore
theorem infoR : (Tryd.prog.info? 5).map (fun i => (i.zero, i.size, i.bytes)) = some (some (.int .u8 0), 1, 1) := by kernel_rfl
/-- The document's bits at g: T, of N bits. -/
def Bt (base g : Nat) (W : World) (T N : Nat) : Prop := ∃ v, W.heap[g]? = some (.cells #[v, .int .i64 ((N : Nat) : Int)] 98 (0, 0)) ∧ Bs 5 W base v (leB ((N + 7) / 8) T) ∧ base ≤ g ∧ T < 2 ^ N
/-- The same, room made for one bit more. -/
def Bt1 (base g : Nat) (W : World) (T N : Nat) (w : World) : Prop := ∃ g2 cap, w.heap[g]? = some (.cells #[.slice (some ⟨g2, 0, none⟩) (N / 8 + 1) cap, .int .i64 ((N : Nat) : Int)] 98 (0, 0)) ∧ w.ownsRow base 5 1 (.slice (some ⟨g2, 0, none⟩) (N / 8 + 1) cap) (N / 8 + 1) (nums .u8 (leB (N / 8 + 1) T)) ∧ g2 ≠ g ∧ SF g W w
theorem bit_grow {base g : Nat} {W w1 : World} {T N : Nat} {v v1 : Value} (h8 : N % 8 = 0) (hT : T < 2 ^ N) (hb : W.heap[g]? = some (.cells #[v, .int .i64 ((N : Nat) : Int)] 98 (0, 0)))
    (ho : Bs 5 W base v (leB ((N + 7) / 8) T)) (ho1 : w1.ownsRow base 5 1 v1 (leB ((N + 7) / 8) T ++ [0]).length (nums .u8 (leB ((N + 7) / 8) T ++ [0])))
    (hg : W.grownBy w1 v.ownBlock) (hat : v1.ownBlock = v.ownBlock ∨ ∃ b, v1.ownBlock = some b ∧ W.heap.size ≤ b) : Bt1 base g W T N (w1.setCell ⟨g, 0, none⟩ v1) := by
  have hlt := blk_lt hb
  have hne : v.ownBlock ≠ some g := fun e => by
    obtain ⟨cur, hc⟩ := own_typed ho g e
    rw [hb] at hc
    simp at hc
  have hne1 : v1.ownBlock ≠ some g := by
    rcases hat with e | ⟨b, e, hb2⟩
    · rw [e]; exact hne
    · rw [e]; intro e2; cases e2; omega
  have hb1 : w1.heap[g]? = some (.cells #[v, .int .i64 ((N : Nat) : Int)] 98 (0, 0)) := (hg.block g hlt (fun e => hne e.symm)).trans hb
  have hN : (N + 7) / 8 = N / 8 := by omega
  have hL : leB ((N + 7) / 8) T ++ [0] = leB (N / 8 + 1) T := by
    rw [hN, leB_succ]
    have e : (256 : Nat) ^ (N / 8) = 2 ^ N := by rw [show (256 : Nat) = 2 ^ 8 from rfl, ← Nat.pow_mul, show 8 * (N / 8) = N from by omega]
    rw [e, Nat.div_eq_of_lt hT]
    rfl
  rw [hL, leB_length] at ho1
  obtain ⟨g2, cap, hv1, hg2, _⟩ := World.ownsRow.form ho1 (by omega)
  subst hv1
  have hg2n : g2 ≠ g := fun e => hne1 (by rw [e]; rfl)
  refine ⟨g2, cap, ?_, ?_, hg2n, ?_⟩
  · have := blk_set hb1 0 (.slice (some ⟨g2, 0, none⟩) (N / 8 + 1) cap)
    simpa using this
  · refine own_move ho1 fun k e => Below.heap_setCell _ ⟨g, 0, none⟩ _ k fun e2 => hg2n ?_
    have h3 : g2 = k := by simpa [Value.ownBlock] using e
    rw [h3, e2]
  · have hrow : rowOf W g = v.ownBlock := rowOf_eq hb rfl
    refine (SF.grow (SF.refl g W) hlt (by rw [hrow]; exact hg) (by rw [hrow]; exact hne)).put hb1 0 _ ?_
    rw [rowOf_eq hb1 rfl]
    exact hat
theorem bit_room {base g : Nat} {W : World} {T N : Nat} {v : Value} (h8 : N % 8 ≠ 0) (hb : W.heap[g]? = some (.cells #[v, .int .i64 ((N : Nat) : Int)] 98 (0, 0))) (ho : Bs 5 W base v (leB ((N + 7) / 8) T)) : Bt1 base g W T N W := by
  have hN : (N + 7) / 8 = N / 8 + 1 := by omega
  have ho' : W.ownsRow base 5 1 v (leB ((N + 7) / 8) T).length (nums .u8 (leB ((N + 7) / 8) T)) := ho
  rw [hN, leB_length] at ho'
  obtain ⟨g2, cap, hv1, hg2, _⟩ := World.ownsRow.form ho' (by omega)
  subst hv1
  refine ⟨g2, cap, hb, ho', ?_, SF.refl g W⟩
  intro e
  obtain ⟨cur, hc⟩ := own_typed ho' g (by rw [e]; rfl)
  rw [hb] at hc
  simp at hc
theorem bit_or (a x c : Nat) (ha : a < 2 ^ c) (hc : c < 8) (hx : x < 2) : bits .or .u8 (a : Int) ((x : Int) * 2 ^ c % 256) = ((a + x * 2 ^ c : Nat) : Int) := by
  have h1 : 2 ^ c ≤ 2 ^ 7 := Nat.pow_le_pow_right (by decide) (by omega)
  have h2 : x * 2 ^ c ≤ 1 * 2 ^ c := Nat.mul_le_mul_right _ (by omega)
  have e : (x : Int) * 2 ^ c % 256 = ((x * 2 ^ c : Nat) : Int) := by
    have : (x : Int) * 2 ^ c = ((x * 2 ^ c : Nat) : Int) := by simp
    rw [this]
    omega
  rw [e, u8_or _ _ (by omega) (by omega) (by omega) (by omega), Int.toNat_natCast, Int.toNat_natCast]
  have := Nat.two_pow_add_eq_or_of_lt ha x
  rw [Nat.or_comm, Nat.mul_comm x, ← this]
  simp
  omega
theorem bit_fin {base g g3 cap3 : Nat} {W wx : World} {T N x q c a : Nat} (hbg : base ≤ g) (hx : x < 2) (hT : T < 2 ^ N) (hN8 : N = 8 * q + c) (hc8 : c < 8) (ha : a = T / 256 ^ q % 256)
    (hbx : wx.heap[g]? = some (.cells #[.slice (some ⟨g3, 0, none⟩) (q + 1) cap3, .int .i64 ((N : Nat) : Int)] 98 (0, 0)))
    (hox : wx.ownsRow base 5 1 (.slice (some ⟨g3, 0, none⟩) (q + 1) cap3) (q + 1) (nums .u8 (leB (q + 1) T))) (hgn : g3 ≠ g) (hSF : SF g W wx) :
    SF g W ((wx.setCell ⟨g3, q, none⟩ (.int .u8 (bits .or .u8 (a : Int) ((x : Int) * 2 ^ c % 256)))).setCell ⟨g, 1, none⟩ (.int .i64 ((N : Int) + 1))).drew ∧
    Bt base g ((wx.setCell ⟨g3, q, none⟩ (.int .u8 (bits .or .u8 (a : Int) ((x : Int) * 2 ^ c % 256)))).setCell ⟨g, 1, none⟩ (.int .i64 ((N : Int) + 1))).drew (T + x * 2 ^ N) (N + 1) := by
  have h256 : (256 : Nat) ^ q = 2 ^ (8 * q) := by rw [show (256 : Nat) = 2 ^ 8 from rfl, ← Nat.pow_mul]
  have hdl : T / 256 ^ q < 2 ^ c := by
    rw [Nat.div_lt_iff_lt_mul (Nat.pow_pos (by decide)), h256, ← Nat.pow_add, show c + 8 * q = N from by omega]
    exact hT
  have hc2 : 2 ^ c ≤ 2 ^ 7 := Nat.pow_le_pow_right (by decide) (by omega)
  have ha2 : a = T / 256 ^ q := by rw [ha]; exact Nat.mod_eq_of_lt (Nat.lt_of_lt_of_le hdl (Nat.le_trans hc2 (by decide)))
  have hor := bit_or a x c (by rw [ha2]; exact hdl) hc8 hx
  rw [hor]
  have hst := own_store hox (q : Int) ((a + x * 2 ^ c : Nat) : Int)
  rw [Int.toNat_natCast] at hst
  have hlt : g < wx.heap.size := blk_lt hbx
  have hb1 : (wx.setCell ⟨g3, q, none⟩ (.int .u8 ((a + x * 2 ^ c : Nat) : Int))).heap[g]? = some (.cells #[.slice (some ⟨g3, 0, none⟩) (q + 1) cap3, .int .i64 ((N : Nat) : Int)] 98 (0, 0)) :=
    (Below.heap_setCell wx ⟨g3, q, none⟩ _ g (fun e => hgn e.symm)).trans hbx
  have hb2 := blk_set hb1 1 (.int .i64 ((N : Int) + 1))
  have hrow : rowOf wx g = some g3 := rowOf_eq hbx rfl
  have s1 : SF g W (wx.setCell ⟨g3, q, none⟩ (.int .u8 ((a + x * 2 ^ c : Nat) : Int))) := hSF.grow hlt (by rw [hrow]; exact hst.2) (by rw [hrow]; intro e; cases e; exact hgn rfl)
  have s2 := s1.put hb1 1 (.int .i64 ((N : Int) + 1)) (.inl (by rw [rowOf_eq hb1 rfl]; rfl))
  refine ⟨s2.drew, .slice (some ⟨g3, 0, none⟩) (q + 1) cap3, ?_, ?_, hbg, ?_⟩
  · change ((wx.setCell ⟨g3, q, none⟩ _).setCell ⟨g, 1, none⟩ _).heap[g]? = _
    rw [hb2]
    simp
  · have hq : (N + 1 + 7) / 8 = q + 1 := by omega
    have hL : (leB (q + 1) T).set q ((a + x * 2 ^ c : Nat) : Int) = leB (q + 1) (T + x * 2 ^ N) := by
      rw [leB_succ, leB_succ, List.set_append_right _ _ (by simp [leB_length]), leB_length, Nat.sub_self, List.set_cons_zero, leB_add _ _ _ _ (by omega)]
      have e : (T + x * 2 ^ N) / 256 ^ q % 256 = a + x * 2 ^ c := by
        have e1 : x * 2 ^ N = 256 ^ q * (x * 2 ^ c) := by rw [hN8, Nat.pow_add, h256, Nat.mul_left_comm]
        have h3 : x * 2 ^ c ≤ 1 * 2 ^ c := Nat.mul_le_mul_right _ (by omega)
        rw [e1, Nat.add_mul_div_left _ _ (Nat.pow_pos (by decide)), ← ha2]
        exact Nat.mod_eq_of_lt (by omega)
      rw [e]
    rw [hq]
    have h5 := hst.1
    rw [hL] at h5
    have h6 : ((wx.setCell ⟨g3, q, none⟩ (.int .u8 ((a + x * 2 ^ c : Nat) : Int))).setCell ⟨g, 1, none⟩ (.int .i64 ((N : Int) + 1))).ownsRow base 5 1 (.slice (some ⟨g3, 0, none⟩) (q + 1) cap3) (q + 1) (nums .u8 (leB (q + 1) (T + x * 2 ^ N))) :=
      own_move h5 fun k e => Below.heap_setCell _ ⟨g, 1, none⟩ _ k (fun e2 => hgn (by
        have h3 : g3 = k := by simpa [Value.ownBlock] using e
        rw [h3, e2]))
    have hlen : (leB (q + 1) (T + x * 2 ^ N)).length = q + 1 := leB_length _ _
    unfold Bs
    rw [hlen]
    exact h6
  · rw [Nat.pow_succ]
    have h3 : x * 2 ^ N ≤ 1 * 2 ^ N := Nat.mul_le_mul_right _ (by omega)
    omega
set_option maxRecDepth 8000 in
set_option maxHeartbeats 2000000 in
theorem bit_calls (base g : Nat) (W : World) (T N x : Nat) (hw : Bt base g W T N) (hx : x < 2) (hN : N ≤ 1000000000000000) :
    Calls Tryd.prog 74 #[.pointer (some ⟨g, 0, none⟩), .int .i64 x] W fun e w' => e = .returned (.tuple #[]) ∧ SF g W w' ∧ Bt base g w' (T + x * 2 ^ N) (N + 1) := by
  obtain ⟨v, hb, ho, hbg, hT⟩ := hw
  have c0 : W.cell? ⟨g, 0, none⟩ = some v := blk_cell hb 0
  have c1 : W.cell? ⟨g, 1, none⟩ = some (.int .i64 ((N : Nat) : Int)) := blk_cell hb 1
  have f0 := blk_frozen hb 0
  have f1 := blk_frozen hb 1
  have HB := Lib.hid hb
  have HO := Lib.hid ho
  have HT := Lib.hid hT
  have hlt := blk_lt hb
  clear hb ho hT
  have hne : v.ownBlock ≠ some g := fun e => by
    obtain ⟨cur, hc⟩ := own_typed HO.out g e
    rw [HB.out] at hc
    simp at hc
  by_cases h8 : N % 8 = 0
  · have i8 : ((N : Int) % 8 == 0) = true := by simp; omega
    go_enter Tryd.func74, Tryd.ntmps74
    go_wp2_with (at_builtin; refine print_append_num (w0 := W) base rfl (.tmp 14) (.tmp 15) 22 5 .u8 1 rfl Tryd.underlying22 infoR (by omega) v (leB ((N + 7) / 8) T) 0 rfl rfl HO.out (Below.refl _ _) (by omega) (by rw [leB_length]; omega) ?_; intro v1 w1 hown1 hbel1 hgrow hat; have HOWN := Lib.hid hown1; obtain ⟨g2, cap, hv1, _, _⟩ := World.ownsRow.form hown1 (by simp); subst hv1; have hb1 : w1.heap[g]? = some (.cells #[v, .int .i64 ((N : Nat) : Int)] 98 (0, 0)) := (hgrow.block g hlt (fun e => hne e.symm)).trans HB.out; have k0 : w1.cell? ⟨g, 0, none⟩ = some v := blk_cell hb1 0; have k1 : w1.cell? ⟨g, 1, none⟩ = some (.int .i64 ((N : Nat) : Int)) := blk_cell hb1 1; have j0 := blk_frozen hb1 0; have j1 := blk_frozen hb1 1; have HG := Lib.hid hgrow; have HAT := Lib.hid hat; clear hown1 hbel1 hgrow hat hb1)
    have hB1 := bit_grow h8 HT.out HB.out HO.out HOWN.out HG.out HAT.out
    clear c0 c1 f0 f1 k0 k1 j0 j1
    rw [show (leB ((N + 7) / 8) T ++ [0] : List Int).length = (leB ((N + 7) / 8) T).length + 1 from by simp] at hB1
    generalize (w1.setCell ⟨g, 0, none⟩ _) = wx at hB1 ⊢
    obtain ⟨q, c, hq, hc, hN8⟩ : ∃ q c, q = N / 8 ∧ c = N % 8 ∧ N = 8 * q + c := ⟨N / 8, N % 8, rfl, rfl, by omega⟩
    obtain ⟨g3, cap3, hbx, hox, hgn, hSFx⟩ := hB1
    rw [← hq] at hbx hox
    have d0 : wx.cell? ⟨g, 0, none⟩ = some (.slice (some ⟨g3, 0, none⟩) (q + 1) cap3) := blk_cell hbx 0
    have d1 : wx.cell? ⟨g, 1, none⟩ = some (.int .i64 ((N : Nat) : Int)) := blk_cell hbx 1
    have e0 := blk_frozen hbx 0
    have e1 := blk_frozen hbx 1
    have hat := own_at hox (q : Int) (by omega) (by omega)
    obtain ⟨a, ha⟩ : ∃ a : Nat, a = T / 256 ^ q % 256 := ⟨_, rfl⟩
    have hrd : rd (leB (q + 1) T) (q : Int) = (a : Int) := by
      rw [leB_succ, ha]
      simp [rd, leB_length]
    rw [hrd, Int.toNat_natCast] at hat
    have d2 := hat.1
    have e2 := hat.2
    have hcm : (N : Int) % 8 = (c : Int) := by omega
    have hc8 : c < 8 := by omega
    have hq1 : q ≤ 1000000000000000 := by omega
    have hwq : IntKind.i64.wrap (q : Int) = (q : Int) := by rw [IntKind.wrap_i64]; omega
    have hq0 : (0 : Int) ≤ (q : Int) := by omega
    have htm : (N : Int).tmod 8 = (c : Int) := by rw [Int.tmod_eq_emod_of_nonneg (by omega)]; omega
    have hwx : IntKind.u8.wrap (x : Int) = (x : Int) := by rw [IntKind.wrap_u8]; omega
    have hq2 : (q : Int) < (q : Int) + 1 := by omega
    have hc64 : (c : Int) < 64 := by omega
    have hc0 : (0 : Int) ≤ (c : Int) := by omega
    have HBX := Lib.hid hbx
    have HOX := Lib.hid hox
    have HSX := Lib.hid hSFx
    have HQ := Lib.hid hq
    have HC := Lib.hid hc
    have HN8 := Lib.hid hN8
    have HA := Lib.hid ha
    clear hat hrd hbx hox hSFx hq hc hN8 ha
    go_still_tail 22, (by kernel_rfl)
    go_wp2_with fail
    refine bodyPost_end (results_none rfl _ _ _) rfl ⟨rfl, ?_⟩
    exact bit_fin hbg hx HT.out HN8.out hc8 HA.out HBX.out HOX.out hgn HSX.out
  · have i8 : ((N : Int) % 8 == 0) = false := by simp; omega
    have hB1 := bit_room h8 HB.out HO.out
    go_enter Tryd.func74, Tryd.ntmps74
    go_wp2_with fail
    clear c0 c1 f0 f1
    obtain ⟨q, c, hq, hc, hN8⟩ : ∃ q c, q = N / 8 ∧ c = N % 8 ∧ N = 8 * q + c := ⟨N / 8, N % 8, rfl, rfl, by omega⟩
    obtain ⟨g3, cap3, hbx, hox, hgn, hSFx⟩ := hB1
    rw [← hq] at hbx hox
    have d0 : W.cell? ⟨g, 0, none⟩ = some (.slice (some ⟨g3, 0, none⟩) (q + 1) cap3) := blk_cell hbx 0
    have d1 : W.cell? ⟨g, 1, none⟩ = some (.int .i64 ((N : Nat) : Int)) := blk_cell hbx 1
    have e0 := blk_frozen hbx 0
    have e1 := blk_frozen hbx 1
    have hat := own_at hox (q : Int) (by omega) (by omega)
    obtain ⟨a, ha⟩ : ∃ a : Nat, a = T / 256 ^ q % 256 := ⟨_, rfl⟩
    have hrd : rd (leB (q + 1) T) (q : Int) = (a : Int) := by
      rw [leB_succ, ha]
      simp [rd, leB_length]
    rw [hrd, Int.toNat_natCast] at hat
    have d2 := hat.1
    have e2 := hat.2
    have hcm : (N : Int) % 8 = (c : Int) := by omega
    have hc8 : c < 8 := by omega
    have hq1 : q ≤ 1000000000000000 := by omega
    have hwq : IntKind.i64.wrap (q : Int) = (q : Int) := by rw [IntKind.wrap_i64]; omega
    have hq0 : (0 : Int) ≤ (q : Int) := by omega
    have htm : (N : Int).tmod 8 = (c : Int) := by rw [Int.tmod_eq_emod_of_nonneg (by omega)]; omega
    have hwW : IntKind.u8.wrap (x : Int) = (x : Int) := by rw [IntKind.wrap_u8]; omega
    have hq2 : (q : Int) < (q : Int) + 1 := by omega
    have hc64 : (c : Int) < 64 := by omega
    have hc0 : (0 : Int) ≤ (c : Int) := by omega
    have HBX := Lib.hid hbx
    have HOX := Lib.hid hox
    have HSX := Lib.hid hSFx
    have HQ := Lib.hid hq
    have HC := Lib.hid hc
    have HN8 := Lib.hid hN8
    have HA := Lib.hid ha
    clear hat hrd hbx hox hSFx hq hc hN8 ha
    go_still_tail 22, (by kernel_rfl)
    go_wp2_with fail
    refine bodyPost_end (results_none rfl _ _ _) rfl ⟨rfl, ?_⟩
    exact bit_fin hbg hx HT.out HN8.out hc8 HA.out HBX.out HOX.out hgn HSX.out
end Go.Proofs.YtkdklcamgcmifaaDoor
