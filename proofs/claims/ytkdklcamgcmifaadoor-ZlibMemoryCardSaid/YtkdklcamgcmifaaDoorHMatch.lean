/- deflate's finder: match. -/
import Derived.Test.YtkdklcamgcmifaaDoorHNoteY
namespace Go.Proofs.YtkdklcamgcmifaaDoor
set_option linter.unusedVariables false
set_option linter.unusedSimpArgs false
open Go.RowKit Go.Proofs.YtkdklcamgcmifaaDoorW.PrintWords Go.Proofs.YtkdklcamgcmifaaDoorW.PrintMore
open Go.Maps (Keyed)
theorem note_calls (w0 : World) (f M V : Nat) (A : Option Addr) (c cv : Nat) (l : List Int) (i : Nat) (W : World) (hF : Fd w0 f M V A c cv l i W) (hby : ∀ x ∈ l, 0 ≤ x ∧ x < 256) (hm : l.length ≤ 140737488355328) (hi2 : i ≤ 140737488355328) :
    Calls Tryd.prog 63 #[.pointer (some ⟨f, 0, none⟩), .int .i64 i] W fun e w' => e = .returned (.tuple #[]) ∧ MF M V W w' ∧ Fd w0 f M V A c cv l (i + 1) w' := by
  rcases Nat.lt_or_ge l.length (i + 3) with h | h
  · exact note_no w0 f M V A c cv l i W hF hm h hi2
  · exact note_yes w0 f M V A c cv l i W hF hby hm h
theorem Fd.prev_at {w0 : World} {f M V : Nat} {A : Option Addr} {c cv : Nat} {l : List Int} {i : Nat} {W : World} (h : Fd w0 f M V A c cv l i W) (q : Nat) (hq : q < i) (hq3 : q + 3 ≤ l.length) : W.cell? ⟨V, q, none⟩ = some (.int .i64 (prevI l q)) := by
  obtain ⟨P, ho, hP⟩ := h.row
  have hat := own_at ho (q : Int) (by omega) (by omega)
  rw [Int.toNat_natCast] at hat
  rw [hat.1, ← hP q hq hq3]
  simp [Go.Proofs.YtkdklcamgcmifaaDoorW.PrintWords.rd]
theorem Ch.key {l : List Int} {i b d q : Nat} (h : Ch l i (q : Int) b d) : keyN l q = keyN l i := by
  rcases h with ⟨h, _⟩ | ⟨q', h, h1, h2, h3, _⟩
  · omega
  · obtain rfl : q = q' := by omega
    exact h3
theorem drew_more {W wr : World} (h : ∃ m, wr = W.drewN m) (k : Nat) : ∃ m, wr.drewN k = W.drewN m := by
  obtain ⟨m, rfl⟩ := h
  exact ⟨m + k, by simp [World.drewN, Nat.add_assoc]⟩
theorem same_more {l : List Int} {i q n : Nat} (h : ∀ m, m < n → i + m < l.length ∧ l.getD (i + m) 0 = l.getD (q + m) 0) (h1 : i + n < l.length) (h2 : l.getD (i + n) 0 = l.getD (q + n) 0) : ∀ m, m < n + 1 → i + m < l.length ∧ l.getD (i + m) 0 = l.getD (q + m) 0 := by
  intro m hm
  rcases Nat.lt_or_ge m n with e | e
  · exact h m e
  · obtain rfl : m = n := by omega
    exact ⟨h1, h2⟩
set_option maxRecDepth 8000 in
set_option maxHeartbeats 4000000 in
theorem match_calls (w0 : World) (f M V : Nat) (A : Option Addr) (c cv : Nat) (l : List Int) (i : Nat) (W : World) (hF : Fd w0 f M V A c cv l i W) (hby : ∀ x ∈ l, 0 ≤ x ∧ x < 256) (hm : l.length ≤ 140737488355328) (hi2 : i ≤ l.length) :
    Calls Tryd.prog 59 #[.pointer (some ⟨f, 0, none⟩), .int .i64 i] W fun e w' => e = .returned (.tuple #[.int .i64 (mat l i).1, .int .i64 (mat l i).2]) ∧ ∃ m, w' = W.drewN m := by
  have c0 : W.cell? ⟨f, 0, none⟩ = some (.slice A l.length c) := blk_cell hF.blk 0
  have HF := Lib.hid hF
  have HR := Lib.hid hF.reads
  rcases Nat.lt_or_ge l.length (i + 3) with hi | hi
  · have hmat := Lib.hid (ch_short hi)
    clear hF
    go_enter Tryd.func59, Tryd.ntmps59
    go_wp2_with fail
    refine (key_no f W A c i l c0 hm hi (by omega)).mono ?_
    rintro e w' ⟨rfl, rfl⟩
    go_wp2_with fail
    go_ret2
    exact ⟨by rw [hmat.out]; rfl, 0, rfl⟩
  · obtain ⟨ad, rfl, _⟩ := hF.reads.2.2 (by omega)
    clear hF
    go_enter Tryd.func59, Tryd.ntmps59
    go_wp2_with fail
    refine (key_yes f W (some ad) c i l c0 HR.out hby hm hi).mono ?_
    rintro e w1 ⟨rfl, m1, rfl⟩
    have HF1 := Lib.hid (HF.out.drewN m1)
    have HW1 : Hid (∃ m, W.drewN m1 = W.drewN m) := Lib.hid ⟨m1, rfl⟩
    have HKEY := Lib.hid (key_of l i hby)
    clear HR c0
    generalize W.drewN m1 = w1 at *
    obtain ⟨D, k, hown, hk, hD⟩ := HF1.out.map
    have c1 : w1.cell? ⟨f, 1, none⟩ = some (.map (some M)) := blk_cell HF1.out.blk 1
    have HOWN := Lib.hid hown
    have HD := Lib.hid hD
    clear hown hD
    cases hlast : lastAt l i (keyN l i) with
    | none =>
      have hmiss : Maps.has D (.int .u32 (keyN l i)) = false := by rw [HD.out.has, hlast]; rfl
      have hmat := Lib.hid (ch_start_none hlast)
      clear hlast
      go_wp2_with (at_lookup; refine wpList_lookup_own_ok_int _ rfl _ _ 81 rfl 39 3 .i64 lawK Tryd.underlying81 Tryd.underlying3 (zeroInt _) M k D rfl HOWN.out _ _ rfl HKEY.out ?_; intro cL hat hwc; rw [hmiss])
      go_ret2
      exact ⟨by rw [hmat.out]; rfl, HW1.out⟩
    | some q0 =>
      have hhit : Maps.has D (.int .u32 (keyN l i)) = true := by rw [HD.out.has, hlast]; rfl
      have HAT := Lib.hid (HD.out.at_ _ _ hlast)
      have HCH := Lib.hid (ch_start hi hlast)
      have hq0 := (lastAt_some l _ i q0 hlast).1
      clear hlast
      go_wp2_with (at_lookup; refine wpList_lookup_own_ok_int _ rfl _ _ 81 rfl 39 3 .i64 lawK Tryd.underlying81 Tryd.underlying3 (zeroInt _) M k D rfl HOWN.out _ _ rfl HKEY.out ?_; intro cL hat hwc; rw [hhit]; obtain rfl : cL = (q0 : Int) := (by have h := hat.symm.trans (HAT.out _); injection h with h; injection h); clear hat hwc)
      clear HOWN HD HAT HKEY c1 hhit
      go_loopw [8, 9, 10] (fun vj vb vf wr => ∃ (v : Int) (b d : Nat), vj = .int .i64 v ∧ vb = .int .i64 b ∧ vf = .int .i64 d ∧ Hid (Ch l i v b d) ∧ b ≤ 258 ∧ d ≤ i ∧ Hid (∃ m, wr = W.drewN m)) (fun vj _ _ _ => (intOf vj + 1).toNat)
      case atStart => exact ⟨(q0 : Int), 0, 0, rfl, rfl, rfl, HCH, by omega, by omega, HW1⟩
      case round =>
        obtain ⟨v, b, d, rfl, rfl, rfl, hch, hb, hd, hwr⟩ := hrel
        have hcases := hch.out.cases
        rcases hcases with rfl | ⟨q, rfl, hqi, hq3⟩
        · go_wp2_with fail
          go_ret2
          exact ⟨by rw [← ch_neg hch.out]; rfl, hwr.out⟩
        · have q0 : (0 : Int) ≤ (q : Int) := by omega
          by_cases hw : i ≤ q + 32768
          · have hwI : (i : Int) - (q : Int) ≤ 32768 := by omega
            by_cases hb2 : b < 258
            · have hbI : (b : Int) < 258 := by omega
              have hkq := hch.out.key
              go_wp2_with fail
              go_loopw [11] (fun vn wr => ∃ n : Nat, vn = .int .i64 n ∧ n ≤ 258 ∧ 3 ≤ n ∧ i + n ≤ l.length ∧ Hid (∀ m, m < n → i + m < l.length ∧ l.getD (i + m) 0 = l.getD (q + m) 0) ∧ Hid (∃ m, wr = W.drewN m)) (fun vn _ => 258 - (intOf vn).toNat)
              case atStart => exact ⟨3, rfl, by omega, by omega, by omega, Lib.hid (same_key hby hi hkq), hwr⟩
              case round =>
                obtain ⟨n, rfl, hn1, hn3, hin, hsame, hwr2⟩ := hrel
                have HF2 : Hid (Fd w0 f M V (some ad) c cv l i wr) := Lib.hid (by obtain ⟨m, rfl⟩ := hwr2.out; exact HF.out.drewN m)
                have c0 : wr.cell? ⟨f, 0, none⟩ = some (.slice (some ad) l.length c) := blk_cell HF2.out.blk 0
                obtain ⟨ad', hA, hcell⟩ := HF2.out.reads.2.2 (by omega)
                have eA : ad' = ad := by injection hA with h; exact h.symm
                rw [eA] at hcell
                clear hA eA
                by_cases h1 : n < 258
                · have i1 : (n : Int) < 258 := by omega
                  by_cases h2 : i + n < l.length
                  · obtain ⟨ja, hja⟩ : ∃ j, j = i + n := ⟨_, rfl⟩
                    obtain ⟨jb, hjb⟩ : ∃ j, j = q + n := ⟨_, rfl⟩
                    have k1 := hcell (i + n) h2
                    have k2 := hcell (q + n) (by omega)
                    have wa : IntKind.i64.wrap ((i : Int) + (n : Int)) = (ja : Int) := by rw [IntKind.wrap_i64]; omega
                    have wb : IntKind.i64.wrap ((q : Int) + (n : Int)) = (jb : Int) := by rw [IntKind.wrap_i64]; omega
                    have ia0 : (0 : Int) ≤ (ja : Int) := by omega
                    have ia1 : (ja : Int) < (l.length : Int) := by omega
                    have ib0 : (0 : Int) ≤ (jb : Int) := by omega
                    have ib1 : (jb : Int) < (l.length : Int) := by omega
                    rw [← hja] at k1
                    rw [← hjb] at k2
                    by_cases h3 : l.getD (i + n) 0 = l.getD (q + n) 0
                    · have HN := Lib.hid (same_more hsame.out h2 h3)
                      rw [← hja, ← hjb] at h3
                      rw [← h3] at k2
                      generalize l.getD ja 0 = x0 at k1 k2
                      have hx : (x0 == x0) = true := by simp
                      clear hcell h3 hja hjb
                      go_wp2_with fail
                      go_quiet (fail)
                      go_wp2_with fail
                      go_roundw
                      case rel => exact ⟨n + 1, by go_num, by omega, by omega, by omega, HN, Lib.hid (drew_more hwr2.out _)⟩
                      case measure => simp [intOf]; omega
                    · have HIS : Hid (IsSame l i q n) := Lib.hid ⟨hn1, hsame.out, fun h => h3 h.2.2⟩
                      rw [← hja, ← hjb] at h3
                      have hx : (l.getD ja 0 == l.getD jb 0) = false := by simpa using h3
                      generalize l.getD ja 0 = x0 at k1 hx
                      generalize l.getD jb 0 = x1 at k2 hx
                      clear hcell h3 hja hjb
                      go_wp2_with fail
                      go_quiet (fail)
                      clear h1 h2 i1 k1 k2 wa wb ia0 ia1 ib0 ib1 hx
                      have HF3 : Hid (Fd w0 f M V (some ad) c cv l i (wr.drewN nq)) := Lib.hid (HF2.out.drewN nq)
                      have hwr3 : Hid (∃ m, wr.drewN nq = W.drewN m) := Lib.hid (drew_more hwr2.out _)
                      clear c0
                      generalize wr.drewN nq = wz at *
                      have c0 : wz.cell? ⟨f, 0, none⟩ = some (.slice (some ad) l.length c) := blk_cell HF3.out.blk 0
                      have c2 : wz.cell? ⟨f, 2, none⟩ = some (.slice (some ⟨V, 0, none⟩) l.length cv) := blk_cell HF3.out.blk 2
                      have c3 := HF3.out.prev_at q hqi hq3
                      have hpc := prevI_cases l q
                      have iq0 : (0 : Int) ≤ (q : Int) := by omega
                      have iq1 : (q : Int) < (l.length : Int) := by omega
                      have HST := Lib.hid (fun (b' f' : Nat) (h : (b', f') = if b < n then (n, i - q) else (b, d)) => ch_step (b' := b') (f' := f') hby hi hch.out hw HIS.out h)
                      generalize prevI l q = pv at c3 hpc HST
                      have HPC := Lib.hid hpc
                      clear hpc
                      by_cases hgt : b < n
                      · have hgI : (n : Int) > (b : Int) := by omega
                        have HS2 := Lib.hid (HST.out n (i - q) (by rw [if_pos hgt]))
                        by_cases he : i + n = l.length
                        · have heI : ((i : Int) + (n : Int) == (l.length : Int)) = true := by simp; omega
                          have HE := Lib.hid he
                          clear he
                          go_wp2_with fail
                          go_ret2
                          exact ⟨by rw [← HS2.out.1 HE.out]; have e : ((i - q : Nat) : Int) = (i : Int) - q := (by omega); rw [e]; rfl, hwr3.out⟩
                        · have heI : ((i : Int) + (n : Int) == (l.length : Int)) = false := by simp; omega
                          have hin2 : (i : Int) + (n : Int) ≤ 140737488355328 := by omega
                          clear hin
                          clear he
                          go_wp2_with fail
                          go_roundw
                          case rel => exact ⟨pv, n, i - q, rfl, rfl, by have e : ((i - q : Nat) : Int) = (i : Int) - q := (by omega); rw [e], Lib.hid HS2.out.2, HIS.out.le, by omega, hwr3⟩
                          case measure => simp only [intOf]; rcases HPC.out with h | ⟨z, h, hz⟩ <;> rw [h] <;> omega
                      · have hgI : ¬ (n : Int) > (b : Int) := by omega
                        have HS2 := Lib.hid (HST.out b d (by rw [if_neg hgt]))
                        by_cases he : i + n = l.length
                        · have heI : ((i : Int) + (n : Int) == (l.length : Int)) = true := by simp; omega
                          have HE := Lib.hid he
                          clear he
                          go_wp2_with fail
                          go_ret2
                          exact ⟨by rw [← HS2.out.1 HE.out]; rfl, hwr3.out⟩
                        · have heI : ((i : Int) + (n : Int) == (l.length : Int)) = false := by simp; omega
                          have hin2 : (i : Int) + (n : Int) ≤ 140737488355328 := by omega
                          clear hin
                          clear he
                          go_wp2_with fail
                          go_roundw
                          case rel => exact ⟨pv, b, d, rfl, rfl, rfl, Lib.hid HS2.out.2, by omega, by omega, hwr3⟩
                          case measure => simp only [intOf]; rcases HPC.out with h | ⟨z, h, hz⟩ <;> rw [h] <;> omega
                  · have HIS : Hid (IsSame l i q n) := Lib.hid ⟨hn1, hsame.out, fun h => h2 h.2.1⟩
                    obtain ⟨ja, hja⟩ : ∃ j, j = i + n := ⟨_, rfl⟩
                    have wa : IntKind.i64.wrap ((i : Int) + (n : Int)) = (ja : Int) := by rw [IntKind.wrap_i64]; omega
                    have ia1 : ¬ (ja : Int) < (l.length : Int) := by omega
                    have ieq : (i : Int) + (n : Int) = (l.length : Int) := by omega
                    have ia2 : decide ((i : Int) + (n : Int) < (l.length : Int)) = false := by simp; omega
                    have ia3 : decide ((ja : Int) < (l.length : Int)) = false := by simp; omega
                    clear hcell hja
                    go_wp2_with fail
                    go_quiet (fail)
                    clear h1 h2 i1 wa ia1 ia2 ia3 ieq
                    have HF3 : Hid (Fd w0 f M V (some ad) c cv l i (wr.drewN nq)) := Lib.hid (HF2.out.drewN nq)
                    have hwr3 : Hid (∃ m, wr.drewN nq = W.drewN m) := Lib.hid (drew_more hwr2.out _)
                    clear c0
                    generalize wr.drewN nq = wz at *
                    have c0 : wz.cell? ⟨f, 0, none⟩ = some (.slice (some ad) l.length c) := blk_cell HF3.out.blk 0
                    have c2 : wz.cell? ⟨f, 2, none⟩ = some (.slice (some ⟨V, 0, none⟩) l.length cv) := blk_cell HF3.out.blk 2
                    have c3 := HF3.out.prev_at q hqi hq3
                    have hpc := prevI_cases l q
                    have iq0 : (0 : Int) ≤ (q : Int) := by omega
                    have iq1 : (q : Int) < (l.length : Int) := by omega
                    have HST := Lib.hid (fun (b' f' : Nat) (h : (b', f') = if b < n then (n, i - q) else (b, d)) => ch_step (b' := b') (f' := f') hby hi hch.out hw HIS.out h)
                    generalize prevI l q = pv at c3 hpc HST
                    have HPC := Lib.hid hpc
                    clear hpc
                    by_cases hgt : b < n
                    · have hgI : (n : Int) > (b : Int) := by omega
                      have HS2 := Lib.hid (HST.out n (i - q) (by rw [if_pos hgt]))
                      by_cases he : i + n = l.length
                      · have heI : ((i : Int) + (n : Int) == (l.length : Int)) = true := by simp; omega
                        have HE := Lib.hid he
                        clear he
                        go_wp2_with fail
                        go_ret2
                        exact ⟨by rw [← HS2.out.1 HE.out]; have e : ((i - q : Nat) : Int) = (i : Int) - q := (by omega); rw [e]; rfl, hwr3.out⟩
                      · have heI : ((i : Int) + (n : Int) == (l.length : Int)) = false := by simp; omega
                        have hin2 : (i : Int) + (n : Int) ≤ 140737488355328 := by omega
                        clear hin
                        clear he
                        go_wp2_with fail
                        go_roundw
                        case rel => exact ⟨pv, n, i - q, rfl, rfl, by have e : ((i - q : Nat) : Int) = (i : Int) - q := (by omega); rw [e], Lib.hid HS2.out.2, HIS.out.le, by omega, hwr3⟩
                        case measure => simp only [intOf]; rcases HPC.out with h | ⟨z, h, hz⟩ <;> rw [h] <;> omega
                    · have hgI : ¬ (n : Int) > (b : Int) := by omega
                      have HS2 := Lib.hid (HST.out b d (by rw [if_neg hgt]))
                      by_cases he : i + n = l.length
                      · have heI : ((i : Int) + (n : Int) == (l.length : Int)) = true := by simp; omega
                        have HE := Lib.hid he
                        clear he
                        go_wp2_with fail
                        go_ret2
                        exact ⟨by rw [← HS2.out.1 HE.out]; rfl, hwr3.out⟩
                      · have heI : ((i : Int) + (n : Int) == (l.length : Int)) = false := by simp; omega
                        have hin2 : (i : Int) + (n : Int) ≤ 140737488355328 := by omega
                        clear hin
                        clear he
                        go_wp2_with fail
                        go_roundw
                        case rel => exact ⟨pv, b, d, rfl, rfl, rfl, Lib.hid HS2.out.2, by omega, by omega, hwr3⟩
                        case measure => simp only [intOf]; rcases HPC.out with h | ⟨z, h, hz⟩ <;> rw [h] <;> omega
                · have HIS : Hid (IsSame l i q n) := Lib.hid ⟨hn1, hsame.out, fun h => h1 h.1⟩
                  have i1 : ¬ (n : Int) < 258 := by omega
                  have i2 : decide ((n : Int) < 258) = false := by simp; omega
                  clear hcell h1 hn1
                  go_wp2_with fail
                  go_quiet (fail)
                  clear i1 i2
                  have HF3 : Hid (Fd w0 f M V (some ad) c cv l i (wr.drewN nq)) := Lib.hid (HF2.out.drewN nq)
                  have hwr3 : Hid (∃ m, wr.drewN nq = W.drewN m) := Lib.hid (drew_more hwr2.out _)
                  clear c0
                  generalize wr.drewN nq = wz at *
                  have c0 : wz.cell? ⟨f, 0, none⟩ = some (.slice (some ad) l.length c) := blk_cell HF3.out.blk 0
                  have c2 : wz.cell? ⟨f, 2, none⟩ = some (.slice (some ⟨V, 0, none⟩) l.length cv) := blk_cell HF3.out.blk 2
                  have c3 := HF3.out.prev_at q hqi hq3
                  have hpc := prevI_cases l q
                  have iq0 : (0 : Int) ≤ (q : Int) := by omega
                  have iq1 : (q : Int) < (l.length : Int) := by omega
                  have HST := Lib.hid (fun (b' f' : Nat) (h : (b', f') = if b < n then (n, i - q) else (b, d)) => ch_step (b' := b') (f' := f') hby hi hch.out hw HIS.out h)
                  generalize prevI l q = pv at c3 hpc HST
                  have HPC := Lib.hid hpc
                  clear hpc
                  by_cases hgt : b < n
                  · have hgI : (n : Int) > (b : Int) := by omega
                    have HS2 := Lib.hid (HST.out n (i - q) (by rw [if_pos hgt]))
                    by_cases he : i + n = l.length
                    · have heI : ((i : Int) + (n : Int) == (l.length : Int)) = true := by simp; omega
                      have HE := Lib.hid he
                      clear he
                      go_wp2_with fail
                      go_ret2
                      exact ⟨by rw [← HS2.out.1 HE.out]; have e : ((i - q : Nat) : Int) = (i : Int) - q := (by omega); rw [e]; rfl, hwr3.out⟩
                    · have heI : ((i : Int) + (n : Int) == (l.length : Int)) = false := by simp; omega
                      have hin2 : (i : Int) + (n : Int) ≤ 140737488355328 := by omega
                      clear hin
                      clear he
                      go_wp2_with fail
                      go_roundw
                      case rel => exact ⟨pv, n, i - q, rfl, rfl, by have e : ((i - q : Nat) : Int) = (i : Int) - q := (by omega); rw [e], Lib.hid HS2.out.2, HIS.out.le, by omega, hwr3⟩
                      case measure => simp only [intOf]; rcases HPC.out with h | ⟨z, h, hz⟩ <;> rw [h] <;> omega
                  · have hgI : ¬ (n : Int) > (b : Int) := by omega
                    have HS2 := Lib.hid (HST.out b d (by rw [if_neg hgt]))
                    by_cases he : i + n = l.length
                    · have heI : ((i : Int) + (n : Int) == (l.length : Int)) = true := by simp; omega
                      have HE := Lib.hid he
                      clear he
                      go_wp2_with fail
                      go_ret2
                      exact ⟨by rw [← HS2.out.1 HE.out]; rfl, hwr3.out⟩
                    · have heI : ((i : Int) + (n : Int) == (l.length : Int)) = false := by simp; omega
                      have hin2 : (i : Int) + (n : Int) ≤ 140737488355328 := by omega
                      clear hin
                      clear he
                      go_wp2_with fail
                      go_roundw
                      case rel => exact ⟨pv, b, d, rfl, rfl, rfl, Lib.hid HS2.out.2, by omega, by omega, hwr3⟩
                      case measure => simp only [intOf]; rcases HPC.out with h | ⟨z, h, hz⟩ <;> rw [h] <;> omega
            · have hbI : ¬ (b : Int) < 258 := by omega
              have hbF := Lib.hid (show 258 ≤ b by omega)
              clear hb2 hb
              go_wp2_with fail
              go_ret2
              exact ⟨by rw [← ch_full hch.out hbF.out]; rfl, hwr.out⟩
          · have hwI : ¬ (i : Int) - (q : Int) ≤ 32768 := by omega
            go_wp2_with fail
            go_ret2
            exact ⟨by rw [← ch_far hch.out (by omega)]; rfl, hwr.out⟩
end Go.Proofs.YtkdklcamgcmifaaDoor
