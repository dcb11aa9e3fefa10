/- codiciltop.WholeTexts: walked. Printed by tools/mkwhole.py. -/
import Derived.Test.YtmnpcignolofaaaDoorHWTq
namespace Go.Proofs.YtmnpcignolofaaaDoor
set_option linter.unusedVariables false
set_option linter.unusedSimpArgs false
open Go.RowKit Go.Shelf Go.Proofs.YtmnpcignolofaaaDoorW.PrintWords Go.Proofs.YtmnpcignolofaaaDoorW.PrintMore
/-- The last byte of a text that is not empty. -/
theorem last_cell {w : World} {A : Option Addr} {n : Nat} {t : List Int} (h : ReadsInt w .u8 A n t) (hn : 0 < n) : ∃ ad, A = some ad ∧ w.cell? (ad.add (n - 1)) = some (.int .u8 (t.getD (n - 1) 0)) := by
  obtain ⟨ad, e, hc⟩ := h.2.2 hn
  exact ⟨ad, e, hc (n - 1) (by omega)⟩
theorem ends_of {t : List Int} {n : Nat} (hn : n = t.length) (h : n = 0 ∨ t.getD (n - 1) 0 = 10) : Ends t := by
  rcases List.eq_nil_or_concat t with rfl | ⟨p, x, rfl⟩
  · exact .inl rfl
  · right
    rw [List.concat_eq_append] at *
    rcases h with h | h
    · rw [hn, List.length_append] at h; simp at h
    · rw [hn, List.length_append, List.length_singleton, Nat.add_sub_cancel, List.getD_eq_getElem?_getD, List.getElem?_append_right (Nat.le_refl _), Nat.sub_self] at h
      simp at h
      exact ⟨p, by rw [h]⟩
set_option maxRecDepth 20000 in
set_option maxHeartbeats 40000000 in
theorem whole_calls (w : World) (A : Option Addr) (ca : Nat) (ta : List Int) (hra : ReadsInt w .u8 A ta.length ta) (hca : ta.length ≤ ca) (hba : ∀ x ∈ ta, 0 ≤ x ∧ x < 256)
    (B : Option Addr) (cb : Nat) (tb : List Int) (hrb : ReadsInt w .u8 B tb.length tb) (hcb : tb.length ≤ cb) (hbb : ∀ x ∈ tb, 0 ≤ x ∧ x < 256) :
    Calls Tryd.prog 10 #[.slice A ta.length ca, .slice B tb.length cb] w fun e w' => e = .returned (.bool true) ∧ Below w.heap.size w w' := by
  obtain ⟨n, hn⟩ : ∃ n, n = ta.length := ⟨_, rfl⟩
  obtain ⟨m, hm⟩ : ∃ m, m = tb.length := ⟨_, rfl⟩
  have HLA := Lib.hid (fun W (hW : Below w.heap.size w W) (h : ta.length ≤ 1500) => lines_calls W A ca ta (hra.below hW) hca hba (by omega))
  have HLB := Lib.hid (fun W (hW : Below w.heap.size w W) (h : tb.length ≤ 1500) => lines_calls W B cb tb (hrb.below hW) hcb hbb (by omega))
  simp only [LB_enc, ← LB_len] at HLA HLB
  rw [← hn] at hra HLA
  rw [← hm] at hrb HLB
  rw [← hn, ← hm]
  have hnx := hra.2.1
  have hmx := hrb.2.1
  have HRA := Lib.hid hra
  have HRB := Lib.hid hrb
  have HBY := Lib.hid (And.intro hba hbb)
  have HNM := Lib.hid (And.intro hn hm)
  clear hra hrb hca hcb hba hbb hn hm
  by_cases a1 : 1500 < n
  · have g1 : (1500 : Int) < (n : Int) := by omega
    clear a1
    go_enter Tryd.func10, Tryd.ntmps10
    go_wp2_with fail
    refine (awake11_calls w).mono ?_
    rintro e w1 ⟨rfl, hb⟩
    have HB1 := Lib.hid hb
    clear hb
    go_wp2_with fail
    go_ret
    exact ⟨rfl, HB1.out⟩
  have hn15 : n ≤ 1500 := by omega
  have g1 : ¬ ((1500 : Int) < (n : Int)) := by omega
  clear a1
  by_cases b1 : 1500 < m
  · have g2 : (1500 : Int) < (m : Int) := by omega
    clear b1
    go_enter Tryd.func10, Tryd.ntmps10
    go_wp2_with fail
    refine (awake11_calls w).mono ?_
    rintro e w1 ⟨rfl, hb⟩
    have HB1 := Lib.hid hb
    clear hb
    go_wp2_with fail
    go_ret
    exact ⟨rfl, HB1.out⟩
  have hm15 : m ≤ 1500 := by omega
  have g2 : ¬ ((1500 : Int) < (m : Int)) := by omega
  clear b1 hnx hmx
  rcases Nat.eq_zero_or_pos n with ha0 | ha0
  · subst ha0
    have HEa := Lib.hid (ends_of HNM.out.1 (.inl rfl))
    rcases Nat.eq_zero_or_pos m with hb0 | hb0
    · subst hb0
      have HEb := Lib.hid (ends_of HNM.out.2 (.inl rfl))
      by_cases l1 : 300 < (LB ta).length
      · have g3 : (300 : Int) < ((LB ta).length : Int) := by omega
        clear l1
        go_enter Tryd.func10, Tryd.ntmps10
        go_wp2_with fail
        refine (awake11_calls w).mono ?_
        rintro e w1 ⟨rfl, hb⟩
        have HB1 := Lib.hid hb
        clear hb
        go_wp2_with fail
        refine (HLA.out w1 HB1.out (by omega)).mono ?_
        rintro e w2 ⟨v2, rfl, ho2, hb2⟩
        obtain ⟨A2, c2, rfl⟩ := own_slice ho2
        have HB2 := Lib.hid (below_then HB1.out HB1.out.size hb2)
        clear ho2 hb2
        go_wp2_with fail
        go_ret
        exact ⟨rfl, HB2.out⟩
      have g3 : ¬ ((300 : Int) < ((LB ta).length : Int)) := by omega
      by_cases l2 : 300 < (LB tb).length
      · have g4 : (300 : Int) < ((LB tb).length : Int) := by omega
        have L1 := Lib.hid l1
        clear l1 l2
        go_enter Tryd.func10, Tryd.ntmps10
        go_wp2_with fail
        refine (awake11_calls w).mono ?_
        rintro e w1 ⟨rfl, hb⟩
        have HB1 := Lib.hid hb
        clear hb
        go_wp2_with fail
        refine (HLA.out w1 HB1.out (by omega)).mono ?_
        rintro e w2 ⟨v2, rfl, ho2, hb2⟩
        obtain ⟨A2, c2, rfl⟩ := own_slice ho2
        have HB2 := Lib.hid (below_then HB1.out HB1.out.size hb2)
        clear ho2 hb2
        go_wp2_with fail
        refine (HLB.out w2 HB2.out (by omega)).mono ?_
        rintro e w3 ⟨v3, rfl, ho3, hb3⟩
        obtain ⟨A3, c3, rfl⟩ := own_slice ho3
        have HB3 := Lib.hid (below_then HB2.out HB2.out.size hb3)
        clear ho3 hb3
        go_wp2_with fail
        go_ret
        exact ⟨rfl, HB3.out⟩
      have g4 : ¬ ((300 : Int) < ((LB tb).length : Int)) := by omega
      have L3 := Lib.hid (And.intro (Nat.le_of_not_lt l1) (Nat.le_of_not_lt l2))
      clear l1 l2
      go_enter Tryd.func10, Tryd.ntmps10
      go_wp2_with fail
      refine (awake11_calls w).mono ?_
      rintro e w1 ⟨rfl, hb⟩
      have HB1 := Lib.hid hb
      clear hb
      go_wp2_with fail
      refine (HLA.out w1 HB1.out (by omega)).mono ?_
      rintro e w2 ⟨v2, rfl, ho2, hb2⟩
      obtain ⟨A2, c2, rfl⟩ := own_slice ho2
      have HB2 := Lib.hid (below_then HB1.out HB1.out.size hb2)
      clear ho2 hb2
      go_wp2_with fail
      refine (HLB.out w2 HB2.out (by omega)).mono ?_
      rintro e w3 ⟨v3, rfl, ho3, hb3⟩
      obtain ⟨A3, c3, rfl⟩ := own_slice ho3
      have HB3 := Lib.hid (below_then HB2.out HB2.out.size hb3)
      clear ho3 hb3
      go_wp2_with fail
      refine (HLA.out w3 HB3.out (by omega)).mono ?_
      rintro e w4 ⟨v4, rfl, ho4, hb4⟩
      obtain ⟨A4, c4, rfl⟩ := own_slice ho4
      have HB4 := Lib.hid (below_then HB3.out HB3.out.size hb4)
      have HO4 := Lib.hid ho4
      clear ho4 hb4
      go_wp2_with fail
      refine (HLB.out w4 HB4.out (by omega)).mono ?_
      rintro e w5 ⟨v5, rfl, ho5, hb5⟩
      obtain ⟨A5, c5, rfl⟩ := own_slice ho5
      have HB5 := Lib.hid (below_then HB4.out HB4.out.size hb5)
      have HX5 := Lib.hid (own_reads_of' (d := ByteArray.empty) (pw_own_below HO4.out hb5))
      have HY5 := Lib.hid (own_reads_of' (d := ByteArray.empty) ho5)
      clear ho5 hb5 HO4
      have n15 : ta.length ≤ 1500 := by have h := HNM.out.1; omega
      have m15 : tb.length ≤ 1500 := by have h := HNM.out.2; omega
      have HT5 := Lib.hid (text_calls w5 A4 c4 (LB ta) A5 c5 (LB tb) HX5.out HY5.out (by have := L3.out; omega) (by have := L3.out; omega) (fun s hs => Nat.le_trans (LB_size n15 s hs) (by decide)) (fun s hs => Nat.le_trans (LB_size m15 s hs) (by decide)))
      have HD5 := Lib.hid (fun W (hW : Below w5.heap.size w5 W) => rest_calls W A4 c4 (LB ta) A5 c5 (LB tb) (HX5.out.below hW) (HY5.out.below hW) (by have := L3.out; omega) (by have := L3.out; omega) (fun s hs => Nat.le_trans (LB_size n15 s hs) (by decide)) (fun s hs => Nat.le_trans (LB_size m15 s hs) (by decide)))
      obtain ⟨ls, hls, hgs, hsA, hsB, hch⟩ := whole_told ta tb HBY.out.1 HBY.out.2 HEa.out HEb.out
      have hts := textT_size ta tb n15 m15 L3.out.1 L3.out.2
      obtain ⟨T, hT⟩ : ∃ T : ByteArray, T = ⟨(textT (LB ta) (LB tb)).toArray⟩ := ⟨_, rfl⟩
      rw [← hT] at HT5
      have hTl : T.data.toList = textT (LB ta) (LB tb) := by rw [hT]
      rw [← hTl] at hls hts
      have hTs : T.size ≤ 2000000 := hts
      obtain ⟨D, hD⟩ : ∃ D, D = dist (txs (LB ta)) (txs (LB tb)) := ⟨_, rfl⟩
      rw [← hD] at HD5 hch
      have HSD := Lib.hid (fun W => sides_calls W T ls hTs hls hgs)
      rw [hsA, hsB] at HSD
      have HGS := Lib.hid hgs
      have HCH := Lib.hid hch
      have HLS := Lib.hid hls
      clear hls hgs hsA hsB hch hts hT hTl hD n15 m15
      go_wp2_with fail
      refine HT5.out.mono ?_
      rintro e w6 ⟨rfl, hb6⟩
      have HB6 := Lib.hid (below_then HB5.out HB5.out.size hb6)
      have HC6 := Lib.hid hb6
      clear hb6 HT5
      go_wp2_with fail
      refine (HD5.out w6 HC6.out).mono ?_
      rintro e w7 ⟨rfl, hb7⟩
      have HB7 := Lib.hid (below_then HB6.out HB6.out.size hb7)
      clear hb7 HD5 HC6 HX5 HY5
      go_wp2_with fail
      refine (HSD.out w7).mono ?_
      rintro e w8 ⟨rfl, hb8⟩
      have HB8 := Lib.hid (below_then HB7.out HB7.out.size hb8)
      clear hb8 HSD
      obtain ⟨cT, W9, hcv, hrd, hcc, hb9⟩ := bytes_of w8 T hTs
      have HRL := refLines_calls W9 (some ⟨w8.heap.size, 0, none⟩) cT (bi T.data.toList) (by rw [bi_len]; exact hrd) (by rw [bi_len]; exact hcc) (by rw [bi_len]; exact Nat.le_trans hTs (by decide))
      rw [bi_len, HLS.out] at HRL
      have HRL := Lib.hid HRL
      have HB9 := Lib.hid (below_then HB8.out HB8.out.size hb9)
      clear hrd hcc hb9
      go_wp2_with fail
      refine HRL.out.mono ?_
      rintro e wa ⟨va, rfl, hoa, hba⟩
      obtain ⟨Aa, cca, rfl⟩ := own_slice hoa
      have hll : (ls.map (fun h => bi (tlB h))).length = ls.length := List.length_map ..
      rw [hll] at hoa ⊢
      have HOa : Hid (ReadsOf (fun h => Value.string (lineB h)) (0, ByteArray.empty) wa Aa ls.length ls) := Lib.hid (by
        have e : (ls.map (fun h => bi (tlB h))).map strV = encs (fun h => Value.string (lineB h)) ls := by
          rw [List.map_map]
          unfold encs
          refine List.map_congr_left (fun h _ => ?_)
          show Value.string (strOfNums (bi (tlB h))) = _
          rw [lineB_bi]
        rw [e] at hoa
        exact own_reads_of' hoa)
      have HBa := Lib.hid (below_then HB9.out HB9.out.size hba)
      have hl20 : ls.length ≤ 2000000 := by
        have h1 := linesF_join (bi T.data.toList)
        rw [HLS.out] at h1
        have h2 := flat_len ls
        rw [h1, bi_len] at h2
        have h3 := len_flat ls
        have h4 : T.data.toList.length ≤ 2000000 := hTs
        omega
      clear hoa hba hll HRL hcv HLS hTs
      go_wp2_with fail
      go_loopw [99, 14] (fun v99 v14 wr => ∃ i : Nat, v99 = .int .i64 i ∧ i ≤ ls.length ∧ v14 = .int .i64 (chg (ls.take i) : Nat) ∧ Hid (∃ k, wr = wa.drewN k)) (fun v99 _ _ => ls.length - (intOf v99).toNat)
      case atStart => exact ⟨0, rfl, by omega, rfl, Lib.hid ⟨0, rfl⟩⟩
      case round =>
        obtain ⟨i, rfl, hi, rfl, hw⟩ := hrel
        by_cases hlt : i < ls.length
        · have i0 : (0 : Int) ≤ (i : Int) := by omega
          have i1 : (i : Int) < (ls.length : Int) := by omega
          have wi : IntKind.i64.wrap ((i : Int) + 1) = (i : Int) + 1 := by rw [IntKind.wrap_i64]; omega
          obtain ⟨ax, rfl, hcx⟩ := HOa.out.2.2 (by omega)
          have k1 := hcx i hlt
          obtain ⟨h, hh⟩ : ∃ h, h = ls.getD i (0, ByteArray.empty) := ⟨_, rfl⟩
          rw [← hh] at k1
          have hgt : ls.getD i (0, ByteArray.empty) = ls[i] := by rw [List.getD_eq_getElem?_getD, List.getElem?_eq_getElem hlt]; rfl
          have htk : ls.take (i + 1) = ls.take i ++ [h] := by rw [List.take_succ_eq_append_getElem hlt, hh, hgt]
          have k2 : wr.cell? (ax.add i) = some (.string (lineB h)) := by obtain ⟨k, rfl⟩ := hw.out; exact k1
          have hl2 := lineB_size h
          have z0' : 0 < (lineB h).size := by omega
          have s0' := lineB_0 h z0'
          have hcl : chg (ls.take i) ≤ 2000000 := Nat.le_trans (List.length_filter_le _ _) (by rw [List.length_take]; omega)
          have hcs : chg (ls.take (i + 1)) = chg (ls.take i) + (if h.1 = 32 then 0 else 1) := by
            rw [htk]
            unfold chg
            rw [List.filter_append, List.length_append]
            congr 1
            by_cases e : h.1 = 32 <;> simp [e]
          obtain ⟨C, hC⟩ : ∃ C, C = chg (ls.take i) := ⟨_, rfl⟩
          rw [← hC] at hcs hcl ⊢
          have HCS := Lib.hid hcs
          have wC : IntKind.i64.wrap ((C : Int) + 1) = (C : Int) + 1 := by rw [IntKind.wrap_i64]; omega
          obtain ⟨S, hS⟩ : ∃ S : ByteArray, lineB h = S ∧ ∃ z0 : 0 < S.size, S[0]'z0 = h.1 := ⟨lineB h, rfl, z0', s0'⟩
          obtain ⟨hS, z0, s0⟩ := hS
          rw [hS] at k2
          have z1 : (0 : Int) < (S.size : Int) := by omega
          clear hS s0' z0' hl2 hC hcs htk hgt hh hcx k1
          by_cases e : h.1 = 32
          · have b32 : (((S[0]'z0).toNat : Int) == 32) = true := by rw [s0, e]; rfl
            have HE := Lib.hid e
            clear e s0
            go_wp2_with fail
            go_roundw
            case rel => exact ⟨i + 1, by go_num, by omega, by rw [HCS.out, if_pos HE.out]; rfl, hw⟩
            case measure => simp only [intOf]; omega
          · have b32 : (((S[0]'z0).toNat : Int) == 32) = false := by
              rw [s0, beq_eq_false_iff_ne]
              exact fun h3 => e (UInt8.toNat_inj.1 (by have h4 : (32 : UInt8).toNat = 32 := rfl; omega))
            have HE := Lib.hid e
            clear e s0
            go_wp2_with fail
            go_roundw
            case rel => exact ⟨i + 1, by go_num, by omega, by rw [HCS.out, if_neg HE.out]; go_num, hw⟩
            case measure => simp only [intOf]; omega
        · obtain rfl : i = ls.length := by omega
          rw [List.take_length, HCH.out]
          obtain ⟨k, rfl⟩ := hw.out
          have HBk := Lib.hid (pw_below_drewN HBa.out k)
          have kcA := string_of_reads (P := Tryd.prog) (src := 22) (dst := 9) (c := ca) Tryd.underlying22 Tryd.underlying5 Tryd.underlying9 (HRA.out.below HBk.out)
          have kcB := string_of_reads (P := Tryd.prog) (src := 22) (dst := 9) (c := cb) Tryd.underlying22 Tryd.underlying5 Tryd.underlying9 (HRB.out.below HBk.out)
          generalize strOfNums ta = SA at *
          generalize strOfNums tb = SB at *
          go_wp2_with fail
          go_ret
          exact ⟨rfl, HBk.out⟩
    · obtain ⟨ab, rfl, hbc⟩ := last_cell HRB.out hb0
      have hE := ends_of (t := tb) HNM.out.2
      have qb0 : (0 : Int) < (m : Int) := by omega
      obtain ⟨pb, hpb⟩ : ∃ p, p = m - 1 := ⟨_, rfl⟩
      have wb : IntKind.i64.wrap ((m : Int) - 1) = (pb : Int) := by rw [IntKind.wrap_i64]; omega
      have qb1 : (0 : Int) ≤ (pb : Int) := by omega
      have qb2 : (pb : Int) < (m : Int) := by omega
      rw [← hpb] at hbc
      obtain ⟨lb, hlb⟩ : ∃ l, l = tb.getD pb 0 := ⟨_, rfl⟩
      rw [← hpb, ← hlb] at hE
      rw [← hlb] at hbc
      clear hpb hlb
      by_cases hlb : lb = 10
      · subst hlb
        have HEb := Lib.hid (hE (.inr rfl))
        have HKb := Lib.hid hbc
        clear hE hbc hb0
        by_cases l1 : 300 < (LB ta).length
        · have g3 : (300 : Int) < ((LB ta).length : Int) := by omega
          clear l1
          go_enter Tryd.func10, Tryd.ntmps10
          go_wp2_with fail
          refine (awake11_calls w).mono ?_
          rintro e w1 ⟨rfl, hb⟩
          have HB1 := Lib.hid hb
          clear hb
          have kb := (HB1.out.cell (p := ab.add pb) (World.block_lt_of_cell? w _ HKb.out)).trans HKb.out
          go_wp2_with fail
          refine (HLA.out w1 HB1.out (by omega)).mono ?_
          rintro e w2 ⟨v2, rfl, ho2, hb2⟩
          obtain ⟨A2, c2, rfl⟩ := own_slice ho2
          have HB2 := Lib.hid (below_then HB1.out HB1.out.size hb2)
          clear ho2 hb2
          go_wp2_with fail
          go_ret
          exact ⟨rfl, HB2.out⟩
        have g3 : ¬ ((300 : Int) < ((LB ta).length : Int)) := by omega
        by_cases l2 : 300 < (LB tb).length
        · have g4 : (300 : Int) < ((LB tb).length : Int) := by omega
          have L1 := Lib.hid l1
          clear l1 l2
          go_enter Tryd.func10, Tryd.ntmps10
          go_wp2_with fail
          refine (awake11_calls w).mono ?_
          rintro e w1 ⟨rfl, hb⟩
          have HB1 := Lib.hid hb
          clear hb
          have kb := (HB1.out.cell (p := ab.add pb) (World.block_lt_of_cell? w _ HKb.out)).trans HKb.out
          go_wp2_with fail
          refine (HLA.out w1 HB1.out (by omega)).mono ?_
          rintro e w2 ⟨v2, rfl, ho2, hb2⟩
          obtain ⟨A2, c2, rfl⟩ := own_slice ho2
          have HB2 := Lib.hid (below_then HB1.out HB1.out.size hb2)
          clear ho2 hb2
          go_wp2_with fail
          refine (HLB.out w2 HB2.out (by omega)).mono ?_
          rintro e w3 ⟨v3, rfl, ho3, hb3⟩
          obtain ⟨A3, c3, rfl⟩ := own_slice ho3
          have HB3 := Lib.hid (below_then HB2.out HB2.out.size hb3)
          clear ho3 hb3
          go_wp2_with fail
          go_ret
          exact ⟨rfl, HB3.out⟩
        have g4 : ¬ ((300 : Int) < ((LB tb).length : Int)) := by omega
        have L3 := Lib.hid (And.intro (Nat.le_of_not_lt l1) (Nat.le_of_not_lt l2))
        clear l1 l2
        go_enter Tryd.func10, Tryd.ntmps10
        go_wp2_with fail
        refine (awake11_calls w).mono ?_
        rintro e w1 ⟨rfl, hb⟩
        have HB1 := Lib.hid hb
        clear hb
        have kb := (HB1.out.cell (p := ab.add pb) (World.block_lt_of_cell? w _ HKb.out)).trans HKb.out
        go_wp2_with fail
        refine (HLA.out w1 HB1.out (by omega)).mono ?_
        rintro e w2 ⟨v2, rfl, ho2, hb2⟩
        obtain ⟨A2, c2, rfl⟩ := own_slice ho2
        have HB2 := Lib.hid (below_then HB1.out HB1.out.size hb2)
        clear ho2 hb2
        go_wp2_with fail
        refine (HLB.out w2 HB2.out (by omega)).mono ?_
        rintro e w3 ⟨v3, rfl, ho3, hb3⟩
        obtain ⟨A3, c3, rfl⟩ := own_slice ho3
        have HB3 := Lib.hid (below_then HB2.out HB2.out.size hb3)
        clear ho3 hb3
        go_wp2_with fail
        refine (HLA.out w3 HB3.out (by omega)).mono ?_
        rintro e w4 ⟨v4, rfl, ho4, hb4⟩
        obtain ⟨A4, c4, rfl⟩ := own_slice ho4
        have HB4 := Lib.hid (below_then HB3.out HB3.out.size hb4)
        have HO4 := Lib.hid ho4
        clear ho4 hb4
        go_wp2_with fail
        refine (HLB.out w4 HB4.out (by omega)).mono ?_
        rintro e w5 ⟨v5, rfl, ho5, hb5⟩
        obtain ⟨A5, c5, rfl⟩ := own_slice ho5
        have HB5 := Lib.hid (below_then HB4.out HB4.out.size hb5)
        have HX5 := Lib.hid (own_reads_of' (d := ByteArray.empty) (pw_own_below HO4.out hb5))
        have HY5 := Lib.hid (own_reads_of' (d := ByteArray.empty) ho5)
        clear ho5 hb5 HO4
        have n15 : ta.length ≤ 1500 := by have h := HNM.out.1; omega
        have m15 : tb.length ≤ 1500 := by have h := HNM.out.2; omega
        have HT5 := Lib.hid (text_calls w5 A4 c4 (LB ta) A5 c5 (LB tb) HX5.out HY5.out (by have := L3.out; omega) (by have := L3.out; omega) (fun s hs => Nat.le_trans (LB_size n15 s hs) (by decide)) (fun s hs => Nat.le_trans (LB_size m15 s hs) (by decide)))
        have HD5 := Lib.hid (fun W (hW : Below w5.heap.size w5 W) => rest_calls W A4 c4 (LB ta) A5 c5 (LB tb) (HX5.out.below hW) (HY5.out.below hW) (by have := L3.out; omega) (by have := L3.out; omega) (fun s hs => Nat.le_trans (LB_size n15 s hs) (by decide)) (fun s hs => Nat.le_trans (LB_size m15 s hs) (by decide)))
        obtain ⟨ls, hls, hgs, hsA, hsB, hch⟩ := whole_told ta tb HBY.out.1 HBY.out.2 HEa.out HEb.out
        have hts := textT_size ta tb n15 m15 L3.out.1 L3.out.2
        obtain ⟨T, hT⟩ : ∃ T : ByteArray, T = ⟨(textT (LB ta) (LB tb)).toArray⟩ := ⟨_, rfl⟩
        rw [← hT] at HT5
        have hTl : T.data.toList = textT (LB ta) (LB tb) := by rw [hT]
        rw [← hTl] at hls hts
        have hTs : T.size ≤ 2000000 := hts
        obtain ⟨D, hD⟩ : ∃ D, D = dist (txs (LB ta)) (txs (LB tb)) := ⟨_, rfl⟩
        rw [← hD] at HD5 hch
        have HSD := Lib.hid (fun W => sides_calls W T ls hTs hls hgs)
        rw [hsA, hsB] at HSD
        have HGS := Lib.hid hgs
        have HCH := Lib.hid hch
        have HLS := Lib.hid hls
        clear hls hgs hsA hsB hch hts hT hTl hD n15 m15
        go_wp2_with fail
        refine HT5.out.mono ?_
        rintro e w6 ⟨rfl, hb6⟩
        have HB6 := Lib.hid (below_then HB5.out HB5.out.size hb6)
        have HC6 := Lib.hid hb6
        clear hb6 HT5
        go_wp2_with fail
        refine (HD5.out w6 HC6.out).mono ?_
        rintro e w7 ⟨rfl, hb7⟩
        have HB7 := Lib.hid (below_then HB6.out HB6.out.size hb7)
        clear hb7 HD5 HC6 HX5 HY5
        go_wp2_with fail
        refine (HSD.out w7).mono ?_
        rintro e w8 ⟨rfl, hb8⟩
        have HB8 := Lib.hid (below_then HB7.out HB7.out.size hb8)
        clear hb8 HSD
        obtain ⟨cT, W9, hcv, hrd, hcc, hb9⟩ := bytes_of w8 T hTs
        have HRL := refLines_calls W9 (some ⟨w8.heap.size, 0, none⟩) cT (bi T.data.toList) (by rw [bi_len]; exact hrd) (by rw [bi_len]; exact hcc) (by rw [bi_len]; exact Nat.le_trans hTs (by decide))
        rw [bi_len, HLS.out] at HRL
        have HRL := Lib.hid HRL
        have HB9 := Lib.hid (below_then HB8.out HB8.out.size hb9)
        clear hrd hcc hb9
        go_wp2_with fail
        refine HRL.out.mono ?_
        rintro e wa ⟨va, rfl, hoa, hba⟩
        obtain ⟨Aa, cca, rfl⟩ := own_slice hoa
        have hll : (ls.map (fun h => bi (tlB h))).length = ls.length := List.length_map ..
        rw [hll] at hoa ⊢
        have HOa : Hid (ReadsOf (fun h => Value.string (lineB h)) (0, ByteArray.empty) wa Aa ls.length ls) := Lib.hid (by
          have e : (ls.map (fun h => bi (tlB h))).map strV = encs (fun h => Value.string (lineB h)) ls := by
            rw [List.map_map]
            unfold encs
            refine List.map_congr_left (fun h _ => ?_)
            show Value.string (strOfNums (bi (tlB h))) = _
            rw [lineB_bi]
          rw [e] at hoa
          exact own_reads_of' hoa)
        have HBa := Lib.hid (below_then HB9.out HB9.out.size hba)
        have hl20 : ls.length ≤ 2000000 := by
          have h1 := linesF_join (bi T.data.toList)
          rw [HLS.out] at h1
          have h2 := flat_len ls
          rw [h1, bi_len] at h2
          have h3 := len_flat ls
          have h4 : T.data.toList.length ≤ 2000000 := hTs
          omega
        clear hoa hba hll HRL hcv HLS hTs
        go_wp2_with fail
        go_loopw [99, 14] (fun v99 v14 wr => ∃ i : Nat, v99 = .int .i64 i ∧ i ≤ ls.length ∧ v14 = .int .i64 (chg (ls.take i) : Nat) ∧ Hid (∃ k, wr = wa.drewN k)) (fun v99 _ _ => ls.length - (intOf v99).toNat)
        case atStart => exact ⟨0, rfl, by omega, rfl, Lib.hid ⟨0, rfl⟩⟩
        case round =>
          obtain ⟨i, rfl, hi, rfl, hw⟩ := hrel
          by_cases hlt : i < ls.length
          · have i0 : (0 : Int) ≤ (i : Int) := by omega
            have i1 : (i : Int) < (ls.length : Int) := by omega
            have wi : IntKind.i64.wrap ((i : Int) + 1) = (i : Int) + 1 := by rw [IntKind.wrap_i64]; omega
            obtain ⟨ax, rfl, hcx⟩ := HOa.out.2.2 (by omega)
            have k1 := hcx i hlt
            obtain ⟨h, hh⟩ : ∃ h, h = ls.getD i (0, ByteArray.empty) := ⟨_, rfl⟩
            rw [← hh] at k1
            have hgt : ls.getD i (0, ByteArray.empty) = ls[i] := by rw [List.getD_eq_getElem?_getD, List.getElem?_eq_getElem hlt]; rfl
            have htk : ls.take (i + 1) = ls.take i ++ [h] := by rw [List.take_succ_eq_append_getElem hlt, hh, hgt]
            have k2 : wr.cell? (ax.add i) = some (.string (lineB h)) := by obtain ⟨k, rfl⟩ := hw.out; exact k1
            have hl2 := lineB_size h
            have z0' : 0 < (lineB h).size := by omega
            have s0' := lineB_0 h z0'
            have hcl : chg (ls.take i) ≤ 2000000 := Nat.le_trans (List.length_filter_le _ _) (by rw [List.length_take]; omega)
            have hcs : chg (ls.take (i + 1)) = chg (ls.take i) + (if h.1 = 32 then 0 else 1) := by
              rw [htk]
              unfold chg
              rw [List.filter_append, List.length_append]
              congr 1
              by_cases e : h.1 = 32 <;> simp [e]
            obtain ⟨C, hC⟩ : ∃ C, C = chg (ls.take i) := ⟨_, rfl⟩
            rw [← hC] at hcs hcl ⊢
            have HCS := Lib.hid hcs
            have wC : IntKind.i64.wrap ((C : Int) + 1) = (C : Int) + 1 := by rw [IntKind.wrap_i64]; omega
            obtain ⟨S, hS⟩ : ∃ S : ByteArray, lineB h = S ∧ ∃ z0 : 0 < S.size, S[0]'z0 = h.1 := ⟨lineB h, rfl, z0', s0'⟩
            obtain ⟨hS, z0, s0⟩ := hS
            rw [hS] at k2
            have z1 : (0 : Int) < (S.size : Int) := by omega
            clear hS s0' z0' hl2 hC hcs htk hgt hh hcx k1
            by_cases e : h.1 = 32
            · have b32 : (((S[0]'z0).toNat : Int) == 32) = true := by rw [s0, e]; rfl
              have HE := Lib.hid e
              clear e s0
              go_wp2_with fail
              go_roundw
              case rel => exact ⟨i + 1, by go_num, by omega, by rw [HCS.out, if_pos HE.out]; rfl, hw⟩
              case measure => simp only [intOf]; omega
            · have b32 : (((S[0]'z0).toNat : Int) == 32) = false := by
                rw [s0, beq_eq_false_iff_ne]
                exact fun h3 => e (UInt8.toNat_inj.1 (by have h4 : (32 : UInt8).toNat = 32 := rfl; omega))
              have HE := Lib.hid e
              clear e s0
              go_wp2_with fail
              go_roundw
              case rel => exact ⟨i + 1, by go_num, by omega, by rw [HCS.out, if_neg HE.out]; go_num, hw⟩
              case measure => simp only [intOf]; omega
          · obtain rfl : i = ls.length := by omega
            rw [List.take_length, HCH.out]
            obtain ⟨k, rfl⟩ := hw.out
            have HBk := Lib.hid (pw_below_drewN HBa.out k)
            have kcA := string_of_reads (P := Tryd.prog) (src := 22) (dst := 9) (c := ca) Tryd.underlying22 Tryd.underlying5 Tryd.underlying9 (HRA.out.below HBk.out)
            have kcB := string_of_reads (P := Tryd.prog) (src := 22) (dst := 9) (c := cb) Tryd.underlying22 Tryd.underlying5 Tryd.underlying9 (HRB.out.below HBk.out)
            generalize strOfNums ta = SA at *
            generalize strOfNums tb = SB at *
            go_wp2_with fail
            go_ret
            exact ⟨rfl, HBk.out⟩
      · have HKb := Lib.hid hbc
        clear hE hbc hb0
        go_enter Tryd.func10, Tryd.ntmps10
        go_wp2_with fail
        refine (awake11_calls w).mono ?_
        rintro e w1 ⟨rfl, hb⟩
        have HB1 := Lib.hid hb
        clear hb
        have kb := (HB1.out.cell (p := ab.add pb) (World.block_lt_of_cell? w _ HKb.out)).trans HKb.out
        go_wp2_with fail
        go_ret
        exact ⟨rfl, HB1.out⟩
  · obtain ⟨aa, rfl, hac⟩ := last_cell HRA.out ha0
    have hE := ends_of (t := ta) HNM.out.1
    have qa0 : (0 : Int) < (n : Int) := by omega
    obtain ⟨pa, hpa⟩ : ∃ p, p = n - 1 := ⟨_, rfl⟩
    have wa : IntKind.i64.wrap ((n : Int) - 1) = (pa : Int) := by rw [IntKind.wrap_i64]; omega
    have qa1 : (0 : Int) ≤ (pa : Int) := by omega
    have qa2 : (pa : Int) < (n : Int) := by omega
    rw [← hpa] at hac
    obtain ⟨la, hla⟩ : ∃ l, l = ta.getD pa 0 := ⟨_, rfl⟩
    rw [← hpa, ← hla] at hE
    rw [← hla] at hac
    clear hpa hla
    by_cases hla : la = 10
    · subst hla
      have HEa := Lib.hid (hE (.inr rfl))
      have HKa := Lib.hid hac
      clear hE hac ha0
      rcases Nat.eq_zero_or_pos m with hb0 | hb0
      · subst hb0
        have HEb := Lib.hid (ends_of HNM.out.2 (.inl rfl))
        by_cases l1 : 300 < (LB ta).length
        · have g3 : (300 : Int) < ((LB ta).length : Int) := by omega
          clear l1
          go_enter Tryd.func10, Tryd.ntmps10
          go_wp2_with fail
          refine (awake11_calls w).mono ?_
          rintro e w1 ⟨rfl, hb⟩
          have HB1 := Lib.hid hb
          clear hb
          have ka := (HB1.out.cell (p := aa.add pa) (World.block_lt_of_cell? w _ HKa.out)).trans HKa.out
          go_wp2_with fail
          refine (HLA.out w1 HB1.out (by omega)).mono ?_
          rintro e w2 ⟨v2, rfl, ho2, hb2⟩
          obtain ⟨A2, c2, rfl⟩ := own_slice ho2
          have HB2 := Lib.hid (below_then HB1.out HB1.out.size hb2)
          clear ho2 hb2
          go_wp2_with fail
          go_ret
          exact ⟨rfl, HB2.out⟩
        have g3 : ¬ ((300 : Int) < ((LB ta).length : Int)) := by omega
        by_cases l2 : 300 < (LB tb).length
        · have g4 : (300 : Int) < ((LB tb).length : Int) := by omega
          have L1 := Lib.hid l1
          clear l1 l2
          go_enter Tryd.func10, Tryd.ntmps10
          go_wp2_with fail
          refine (awake11_calls w).mono ?_
          rintro e w1 ⟨rfl, hb⟩
          have HB1 := Lib.hid hb
          clear hb
          have ka := (HB1.out.cell (p := aa.add pa) (World.block_lt_of_cell? w _ HKa.out)).trans HKa.out
          go_wp2_with fail
          refine (HLA.out w1 HB1.out (by omega)).mono ?_
          rintro e w2 ⟨v2, rfl, ho2, hb2⟩
          obtain ⟨A2, c2, rfl⟩ := own_slice ho2
          have HB2 := Lib.hid (below_then HB1.out HB1.out.size hb2)
          clear ho2 hb2
          go_wp2_with fail
          refine (HLB.out w2 HB2.out (by omega)).mono ?_
          rintro e w3 ⟨v3, rfl, ho3, hb3⟩
          obtain ⟨A3, c3, rfl⟩ := own_slice ho3
          have HB3 := Lib.hid (below_then HB2.out HB2.out.size hb3)
          clear ho3 hb3
          go_wp2_with fail
          go_ret
          exact ⟨rfl, HB3.out⟩
        have g4 : ¬ ((300 : Int) < ((LB tb).length : Int)) := by omega
        have L3 := Lib.hid (And.intro (Nat.le_of_not_lt l1) (Nat.le_of_not_lt l2))
        clear l1 l2
        go_enter Tryd.func10, Tryd.ntmps10
        go_wp2_with fail
        refine (awake11_calls w).mono ?_
        rintro e w1 ⟨rfl, hb⟩
        have HB1 := Lib.hid hb
        clear hb
        have ka := (HB1.out.cell (p := aa.add pa) (World.block_lt_of_cell? w _ HKa.out)).trans HKa.out
        go_wp2_with fail
        refine (HLA.out w1 HB1.out (by omega)).mono ?_
        rintro e w2 ⟨v2, rfl, ho2, hb2⟩
        obtain ⟨A2, c2, rfl⟩ := own_slice ho2
        have HB2 := Lib.hid (below_then HB1.out HB1.out.size hb2)
        clear ho2 hb2
        go_wp2_with fail
        refine (HLB.out w2 HB2.out (by omega)).mono ?_
        rintro e w3 ⟨v3, rfl, ho3, hb3⟩
        obtain ⟨A3, c3, rfl⟩ := own_slice ho3
        have HB3 := Lib.hid (below_then HB2.out HB2.out.size hb3)
        clear ho3 hb3
        go_wp2_with fail
        refine (HLA.out w3 HB3.out (by omega)).mono ?_
        rintro e w4 ⟨v4, rfl, ho4, hb4⟩
        obtain ⟨A4, c4, rfl⟩ := own_slice ho4
        have HB4 := Lib.hid (below_then HB3.out HB3.out.size hb4)
        have HO4 := Lib.hid ho4
        clear ho4 hb4
        go_wp2_with fail
        refine (HLB.out w4 HB4.out (by omega)).mono ?_
        rintro e w5 ⟨v5, rfl, ho5, hb5⟩
        obtain ⟨A5, c5, rfl⟩ := own_slice ho5
        have HB5 := Lib.hid (below_then HB4.out HB4.out.size hb5)
        have HX5 := Lib.hid (own_reads_of' (d := ByteArray.empty) (pw_own_below HO4.out hb5))
        have HY5 := Lib.hid (own_reads_of' (d := ByteArray.empty) ho5)
        clear ho5 hb5 HO4
        have n15 : ta.length ≤ 1500 := by have h := HNM.out.1; omega
        have m15 : tb.length ≤ 1500 := by have h := HNM.out.2; omega
        have HT5 := Lib.hid (text_calls w5 A4 c4 (LB ta) A5 c5 (LB tb) HX5.out HY5.out (by have := L3.out; omega) (by have := L3.out; omega) (fun s hs => Nat.le_trans (LB_size n15 s hs) (by decide)) (fun s hs => Nat.le_trans (LB_size m15 s hs) (by decide)))
        have HD5 := Lib.hid (fun W (hW : Below w5.heap.size w5 W) => rest_calls W A4 c4 (LB ta) A5 c5 (LB tb) (HX5.out.below hW) (HY5.out.below hW) (by have := L3.out; omega) (by have := L3.out; omega) (fun s hs => Nat.le_trans (LB_size n15 s hs) (by decide)) (fun s hs => Nat.le_trans (LB_size m15 s hs) (by decide)))
        obtain ⟨ls, hls, hgs, hsA, hsB, hch⟩ := whole_told ta tb HBY.out.1 HBY.out.2 HEa.out HEb.out
        have hts := textT_size ta tb n15 m15 L3.out.1 L3.out.2
        obtain ⟨T, hT⟩ : ∃ T : ByteArray, T = ⟨(textT (LB ta) (LB tb)).toArray⟩ := ⟨_, rfl⟩
        rw [← hT] at HT5
        have hTl : T.data.toList = textT (LB ta) (LB tb) := by rw [hT]
        rw [← hTl] at hls hts
        have hTs : T.size ≤ 2000000 := hts
        obtain ⟨D, hD⟩ : ∃ D, D = dist (txs (LB ta)) (txs (LB tb)) := ⟨_, rfl⟩
        rw [← hD] at HD5 hch
        have HSD := Lib.hid (fun W => sides_calls W T ls hTs hls hgs)
        rw [hsA, hsB] at HSD
        have HGS := Lib.hid hgs
        have HCH := Lib.hid hch
        have HLS := Lib.hid hls
        clear hls hgs hsA hsB hch hts hT hTl hD n15 m15
        go_wp2_with fail
        refine HT5.out.mono ?_
        rintro e w6 ⟨rfl, hb6⟩
        have HB6 := Lib.hid (below_then HB5.out HB5.out.size hb6)
        have HC6 := Lib.hid hb6
        clear hb6 HT5
        go_wp2_with fail
        refine (HD5.out w6 HC6.out).mono ?_
        rintro e w7 ⟨rfl, hb7⟩
        have HB7 := Lib.hid (below_then HB6.out HB6.out.size hb7)
        clear hb7 HD5 HC6 HX5 HY5
        go_wp2_with fail
        refine (HSD.out w7).mono ?_
        rintro e w8 ⟨rfl, hb8⟩
        have HB8 := Lib.hid (below_then HB7.out HB7.out.size hb8)
        clear hb8 HSD
        obtain ⟨cT, W9, hcv, hrd, hcc, hb9⟩ := bytes_of w8 T hTs
        have HRL := refLines_calls W9 (some ⟨w8.heap.size, 0, none⟩) cT (bi T.data.toList) (by rw [bi_len]; exact hrd) (by rw [bi_len]; exact hcc) (by rw [bi_len]; exact Nat.le_trans hTs (by decide))
        rw [bi_len, HLS.out] at HRL
        have HRL := Lib.hid HRL
        have HB9 := Lib.hid (below_then HB8.out HB8.out.size hb9)
        clear hrd hcc hb9
        go_wp2_with fail
        refine HRL.out.mono ?_
        rintro e wa ⟨va, rfl, hoa, hba⟩
        obtain ⟨Aa, cca, rfl⟩ := own_slice hoa
        have hll : (ls.map (fun h => bi (tlB h))).length = ls.length := List.length_map ..
        rw [hll] at hoa ⊢
        have HOa : Hid (ReadsOf (fun h => Value.string (lineB h)) (0, ByteArray.empty) wa Aa ls.length ls) := Lib.hid (by
          have e : (ls.map (fun h => bi (tlB h))).map strV = encs (fun h => Value.string (lineB h)) ls := by
            rw [List.map_map]
            unfold encs
            refine List.map_congr_left (fun h _ => ?_)
            show Value.string (strOfNums (bi (tlB h))) = _
            rw [lineB_bi]
          rw [e] at hoa
          exact own_reads_of' hoa)
        have HBa := Lib.hid (below_then HB9.out HB9.out.size hba)
        have hl20 : ls.length ≤ 2000000 := by
          have h1 := linesF_join (bi T.data.toList)
          rw [HLS.out] at h1
          have h2 := flat_len ls
          rw [h1, bi_len] at h2
          have h3 := len_flat ls
          have h4 : T.data.toList.length ≤ 2000000 := hTs
          omega
        clear hoa hba hll HRL hcv HLS hTs
        go_wp2_with fail
        go_loopw [99, 14] (fun v99 v14 wr => ∃ i : Nat, v99 = .int .i64 i ∧ i ≤ ls.length ∧ v14 = .int .i64 (chg (ls.take i) : Nat) ∧ Hid (∃ k, wr = wa.drewN k)) (fun v99 _ _ => ls.length - (intOf v99).toNat)
        case atStart => exact ⟨0, rfl, by omega, rfl, Lib.hid ⟨0, rfl⟩⟩
        case round =>
          obtain ⟨i, rfl, hi, rfl, hw⟩ := hrel
          by_cases hlt : i < ls.length
          · have i0 : (0 : Int) ≤ (i : Int) := by omega
            have i1 : (i : Int) < (ls.length : Int) := by omega
            have wi : IntKind.i64.wrap ((i : Int) + 1) = (i : Int) + 1 := by rw [IntKind.wrap_i64]; omega
            obtain ⟨ax, rfl, hcx⟩ := HOa.out.2.2 (by omega)
            have k1 := hcx i hlt
            obtain ⟨h, hh⟩ : ∃ h, h = ls.getD i (0, ByteArray.empty) := ⟨_, rfl⟩
            rw [← hh] at k1
            have hgt : ls.getD i (0, ByteArray.empty) = ls[i] := by rw [List.getD_eq_getElem?_getD, List.getElem?_eq_getElem hlt]; rfl
            have htk : ls.take (i + 1) = ls.take i ++ [h] := by rw [List.take_succ_eq_append_getElem hlt, hh, hgt]
            have k2 : wr.cell? (ax.add i) = some (.string (lineB h)) := by obtain ⟨k, rfl⟩ := hw.out; exact k1
            have hl2 := lineB_size h
            have z0' : 0 < (lineB h).size := by omega
            have s0' := lineB_0 h z0'
            have hcl : chg (ls.take i) ≤ 2000000 := Nat.le_trans (List.length_filter_le _ _) (by rw [List.length_take]; omega)
            have hcs : chg (ls.take (i + 1)) = chg (ls.take i) + (if h.1 = 32 then 0 else 1) := by
              rw [htk]
              unfold chg
              rw [List.filter_append, List.length_append]
              congr 1
              by_cases e : h.1 = 32 <;> simp [e]
            obtain ⟨C, hC⟩ : ∃ C, C = chg (ls.take i) := ⟨_, rfl⟩
            rw [← hC] at hcs hcl ⊢
            have HCS := Lib.hid hcs
            have wC : IntKind.i64.wrap ((C : Int) + 1) = (C : Int) + 1 := by rw [IntKind.wrap_i64]; omega
            obtain ⟨S, hS⟩ : ∃ S : ByteArray, lineB h = S ∧ ∃ z0 : 0 < S.size, S[0]'z0 = h.1 := ⟨lineB h, rfl, z0', s0'⟩
            obtain ⟨hS, z0, s0⟩ := hS
            rw [hS] at k2
            have z1 : (0 : Int) < (S.size : Int) := by omega
            clear hS s0' z0' hl2 hC hcs htk hgt hh hcx k1
            by_cases e : h.1 = 32
            · have b32 : (((S[0]'z0).toNat : Int) == 32) = true := by rw [s0, e]; rfl
              have HE := Lib.hid e
              clear e s0
              go_wp2_with fail
              go_roundw
              case rel => exact ⟨i + 1, by go_num, by omega, by rw [HCS.out, if_pos HE.out]; rfl, hw⟩
              case measure => simp only [intOf]; omega
            · have b32 : (((S[0]'z0).toNat : Int) == 32) = false := by
                rw [s0, beq_eq_false_iff_ne]
                exact fun h3 => e (UInt8.toNat_inj.1 (by have h4 : (32 : UInt8).toNat = 32 := rfl; omega))
              have HE := Lib.hid e
              clear e s0
              go_wp2_with fail
              go_roundw
              case rel => exact ⟨i + 1, by go_num, by omega, by rw [HCS.out, if_neg HE.out]; go_num, hw⟩
              case measure => simp only [intOf]; omega
          · obtain rfl : i = ls.length := by omega
            rw [List.take_length, HCH.out]
            obtain ⟨k, rfl⟩ := hw.out
            have HBk := Lib.hid (pw_below_drewN HBa.out k)
            have kcA := string_of_reads (P := Tryd.prog) (src := 22) (dst := 9) (c := ca) Tryd.underlying22 Tryd.underlying5 Tryd.underlying9 (HRA.out.below HBk.out)
            have kcB := string_of_reads (P := Tryd.prog) (src := 22) (dst := 9) (c := cb) Tryd.underlying22 Tryd.underlying5 Tryd.underlying9 (HRB.out.below HBk.out)
            generalize strOfNums ta = SA at *
            generalize strOfNums tb = SB at *
            go_wp2_with fail
            go_ret
            exact ⟨rfl, HBk.out⟩
      · obtain ⟨ab, rfl, hbc⟩ := last_cell HRB.out hb0
        have hE := ends_of (t := tb) HNM.out.2
        have qb0 : (0 : Int) < (m : Int) := by omega
        obtain ⟨pb, hpb⟩ : ∃ p, p = m - 1 := ⟨_, rfl⟩
        have wb : IntKind.i64.wrap ((m : Int) - 1) = (pb : Int) := by rw [IntKind.wrap_i64]; omega
        have qb1 : (0 : Int) ≤ (pb : Int) := by omega
        have qb2 : (pb : Int) < (m : Int) := by omega
        rw [← hpb] at hbc
        obtain ⟨lb, hlb⟩ : ∃ l, l = tb.getD pb 0 := ⟨_, rfl⟩
        rw [← hpb, ← hlb] at hE
        rw [← hlb] at hbc
        clear hpb hlb
        by_cases hlb : lb = 10
        · subst hlb
          have HEb := Lib.hid (hE (.inr rfl))
          have HKb := Lib.hid hbc
          clear hE hbc hb0
          by_cases l1 : 300 < (LB ta).length
          · have g3 : (300 : Int) < ((LB ta).length : Int) := by omega
            clear l1
            go_enter Tryd.func10, Tryd.ntmps10
            go_wp2_with fail
            refine (awake11_calls w).mono ?_
            rintro e w1 ⟨rfl, hb⟩
            have HB1 := Lib.hid hb
            clear hb
            have ka := (HB1.out.cell (p := aa.add pa) (World.block_lt_of_cell? w _ HKa.out)).trans HKa.out
            have kb := (HB1.out.cell (p := ab.add pb) (World.block_lt_of_cell? w _ HKb.out)).trans HKb.out
            go_wp2_with fail
            refine (HLA.out w1 HB1.out (by omega)).mono ?_
            rintro e w2 ⟨v2, rfl, ho2, hb2⟩
            obtain ⟨A2, c2, rfl⟩ := own_slice ho2
            have HB2 := Lib.hid (below_then HB1.out HB1.out.size hb2)
            clear ho2 hb2
            go_wp2_with fail
            go_ret
            exact ⟨rfl, HB2.out⟩
          have g3 : ¬ ((300 : Int) < ((LB ta).length : Int)) := by omega
          by_cases l2 : 300 < (LB tb).length
          · have g4 : (300 : Int) < ((LB tb).length : Int) := by omega
            have L1 := Lib.hid l1
            clear l1 l2
            go_enter Tryd.func10, Tryd.ntmps10
            go_wp2_with fail
            refine (awake11_calls w).mono ?_
            rintro e w1 ⟨rfl, hb⟩
            have HB1 := Lib.hid hb
            clear hb
            have ka := (HB1.out.cell (p := aa.add pa) (World.block_lt_of_cell? w _ HKa.out)).trans HKa.out
            have kb := (HB1.out.cell (p := ab.add pb) (World.block_lt_of_cell? w _ HKb.out)).trans HKb.out
            go_wp2_with fail
            refine (HLA.out w1 HB1.out (by omega)).mono ?_
            rintro e w2 ⟨v2, rfl, ho2, hb2⟩
            obtain ⟨A2, c2, rfl⟩ := own_slice ho2
            have HB2 := Lib.hid (below_then HB1.out HB1.out.size hb2)
            clear ho2 hb2
            go_wp2_with fail
            refine (HLB.out w2 HB2.out (by omega)).mono ?_
            rintro e w3 ⟨v3, rfl, ho3, hb3⟩
            obtain ⟨A3, c3, rfl⟩ := own_slice ho3
            have HB3 := Lib.hid (below_then HB2.out HB2.out.size hb3)
            clear ho3 hb3
            go_wp2_with fail
            go_ret
            exact ⟨rfl, HB3.out⟩
          have g4 : ¬ ((300 : Int) < ((LB tb).length : Int)) := by omega
          have L3 := Lib.hid (And.intro (Nat.le_of_not_lt l1) (Nat.le_of_not_lt l2))
          clear l1 l2
          go_enter Tryd.func10, Tryd.ntmps10
          go_wp2_with fail
          refine (awake11_calls w).mono ?_
          rintro e w1 ⟨rfl, hb⟩
          have HB1 := Lib.hid hb
          clear hb
          have ka := (HB1.out.cell (p := aa.add pa) (World.block_lt_of_cell? w _ HKa.out)).trans HKa.out
          have kb := (HB1.out.cell (p := ab.add pb) (World.block_lt_of_cell? w _ HKb.out)).trans HKb.out
          go_wp2_with fail
          refine (HLA.out w1 HB1.out (by omega)).mono ?_
          rintro e w2 ⟨v2, rfl, ho2, hb2⟩
          obtain ⟨A2, c2, rfl⟩ := own_slice ho2
          have HB2 := Lib.hid (below_then HB1.out HB1.out.size hb2)
          clear ho2 hb2
          go_wp2_with fail
          refine (HLB.out w2 HB2.out (by omega)).mono ?_
          rintro e w3 ⟨v3, rfl, ho3, hb3⟩
          obtain ⟨A3, c3, rfl⟩ := own_slice ho3
          have HB3 := Lib.hid (below_then HB2.out HB2.out.size hb3)
          clear ho3 hb3
          go_wp2_with fail
          refine (HLA.out w3 HB3.out (by omega)).mono ?_
          rintro e w4 ⟨v4, rfl, ho4, hb4⟩
          obtain ⟨A4, c4, rfl⟩ := own_slice ho4
          have HB4 := Lib.hid (below_then HB3.out HB3.out.size hb4)
          have HO4 := Lib.hid ho4
          clear ho4 hb4
          go_wp2_with fail
          refine (HLB.out w4 HB4.out (by omega)).mono ?_
          rintro e w5 ⟨v5, rfl, ho5, hb5⟩
          obtain ⟨A5, c5, rfl⟩ := own_slice ho5
          have HB5 := Lib.hid (below_then HB4.out HB4.out.size hb5)
          have HX5 := Lib.hid (own_reads_of' (d := ByteArray.empty) (pw_own_below HO4.out hb5))
          have HY5 := Lib.hid (own_reads_of' (d := ByteArray.empty) ho5)
          clear ho5 hb5 HO4
          have n15 : ta.length ≤ 1500 := by have h := HNM.out.1; omega
          have m15 : tb.length ≤ 1500 := by have h := HNM.out.2; omega
          have HT5 := Lib.hid (text_calls w5 A4 c4 (LB ta) A5 c5 (LB tb) HX5.out HY5.out (by have := L3.out; omega) (by have := L3.out; omega) (fun s hs => Nat.le_trans (LB_size n15 s hs) (by decide)) (fun s hs => Nat.le_trans (LB_size m15 s hs) (by decide)))
          have HD5 := Lib.hid (fun W (hW : Below w5.heap.size w5 W) => rest_calls W A4 c4 (LB ta) A5 c5 (LB tb) (HX5.out.below hW) (HY5.out.below hW) (by have := L3.out; omega) (by have := L3.out; omega) (fun s hs => Nat.le_trans (LB_size n15 s hs) (by decide)) (fun s hs => Nat.le_trans (LB_size m15 s hs) (by decide)))
          obtain ⟨ls, hls, hgs, hsA, hsB, hch⟩ := whole_told ta tb HBY.out.1 HBY.out.2 HEa.out HEb.out
          have hts := textT_size ta tb n15 m15 L3.out.1 L3.out.2
          obtain ⟨T, hT⟩ : ∃ T : ByteArray, T = ⟨(textT (LB ta) (LB tb)).toArray⟩ := ⟨_, rfl⟩
          rw [← hT] at HT5
          have hTl : T.data.toList = textT (LB ta) (LB tb) := by rw [hT]
          rw [← hTl] at hls hts
          have hTs : T.size ≤ 2000000 := hts
          obtain ⟨D, hD⟩ : ∃ D, D = dist (txs (LB ta)) (txs (LB tb)) := ⟨_, rfl⟩
          rw [← hD] at HD5 hch
          have HSD := Lib.hid (fun W => sides_calls W T ls hTs hls hgs)
          rw [hsA, hsB] at HSD
          have HGS := Lib.hid hgs
          have HCH := Lib.hid hch
          have HLS := Lib.hid hls
          clear hls hgs hsA hsB hch hts hT hTl hD n15 m15
          go_wp2_with fail
          refine HT5.out.mono ?_
          rintro e w6 ⟨rfl, hb6⟩
          have HB6 := Lib.hid (below_then HB5.out HB5.out.size hb6)
          have HC6 := Lib.hid hb6
          clear hb6 HT5
          go_wp2_with fail
          refine (HD5.out w6 HC6.out).mono ?_
          rintro e w7 ⟨rfl, hb7⟩
          have HB7 := Lib.hid (below_then HB6.out HB6.out.size hb7)
          clear hb7 HD5 HC6 HX5 HY5
          go_wp2_with fail
          refine (HSD.out w7).mono ?_
          rintro e w8 ⟨rfl, hb8⟩
          have HB8 := Lib.hid (below_then HB7.out HB7.out.size hb8)
          clear hb8 HSD
          obtain ⟨cT, W9, hcv, hrd, hcc, hb9⟩ := bytes_of w8 T hTs
          have HRL := refLines_calls W9 (some ⟨w8.heap.size, 0, none⟩) cT (bi T.data.toList) (by rw [bi_len]; exact hrd) (by rw [bi_len]; exact hcc) (by rw [bi_len]; exact Nat.le_trans hTs (by decide))
          rw [bi_len, HLS.out] at HRL
          have HRL := Lib.hid HRL
          have HB9 := Lib.hid (below_then HB8.out HB8.out.size hb9)
          clear hrd hcc hb9
          go_wp2_with fail
          refine HRL.out.mono ?_
          rintro e wa ⟨va, rfl, hoa, hba⟩
          obtain ⟨Aa, cca, rfl⟩ := own_slice hoa
          have hll : (ls.map (fun h => bi (tlB h))).length = ls.length := List.length_map ..
          rw [hll] at hoa ⊢
          have HOa : Hid (ReadsOf (fun h => Value.string (lineB h)) (0, ByteArray.empty) wa Aa ls.length ls) := Lib.hid (by
            have e : (ls.map (fun h => bi (tlB h))).map strV = encs (fun h => Value.string (lineB h)) ls := by
              rw [List.map_map]
              unfold encs
              refine List.map_congr_left (fun h _ => ?_)
              show Value.string (strOfNums (bi (tlB h))) = _
              rw [lineB_bi]
            rw [e] at hoa
            exact own_reads_of' hoa)
          have HBa := Lib.hid (below_then HB9.out HB9.out.size hba)
          have hl20 : ls.length ≤ 2000000 := by
            have h1 := linesF_join (bi T.data.toList)
            rw [HLS.out] at h1
            have h2 := flat_len ls
            rw [h1, bi_len] at h2
            have h3 := len_flat ls
            have h4 : T.data.toList.length ≤ 2000000 := hTs
            omega
          clear hoa hba hll HRL hcv HLS hTs
          go_wp2_with fail
          go_loopw [99, 14] (fun v99 v14 wr => ∃ i : Nat, v99 = .int .i64 i ∧ i ≤ ls.length ∧ v14 = .int .i64 (chg (ls.take i) : Nat) ∧ Hid (∃ k, wr = wa.drewN k)) (fun v99 _ _ => ls.length - (intOf v99).toNat)
          case atStart => exact ⟨0, rfl, by omega, rfl, Lib.hid ⟨0, rfl⟩⟩
          case round =>
            obtain ⟨i, rfl, hi, rfl, hw⟩ := hrel
            by_cases hlt : i < ls.length
            · have i0 : (0 : Int) ≤ (i : Int) := by omega
              have i1 : (i : Int) < (ls.length : Int) := by omega
              have wi : IntKind.i64.wrap ((i : Int) + 1) = (i : Int) + 1 := by rw [IntKind.wrap_i64]; omega
              obtain ⟨ax, rfl, hcx⟩ := HOa.out.2.2 (by omega)
              have k1 := hcx i hlt
              obtain ⟨h, hh⟩ : ∃ h, h = ls.getD i (0, ByteArray.empty) := ⟨_, rfl⟩
              rw [← hh] at k1
              have hgt : ls.getD i (0, ByteArray.empty) = ls[i] := by rw [List.getD_eq_getElem?_getD, List.getElem?_eq_getElem hlt]; rfl
              have htk : ls.take (i + 1) = ls.take i ++ [h] := by rw [List.take_succ_eq_append_getElem hlt, hh, hgt]
              have k2 : wr.cell? (ax.add i) = some (.string (lineB h)) := by obtain ⟨k, rfl⟩ := hw.out; exact k1
              have hl2 := lineB_size h
              have z0' : 0 < (lineB h).size := by omega
              have s0' := lineB_0 h z0'
              have hcl : chg (ls.take i) ≤ 2000000 := Nat.le_trans (List.length_filter_le _ _) (by rw [List.length_take]; omega)
              have hcs : chg (ls.take (i + 1)) = chg (ls.take i) + (if h.1 = 32 then 0 else 1) := by
                rw [htk]
                unfold chg
                rw [List.filter_append, List.length_append]
                congr 1
                by_cases e : h.1 = 32 <;> simp [e]
              obtain ⟨C, hC⟩ : ∃ C, C = chg (ls.take i) := ⟨_, rfl⟩
              rw [← hC] at hcs hcl ⊢
              have HCS := Lib.hid hcs
              have wC : IntKind.i64.wrap ((C : Int) + 1) = (C : Int) + 1 := by rw [IntKind.wrap_i64]; omega
              obtain ⟨S, hS⟩ : ∃ S : ByteArray, lineB h = S ∧ ∃ z0 : 0 < S.size, S[0]'z0 = h.1 := ⟨lineB h, rfl, z0', s0'⟩
              obtain ⟨hS, z0, s0⟩ := hS
              rw [hS] at k2
              have z1 : (0 : Int) < (S.size : Int) := by omega
              clear hS s0' z0' hl2 hC hcs htk hgt hh hcx k1
              by_cases e : h.1 = 32
              · have b32 : (((S[0]'z0).toNat : Int) == 32) = true := by rw [s0, e]; rfl
                have HE := Lib.hid e
                clear e s0
                go_wp2_with fail
                go_roundw
                case rel => exact ⟨i + 1, by go_num, by omega, by rw [HCS.out, if_pos HE.out]; rfl, hw⟩
                case measure => simp only [intOf]; omega
              · have b32 : (((S[0]'z0).toNat : Int) == 32) = false := by
                  rw [s0, beq_eq_false_iff_ne]
                  exact fun h3 => e (UInt8.toNat_inj.1 (by have h4 : (32 : UInt8).toNat = 32 := rfl; omega))
                have HE := Lib.hid e
                clear e s0
                go_wp2_with fail
                go_roundw
                case rel => exact ⟨i + 1, by go_num, by omega, by rw [HCS.out, if_neg HE.out]; go_num, hw⟩
                case measure => simp only [intOf]; omega
            · obtain rfl : i = ls.length := by omega
              rw [List.take_length, HCH.out]
              obtain ⟨k, rfl⟩ := hw.out
              have HBk := Lib.hid (pw_below_drewN HBa.out k)
              have kcA := string_of_reads (P := Tryd.prog) (src := 22) (dst := 9) (c := ca) Tryd.underlying22 Tryd.underlying5 Tryd.underlying9 (HRA.out.below HBk.out)
              have kcB := string_of_reads (P := Tryd.prog) (src := 22) (dst := 9) (c := cb) Tryd.underlying22 Tryd.underlying5 Tryd.underlying9 (HRB.out.below HBk.out)
              generalize strOfNums ta = SA at *
              generalize strOfNums tb = SB at *
              go_wp2_with fail
              go_ret
              exact ⟨rfl, HBk.out⟩
        · have HKb := Lib.hid hbc
          clear hE hbc hb0
          go_enter Tryd.func10, Tryd.ntmps10
          go_wp2_with fail
          refine (awake11_calls w).mono ?_
          rintro e w1 ⟨rfl, hb⟩
          have HB1 := Lib.hid hb
          clear hb
          have ka := (HB1.out.cell (p := aa.add pa) (World.block_lt_of_cell? w _ HKa.out)).trans HKa.out
          have kb := (HB1.out.cell (p := ab.add pb) (World.block_lt_of_cell? w _ HKb.out)).trans HKb.out
          go_wp2_with fail
          go_ret
          exact ⟨rfl, HB1.out⟩
    · have HKa := Lib.hid hac
      clear hE hac ha0
      go_enter Tryd.func10, Tryd.ntmps10
      go_wp2_with fail
      refine (awake11_calls w).mono ?_
      rintro e w1 ⟨rfl, hb⟩
      have HB1 := Lib.hid hb
      clear hb
      have ka := (HB1.out.cell (p := aa.add pa) (World.block_lt_of_cell? w _ HKa.out)).trans HKa.out
      go_wp2_with fail
      go_ret
      exact ⟨rfl, HB1.out⟩
end Go.Proofs.YtmnpcignolofaaaDoor
