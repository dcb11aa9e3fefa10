/- delta.Make answers what 'makeF' makes. -/
import Derived.Test.YtiocipmnmjpkfaaHMakeI
namespace Go.Proofs.Ytiocipmnmjpkfaa
set_option linter.unusedVariables false
set_option linter.unusedSimpArgs false
open Go.RowKit Go.Proofs.YtiocipmnmjpkfaaW.PrintWords Go.Proofs.YtiocipmnmjpkfaaW.PrintMore

set_option maxRecDepth 8000 in
set_option maxHeartbeats 40000000 in
theorem make_calls (Ab At : Option Addr) (cb ct : Nat) (base target : List Int) (w : World) (hmb : base.length ≤ 1048576) (hmt : target.length ≤ 1048576) (hcb : base.length ≤ cb) (hct : target.length ≤ ct) (hrb : ReadsInt w .u8 Ab base.length base) (hrt : ReadsInt w .u8 At target.length target)
    (hbb : ∀ x ∈ base, 0 ≤ x ∧ x < 256) (hbt : ∀ x ∈ target, 0 ≤ x ∧ x < 256) :
    Calls Try.prog 41 #[.slice Ab base.length cb, .slice At target.length ct] w fun e w' => ∃ v, e = .returned (.tuple #[v, .int .i64 0]) ∧ Bs 5 w' w.heap.size v (makeF base target) ∧ Below w.heap.size w w' := by
  have HRB := Lib.hid hrb
  have HRT := Lib.hid hrt
  have HBB := Lib.hid hbb
  have HBT := Lib.hid hbt
  have HMB := Lib.hid (show base.length ≤ 1048576 ∧ target.length ≤ 1048576 from ⟨hmb, hmt⟩)
  have HCC := Lib.hid (show base.length ≤ cb ∧ target.length ≤ ct from ⟨hcb, hct⟩)
  have HP1 := Lib.hid (putSize_calls none 0 [] (base.length : Int) w ⟨rfl, by simp, fun h => absurd h (by simp)⟩ (by simp) (by omega) (by omega))
  have hmm := @run_makeMap Try.prog
  have d1 : decide ((1048576 : Int) < (base.length : Int)) = false := decide_eq_false (by omega)
  have d2 : decide ((1048576 : Int) < (target.length : Int)) = false := decide_eq_false (by omega)
  have lb1 : (base.length : Int) ≤ 1048576 := by omega
  have lt1 : (target.length : Int) ≤ 1048576 := by omega
  obtain ⟨i0, hi0, hz0, hz1, hz2⟩ := info_parts infoU8
  clear hrb hrt hbb hbt hmb hmt hcb hct
  go_enter Try.func41, Try.ntmps41
  go_wp2_with fail
  refine HP1.out.mono ?_
  rintro e w1 ⟨v1, rfl, ho1, hb1⟩
  obtain ⟨A1, n1, c1, rfl, HO1, HN1⟩ := Bs.open_ ho1
  have hl1 : (sizeL 10 (base.length : Int)).length = n1 := by simpa using HN1.out.symm
  have hs1 := sizeL_len 10 (base.length : Int)
  have HP2 := Lib.hid (putSize_calls A1 c1 (sizeL 10 (base.length : Int)) (target.length : Int) w1 (by rw [hl1]; exact own_reads' (by simpa using HO1.out)) (by omega) (by omega) (by omega))
  rw [hl1] at HP2
  clear hl1 hs1 HP1 ho1
  go_wp2_with fail
  refine HP2.out.mono ?_
  rintro e w2 ⟨v2, rfl, ho2, hb2⟩
  obtain ⟨A2, n2, c2, rfl, HO2, HN2⟩ := Bs.open_ ho2
  have HO := Lib.hid ho2
  have HB12 := Lib.hid (hb1.trans (hb2.mono hb1.size))
  have hsz1 := hb1.size
  have hsz2 := hb2.size
  clear HP2 ho2 hb1 hb2 HO1 HN1
  go_wp2_with fail
  have hM3 : Mkr ((w2.alloc (.cells #[.slice A2 n2 c2, .slice none 0 0] 69)).alloc (.map #[] 0)) w2.heap.size (.slice A2 n2 c2) (.slice none 0 0) := (Below.heap_alloc _ _ _ (by simp)).trans (heap_alloc_new w2 _)
  have hO3 : Bs 5 ((w2.alloc (.cells #[.slice A2 n2 c2, .slice none 0 0] 69)).alloc (.map #[] 0)) w.heap.size (.slice A2 n2 c2) (sizeL 10 base.length ++ sizeL 10 target.length) := own_weaken (pw_own_below HO.out (below_alloc (below_alloc (Below.refl _ _) _) _)) (by omega)
  have hB3 : Below w.heap.size w ((w2.alloc (.cells #[.slice A2 n2 c2, .slice none 0 0] 69)).alloc (.map #[] 0)) := (HB12.out.alloc (by omega) _).alloc (by simp; omega) _
  have hK3 : ((w2.alloc (.cells #[.slice A2 n2 c2, .slice none 0 0] 69)).alloc (.map #[] 0)).ownsMap (H := Unit) Try.prog 71 (plainElem Try.prog 3) (w2.heap.size + 1) 0 (.map []) := by
    have := World.ownsMap_made (H := Unit) (w2.alloc (.cells #[.slice A2 n2 c2, .slice none 0 0] 69)) Try.prog 71 (plainElem Try.prog 3)
    rwa [World.size_alloc] at this
  have hsz3 : ((w2.alloc (.cells #[.slice A2 n2 c2, .slice none 0 0] 69)).alloc (.map #[] 0)).heap.size = w2.heap.size + 2 := by simp
  generalize hW3 : (w2.alloc (.cells #[.slice A2 n2 c2, .slice none 0 0] 69)).alloc (.map #[] 0) = W3 at *
  obtain ⟨M, hMg⟩ : ∃ M, M = w2.heap.size + 1 := ⟨_, rfl⟩
  rw [← hMg] at hK3
  try rw [← hMg]
  generalize hg : w2.heap.size = g at *
  have hgw : w.heap.size ≤ g := by omega
  have hszw : w.heap.size ≤ W3.heap.size := by omega
  have HM3 := Lib.hid hM3
  have HO3 := Lib.hid hO3
  have HB3 := Lib.hid hB3
  have HK3 := Lib.hid hK3
  have HZ := Lib.hid (show g = w2.heap.size ∧ W3.heap.size = g + 2 ∧ M = g + 1 from ⟨hg.symm, hsz3, hMg⟩)
  have z16 := (zero_of_info info16).1
  clear hM3 hO3 hB3 hW3 HO HB12 hmm HO2 hK3 d1 d2 hsz1 hsz2 hMg hsz3 hg
  have HI16 : Hid ((Try.prog.info? 71).map (·.size) = some 16) := Lib.hid (zero_of_info info16).2
  go_loopw [8] (fun iv wr => ∃ (r q : Nat), q = 16 * r ∧ iv = .int .i64 q ∧ q ≤ base.length ∧ Hid (∃ (D : DataW Unit) (k : Nat), wr.ownsMap Try.prog 71 (plainElem Try.prog 3) M k D ∧ k ≤ r ∧ MapIs D base r) ∧ Hid (GB M W3.heap.size W3 wr)) (fun iv _ => base.length - (intOf iv).toNat)
  case atStart => exact ⟨0, 0, rfl, rfl, Nat.zero_le _, Lib.hid ⟨_, 0, HK3.out, Nat.le_refl _, MapIs.empty base⟩, GB.refl _ _ _⟩
  case round =>
    obtain ⟨r, q, hq, rfl, hqb, HD, HS⟩ := hrel
    have hq1 : (q : Int) ≤ 1048576 := by omega
    have HQ := Lib.hid hq
    clear hq
    by_cases hin : q + 16 ≤ base.length
    · have i1 : (q : Int) + 16 ≤ (base.length : Int) := by omega
      obtain ⟨A', hcut, hcr⟩ := cut_mid (P := Try.prog) 22 5 Try.underlying22 hi0 hz1 Ab base.length cb q (q + 16) (by omega) hin HCC.out.1
      have hcut1 := hcut (q : Int) ((q : Int) + 16) rfl (by omega)
      have hrd := hcr w .u8 base HRB.out
      rw [show q + 16 - q = 16 from by omega] at hcut1 hrd
      have hrw : ReadsInt wr .u8 A' 16 ((base.drop q).take 16) := hrd.below (HB3.out.trans (HS.out.to (by have := HZ.out; omega) hszw))
      obtain ⟨ad, rfl, hcell⟩ := hrw.2.2 (by omega)
      have hpl := pieceAt_len base q hin
      have HCL : Hid (∀ j v, (nums .u8 (pieceAt base q))[j]? = some v → wr.cell? (ad.add j) = some v) := Lib.hid (ReadsInt.cells (k := .u8) (l := pieceAt base q) (by rw [hpl]; exact hrw) ad rfl)
      have hlen16 : (nums .u8 (pieceAt base q)).length = 16 := by simpa [nums] using hpl
      obtain ⟨kl, hkl⟩ := key_of (pieceAt base q) hpl (pieceAt_bytes HBB.out q)
      have HKL := Lib.hid hkl
      have HONE := Lib.hid (all_oneCell_toArray (cs := nums .u8 (pieceAt base q)) (by intro u hu; simp only [nums, List.mem_map] at hu; obtain ⟨z, _, rfl⟩ := hu; rfl))
      have HL16 := Lib.hid hlen16
      obtain ⟨D, k, hown, hkr, hD⟩ := HD.out
      have HOWN := Lib.hid (hown.alloc (.cells (nums .u8 (pieceAt base q)).toArray 71))
      have HDD := Lib.hid hD
      have HKM := Lib.hid (show k < maxLen by have := HQ.out; unfold maxLen; omega)
      have hsz := HS.out.size
      clear hcut hcr hrd hrw hcell hkl hlen16 hpl hown hD
      cases hf : firstAt base r (pieceAt base q) with
      | none =>
        have HF := Lib.hid hf
        have hmiss : Maps.has D kl = false := by rw [HDD.out.has _ _ HKL.out, hf]; rfl
        clear hf
        go_wp2_with (first
          | (refine wpList_toArray rfl 71 _ rfl (some ad) 16 (cb - q) 16 5 rfl Try.underlying71 (Nat.le_refl _) ?_)
          | (refine wpList_load_ad rfl 71 _ rfl ad rfl (nums .u8 (pieceAt base q)) _ HCL.out Try.underlying71 rfl (by rw [HL16.out]; exact HI16.out) ?_)
          | (refine wpList_store_new rfl 71 _ _ rfl _ (nums .u8 (pieceAt base q)).toArray rfl rfl (by rw [List.size_toArray, HL16.out]; exact HI16.out) (show (16 : Nat) = _ from by rw [List.size_toArray, HL16.out]) HONE.out ?_)
          | (refine wpList_load_new rfl 71 _ rfl (nums .u8 (pieceAt base q)).toArray 16 5 rfl Try.underlying71 (by rw [List.size_toArray, HL16.out]; exact HI16.out) ?_)
          | (at_lookup; refine wpList_lookup_own_ok_int _ rfl _ _ 70 rfl 71 3 .i64 lawK16 Try.underlying70 Try.underlying3 (zeroInt _) M k D rfl HOWN.out _ kl rfl HKL.out ?_; intro cL hat hwc; rw [hmiss])
          | (at_mapUpdate; go_must (refine wpList_mapUpdate_own _ rfl _ _ _ 70 rfl 71 3 lawK16 Try.underlying70 _ M k D rfl HOWN.out HKM.out _ _ kl rfl rfl HKL.out _ [] (plainElem_int Try.underlying3 (WalkArith.wf_i64 (by omega))) ?_); intro w5 hown5 hgrow5; have HOWN5 := Lib.hid hown5; have HGR5 := Lib.hid hgrow5; clear hown5 hgrow5))
        go_roundw
        case rel =>
          have hq := HQ.out
          refine ⟨r + 1, q + 16, by omega, by go_num, hin, Lib.hid ⟨_, k + 1, HOWN5.out, by omega, ?_⟩, Lib.hid ((HS.out.alloc (Nat.le_refl _) _).grownAt (Nat.le_refl _) HGR5.out)⟩
          have h := MapIs.put (r := r) HDD.out (by rw [← hq]; exact HKL.out) (by rw [← hq]; exact HF.out)
          rwa [← hq] at h
        case measure => simp [intOf]; omega
      | some j =>
        have HF := Lib.hid hf
        have hmiss : Maps.has D kl = true := by rw [HDD.out.has _ _ HKL.out, hf]; rfl
        clear hf
        go_wp2_with (first
          | (refine wpList_toArray rfl 71 _ rfl (some ad) 16 (cb - q) 16 5 rfl Try.underlying71 (Nat.le_refl _) ?_)
          | (refine wpList_load_ad rfl 71 _ rfl ad rfl (nums .u8 (pieceAt base q)) _ HCL.out Try.underlying71 rfl (by rw [HL16.out]; exact HI16.out) ?_)
          | (refine wpList_store_new rfl 71 _ _ rfl _ (nums .u8 (pieceAt base q)).toArray rfl rfl (by rw [List.size_toArray, HL16.out]; exact HI16.out) (show (16 : Nat) = _ from by rw [List.size_toArray, HL16.out]) HONE.out ?_)
          | (refine wpList_load_new rfl 71 _ rfl (nums .u8 (pieceAt base q)).toArray 16 5 rfl Try.underlying71 (by rw [List.size_toArray, HL16.out]; exact HI16.out) ?_)
          | (at_lookup; refine wpList_lookup_own_ok_int _ rfl _ _ 70 rfl 71 3 .i64 lawK16 Try.underlying70 Try.underlying3 (zeroInt _) M k D rfl HOWN.out _ kl rfl HKL.out ?_; intro cL hat hwc; rw [hmiss]; clear hat hwc))
        go_roundw
        case rel =>
          have hq := HQ.out
          refine ⟨r + 1, q + 16, by omega, by go_num, hin, Lib.hid ⟨D, k, HOWN.out, by omega, MapIs.skip (j := j) HDD.out (by rw [← hq]; exact HF.out)⟩, Lib.hid (HS.out.alloc (Nat.le_refl _) _)⟩
        case measure => simp [intOf]; omega
    · have i1 : ¬ (q : Int) + 16 ≤ (base.length : Int) := by omega
      have hr16 : r = base.length / 16 := by have := HQ.out; omega
      have HI2 : Hid (Mst w g M base (.slice A2 n2 c2) (.slice none 0 0) (sizeL 10 base.length ++ sizeL 10 target.length) [] wr) := Lib.hid (by
        have hz := HZ.out
        obtain ⟨D, k, hown, _, hD⟩ := HD.out
        have hMg : g ≠ M := by omega
        have e1 : ∀ i, i < W3.heap.size → i ≠ M → wr.heap[i]? = W3.heap[i]? := HS.out.keep
        refine ⟨(e1 g (by omega) hMg).trans HM3.out, own_move HO3.out (fun k hk => e1 k (own_lt HO3.out k hk) fun e => ?_), own_nil _ _ _ _, fun k _ e => by simp [Value.ownBlock] at e, ⟨D, k, hown, by rw [← hr16]; exact hD⟩, HB3.out.trans (HS.out.to (by omega) hszw), hgw, by omega⟩
        exact map_ne_row HK3.out HO3.out (by rw [hk, show k = M from e]))
      have HDL : Hid ((sizeL 10 (base.length : Int) ++ sizeL 10 (target.length : Int)).length ≤ 20) := Lib.hid (by
        have h1 := sizeL_len 10 (base.length : Int)
        have h2 := sizeL_len 10 (target.length : Int)
        rw [List.length_append]
        omega)
      clear HD HS hr16 hqb HQ HM3 HO3 HB3 HK3 z16
      go_wp2_with fail
      go_loopw [12] (fun iv wr => ∃ (i : Nat) (dv hv : Value) (d held : List Int), iv = .int .i64 i ∧ i ≤ target.length ∧ Hid (held.length ≤ i ∧ d.length + 2 * held.length ≤ 20 + 2 * i) ∧ Hid (Mst w g M base dv hv d held wr) ∧ Hid (d ++ mkF base target i held = makeF base target)) (fun iv _ => target.length - (intOf iv).toNat)
      case atStart => exact ⟨0, _, _, _, [], rfl, Nat.zero_le _, Lib.hid ⟨Nat.le_refl _, by have := HDL.out; simp only [List.length_nil]; omega⟩, HI2, Lib.hid rfl⟩
      case round =>
        clear HI2 HDL
        obtain ⟨i, dv, hv, d, held, rfl, hi, HL, HM, HF⟩ := hrel
        have hi1 : (i : Int) ≤ 1048576 := by omega
        obtain ⟨Ad, nd, cd, rfl, HD', HND⟩ := Bs.open_ HM.out.d
        obtain ⟨Ah, nh, ch, rfl, HH', HNH⟩ := Bs.open_ HM.out.h
        by_cases hlt : i < target.length
        · have i1 : (i : Int) < (target.length : Int) := by omega
          by_cases hin : i + 16 ≤ target.length
          · have i2 : (i : Int) + 16 ≤ (target.length : Int) := by omega
            obtain ⟨A', hcut, hcr⟩ := cut_mid (P := Try.prog) 22 5 Try.underlying22 hi0 hz1 At target.length ct i (i + 16) (by omega) hin HCC.out.2
            have hcut1 := hcut (i : Int) ((i : Int) + 16) rfl (by omega)
            have hrd := hcr w .u8 target HRT.out
            rw [show i + 16 - i = 16 from by omega] at hcut1 hrd
            have hrw : ReadsInt wr .u8 A' 16 ((target.drop i).take 16) := hrd.below HM.out.below
            obtain ⟨ad, rfl, hcell⟩ := hrw.2.2 (by omega)
            have hpl := pieceAt_len target i hin
            have HCL : Hid (∀ j v, (nums .u8 (pieceAt target i))[j]? = some v → wr.cell? (ad.add j) = some v) := Lib.hid (ReadsInt.cells (k := .u8) (l := pieceAt target i) (by rw [hpl]; exact hrw) ad rfl)
            have hlen16 : (nums .u8 (pieceAt target i)).length = 16 := by simpa [nums] using hpl
            obtain ⟨kl, hkl⟩ := key_of (pieceAt target i) hpl (pieceAt_bytes HBT.out i)
            have HKL := Lib.hid hkl
            have HL16 := Lib.hid hlen16
            obtain ⟨D, k, hown, hD⟩ := HM.out.map
            have HOWN := Lib.hid hown
            have HDD := Lib.hid hD
            clear hcut hcr hrd hrw hcell hkl hlen16 hpl hown hD
            cases hf : firstAt base (base.length / 16) (pieceAt target i) with
            | none =>
              have hmiss : Maps.has D kl = false := by rw [HDD.out.has _ _ HKL.out, hf]; rfl
              have HHIT := Lib.hid (show (hitAt base target i).2 < 16 by unfold hitAt; rw [if_pos hin, hf]; exact (by decide : (0 : Nat) < 16))
              clear hf
              go_wp2_with (first
                | (refine wpList_toArray rfl 71 _ rfl (some ad) 16 (ct - i) 16 5 rfl Try.underlying71 (Nat.le_refl _) ?_)
                | (refine wpList_load_ad rfl 71 _ rfl ad rfl (nums .u8 (pieceAt target i)) _ HCL.out Try.underlying71 rfl (by rw [HL16.out]; exact HI16.out) ?_)
                | (at_lookup; refine wpList_lookup_own_ok_int _ rfl _ _ 70 rfl 71 3 .i64 lawK16 Try.underlying70 Try.underlying3 (zeroInt _) M k D rfl HOWN.out _ kl rfl HKL.out ?_; intro cL hat hwc; rw [hmiss]; clear hat hwc))
              clear hcut1 HCL HKL HL16 HOWN HDD hmiss
              have HNX := Lib.hid (mkF_hold base target held i hlt HHIT.out)
              have c1 := HM.out.mkr.c1
              have f1 := HM.out.mkr.f 1
              obtain ⟨ad, rfl, hcell⟩ := (HRT.out.below HM.out.below).2.2 (by omega)
              have hct := hcell i hlt
              clear hcell
              generalize target.getD i 0 = x at hct HNX
              have hnh : nh ≤ 1048576 := by have h1 := HNH.out; have h2 := HL.out; omega
              have hsw := HM.out.below.size
              have hgl := blk_lt HM.out.mkr
              have HOA := Lib.hid (show (wr.alloc (.cells #[.int .u8 x] 5)).drew.ownsRow w.heap.size 5 1 (.slice Ah nh ch) nh (nums .u8 held) from by have h := (show wr.ownsRow w.heap.size 5 1 (.slice Ah nh ch) held.length (nums .u8 held) from HM.out.h).alloc (.cells #[.int .u8 x] 5); rw [← HNH.out] at h; exact h)
              have HNA := Lib.hid (show ∀ j u, [Value.int .u8 x][j]? = some u → (wr.alloc (.cells #[.int .u8 x] 5)).drew.cell? ((⟨wr.heap.size, 0, none⟩ : Addr).add j) = some u from World.news_of_block (w := (wr.alloc (.cells #[.int .u8 x] 5)).drew) (cs := #[.int .u8 x]) (heap_alloc_new wr _))
              go_wp2_with fail
              go_region_law (refine step_append_lies _ (by rfl) (.tmp 97) (.tmp 102) 22 (by rfl) w.heap.size 5 i0 (.int .u8 0) 1 1 Try.underlying22 hi0 hz0 hz1 hz2 rfl (by omega) (.slice Ah nh ch) nh _ (by rfl) HOA.out ⟨wr.heap.size, 0, none⟩ 1 1 [.int .u8 x] (by rfl) rfl HNA.out (by intro u hu; simp at hu; subst hu; rfl) (by omega) (by simp only [maxLen]; omega) (by omega) (by simp; omega) (wr.heap.size + 1) (by simp) ?_; intro g2 cap w4 hown4 hgrow hat hlt2; have hb4 : Mkr w4 g (.slice Ad nd cd) (.slice Ah nh ch) := (hgrow.block g (by simp; exact Nat.lt_succ_of_lt (blk_lt HM.out.mkr)) (fun e => HM.out.mkr.ne HM.out.h e.symm)).trans ((Below.heap_alloc wr _ g (blk_lt HM.out.mkr)).trans HM.out.mkr); have k1 := hb4.c1; have j1 := hb4.f 1; have HM4 := Lib.hid (HM.out.hold HNH.out hown4 hgrow hat); clear hb4 hown4 hgrow hat hlt2)
              all_goals
                go_wp2_with fail
                go_roundw
                case rel => exact ⟨i + 1, _, _, d, held ++ [x], by go_num, hlt, Lib.hid (by have h := HL.out; rw [List.length_append]; simp only [List.length_singleton]; omega), HM4, Lib.hid (by rw [← HNX.out]; exact HF.out)⟩
                case measure => simp [intOf]; omega
            | some j =>
              have hmiss : Maps.has D kl = true := by rw [HDD.out.has _ _ HKL.out, hf]; rfl
              have HAT := Lib.hid (HDD.out.at_ _ _ _ HKL.out hf)
              have HHIT := Lib.hid (show hitAt base target i = (j, sameL (base.drop j) (target.drop i)) by unfold hitAt; rw [if_pos hin, hf])
              have HJ := Lib.hid (show j + 16 ≤ base.length by have := firstAt_lt _ _ _ _ hf; omega)
              clear hf
              go_wp2_with (first
                | (refine wpList_toArray rfl 71 _ rfl (some ad) 16 (ct - i) 16 5 rfl Try.underlying71 (Nat.le_refl _) ?_)
                | (refine wpList_load_ad rfl 71 _ rfl ad rfl (nums .u8 (pieceAt target i)) _ HCL.out Try.underlying71 rfl (by rw [HL16.out]; exact HI16.out) ?_)
                | (at_lookup; refine wpList_lookup_own_ok_int _ rfl _ _ 70 rfl 71 3 .i64 lawK16 Try.underlying70 Try.underlying3 (zeroInt _) M k D rfl HOWN.out _ kl rfl HKL.out ?_; intro cL hat hwc; rw [hmiss]; obtain rfl : cL = (j : Int) := (by have h := hat.symm.trans (HAT.out _); injection h with h; injection h); clear hat hwc))
              clear hcut1 HCL HKL HL16 HOWN HDD hmiss HAT
              obtain ⟨Ab', hcutb, hcrb⟩ := cut_endk .i64 22 5 Try.underlying22 hi0 hz1 Ab base.length cb (j : Int) j rfl (by have := HJ.out; omega) HCC.out.1
              obtain ⟨At', hcutt, hcrt⟩ := cut_endk .i64 22 5 Try.underlying22 hi0 hz1 At target.length ct (i : Int) i rfl (by omega) HCC.out.2
              have HRb := Lib.hid (hcrb wr .u8 base (HRB.out.below HM.out.below))
              have HRt := Lib.hid (hcrt wr .u8 target (HRT.out.below HM.out.below))
              have HLE := Lib.hid (by have h := hitAt_le base target i; rw [HHIT.out] at h; exact h)
              have HSM := Lib.hid (fun m => by
                have h := same_calls Ab' At' (cb - j) (ct - i) (base.drop j) (target.drop i) (wr.drewN m) (by rw [List.length_drop]; exact reads_drewN HRb.out m) (by rw [List.length_drop]; exact reads_drewN HRt.out m) (by have := HMB.out; rw [List.length_drop]; omega) (by have := HMB.out; rw [List.length_drop]; omega)
                rw [List.length_drop, List.length_drop] at h
                exact Calls.quiet_of h)
              clear hcrb hcrt
              generalize sameL (base.drop j) (target.drop i) = n at HHIT HLE HSM
              go_quiet (exact HSM.out _)
              have HMq := Lib.hid (HM.out.drewN nq)
              clear HH' HD' HM
              generalize wr.drewN nq = wx at HMq ⊢
              have HM := HMq
              clear HMq
              have in1 : (n : Int) ≤ 1048576 := by have h1 := HLE.out; have h2 := HMB.out; simp only at h1; omega
              by_cases hn16 : n < 16
              · have in2 : (n : Int) < 16 := by omega
                have HHIT := Lib.hid (show (hitAt base target i).2 < 16 by rw [HHIT.out]; exact hn16)
                clear HSM hcutb hcutt HRb HRt HLE
                have HNX := Lib.hid (mkF_hold base target held i hlt HHIT.out)
                have c1 := HM.out.mkr.c1
                have f1 := HM.out.mkr.f 1
                obtain ⟨ad, rfl, hcell⟩ := (HRT.out.below HM.out.below).2.2 (by omega)
                have hct := hcell i hlt
                clear hcell
                generalize target.getD i 0 = x at hct HNX
                have hnh : nh ≤ 1048576 := by have h1 := HNH.out; have h2 := HL.out; omega
                have hsw := HM.out.below.size
                have hgl := blk_lt HM.out.mkr
                have HOA := Lib.hid (show (wx.alloc (.cells #[.int .u8 x] 5)).drew.ownsRow w.heap.size 5 1 (.slice Ah nh ch) nh (nums .u8 held) from by have h := (show wx.ownsRow w.heap.size 5 1 (.slice Ah nh ch) held.length (nums .u8 held) from HM.out.h).alloc (.cells #[.int .u8 x] 5); rw [← HNH.out] at h; exact h)
                have HNA := Lib.hid (show ∀ j u, [Value.int .u8 x][j]? = some u → (wx.alloc (.cells #[.int .u8 x] 5)).drew.cell? ((⟨wx.heap.size, 0, none⟩ : Addr).add j) = some u from World.news_of_block (w := (wx.alloc (.cells #[.int .u8 x] 5)).drew) (cs := #[.int .u8 x]) (heap_alloc_new wx _))
                go_wp2_with fail
                go_region_law (refine step_append_lies _ (by rfl) (.tmp 97) (.tmp 102) 22 (by rfl) w.heap.size 5 i0 (.int .u8 0) 1 1 Try.underlying22 hi0 hz0 hz1 hz2 rfl (by omega) (.slice Ah nh ch) nh _ (by rfl) HOA.out ⟨wx.heap.size, 0, none⟩ 1 1 [.int .u8 x] (by rfl) rfl HNA.out (by intro u hu; simp at hu; subst hu; rfl) (by omega) (by simp only [maxLen]; omega) (by omega) (by simp; omega) (wx.heap.size + 1) (by simp) ?_; intro g2 cap w4 hown4 hgrow hat hlt2; have hb4 : Mkr w4 g (.slice Ad nd cd) (.slice Ah nh ch) := (hgrow.block g (by simp; exact Nat.lt_succ_of_lt (blk_lt HM.out.mkr)) (fun e => HM.out.mkr.ne HM.out.h e.symm)).trans ((Below.heap_alloc wx _ g (blk_lt HM.out.mkr)).trans HM.out.mkr); have k1 := hb4.c1; have j1 := hb4.f 1; have HM4 := Lib.hid (HM.out.hold HNH.out hown4 hgrow hat); clear hb4 hown4 hgrow hat hlt2)
                all_goals
                  go_wp2_with fail
                  go_roundw
                  case rel => exact ⟨i + 1, _, _, d, held ++ [x], by go_num, hlt, Lib.hid (by have h := HL.out; rw [List.length_append]; simp only [List.length_singleton]; omega), HM4, Lib.hid (by rw [← HNX.out]; exact HF.out)⟩
                  case measure => simp [intOf]; omega
              ·
                have HNX := mkF_copy base target held i hlt (by rw [HHIT.out]; exact hn16)
                rw [HHIT.out] at HNX
                rw [HNX] at HF
                have hn16 : ¬ (n : Int) < 16 := by omega
                clear HHIT HSM HNX hcutb hcutt HRb HRt
                go_wp2_with fail
                go_loopw [12, 13, 14] (fun iv av nv wz => ∃ (i1 a n1 : Nat) (hv : Value) (h2 : List Int), iv = .int .i64 i1 ∧ av = .int .i64 a ∧ nv = .int .i64 n1 ∧ Hid (16 ≤ n1 ∧ i1 + n1 = i + n ∧ i + n ≤ target.length ∧ a + n1 ≤ base.length ∧ h2.length ≤ i1 ∧ d.length + 2 * h2.length ≤ 20 + 2 * i1 ∧ i1 ≤ i) ∧ Hid (Mst w g M base (.slice Ad nd cd) hv d h2 wz) ∧ Hid (outF base held j n = outF base h2 a n1)) (fun _ av _ _ => (intOf av).toNat)
                case atStart => exact ⟨i, j, n, _, held, rfl, rfl, rfl, Lib.hid (by have h1 := HL.out; have h2 := HLE.out; exact ⟨by omega, rfl, h2.2 hlt, h2.1, h1.1, h1.2, Nat.le_refl _⟩), HM, Lib.hid rfl⟩
                case round =>
                  clear HM
                  obtain ⟨i1, a, n1, hv, h2, rfl, rfl, rfl, HE, HM2, HX⟩ := hrel
                  have ia1 : (a : Int) ≤ 1048576 := by have h1 := HE.out; have h3 := HMB.out; omega
                  have in1 : (n1 : Int) ≤ 1048576 := by have h1 := HE.out; have h3 := HMB.out; omega
                  have ii1 : (i1 : Int) ≤ 1048576 := by have h1 := HE.out; have h3 := HMB.out; omega
                  obtain ⟨Ah2, nh2, ch2, rfl, HH2, HN2⟩ := Bs.open_ HM2.out.h
                  have c1 := HM2.out.mkr.c1
                  have f1 := HM2.out.mkr.f 1
                  rename World => wz
                  rcases List.eq_nil_or_concat h2 with rfl | ⟨h3, x, hx⟩
                  · obtain rfl : nh2 = 0 := HN2.out
                    rw [outF_nil] at HX
                    go_wp2_with fail
                    go_quiet (fail)
                    have HMq := Lib.hid (HM2.out.drewN nq)
                    generalize wz.drewN nq = wy at HMq ⊢
                    have hHE := HE.out
                    have HCP := Lib.hid (HMq.out.copyC HN2.out (a := a) (n := n1) (by have := HMB.out; omega) (by have := HMB.out; omega) (by have := HMB.out; omega) (by omega) (by have := HMB.out; omega))
                    clear hHE
                    go_wp2_with fail
                    refine HCP.out.mono ?_
                    rintro e w5 ⟨rfl, dv5, hm5⟩
                    have HM5 := Lib.hid hm5
                    clear hm5
                    go_wp2_with fail
                    go_roundw
                    case rel =>
                      have hHE := HE.out
                      have hfl := flushL_len ([])
                      have hcl := copyL_len ((a : Nat) : Int) n1
                      exact ⟨i + n, dv5, _, d ++ flushL ([]) ++ copyL ((a : Nat) : Int) n1, [], by first | go_num | (congr 1; omega), by omega, Lib.hid (by rw [List.length_append, List.length_append]; simp only [List.length_nil]; omega), HM5, Lib.hid (by rw [List.append_assoc d, ← HX.out, List.append_assoc]; exact HF.out)⟩
                    case measure => have hHE := HE.out; simp [intOf]; omega
                  · rw [List.concat_eq_append] at hx
                    subst hx
                    obtain ⟨m, hm⟩ : ∃ m, m = h3.length := ⟨_, rfl⟩
                    have hnm : nh2 = m + 1 := by rw [HN2.out, hm]; simp
                    have HNM := Lib.hid hnm
                    have HMM := Lib.hid hm
                    have g1i : (0 : Int) < (nh2 : Int) := by omega
                    have g1n : 0 < nh2 := by omega
                    have mh : (nh2 : Int) ≤ 1048577 := by have h1 := HE.out; have h4 := HMB.out; have h5 := HN2.out; omega
                    by_cases ha : a = 0
                    · subst ha
                      rw [outF_zero] at HX
                      clear hnm hm
                      go_wp2_with fail
                      go_quiet (fail)
                      have HMq := Lib.hid (HM2.out.drewN nq)
                      generalize wz.drewN nq = wy at HMq ⊢
                      have hHE := HE.out
                      have HCP := Lib.hid (HMq.out.copyC HN2.out (a := 0) (n := n1) (by have := HMB.out; omega) (by have := HMB.out; omega) (by have := HMB.out; omega) (by omega) (by have := HMB.out; omega))
                      clear hHE
                      go_wp2_with fail
                      refine HCP.out.mono ?_
                      rintro e w5 ⟨rfl, dv5, hm5⟩
                      have HM5 := Lib.hid hm5
                      clear hm5
                      go_wp2_with fail
                      go_roundw
                      case rel =>
                        have hHE := HE.out
                        have hfl := flushL_len (h3 ++ [x])
                        have hcl := copyL_len ((0 : Nat) : Int) n1
                        exact ⟨i + n, dv5, _, d ++ flushL (h3 ++ [x]) ++ copyL ((0 : Nat) : Int) n1, [], by first | go_num | (congr 1; omega), by omega, Lib.hid (by rw [List.length_append, List.length_append]; simp only [List.length_nil]; omega), HM5, Lib.hid (by rw [List.append_assoc d, ← HX.out, List.append_assoc]; exact HF.out)⟩
                      case measure => have hHE := HE.out; simp [intOf]; omega
                    · obtain ⟨a1, ha1⟩ : ∃ a1, a = a1 + 1 := ⟨a - 1, by omega⟩
                      have HA := Lib.hid ha1
                      have g2i : (0 : Int) < (a : Int) := by omega
                      have g2n : 0 < a := by omega
                      have wn : IntKind.i64.wrap ((nh2 : Int) - 1) = (m : Int) := by rw [IntKind.wrap_i64]; omega
                      have wa : IntKind.i64.wrap ((a : Int) - 1) = (a1 : Int) := by rw [IntKind.wrap_i64]; omega
                      have m0 : (0 : Int) ≤ (m : Int) := by omega
                      have m1 : (m : Int) < (nh2 : Int) := by omega
                      have a0 : (0 : Int) ≤ (a1 : Int) := by omega
                      have a2 : (a1 : Int) < (base.length : Int) := by have h1 := HE.out; omega
                      have hrh : ReadsInt wz .u8 Ah2 nh2 (h3 ++ [x]) := own_reads' HH2.out
                      obtain ⟨adh, rfl, hch⟩ := hrh.2.2 g1n
                      have k1 : wz.cell? (adh.add m) = some (.int .u8 x) := by
                        have h := hch m (by omega)
                        rwa [show (h3 ++ [x]).getD m 0 = x from by rw [hm]; simp] at h
                      obtain ⟨bd, rfl, hcb⟩ := (HRB.out.below HM2.out.below).2.2 (by omega)
                      have k2 := hcb a1 (by omega)
                      clear hch hcb hrh
                      by_cases hxy : x = base.getD a1 0
                      · have HX2 : Hid (outF base held j n = outF base h3 a1 (n1 + 1)) := Lib.hid (by rw [HX.out, ha1, outF_yes base h3 x a1 n1 hxy])
                        rw [← hxy] at k2
                        have hq : (x == x) = true := by simp
                        have hcut := cut_to (P := Try.prog) 22 5 .i64 Try.underlying22 hi0 (some adh) nh2 ch2 (m : Int) (by omega) (by omega) (own_cap HH2.out).1
                        rw [Int.toNat_natCast] at hcut
                        clear hnm hm ha ha1 hxy
                        go_wp2_with fail
                        go_quiet (fail)
                        have HMq := Lib.hid (HM2.out.drewN nq)
                        clear HM2 HH2 c1 f1 k1 k2
                        generalize wz.drewN nq = wy at HMq ⊢
                        have c1 := HMq.out.mkr.c1
                        have f1 := HMq.out.mkr.f 1
                        have HBK : Hid (Mst w g M base (.slice Ad nd cd) (.slice (some adh) m ch2) d h3 (wy.setCell ⟨g, 1, none⟩ (.slice (some adh) m ch2))) := Lib.hid (by
                          have h := HMq.out
                          rw [HNM.out] at h
                          exact h.back HMM.out)
                        go_wp2_with fail
                        go_still_tail 14, (by kernel_rfl)
                        go_wp2_with fail
                        go_roundw
                        case rel =>
                          have hHE := HE.out
                          have hA := HA.out
                          simp only [List.length_append, List.length_singleton] at hHE
                          exact ⟨i1 - 1, a1, n1 + 1, _, h3, by first | go_num | (congr 1; omega), by first | go_num | (congr 1; omega), by first | go_num | (congr 1; omega), Lib.hid (by omega), Lib.hid HBK.out.drew, HX2⟩
                        case measure =>
                          have hA := HA.out
                          simp [intOf]
                          omega
                      · have HX2 : Hid (outF base held j n = flushL (h3 ++ [x]) ++ copyL a n1) := Lib.hid (by rw [HX.out, ha1, outF_no base h3 x a1 n1 hxy])
                        clear HX
                        have HX := HX2
                        clear HX2
                        have hq : (x == base.getD a1 0) = false := by simpa using hxy
                        generalize base.getD a1 0 = y at k2 hq
                        clear hnm hm ha ha1 hxy
                        go_wp2_with fail
                        go_quiet (fail)
                        have HMq := Lib.hid (HM2.out.drewN nq)
                        generalize wz.drewN nq = wy at HMq ⊢
                        have hHE := HE.out
                        have HCP := Lib.hid (HMq.out.copyC HN2.out (a := a) (n := n1) (by have := HMB.out; omega) (by have := HMB.out; omega) (by have := HMB.out; omega) (by omega) (by have := HMB.out; omega))
                        clear hHE
                        go_wp2_with fail
                        refine HCP.out.mono ?_
                        rintro e w5 ⟨rfl, dv5, hm5⟩
                        have HM5 := Lib.hid hm5
                        clear hm5
                        go_wp2_with fail
                        go_roundw
                        case rel =>
                          have hHE := HE.out
                          have hfl := flushL_len (h3 ++ [x])
                          have hcl := copyL_len ((a : Nat) : Int) n1
                          exact ⟨i + n, dv5, _, d ++ flushL (h3 ++ [x]) ++ copyL ((a : Nat) : Int) n1, [], by first | go_num | (congr 1; omega), by omega, Lib.hid (by rw [List.length_append, List.length_append]; simp only [List.length_nil]; omega), HM5, Lib.hid (by rw [List.append_assoc d, ← HX.out, List.append_assoc]; exact HF.out)⟩
                        case measure => have hHE := HE.out; simp [intOf]; omega
          · have i2 : ¬ (i : Int) + 16 ≤ (target.length : Int) := by omega
            have HHIT := Lib.hid (show (hitAt base target i).2 < 16 by unfold hitAt; rw [if_neg hin]; exact (by decide : (0 : Nat) < 16))
            have HNX := Lib.hid (mkF_hold base target held i hlt HHIT.out)
            have c1 := HM.out.mkr.c1
            have f1 := HM.out.mkr.f 1
            obtain ⟨ad, rfl, hcell⟩ := (HRT.out.below HM.out.below).2.2 (by omega)
            have hct := hcell i hlt
            clear hcell
            generalize target.getD i 0 = x at hct HNX
            have hnh : nh ≤ 1048576 := by have h1 := HNH.out; have h2 := HL.out; omega
            have hsw := HM.out.below.size
            have hgl := blk_lt HM.out.mkr
            have HOA := Lib.hid (show (wr.alloc (.cells #[.int .u8 x] 5)).drew.ownsRow w.heap.size 5 1 (.slice Ah nh ch) nh (nums .u8 held) from by have h := (show wr.ownsRow w.heap.size 5 1 (.slice Ah nh ch) held.length (nums .u8 held) from HM.out.h).alloc (.cells #[.int .u8 x] 5); rw [← HNH.out] at h; exact h)
            have HNA := Lib.hid (show ∀ j u, [Value.int .u8 x][j]? = some u → (wr.alloc (.cells #[.int .u8 x] 5)).drew.cell? ((⟨wr.heap.size, 0, none⟩ : Addr).add j) = some u from World.news_of_block (w := (wr.alloc (.cells #[.int .u8 x] 5)).drew) (cs := #[.int .u8 x]) (heap_alloc_new wr _))
            go_wp2_with fail
            go_region_law (refine step_append_lies _ (by rfl) (.tmp 97) (.tmp 102) 22 (by rfl) w.heap.size 5 i0 (.int .u8 0) 1 1 Try.underlying22 hi0 hz0 hz1 hz2 rfl (by omega) (.slice Ah nh ch) nh _ (by rfl) HOA.out ⟨wr.heap.size, 0, none⟩ 1 1 [.int .u8 x] (by rfl) rfl HNA.out (by intro u hu; simp at hu; subst hu; rfl) (by omega) (by simp only [maxLen]; omega) (by omega) (by simp; omega) (wr.heap.size + 1) (by simp) ?_; intro g2 cap w4 hown4 hgrow hat hlt2; have hb4 : Mkr w4 g (.slice Ad nd cd) (.slice Ah nh ch) := (hgrow.block g (by simp; exact Nat.lt_succ_of_lt (blk_lt HM.out.mkr)) (fun e => HM.out.mkr.ne HM.out.h e.symm)).trans ((Below.heap_alloc wr _ g (blk_lt HM.out.mkr)).trans HM.out.mkr); have k1 := hb4.c1; have j1 := hb4.f 1; have HM4 := Lib.hid (HM.out.hold HNH.out hown4 hgrow hat); clear hb4 hown4 hgrow hat hlt2)
            all_goals
              go_wp2_with fail
              go_roundw
              case rel => exact ⟨i + 1, _, _, d, held ++ [x], by go_num, hlt, Lib.hid (by have h := HL.out; rw [List.length_append]; simp only [List.length_singleton]; omega), HM4, Lib.hid (by rw [← HNX.out]; exact HF.out)⟩
              case measure => simp [intOf]; omega
        · have i1 : ¬ (i : Int) < (target.length : Int) := by omega
          have HNX := Lib.hid (mkF_end base target held i hlt)
          have HFL := Lib.hid (HM.out.flushC HNH.out (by have h1 := HL.out; have h2 := HMB.out; omega) (by have h1 := HL.out; have h2 := HMB.out; omega))
          go_wp2_with fail
          refine HFL.out.mono ?_
          rintro e w5 ⟨rfl, A5, m5, c5, hm5, ho5, hb5⟩
          have k5 := hm5.c0
          have HO5 := Lib.hid ho5
          have HB5 := Lib.hid hb5
          clear hm5 ho5 hb5
          go_wp2_with fail
          go_ret2
          exact ⟨_, rfl, by rw [← HF.out, HNX.out]; exact HO5.out, HB5.out⟩
end Go.Proofs.Ytiocipmnmjpkfaa
