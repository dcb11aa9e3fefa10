/- diff.Text: walked. -/
import Derived.Test.YtmnpcignolofaaaDoorHTextP
import Derived.Test.YtmnpcignolofaaaDoorHBld
namespace Go.Proofs.YtmnpcignolofaaaDoor
set_option linter.unusedVariables false
set_option linter.unusedSimpArgs false
open Go.RowKit Go.Proofs.YtmnpcignolofaaaDoorW.PrintWords Go.Proofs.YtmnpcignolofaaaDoorW.PrintMore
theorem ext_1 (g : UInt8) (s : ByteArray) : ((⟨#[g]⟩ : ByteArray) ++ s).extract 1 (1 + s.size) = s := by
  apply ByteArray.ext
  rw [ByteArray.data_extract, ByteArray.data_append]
  apply Array.ext'
  simp
  rw [← data_length, List.take_length]
theorem str_cells (s : ByteArray) : Lib.strCells s = Lib.byteCells s.data.toList := rfl
theorem byte_cells (x y : List UInt8) : Lib.byteCells (x ++ y) = Lib.byteCells x ++ Lib.byteCells y := by simp [Lib.byteCells]
theorem line_1 (g : UInt8) (s : ByteArray) (h : Lib.hasSuffix s.data.toList [10] = true) : ((⟨#[g]⟩ : ByteArray) ++ s).data.toList = tl g s.data.toList := by
  unfold tl
  rw [h, ByteArray.data_append]
  simp
theorem line_2 (g : UInt8) (s : ByteArray) (h : Lib.hasSuffix s.data.toList [10] = false) : ((⟨#[g]⟩ : ByteArray) ++ s ++ ⟨#[10, 92, 10]⟩).data.toList = tl g s.data.toList := by
  unfold tl
  rw [h, ByteArray.data_append, ByteArray.data_append]
  simp
set_option maxHeartbeats 2000000 in
theorem text_long (w : World) (A : Option Addr) (ca n : Nat) (B : Option Addr) (cb m : Nat) (h : 1000 < n ∨ 1000 < m) (hn : n ≤ 9223372036854775807) (hm : m ≤ 9223372036854775807) :
    Calls Tryd.prog 16 #[.slice A n ca, .slice B m cb] w fun e w' => e = .returned (.tuple #[.string ⟨#[]⟩, .int .i64 2]) ∧ w' = w := by
  have HL := Lib.hid (way_long w A ca n B cb m h hn hm)
  clear h
  go_enter Tryd.func16, Tryd.ntmps16
  go_wp2_with fail
  refine HL.out.mono ?_
  rintro e w1 ⟨rfl, rfl⟩
  go_wp2_with fail
  go_ret2
  exact ⟨rfl, rfl⟩
set_option maxRecDepth 20000 in
set_option maxHeartbeats 40000000 in
theorem text_calls (w : World) (A : Option Addr) (ca : Nat) (a : List ByteArray) (B : Option Addr) (cb : Nat) (b : List ByteArray) (hla : ReadsOf Value.string ByteArray.empty w A a.length a) (hlb : ReadsOf Value.string ByteArray.empty w B b.length b)
    (hna : a.length ≤ 1000) (hnb : b.length ≤ 1000) (hsa : ∀ s ∈ a, s.size ≤ 1048576) (hsb : ∀ s ∈ b, s.size ≤ 1048576) :
    Calls Tryd.prog 16 #[.slice A a.length ca, .slice B b.length cb] w fun e w' => e = .returned (.tuple #[.string ⟨(textT a b).toArray⟩, .int .i64 0]) ∧ Below w.heap.size w w' := by
  have HLA := Lib.hid hla
  have HLB := Lib.hid hlb
  have HSA : Hid (∀ i, (a.getD i ByteArray.empty).size ≤ 1048576) := Lib.hid fun i => getD_size hsa i
  have HSB : Hid (∀ i, (b.getD i ByteArray.empty).size ≤ 1048576) := Lib.hid fun i => getD_size hsb i
  have HW := Lib.hid (diffWay_calls w A ca a B cb b hla hlb hna hnb (fun s hs => Nat.le_trans (hsa s hs) (by decide)) (fun s hs => Nat.le_trans (hsb s hs) (by decide)))
  have hPl := wayP_len a b
  have HT := Lib.hid (two_at a b)
  unfold textT
  obtain ⟨P, hP⟩ : ∃ P, P = wayP a b := ⟨_, rfl⟩
  rw [← hP] at HW hPl HT ⊢
  obtain ⟨m, hm⟩ : ∃ m, m = P.length := ⟨_, rfl⟩
  rw [← hm] at HW hPl ⊢
  have HM := Lib.hid hm
  have HF : Hid (∀ j, j ≤ 3000 → (textF a b P j).length ≤ 1099511627776) := Lib.hid fun j hj => Nat.le_trans (textF_len a b 1048576 hsa hsb P j) (by omega)
  obtain ⟨n, hn⟩ : ∃ n, n = m - 1 := ⟨_, rfl⟩
  have wn : IntKind.i64.wrap ((m : Int) - 1) = (n : Int) := by rw [IntKind.wrap_i64]; omega
  have HN1 := Lib.hid hn
  rw [← hn]
  clear hla hlb hsa hsb hP hm hn
  go_enter Tryd.func16, Tryd.ntmps16
  go_wp2_with fail
  refine HW.out.mono ?_
  rintro e w2 ⟨v, rfl, hv, hb⟩
  obtain ⟨W0, cw, rfl⟩ := own_slice hv
  have hr := own_reads_of' (d := (0, 0)) hv
  obtain ⟨ax, rfl, hcx0⟩ := hr.2.2 (by omega)
  have HR := Lib.hid hr
  have HB := Lib.hid hb
  have HBL0 := Lib.hid (Lib.fresh_isBuilder 67 5 w2)
  have HBB0 := Lib.hid (below_alloc (Below.refl _ w2) (.cells #[.pointer none, .slice none 0 0] 67))
  clear hv hb hr HW hcx0
  go_wp2_with fail
  go_loopw [25] (fun v25 wr => ∃ j : Nat, v25 = .int .i64 j ∧ j ≤ n ∧ Hid (Lib.IsBuilder 67 5 w2.heap.size w2.heap.size (Lib.byteCells (textF a b P j)) wr) ∧ Hid (Below w2.heap.size w2 wr)) (fun v25 _ => n - (intOf v25).toNat)
  case atStart => exact ⟨0, rfl, by omega, HBL0, HBB0⟩
  case round =>
    obtain ⟨j, rfl, hj, hbl, hbel⟩ := hrel
    have hP1 := hPl.1
    have hnm := HN1.out
    by_cases hlt : j < n
    · obtain ⟨x, y, dx, dy, t⟩ := HT.out j (by rw [← HM.out]; omega)
      have HBW : Hid (Below w.heap.size w wr) := Lib.hid (below_then HB.out HB.out.size hbel.out)
      obtain ⟨ax', hAx, hcx⟩ := (HR.out.below hbel.out).2.2 (by omega)
      obtain rfl := Option.some.inj hAx
      obtain ⟨i, hi⟩ : ∃ i, i = j + 1 := ⟨_, rfl⟩
      have k1 : wr.cell? (ax.add j) = some (.complex .f64 (fl x) (fl y)) := by have h := hcx j (by omega); rw [t.p] at h; exact h
      have k2 : wr.cell? (ax.add i) = some (.complex .f64 (fl (x + dx)) (fl (y + dy))) := by have h := hcx i (by omega); rw [hi, t.q, ← hi] at h; exact h
      have wj : IntKind.i64.wrap ((j : Int) + 1) = (i : Int) := by rw [IntKind.wrap_i64]; omega
      have j0 : (0 : Int) ≤ (j : Int) := by omega
      have j1 : (j : Int) < (m : Int) := by omega
      have j2 : (j : Int) < (n : Int) := by omega
      have i0 : (0 : Int) ≤ (i : Int) := by omega
      have i1 : (i : Int) < (m : Int) := by omega
      have hsub := cx_sub x y dx dy (by have := t.hx; omega) (by have := t.hy; omega) t.d1 t.d2
      have hd : (dx = 1 ∧ dy = 1) ∨ (dx = 1 ∧ dy = 0) ∨ (dx = 0 ∧ dy = 1) := by have := t.one; have := t.d1; have := t.d2; omega
      have HPJ : Hid (P.getD j (0, 0) = (x, y)) := Lib.hid t.p
      have HQ : Hid (P.getD (j + 1) (0, 0) = (x + dx, y + dy)) := Lib.hid t.q
      have HX : Hid (x + dx ≤ a.length) := Lib.hid t.hx
      have HY : Hid (y + dy ≤ b.length) := Lib.hid t.hy
      have hxb : x ≤ 1000 := by have := t.hx; omega
      have hyb : y ≤ 1000 := by have := t.hy; omega
      have HI := Lib.hid hi
      generalize fl (x + dx) = X1 at k2 hsub
      generalize fl (y + dy) = Y1 at k2 hsub
      clear t hlt hi hcx hAx hnm
      rcases hd with ⟨rfl, rfl⟩ | ⟨rfl, rfl⟩ | ⟨rfl, rfl⟩
      · rw [fl_1] at hsub
        have kk1 := k11_11
        have gd1 := eq_guardC .eql (.tmp 45) (.const (.complex .f64 4607182418800017408 4607182418800017408)) 4607182418800017408 4607182418800017408 4607182418800017408 4607182418800017408
        have hin : x < a.length := by have := HX.out; have := HY.out; omega
        obtain ⟨ad, hAs, hcs⟩ := (HLA.out.below HBW.out).2.2 (by omega)
        have ks := hcs x hin
        have HPC : Hid (textF a b P (j + 1) = textF a b P j ++ tl 32 (a.getD x ByteArray.empty).data.toList) := Lib.hid (by
          show _ ++ piece a b (P.getD j (0, 0)) (P.getD (j + 1) (0, 0)) = _
          rw [HPJ.out, HQ.out]
          simp [piece])
        have hsz := HSA.out x
        generalize a.getD x ByteArray.empty = s at ks HPC hsz
        have x0 : (0 : Int) ≤ (x : Int) := by omega
        have x1 : (x : Int) < (a.length : Int) := by omega
        subst hAs
        clear hcs hin
        go_wp2_with fail
        refine (parts_calls x y (by omega) (by omega) wr).mono ?_
        rintro e w5 ⟨rfl, rfl⟩
        go_wp2_with fail
        go_quiet (fail)
        have HBL : Hid (Lib.IsBuilder 67 5 w2.heap.size w2.heap.size (Lib.byteCells (textF a b P j)) (w5.drewN nq)) := Lib.hid hbl.out
        have HBE := Lib.hid (pw_below_drewN hbel.out nq)
        have KS : (w5.drewN nq).cell? (ad.add x) = some (.string s) := ks
        clear k1 k2 ks HBW hbl hbel
        generalize w5.drewN nq = w6 at *
        have hno : ¬ 9223372036854775807 < 1 + s.size := by omega
        go_wp2_with fail
        rw [ext_1]
        refine (has_suffix s ⟨#[10]⟩ w6 (by omega)).mono ?_
        rintro e w7 ⟨rfl, rfl⟩
        obtain ⟨F, hF⟩ : ∃ F, F = Lib.hasSuffix s.data.toList [10] := ⟨_, rfl⟩
        change Hid _ at HPC
        rw [show Lib.hasSuffix s.data.toList (ByteArray.data ⟨#[10]⟩).toList = F from hF.symm]
        have HFF := Lib.hid hF
        clear hF
        have hb1 := HF.out j (by omega)
        cases F
        · have hno2 : ¬ 9223372036854775807 < 1 + s.size + 3 := by omega
          have hsl : ((⟨#[32]⟩ : ByteArray) ++ s ++ ⟨#[10, 92, 10]⟩).size = 1 + s.size + 3 := by rw [ByteArray.size_append, ByteArray.size_append]; rfl
          have HWR := Lib.hid (bld_write w2.heap.size w2.heap.size (Lib.byteCells (textF a b P j)) (⟨#[32]⟩ ++ s ++ ⟨#[10, 92, 10]⟩) w7 HBL.out (by rw [Lib.byteCells_length, hsl]; omega) HBE.out.size)
          clear hsl
          go_wp2_with fail
          refine HWR.out.mono ?_
          rintro e w8 ⟨rfl, hat, hb8⟩
          have HBL8 : Hid (Lib.IsBuilder 67 5 w2.heap.size w2.heap.size (Lib.byteCells (textF a b P (j + 1))) w8) := Lib.hid (.inr (by rw [HPC.out, byte_cells, ← line_2 32 s HFF.out.symm, ← str_cells]; exact hat))
          have HB8 := Lib.hid (HBE.out.trans hb8)
          clear hat hb8 HWR
          go_wp2_with fail
          have hi := HI.out
          go_roundw
          case rel => exact ⟨j + 1, by go_num, by omega, HBL8, HB8⟩
          case measure => simp [intOf]; omega
        · have hsl : ((⟨#[32]⟩ : ByteArray) ++ s).size = 1 + s.size := by rw [ByteArray.size_append]; rfl
          have HWR := Lib.hid (bld_write w2.heap.size w2.heap.size (Lib.byteCells (textF a b P j)) (⟨#[32]⟩ ++ s) w7 HBL.out (by rw [Lib.byteCells_length, hsl]; omega) HBE.out.size)
          clear hsl
          go_wp2_with fail
          refine HWR.out.mono ?_
          rintro e w8 ⟨rfl, hat, hb8⟩
          have HBL8 : Hid (Lib.IsBuilder 67 5 w2.heap.size w2.heap.size (Lib.byteCells (textF a b P (j + 1))) w8) := Lib.hid (.inr (by rw [HPC.out, byte_cells, ← line_1 32 s HFF.out.symm, ← str_cells]; exact hat))
          have HB8 := Lib.hid (HBE.out.trans hb8)
          clear hat hb8 HWR
          go_wp2_with fail
          have hi := HI.out
          go_roundw
          case rel => exact ⟨j + 1, by go_num, by omega, HBL8, HB8⟩
          case measure => simp [intOf]; omega

      · rw [fl_1, fl_0] at hsub
        have kk1 := k10_11
        have kk2 := k10_10
        have gd1 := eq_guardC .eql (.tmp 45) (.const (.complex .f64 4607182418800017408 4607182418800017408)) 4607182418800017408 0 4607182418800017408 4607182418800017408
        have gd2 := eq_guardC .eql (.tmp 45) (.const (.complex .f64 4607182418800017408 0)) 4607182418800017408 0 4607182418800017408 0
        have hin : x < a.length := by have := HX.out; have := HY.out; omega
        obtain ⟨ad, hAs, hcs⟩ := (HLA.out.below HBW.out).2.2 (by omega)
        have ks := hcs x hin
        have HPC : Hid (textF a b P (j + 1) = textF a b P j ++ tl 45 (a.getD x ByteArray.empty).data.toList) := Lib.hid (by
          show _ ++ piece a b (P.getD j (0, 0)) (P.getD (j + 1) (0, 0)) = _
          rw [HPJ.out, HQ.out]
          simp [piece])
        have hsz := HSA.out x
        generalize a.getD x ByteArray.empty = s at ks HPC hsz
        have x0 : (0 : Int) ≤ (x : Int) := by omega
        have x1 : (x : Int) < (a.length : Int) := by omega
        subst hAs
        clear hcs hin
        go_wp2_with fail
        refine (parts_calls x y (by omega) (by omega) wr).mono ?_
        rintro e w5 ⟨rfl, rfl⟩
        go_wp2_with fail
        go_quiet (fail)
        have HBL : Hid (Lib.IsBuilder 67 5 w2.heap.size w2.heap.size (Lib.byteCells (textF a b P j)) (w5.drewN nq)) := Lib.hid hbl.out
        have HBE := Lib.hid (pw_below_drewN hbel.out nq)
        have KS : (w5.drewN nq).cell? (ad.add x) = some (.string s) := ks
        clear k1 k2 ks HBW hbl hbel
        generalize w5.drewN nq = w6 at *
        have hno : ¬ 9223372036854775807 < 1 + s.size := by omega
        go_wp2_with fail
        rw [ext_1]
        refine (has_suffix s ⟨#[10]⟩ w6 (by omega)).mono ?_
        rintro e w7 ⟨rfl, rfl⟩
        obtain ⟨F, hF⟩ : ∃ F, F = Lib.hasSuffix s.data.toList [10] := ⟨_, rfl⟩
        change Hid _ at HPC
        rw [show Lib.hasSuffix s.data.toList (ByteArray.data ⟨#[10]⟩).toList = F from hF.symm]
        have HFF := Lib.hid hF
        clear hF
        have hb1 := HF.out j (by omega)
        cases F
        · have hno2 : ¬ 9223372036854775807 < 1 + s.size + 3 := by omega
          have hsl : ((⟨#[45]⟩ : ByteArray) ++ s ++ ⟨#[10, 92, 10]⟩).size = 1 + s.size + 3 := by rw [ByteArray.size_append, ByteArray.size_append]; rfl
          have HWR := Lib.hid (bld_write w2.heap.size w2.heap.size (Lib.byteCells (textF a b P j)) (⟨#[45]⟩ ++ s ++ ⟨#[10, 92, 10]⟩) w7 HBL.out (by rw [Lib.byteCells_length, hsl]; omega) HBE.out.size)
          clear hsl
          go_wp2_with fail
          refine HWR.out.mono ?_
          rintro e w8 ⟨rfl, hat, hb8⟩
          have HBL8 : Hid (Lib.IsBuilder 67 5 w2.heap.size w2.heap.size (Lib.byteCells (textF a b P (j + 1))) w8) := Lib.hid (.inr (by rw [HPC.out, byte_cells, ← line_2 45 s HFF.out.symm, ← str_cells]; exact hat))
          have HB8 := Lib.hid (HBE.out.trans hb8)
          clear hat hb8 HWR
          go_wp2_with fail
          have hi := HI.out
          go_roundw
          case rel => exact ⟨j + 1, by go_num, by omega, HBL8, HB8⟩
          case measure => simp [intOf]; omega
        · have hsl : ((⟨#[45]⟩ : ByteArray) ++ s).size = 1 + s.size := by rw [ByteArray.size_append]; rfl
          have HWR := Lib.hid (bld_write w2.heap.size w2.heap.size (Lib.byteCells (textF a b P j)) (⟨#[45]⟩ ++ s) w7 HBL.out (by rw [Lib.byteCells_length, hsl]; omega) HBE.out.size)
          clear hsl
          go_wp2_with fail
          refine HWR.out.mono ?_
          rintro e w8 ⟨rfl, hat, hb8⟩
          have HBL8 : Hid (Lib.IsBuilder 67 5 w2.heap.size w2.heap.size (Lib.byteCells (textF a b P (j + 1))) w8) := Lib.hid (.inr (by rw [HPC.out, byte_cells, ← line_1 45 s HFF.out.symm, ← str_cells]; exact hat))
          have HB8 := Lib.hid (HBE.out.trans hb8)
          clear hat hb8 HWR
          go_wp2_with fail
          have hi := HI.out
          go_roundw
          case rel => exact ⟨j + 1, by go_num, by omega, HBL8, HB8⟩
          case measure => simp [intOf]; omega

      · rw [fl_1, fl_0] at hsub
        have kk1 := k01_11
        have kk2 := k01_10
        have gd1 := eq_guardC .eql (.tmp 45) (.const (.complex .f64 4607182418800017408 4607182418800017408)) 0 4607182418800017408 4607182418800017408 4607182418800017408
        have gd2 := eq_guardC .eql (.tmp 45) (.const (.complex .f64 4607182418800017408 0)) 0 4607182418800017408 4607182418800017408 0
        have hin : y < b.length := by have := HX.out; have := HY.out; omega
        obtain ⟨ad, hAs, hcs⟩ := (HLB.out.below HBW.out).2.2 (by omega)
        have ks := hcs y hin
        have HPC : Hid (textF a b P (j + 1) = textF a b P j ++ tl 43 (b.getD y ByteArray.empty).data.toList) := Lib.hid (by
          show _ ++ piece a b (P.getD j (0, 0)) (P.getD (j + 1) (0, 0)) = _
          rw [HPJ.out, HQ.out]
          simp [piece])
        have hsz := HSB.out y
        generalize b.getD y ByteArray.empty = s at ks HPC hsz
        have x0 : (0 : Int) ≤ (y : Int) := by omega
        have x1 : (y : Int) < (b.length : Int) := by omega
        subst hAs
        clear hcs hin
        go_wp2_with fail
        refine (parts_calls x y (by omega) (by omega) wr).mono ?_
        rintro e w5 ⟨rfl, rfl⟩
        go_wp2_with fail
        go_quiet (fail)
        have HBL : Hid (Lib.IsBuilder 67 5 w2.heap.size w2.heap.size (Lib.byteCells (textF a b P j)) (w5.drewN nq)) := Lib.hid hbl.out
        have HBE := Lib.hid (pw_below_drewN hbel.out nq)
        have KS : (w5.drewN nq).cell? (ad.add y) = some (.string s) := ks
        clear k1 k2 ks HBW hbl hbel
        generalize w5.drewN nq = w6 at *
        have hno : ¬ 9223372036854775807 < 1 + s.size := by omega
        go_wp2_with fail
        rw [ext_1]
        refine (has_suffix s ⟨#[10]⟩ w6 (by omega)).mono ?_
        rintro e w7 ⟨rfl, rfl⟩
        obtain ⟨F, hF⟩ : ∃ F, F = Lib.hasSuffix s.data.toList [10] := ⟨_, rfl⟩
        change Hid _ at HPC
        rw [show Lib.hasSuffix s.data.toList (ByteArray.data ⟨#[10]⟩).toList = F from hF.symm]
        have HFF := Lib.hid hF
        clear hF
        have hb1 := HF.out j (by omega)
        cases F
        · have hno2 : ¬ 9223372036854775807 < 1 + s.size + 3 := by omega
          have hsl : ((⟨#[43]⟩ : ByteArray) ++ s ++ ⟨#[10, 92, 10]⟩).size = 1 + s.size + 3 := by rw [ByteArray.size_append, ByteArray.size_append]; rfl
          have HWR := Lib.hid (bld_write w2.heap.size w2.heap.size (Lib.byteCells (textF a b P j)) (⟨#[43]⟩ ++ s ++ ⟨#[10, 92, 10]⟩) w7 HBL.out (by rw [Lib.byteCells_length, hsl]; omega) HBE.out.size)
          clear hsl
          go_wp2_with fail
          refine HWR.out.mono ?_
          rintro e w8 ⟨rfl, hat, hb8⟩
          have HBL8 : Hid (Lib.IsBuilder 67 5 w2.heap.size w2.heap.size (Lib.byteCells (textF a b P (j + 1))) w8) := Lib.hid (.inr (by rw [HPC.out, byte_cells, ← line_2 43 s HFF.out.symm, ← str_cells]; exact hat))
          have HB8 := Lib.hid (HBE.out.trans hb8)
          clear hat hb8 HWR
          go_wp2_with fail
          have hi := HI.out
          go_roundw
          case rel => exact ⟨j + 1, by go_num, by omega, HBL8, HB8⟩
          case measure => simp [intOf]; omega
        · have hsl : ((⟨#[43]⟩ : ByteArray) ++ s).size = 1 + s.size := by rw [ByteArray.size_append]; rfl
          have HWR := Lib.hid (bld_write w2.heap.size w2.heap.size (Lib.byteCells (textF a b P j)) (⟨#[43]⟩ ++ s) w7 HBL.out (by rw [Lib.byteCells_length, hsl]; omega) HBE.out.size)
          clear hsl
          go_wp2_with fail
          refine HWR.out.mono ?_
          rintro e w8 ⟨rfl, hat, hb8⟩
          have HBL8 : Hid (Lib.IsBuilder 67 5 w2.heap.size w2.heap.size (Lib.byteCells (textF a b P (j + 1))) w8) := Lib.hid (.inr (by rw [HPC.out, byte_cells, ← line_1 43 s HFF.out.symm, ← str_cells]; exact hat))
          have HB8 := Lib.hid (HBE.out.trans hb8)
          clear hat hb8 HWR
          go_wp2_with fail
          have hi := HI.out
          go_roundw
          case rel => exact ⟨j + 1, by go_num, by omega, HBL8, HB8⟩
          case measure => simp [intOf]; omega

    · obtain rfl : j = n := by omega
      have i1 : decide ((j : Int) < (j : Int)) = false := by simp
      clear hnm
      have HBS := Lib.hid (bld_string w2.heap.size w2.heap.size (textF a b P j) wr hbl.out hbel.out.size)
      go_wp2_with fail
      refine HBS.out.mono ?_
      rintro e w5 ⟨rfl, hb5⟩
      have HB5 := Lib.hid hb5
      clear hb5
      go_wp2_with fail
      go_ret2
      exact ⟨rfl, below_then HB.out HB.out.size (hbel.out.trans HB5.out)⟩
end Go.Proofs.YtmnpcignolofaaaDoor
