/- codicilref19.DocText: walked. -/
import Derived.Test.YtanfodjjfajobaaHTold
namespace Go.Proofs.Ytanfodjjfajobaa
set_option linter.unusedVariables false
set_option linter.unusedSimpArgs false
open Go.RowKit Go.Proofs.YtanfodjjfajobaaW.PrintWords Go.Proofs.YtanfodjjfajobaaW.PrintMore
/-- What is told of one step. -/
def piece (a b : List ByteArray) (p q : Pn) : List UInt8 :=
  if q = (p.1 + 1, p.2 + 1) then tl 32 (a.getD p.1 ByteArray.empty).data.toList else if q.1 = p.1 + 1 then tl 45 (a.getD p.1 ByteArray.empty).data.toList else tl 43 (b.getD p.2 ByteArray.empty).data.toList
def textF (a b : List ByteArray) (w : List Pn) : Nat → List UInt8
  | 0 => []
  | n + 1 => textF a b w n ++ piece a b (w.getD n (0, 0)) (w.getD (n + 1) (0, 0))
def textT (a b : List ByteArray) : List UInt8 := textF a b (wayP a b) ((wayP a b).length - 1)
theorem getD_size {l : List ByteArray} {M : Nat} (h : ∀ s ∈ l, s.size ≤ M) (i : Nat) : (l.getD i ByteArray.empty).size ≤ M := by
  rw [List.getD_eq_getElem?_getD]
  by_cases hi : i < l.length
  · rw [List.getElem?_eq_getElem hi]; exact h _ (List.getElem_mem hi)
  · rw [List.getElem?_eq_none (by omega)]; exact Nat.zero_le _
theorem tl_len (g : UInt8) (s : ByteArray) : (tl g s.data.toList).length ≤ s.size + 4 := by
  unfold tl
  rw [List.length_cons, List.length_append, data_length]
  split <;> simp
theorem piece_len (a b : List ByteArray) (M : Nat) (ha : ∀ s ∈ a, s.size ≤ M) (hb : ∀ s ∈ b, s.size ≤ M) (p q : Pn) : (piece a b p q).length ≤ M + 4 := by
  unfold piece
  split
  · exact Nat.le_trans (tl_len _ _) (by have := getD_size ha p.1; omega)
  · split
    · exact Nat.le_trans (tl_len _ _) (by have := getD_size ha p.1; omega)
    · exact Nat.le_trans (tl_len _ _) (by have := getD_size hb p.2; omega)
theorem textF_len (a b : List ByteArray) (M : Nat) (ha : ∀ s ∈ a, s.size ≤ M) (hb : ∀ s ∈ b, s.size ≤ M) (w : List Pn) : ∀ n, (textF a b w n).length ≤ n * (M + 4)
  | 0 => by simp [textF]
  | n + 1 => by
    have h1 := textF_len a b M ha hb w n
    have h2 := piece_len a b M ha hb (w.getD n (0, 0)) (w.getD (n + 1) (0, 0))
    rw [textF, List.length_append, Nat.succ_mul]
    omega
set_option maxHeartbeats 2000000 in
theorem docText_long (w : World) (A : Option Addr) (ca n : Nat) (B : Option Addr) (cb m : Nat) (h : 1000 < n ∨ 1000 < m) :
    Calls Try.prog 21 #[.slice A n ca, .slice B m cb] w fun e w' => e = .returned (.tuple #[.string ⟨#[]⟩, .int .i64 2]) ∧ w' = w := by
  have HN := Lib.hid (long_yes w A ca n B cb m h)
  clear h
  go_enter Try.func21, Try.ntmps21
  go_wp2_with fail
  refine HN.out.mono ?_
  rintro e w1 ⟨rfl, rfl⟩
  go_wp2_with fail
  go_ret2
  exact ⟨rfl, rfl⟩
set_option maxRecDepth 20000 in
set_option maxHeartbeats 40000000 in
theorem docText_calls (w : World) (A : Option Addr) (ca : Nat) (a : List ByteArray) (B : Option Addr) (cb : Nat) (b : List ByteArray) (hla : ReadsOf Value.string ByteArray.empty w A a.length a) (hlb : ReadsOf Value.string ByteArray.empty w B b.length b)
    (hna : a.length ≤ 60) (hnb : b.length ≤ 60) (hsa : ∀ s ∈ a, s.size ≤ 1048576) (hsb : ∀ s ∈ b, s.size ≤ 1048576) :
    Calls Try.prog 21 #[.slice A a.length ca, .slice B b.length cb] w fun e w' => e = .returned (.tuple #[.string ⟨(textT a b).toArray⟩, .int .i64 0]) ∧ Below w.heap.size w w' := by
  have HLA := Lib.hid hla
  have HLB := Lib.hid hlb
  have HSA : Hid (∀ i, (a.getD i ByteArray.empty).size ≤ 1099511627776) := Lib.hid fun i => Nat.le_trans (getD_size hsa i) (by decide)
  have HSB : Hid (∀ i, (b.getD i ByteArray.empty).size ≤ 1099511627776) := Lib.hid fun i => Nat.le_trans (getD_size hsb i) (by decide)
  have HN := Lib.hid (long_no w A ca a.length B cb b.length (by omega) (by omega))
  have HW := Lib.hid (refWay_calls w A ca a B cb b hla hlb hna hnb)
  have hPl := wayP_len a b
  have HT := Lib.hid (two_at a b)
  unfold textT
  obtain ⟨P, hP⟩ : ∃ P, P = wayP a b := ⟨_, rfl⟩
  rw [← hP] at HW hPl HT ⊢
  obtain ⟨m, hm⟩ : ∃ m, m = P.length := ⟨_, rfl⟩
  rw [← hm] at HW hPl ⊢
  have HM := Lib.hid hm
  have HF : Hid (∀ j, j ≤ 200 → (textF a b P j).length ≤ 1099511627776) := Lib.hid fun j hj => Nat.le_trans (textF_len a b 1048576 hsa hsb P j) (by omega)
  clear hla hlb hsa hsb hP hm
  go_enter Try.func21, Try.ntmps21
  go_wp2_with fail
  refine HN.out.mono ?_
  rintro e w1 ⟨rfl, rfl⟩
  go_wp2_with fail
  refine HW.out.mono ?_
  rintro e w2 ⟨v, rfl, hv, hb⟩
  obtain ⟨W0, cw, rfl⟩ := own_slice hv
  have hr := own_reads_of' (d := (0, 0)) hv
  obtain ⟨ax, rfl, hcx0⟩ := hr.2.2 (by omega)
  have HCX := Lib.hid hcx0
  have HB := Lib.hid hb
  clear hv hb hr HW hcx0
  go_wp2_with fail
  go_loopw [8, 7] (fun v8 v7 wr => ∃ i : Nat, v8 = .int .i64 i ∧ v7 = .string ⟨(textF a b P (i - 1)).toArray⟩ ∧ 1 ≤ i ∧ i ≤ m ∧ Hid (∃ k, wr = w2.drewN k)) (fun v8 _ _ => m - (intOf v8).toNat)
  case atStart => exact ⟨1, rfl, rfl, by omega, by omega, Lib.hid ⟨0, rfl⟩⟩
  case round =>
    obtain ⟨i, rfl, rfl, hi1, hi, hw⟩ := hrel
    have hP1 := hPl.1
    obtain ⟨j, hj⟩ : ∃ j, j = i - 1 := ⟨_, rfl⟩
    rw [← hj]
    have hij : i = j + 1 := by omega
    have HIJ := Lib.hid hij
    clear hj
    by_cases hlt : i < m
    · obtain ⟨x, y, dx, dy, t⟩ := HT.out j (by rw [← HM.out]; omega)
      have HBW : Hid (Below w1.heap.size w1 wr) := Lib.hid (by obtain ⟨k, rfl⟩ := hw.out; exact pw_below_drewN HB.out k)
      have k1 : wr.cell? (ax.add j) = some (.complex .f64 (fl x) (fl y)) := by have h := HCX.out j (by omega); rw [t.p] at h; obtain ⟨k, rfl⟩ := hw.out; exact h
      have k2 : wr.cell? (ax.add i) = some (.complex .f64 (fl (x + dx)) (fl (y + dy))) := by have h := HCX.out i (by omega); rw [hij, t.q, ← hij] at h; obtain ⟨k, rfl⟩ := hw.out; exact h
      have wj : IntKind.i64.wrap ((i : Int) - 1) = (j : Int) := by rw [IntKind.wrap_i64]; omega
      have j0 : (0 : Int) ≤ (j : Int) := by omega
      have j1 : (j : Int) < (m : Int) := by omega
      have i0 : (0 : Int) ≤ (i : Int) := by omega
      have i1 : (i : Int) < (m : Int) := by omega
      have hsub := cx_sub x y dx dy (by have := t.hx; omega) (by have := t.hy; omega) t.d1 t.d2
      have cv1 := cv_fi x (by have := t.hx; omega)
      have cv2 := cv_fi y (by have := t.hy; omega)
      have hd : (dx = 1 ∧ dy = 1) ∨ (dx = 1 ∧ dy = 0) ∨ (dx = 0 ∧ dy = 1) := by have := t.one; have := t.d1; have := t.d2; omega
      have HPJ : Hid (P.getD j (0, 0) = (x, y)) := Lib.hid t.p
      have HQ : Hid (P.getD (j + 1) (0, 0) = (x + dx, y + dy)) := Lib.hid t.q
      have HX : Hid (x + dx ≤ a.length) := Lib.hid t.hx
      have HY : Hid (y + dy ≤ b.length) := Lib.hid t.hy
      have hxb : x ≤ 60 := by have := t.hx; omega
      have hyb : y ≤ 60 := by have := t.hy; omega
      generalize fl (x + dx) = X1 at k2 hsub
      generalize fl (y + dy) = Y1 at k2 hsub
      clear t hlt hij
      rcases hd with ⟨rfl, rfl⟩ | ⟨rfl, rfl⟩ | ⟨rfl, rfl⟩
      · rw [fl_1] at hsub
        have kk1 := k11_11
        have gd1 := eq_guardC .eql (.tmp 46) (.const (.complex .f64 4607182418800017408 4607182418800017408)) 4607182418800017408 4607182418800017408 4607182418800017408 4607182418800017408
        have hin : x < a.length := by have := HX.out; have := HY.out; omega
        obtain ⟨ad, hAs, hcs⟩ := (HLA.out.below HBW.out).2.2 (by omega)
        have ks := hcs x hin
        have HPC : Hid (textF a b P (j + 1) = textF a b P j ++ tl 32 (a.getD x ByteArray.empty).data.toList) := Lib.hid (by
          show _ ++ piece a b (P.getD j (0, 0)) (P.getD (j + 1) (0, 0)) = _
          rw [HPJ.out, HQ.out]
          simp [piece])
        have hsz := HSA.out x
        generalize a.getD x ByteArray.empty = s at ks HPC hsz
        have x0 : (0 : Int) ≤ (x : Int) := by omega
        have hno : ¬ 9223372036854775807 < (textF a b P j).length + (tl 32 s.data.toList).length := by
          have h1 := HF.out j (by omega)
          have h2 := tl_len 32 s
          omega
        have x1 : (x : Int) < (a.length : Int) := by omega
        subst hAs
        clear hcs hin
        go_wp2_with fail
        go_quiet (fail)
        have HWQ : Hid (∃ k, wr.drewN nq = w2.drewN k) := Lib.hid (by obtain ⟨k, rfl⟩ := hw.out; exact ⟨k + nq, World.drewN_drewN _ _ _⟩)
        have K1 : (wr.drewN nq).cell? (ax.add j) = some (.complex .f64 (fl x) (fl y)) := k1
        have K2 : (wr.drewN nq).cell? (ax.add i) = some (.complex .f64 X1 Y1) := k2
        have KS : (wr.drewN nq).cell? (ad.add x) = some (.string s) := ks
        clear k1 k2 ks HBW hw
        generalize wr.drewN nq = wr at *
        go_wp2_with fail
        go_quiet (fail)
        have hw : Hid (∃ k, wr.drewN nq = w2.drewN k) := Lib.hid (by obtain ⟨k, rfl⟩ := HWQ.out; exact ⟨k + nq, World.drewN_drewN _ _ _⟩)
        have ks : (wr.drewN nq).cell? (ad.add x) = some (.string s) := KS
        clear K1 K2 KS HWQ
        generalize wr.drewN nq = wr at *
        go_wp2_with fail
        refine (told_calls 32 s hsz wr).mono ?_
        rintro e w5 ⟨rfl, rfl⟩
        go_wp2_with fail
        have hij := HIJ.out
        go_roundw
        case rel => exact ⟨i + 1, by go_num, by rw [bcat, show i + 1 - 1 = j + 1 from by omega, HPC.out], by omega, by omega, hw⟩
        case measure => simp [intOf]; omega

      · rw [fl_1, fl_0] at hsub
        have kk1 := k10_11
        have kk2 := k10_10
        have gd1 := eq_guardC .eql (.tmp 46) (.const (.complex .f64 4607182418800017408 4607182418800017408)) 4607182418800017408 0 4607182418800017408 4607182418800017408
        have gd2 := eq_guardC .eql (.tmp 46) (.const (.complex .f64 4607182418800017408 0)) 4607182418800017408 0 4607182418800017408 0
        have hin : x < a.length := by have := HX.out; have := HY.out; omega
        obtain ⟨ad, hAs, hcs⟩ := (HLA.out.below HBW.out).2.2 (by omega)
        have ks := hcs x hin
        have HPC : Hid (textF a b P (j + 1) = textF a b P j ++ tl 45 (a.getD x ByteArray.empty).data.toList) := Lib.hid (by
          show _ ++ piece a b (P.getD j (0, 0)) (P.getD (j + 1) (0, 0)) = _
          rw [HPJ.out, HQ.out]
          simp [piece])
        have hsz := HSA.out x
        generalize a.getD x ByteArray.empty = s at ks HPC hsz
        have x0 : (0 : Int) ≤ (x : Int) := by omega
        have hno : ¬ 9223372036854775807 < (textF a b P j).length + (tl 45 s.data.toList).length := by
          have h1 := HF.out j (by omega)
          have h2 := tl_len 45 s
          omega
        have x1 : (x : Int) < (a.length : Int) := by omega
        subst hAs
        clear hcs hin
        go_wp2_with fail
        go_quiet (fail)
        have HWQ : Hid (∃ k, wr.drewN nq = w2.drewN k) := Lib.hid (by obtain ⟨k, rfl⟩ := hw.out; exact ⟨k + nq, World.drewN_drewN _ _ _⟩)
        have K1 : (wr.drewN nq).cell? (ax.add j) = some (.complex .f64 (fl x) (fl y)) := k1
        have K2 : (wr.drewN nq).cell? (ax.add i) = some (.complex .f64 X1 Y1) := k2
        have KS : (wr.drewN nq).cell? (ad.add x) = some (.string s) := ks
        clear k1 k2 ks HBW hw
        generalize wr.drewN nq = wr at *
        go_wp2_with fail
        go_quiet (fail)
        have hw : Hid (∃ k, wr.drewN nq = w2.drewN k) := Lib.hid (by obtain ⟨k, rfl⟩ := HWQ.out; exact ⟨k + nq, World.drewN_drewN _ _ _⟩)
        have ks : (wr.drewN nq).cell? (ad.add x) = some (.string s) := KS
        clear K1 K2 KS HWQ
        generalize wr.drewN nq = wr at *
        go_wp2_with fail
        refine (told_calls 45 s hsz wr).mono ?_
        rintro e w5 ⟨rfl, rfl⟩
        go_wp2_with fail
        have hij := HIJ.out
        go_roundw
        case rel => exact ⟨i + 1, by go_num, by rw [bcat, show i + 1 - 1 = j + 1 from by omega, HPC.out], by omega, by omega, hw⟩
        case measure => simp [intOf]; omega

      · rw [fl_1, fl_0] at hsub
        have kk1 := k01_11
        have kk2 := k01_10
        have gd1 := eq_guardC .eql (.tmp 46) (.const (.complex .f64 4607182418800017408 4607182418800017408)) 0 4607182418800017408 4607182418800017408 4607182418800017408
        have gd2 := eq_guardC .eql (.tmp 46) (.const (.complex .f64 4607182418800017408 0)) 0 4607182418800017408 4607182418800017408 0
        have hin : y < b.length := by have := HX.out; have := HY.out; omega
        obtain ⟨ad, hAs, hcs⟩ := (HLB.out.below HBW.out).2.2 (by omega)
        have ks := hcs y hin
        have HPC : Hid (textF a b P (j + 1) = textF a b P j ++ tl 43 (b.getD y ByteArray.empty).data.toList) := Lib.hid (by
          show _ ++ piece a b (P.getD j (0, 0)) (P.getD (j + 1) (0, 0)) = _
          rw [HPJ.out, HQ.out]
          simp [piece])
        have hsz := HSB.out y
        generalize b.getD y ByteArray.empty = s at ks HPC hsz
        have x0 : (0 : Int) ≤ (y : Int) := by omega
        have hno : ¬ 9223372036854775807 < (textF a b P j).length + (tl 43 s.data.toList).length := by
          have h1 := HF.out j (by omega)
          have h2 := tl_len 43 s
          omega
        have x1 : (y : Int) < (b.length : Int) := by omega
        subst hAs
        clear hcs hin
        go_wp2_with fail
        go_quiet (fail)
        have HWQ : Hid (∃ k, wr.drewN nq = w2.drewN k) := Lib.hid (by obtain ⟨k, rfl⟩ := hw.out; exact ⟨k + nq, World.drewN_drewN _ _ _⟩)
        have K1 : (wr.drewN nq).cell? (ax.add j) = some (.complex .f64 (fl x) (fl y)) := k1
        have K2 : (wr.drewN nq).cell? (ax.add i) = some (.complex .f64 X1 Y1) := k2
        have KS : (wr.drewN nq).cell? (ad.add y) = some (.string s) := ks
        clear k1 k2 ks HBW hw
        generalize wr.drewN nq = wr at *
        go_wp2_with fail
        go_quiet (fail)
        have hw : Hid (∃ k, wr.drewN nq = w2.drewN k) := Lib.hid (by obtain ⟨k, rfl⟩ := HWQ.out; exact ⟨k + nq, World.drewN_drewN _ _ _⟩)
        have ks : (wr.drewN nq).cell? (ad.add y) = some (.string s) := KS
        clear K1 K2 KS HWQ
        generalize wr.drewN nq = wr at *
        go_wp2_with fail
        refine (told_calls 43 s hsz wr).mono ?_
        rintro e w5 ⟨rfl, rfl⟩
        go_wp2_with fail
        have hij := HIJ.out
        go_roundw
        case rel => exact ⟨i + 1, by go_num, by rw [bcat, show i + 1 - 1 = j + 1 from by omega, HPC.out], by omega, by omega, hw⟩
        case measure => simp [intOf]; omega

    · obtain rfl : i = m := by omega
      have i1 : decide ((i : Int) < (i : Int)) = false := by simp
      clear hij
      go_wp2_with fail
      go_ret2
      have hij := HIJ.out
      refine ⟨by rw [show i - 1 = j from by omega]; rfl, ?_⟩
      obtain ⟨k, rfl⟩ := hw.out
      exact pw_below_drewN HB.out k
end Go.Proofs.Ytanfodjjfajobaa
