/- diff.lay: walked. -/
import Derived.Test.YtmnpcignolofaaaDoorHLay
namespace Go.Proofs.YtmnpcignolofaaaDoor
set_option linter.unusedVariables false
set_option linter.unusedSimpArgs false
open Go.RowKit Go.Proofs.YtmnpcignolofaaaDoorW.PrintWords Go.Proofs.YtmnpcignolofaaaDoorW.PrintMore
theorem infoI32 : (Tryd.prog.info? 21).map (fun i => (i.zero, i.size, i.bytes)) = some (some (.int .i32 0), 1, 4) := by kernel_rfl
theorem getD_map (l : List ByteArray) (f : List UInt8 → Int) (x : Nat) (hx : x < l.length) : (l.map fun s => f (tx s)).getD x 0 = f ((txs l).getD x []) := by
  simp [List.getD_eq_getElem?_getD, List.getElem?_map, List.getElem?_eq_getElem hx, txs]
theorem nums_of {a b : List ByteArray} {ks : List (List UInt8)} (ha : ∀ s ∈ a, tx s ∈ ks) (hb : ∀ s ∈ b, tx s ∈ ks) : Nums a b (a.map fun s => idx ks (tx s)) (b.map fun s => idx ks (tx s)) := by
  refine ⟨by simp, by simp, fun x y hx hy => ?_⟩
  rw [getD_map a _ x hx, getD_map b _ y hy]
  have h1 : (txs a).getD x [] ∈ ks := by
    have := ha _ (List.getElem_mem hx)
    simpa [List.getD_eq_getElem?_getD, List.getElem?_map, List.getElem?_eq_getElem hx, txs] using this
  have h2 : (txs b).getD y [] ∈ ks := by
    have := hb _ (List.getElem_mem hy)
    simpa [List.getD_eq_getElem?_getD, List.getElem?_map, List.getElem?_eq_getElem hy, txs] using this
  exact ⟨fun h => idx_inj h1 h2 h, fun h => by rw [h]⟩
theorem pl_new {w2 : World} {base N : Nat} {Aa Ab : Option Addr} {c1 c2 : Nat} {al bl : List Int} (ha : w2.ownsRow base 3 1 (.slice Aa al.length c1) al.length (nums .i64 al)) (hb : w2.ownsRow base 3 1 (.slice Ab bl.length c2) bl.length (nums .i64 bl)) (hB : base ≤ w2.heap.size)
    (hN : N = (al.length + 1) * (bl.length + 1)) (hm : N ≤ 1002001) :
    Pl base w2.heap.size (w2.heap.size + 1) Aa c1 Ab c2 al bl (List.replicate N 0) ((w2.alloc (.cells #[.slice Aa al.length c1, .slice Ab bl.length c2, .slice (some ⟨w2.heap.size + 1, 0, none⟩) N N] 106)).alloc (.cells (madeCells #[.int .i32 0] N) 21)) := by
  have hr := own_made (w2.alloc (.cells #[.slice Aa al.length c1, .slice Ab bl.length c2, .slice (some ⟨w2.heap.size + 1, 0, none⟩) N N] 106)) base 21 .i32 N (by simp; omega) (by omega)
  refine ⟨?_, (ha.alloc _).alloc _, (hb.alloc _).alloc _, by simpa using hr, by simpa using hN, hB⟩
  rw [List.length_replicate]
  exact (Below.heap_alloc _ _ w2.heap.size (by simp)).trans (heap_alloc_new w2 _)
def Bd (T : List Int) : Prop := ∀ i, i < T.length → 0 ≤ T.getD i 0 ∧ T.getD i 0 ≤ 5000
theorem bd_new (N : Nat) : Bd (List.replicate N 0) := fun i hi => by
  have : (List.replicate N (0 : Int)).getD i 0 = 0 := by
    simp only [List.getD_eq_getElem?_getD, List.getElem?_replicate]
    split <;> rfl
  rw [this]
  omega
theorem bd_set {T : List Int} (h : Bd T) (q : Nat) (u : Int) (h0 : 0 ≤ u) (h1 : u ≤ 5000) : Bd (T.set q u) := fun i hi => by
  rw [List.length_set] at hi
  by_cases e : q = i
  · subst e
    have : (T.set q u).getD q 0 = u := by simp [List.getD_eq_getElem?_getD, List.getElem?_set_self hi]
    rw [this]
    exact ⟨h0, h1⟩
  · have : (T.set q u).getD i 0 = T.getD i 0 := by simp [List.getD_eq_getElem?_getD, List.getElem?_set_ne e]
    rw [this]
    exact h i hi
theorem km_new (w : World) : KM w.heap.size [] (w.alloc (.map #[] 0)) := ⟨.map [], 0, World.ownsMap_made w _ _ _, Nat.le_refl _, StrIs.nil⟩
set_option maxRecDepth 8000 in
set_option maxHeartbeats 4000000 in
theorem lay_calls (w : World) (A : Option Addr) (ca : Nat) (a : List ByteArray) (B : Option Addr) (cb : Nat) (b : List ByteArray) (hla : ReadsOf Value.string ByteArray.empty w A a.length a) (hlb : ReadsOf Value.string ByteArray.empty w B b.length b)
    (hna : a.length ≤ 1000) (hnb : b.length ≤ 1000) (hsa : ∀ s ∈ a, s.size ≤ maxLen) (hsb : ∀ s ∈ b, s.size ≤ maxLen) :
    Calls Tryd.prog 32 #[.slice A a.length ca, .slice B b.length cb] w fun e w' => ∃ g R Aa c1 Ab c2 al bl T, e = .returned (.tuple #[.pointer (some ⟨g, 0, none⟩), .int .i64 0]) ∧ Pl w.heap.size g R Aa c1 Ab c2 al bl T w' ∧ Nums a b al bl ∧ Okt a b T 0 0 ∧ Below w.heap.size w w' := by
  have HLA := Lib.hid hla
  have HLB := Lib.hid hlb
  have HSA := Lib.hid hsa
  have HSB := Lib.hid hsb
  have hmm := @run_makeMap Tryd.prog
  obtain ⟨N, hN⟩ : ∃ N, N = (a.length + 1) * (b.length + 1) := ⟨_, rfl⟩
  have hNb : N ≤ 1002001 := by rw [hN]; exact Nat.le_trans (Nat.mul_le_mul (show a.length + 1 ≤ 1001 by omega) (show b.length + 1 ≤ 1001 by omega)) (by omega)
  have hmi := print_make (P := Tryd.prog) 104 21 .i32 4 Tryd.underlying104 infoI32 (by decide) N (by omega)
  have hNI : ((a.length : Int) + 1) * ((b.length : Int) + 1) = (N : Int) := by rw [hN]; simp
  have hNw : wrap64 (((a.length : Int) + 1) * ((b.length : Int) + 1)) = (N : Int) := by rw [hNI]; simp only [wrap64]; omega
  have HN := Lib.hid hN
  have g1 : ¬ (a.length : Int) > 1000 := by omega
  have g2 : ¬ (b.length : Int) > 1000 := by omega
  clear hla hlb hsa hsb hN hNI
  go_enter Tryd.func32, Tryd.ntmps32
  go_wp2_with fail
  refine (numbers_calls w w.heap.size A ca a [] (w.alloc (.map #[] 0)) HLA.out (below_alloc (Below.refl _ _) _) (Nat.le_refl _) (km_new w) hna (by simp) HSA.out).mono ?_
  rintro e w1 ⟨va, k1, rfl, hin1, ho1, hkm1, hkf1, hk1⟩
  have HIN1 := Lib.hid hin1
  have HO1 := Lib.hid ho1
  have HKM1 := Lib.hid hkm1
  have HB1 := Lib.hid (hkf1.below (below_alloc (Below.refl _ _) _) (Nat.le_refl _))
  clear hin1 ho1 hkm1 hkf1
  go_wp2_with fail
  refine (numbers_calls w w.heap.size B cb b ([] ++ k1) w1 HLB.out HB1.out (Nat.le_refl _) HKM1.out hnb (by simp; omega) HSB.out).mono ?_
  rintro e w2 ⟨vb, k2, rfl, hin2, ho2, hkm2, hkf2, hk2⟩
  have HNUMS : Hid (Nums a b (a.map fun s => idx ([] ++ k1 ++ k2) (tx s)) (b.map fun s => idx ([] ++ k1 ++ k2) (tx s))) := Lib.hid (nums_of (fun s hs => List.mem_append_left _ (HIN1.out s hs)) hin2)
  have hoa : w2.ownsRow w.heap.size 3 1 va a.length (nums .i64 (a.map fun s => idx ([] ++ k1 ++ k2) (tx s))) := by
    rw [map_idx k2 a HIN1.out]
    refine own_move (own_weaken HO1.out (by simp)) fun k hk => hkf2.keep k (own_lt HO1.out k hk) ?_
    rintro rfl
    obtain ⟨D, n, hown, _⟩ := HKM1.out
    exact row_ne HO1.out hown hk
  have hob := own_weaken ho2 (base' := w.heap.size) HB1.out.size
  obtain ⟨Aa, c1, rfl⟩ := own_slice hoa
  obtain ⟨Ab, c2, rfl⟩ := own_slice hob
  obtain ⟨al, hal⟩ : ∃ al, al = a.map fun s => idx ([] ++ k1 ++ k2) (tx s) := ⟨_, rfl⟩
  obtain ⟨bl, hbl⟩ : ∃ bl, bl = b.map fun s => idx ([] ++ k1 ++ k2) (tx s) := ⟨_, rfl⟩
  rw [← hal] at hoa HNUMS
  rw [← hbl] at hob HNUMS
  have hla := HNUMS.out.la
  have hlb := HNUMS.out.lb
  have hB2 := hkf2.below HB1.out (Nat.le_refl _)
  have HPL := Lib.hid (pl_new (by rw [hla]; exact hoa) (by rw [hlb]; exact hob) hB2.size (show N = (al.length + 1) * (bl.length + 1) by rw [hla, hlb]; exact HN.out) hNb)
  rw [hla, hlb] at HPL
  have HB2 := Lib.hid (below_alloc (below_alloc hB2 (.cells #[.slice Aa a.length c1, .slice Ab b.length c2, .slice (some ⟨w2.heap.size + 1, 0, none⟩) N N] 106)) (.cells (madeCells #[.int .i32 0] N) 21))
  have HT0 : Hid (Okt a b (List.replicate N 0) (a.length + 1) 0) := Lib.hid fun x y hx hy h => by omega
  have HBD := Lib.hid (bd_new N)
  clear hin2 ho2 hkm2 hkf2 hoa hob HIN1 HO1 HKM1 HB1 hB2 hal hbl
  go_wp2_with fail
  generalize (World.alloc _ (Obj.cells (madeCells #[Value.int IntKind.i32 0] N) 21)) = w3 at HPL HB2 ⊢
  generalize w2.heap.size + 1 = R at HPL ⊢
  generalize w2.heap.size = g at HPL ⊢
  generalize List.replicate N (0 : Int) = T0 at HPL HT0 HBD
  clear hmm hmi hNw HN hNb g1 g2
  go_loopw [8] (fun v8 wr => ∃ (X : Nat) (T : List Int), v8 = .int .i64 ((X : Int) - 1) ∧ X ≤ a.length + 1 ∧ Hid (Pl w.heap.size g R Aa c1 Ab c2 al bl T wr) ∧ Hid (Okt a b T X 0) ∧ Hid (Bd T) ∧ Hid (Below w.heap.size w wr)) (fun v8 _ => (intOf v8 + 1).toNat)
  case atStart => exact ⟨a.length + 1, T0, by congr 1; omega, by omega, HPL, HT0, HBD, HB2⟩
  case round =>
    obtain ⟨X, T, rfl, hX, hpl, hok, hbd, hbel⟩ := hrel
    clear HPL HT0 HBD HB2
    rcases X with _ | x
    · rw [show (((0 : Nat) : Int) - 1) = -1 from rfl]
      go_wp2_with fail
      go_ret2
      exact ⟨g, R, Aa, c1, Ab, c2, al, bl, T, rfl, hpl.out, HNUMS.out, hok.out, hbel.out⟩
    · have ex : (((x + 1 : Nat) : Int) - 1) = (x : Int) := by omega
      rw [ex]
      have x0 : (x : Int) ≥ 0 := by omega
      have hx : x ≤ a.length := by omega
      go_wp2_with fail
      go_loopw [9] (fun v9 wr => ∃ (Y : Nat) (T : List Int), v9 = .int .i64 ((Y : Int) - 1) ∧ Y ≤ b.length + 1 ∧ Hid (Pl w.heap.size g R Aa c1 Ab c2 al bl T wr) ∧ Hid (Okt a b T x Y) ∧ Hid (Bd T) ∧ Hid (Below w.heap.size w wr)) (fun v9 _ => (intOf v9 + 1).toNat)
      case atStart => exact ⟨b.length + 1, T, by congr 1; omega, by omega, hpl, Lib.hid (okt_row hok.out), hbd, hbel⟩
      case round =>
        obtain ⟨Y, T, rfl, hY, hpl, hok, hbd, hbel⟩ := hrel
        rcases Y with _ | y
        · rw [show (((0 : Nat) : Int) - 1) = -1 from rfl]
          go_wp2_with fail
          go_roundw
          case rel => exact ⟨x, T, rfl, by omega, hpl, hok, hbd, hbel⟩
          case measure => simp only [intOf]; omega
        · have ey : (((y + 1 : Nat) : Int) - 1) = (y : Int) := by omega
          rw [ey]
          have y0 : (y : Int) ≥ 0 := by omega
          have hy : y ≤ b.length := by omega
          go_wp2_with fail
          refine (at_calls w.heap.size g R Aa c1 Ab c2 al bl T wr hpl.out (by omega) (by omega) x y (by omega) (by omega) _ _ rfl rfl).mono ?_
          rintro e w4 ⟨rfl, n4, rfl⟩
          have HP4 := Lib.hid (hpl.out.drewN n4)
          have HB4 := Lib.hid (pw_below_drewN hbel.out n4)
          clear hpl hbel
          generalize wr.drewN n4 = w4 at *
          obtain ⟨q, hq⟩ : ∃ q, q = x * (bl.length + 1) + y := ⟨_, rfl⟩
          rw [← hq]
          have HQ := Lib.hid hq
          clear hq
          go_wp2_with fail
          refine (least_calls w.heap.size g R Aa c1 Ab c2 al bl T w4 HP4.out (by omega) (by omega) hbd.out x y (by omega) (by omega)).mono ?_
          rintro e w5 ⟨rfl, n5, rfl⟩
          have HP5 := Lib.hid (HP4.out.drewN n5)
          have HB5 := Lib.hid (pw_below_drewN HB4.out n5)
          clear HP4 HB4
          generalize w4.drewN n5 = w5 at *
          rw [least_is HNUMS.out hx hy hok.out]
          have hql : q < T.length := by rw [HQ.out, HP5.out.len]; exact pl_at _ _ _ _ (by omega) (by omega)
          have kc := (HP5.out.cell q hql).1
          have kf := (HP5.out.cell q hql).2
          have hd := dd_le a b x y
          have HOK : Hid (Okt a b (T.set q (dd a b x y : Int)) x y) := Lib.hid (by
            rw [HQ.out, hlb]
            exact okt_set hx hy (by rw [HP5.out.len, hla, hlb]) hok.out)
          go_wp2_with fail
          go_roundw
          case rel => exact ⟨y, T.set q (dd a b x y : Int), rfl, by omega, Lib.hid (HP5.out.put q _), HOK, Lib.hid (bd_set hbd.out q _ (by omega) (by omega)), Lib.hid (HB5.out.setCell (p := ⟨R, q, none⟩) (own_base HP5.out.r R rfl) _)⟩
          case measure => simp only [intOf]; omega
end Go.Proofs.YtmnpcignolofaaaDoor
