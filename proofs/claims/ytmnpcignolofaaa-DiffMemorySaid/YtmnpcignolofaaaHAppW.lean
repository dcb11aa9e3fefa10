/- diff.Apply of hunks in form: what app says. -/
import Derived.Test.YtmnpcignolofaaaHBack
import Derived.Test.YtmnpcignolofaaaHInForm
import Derived.Test.YtmnpcignolofaaaHRepl
import Derived.Test.YtmnpcignolofaaaHRound
namespace Go.Proofs.Ytmnpcignolofaaa
set_option linter.unusedVariables false
set_option linter.unusedSimpArgs false
open Go.RowKit Go.Shelf Go.Proofs.YtmnpcignolofaaaW.PrintWords Go.Proofs.YtmnpcignolofaaaW.PrintMore
attribute [local go_sem] Oper.semAt_some
theorem okH_len {n m : Nat} : ∀ (l : List Hk) (k : Nat) (p : Pn), okH n m k p l → p.1 ≤ n → p.2 ≤ m → l.length + (p.1 + p.2) ≤ n + m
  | [], _, p, h, h1, h2 => by simp only [List.length_nil]; omega
  | h :: r, k, p, ⟨h1, h2, h3, h4, h5, h6, h7, h8, h9⟩, l1, l2 => by
    have ih := okH_len r 1 h.2 h9 h3 h4
    simp only [List.length_cons]
    omega
/-- The state between two rounds: hunks from the last one down are made. -/
def ApI (w : World) (ko kb : Nat) (bv hv : Value) (a b : List ByteArray) (l : List Hk) (pre : List Nat) (W : World) : Prop :=
  ∃ v, W.heap[ko]? = some (.cells #[v] 22 (0, 0)) ∧ W.ownsRow w.heap.size 9 1 v (app a b (l.drop (l.length - pre.length))).length (encs Value.string (app a b (l.drop (l.length - pre.length)))) ∧
    W.heap[w.heap.size]? = some (.cells #[bv] 22 (0, 0)) ∧ W.heap[kb]? = some (.cells #[hv] 35 (0, 0)) ∧ Below w.heap.size w W
theorem apI_bears (w : World) (ko kb B : Nat) (bv hv : Value) (a b : List ByteArray) (l : List Hk) (h1 : ko < B) (h2 : kb < B) (h3 : w.heap.size < B) : BearsO B none (ApI w ko kb bv hv a b l) := by
  rintro s A C ⟨v, k1, ho, k2, k3, hb⟩ hsz hk e1 e2 e3
  refine ⟨v, (hk _ (blk_lt k1) (by simp) (.inl h1)).trans k1, own_move ho fun k hkb => ?_, (hk _ (blk_lt k2) (by simp) (.inl h3)).trans k2, (hk _ (blk_lt k3) (by simp) (.inl h2)).trans k3,
    ⟨e1.trans hb.os, e2.trans hb.tape, e3.trans hb.output, Nat.le_trans hb.size hsz, fun i hi => (hk i (Nat.lt_of_lt_of_le hi hb.size) (by simp) (.inl (by omega))).trans (hb.block i hi)⟩⟩
  obtain ⟨cur, hc⟩ := own_typed ho k hkb
  exact hk k (blk_lt hc) (by simp) (.inr ⟨_, hc, rfl⟩)
/-- What assigning lays: the hunk, in a block of its own. -/
def ApA (l : List Hk) (act : Nat → Nat → Act) (x : Nat) (W : World) (a1 : Act) (W1 : World) : Prop :=
  W1 = W.alloc (.cells #[.complex .f64 (fl (hkD l x).1.1) (fl (hkD l x).1.2), .complex .f64 (fl (hkD l x).2.1) (fl (hkD l x).2.2)] 60) ∧ a1 = act x W.heap.size
theorem okH_at {n m : Nat} : ∀ (l : List Hk) (k : Nat) (p : Pn), okH n m k p l → p.1 ≤ n → p.2 ≤ m → ∀ x, x < l.length → ∃ k p, okH n m k p (l.drop x) ∧ p.1 ≤ n ∧ p.2 ≤ m
  | _, k, p, h, h1, h2, 0, _ => ⟨k, p, h, h1, h2⟩
  | [], _, _, _, _, _, x + 1, hx => absurd hx (by simp)
  | h :: r, k, p, ⟨_, _, h3, h4, _, _, _, _, h9⟩, _, _, x + 1, hx => okH_at r 1 h.2 h9 h3 h4 x (by simpa using hx)
theorem drop_hk {l : List Hk} {x : Nat} (h : x < l.length) : l.drop x = hkD l x :: l.drop (x + 1) := by
  rw [List.drop_eq_getElem_cons h]
  simp [hkD, List.getD_eq_getElem?_getD, List.getElem?_eq_getElem h]
/-- 'xs[lo:hi]'. -/
theorem cut_midS {P : Program} (t e : TypeId) {i : TypeInfo} (ht : P.underlying t = some (.slice e)) (hi : P.info? e = some i) (hsz : i.size = 1) (A : Option Addr) (n c : Nat) (lo hi2 : Nat) (h1 : lo ≤ hi2) (h2 : hi2 ≤ c) : ∀ W : World, (Instr.slice t (.slice A n c) (some (.int .i64 (lo : Int))) (some (.int .i64 (hi2 : Int))) none).run P W = .ok (.slice (if c = lo then A else A.map (·.add lo)) (hi2 - lo) (c - lo)) W := by
  intro W
  have hel : P.elem t = e := by simp [Program.elem, ht]
  have hu : P.underlying t = some (.slice (P.elem t)) := by rw [hel]; exact ht
  have hsb : (Instr.sliceBounds true n c (some (.int .i64 (lo : Int))) (some (.int .i64 (hi2 : Int))) none).run P W = .ok (lo, hi2, c) W := by
    simp [Instr.sliceBounds, run_sliceBound_if, Result.andThen, h1, h2, show (lo : Int) ≤ (hi2 : Int) from by omega, show (hi2 : Int) ≤ (c : Int) from by omega]
  rw [run_slice_any W t A n c hu, hsb, hel]
  by_cases hc : c = lo
  · subst hc
    simp [sizeOf, typeInfo, hi, hsz, sliced, Result.andThen]
  · cases A with
    | none => simp [sizeOf, typeInfo, hi, hsz, sliced, Result.andThen, hc, show ¬ c - lo = 0 by omega]
    | some a => simp [sizeOf, typeInfo, hi, hsz, sliced, Result.andThen, hc, show ¬ c - lo = 0 by omega]
/-- The lines that b[lo:hi] reads. -/
theorem reads_midS {w : World} {A : Option Addr} {n c lo hi : Nat} {b : List ByteArray} (h : ReadsOf Value.string ByteArray.empty w A n b) (h1 : lo ≤ hi) (h2 : hi ≤ n) (hc : n ≤ c) : ReadsOf Value.string ByteArray.empty w (if c = lo then A else A.map (·.add lo)) (hi - lo) ((b.drop lo).take (hi - lo)) := by
  have hn := h.1
  refine ⟨by rw [List.length_take, List.length_drop]; omega, by have := h.2.1; omega, fun h0 => ?_⟩
  obtain ⟨ad, rfl, hcell⟩ := h.2.2 (by omega)
  rw [if_neg (by omega)]
  refine ⟨ad.add lo, rfl, fun j hj => ?_⟩
  have hx := hcell (lo + j) (by omega)
  have e1 : (ad.add lo).add j = ad.add (lo + j) := by rw [Addr.add_add]
  rw [e1, hx]
  congr 2
  simp only [List.getD_eq_getElem?_getD]
  rw [List.getElem?_take_of_lt hj, List.getElem?_drop]
theorem below_put {n : Nat} {w W : World} (h : Below n w W) {l : Nat} (hl : n ≤ l) (o : Obj) : Below n w (W.putObj l o) := by
  have hg := grownBy_putObj' W l o
  exact ⟨hg.os.trans h.os, hg.tape.trans h.tape, hg.output.trans h.output, Nat.le_trans h.size hg.size, fun i hi => (World.putObj_heap_other (by omega)).trans (h.block i hi)⟩
set_option maxRecDepth 100000 in
set_option maxHeartbeats 4000000 in
theorem apply_calls (w : World) (A : Option Addr) (ca : Nat) (a : List ByteArray) (B : Option Addr) (cb : Nat) (b : List ByteArray) (base : Nat) (vh : Value) (l : List Hk) (hla : ReadsOf Value.string ByteArray.empty w A a.length a) (hlb : ReadsOf Value.string ByteArray.empty w B b.length b)
    (hna : a.length ≤ 60) (hnb : b.length ≤ 60) (hcb : b.length ≤ cb) (hv : w.ownsRow base 60 2 vh l.length (hc l)) (hf : okH a.length b.length 0 (0, 0) l) :
    Calls Try.prog 23 #[.slice A a.length ca, .slice B b.length cb, vh] w fun e w' => ∃ v, e = .returned (.tuple #[v, .int .i64 0]) ∧ w'.ownsRow w.heap.size 9 1 v (app a b l).length (encs Value.string (app a b l)) ∧ Below w.heap.size w w' := by
  have hll : l.length ≤ 1000 := by have := okH_len l 0 (0, 0) hf (Nat.zero_le _) (Nat.zero_le _); omega
  obtain ⟨H, ch, rfl⟩ := own_slice hv
  have HF := Lib.hid (fun W (hW : Below w.heap.size w W) => inForm_calls W base (.slice H l.length ch) l (pw_own_below hv hW) a.length b.length hna hnb hll hf)
  have HC := Lib.hid (fun W (hW : Below w.heap.size w W) => cloneLines_calls W A ca a (hla.below hW) (by omega))
  have HV := Lib.hid hv
  have HLB := Lib.hid hlb
  have HOK := Lib.hid hf
  have la : ¬ ((1000 : Int) < (a.length : Int)) := by omega
  have lb : ¬ ((1000 : Int) < (b.length : Int)) := by omega
  clear hv hla hlb hf
  refine (callsIn_wide (n := 9)).1 ?_
  refine callsIn_of_wp_marks Try.func23 rfl trivial ?_ rfl
  simp only [Try.ntmps23, List.size_toArray, List.length_cons, List.length_nil, Nat.reduceAdd, Nat.reduceSub, Array.replicate_succ, Array.replicate_zero, List.push_toArray, List.append_toArray, List.nil_append, List.cons_append]
  gi_wp2
  refine ⟨trivial, ?_⟩
  refine (callsIn_wide.2 (HF.out _ (below_alloc (Below.refl _ _) _))).mono ?_
  rintro e w2 ⟨rfl, hb2⟩
  have HB2 : Hid (Below w.heap.size w w2) := Lib.hid (by have h := below_alloc (Below.refl w.heap.size w) (.cells #[.slice B b.length cb] 22); exact h.trans (hb2.mono h.size))
  have k4 := (hb2.block w.heap.size (by simp)).trans (heap_alloc_new w (.cells #[.slice B b.length cb] 22))
  have c4 : w2.cell? ⟨w.heap.size, 0, none⟩ = some (.slice B b.length cb) := blk_cell k4 0
  have HK4 := Lib.hid k4
  clear hb2 k4
  gi_wp2
  refine ⟨trivial, ?_⟩
  refine (callsIn_wide.2 (HC.out _ HB2.out)).mono ?_
  rintro e w3 ⟨v3, rfl, ho3, hb3⟩
  obtain ⟨A3, c3, rfl⟩ := own_slice ho3
  have k4 := (hb3.block w.heap.size (blk_lt HK4.out)).trans HK4.out
  have HO3 := Lib.hid ho3
  have HB3 : Hid (Below w.heap.size w w3) := Lib.hid (HB2.out.trans (hb3.mono HB2.out.size))
  have HK3 := Lib.hid k4
  clear ho3 hb3 k4 HK4 c4
  gi_wp2
  refine ⟨trivial, ?_⟩
  refine (back_in 8 H l.length ch _).mono ?_
  rintro e w' ⟨rfl, rfl⟩
  gi_wp2
  obtain ⟨W4, hW4⟩ : ∃ W4, (w3.alloc (.cells #[.slice A3 a.length c3] 22)).alloc (.cells #[.slice H l.length ch] 35) = W4 := ⟨_, rfl⟩
  have s4 : W4.heap.size = w3.heap.size + 2 := by rw [← hW4]; simp
  have ko : W4.heap[w3.heap.size]? = some (.cells #[.slice A3 a.length c3] 22 (0, 0)) := by
    rw [← hW4]
    exact (Below.heap_alloc _ _ _ (by simp)).trans (heap_alloc_new w3 _)
  have kb : W4.heap[w3.heap.size + 1]? = some (.cells #[.slice H l.length ch] 35 (0, 0)) := by
    rw [← hW4]
    have := World.alloc_heap_new (w3.alloc (.cells #[.slice A3 a.length c3] 22)) (.cells #[.slice H l.length ch] 35)
    rwa [World.size_alloc] at this
  have hb4 : Below w.heap.size w W4 := by rw [← hW4]; exact below_alloc (below_alloc HB3.out _) _
  have hs3 : w.heap.size < w3.heap.size := blk_lt HK3.out
  have k0 : W4.heap[w.heap.size]? = some (.cells #[.slice B b.length cb] 22 (0, 0)) := by
    rw [← hW4]
    exact (Below.heap_alloc _ _ _ (by rw [World.size_alloc]; omega)).trans ((Below.heap_alloc _ _ _ hs3).trans HK3.out)
  have ho4 : W4.ownsRow w.heap.size 9 1 (.slice A3 a.length c3) a.length (encs Value.string a) := by
    rw [← hW4]
    exact ((own_weaken HO3.out HB2.out.size).alloc _).alloc _
  rw [hW4]
  clear hW4
  refine wpIn_rangeFunc_ok (Bx := none) rfl (by decide) (gf := 48) (lb := #[.pointer (some ⟨w3.heap.size + 1, 0, none⟩)]) rfl trivial (enters_of Try.func48 (by kernel_rfl) rfl)
    (back_seq 8 (by decide) w W4 base H ch l HV.out hll (w3.heap.size + 1) hb4 (by omega) kb) (fun q h => by cases h) (fun h k => h.trans k)
    (fun W' q o o' hq _ _ _ => ⟨below_put (Below.refl _ _) (by omega) o', World.putObj_heap_other (by omega)⟩) (fun _ => rfl)
    (ApI w w3.heap.size (w3.heap.size + 1) (.slice B b.length cb) (.slice H l.length ch) a b l) (apI_bears w _ _ _ _ _ a b l (by omega) (by omega) (by omega)) ⟨_, ko, by
      simp only [List.length_nil, Nat.sub_zero, List.drop_length]
      exact ho4, k0, kb, hb4⟩
    (ApA l (fun x k => { tmps := #[.slice A a.length ca, .slice B b.length cb, .slice H l.length ch, undef, .pointer (some ⟨w.heap.size, 0, none⟩), undef, .slice none 0 0, .int .i64 0, .pointer (some ⟨w3.heap.size, 0, none⟩), undef, .pointer (some ⟨k, 0, none⟩), undef, undef, undef, undef, .slice A a.length ca, .int .i64 (a.length : Int), .bool false, .bool false, .slice B b.length cb, .int .i64 (b.length : Int), .bool false, .bool false, .slice H l.length ch, .slice A a.length ca, .int .i64 (a.length : Int), .slice B b.length cb, .int .i64 (b.length : Int), .bool true, .bool false, .slice A a.length ca, .slice A3 a.length c3, .slice H l.length ch, .func (.func 48) #[] #[.pointer (some ⟨w3.heap.size + 1, 0, none⟩)], .int .i64 (x : Int), .agg #[.complex .f64 (fl (hkD l x).1.1) (fl (hkD l x).1.2), .complex .f64 (fl (hkD l x).2.1) (fl (hkD l x).2.2)], undef, undef, undef, undef, undef, undef, undef, undef, undef, undef, undef, undef, undef, undef, undef, undef, undef, undef, undef, undef, undef], defers := [] })) ?ext ?assign ?body ?done
  case ext =>
    rintro x W a1 W1 ⟨rfl, _⟩ hlt
    exact ⟨by simp, fun k hk => Below.heap_alloc _ _ _ hk, rfl, rfl, rfl, (Below.refl _ W).alloc (by omega) _, Below.heap_alloc _ _ _ (by omega)⟩
  case assign =>
    intro q x W K hK
    simp only [hkV]
    have hs1 := sto_cx (fl (hkD l x).1.1) (fl (hkD l x).1.2)
    have hs2 := sto_cx (fl (hkD l x).2.1) (fl (hkD l x).2.2)
    have HK := Lib.hid hK
    clear hK
    gi_wp2
    exact HK.out _ _ ⟨rfl, rfl⟩
  case body =>
    rintro q pre x a1 W0 Wa o ⟨rfl, rfl⟩ hlt hI ⟨hxl, hpre⟩
    obtain ⟨v, kv, hov, kb0, kk, hbl⟩ := hI
    obtain ⟨W1, hW1⟩ : ∃ W1, W1 = (W0.alloc (.cells #[.complex .f64 (fl (hkD l x).1.1) (fl (hkD l x).1.2), .complex .f64 (fl (hkD l x).2.1) (fl (hkD l x).2.2)] 60)).putObj (W4.heap.size + 1) o := ⟨_, rfl⟩
    have kh : W1.heap[W0.heap.size]? = some (.cells #[.complex .f64 (fl (hkD l x).1.1) (fl (hkD l x).1.2), .complex .f64 (fl (hkD l x).2.1) (fl (hkD l x).2.2)] 60 (0, 0)) := by
      rw [hW1]
      exact (World.putObj_heap_other (by omega)).trans (heap_alloc_new W0 _)
    rw [← hW1] at kv hov kb0 kk hbl ⊢
    rw [show l.length - pre.length = x + 1 by rw [hpre, revs_len]; omega] at hov
    have h1 : W1.cell? ⟨W0.heap.size, 0, none⟩ = some (.complex .f64 (fl (hkD l x).1.1) (fl (hkD l x).1.2)) := blk_cell kh 0
    have h2 : W1.cell? ⟨W0.heap.size, 1, none⟩ = some (.complex .f64 (fl (hkD l x).2.1) (fl (hkD l x).2.2)) := blk_cell kh 1
    have c8 : W1.cell? ⟨w3.heap.size, 0, none⟩ = some v := blk_cell kv 0
    have c4 : W1.cell? ⟨w.heap.size, 0, none⟩ = some (.slice B b.length cb) := blk_cell kb0 0
    obtain ⟨kk1, p1, hok, hp1, hp2⟩ := okH_at l 0 (0, 0) HOK.out (Nat.zero_le _) (Nat.zero_le _) x hxl
    rw [drop_hk hxl] at hok
    obtain ⟨g1, g2, g3, g4, g5, g6, g7, g8, g9⟩ := hok
    have hal := app_len a b (l.drop (x + 1)) 1 (hkD l x).2 g9 g3 g4
    obtain ⟨R, hR⟩ : ∃ R, R = app a b (l.drop (x + 1)) := ⟨_, rfl⟩
    have hR2 : app a b (l.drop x) = rep1 b (hkD l x) R := by rw [drop_hk hxl, hR]; rfl
    rw [← hR] at hov hal
    obtain ⟨⟨⟨x1, y1⟩, ⟨z1, w1⟩⟩, hd⟩ : ∃ h, h = hkD l x := ⟨_, rfl⟩
    dsimp only
    rw [← hd] at h1 h2 g1 g2 g3 g4 g5 hal hR2 ⊢
    simp only at h1 h2 g1 g2 g3 g4 g5 hal
    obtain ⟨i0, hi0, _, hsz0, _⟩ := info_parts infoS
    have hcut := cut_midS (P := Try.prog) 22 9 Try.underlying22 hi0 hsz0 B b.length cb y1 w1 g2 (by omega)
    obtain ⟨BY, hBY⟩ : ∃ BY, BY = (if cb = y1 then B else B.map (·.add y1)) := ⟨_, rfl⟩
    rw [← hBY] at hcut
    have HBY := Lib.hid hBY
    clear hBY
    have HP1 := Lib.hid (parts_calls x1 y1 (by omega) (by omega) W1)
    have HP2 := Lib.hid (parts_calls z1 w1 (by omega) (by omega) W1)
    have HI := Lib.hid (And.intro hov (And.intro kv (And.intro kb0 (And.intro kk hbl))))
    have HD := Lib.hid (And.intro hR2 (And.intro hpre hxl))
    have HG := Lib.hid (And.intro g1 (And.intro g2 (And.intro g3 (And.intro g4 (And.intro g5 hal)))))
    clear hov kv kb0 kk hbl hR2 hR hd hpre hW1 kh g1 g2 g3 g4 g5 g6 g7 g8 g9 hal hp1 hp2 hxl
    gi_wp2
    refine ⟨trivial, ?_⟩
    refine (callsIn_wide.2 HP1.out).mono ?_
    rintro e w' ⟨rfl, rfl⟩
    gi_wp2
    refine ⟨trivial, ?_⟩
    refine (callsIn_wide.2 HP2.out).mono ?_
    rintro e w' ⟨rfl, rfl⟩
    gi_wp2
    refine round_still_tail 7 (by kernel_rfl) (by kernel_rfl) (fun _ _ h => h) (notDefer_all (by kernel_rfl)) ?_
    simp only [List.take_succ_cons, List.take_zero, List.drop_succ_cons, List.drop_zero]
    repeat still_step
    refine wpStill_nil ?_
    obtain ⟨hov, kv, kb0, kk, hbl⟩ := HI.out
    obtain ⟨g1, g2, g3, g4, g5, hal⟩ := HG.out
    have hys : ((b.drop y1).take (w1 - y1)).length = w1 - y1 := by rw [List.length_take, List.length_drop]; omega
    have hry := reads_midS (lo := y1) (hi := w1) (HLB.out.below hbl) g2 g4 hcb
    rw [← HBY.out] at hry
    have hC := rep_calls w'.drew w.heap.size v R ((b.drop y1).take (w1 - y1)) x1 z1 hov hbl.size g1 (by omega) BY (cb - y1) (by rw [hys]; exact hry) (fun h0 ad e e2 => by
      rw [hys] at h0
      obtain ⟨ad0, e0, hc0⟩ := HLB.out.2.2 (by omega)
      have hlt0 : ad0.block < w.heap.size := by
        have h := World.block_lt_of_cell? w _ (hc0 0 (by omega))
        rwa [addn_block] at h
      have e3 : ad.block = ad0.block := by
        have h := HBY.out
        rw [e, e0] at h
        split at h
        · cases h; rfl
        · cases h; exact addn_block _ _
      have := own_base hov _ e2.symm
      omega) (by rw [hys]; omega) (by omega) (by rw [hys]; omega)
    rw [hys] at hC
    have HC2 := Lib.hid hC
    clear hov kv kb0 kk hbl g1 g2 g3 g4 g5 hal hry hC hcut hys h1 h2
    go_wp2_with fail
    refine HC2.out.mono ?_
    rintro e w5 ⟨v5, rfl, ho5, hg5⟩
    obtain ⟨m5, hm5⟩ : ∃ m, m = (List.take x1 R ++ List.take (w1 - y1) (List.drop y1 b) ++ List.drop z1 R).length := ⟨_, rfl⟩
    obtain ⟨A5, c5, rfl⟩ : ∃ A c, v5 = .slice A m5 c := by rw [hm5]; exact own_slice ho5
    generalize hv5 : Value.slice A5 m5 c5 = v5 at *
    obtain ⟨hov, kv, kb0, kk, hbl⟩ := HI.out
    have hneT : ∀ (k : Nat) (c : Value) (T : TypeId), T ≠ 9 → w'.heap[k]? = some (.cells #[c] T (0, 0)) → some k ≠ v.ownBlock := by
      intro k c T hT hk e
      obtain ⟨cur, hc⟩ := own_typed hov k e.symm
      rw [hk] at hc
      cases hc
      exact hT rfl
    have kv5 := (hg5.block _ (blk_lt kv) (hneT _ _ 22 (by decide) kv)).trans kv
    have kb5 := (hg5.block _ (blk_lt kb0) (hneT _ _ 22 (by decide) kb0)).trans kb0
    have kk5 := (hg5.block _ (blk_lt kk) (hneT _ _ 35 (by decide) kk)).trans kk
    have hb5 : Below w.heap.size w' w5 := ⟨hg5.os, hg5.tape, hg5.output, hg5.size, fun i hi => hg5.block i (Nat.lt_of_lt_of_le hi hbl.size) (fun e => by have := own_base hov i e.symm; omega)⟩
    have hkeep : KeepsOthers w' w5 := (KeepsOthers.drew w').trans (KeepsOthers.of_grownBy hg5 (fun j o hj ho => by
      obtain ⟨cur, hc⟩ := own_typed hov j hj
      have ho : w'.heap[j]? = some o := ho
      rw [hc] at ho
      cases ho
      rfl))
    have c8 : w5.cell? ⟨w3.heap.size, 0, none⟩ = some v := blk_cell kv5 0
    have f8 := blk_frozen kv5 0
    have hlast : (w5.setCell ⟨w3.heap.size, 0, none⟩ v5).heap[w3.heap.size]? = some (.cells #[v5] 22 (0, 0)) := heap_setCell_same w5 _ 0 _ _ v5 kv5
    have hown6 : (w5.setCell ⟨w3.heap.size, 0, none⟩ v5).ownsRow w.heap.size 9 1 v5 _ _ := own_move ho5 (fun k hk => Below.heap_setCell _ _ _ k (fun e => by
      obtain ⟨cur, hc⟩ := own_typed ho5 k hk
      have e : k = w3.heap.size := e
      rw [e, kv5] at hc
      cases hc))
    have hP : KeepsFrom W4.heap.size w' (w5.setCell ⟨w3.heap.size, 0, none⟩ v5) ∧ Kc w.heap.size (w3.heap.size + 1) w' (w5.setCell ⟨w3.heap.size, 0, none⟩ v5) ∧ ApI w w3.heap.size (w3.heap.size + 1) (.slice B b.length cb) (.slice H l.length ch) a b l (pre ++ [x]) (w5.setCell ⟨w3.heap.size, 0, none⟩ v5) := by
      have hb6 : Below w.heap.size w' (w5.setCell ⟨w3.heap.size, 0, none⟩ v5) := hb5.setCell (p := ⟨w3.heap.size, 0, none⟩) (Nat.le_of_lt hs3) _
      have kk6 : (w5.setCell ⟨w3.heap.size, 0, none⟩ v5).heap[w3.heap.size + 1]? = some (.cells #[.slice H l.length ch] 35 (0, 0)) := (Below.heap_setCell _ _ _ _ (by simp)).trans kk5
      refine ⟨(hkeep.trans (KeepsOthers.setCell _ _ _)).from _, ⟨hb6, kk6.trans kk.symm⟩, v5, hlast, ?_, (Below.heap_setCell _ _ _ _ (by simp only; omega)).trans kb5, kk6, hbl.trans hb6⟩
      obtain ⟨hR2, hpre, hxl⟩ := HD.out
      have e1 : l.length - (pre ++ [x]).length = x := by rw [List.length_append, List.length_singleton, hpre, revs_len]; omega
      rw [e1, hR2]
      exact hown6
    have HP := Lib.hid hP
    subst hv5
    clear hm5 hP hown6 hlast hkeep hb5 kk5 kb5 hneT hbl kk kb0 kv hov hg5 ho5 HC2
    go_wp2_with fail
    exact HP.out
  case done =>
    rintro D xs W hD hS ⟨v, kv, hov, kb0, kk, hbl⟩ hK
    rw [hS, revs_len, Nat.sub_zero, Nat.sub_self, List.drop_zero] at hov
    have c8 : W.cell? ⟨w3.heap.size, 0, none⟩ = some v := blk_cell kv 0
    have HO := Lib.hid (And.intro hov hbl)
    clear hov hbl kb0 kk kv
    gi_wp2
    refine ⟨by simp, .inl ⟨_, _, rfl, run_takeDeferred hK, ?_⟩⟩
    refine ⟨_, results_tmp2 rfl _ _ _, v, rfl, own_move HO.out.1 fun k hk => World.putObj_heap_other (fun e => ?_), below_put HO.out.2 (by omega) _⟩
    obtain ⟨cur, hc⟩ := own_typed HO.out.1 k hk
    rw [e, hK] at hc
    cases hc
end Go.Proofs.Ytmnpcignolofaaa
