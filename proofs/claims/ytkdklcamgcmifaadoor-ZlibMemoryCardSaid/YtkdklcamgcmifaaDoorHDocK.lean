/- The document's reader: lengths. -/
import Derived.Test.YtkdklcamgcmifaaDoorHRDb
import Derived.Deep.CutRange
namespace Go.Proofs.YtkdklcamgcmifaaDoor
set_option linter.unusedVariables false
set_option linter.unusedSimpArgs false
open Go.RowKit Go.Proofs.YtkdklcamgcmifaaDoorW.PrintWords Go.Proofs.YtkdklcamgcmifaaDoorW.PrintMore
theorem order_calls (w : World) : Calls Tryd.prog 55 #[] w fun ee w' => ee = .returned (.slice (some ⟨w.heap.size, 0, none⟩) 19 19) ∧ w' = w.alloc (.cells (fstC ordT).toArray 3) := by
  go_enter Tryd.func55, Tryd.ntmps55
  go_wp2_with fail
  go_ret
  exact ⟨rfl, rfl⟩
def z19 : List Nat := List.replicate 19 0
theorem z19_cells : madeCells #[.int .i64 0] 19 = (fstC z19).toArray := by kernel_rfl
theorem SK.cell2 {g : Nat} {W W1 : World} (h : SK 2 g W W1) (hg : g < W.heap.size) {b j : Nat} (hb : W.heap.size ≤ b) (u : Value) : SK 2 g W (W1.setCell ⟨b, j, none⟩ u) := by
  have hrow : rowK 2 (W1.setCell ⟨b, j, none⟩ u) g = rowK 2 W1 g := by simp only [rowK, Below.heap_setCell W1 ⟨b, j, none⟩ u g (show g ≠ b by omega)]
  refine ⟨h.os, h.tape, h.output, by simpa [World.setCell] using h.size, fun i hi hg' hr => (Below.heap_setCell W1 ⟨b, j, none⟩ u i (show i ≠ b by omega)).trans (h.keep i hi hg' hr), ?_⟩
  rw [hrow]; exact h.row
theorem Bd.off {w0 : World} {A : Option Addr} {c most g q : Nat} {p out : List Int} {e : Int} {W W' : World} {b : Nat} {cs : Array Value} {t : TypeId} {fr : Nat × Nat} (h : Bd w0 A c p most g q out e W) (hb : W.heap[b]? = some (.cells cs t fr)) (h1 : t ≠ 47) (h2 : t ≠ 5) (hk : ∀ i, i ≠ b → W'.heap[i]? = W.heap[i]?) : Bd w0 A c p most g q out e W' := by
  have h' := h
  obtain ⟨v, hb', ho, _⟩ := h'
  refine h.keep (hk g ?_) fun i hi => hk i ?_
  · rintro rfl
    rw [hb'] at hb
    simp only [Option.some.injEq, Obj.cells.injEq] at hb
    exact h1 hb.2.1.symm
  · rintro rfl
    rw [rowK_eq hb' rfl] at hi
    obtain ⟨cur, hc⟩ := own_typed ho i hi
    rw [hb] at hc
    simp only [Option.some.injEq, Obj.cells.injEq] at hc
    exact h2 hc.2.1
theorem fst_next {N T q x q2 c k : Nat} {e e2 : Int} {l : List Nat} {f : List Nat → Rdr (List Nat × List Nat)} {res : Except Int ((List Nat × List Nat) × Nat)} (h : DkC N T q e 3 x q2 e2) (hr : Rest e (bndR (fstR c (k + 1) l) f T N q) res) :
    Rest e2 (bndR (fstR c k (l.set (ordT.getD (c - (k + 1)) 0) x)) f T N q2) res ∧ (e2 = 0 → e = 0) := by
  rcases hr with ⟨rfl, hr⟩ | ⟨he, hr⟩
  · rcases h.2 with ⟨h1, _⟩ | ⟨_, ⟨h2, rfl⟩ | ⟨h2, rfl⟩⟩
    · exact absurd rfl h1
    · rw [fstR_step h2] at hr
      exact ⟨.inl ⟨rfl, hr⟩, fun _ => rfl⟩
    · rw [fstR_short h2] at hr
      exact ⟨.inr ⟨by decide, hr.symm⟩, fun h => absurd h (by decide)⟩
  · rcases h.2 with ⟨_, _, rfl⟩ | ⟨h0, _⟩
    · exact ⟨.inr ⟨he, hr⟩, id⟩
    · exact absurd h0 he
theorem nxO_ok {ls l' : List Nat} {s want T N q q' : Nat} (hs : s < 19) (hx : ∀ x ∈ ls, x < 16) (h : nxO ls s want T N q = .ok (l', q')) : ls.length < l'.length ∧ l'.length ≤ want ∧ ∀ x ∈ l', x < 16 := by
  have key : ∀ v t, 1 ≤ t → v < 16 → (if want < ls.length + t then badR 4 else retR (ls ++ List.replicate t v)) = (fun _ _ _ => .error 4) ∨ (ls.length < (ls ++ List.replicate t v).length ∧ (ls ++ List.replicate t v).length ≤ want ∧ ∀ x ∈ ls ++ List.replicate t v, x < 16) := by
    intro v t ht hv
    by_cases hb : want < ls.length + t
    · left; rw [if_pos hb]; rfl
    · right
      simp only [List.length_append, List.length_replicate, List.mem_append]
      exact ⟨by omega, by omega, fun x h => h.elim (hx x) fun h => by rw [List.eq_of_mem_replicate h]; exact hv⟩
  have fin : ∀ v t q2, 1 ≤ t → v < 16 → (if want < ls.length + t then badR 4 else retR (ls ++ List.replicate t v)) T N q2 = .ok (l', q') → ls.length < l'.length ∧ l'.length ≤ want ∧ ∀ x ∈ l', x < 16 := by
    intro v t q2 ht hv h
    have hk := key v t ht hv
    by_cases hb : want < ls.length + t
    · rw [if_pos hb] at h; cases h
    · rw [if_neg hb] at h hk
      rcases hk with hk | hk
      · have := congrFun (congrFun (congrFun hk T) N) q2
        rw [h] at this; cases this
      · simp only [retR, Except.ok.injEq, Prod.mk.injEq] at h
        rw [← h.1]; exact hk
  unfold nxO nxtR at h
  by_cases h16 : s = 16
  · subst h16
    rw [if_pos rfl] at h
    by_cases hl : ls.length = 0
    · rw [if_pos hl] at h; cases h
    · rw [if_neg hl] at h
      simp only [bndR] at h
      cases hk : tk 2 T N q with
      | error e => rw [hk] at h; cases h
      | ok r =>
        rw [hk] at h
        exact fin _ _ _ (by omega) (hx _ (getD_mem (by omega))) h
  · rw [if_neg h16] at h
    by_cases h17 : s = 17
    · subst h17
      rw [if_pos rfl] at h
      simp only [bndR] at h
      cases hk : tk 3 T N q with
      | error e => rw [hk] at h; cases h
      | ok r =>
        rw [hk] at h
        exact fin 0 _ _ (by omega) (by omega) h
    · rw [if_neg h17] at h
      by_cases h18 : s = 18
      · subst h18
        rw [if_pos rfl] at h
        simp only [bndR] at h
        cases hk : tk 7 T N q with
        | error e => rw [hk] at h; cases h
        | ok r =>
          rw [hk] at h
          exact fin 0 _ _ (by omega) (by omega) h
      · rw [if_neg h18] at h
        exact fin s 1 q (by omega) (by omega) h
/-- A round of lengths. -/
theorem lns_round {fl ls l' : List Nat} {want k T N q x q4 q' : Nat} {e4 e' : Int} {f : List Nat → Rdr (List Nat × List Nat)} {res : Except Int ((List Nat × List Nat) × Nat)} (hl : ls.length < want) (h1 : DsC (symL fl T N q) q 0 x q4 e4) (h2 : NxC (nxO ls x want T N q4) e4 l' q' e')
    (hr : bndR (lnsR fl want (k + 1) ls) f T N q = res) : Rest e' (bndR (lnsR fl want k l') f T N q') res := by
  rcases h1 with ⟨h, _⟩ | ⟨_, ⟨hs, rfl⟩ | ⟨hs, he, _⟩⟩
  · exact absurd rfl h
  · rw [lns_sym hl hs] at hr
    rcases h2 with ⟨h, _⟩ | ⟨_, ⟨rfl, h⟩ | ⟨he, h⟩⟩
    · exact absurd rfl h
    · refine .inl ⟨rfl, ?_⟩
      rw [← hr]
      unfold nxO at h
      simp only [bndR] at h ⊢
      cases hn : nxtR ls x T N q4 with
      | error e => rw [hn] at h; cases h
      | ok r =>
        rw [hn] at h
        simp only at h ⊢
        by_cases hb : want < ls.length + r.1.2
        · rw [if_pos hb] at h; cases h
        · rw [if_neg hb] at h
          simp only [retR, Except.ok.injEq, Prod.mk.injEq] at h
          rw [if_neg hb, ← h.1, ← h.2]
          rfl
    · refine .inr ⟨he, ?_⟩
      rw [← hr]
      unfold nxO at h
      simp only [bndR] at h ⊢
      cases hn : nxtR ls x T N q4 with
      | error e => rw [hn] at h; cases h; rfl
      | ok r =>
        rw [hn] at h
        simp only at h ⊢
        by_cases hb : want < ls.length + r.1.2
        · rw [if_pos hb] at h ⊢; cases h; rfl
        · rw [if_neg hb] at h; cases h
  · rcases h2 with ⟨_, rfl⟩ | ⟨h, _⟩
    · exact .inr ⟨he, by rw [← hr]; exact lns_err hl hs f⟩
    · exact absurd h he
/-- The row of lengths under way: bounds where nothing was met. -/
def LnB (want n : Nat) (ls : List Nat) (e : Int) : Prop := e = 0 → ls.length ≤ want ∧ want ≤ ls.length + n ∧ ∀ x ∈ ls, x < 16
theorem LnB.step {ls l' : List Nat} {want n T N x q4 q' : Nat} {e4 e' : Int} (h : LnB want (n + 1) ls 0) (hx : x < 19) (h2 : NxC (nxO ls x want T N q4) e4 l' q' e') : LnB want n l' e' := by
  rintro rfl
  obtain ⟨h3, h4, h5⟩ := h rfl
  rcases h2 with ⟨ha, hb⟩ | ⟨_, ⟨_, ha⟩ | ⟨ha, _⟩⟩
  · exact absurd hb.symm ha
  · have := nxO_ok hx h5 ha
    exact ⟨this.2.1, by omega, this.2.2⟩
  · exact absurd rfl ha
theorem reads_nilI (w : World) : ReadsInt w .i64 none ([] : List Nat).length (natI []) := ⟨rfl, by simp, fun h => absurd h (by simp)⟩
theorem ds_lt {fl : List Nat} {T N q q' x : Nat} {e e' : Int} (h : DsC (symL fl T N q) q e x q' e') (hl : fl.length = 19) : x < 19 := by
  rcases h with ⟨_, rfl, _⟩ | ⟨_, ⟨h, _⟩ | ⟨_, _, rfl⟩⟩
  · omega
  · have := symL_lt h (by omega)
    omega
  · omega
theorem ln_reads {W : World} {base cv n : Nat} {ad : Addr} {ls : List Nat} (ho : W.ownsRow base 3 1 (.slice (some ad) ls.length cv) ls.length (nums .i64 (natI ls))) (hn : n < ls.length) :
    ReadsInt W .i64 (some ad) (ls.take n).length (natI (ls.take n)) ∧ ReadsInt W .i64 (some (ad.add n)) (ls.drop n).length (natI (ls.drop n)) := by
  have hcv := (own_capI ho).1
  constructor
  · have h := (own_reads' ho).take_ n (by omega)
    rw [show natI (ls.take n) = (natI ls).take n by simp [natI, List.map_take], List.length_take, Nat.min_eq_left (by omega)]
    exact h
  · have h := (own_reads' ho).drop_ n (by omega) hcv
    rw [if_neg (by omega)] at h
    rw [show natI (ls.drop n) = (natI ls).drop n by simp [natI, List.map_drop], List.length_drop]
    exact h
theorem dynC_ok {ls : List Nat} {x1 n T N q : Nat} (hn : n = x1 + 257) (h1 : okT (ls.take n) false = true) (h2 : okT (ls.drop n) true = true) (h3 : ls.getD 256 0 ≠ 0) : dynC x1 ls T N q = .ok ((ls.take n, ls.drop n), q) := by
  subst hn
  unfold dynC
  rw [if_pos ⟨h1, h2, h3⟩]
  rfl
/-- How lengths ends. -/
def LnT (w0 : World) (A : Option Addr) (c : Nat) (p : List Int) (most g q : Nat) (out : List Int) (W : World) (ee : Ending) (w' : World) : Prop :=
  ∃ (l d : List Nat) (Al Ad : Option Addr) (cl cd q' : Nat) (e' : Int), ee = .returned (.tuple #[.slice Al l.length cl, .slice Ad d.length cd]) ∧ Hid (SK 2 g W w') ∧ Hid (Bd w0 A c p most g q' out e' w') ∧ Hid (ReadsInt w' .i64 Al l.length (natI l)) ∧ Hid (ReadsInt w' .i64 Ad d.length (natI d)) ∧
    Hid (l.length ≤ 1000 ∧ d.length ≤ 1000 ∧ (∀ x ∈ l, x < 16) ∧ ∀ x ∈ d, x < 16) ∧ ((e' = 0 ∧ dynR (numB p) (8 * p.length) q = .ok ((l, d), q')) ∨ (e' ≠ 0 ∧ dynR (numB p) (8 * p.length) q = .error e'))
theorem three_dk {N T q q1 q2 q3 x1 x2 x3 : Nat} {e1 e2 e3 : Int} (h1 : DkC N T q 0 5 x1 q1 e1) (h2 : DkC N T q1 e1 5 x2 q2 e2) (h3 : DkC N T q2 e2 4 x3 q3 e3) : Rest e3 (dynA x1 x2 x3 T N q3) (dynR T N q) := by
  rw [dynR_eq]
  rcases h1.2 with ⟨h, _⟩ | ⟨_, ⟨a1, rfl⟩ | ⟨a1, rfl⟩⟩
  · exact absurd rfl h
  · rcases h2.2 with ⟨h, _⟩ | ⟨_, ⟨a2, rfl⟩ | ⟨a2, rfl⟩⟩
    · exact absurd rfl h
    · rcases h3.2 with ⟨h, _⟩ | ⟨_, ⟨a3, rfl⟩ | ⟨a3, rfl⟩⟩
      · exact absurd rfl h
      · exact .inl ⟨rfl, by simp only [bndR, a1, a2, a3]⟩
      · exact .inr ⟨by decide, by simp only [bndR, a1, a2, a3]⟩
    · rcases h3.2 with ⟨_, rfl, rfl⟩ | ⟨h, _⟩
      · exact .inr ⟨by decide, by simp only [bndR, a1, a2]⟩
      · exact absurd h (by decide)
  · rcases h2.2 with ⟨_, rfl, rfl⟩ | ⟨h, _⟩
    · rcases h3.2 with ⟨_, rfl, rfl⟩ | ⟨h, _⟩
      · exact .inr ⟨by decide, by simp only [bndR, a1]⟩
      · exact absurd h (by decide)
    · exact absurd h (by decide)
set_option maxRecDepth 8000 in
set_option maxHeartbeats 8000000 in
theorem dlengths_calls (w0 : World) (A : Option Addr) (c : Nat) (p : List Int) (most g q : Nat) (out : List Int) (W : World) (hr : Bd w0 A c p most g q out 0 W) (hw : Rw w0 A c p g W) :
    Calls Tryd.prog 34 #[.pointer (some ⟨g, 0, none⟩)] W fun ee w' => LnT w0 A c p most g q out W ee w' := by
  have HR := Lib.hid hr
  have HW := Lib.hid hw
  obtain ⟨res, hres⟩ : ∃ res, dynR (numB p) (8 * p.length) q = res := ⟨_, rfl⟩
  have HRES := Lib.hid hres
  clear hr hw hres
  go_enter Tryd.func34, Tryd.ntmps34
  go_wp2_with fail
  refine (dnum_calls w0 A c p most g q out 0 W 5 HR.out HW.out (by omega)).mono ?_
  rintro ee w1 ⟨x1, q1, e1, rfl, hs1, hb1, hd1⟩
  have HS1 := Lib.hid hs1.out
  have HB1 := Lib.hid hb1.out
  have HD1 : Hid (DkC (8 * p.length) (numB p) q 0 5 x1 q1 e1) := Lib.hid hd1
  clear hs1 hb1 hd1
  go_wp2_with fail
  refine (dnum_calls w0 A c p most g q1 out e1 w1 5 HB1.out (HW.out.sk2 HR.out HS1.out) (by omega)).mono ?_
  rintro ee w2 ⟨x2, q2, e2, rfl, hs2, hb2, hd2⟩
  have HS2 := Lib.hid (HS1.out.trans hs2.out)
  have HB2 := Lib.hid hb2.out
  have HD2 : Hid (DkC (8 * p.length) (numB p) q1 e1 5 x2 q2 e2) := Lib.hid hd2
  clear hs2 hb2 hd2
  go_wp2_with fail
  refine (dnum_calls w0 A c p most g q2 out e2 w2 4 HB2.out (HW.out.sk2 HR.out HS2.out) (by omega)).mono ?_
  rintro ee w3 ⟨x3, q3, e3, rfl, hs3, hb3, hd3⟩
  have HS3 := Lib.hid (HS2.out.trans hs3.out)
  have HB3 := Lib.hid hb3.out
  have HX := Lib.hid (three_dk HD1.out HD2.out hd3)
  have HLT := Lib.hid (show x1 < 32 ∧ x2 < 32 ∧ x3 < 16 from ⟨HD1.out.1, HD2.out.1, hd3.1⟩)
  clear hs3 hb3 hd3 HD1 HD2 HS1 HB1 HS2 HB2
  rw [HRES.out] at HX
  go_upto_region 2 with fail
  have hx1 : (x1 : Int) < 32 := by have := HLT.out; omega
  have hx2 : (x2 : Int) < 32 := by have := HLT.out; omega
  have hx3 : (x3 : Int) < 16 := by have := HLT.out; omega
  go_cut [26] from 15 (fun b wc => b = .bool (decide (29 < x1 ∨ 29 < x2)) ∧ Hid (wc = w3))
  case first =>
    by_cases h1 : 29 < x1
    · have i1 : (x1 : Int) > 29 := by omega
      go_wp2_with fail
      go_meet
      case rel => exact ⟨by simp [h1], Lib.hid rfl⟩
    · have i1 : ¬ (x1 : Int) > 29 := by omega
      by_cases h2 : 29 < x2
      · have i2 : (x2 : Int) > 29 := by omega
        go_wp2_with fail
        go_meet
        case rel => exact ⟨by simp [h2], Lib.hid rfl⟩
      · have i2 : ¬ (x2 : Int) > 29 := by omega
        go_wp2_with fail
        go_meet
        case rel => exact ⟨by simp [h1, h2], Lib.hid rfl⟩
  case rest =>
    obtain ⟨rfl, hwc⟩ := hcut
    obtain rfl := hwc.out
    clear hwc
    generalize hb : decide (29 < x1 ∨ 29 < x2) = b
    go_upto_if 26 with fail
    go_cut [] from 15 (fun wc => ∃ e4 : Int, Hid (SK 2 g W wc) ∧ Hid (Bd w0 A c p most g q3 out e4 wc) ∧ Hid (Rest e4 (bndR (fstR (x3 + 4) (x3 + 4) (List.replicate 19 0)) (dynB x1 x2) (numB p) (8 * p.length) q3) res) ∧ Hid (e4 = 0 → x1 ≤ 29 ∧ x2 ≤ 29))
    case first =>
      cases b with
      | true =>
        have hbad : 29 < x1 ∨ 29 < x2 := by simpa using hb
        go_wp2_with fail
        refine (dfail_calls w0 A c p most g q3 out e3 wc HB3.out).mono ?_
        rintro ee w4 ⟨rfl, hs4, hb4⟩
        have HS4 := Lib.hid (HS3.out.trans hs4)
        have HB4 := Lib.hid hb4
        clear hs4 hb4
        go_wp2_with fail
        go_meet
        case rel =>
          refine ⟨fst e3 4, HS4, HB4, Lib.hid (.inr ?_), Lib.hid ?_⟩
          · unfold fst
            rcases HX.out with ⟨rfl, h⟩ | ⟨h, h2⟩
            · rw [if_pos rfl]
              exact ⟨by decide, by rw [← h]; unfold dynA; rw [if_pos (by omega)]; rfl⟩
            · rw [if_neg h]; exact ⟨h, h2⟩
          · unfold fst
            by_cases h : e3 = 0
            · rw [if_pos h]; intro h; exact absurd h (by decide)
            · rw [if_neg h]; intro h2; exact absurd h2 h
      | false =>
        have hok : ¬ (29 < x1 ∨ 29 < x2) := by simpa using hb
        go_wp2_with fail
        go_meet
        case rel =>
          refine ⟨e3, HS3, HB3, Lib.hid ?_, Lib.hid fun _ => by omega⟩
          rcases HX.out with ⟨h1, h⟩ | h
          · exact .inl ⟨h1, by rw [← h]; unfold dynA; rw [if_neg (by omega)]⟩
          · exact .inr h
    case rest =>
      obtain ⟨e4, HS4, HB4, HX4, HE4⟩ := hcut
      have hmi : ∀ W : World, (Instr.makeSlice 51 (.int .i64 19) (.int .i64 19)).run Tryd.prog W = .ok (.slice (some ⟨W.heap.size, 0, none⟩) 19 19) (W.alloc (.cells (fstC z19).toArray 3)) := by
        intro W
        have h := print_make (P := Tryd.prog) 51 3 .i64 8 Tryd.underlying51 infoIntB (by decide) 19 (by decide) W
        rw [z19_cells] at h
        exact h
      go_wp2_with fail
      refine (order_calls _).mono ?_
      rintro ee w5 ⟨rfl, rfl⟩
      clear hmi
      have hF6 : ((wc.alloc (.cells (fstC z19).toArray 3)).alloc (.cells (fstC ordT).toArray 3)).heap[wc.heap.size]? = some (.cells (fstC z19).toArray 3 (0, 0)) := (Below.heap_alloc _ _ _ (by simp)).trans (heap_alloc_new wc _)
      have hO6 : ((wc.alloc (.cells (fstC z19).toArray 3)).alloc (.cells (fstC ordT).toArray 3)).heap[wc.heap.size + 1]? = some (.cells (fstC ordT).toArray 3 (0, 0)) := by
        have := heap_alloc_new (wc.alloc (.cells (fstC z19).toArray 3)) (.cells (fstC ordT).toArray 3)
        rw [World.size_alloc] at this
        exact this
      have hb6 : Below wc.heap.size wc ((wc.alloc (.cells (fstC z19).toArray 3)).alloc (.cells (fstC ordT).toArray 3)) := below_alloc (below_alloc (Below.refl _ _) _) _
      rw [World.size_alloc]
      generalize (wc.alloc (.cells (fstC z19).toArray 3)).alloc (.cells (fstC ordT).toArray 3) = W6 at *
      have HB6 := Lib.hid (HB4.out.below hb6)
      have HS6 := Lib.hid (HS4.out.trans (SK.ofBelow hb6 HB4.out.lt))
      have HFG := Lib.hid HS4.out.size
      generalize wc.heap.size = F at *
      have HF6 := Lib.hid hF6
      have HO6 := Lib.hid hO6
      clear hF6 hO6 hb6 HB4 HS4 HB3 HS3
      go_wp2_with fail
      go_loopw [9] (fun iv wr => ∃ (i qq : Nat) (fl : List Nat) (e : Int), iv = .int .i64 i ∧ Hid (i ≤ x3 + 4) ∧ Hid (fl.length = 19 ∧ ∀ x ∈ fl, x < 16) ∧ Hid (wr.heap[F]? = some (.cells (fstC fl).toArray 3 (0, 0))) ∧ Hid (wr.heap[F + 1]? = some (.cells (fstC ordT).toArray 3 (0, 0))) ∧ Hid (SK 2 g W wr) ∧ Hid (Bd w0 A c p most g qq out e wr) ∧
        Hid (Rest e (bndR (fstR (x3 + 4) (x3 + 4 - i) fl) (dynB x1 x2) (numB p) (8 * p.length) qq) res) ∧ Hid (e = 0 → x1 ≤ 29 ∧ x2 ≤ 29)) (fun iv _ => 20 - (intOf iv).toNat)
      case atStart => exact ⟨0, q3, z19, e4, rfl, Lib.hid (Nat.zero_le _), Lib.hid ⟨by simp [z19], fun x hx => by rw [List.eq_of_mem_replicate hx]; omega⟩, HF6, HO6, HS6, HB6, HX4, HE4⟩
      case round =>
        clear HF6 HO6 HS6 HB6 HX4 HE4
        obtain ⟨i, qq, fl, e, rfl, HI, HFL, HF, HO, HS, HB, HE, HE2⟩ := hrel
        have hi19 : (i : Int) ≤ 19 := by have := HI.out; omega
        by_cases hlt : i < x3 + 4
        · have ilt : (i : Int) < (x3 : Int) + 4 := by omega
          have i0 : (0 : Int) ≤ (i : Int) := by omega
          have i19 : (i : Int) < 19 := by omega
          have hco : wr.cell? ⟨F + 1, i, none⟩ = some (.int .i64 ((ordT.getD i 0 : Nat) : Int)) := blk_cellL HO.out (fstC_get (by rw [show ordT.length = 19 from rfl]; omega))
          have ho19 := ordT_lt (show i < 19 by omega)
          generalize hgo : ordT.getD i 0 = o at hco ho19
          have HGO := Lib.hid hgo
          clear hgo
          have io : (o : Int) < 19 := by omega
          have io0 : (0 : Int) ≤ (o : Int) := by omega
          have HBd : Hid (Bd w0 A c p most g qq out e wr.drew) := Lib.hid (HB.out.keep rfl fun _ _ => rfl)
          have HSd : Hid (SK 2 g W wr.drew) := Lib.hid HS.out.drew
          have HFd : Hid (wr.drew.heap[F]? = some (.cells (fstC fl).toArray 3 (0, 0))) := Lib.hid HF.out
          have HOd : Hid (wr.drew.heap[F + 1]? = some (.cells (fstC ordT).toArray 3 (0, 0))) := Lib.hid HO.out
          have HCO : Hid (wr.drew.cell? ⟨F + 1, i, none⟩ = some (.int .i64 (o : Int))) := Lib.hid hco
          have HLT9 := Lib.hid (And.intro hlt ho19)
          clear hlt ho19 hco
          go_wp2_with fail
          go_region_held3 (fun W' => W'.cell? ⟨F + 1, i, none⟩ = some (.int .i64 (o : Int))) (first | exact HCO.out | assumption | go_keep)
            (first
              | (go_at_call 30; refine (dnum_calls w0 A c p most g qq out e wr.drew 3 HBd.out (HW.out.sk2 HR.out HSd.out) (by omega)).mono ?_; rintro ee w5 ⟨x, q5, e5, rfl, hs5, hb5, hd5⟩;
                 have HS5 := Lib.hid (HSd.out.trans hs5.out); have HB5 := Lib.hid hb5.out; have HD5 : Hid (DkC (8 * p.length) (numB p) qq e 3 x q5 e5) := Lib.hid hd5; have HF5 := Lib.hid (hs5.out.block2 HBd.out HFd.out (by decide) (by decide)); have HO5 := Lib.hid (hs5.out.block2 HBd.out HOd.out (by decide) (by decide)); clear hs5 hb5 hd5;
                 have hco5 : w5.cell? ⟨F + 1, i, none⟩ = some (.int .i64 (o : Int)) := by (have h := blk_cellL HO5.out (fstC_get (l := ordT) (n := i) (by rw [show ordT.length = 19 from rfl]; omega)); rw [HGO.out] at h; exact h);
                 have hcf5 : w5.cell? ⟨F, o, none⟩ = some (.int .i64 ((fl.getD o 0 : Nat) : Int)) := blk_cellL HF5.out (fstC_get (by have := HFL.out.1; have := HLT9.out; omega));
                 have hff5 : w5.frozen? ⟨F, o, none⟩ = false := blk_frozen HF5.out o))
          clear hco5 hcf5 hff5
          go_wp2_with fail
          go_roundw
          case rel =>
            have hE := HE.out
            have hlt9 := HLT9.out
            rw [show x3 + 4 - i = (x3 + 4 - (i + 1)) + 1 by omega] at hE
            have hN := fst_next HD5.out hE
            rw [show x3 + 4 - (x3 + 4 - (i + 1) + 1) = i by omega, HGO.out] at hN
            refine ⟨i + 1, q5, fl.set o x, e5, by simp, Lib.hid (by omega), Lib.hid ⟨by rw [List.length_set]; exact HFL.out.1, set_small HFL.out.2 (by have : x < 8 := HD5.out.1; omega)⟩, Lib.hid ?_, Lib.hid ?_, Lib.hid (HS5.out.cell2 HR.out.lt HFG.out _), Lib.hid (HB5.out.off HF5.out (by decide) (by decide) fun i hi => Below.heap_setCell w5 ⟨F, o, none⟩ _ i hi), Lib.hid hN.1, Lib.hid fun h => HE2.out (hN.2 h)⟩
            · have h := blk_setL HF5.out o (.int .i64 (x : Int))
              rw [fstC_set] at h
              exact h
            · exact (Below.heap_setCell w5 ⟨F, o, none⟩ _ _ (show F + 1 ≠ F by omega)).trans HO5.out
          case measure => have := HLT9.out.1; simp [intOf]; omega
        · obtain rfl : i = x3 + 4 := by have := HI.out; omega
          have ilt : ¬ ((x3 + 4 : Nat) : Int) < (x3 : Int) + 4 := by omega
          have hE := HE.out
          rw [Nat.sub_self] at hE
          have HEB : Hid (Rest e (dynB x1 x2 fl (numB p) (8 * p.length) qq) res) := Lib.hid hE
          clear hE HE HI hlt hi19 HO
          have hfl := HFL.out.1
          have HRR := Lib.hid (by have h := reads_block HF.out (by omega); rw [hfl] at h; exact h)
          have hrc := right_calls wr (some ⟨F, 0, none⟩) 19 fl false (by rw [hfl]; exact HRR.out) (by omega) HFL.out.2
          rw [hfl] at hrc
          have HRC := Lib.hid hrc
          clear hfl hrc
          go_wp2_with fail
          refine HRC.out.mono ?_
          rintro ee w6 ⟨rfl, rfl⟩
          clear HRC
          generalize hob : okT fl false = ob at *
          have HOB := Lib.hid hob
          clear hob
          go_upto_if 47 with fail
          go_cut [] from 15 to 50 (fun wc => ∃ e6 : Int, Hid (SK 2 g W wc) ∧ Hid (Bd w0 A c p most g qq out e6 wc) ∧ Hid (wc.heap[F]? = some (.cells (fstC fl).toArray 3 (0, 0))) ∧ Hid (Rest e6 (bndR (lnsR fl (x1 + 257 + (x2 + 1)) (x1 + 257 + (x2 + 1)) []) (dynC x1) (numB p) (8 * p.length) qq) res) ∧ Hid (e6 = 0 → x1 ≤ 29 ∧ x2 ≤ 29))
          case first =>
            cases ob with
            | true =>
              go_wp2_with fail
              go_meet
              case rel =>
                refine ⟨e, HS, HB, HF, Lib.hid ?_, HE2⟩
                rcases HEB.out with ⟨h1, h⟩ | h
                · exact .inl ⟨h1, by rw [← h]; unfold dynB; rw [if_neg (by rw [HOB.out]; decide)]⟩
                · exact .inr h
            | false =>
              go_wp2_with fail
              refine (dfail_calls w0 A c p most g qq out e w6 HB.out).mono ?_
              rintro ee w7 ⟨rfl, hs7, hb7⟩
              have HF7 := Lib.hid (hs7.block2 HB.out HF.out (by decide) (by decide))
              have HS7 := Lib.hid (HS.out.trans hs7)
              have HB7 := Lib.hid hb7
              clear hs7 hb7
              go_wp2_with fail
              go_meet
              case rel =>
                refine ⟨fst e 4, HS7, HB7, HF7, Lib.hid (.inr ?_), Lib.hid ?_⟩
                · unfold fst
                  rcases HEB.out with ⟨rfl, h⟩ | ⟨h, h2⟩
                  · rw [if_pos rfl]
                    exact ⟨by decide, by rw [← h]; unfold dynB; rw [if_pos HOB.out]; rfl⟩
                  · rw [if_neg h]; exact ⟨h, h2⟩
                · unfold fst
                  by_cases h : e = 0
                  · rw [if_pos h]; intro h; exact absurd h (by decide)
                  · rw [if_neg h]; intro h2; exact absurd h2 h
          case rest =>
            clear HRR HF HS HB HE2 HEB HOB
            obtain ⟨e6, HS, HB, HF, HEB, HE2⟩ := hcut
            have hfl := HFL.out.1
            have htc := tabled_calls wc (some ⟨F, 0, none⟩) 19 fl (reads_block HF.out (by omega)) (by omega) HFL.out.2
            rw [hfl] at htc
            have HTC := Lib.hid htc
            clear hfl htc
            go_wp2_with fail
            refine HTC.out.mono ?_
            rintro ee w8 ⟨v8, rfl, ho8, hb8⟩
            have hone8 := dtC_one (f := cntT fl) ho8.out
            go_wp2_with (refine wpList_store_new rfl 70 (.tmp 12) (.tmp 56) rfl _ (dtC v8 (cntT fl)).toArray rfl rfl (by rw [dtC_len]; exact infoDt) (by rw [dtC_len]; rfl) hone8 ?_)
            have hb9 : Below wc.heap.size wc (w8.alloc (.cells (dtC v8 (cntT fl)).toArray 70)) := below_then hb8.out hb8.out.size (below_alloc (Below.refl _ _) _)
            have ho9 := pw_own_below ho8.out (below_alloc (Below.refl w8.heap.size w8) (.cells (dtC v8 (cntT fl)).toArray 70))
            have HT9 := Lib.hid (heap_alloc_new w8 (.cells (dtC v8 (cntT fl)).toArray 70))
            have HS9 := Lib.hid (HS.out.trans (SK.ofBelow hb9 HB.out.lt))
            have HB9 := Lib.hid (HB.out.below hb9)
            have HO9 := Lib.hid ho9
            have HV8 : Hid (∀ k, v8.ownBlock = some k → k < w8.heap.size) := Lib.hid fun k hk => own_lt ho8.out k hk
            have HWT : Hid (W.heap.size ≤ w8.heap.size) := Lib.hid (Nat.le_trans HS.out.size hb8.out.size)
            have HSZ9 : Hid (w8.heap.size + 1 ≤ (w8.alloc (.cells (dtC v8 (cntT fl)).toArray 70)).heap.size) := Lib.hid (by simp)
            clear hb9 ho9 ho8 hb8 HS HB HF hone8 HTC
            generalize w8.alloc (.cells (dtC v8 (cntT fl)).toArray 70) = W9 at *
            generalize w8.heap.size = T12 at *
            generalize wc.heap.size = T8 at *
            obtain ⟨want, hwant⟩ : ∃ want, want = x1 + 257 + (x2 + 1) := ⟨_, rfl⟩
            have hwI : (x1 : Int) + 257 + (x2 : Int) + 1 = (want : Int) := by omega
            have hwb : (want : Int) ≤ 1000 := by omega
            have HWA := Lib.hid hwant
            rw [← hwant] at HEB
            rw [hwI]
            clear hwI hwant
            have HL9 : Hid (W9.ownsRow (T12 + 1) 3 1 (.slice none 0 0) ([] : List Nat).length (nums .i64 (natI []))) := Lib.hid (own_nil _ _ _ _)
            dsimp only [Act.put]
            go_loopg [10] want (fun n lv wr => ∃ (q2 : Nat) (ls : List Nat) (e2 : Int), Hid (wr.ownsRow (T12 + 1) 3 1 lv ls.length (nums .i64 (natI ls))) ∧ Hid (LnB want n ls e2) ∧ Hid (SK 2 g W wr) ∧ Hid (Bd w0 A c p most g q2 out e2 wr) ∧ Hid (wr.heap[T12]? = some (.cells (dtC v8 (cntT fl)).toArray 70 (0, 0))) ∧
              Hid (wr.ownsRow T8 3 1 v8 (symT fl).length (nums .i64 (natI (symT fl)))) ∧ Hid (T12 + 1 ≤ wr.heap.size) ∧ Hid (Rest e2 (bndR (lnsR fl want n ls) (dynC x1) (numB p) (8 * p.length) q2) res) ∧ Hid (e2 = 0 → x1 ≤ 29 ∧ x2 ≤ 29))
            case atStart => exact ⟨qq, [], e6, HL9, Lib.hid (fun _ => ⟨by simp, by simp, fun x hx => by cases hx⟩), HS9, HB9, HT9, HO9, HSZ9, HEB, HE2⟩
            case round =>
              clear HL9 HS9 HB9 HT9 HO9 HSZ9 HEB HE2
              obtain ⟨q2, ls, e2, HL, HLB, HS, HB, HT, HO, HSZ, HE, HE2⟩ := hrel
              obtain ⟨Av, cv, rfl⟩ := own_slice HL.out
              have c4 := HB.out.e_cell
              by_cases he2 : e2 = 0
              · subst he2
                obtain ⟨hb1, hb2, hb3⟩ := HLB.out rfl
                have hl1 : (ls.length : Int) ≤ (want : Int) := by omega
                have hE : bndR (lnsR fl want gk ls) (dynC x1) (numB p) (8 * p.length) q2 = res := by
                  rcases HE.out with ⟨_, h⟩ | ⟨h, _⟩
                  · exact h
                  · exact absurd rfl h
                by_cases hlt : ls.length < want
                · have ilt : (ls.length : Int) < (want : Int) := by omega
                  obtain ⟨n', rfl⟩ : ∃ n', gk = n' + 1 := ⟨gk - 1, by omega⟩
                  have HEN := Lib.hid hE
                  have HLT := Lib.hid (And.intro hlt hb3)
                  have HX2 := Lib.hid (HE2.out rfl)
                  have HWN := Lib.hid (show want ≤ 1000 by omega)
                  clear hb1 hb2 hb3 hE hlt HE
                  go_wp2_with (refine wpList_load_row rfl 70 (.tmp 12) rfl T12 rfl 70 _ (0, 0) _ HT.out Tryd.underlying70 rfl (by rw [dtC_len]; exact infoDt) ?_)
                  refine (dsymbol_calls w0 A c p most g q2 out 0 wr fl v8 T8 HB.out (HW.out.sk2 HR.out HS.out) HO.out (by have := HFL.out.1; omega)).mono ?_
                  rintro ee w10 ⟨x, q4, e4, rfl, hs10, hb10, hd10⟩
                  have HS10 := Lib.hid (HS.out.trans hs10.out)
                  have HB10 := Lib.hid hb10.out
                  have HD10 : Hid (DsC (symL fl (numB p) (8 * p.length) q2) q2 0 x q4 e4) := Lib.hid hd10
                  have HT10 := Lib.hid (hs10.out.block2 HB.out HT.out (by decide) (by decide))
                  have HO10 := Lib.hid (own_sk2 HO.out HB.out hs10.out)
                  have HL10 := Lib.hid (own_sk2 HL.out HB.out hs10.out)
                  have HSZ10 := Lib.hid (Nat.le_trans HSZ.out hs10.out.size)
                  have hx19 := ds_lt hd10 HFL.out.1
                  have hxI : (x : Int) < 19 := by omega
                  have HX19 := Lib.hid hx19
                  clear hs10 hb10 hd10 c4 hx19
                  go_wp2_with fail
                  refine (next_calls w0 A c p most g q4 out e4 w10 ls x want (T12 + 1) Av cv HB10.out (HW.out.sk2 HR.out HS10.out) HL10.out HSZ10.out (by have := HWN.out; have := HLT.out.1; omega) HLT.out.2 (by have := HX19.out; omega) HWN.out).mono ?_
                  rintro ee w11 ⟨l', v', q', e', rfl, hF, hC⟩
                  have HF11 := Lib.hid hF.out
                  have HC11 : Hid (NxC (nxO ls x want (numB p) (8 * p.length) q4) e4 l' q' e') := Lib.hid hC
                  clear hF hC
                  go_wp2_with fail
                  go_roundg n'
                  case measure => omega
                  case rel =>
                    have hob : ∀ k, (Value.slice Av ls.length cv).ownBlock = some k → T12 + 1 ≤ k := fun k hk => own_base HL10.out k hk
                    have hnl : ∀ k, k ≤ T12 → some k ≠ (Value.slice Av ls.length cv).ownBlock := fun k hk e => by have := hob k e.symm; omega
                    have hSV := HF11.out.2.2.1
                    refine ⟨q', l', e', Lib.hid HF11.out.2.1, Lib.hid ?_, Lib.hid (hSV.sk HS10.out fun k hk => by have := hob k hk; have := HWT.out; omega), Lib.hid HF11.out.1, Lib.hid (hSV.block HB10.out HT10.out (by decide) (by decide) (hnl _ (Nat.le_refl _))), Lib.hid ?_, Lib.hid (Nat.le_trans HSZ10.out hSV.size), Lib.hid (lns_round HLT.out.1 HD10.out HC11.out HEN.out), Lib.hid fun _ => HX2.out⟩
                    · exact LnB.step HLB.out HX19.out HC11.out
                    · refine own_move HO10.out fun k hk => ?_
                      obtain ⟨cur, hc⟩ := own_typed HO10.out k hk
                      exact (hSV.block HB10.out hc (by decide) (by decide) (hnl k (by have := HV8.out k hk; omega))).trans hc.symm
                · have ilt : ¬ (ls.length : Int) < (want : Int) := by omega
                  have hlw : ls.length = want := by omega
                  obtain ⟨n, hn⟩ : ∃ n, n = x1 + 257 := ⟨_, rfl⟩
                  have hnI : (x1 : Int) + 257 = (n : Int) := by omega
                  have hnI2 : IntKind.i64.wrap ((x1 : Int) + 257) = (n : Int) := by rw [IntKind.wrap_i64]; omega
                  have hwa := HWA.out
                  have hcv := (own_capI HL.out).1
                  have hn256 : 256 < ls.length := by omega
                  have hnl : n < ls.length := by omega
                  have hnl2 : n < cv := by omega
                  obtain ⟨ad, hA, hcl⟩ := (own_reads' HL.out).2.2 (by omega)
                  subst hA
                  have hc256 := hcl 256 hn256
                  have hlv : (natI ls).getD 256 0 = ((ls.getD 256 0 : Nat) : Int) := by
                    simp only [natI, List.getD_eq_getElem?_getD, List.getElem?_map]
                    cases ls[256]? <;> rfl
                  rw [hlv] at hc256
                  rw [show ad.add 256 = ⟨ad.block, ad.off + 256, none⟩ by simp [Addr.add]] at hc256
                  have HRD1 : Hid (ReadsInt wr .i64 (some ad) n (natI (ls.take n))) := Lib.hid (by
                    have h := (own_reads' HL.out).take_ n (by omega)
                    rw [show natI (ls.take n) = (natI ls).take n by simp [natI, List.map_take]]
                    exact h)
                  have HRD2 : Hid (ReadsInt wr .i64 (some (ad.add n)) (ls.length - n) (natI (ls.drop n))) := Lib.hid (by
                    have h := (own_reads' HL.out).drop_ n (by omega) hcv
                    rw [if_neg (by omega)] at h
                    rw [show natI (ls.drop n) = (natI ls).drop n by simp [natI, List.map_drop]]
                    exact h)
                  have ht1 : (ls.take n).length = n := by rw [List.length_take]; omega
                  have ht2 : (ls.drop n).length = ls.length - n := List.length_drop
                  have HM1 : Hid (∀ x ∈ ls.take n, x < 16) := Lib.hid fun x hx => hb3 x (List.mem_of_mem_take hx)
                  have HM2 : Hid (∀ x ∈ ls.drop n, x < 16) := Lib.hid fun x hx => hb3 x (List.mem_of_mem_drop hx)
                  have hr1 := right_calls wr (some ad) cv (ls.take n) false (by rw [ht1]; exact HRD1.out) (by omega) HM1.out
                  have hr2 := right_calls wr (some (ad.add n)) (cv - n) (ls.drop n) true (by rw [ht2]; exact HRD2.out) (by omega) HM2.out
                  rw [ht1] at hr1
                  rw [ht2] at hr2
                  have HR1 := Lib.hid hr1
                  have HR2 := Lib.hid hr2
                  have HDC : Hid (dynC x1 ls (numB p) (8 * p.length) q2 = res) := Lib.hid (by
                    obtain ⟨k, rfl⟩ | rfl : (∃ k, gk = k + 1) ∨ gk = 0 := by cases gk; exact .inr rfl; exact .inl ⟨_, rfl⟩
                    · simp only [bndR, lnsR, if_pos (show want ≤ ls.length by omega), retR] at hE
                      exact hE
                    · simp only [bndR, lnsR, retR] at hE
                      exact hE)
                  have HLL := Lib.hid (And.intro hlw (And.intro hn (And.intro ht1 ht2)))
                  have hnlI : (n : Int) < (ls.length : Int) := by omega
                  have h256I : (256 : Int) < (ls.length : Int) := by omega
                  have hncI : (n : Int) ≤ (cv : Int) := by omega
                  have hncI2 : (ls.length : Int) ≤ (cv : Int) := by omega
                  clear hE HE hr1 hr2 hcl hlv hb1 hb2 hb3 hwa hn256 hnl hnl2 ht1 ht2 hcv hlt hlw hn HLB
                  generalize hz : ls.getD 256 0 = z at *
                  have HZ := Lib.hid hz
                  clear hz
                  generalize hk1 : okT (ls.take n) false = k1 at *
                  generalize hk2 : okT (ls.drop n) true = k2 at *
                  have HK := Lib.hid (And.intro hk1 hk2)
                  clear hk1 hk2
                  go_upto_region 21 with fail
                  go_cut [100] from 15 (fun b wc => b = .bool (decide (z = 0) || !k1 || !k2) ∧ Hid (wc = wr))
                  case first =>
                    by_cases hz0 : z = 0
                    · subst hz0
                      go_wp2_with fail
                      go_meet
                      case rel => exact ⟨rfl, Lib.hid rfl⟩
                    · have iz0 : ¬ (z : Int) = 0 := by omega
                      go_wp2_with fail
                      refine HR1.out.mono ?_
                      rintro ee w12 ⟨rfl, hw12⟩
                      subst hw12
                      cases k1 with
                      | false =>
                        go_wp2_with fail
                        go_meet
                        case rel => exact ⟨by simp, Lib.hid rfl⟩
                      | true =>
                        go_wp2_with fail
                        refine HR2.out.mono ?_
                        rintro ee w13 ⟨rfl, hw13⟩
                        subst hw13
                        go_wp2_with fail
                        go_meet
                        case rel => exact ⟨by simp [hz0], Lib.hid rfl⟩
                  case rest =>
                    obtain ⟨rfl, hwc⟩ := hcut
                    obtain rfl := hwc.out
                    clear hwc
                    generalize hbad : (decide (z = 0) || !k1 || !k2) = bad
                    have HBAD := Lib.hid hbad
                    clear hbad
                    cases bad with
                    | true =>
                      have HER : Hid (res = .error 4) := Lib.hid (by
                        rw [← HDC.out]
                        unfold dynC
                        rw [if_neg]
                        · rfl
                        · rintro ⟨h1, h2, h3⟩
                          have hn := HLL.out.2.1
                          rw [← hn] at h1 h2
                          have h := HBAD.out
                          rw [← HK.out.1, ← HK.out.2, ← HZ.out, h1, h2] at h
                          simp at h
                          exact h3 h)
                      go_wp2_with fail
                      refine (dfail_calls w0 A c p most g q2 out 0 wc HB.out).mono ?_
                      rintro ee w12 ⟨rfl, hs12, hb12⟩
                      have HS12 := Lib.hid (HS.out.trans hs12)
                      have HB12 : Hid (Bd w0 A c p most g q2 out 4 w12) := Lib.hid hb12
                      have HL12 := Lib.hid (own_sk2 HL.out HB.out hs12)
                      clear hs12 hb12
                      go_upto_region 23 with fail
                      go_quiet (fail)
                      go_wp2_with fail
                      refine bodyPost_ret (results_tmp2 rfl _ _ _) rfl ?_
                      have hll := HLL.out
                      have hrd := ln_reads HL12.out (n := n) (by omega)
                      refine ⟨ls.take n, ls.drop n, some ad, some (ad.add n), cv, cv - n, q2, 4, by rw [hll.2.2.1, hll.2.2.2]; rfl, Lib.hid (HS12.out.drewN nq), Lib.hid (HB12.out.keep rfl fun _ _ => rfl), Lib.hid hrd.1, Lib.hid hrd.2, Lib.hid ⟨by omega, by omega, HM1.out, HM2.out⟩, .inr ⟨by decide, HRES.out.trans HER.out⟩⟩
                    | false =>
                      go_upto_region 23 with fail
                      go_quiet (fail)
                      go_wp2_with fail
                      refine bodyPost_ret (results_tmp2 rfl _ _ _) rfl ?_
                      have hll := HLL.out
                      have hrd := ln_reads HL.out (n := n) (by omega)
                      have h := HBAD.out
                      simp only [Bool.or_eq_false_iff, decide_eq_false_iff_not, Bool.not_eq_false'] at h
                      have hdy := dynC_ok (T := numB p) (N := 8 * p.length) (q := q2) hll.2.1 (HK.out.1.trans h.1.2) (HK.out.2.trans h.2) (by rw [HZ.out]; exact h.1.1)
                      refine ⟨ls.take n, ls.drop n, some ad, some (ad.add n), cv, cv - n, q2, 0, by rw [hll.2.2.1, hll.2.2.2]; rfl, Lib.hid (HS.out.drewN nq), Lib.hid (HB.out.keep rfl fun _ _ => rfl), Lib.hid hrd.1, Lib.hid hrd.2, Lib.hid ⟨by omega, by omega, HM1.out, HM2.out⟩, .inl ⟨rfl, ?_⟩⟩
                      rw [HRES.out, ← HDC.out]
                      exact hdy
              · have HER : Hid (res = .error e2) := Lib.hid (by
                  rcases HE.out with ⟨h, _⟩ | ⟨_, h⟩
                  · exact absurd h he2
                  · exact h)
                have he' : (e2 == 0) = false := by simpa using he2
                have he'' : (e2 != 0) = true := by simpa using he2
                by_cases hlt : ls.length < want
                · have ilt : (ls.length : Int) < (want : Int) := by omega
                  go_wp2_with fail
                  refine bodyPost_ret (results_tmp2 rfl _ _ _) rfl ?_
                  exact ⟨[], [], none, none, 0, 0, q2, e2, rfl, HS, HB, Lib.hid (reads_nilI _), Lib.hid (reads_nilI _), Lib.hid (by simp), .inr ⟨he2, HRES.out.trans HER.out⟩⟩
                · have ilt : ¬ (ls.length : Int) < (want : Int) := by omega
                  go_wp2_with fail
                  refine bodyPost_ret (results_tmp2 rfl _ _ _) rfl ?_
                  exact ⟨[], [], none, none, 0, 0, q2, e2, rfl, HS, HB, Lib.hid (reads_nilI _), Lib.hid (reads_nilI _), Lib.hid (by simp), .inr ⟨he2, HRES.out.trans HER.out⟩⟩
end Go.Proofs.YtkdklcamgcmifaaDoor

