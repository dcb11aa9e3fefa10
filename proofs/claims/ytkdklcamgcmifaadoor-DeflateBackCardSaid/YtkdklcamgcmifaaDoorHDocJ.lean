/- The document's reader: next. -/
import Derived.Test.YtkdklcamgcmifaaDoorHDocI
import Derived.Deep.Cut
namespace Go.Proofs.YtkdklcamgcmifaaDoor
set_option linter.unusedVariables false
set_option linter.unusedSimpArgs false
open Go.RowKit Go.Proofs.YtkdklcamgcmifaaDoorW.PrintWords Go.Proofs.YtkdklcamgcmifaaDoorW.PrintMore
/-- W' is W but for the state g, its row, one more row, and what is new. -/
structure SV (g : Nat) (ob : Option Nat) (W W' : World) : Prop where
  os : W'.os = W.os
  tape : W'.tape = W.tape
  output : W'.output = W.output
  size : W.heap.size ≤ W'.heap.size
  keep : ∀ i, i < W.heap.size → i ≠ g → rowK 2 W g ≠ some i → some i ≠ ob → W'.heap[i]? = W.heap[i]?
  row : rowK 2 W' g = rowK 2 W g ∨ ∃ b, rowK 2 W' g = some b ∧ W.heap.size ≤ b
theorem SV.ofSK {g : Nat} {W W' : World} (h : SK 2 g W W') (ob : Option Nat) : SV g ob W W' :=
  ⟨h.os, h.tape, h.output, h.size, fun i h1 h2 h3 _ => h.keep i h1 h2 h3, h.row⟩
theorem SV.grow {g : Nat} {ob ob' : Option Nat} {W W1 W2 : World} (h : SV g ob W W1) (hlt : g < W1.heap.size) (hg : W1.grownBy W2 ob') (ho : ob' = ob ∨ ∃ b, ob' = some b ∧ W.heap.size ≤ b) (hne : some g ≠ ob') : SV g ob W W2 := by
  have hrow : rowK 2 W2 g = rowK 2 W1 g := by
    have := hg.block g hlt (fun e => hne e)
    simp only [rowK, this]
  refine ⟨hg.os.trans h.os, hg.tape.trans h.tape, hg.output.trans h.output, Nat.le_trans h.size hg.size, fun i h1 h2 h3 h4 => ?_, by rw [hrow]; exact h.row⟩
  refine (hg.block i (Nat.lt_of_lt_of_le h1 h.size) fun e => ?_).trans (h.keep i h1 h2 h3 h4)
  rcases ho with rfl | ⟨b, rfl, hb⟩
  · exact h4 e
  · cases e
    omega
theorem SV.sk {g : Nat} {ob : Option Nat} {W wY W' : World} (h : SV g ob wY W') (hs : SK 2 g W wY) (ho : ∀ k, ob = some k → W.heap.size ≤ k) : SK 2 g W W' := by
  refine ⟨h.os.trans hs.os, h.tape.trans hs.tape, h.output.trans hs.output, Nat.le_trans hs.size h.size, fun i hi hg hr => ?_, ?_⟩
  · refine (h.keep i (Nat.lt_of_lt_of_le hi hs.size) hg ?_ ?_).trans (hs.keep i hi hg hr)
    · rcases hs.row with e | ⟨b, e, hb⟩
      · rw [e]; exact hr
      · rw [e]; intro e2; cases e2; omega
    · intro e
      have := ho i e.symm
      omega
  · rcases h.row with e | ⟨b, e, hb⟩
    · rcases hs.row with e2 | ⟨b, e2, hb⟩
      · exact .inl (e.trans e2)
      · exact .inr ⟨b, e.trans e2, hb⟩
    · exact .inr ⟨b, e, Nat.le_trans hs.size hb⟩
/-- Another block of another kind, or another row of ints below the row, stays. -/
theorem SV.block {w0 : World} {A : Option Addr} {c most g q : Nat} {p out : List Int} {e : Int} {ob : Option Nat} {W W' : World} (h : SV g ob W W') (hr : Bd w0 A c p most g q out e W) {i : Nat} {cs : Array Value} {t : TypeId} {fr : Nat × Nat} (hb : W.heap[i]? = some (.cells cs t fr)) (h1 : t ≠ 47) (h2 : t ≠ 5) (h3 : some i ≠ ob) : W'.heap[i]? = some (.cells cs t fr) := by
  obtain ⟨v', hb', ho', _⟩ := hr
  have hrow : rowK 2 W g = v'.ownBlock := rowK_eq hb' rfl
  refine (h.keep i (blk_lt hb) ?_ ?_ h3).trans hb
  · rintro rfl
    rw [hb'] at hb
    simp only [Option.some.injEq, Obj.cells.injEq] at hb
    exact h1 hb.2.1.symm
  · intro e
    rw [hrow] at e
    obtain ⟨cur, hc⟩ := own_typed ho' i e
    rw [hb] at hc
    simp only [Option.some.injEq, Obj.cells.injEq] at hc
    exact h2 hc.2.1
theorem Bd.grown {w0 : World} {A : Option Addr} {c most g q : Nat} {p out : List Int} {e : Int} {W W' : World} {v : Value} {base n : Nat} {xs : List Value} (h : Bd w0 A c p most g q out e W) (ho : W.ownsRow base 3 1 v n xs) (hg : W.grownBy W' v.ownBlock) : Bd w0 A c p most g q out e W' ∧ some g ≠ v.ownBlock := by
  have hne : ∀ i cs t fr, W.heap[i]? = some (.cells cs t fr) → t ≠ 3 → some i ≠ v.ownBlock := by
    intro i cs t fr hi ht e
    obtain ⟨cur, hc⟩ := own_typed ho i e.symm
    rw [hi] at hc
    simp only [Option.some.injEq, Obj.cells.injEq] at hc
    exact ht hc.2.1
  have h' := h
  obtain ⟨v', hb', ho', _⟩ := h'
  have hgb := hne g _ _ _ hb' (by decide)
  refine ⟨h.keep (hg.block g h.lt fun e => hgb e) fun i hi => hg.block i (h.row_ge i hi).2 fun e => ?_, hgb⟩
  rw [rowK_eq hb' rfl] at hi
  obtain ⟨cur, hc⟩ := own_typed ho' i hi
  exact hne i _ _ _ hc (by decide) e
/-- What next puts behind the lengths. -/
def nxO (l : List Nat) (s want : Nat) : Rdr (List Nat) := bndR (nxtR l s) fun vt => if want < l.length + vt.2 then badR 4 else retR (l ++ List.replicate vt.2 vt.1)
/-- What next tells. -/
def NxC (r : Except Int (List Nat × Nat)) (e : Int) (l' : List Nat) (q' : Nat) (e' : Int) : Prop := (e ≠ 0 ∧ e' = e) ∨ (e = 0 ∧ ((e' = 0 ∧ r = .ok (l', q')) ∨ (e' ≠ 0 ∧ r = .error e')))
/-- Where next stands behind the switch: its length v, its times t. -/
def NxM (T N : Nat) (l : List Nat) (s q : Nat) (e : Int) (v t q2 : Nat) (e2 : Int) : Prop := (e ≠ 0 ∧ e2 = e) ∨ (e = 0 ∧ ((e2 = 0 ∧ nxtR l s T N q = .ok ((v, t), q2)) ∨ (e2 ≠ 0 ∧ nxtR l s T N q = .error e2)))
/-- The row of lengths, and the frame. -/
def NxF (w0 : World) (A : Option Addr) (c : Nat) (p : List Int) (most g q' : Nat) (out : List Int) (e' : Int) (base : Nat) (W w' : World) (v v' : Value) (l' : List Nat) : Prop :=
  Bd w0 A c p most g q' out e' w' ∧ w'.ownsRow base 3 1 v' l'.length (nums .i64 (natI l')) ∧ SV g v.ownBlock W w' ∧ (v'.ownBlock = v.ownBlock ∨ ∃ b, v'.ownBlock = some b ∧ W.heap.size ≤ b)
theorem NxM.tk {T N : Nat} {l : List Nat} {s q n x q2 b v : Nat} {e e2 : Int} (h : DkC N T q e n x q2 e2) (hn : nxtR l s = bndR (tk n) fun t => retR (v, b + t)) : NxM T N l s q e v (b + x) q2 e2 := by
  rcases h.2 with ⟨h1, _, h2⟩ | ⟨h1, ⟨h2, h3⟩ | ⟨h2, h3⟩⟩
  · exact .inl ⟨h1, h2⟩
  · exact .inr ⟨h1, .inl ⟨h3, by rw [hn]; simp only [bndR, h2]; rfl⟩⟩
  · exact .inr ⟨h1, .inr ⟨by rw [h3]; decide, by rw [hn]; simp only [bndR, h2, h3]⟩⟩
theorem NxM.big {T N : Nat} {l : List Nat} {s q v t q2 want : Nat} {e e2 : Int} (h : NxM T N l s q e v t q2 e2) (hb : want < l.length + t) (l' : List Nat) : NxC (nxO l s want T N q) e l' q2 (fst e2 4) := by
  rcases h with ⟨h1, rfl⟩ | ⟨rfl, ⟨rfl, h2⟩ | ⟨h1, h2⟩⟩
  · exact .inl ⟨h1, by rw [fst, if_neg h1]⟩
  · exact .inr ⟨rfl, .inr ⟨by decide, by simp only [nxO, bndR, h2, if_pos hb]; rfl⟩⟩
  · exact .inr ⟨rfl, .inr ⟨by rw [fst, if_neg h1]; exact h1, by simp only [nxO, bndR, h2]; rw [fst, if_neg h1]⟩⟩
theorem NxM.stop {T N : Nat} {l : List Nat} {s q v t q2 want : Nat} {e e2 : Int} (h : NxM T N l s q e v t q2 e2) (hb : e2 ≠ 0) (l' : List Nat) : NxC (nxO l s want T N q) e l' q2 e2 := by
  rcases h with ⟨h1, rfl⟩ | ⟨rfl, ⟨rfl, h2⟩ | ⟨h1, h2⟩⟩
  · exact .inl ⟨h1, rfl⟩
  · exact absurd rfl hb
  · exact .inr ⟨rfl, .inr ⟨h1, by simp only [nxO, bndR, h2]⟩⟩
theorem NxM.go {T N : Nat} {l : List Nat} {s q v t q2 want : Nat} {e : Int} (h : NxM T N l s q e v t q2 0) (hb : ¬ want < l.length + t) : NxC (nxO l s want T N q) e (l ++ List.replicate t v) q2 0 := by
  rcases h with ⟨h1, h2⟩ | ⟨rfl, ⟨_, h2⟩ | ⟨h1, h2⟩⟩
  · exact absurd h2.symm h1
  · exact .inr ⟨rfl, .inl ⟨rfl, by simp only [nxO, bndR, h2, if_neg hb]; rfl⟩⟩
  · exact absurd rfl h1
theorem NxF.step {w0 W wr w1 : World} {A : Option Addr} {c most g q base : Nat} {p out : List Int} {e : Int} {v vv v1 : Value} {l : List Nat} {i V : Nat} (h : NxF w0 A c p most g q out e base W wr v vv (l ++ List.replicate i V))
    (ho : w1.ownsRow base 3 1 v1 (natI (l ++ List.replicate i V) ++ [(V : Int)]).length (nums .i64 (natI (l ++ List.replicate i V) ++ [(V : Int)]))) (hg : wr.grownBy w1 vv.ownBlock) (hat : v1.ownBlock = vv.ownBlock ∨ ∃ b, v1.ownBlock = some b ∧ wr.heap.size ≤ b) :
    NxF w0 A c p most g q out e base W w1 v v1 (l ++ List.replicate (i + 1) V) := by
  obtain ⟨h1, h2, h3, h4⟩ := h
  have hgr := h1.grown h2 hg
  have e : natI (l ++ List.replicate i V) ++ [(V : Int)] = natI (l ++ List.replicate (i + 1) V) := by rw [List.replicate_succ', ← List.append_assoc]; simp [natI]
  rw [e, natI_length] at ho
  refine ⟨hgr.1, ho, h3.grow h1.lt hg h4 hgr.2, ?_⟩
  rcases hat with e | ⟨b, e, hb⟩
  · rw [e]; exact h4
  · exact .inr ⟨b, e, Nat.le_trans h3.size hb⟩
/-- How next ends. -/
def NxT (w0 : World) (A : Option Addr) (c : Nat) (p : List Int) (most g q : Nat) (out : List Int) (e : Int) (base : Nat) (W : World) (l : List Nat) (s want : Nat) (v : Value) (ee : Ending) (w' : World) : Prop :=
  ∃ (l' : List Nat) (v' : Value) (q' : Nat) (e' : Int), ee = .returned v' ∧ Hid (NxF w0 A c p most g q' out e' base W w' v v' l') ∧ NxC (nxO l s want (numB p) (8 * p.length) q) e l' q' e'
set_option maxRecDepth 8000 in
set_option maxHeartbeats 8000000 in
theorem next_calls (w0 : World) (A : Option Addr) (c : Nat) (p : List Int) (most g q : Nat) (out : List Int) (e : Int) (W : World) (l : List Nat) (s want base : Nat) (Av : Option Addr) (cv : Nat) (hr : Bd w0 A c p most g q out e W) (hw : Rw w0 A c p g W)
    (ho : W.ownsRow base 3 1 (.slice Av l.length cv) l.length (nums .i64 (natI l))) (hbase : base ≤ W.heap.size) (hl : l.length ≤ 1000) (hx : ∀ x ∈ l, x < 16) (hs : s ≤ 1000) (hwant : want ≤ 1000) :
    Calls Tryd.prog 57 #[.pointer (some ⟨g, 0, none⟩), .slice Av l.length cv, .int .i64 s, .int .i64 want] W fun ee w' => NxT w0 A c p most g q out e base W l s want (.slice Av l.length cv) ee w' := by
  have HR := Lib.hid hr
  have HW := Lib.hid hw
  have HO := Lib.hid ho
  have HBS := Lib.hid hbase
  have HL := Lib.hid hl
  have HX := Lib.hid hx
  have hlI : (l.length : Int) ≤ 1000 := by omega
  have hsI : (s : Int) ≤ 1000 := by omega
  have hwI : (want : Int) ≤ 1000 := by omega
  clear hr hw ho hbase hl hx hs hwant
  go_enter Tryd.func57, Tryd.ntmps57
  go_upto_region 2 with fail
  iterate 7 (first | go_values | go_skip | go_guarded | go_step | go_upon | go_back)
  go_cut [9, 10] from 12 (fun vv tt wc => ∃ (V T q2 : Nat) (e2 : Int), vv = .int .i64 V ∧ tt = .int .i64 T ∧ Hid (T ≤ 200 ∧ V ≤ 1000) ∧ Hid (SK 2 g W wc) ∧ Hid (Bd w0 A c p most g q2 out e2 wc) ∧ Hid (NxM (numB p) (8 * p.length) l s q e V T q2 e2))
  case first =>
    by_cases h16 : s = 16
    · subst h16
      by_cases hl0 : l.length = 0
      · obtain rfl : l = [] := List.eq_nil_of_length_eq_zero hl0
        clear hl0
        go_wp2_with fail
        refine (dfail_calls w0 A c p most g q out e W HR.out).mono ?_
        rintro ee w4 ⟨rfl, hs4, hb4⟩
        have HS4 := Lib.hid hs4
        have HB4 := Lib.hid hb4
        clear hs4 hb4
        go_wp2_with fail
        go_ret
        refine ⟨[], .slice Av 0 cv, q, fst e 4, rfl, Lib.hid ⟨HB4.out, own_sk2 HO.out HR.out HS4.out, SV.ofSK HS4.out _, .inl rfl⟩, ?_⟩
        by_cases he : e = 0
        · subst he
          exact .inr ⟨rfl, .inr ⟨by decide, rfl⟩⟩
        · exact .inl ⟨he, by rw [fst, if_neg he]⟩
      · have hl2 : l.length - 1 < l.length := by omega
        have hll : (0 : Int) < (l.length : Int) := by omega
        have il0 : ¬ (l.length : Int) = 0 := by omega
        obtain ⟨ad, hA, hcl⟩ := (own_reads' HO.out).2.2 (by omega)
        subst hA
        have hcj := hcl _ hl2
        have hlv : (natI l).getD (l.length - 1) 0 = ((l.getD (l.length - 1) 0 : Nat) : Int) := by
          simp only [natI, List.getD_eq_getElem?_getD, List.getElem?_map]
          cases l[l.length - 1]? <;> rfl
        rw [hlv] at hcj
        have hv16 := HX.out _ (getD_mem hl2)
        have HNX : Hid (∀ k : Nat, nxtR l 16 = bndR (tk 2) fun t => retR (l.getD (l.length - 1) 0, 3 + t)) := Lib.hid (fun _ => by unfold nxtR; rw [if_pos rfl, if_neg hl0])
        have hw1 : IntKind.i64.wrap ((l.length : Int) - 1) = ((l.length - 1 : Nat) : Int) := by
          rw [IntKind.wrap_i64]
          omega
        have hjI : ((l.length - 1 : Nat) : Int) < (l.length : Int) := by omega
        have hj0 : (0 : Int) ≤ ((l.length - 1 : Nat) : Int) := by omega
        clear hcl hlv hl2 hl0
        generalize l.length - 1 = j at *
        generalize l.getD j 0 = V at *
        have HV := Lib.hid hv16
        clear hv16
        go_wp2_with fail
        refine (dnum_calls w0 A c p most g q out e W 2 HR.out HW.out (by omega)).mono ?_
        rintro ee w4 ⟨x, q2, e2, rfl, hs4, hb4, hd4⟩
        have hx := hd4.1
        have HM := Lib.hid (NxM.tk hd4 (HNX.out 0))
        clear hd4
        have hxI : (x : Int) < 4 := by omega
        have hxI0 : (0 : Int) ≤ (x : Int) := by omega
        go_wp2_with fail
        go_meet
        case rel => exact ⟨V, 3 + x, q2, e2, rfl, by simp, Lib.hid ⟨by omega, by have := HV.out; omega⟩, hs4, hb4, HM⟩
    · have i16 : ¬ (s : Int) = 16 := by omega
      by_cases h17 : s = 17
      · subst h17
        go_wp2_with fail
        refine (dnum_calls w0 A c p most g q out e W 3 HR.out HW.out (by omega)).mono ?_
        rintro ee w4 ⟨x, q2, e2, rfl, hs4, hb4, hd4⟩
        have hx := hd4.1
        have HM := Lib.hid (NxM.tk (l := l) (s := 17) (v := 0) (b := 3) hd4 rfl)
        clear hd4
        have hxI : (x : Int) < 8 := by omega
        have hxI0 : (0 : Int) ≤ (x : Int) := by omega
        go_wp2_with fail
        go_meet
        case rel => exact ⟨0, 3 + x, q2, e2, rfl, by simp, Lib.hid ⟨by omega, by omega⟩, hs4, hb4, HM⟩
      · have i17 : ¬ (s : Int) = 17 := by omega
        by_cases h18 : s = 18
        · subst h18
          go_wp2_with fail
          refine (dnum_calls w0 A c p most g q out e W 7 HR.out HW.out (by omega)).mono ?_
          rintro ee w4 ⟨x, q2, e2, rfl, hs4, hb4, hd4⟩
          have hx := hd4.1
          have HM := Lib.hid (NxM.tk (l := l) (s := 18) (v := 0) (b := 11) hd4 rfl)
          clear hd4
          have hxI : (x : Int) < 128 := by omega
          have hxI0 : (0 : Int) ≤ (x : Int) := by omega
          go_wp2_with fail
          go_meet
          case rel => exact ⟨0, 11 + x, q2, e2, rfl, by simp, Lib.hid ⟨by omega, by omega⟩, hs4, hb4, HM⟩
        · have i18 : ¬ (s : Int) = 18 := by omega
          have HS := Lib.hid (show s ≤ 1000 by omega)
          have HM : Hid (NxM (numB p) (8 * p.length) l s q e s 1 q e) := Lib.hid (by
            by_cases he : e = 0
            · exact .inr ⟨he, .inl ⟨he, by unfold nxtR; rw [if_neg h16, if_neg h17, if_neg h18]; rfl⟩⟩
            · exact .inl ⟨he, rfl⟩)
          go_wp2_with fail
          go_meet
          case rel => exact ⟨s, 1, q, e, rfl, rfl, Lib.hid ⟨by omega, HS.out⟩, Lib.hid (SK.refl 2 g W), HR, HM⟩
  case rest =>
    obtain ⟨V, T, q2, e2, rfl, rfl, HVT, HS, HB, HM⟩ := hcut
    have hT : (T : Int) ≤ 200 := by have := HVT.out; omega
    by_cases hfit : want < l.length + T
    · have ifit : (l.length : Int) + (T : Int) > (want : Int) := by omega
      go_wp2_with fail
      refine (dfail_calls w0 A c p most g q2 out e2 wc HB.out).mono ?_
      rintro ee w4 ⟨rfl, hs4, hb4⟩
      have HS4 := Lib.hid (HS.out.trans hs4)
      have HB4 := Lib.hid hb4
      have c4 := hb4.e_cell
      have hf4 : ((fst e2 4) != 0) = true := by
        unfold fst
        by_cases h : e2 = 0
        · rw [if_pos h]; rfl
        · rw [if_neg h]; simpa using h
      have HMB := Lib.hid (HM.out.big hfit l)
      clear hs4 hb4
      generalize fst e2 4 = e4 at *
      go_wp2_with fail
      go_ret
      exact ⟨l, .slice Av l.length cv, q2, e4, rfl, Lib.hid ⟨HB4.out, own_sk2 HO.out HR.out HS4.out, SV.ofSK HS4.out _, .inl rfl⟩, HMB.out⟩
    · have ifit : ¬ (l.length : Int) + (T : Int) > (want : Int) := by omega
      have c4 := HB.out.e_cell
      by_cases he : e2 = 0
      · subst he
        have HMG := Lib.hid (HM.out.go hfit)
        clear hfit
        have HF0 : Hid (NxF w0 A c p most g q2 out 0 base W wc (.slice Av l.length cv) (.slice Av l.length cv) (l ++ List.replicate 0 V)) := Lib.hid (by
          rw [List.replicate_zero, List.append_nil]
          exact ⟨HB.out, own_sk2 HO.out HR.out HS.out, SV.ofSK HS.out _, .inl rfl⟩)
        go_wp2_with fail
        go_loopw [1, 11] (fun vv iv wr => ∃ i : Nat, iv = .int .i64 i ∧ Hid (i ≤ T) ∧ Hid (NxF w0 A c p most g q2 out 0 base W wr (.slice Av l.length cv) vv (l ++ List.replicate i V))) (fun _ iv _ => T - (intOf iv).toNat)
        case atStart => exact ⟨0, rfl, Lib.hid (Nat.zero_le _), HF0⟩
        case round =>
          clear HF0
          obtain ⟨i, rfl, HI, HF⟩ := hrel
          by_cases hi : i < T
          · have ii : (i : Int) < (T : Int) := by omega
            have HO1 : Hid (wr.ownsRow base 3 1 u1 (natI (l ++ List.replicate i V)).length (nums .i64 (natI (l ++ List.replicate i V)))) := Lib.hid (by rw [natI_length]; exact HF.out.2.1)
            have HSZ : Hid (base ≤ wr.heap.size) := Lib.hid (Nat.le_trans HBS.out HF.out.2.2.1.size)
            have HLN : Hid ((natI (l ++ List.replicate i V)).length ≤ 2000) := Lib.hid (by rw [natI_length, List.length_append, List.length_replicate]; have := HL.out; have := HVT.out; omega)
            have HII := Lib.hid hi
            clear hi
            go_wp2_with (at_builtin; refine print_append_num (w0 := wr) base rfl (.tmp 60) (.tmp 62) 51 3 .i64 8 rfl Tryd.underlying51 infoIntB (by omega) _ (natI (l ++ List.replicate i V)) (V : Int) rfl rfl HO1.out (Below.refl _ _) HSZ.out (by have := HLN.out; omega) ?_; intro v1 w1 hown1 hbel1 hgrow hat; have HOWN := Lib.hid hown1; have HG1 := Lib.hid hgrow; have HAT := Lib.hid hat; clear hown1 hbel1 hgrow hat)
            exact ⟨⟨i + 1, by simp, Lib.hid (by have := HII.out; omega), Lib.hid (HF.out.step HOWN.out HG1.out HAT.out)⟩, by have := HII.out; simp [intOf]; omega⟩
          · obtain rfl : i = T := by have := HI.out; omega
            go_wp2_with fail
            go_ret
            exact ⟨_, u1, q2, 0, rfl, HF, HMG.out⟩
      · have he' : (e2 != 0) = true := by simpa using he
        have HMS := Lib.hid (HM.out.stop he (want := want) l)
        clear hfit
        go_wp2_with fail
        go_ret
        exact ⟨l, .slice Av l.length cv, q2, e2, rfl, Lib.hid ⟨HB.out, own_sk2 HO.out HR.out HS.out, SV.ofSK HS.out _, .inl rfl⟩, HMS.out⟩
end Go.Proofs.YtkdklcamgcmifaaDoor
