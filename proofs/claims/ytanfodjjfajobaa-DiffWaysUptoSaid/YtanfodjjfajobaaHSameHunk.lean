/- codicillaw19.of, codicilref19.SameHunks, DocHunks; lists that are too long. -/
import Derived.Test.YtanfodjjfajobaaHRefHunk
namespace Go.Proofs.Ytanfodjjfajobaa
set_option linter.unusedVariables false
set_option linter.unusedSimpArgs false
open Go.RowKit Go.Proofs.YtanfodjjfajobaaW.PrintWords Go.Proofs.YtanfodjjfajobaaW.PrintMore
set_option maxHeartbeats 2000000 in
theorem hunks_long (w : World) (A : Option Addr) (ca n : Nat) (B : Option Addr) (cb m : Nat) (h : 1000 < n ∨ 1000 < m) (hn : n ≤ 9223372036854775807) (hm : m ≤ 9223372036854775807) :
    Calls Try.prog 16 #[.slice A n ca, .slice B m cb] w fun e w' => e = .returned (.tuple #[.slice none 0 0, .int .i64 2]) ∧ w' = w := by
  have HL := Lib.hid (way_long w A ca n B cb m h hn hm)
  clear h
  go_enter Try.func16, Try.ntmps16
  go_wp2_with fail
  refine HL.out.mono ?_
  rintro e w1 ⟨rfl, rfl⟩
  go_wp2_with fail
  go_ret2
  exact ⟨rfl, rfl⟩
set_option maxHeartbeats 2000000 in
theorem docHunks_long (w : World) (A : Option Addr) (ca n : Nat) (B : Option Addr) (cb m : Nat) (h : 1000 < n ∨ 1000 < m) :
    Calls Try.prog 17 #[.slice A n ca, .slice B m cb] w fun e w' => e = .returned (.tuple #[.slice none 0 0, .int .i64 2]) ∧ w' = w := by
  have HN := Lib.hid (long_yes w A ca n B cb m h)
  clear h
  go_enter Try.func17, Try.ntmps17
  go_wp2_with fail
  refine HN.out.mono ?_
  rintro e w1 ⟨rfl, rfl⟩
  go_wp2_with fail
  go_ret2
  exact ⟨rfl, rfl⟩
set_option maxHeartbeats 2000000 in
theorem docHunks_calls (w : World) (A : Option Addr) (ca : Nat) (a : List ByteArray) (B : Option Addr) (cb : Nat) (b : List ByteArray) (hla : ReadsOf Value.string ByteArray.empty w A a.length a) (hlb : ReadsOf Value.string ByteArray.empty w B b.length b)
    (hna : a.length ≤ 60) (hnb : b.length ≤ 60) :
    Calls Try.prog 17 #[.slice A a.length ca, .slice B b.length cb] w fun e w' => ∃ v, e = .returned (.tuple #[v, .int .i64 0]) ∧ w'.ownsRow w.heap.size 62 2 v (hks a b).length (hc (hks a b)) ∧ Below w.heap.size w w' := by
  have HN := Lib.hid (long_no w A ca a.length B cb b.length (by omega) (by omega))
  have HW := Lib.hid (refWay_calls w A ca a B cb b hla hlb hna hnb)
  have hl := (wayP_len a b).1
  obtain ⟨m, hm⟩ : ∃ m, m = (wayP a b).length := ⟨_, rfl⟩
  rw [← hm] at HW hl
  have HM := Lib.hid hm
  clear hla hlb hm
  go_enter Try.func17, Try.ntmps17
  go_wp2_with fail
  refine HN.out.mono ?_
  rintro e w1 ⟨rfl, rfl⟩
  go_wp2_with fail
  refine HW.out.mono ?_
  rintro e w2 ⟨v, rfl, hv, hb⟩
  obtain ⟨W0, cw, rfl⟩ := own_slice hv
  have hr := own_reads_of' (d := (0, 0)) hv
  obtain ⟨ax, rfl, _⟩ := hr.2.2 (by omega)
  have HH := Lib.hid (refHunks_calls w2 ax cw a b m HM.out hr hna hnb)
  have HB := Lib.hid hb
  clear hv hb hr HW
  go_wp2_with fail
  refine HH.out.mono ?_
  rintro e w3 ⟨v, rfl, hv, hb⟩
  have HV := Lib.hid (own_weaken hv (base' := w1.heap.size) HB.out.size)
  have HB2 := Lib.hid (below_then HB.out HB.out.size hb)
  clear hv hb
  go_wp2_with fail
  go_ret2
  exact ⟨v, rfl, HV.out, HB2.out⟩
theorem hc_0 (l : List (Pn × Pn)) (i : Nat) (h : i < l.length) : (hc l)[i * 2]? = some (pt (l.getD i ((0, 0), (0, 0))).1) ∧ (hc l)[i * 2 + 1]? = some (pt (l.getD i ((0, 0), (0, 0))).2) := by
  induction l generalizing i with
  | nil => simp at h
  | cons p l ih =>
    rcases i with _ | i
    · exact ⟨rfl, rfl⟩
    · have := ih i (by simpa using h)
      rw [show (i + 1) * 2 = i * 2 + 1 + 1 by omega]
      exact ⟨this.1, this.2⟩
theorem own_cells2 {w : World} {base : Nat} {e : TypeId} {g cap : Nat} {l : List (Pn × Pn)} (h : w.ownsRow base e 2 (.slice (some ⟨g, 0, none⟩) l.length cap) l.length (hc l)) (i : Nat) (hi : i < l.length) :
    w.cell? ⟨g, i * 2, none⟩ = some (pt (l.getD i ((0, 0), (0, 0))).1) ∧ w.cell? ⟨g, i * 2 + 1, none⟩ = some (pt (l.getD i ((0, 0), (0, 0))).2) := by
  have h1 := h.cells (g := g) rfl _ _ (hc_0 l i hi).1
  have h2 := h.cells (g := g) rfl _ _ (hc_0 l i hi).2
  rw [add_plain] at h1 h2
  exact ⟨h1, h2⟩
theorem al_size (W : World) (o : Obj) : (W.alloc o).heap.size = W.heap.size + 1 := by simp
theorem sto_cx2 (p : Pn) (w : World) (a : Addr) : (store a (pt p)).run Try.prog w = stored Try.prog w a (pt p) .plain := run_store _ w a _ _ rfl
set_option maxRecDepth 20000 in
set_option maxHeartbeats 40000000 in
theorem of_calls (w : World) (base : Nat) (v : Value) (l : List (Pn × Pn)) (hv : w.ownsRow base 60 2 v l.length (hc l)) (hl : l.length ≤ 1000) :
    Calls Try.prog 19 #[v] w fun e w' => ∃ u, e = .returned u ∧ w'.ownsRow w.heap.size 62 2 u l.length (hc l) ∧ Below w.heap.size w w' := by
  obtain ⟨A, c, rfl⟩ := own_slice hv
  have HV := Lib.hid hv
  clear hv
  go_enter Try.func19, Try.ntmps19
  go_wp2_with fail
  go_loopw [8, 3] (fun v8 v3 wr => ∃ i : Nat, v8 = .int .i64 i ∧ i ≤ l.length ∧ Hid (wr.ownsRow w.heap.size 62 2 v3 (l.take i).length (hc (l.take i))) ∧ Hid (Below w.heap.size w wr)) (fun v8 _ _ => l.length - (intOf v8).toNat)
  case atStart => exact ⟨0, rfl, by omega, Lib.hid (own_nil _ _ _ _), Lib.hid (Below.refl _ _)⟩
  case round =>
    obtain ⟨i, rfl, hi, hrow, hbel⟩ := hrel
    by_cases hlt : i < l.length
    · have i0 : (0 : Int) ≤ (i : Int) := by omega
      have i1 : (i : Int) < (l.length : Int) := by omega
      obtain ⟨g, cap, hg⟩ := own_pos HV.out (by omega)
      injection hg with hg1 _ hg2
      subst hg1 hg2
      have hc2 := own_cells2 (pw_own_below HV.out hbel.out) i hlt
      obtain ⟨⟨⟨p1, p2⟩, ⟨q1, q2⟩⟩, hd⟩ : ∃ x, x = l.getD i ((0, 0), (0, 0)) := ⟨_, rfl⟩
      rw [← hd] at hc2
      have k1 : wr.cell? ⟨g, i * 2, none⟩ = some (.complex .f64 (fl p1) (fl p2)) := hc2.1
      have k2 : wr.cell? ⟨g, i * 2 + 1, none⟩ = some (.complex .f64 (fl q1) (fl q2)) := hc2.2
      have HD := Lib.hid hd
      clear hc2 hd
      have hs1 := sto_cx (fl p1) (fl p2)
      have hs2 := sto_cx (fl q1) (fl q2)
      have HRB := fun o => Lib.hid (hrow.out.alloc o)
      have HBB := fun o => Lib.hid (hbel.out.alloc hbel.out.size o)
      have hts : (l.take i).length = i := by simp; omega
      have HTS := Lib.hid hts
      clear hrow hts
      go_wp2_with (
        at_builtin
        refine print_append_cells (w0 := w) (W := wr.alloc (Obj.cells #[Value.complex FloatKind.f64 (fl p1) (fl p2), Value.complex FloatKind.f64 (fl q1) (fl q2)] 60)) w.heap.size rfl (.tmp 12) (.tmp 18) 38 62 (.agg #[.complex .f64 0 0, .complex .f64 0 0]) 2 32 rfl Try.underlying38 infoR rfl (by omega) (by omega) u3 (l.take i).length (hc (l.take i)) [.complex .f64 (fl p1) (fl p2), .complex .f64 (fl q1) (fl q2)] (by rfl) (by rw [al_size]; rfl) rfl (by intro u hu; simp at hu; rcases hu with rfl | rfl <;> rfl) (HRB _).out (HBB _).out (HBB _).out.size (by rw [HTS.out]; omega) ?_
        intro v1 w5 hown1 hbel1 hgrow hat1
        have HO1 := Lib.hid hown1
        have HB1 := Lib.hid hbel1
        clear hown1 hbel1 hgrow hat1 HRB HBB k1 k2)
      go_roundw
      case rel =>
        refine ⟨i + 1, by go_num, by omega, Lib.hid ?_, HB1⟩
        have h := HO1.out
        have e : l.take (i + 1) = l.take i ++ [((p1, p2), (q1, q2))] := by
          rw [List.take_succ_eq_append_getElem hlt, HD.out]
          simp [List.getD_eq_getElem?_getD, List.getElem?_eq_getElem hlt]
        rw [e, List.length_append, hc_append]
        exact h
      case measure => simp [intOf]; omega
    · obtain rfl : i = l.length := by omega
      go_wp2_with fail
      go_ret
      have h := hrow.out
      rw [List.take_length] at h
      exact ⟨_, rfl, h, hbel.out⟩
end Go.Proofs.Ytanfodjjfajobaa
