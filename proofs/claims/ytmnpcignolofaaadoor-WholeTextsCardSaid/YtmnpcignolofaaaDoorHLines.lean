/- diff.Lines answers what linesF says. -/
import Derived.Test.YtmnpcignolofaaaDoorHSplit
import Derived.Lib.SmallJoins
namespace Go.Proofs.YtmnpcignolofaaaDoor
set_option linter.unusedVariables false
set_option linter.unusedSimpArgs false
open Go.RowKit Go.Shelf Go.Proofs.YtmnpcignolofaaaDoorW.PrintWords Go.Proofs.YtmnpcignolofaaaDoorW.PrintMore
attribute [local go_sem] Oper.semAt_some
theorem infoStr : (Tryd.prog.info? 9).map (fun i => (i.zero, i.size, i.bytes)) = some (some (.string .empty), 1, 16) := by kernel_rfl
def strV (l : List Int) : Value := .string (strOfNums l)
/-- Between two rounds of Lines: the box at n0 holds the lines so far. -/
def LnI (w : World) (B : Nat) (pre : List (Pc w)) (W : World) : Prop :=
  ∃ v, Boxed W w.heap.size 24 v ∧ W.ownsRow B 9 1 v (pcL pre).length ((pcL pre).map strV) ∧ Below w.heap.size w W ∧ B ≤ W.heap.size
theorem lnI_bears (w : World) (B bx : Nat) (hB : bx < B) (hn : w.heap.size < bx) : Bears B bx (LnI w B) := by
  rintro s A C ⟨v, hv, ho, hb, hz⟩ hsz hk e1 e2 e3
  refine ⟨v, ?_, own_move ho fun k hkb => ?_, ⟨e1.trans hb.os, e2.trans hb.tape, e3.trans hb.output, Nat.le_trans hb.size hsz, fun i hi => (hk i (Nat.lt_of_lt_of_le hi hb.size) (by omega) (.inl (by omega))).trans (hb.block i hi)⟩, Nat.le_trans hz hsz⟩
  · exact (hk _ hv.lt (by omega) (.inl (by omega))).trans hv
  · obtain ⟨cur, hc⟩ := own_typed ho k hkb
    have := own_base ho k hkb
    exact hk k (blk_lt hc) (by omega) (.inr ⟨_, hc, rfl⟩)
theorem pcL_len {w : World} (xs : List (Pc w)) : (pcL xs).length ≤ xs.length := by
  unfold pcL
  exact Nat.le_trans (List.length_filter_le _ _) (by simp)
theorem below_putObj {n : Nat} {w W : World} (h : Below n w W) {l : Nat} (hl : n ≤ l) (o : Obj) : Below n w (W.putObj l o) := by
  have hg := grownBy_putObj' W l o
  exact ⟨hg.os.trans h.os, hg.tape.trans h.tape, hg.output.trans h.output, Nat.le_trans h.size hg.size, fun i hi => (World.putObj_heap_other (by omega)).trans (h.block i hi)⟩
set_option maxRecDepth 100000 in
set_option maxHeartbeats 4000000 in
theorem lines_calls (w : World) (A : Option Addr) (c : Nat) (text : List Int) (ht : ReadsInt w .u8 A text.length text) (hc : text.length ≤ c) (hby : ∀ x ∈ text, 0 ≤ x ∧ x < 256) (hm : text.length ≤ 1099511627776) :
    Calls Tryd.prog 12 #[.slice A text.length c] w fun e w' => ∃ v, e = .returned v ∧ w'.ownsRow w.heap.size 9 1 v (linesF text).length ((linesF text).map strV) ∧ Below w.heap.size w w' := by
  refine (callsIn_wide (n := 9)).1 ?_
  refine callsIn_of_wp_marks Tryd.func12 rfl trivial ?_ rfl
  simp only [Tryd.ntmps12, List.size_toArray, List.length_cons, List.length_nil, Nat.reduceAdd, Nat.reduceSub, Array.replicate_succ, Array.replicate_zero, List.push_toArray, List.append_toArray, List.nil_append, List.cons_append]
  have kc := fun (w : World) (C : Array Value) (n c : Nat) => Lib.run_convert_bytes_const (P := Tryd.prog) w 22 5 C n c Tryd.underlying22 Tryd.underlying5
  have kc1 := kc (w.alloc (.cells #[.slice none 0 0] 24)) #[.int .u8 10] 1 1
  rw [World.size_alloc] at kc1
  gi_wp2
  refine ⟨trivial, ?_⟩
  refine (splitAfter_in 8 (by decide) A text.length c (w.heap.size + 1) _).mono ?_
  rintro e w' ⟨rfl, rfl⟩
  clear kc kc1
  gi_wp2
  obtain ⟨W3, hW3⟩ : ∃ W3, (((((w.alloc (.cells #[.slice none 0 0] 24)).alloc (.cells #[.int .u8 10] 5 (1, 2))).alloc (.cells #[.slice A text.length c] 22)).alloc (.cells #[.slice (some ⟨w.heap.size + 1, 0, none⟩) 1 1] 22)).alloc (.cells #[.int .i64 1] 3)) = W3 := ⟨_, rfl⟩
  have s3 : W3.heap.size = w.heap.size + 5 := by rw [← hW3]; simp
  have kb : W3.heap[w.heap.size]? = some (.cells #[.slice none 0 0] 24 (0, 0)) := by
    rw [← hW3]
    exact (Below.heap_alloc _ _ _ (by rw [World.size_alloc, World.size_alloc, World.size_alloc, World.size_alloc]; omega)).trans ((Below.heap_alloc _ _ _ (by rw [World.size_alloc, World.size_alloc, World.size_alloc]; omega)).trans ((Below.heap_alloc _ _ _ (by rw [World.size_alloc, World.size_alloc]; omega)).trans ((Below.heap_alloc _ _ _ (by simp)).trans (heap_alloc_new w _))))
  have ks : W3.heap[w.heap.size + 1]? = some (.cells #[.int .u8 10] 5 (1, 2)) := by
    rw [← hW3]
    refine (Below.heap_alloc _ _ _ (by rw [World.size_alloc, World.size_alloc, World.size_alloc, World.size_alloc]; omega)).trans ((Below.heap_alloc _ _ _ (by rw [World.size_alloc, World.size_alloc, World.size_alloc]; omega)).trans ((Below.heap_alloc _ _ _ (by simp)).trans ?_))
    have := World.alloc_heap_new (w.alloc (.cells #[.slice none 0 0] 24)) (.cells #[.int .u8 10] 5 (1, 2))
    rwa [World.size_alloc] at this
  have k1 : W3.heap[w.heap.size + 1 + 1]? = some (.cells #[.slice A text.length c] 22 (0, 0)) := by
    rw [← hW3]
    refine (Below.heap_alloc _ _ _ (by rw [World.size_alloc, World.size_alloc, World.size_alloc, World.size_alloc]; omega)).trans ((Below.heap_alloc _ _ _ (by simp)).trans ?_)
    have := World.alloc_heap_new ((w.alloc (.cells #[.slice none 0 0] 24)).alloc (.cells #[.int .u8 10] 5 (1, 2))) (.cells #[.slice A text.length c] 22)
    rwa [World.size_alloc, World.size_alloc] at this
  have k2 : W3.heap[w.heap.size + 1 + 1 + 1]? = some (.cells #[.slice (some ⟨w.heap.size + 1, 0, none⟩) 1 1] 22 (0, 0)) := by
    rw [← hW3]
    refine (Below.heap_alloc _ _ _ (by simp)).trans ?_
    have := World.alloc_heap_new (((w.alloc (.cells #[.slice none 0 0] 24)).alloc (.cells #[.int .u8 10] 5 (1, 2))).alloc (.cells #[.slice A text.length c] 22)) (.cells #[.slice (some ⟨w.heap.size + 1, 0, none⟩) 1 1] 22)
    rwa [World.size_alloc, World.size_alloc, World.size_alloc] at this
  have k3 : W3.heap[w.heap.size + 1 + 1 + 1 + 1]? = some (.cells #[.int .i64 1] 3 (0, 0)) := by
    rw [← hW3]
    have := World.alloc_heap_new ((((w.alloc (.cells #[.slice none 0 0] 24)).alloc (.cells #[.int .u8 10] 5 (1, 2))).alloc (.cells #[.slice A text.length c] 22)).alloc (.cells #[.slice (some ⟨w.heap.size + 1, 0, none⟩) 1 1] 22)) (.cells #[.int .i64 1] 3)
    rwa [World.size_alloc, World.size_alloc, World.size_alloc, World.size_alloc] at this
  have hb3 : Below w.heap.size w W3 := by rw [← hW3]; exact below_alloc (below_alloc (below_alloc (below_alloc (below_alloc (Below.refl _ _) _) _) _) _) _
  rw [hW3]
  clear hW3
  refine wpIn_rangeFunc_box rfl (by decide) (gf := 74) (lb := #[.pointer (some ⟨w.heap.size + 1 + 1 + 1, 0, none⟩), .pointer (some ⟨w.heap.size + 1 + 1, 0, none⟩), .pointer (some ⟨w.heap.size + 1 + 1 + 1 + 1, 0, none⟩)]) rfl trivial (enters_of Tryd.func74 (by kernel_rfl) rfl)
    (split_seq 8 (by decide) w W3 A c text ht hc hby hm (w.heap.size + 1 + 1) (w.heap.size + 1 + 1 + 1) (w.heap.size + 1 + 1 + 1 + 1) (w.heap.size + 1) hb3 (by omega) k1 k2 k3 ks ⟨by omega, by omega, by omega⟩) (by omega) (fun h k => h.trans k)
    (fun W' l o o' hl _ _ _ => ⟨below_putObj (Below.refl _ _) (by omega) o', World.putObj_heap_other (by omega), World.putObj_heap_other (by omega), World.putObj_heap_other (by omega), World.putObj_heap_other (by omega)⟩) (fun _ => rfl)
    (LnI w W3.heap.size) (lnI_bears w W3.heap.size (w.heap.size + 1 + 1) (by omega) (by omega)) ⟨.slice none 0 0, kb, own_nil _ _ _ _, hb3, Nat.le_refl _⟩
    (fun x => { tmps := #[.slice A text.length c, undef, .slice none 0 0, .pointer (some ⟨w.heap.size, 0, none⟩), .slice x.1.1 x.1.2.length x.1.2.length, .slice A text.length c, .slice (some ⟨w.heap.size + 1, 0, none⟩) 1 1, .slice (some ⟨w.heap.size + 1, 0, none⟩) 1 1, .func (.func 74) #[] #[.pointer (some ⟨w.heap.size + 1 + 1 + 1, 0, none⟩), .pointer (some ⟨w.heap.size + 1 + 1, 0, none⟩), .pointer (some ⟨w.heap.size + 1 + 1 + 1 + 1, 0, none⟩)], .slice x.1.1 x.1.2.length x.1.2.length, undef, undef, undef, undef, undef, undef, undef, undef, undef], defers := [] }) ?assign ?body ?done
  case assign =>
    intro l x W' K hK
    simp only [pcV]
    gi_wp2
    exact hK
  case body =>
    rintro l pre x W1 ⟨v, hv, ho, hbw, hz⟩ hlen
    have hsnoc := pcL_snoc pre x
    have hpl := pcL_len pre
    by_cases hx : x.1.2 = []
    · rw [if_pos hx, List.append_nil] at hsnoc
      have hx0 : x.1.2.length = 0 := by rw [hx]; rfl
      have HI := Lib.hid (show LnI w W3.heap.size (pre ++ [x]) W1 from ⟨v, hv, by rw [hsnoc]; exact ho, hbw, hz⟩)
      rw [hx0]
      clear hx hx0 hsnoc
      gi_wp2
      exact ⟨(KeepsOthers.refl _).from _, ⟨Below.refl _ _, rfl, rfl, rfl, rfl⟩, HI.out⟩
    · rw [if_neg hx] at hsnoc
      have hx1 : (0 : Int) < (x.1.2.length : Int) := by
        have : x.1.2.length ≠ 0 := fun h => hx (List.eq_nil_of_length_eq_zero h)
        omega
      have hcv := (Kd.C_string (P := Tryd.prog) (A := x.1.1) (c := x.1.2.length) Tryd.underlying22 Tryd.underlying5 Tryd.underlying9 (toC (x.2.below hbw)))
      have hc1 := hv.cell
      obtain ⟨i0, hi0, hz0, hz1, hz2⟩ := info_parts infoStr
      have hbox1 : v.ownBlock ≠ some w.heap.size := fun e => by have := own_base ho _ e; omega
      have HSN := Lib.hid hsnoc
      have HBD := Lib.hid (show (pcL pre).length + 1 ≤ maxLen ∧ ((pcL pre).length + 1) * 16 ≤ 140737488355328 from ⟨by simp only [maxLen]; omega, by omega⟩)
      have hle : w.heap.size ≤ W3.heap.size := by omega
      clear hx hsnoc
      gi_wp2_with (gi_at_builtin; refine wpListIn_append_own _ rfl _ _ 24 rfl W3.heap.size 9 i0 (.string .empty) 1 16 Tryd.underlying24 hi0 hz0 hz1 hz2 rfl (by decide) _ _ _ rfl (ho.alloc _) ⟨W1.heap.size, 0, none⟩ 1 1 [.string (strOfNums x.1.2)] rfl rfl (cell_one_new _ _ _) (by simp [Value.oneCell']) HBD.out.1 HBD.out.2 (by rw [World.size_alloc]; exact Nat.le_succ_of_le hz) ?_; intro v' w1 hown' hgrow hat; obtain ⟨g', cap', rfl⟩ := ownsRow_succ hown'; obtain ⟨hv1, hv2, hr2, hk2, hb2⟩ := hv.appended (by decide) (own_weaken ho hle) hbw.size (Nat.le_refl _) (own_weaken hown' hle) hgrow; have hc1 := hv1.cell; have hf1 := hv1.frozen; have HBX := Lib.hid (And.intro hv1 (And.intro hv2 (And.intro hown' (And.intro hk2 (And.intro hb2 hgrow))))); clear hv1 hv2 hr2 hk2 hb2 hown' hgrow)
      obtain ⟨hv1, hv2, hown', hk2, hb2, hgrow⟩ := HBX.out
      have hkp : ∀ k, w.heap.size < k → k < W3.heap.size → (w1.setCell ⟨w.heap.size, 0, none⟩ (.slice (some ⟨g', 0, none⟩) ((pcL pre).length + 1) cap')).heap[k]? = W1.heap[k]? := fun k h1 h2 =>
        (Below.heap_setCell w1 ⟨w.heap.size, 0, none⟩ _ k (by simp only; omega)).trans ((hgrow.block k (by rw [World.size_alloc]; omega) (fun e => by have := own_base ho k e.symm; omega)).trans (Below.heap_alloc W1 _ k (by omega)))
      refine ⟨hk2.from _, ⟨hb2, hkp _ (by omega) (by omega), hkp _ (by omega) (by omega), hkp _ (by omega) (by omega), hkp _ (by omega) (by omega)⟩, _, hv2, ?_, hbw.trans hb2, ?_⟩
      · rw [HSN.out, List.length_append, List.map_append]
        exact hown'.kept (grownBy_setCell' w1 _ _) (.inr (hv1.not_row (by decide) hown').symm)
      · have h1 := hgrow.size
        rw [World.size_alloc] at h1
        simp only [World.setCell, Array.size_modify]
        omega
  case done =>
    rintro D xs W' hD hS ⟨v, hv, ho, hbw, hz⟩ hK
    have hc1 := hv.cell
    gi_wp2
    refine ⟨by simp, .inl ⟨_, _, rfl, run_takeDeferred hK, ?_⟩⟩
    have hS' : pcL xs = linesF text := hS
    rw [hS'] at ho
    refine ⟨_, results_tmp rfl _ _ _, v, rfl, own_weaken (own_move ho fun k hk => World.putObj_heap_other (fun e => ?_)) (by omega), below_putObj hbw (by omega) _⟩
    obtain ⟨cur, hc⟩ := own_typed ho k hk
    rw [e, hK] at hc
    cases hc
end Go.Proofs.YtmnpcignolofaaaDoor
