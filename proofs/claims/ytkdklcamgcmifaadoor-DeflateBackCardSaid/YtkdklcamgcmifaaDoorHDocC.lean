/- The document's reader: tabled. -/
import Derived.Test.YtkdklcamgcmifaaDoorHDocB
namespace Go.Proofs.YtkdklcamgcmifaaDoor
set_option linter.unusedVariables false
set_option linter.unusedSimpArgs false
open Go.RowKit Go.Proofs.YtkdklcamgcmifaaDoorW.PrintWords Go.Proofs.YtkdklcamgcmifaaDoorW.PrintMore
/-- The document's table: its symbols v, and how many have each length. -/
def dtC (v : Value) (f : Nat → Nat) : List Value := v :: (List.range 16).map fun j => Value.int .i64 ((f j : Nat) : Int)
theorem dtC_len (v : Value) (f : Nat → Nat) : (dtC v f).toArray.size = 17 := by simp [dtC]
theorem dtC_get {v : Value} {f : Nat → Nat} {j : Nat} (h : j < 16) : (dtC v f)[j + 1]? = some (.int .i64 ((f j : Nat) : Int)) := by simp [dtC, h]
theorem dtC_get' {v : Value} {f : Nat → Nat} {j : Nat} (h : j < 16) : (dtC v f)[1 + j]? = some (.int .i64 ((f j : Nat) : Int)) := by
  rw [Nat.add_comm]
  exact dtC_get h
theorem dtC_set' {v : Value} {f : Nat → Nat} {n : Nat} (h : n < 16) : (dtC v f).set (1 + n) (.int .i64 (((f n : Nat) : Int) + 1)) = dtC v (fun j => if j = n then f n + 1 else f j) := by
  rw [Nat.add_comm]
  apply List.ext_getElem?
  intro i
  rw [List.getElem?_set]
  cases i with
  | zero => simp [dtC]
  | succ i =>
    by_cases hi : i < 16
    · by_cases e : n = i
      · subst e
        rw [if_pos rfl, dtC_get h, if_pos (by simp [dtC]; omega)]
        simp
      · rw [if_neg (by omega), dtC_get hi, dtC_get hi, if_neg (fun h => e h.symm)]
    · rw [if_neg (by omega)]
      simp [dtC, hi]
theorem dtC_put {v u : Value} {f : Nat → Nat} : (dtC v f).set 0 u = dtC u f := rfl
theorem dtC_congr {v : Value} {f g : Nat → Nat} (h : ∀ j, j < 16 → f j = g j) : dtC v f = dtC v g := by
  unfold dtC
  congr 1
  apply List.map_congr_left
  intro j hj
  rw [h j (by simpa using hj)]
theorem dtC_one {w : World} {base n : Nat} {f : Nat → Nat} {v : Value} {xs : List Value} {e : TypeId} (h : w.ownsRow base e 1 v n xs) : (dtC v f).toArray.all (·.oneCell') = true := by
  obtain ⟨A, c, rfl⟩ := own_slice h
  rw [Array.all_eq_true_iff_forall_mem]
  intro u hu
  simp only [dtC, List.mem_toArray, List.mem_cons, List.mem_map] at hu
  rcases hu with rfl | ⟨n, _, rfl⟩ <;> rfl
/-- The symbols at hand while length n is gone through, s lengths of it done. -/
def parD (l : List Nat) (n s : Nat) : List Nat := (List.range (n - 1)).flatMap (fun n => idxs (n + 1) l) ++ idxs n (l.take s)
def cfD (l : List Nat) (n s j : Nat) : Nat := if j = 0 then 0 else if j < n then l.count j else if j = n then (l.take s).count n else 0
theorem parD_hit {l : List Nat} {n s : Nat} (h : l[s]? = some n) : parD l n (s + 1) = parD l n s ++ [s] := by
  have hs : s < l.length := by
    rcases Nat.lt_or_ge s l.length with h1 | h1
    · exact h1
    · rw [List.getElem?_eq_none h1] at h; cases h
  unfold parD
  rw [take_snoc h, idxs_snoc, if_pos rfl, List.append_assoc, List.length_take, Nat.min_eq_left (by omega)]
theorem parD_miss {l : List Nat} {n s x : Nat} (h : l[s]? = some x) (hx : x ≠ n) : parD l n (s + 1) = parD l n s := by
  unfold parD
  rw [take_snoc h, idxs_snoc, if_neg hx, List.append_nil]
theorem cfD_hit {l : List Nat} {n s j : Nat} (h : l[s]? = some n) (h0 : n ≠ 0) : cfD l n (s + 1) j = if j = n then cfD l n s n + 1 else cfD l n s j := by
  unfold cfD
  by_cases hj : j = n
  · subst hj
    rw [if_pos rfl, if_neg h0, if_neg (by omega), if_pos rfl, if_neg h0, if_neg (by omega), if_pos rfl, take_snoc h, count_snoc, if_pos rfl]
  · rw [if_neg hj, if_neg hj]
    by_cases h0 : j = 0
    · rw [if_pos h0, if_pos h0]
    · rw [if_neg h0, if_neg h0, if_neg hj]
theorem cfD_miss {l : List Nat} {n s x j : Nat} (h : l[s]? = some x) (hx : x ≠ n) : cfD l n (s + 1) j = cfD l n s j := by
  unfold cfD
  rw [take_snoc h, count_snoc, if_neg hx, Nat.add_zero]
theorem parD_next (l : List Nat) {n : Nat} (h : 1 ≤ n) : parD l n l.length = parD l (n + 1) 0 := by
  unfold parD
  rw [List.take_length, List.take_zero, show idxs (n + 1) [] = [] from rfl, List.append_nil, Nat.add_sub_cancel]
  obtain ⟨m, rfl⟩ : ∃ m, n = m + 1 := ⟨n - 1, by omega⟩
  rw [Nat.add_sub_cancel, List.range_succ, List.flatMap_append]
  simp
theorem cfD_next (l : List Nat) {n : Nat} (j : Nat) : cfD l n l.length j = cfD l (n + 1) 0 j := by
  unfold cfD
  rw [List.take_length, List.take_zero]
  by_cases h0 : j = 0
  · rw [if_pos h0, if_pos h0]
  · rw [if_neg h0, if_neg h0]
    by_cases h1 : j < n
    · rw [if_pos h1, if_pos (by omega)]
    · rw [if_neg h1]
      by_cases h2 : j = n
      · subst h2
        rw [if_pos rfl, if_pos (by omega)]
      · rw [if_neg h2, if_neg (by omega)]
        simp
theorem parD_all (l : List Nat) : parD l 16 0 = symT l := by
  unfold parD symT
  rw [List.take_zero, show idxs 16 [] = [] from rfl, List.append_nil]
theorem cfD_all (l : List Nat) {j : Nat} (h : j < 16) : cfD l 16 0 j = cntT l j := by
  unfold cfD cntT
  by_cases h0 : j = 0
  · rw [if_pos h0, if_pos h0]
  · rw [if_neg h0, if_neg h0, if_pos h]
theorem parD_len (l : List Nat) (n s : Nat) (h : 1 ≤ n ∧ n ≤ 15) : (parD l n s).length ≤ l.length := by
  unfold parD
  rw [List.length_append, symT_take, idxs_len]
  obtain ⟨m, rfl⟩ : ∃ m, n = m + 1 := ⟨n - 1, by omega⟩
  have h1 := cnt_le l m (by omega)
  have h2 := symT_le l
  have h3 := take_count l s (m + 1)
  simp only [cntT] at h1
  rw [if_neg (by omega)] at h1
  rw [Nat.add_sub_cancel]
  omega
/-- tabled's two blocks and its row. -/
def Tw (w W : World) (ss : List Nat) (f : Nat → Nat) : Prop :=
  ∃ v, W.heap[w.heap.size]? = some (.cells (dtC (.slice none 0 0) fun _ => 0).toArray 70 (0, 0)) ∧
    W.heap[w.heap.size + 1]? = some (.cells (dtC v f).toArray 70 (0, 0)) ∧
    W.ownsRow (w.heap.size + 2) 3 1 v ss.length (nums .i64 (natI ss)) ∧ Below w.heap.size w W
theorem Tw.start (w : World) (l : List Nat) : Tw w ((w.alloc (.cells (dtC (.slice none 0 0) fun _ => 0).toArray 70)).alloc (.cells (dtC (.slice none 0 0) fun _ => 0).toArray 70)) [] (cfD l 1 0) := by
  refine ⟨.slice none 0 0, ?_, ?_, own_nil _ _ _ _, below_alloc (below_alloc (Below.refl _ _) _) _⟩
  · exact (Below.heap_alloc _ _ _ (by simp)).trans (heap_alloc_new w _)
  · have hz : ∀ j, cfD l 1 0 j = 0 := by
      intro j
      unfold cfD
      by_cases h : j = 0
      · rw [if_pos h]
      · rw [if_neg h, if_neg (by omega)]
        simp
    rw [dtC_congr (f := cfD l 1 0) (g := fun _ => 0) (fun j _ => hz j)]
    have := heap_alloc_new (w.alloc (.cells (dtC (.slice none 0 0) fun _ => 0).toArray 70)) (.cells (dtC (.slice none 0 0) fun _ => 0).toArray 70)
    rw [World.size_alloc] at this
    exact this
theorem own_low {W : World} {b b' e size n : Nat} {v : Value} {cs : List Value} (h : W.ownsRow b e size v n cs) (hb : b' ≤ b) : W.ownsRow b' e size v n cs :=
  ⟨h.1, h.2.imp id fun ⟨g, cap, cur, h1, h2, h3⟩ => ⟨g, cap, cur, h1, Nat.le_trans hb h2, h3⟩⟩
theorem results_cell {P : Program} {fn : Func} {p : Tmp} {ty : TypeId} (h : fn.results = #[.cell p ty]) (tmps : Array Value) (w : World) (g : Nat) (t : TypeId) (cs : Array Value) (fr : Nat × Nat) (d : TypeDesc)
    (hp : tmps.getD p undef = .pointer (some ⟨g, 0, none⟩)) (hg : w.heap[g]? = some (.cells cs t fr))
    (hu : P.underlying ty = some d) (hd : (match d with | .struct _ | .array _ _ => true | _ => false) = true) (hi : (P.info? ty).map (·.size) = some cs.size) :
    (results fn tmps).run P w = .ok (.agg cs) w := by
  have hp' : tmps[p]?.getD undef = .pointer (some ⟨g, 0, none⟩) := by simpa using hp
  simp [results, h, hp', asAddr, run_loadVar_row w g t ty cs fr d hg hu hd hi]
theorem infoDt : (Tryd.prog.info? 70).map (·.size) = some 17 := by kernel_rfl
set_option maxRecDepth 8000 in
set_option maxHeartbeats 4000000 in
theorem tabled_calls (w : World) (A : Option Addr) (c : Nat) (l : List Nat) (hr : ReadsInt w .i64 A l.length (natI l)) (hl : l.length ≤ 1000) (hx : ∀ x ∈ l, x < 16) :
    Calls Tryd.prog 52 #[.slice A l.length c] w fun ee w' => ∃ v, ee = .returned (.agg (dtC v (cntT l)).toArray) ∧ Hid (w'.ownsRow w.heap.size 3 1 v (symT l).length (nums .i64 (natI (symT l)))) ∧ Hid (Below w.heap.size w w') := by
  have HR := Lib.hid hr
  have HL := Lib.hid hl
  have HX := Lib.hid hx
  clear hr hl hx
  go_enter Tryd.func52, Tryd.ntmps52
  go_wp2_with fail
  have h0 : Tw w ((w.alloc (.cells #[.slice none 0 0, .int .i64 0, .int .i64 0, .int .i64 0, .int .i64 0, .int .i64 0, .int .i64 0, .int .i64 0, .int .i64 0, .int .i64 0, .int .i64 0, .int .i64 0, .int .i64 0, .int .i64 0, .int .i64 0, .int .i64 0, .int .i64 0] 70)).alloc (.cells #[.slice none 0 0, .int .i64 0, .int .i64 0, .int .i64 0, .int .i64 0, .int .i64 0, .int .i64 0, .int .i64 0, .int .i64 0, .int .i64 0, .int .i64 0, .int .i64 0, .int .i64 0, .int .i64 0, .int .i64 0, .int .i64 0, .int .i64 0] 70)) (parD l 1 0) (cfD l 1 0) := by
    rw [show parD l 1 0 = [] from rfl]
    exact Tw.start w l
  generalize ((w.alloc _).alloc _) = W0 at h0 ⊢
  have HT0 := Lib.hid h0
  clear h0
  go_loopw [4] (fun v wr => ∃ n : Nat, v = .int .i64 n ∧ 1 ≤ n ∧ n ≤ 16 ∧ Hid (Tw w wr (parD l n 0) (cfD l n 0))) (fun v _ => 16 - (intOf v).toNat)
  case atStart => exact ⟨1, rfl, by omega, by omega, HT0⟩
  case round =>
    clear HT0
    obtain ⟨n, rfl, hn1, hn2, HT⟩ := hrel
    by_cases hn : n ≤ 15
    · have hni : (n : Int) ≤ 15 := by omega
      go_wp2_with fail
      go_loopw [13] (fun v wr => ∃ s : Nat, v = .int .i64 s ∧ s ≤ l.length ∧ Hid (Tw w wr (parD l n s) (cfD l n s))) (fun v _ => l.length - (intOf v).toNat)
      case atStart => exact ⟨0, rfl, by omega, HT⟩
      case round =>
        clear HT
        obtain ⟨s, rfl, hs, HT⟩ := hrel
        by_cases hlt : s < l.length
        · have slt : (s : Int) < (l.length : Int) := by omega
          obtain ⟨ad, rfl, _⟩ := HR.out.2.2 (by omega)
          obtain ⟨v, hr, ht, ho, hb⟩ := HT.out
          have hcs := nat_cell HR.out hb hlt
          have hx16 := HX.out _ (getD_mem hlt)
          generalize hgx : l.getD s 0 = x at hcs hx16
          have HG := Lib.hid (getD_get hlt hgx)
          clear hgx
          have hl1 : (l.length : Int) ≤ 1000 := by have := HL.out; omega
          by_cases hxn : x = n
          · subst hxn
            have hT := blk_lt ht
            have hne : v.ownBlock ≠ some (w.heap.size + 1) := fun e => by have := own_base ho _ e; omega
            have hne0 : v.ownBlock ≠ some w.heap.size := fun e => by have := own_base ho _ e; omega
            have ho' : wr.ownsRow (w.heap.size + 2) 3 1 v (natI (parD l x s)).length (nums .i64 (natI (parD l x s))) := by rw [natI_length]; exact ho
            have hpl : (natI (parD l x s)).length ≤ 1000 := by rw [natI_length]; have := parD_len l x s (by omega); have := HL.out; omega
            have hsz : w.heap.size + 2 ≤ wr.heap.size := by omega
            obtain ⟨A1, c1, rfl⟩ := own_slice ho
            have ct0 : wr.cell? ⟨w.heap.size + 1, 0, none⟩ = some (.slice A1 (parD l x s).length c1) := blk_cell ht 0
            have ft0 := blk_frozen ht 0
            have hcv : cfD l x s x ≤ 1000 := by
              unfold cfD
              have h1 : l.count x ≤ l.length := List.count_le_length
              have h2 := take_count l s x
              have := HL.out
              by_cases h0 : x = 0
              · rw [if_pos h0]; omega
              · rw [if_neg h0, if_neg (by omega), if_pos rfl]; omega
            obtain ⟨cv, HCV⟩ : ∃ cv, Hid (cfD l x s x = cv ∧ cv ≤ 1000) := ⟨_, Lib.hid ⟨rfl, hcv⟩⟩
            have hcv2 : (cv : Int) ≤ 1000 := by have := HCV.out.2; omega
            clear hcv
            have HO := Lib.hid ho'
            have HPL := Lib.hid hpl
            have HSZ := Lib.hid hsz
            have HTT := Lib.hid ht
            have HRR := Lib.hid hr
            have HBB := Lib.hid hb
            have HNE := Lib.hid hne
            have HNE0 := Lib.hid hne0
            clear ho ho' hpl hsz ht hr hb hne hne0
            go_wp2_with (at_builtin; refine print_append_num (w0 := wr) (w.heap.size + 2) rfl (.tmp 22) (.tmp 24) 51 3 .i64 8 rfl Tryd.underlying51 infoIntB (by omega) _ (natI (parD l x s)) s rfl rfl HO.out (Below.refl _ _) HSZ.out (by have := HPL.out; omega) ?_; intro v1 w1 hown1 hbel1 hgrow hat; have HOWN := Lib.hid hown1; obtain ⟨g2, cap, hv1, _, _⟩ := World.ownsRow.form hown1 (by simp); subst hv1; have hb1 := (hgrow.block (w.heap.size + 1) hT (fun e => HNE.out e.symm)).trans HTT.out; have m4 := blk_frozen hb1 0; have hb2 := blk_setL hb1 0 (.slice (some ⟨g2, 0, none⟩) ((natI (parD l x s)).length + 1) cap); rw [dtC_put] at hb2; have m5 : w1.cell? ⟨w.heap.size + 1, 0, none⟩ = some (.slice A1 (parD l x s).length c1) := blk_cell hb1 0; have m7 := blk_cellL hb2 (dtC_get' (j := x) (by omega)); have m6 := blk_frozen hb2 (1 + x); have HB2 := Lib.hid hb2; clear hb2; rw [HCV.out.1] at m7; have HG1 := Lib.hid hgrow; have HAT := Lib.hid hat; have HB1 := Lib.hid hb1; have HBE := Lib.hid hbel1; clear hown1 hbel1 hgrow hat hb1)
            refine ⟨⟨s + 1, by simp, by omega, Lib.hid ?_⟩, by simp [intOf]; omega⟩
            have h2 := HB2.out
            have h3 := blk_setL h2 (1 + x) (.int .i64 ((cv : Int) + 1))
            rw [← HCV.out.1, dtC_set' (by omega), ← dtC_congr fun j _ => cfD_hit HG.out (by omega)] at h3
            have hown := HOWN.out
            rw [show natI (parD l x s) ++ [(s : Int)] = natI (parD l x (s + 1)) from by rw [parD_hit HG.out]; simp [natI], natI_length] at hown
            have hlen : (natI (parD l x s)).length + 1 = (parD l x (s + 1)).length := by rw [parD_hit HG.out, natI_length]; simp
            rw [hlen] at h3 ⊢
            rw [← HCV.out.1]
            have hlo := own_base hown
            refine ⟨_, ?_, h3, ?_, ?_⟩
            · exact (Below.heap_setCell _ _ _ _ (by simp)).trans ((Below.heap_setCell _ _ _ _ (by simp)).trans ((HG1.out.block w.heap.size (by omega) (fun e => HNE0.out e.symm)).trans HRR.out))
            · refine own_move hown fun k hk => (Below.heap_setCell _ _ _ _ ?_).trans (Below.heap_setCell _ _ _ _ ?_)
              · have := hlo k hk; simp; omega
              · have := hlo k hk; simp; omega
            · exact Below.setCell (Below.setCell (HBB.out.trans (HBE.out.mono (by omega))) (by show w.heap.size ≤ w.heap.size + 1; omega) _) (by show w.heap.size ≤ w.heap.size + 1; omega) _
          · have hxi : ¬ (x : Int) = (n : Int) := by omega
            clear hr ht ho hb
            go_wp2_with fail
            go_roundw
            case rel =>
              exact ⟨s + 1, by simp, by omega, Lib.hid (by
                obtain ⟨v, hr, ht, ho, hb⟩ := HT.out
                refine ⟨v, hr, ?_, ?_, hb⟩
                · rw [dtC_congr (g := cfD l n s) fun j _ => cfD_miss HG.out hxn]
                  exact ht
                · rw [parD_miss HG.out hxn]
                  exact ho)⟩
            case measure => simp [intOf]; omega
        · have slt : ¬ (s : Int) < (l.length : Int) := by omega
          obtain rfl : s = l.length := by omega
          go_wp2_with fail
          refine ⟨⟨n + 1, by simp, by omega, by omega, Lib.hid ?_⟩, by simp [intOf]; omega⟩
          obtain ⟨v, hr, ht, ho, hb⟩ := HT.out
          refine ⟨v, hr, ?_, ?_, hb⟩
          · rw [← dtC_congr fun j _ => cfD_next l j]
            exact ht
          · rw [← parD_next l hn1]
            exact ho
    · have hni : ¬ (n : Int) ≤ 15 := by omega
      obtain rfl : n = 16 := by omega
      obtain ⟨v, hr, ht, ho, hb⟩ := HT.out
      rw [parD_all] at ho
      rw [dtC_congr fun j hj => cfD_all l hj] at ht
      have HTT := Lib.hid ht
      have HRR := Lib.hid hr
      have HBB := Lib.hid hb
      have HOO := Lib.hid ho
      have hone := dtC_one (f := cntT l) ho
      clear hr ht ho hb HT
      go_wp2_with (first
        | (refine wpList_load_row rfl 70 (.tmp 3) rfl (w.heap.size + 1) rfl 70 _ (0, 0) _ HTT.out Tryd.underlying70 rfl (by rw [dtC_len]; exact infoDt) ?_)
        | (refine wpList_store_row rfl 70 (.tmp 2) (.tmp 35) rfl w.heap.size _ rfl rfl 70 _ HRR.out (by rw [dtC_len]; exact infoDt) (by rw [dtC_len, dtC_len]) hone ?_))
      have hb2 := setRow_heap wr w.heap.size _ (dtC v (cntT l)).toArray _ _ HRR.out
      refine bodyPost_ret (results_cell rfl _ _ w.heap.size 70 _ (0, 0) _ rfl hb2 Tryd.underlying70 rfl (by rw [dtC_len]; exact infoDt)) rfl ?_
      refine ⟨v, rfl, Lib.hid ?_, Lib.hid (below_setRow HBB.out (Nat.le_refl _) _)⟩
      exact own_move (own_low HOO.out (by omega)) fun k hk => setRow_other _ _ _ _ (by have := own_base HOO.out k hk; omega)
end Go.Proofs.YtkdklcamgcmifaaDoor
