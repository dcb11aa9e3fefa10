/- delta.span: what a copy names. -/
import Derived.Test.YtiocipmnmjpkfaaHDel
import Derived.Laws.BitsAllLaws
import Derived.Laws.BitsLemmas
namespace Go.Proofs.Ytiocipmnmjpkfaa
set_option linter.unusedVariables false
set_option linter.unusedSimpArgs false
open Go.RowKit Go.Proofs.YtiocipmnmjpkfaaW.PrintWords Go.Proofs.YtiocipmnmjpkfaaW.PrintMore

theorem and1b (x : Int) (h0 : 0 ≤ x) (h1 : x < 256) : bits .and .u8 x 1 = x % 2 := bits_mask .u8 8 (by decide) wraps_u8 1 (by decide) x h0 h1
/-- Seven numbers in a block. -/
def row7 (vs : List Int) : Array Value := ((vs ++ List.replicate (7 - vs.length) 0).map (Value.int .i64)).toArray
theorem row7_at (vs : List Int) (h : vs.length < 7) : (row7 vs)[vs.length]? = some (.int .i64 0) := by
  have h2 : 0 < 7 - vs.length := by omega
  simp [row7, List.getElem?_replicate, h2]
theorem row7_zero (vs : List Int) (h : vs.length < 7) : row7 (vs ++ [0]) = row7 vs := by
  unfold row7
  rw [List.length_append, List.length_singleton, show 7 - vs.length = (7 - (vs.length + 1)) + 1 from by omega, List.replicate_succ]
  simp
theorem row7_set (vs : List Int) (x : Int) (h : vs.length < 7) : (row7 vs).setIfInBounds vs.length (.int .i64 x) = row7 (vs ++ [x]) := by
  unfold row7
  rw [List.length_append, List.length_singleton, show 7 - vs.length = (7 - (vs.length + 1)) + 1 from by omega, List.replicate_succ]
  simp only [List.setIfInBounds_toArray]
  congr 1
  rw [List.map_append, List.set_append_right _ _ (by simp)]
  simp
/-- What span answers. -/
def SpanAns (p : Option (List Int × Nat)) (e : Ending) : Prop := match p with
  | none => e = .returned (.tuple #[.int .i64 0, .int .i64 0, .int .i64 0, .bool false])
  | some (vs, u) => e = .returned (.tuple #[.int .i64 (atV vs), .int .i64 (cntV vs), .int .i64 u, .bool true])
theorem SpanAns.mk {vs : List Int} {u : Nat} {a n : Int} (h1 : a = atV vs) (h2 : n = cntV vs) : SpanAns (some (vs, u)) (.returned (.tuple #[.int .i64 a, .int .i64 n, .int .i64 u, .bool true])) := by
  subst h1 h2
  rfl
theorem seven (vs : List Int) (h : vs.length = 7) : ∃ a b c d e f g, vs = [a, b, c, d, e, f, g] := by
  rcases vs with _ | ⟨a, vs⟩
  · simp at h
  rcases vs with _ | ⟨b, vs⟩
  · simp at h
  rcases vs with _ | ⟨c, vs⟩
  · simp at h
  rcases vs with _ | ⟨d, vs⟩
  · simp at h
  rcases vs with _ | ⟨e, vs⟩
  · simp at h
  rcases vs with _ | ⟨f, vs⟩
  · simp at h
  rcases vs with _ | ⟨g, vs⟩
  · simp at h
  rcases vs with _ | ⟨x, vs⟩
  · exact ⟨a, b, c, d, e, f, g, rfl⟩
  · simp at h
theorem or64 (v x : Int) (p : Nat) (h0 : 0 ≤ v) (h1 : v < 2 ^ p) (hx : 0 ≤ x) (hp : p ≤ 60) (hb : x * 2 ^ p < 9223372036854775808) : bits .or .i64 v (x * 2 ^ p) = v + x * 2 ^ p := by
  obtain ⟨n, rfl⟩ := Int.eq_ofNat_of_zero_le h0
  obtain ⟨m, rfl⟩ := Int.eq_ofNat_of_zero_le hx
  have e : ((m : Int) * 2 ^ p) = ((m * 2 ^ p : Nat) : Int) := by simp
  have hn : n < 2 ^ p := by
    have : ((2 ^ p : Nat) : Int) = 2 ^ p := by simp
    omega
  have h63 : 2 ^ p ≤ 2 ^ 60 := Nat.pow_le_pow_right (by decide) hp
  rw [e] at hb ⊢
  rw [(bits_nat .i64 63 (by decide) (fun n h0 h1 => by rw [IntKind.wrap_i64]; omega) n (m * 2 ^ p) (by omega) (by omega)).2]
  have := Nat.two_pow_add_eq_or_of_lt hn m
  rw [Nat.or_comm, Nat.mul_comm, ← this]
  omega
theorem at_or (a b c d : Int) (ha : 0 ≤ a ∧ a < 256) (hb : 0 ≤ b ∧ b < 256) (hc : 0 ≤ c ∧ c < 256) (hd : 0 ≤ d ∧ d < 256) :
    bits .or .i64 (bits .or .i64 (bits .or .i64 a (wrap64 (b * 256))) (wrap64 (c * 65536))) (wrap64 (d * 16777216)) = leV [a, b, c, d] := by
  have w1 : wrap64 (b * 256) = b * 2 ^ 8 := by simp [wrap64]; omega
  have w2 : wrap64 (c * 65536) = c * 2 ^ 16 := by simp [wrap64]; omega
  have w3 : wrap64 (d * 16777216) = d * 2 ^ 24 := by simp [wrap64]; omega
  rw [w1, or64 a b 8 ha.1 (by omega) hb.1 (by omega) (by omega), w2, or64 _ c 16 (by omega) (by omega) hc.1 (by omega) (by omega), w3, or64 _ d 24 (by omega) (by omega) hd.1 (by omega) (by omega)]
  simp only [leV]
  omega
theorem cnt_or (a b c : Int) (ha : 0 ≤ a ∧ a < 256) (hb : 0 ≤ b ∧ b < 256) (hc : 0 ≤ c ∧ c < 256) :
    bits .or .i64 (bits .or .i64 a (wrap64 (b * 256))) (wrap64 (c * 65536)) = leV [a, b, c] := by
  have w1 : wrap64 (b * 256) = b * 2 ^ 8 := by simp [wrap64]; omega
  have w2 : wrap64 (c * 65536) = c * 2 ^ 16 := by simp [wrap64]; omega
  rw [w1, or64 a b 8 ha.1 (by omega) hb.1 (by omega) (by omega), w2, or64 _ c 16 (by omega) (by omega) hc.1 (by omega) (by omega)]
  simp only [leV]
  omega
set_option maxHeartbeats 2000000 in
theorem dspan_calls (A : Option Addr) (cp : Nat) (c : Int) (d : List Int) (w : World) (hl : ReadsInt w .u8 A d.length d) (hm : d.length ≤ 140737488355328) (hc0 : 0 ≤ c) (hc : c < 256) (hby : ∀ x ∈ d, 0 ≤ x ∧ x < 256) :
    Calls Try.prog 63 #[.int .u8 c, .slice A d.length cp] w fun e w' => SpanAns (pickV c d 7) e ∧ Below w.heap.size w w' := by
  have HL := Lib.hid hl
  have HBY := Lib.hid hby
  have HC := Lib.hid (⟨hc0, hc⟩ : 0 ≤ c ∧ c < 256)
  clear hl hby hc0 hc
  go_enter Try.func63, Try.ntmps63
  go_wp2_with fail
  go_loopw [9, 13] (fun used i wr => ∃ (k u : Nat) (vs : List Int), k ≤ 7 ∧ i = .int .i64 k ∧ used = .int .i64 u ∧ Hid (pickV c d k = some (vs, u)) ∧ Hid (wr.heap[w.heap.size]? = some (.cells (row7 vs) 87 (0, 0))) ∧ Hid (Below w.heap.size w wr)) (fun used i _ => 7 - (intOf i).toNat)
  case atStart => exact ⟨0, 0, [], by omega, rfl, rfl, rfl, heap_alloc_new w _, below_alloc (Below.refl _ _) _⟩
  case round =>
    obtain ⟨k, u, vs, hk, rfl, rfl, HP, HR, HB⟩ := hrel
    have HF := Lib.hid (pickV_facts c d HBY.out k vs u HP.out)
    by_cases hlt : k < 7
    · have hp2 : (0 : Int) < 2 ^ k := Int.pow_pos (by decide)
      have h1 := and1b (c / 2 ^ k) (Int.ediv_nonneg HC.out.1 (Int.le_of_lt hp2)) (Int.lt_of_le_of_lt (Int.ediv_le_self _ HC.out.1) HC.out.2)
      clear hp2
      by_cases h0 : c / 2 ^ k % 2 = 0
      · have HZ := Lib.hid (pickV_zero c d k HP.out h0)
        have hr : Hid (wr.heap[w.heap.size]? = some (.cells (row7 (vs ++ [0])) 87 (0, 0))) := Lib.hid (by rw [row7_zero vs (by rw [HF.out.1]; exact hlt)]; exact HR.out)
        go_wp2_with fail
        go_roundw
        case rel => exact ⟨k + 1, u, vs ++ [0], hlt, by simp, rfl, HZ, hr, HB⟩
        case measure => simp [intOf]; omega
      · by_cases hu : u < d.length
        · obtain ⟨ad, rfl, hcell⟩ := HL.out.2.2 (by omega)
          have hcl := pw_cell_below HB.out (hcell u hu)
          have HZ := Lib.hid (pickV_one c d k HP.out h0 hu)
          have hbx : 0 ≤ d.getD u 0 ∧ d.getD u 0 < 256 := by
            rw [show d.getD u 0 = d[u] from by simp [hu]]
            exact HBY.out _ (List.getElem_mem hu)
          generalize d.getD u 0 = x at hcl HZ hbx
          have hck : wr.cell? ⟨w.heap.size, k, none⟩ = some (.int .i64 0) := (blk_cell HR.out k).trans (by rw [← HF.out.1]; exact row7_at vs (by rw [HF.out.1]; exact hlt))
          have hfk : wr.frozen? ⟨w.heap.size, k, none⟩ = false := blk_frozen HR.out k
          have HS := Lib.hid (show (wr.setCell ⟨w.heap.size, k, none⟩ (.int .i64 x)).heap[w.heap.size]? = some (.cells (row7 (vs ++ [x])) 87 (0, 0)) by
            have := blk_set HR.out k (.int .i64 x)
            rw [this, ← row7_set vs x (by rw [HF.out.1]; exact hlt), HF.out.1])
          clear hcell
          go_wp2_with fail
          go_roundw
          case rel => exact ⟨k + 1, u + 1, vs ++ [x], hlt, by simp, by simp, HZ, HS, below_set HB.out (Nat.le_refl _)⟩
          case measure => simp [intOf]; omega
        · have HZ := Lib.hid (pickV_later c d (k + 1) (pickV_fail c d k HP.out h0 hu) 7 (by omega))
          go_wp2_with fail
          refine bodyPost_ret (results_tmp4' rfl _ _ _) rfl ⟨?_, HB.out⟩
          rw [HZ.out]
          rfl
    · obtain rfl : k = 7 := by omega
      obtain ⟨v0, v1, v2, v3, v4, v5, v6, rfl⟩ := seven vs HF.out.1
      have hc0 : wr.cell? ⟨w.heap.size, 0, none⟩ = some (.int .i64 v0) := (blk_cell HR.out 0).trans rfl
      have hc1 : wr.cell? ⟨w.heap.size, 1, none⟩ = some (.int .i64 v1) := (blk_cell HR.out 1).trans rfl
      have hc2 : wr.cell? ⟨w.heap.size, 2, none⟩ = some (.int .i64 v2) := (blk_cell HR.out 2).trans rfl
      have hc3 : wr.cell? ⟨w.heap.size, 3, none⟩ = some (.int .i64 v3) := (blk_cell HR.out 3).trans rfl
      have hc4 : wr.cell? ⟨w.heap.size, 4, none⟩ = some (.int .i64 v4) := (blk_cell HR.out 4).trans rfl
      have hc5 : wr.cell? ⟨w.heap.size, 5, none⟩ = some (.int .i64 v5) := (blk_cell HR.out 5).trans rfl
      have hc6 : wr.cell? ⟨w.heap.size, 6, none⟩ = some (.int .i64 v6) := (blk_cell HR.out 6).trans rfl
      have hb := HF.out.2.2.2
      have hA := at_or v0 v1 v2 v3 (hb v0 (by simp)) (hb v1 (by simp)) (hb v2 (by simp)) (hb v3 (by simp))
      have hC := cnt_or v4 v5 v6 (hb v4 (by simp)) (hb v5 (by simp)) (hb v6 (by simp))
      have HA := Lib.hid (show atV [v0, v1, v2, v3, v4, v5, v6] = leV [v0, v1, v2, v3] from rfl)
      have HD := Lib.hid (show cntV [v0, v1, v2, v3, v4, v5, v6] = if leV [v4, v5, v6] = 0 then 65536 else leV [v4, v5, v6] from rfl)
      generalize leV [v0, v1, v2, v3] = av at hA HA
      generalize leV [v4, v5, v6] = nv at hC HD
      have HAA := Lib.hid hA
      have HCC := Lib.hid hC
      clear hb hA hC
      go_wp2_with fail
      · rename_i hz
        rw [HCC.out] at hz
        refine bodyPost_ret (results_tmp4' rfl _ _ _) rfl ⟨?_, HB.out⟩
        rw [HP.out]
        exact SpanAns.mk (HAA.out.trans HA.out.symm) (by rw [HD.out, if_pos (by simpa using hz)])
      · rename_i hz
        rw [HCC.out] at hz
        refine bodyPost_ret (results_tmp4' rfl _ _ _) rfl ⟨?_, HB.out⟩
        rw [HP.out]
        exact SpanAns.mk (HAA.out.trans HA.out.symm) (by rw [HD.out, if_neg (by simpa using hz)]; exact HCC.out)
end Go.Proofs.Ytiocipmnmjpkfaa
