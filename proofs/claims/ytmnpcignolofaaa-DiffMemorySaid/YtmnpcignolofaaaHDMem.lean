/- codicillaw19.DiffMemory: walked. -/
import Derived.Test.YtmnpcignolofaaaHSameB
import Derived.Test.YtmnpcignolofaaaHHunkW
import Derived.Test.YtmnpcignolofaaaHAwk
import Derived.Test.YtmnpcignolofaaaHText
import Derived.Test.YtmnpcignolofaaaHAppP
import Derived.Test.YtmnpcignolofaaaHTwinL
import Derived.Test.YtmnpcignolofaaaHRefWay
import Derived.Test.YtmnpcignolofaaaHSmash
namespace Go.Proofs.Ytmnpcignolofaaa
set_option linter.unusedVariables false
set_option linter.unusedSimpArgs false
open Go.RowKit Go.Shelf Go.Proofs.YtmnpcignolofaaaW.PrintWords Go.Proofs.YtmnpcignolofaaaW.PrintMore
theorem make_two (w : World) (n : Nat) (hn : n ≤ 60) : ∃ W, (Instr.makeSlice 22 (.int .i64 (n : Int)) (.int .i64 ((n : Int) + 2))).run Try.prog w = .ok (.slice (some ⟨w.heap.size, 0, none⟩) n (n + 2)) W ∧ Rw W w.heap.size 9 (List.replicate (n + 2) (.string .empty)) ∧ Below w.heap.size w W := by
  obtain ⟨i0, hi0, hz0, hz1, hz2⟩ := info_parts infoS
  have h := run_make (P := Try.prog) w 22 9 i0 _ Try.underlying22 hi0 hz0 .i64 .i64 (n : Int) ((n : Int) + 2) (by omega) (by omega) (by rw [hz2]; omega) (by omega)
  rw [hz1, Nat.mul_one, show ((n : Int)).toNat = n by omega, show ((n : Int) + 2).toNat = n + 2 by omega] at h
  refine ⟨_, h, ?_, below_alloc (Below.refl _ _) _⟩
  unfold Rw
  rw [heap_alloc_new w _]
  have e : (madeCells (Value.string ByteArray.empty).cells (n + 2)) = (List.replicate (n + 2) (Value.string ByteArray.empty)).toArray := by
    apply Array.ext'
    rw [show (Value.string ByteArray.empty).cells = #[Value.string ByteArray.empty] from rfl, toList_madeCells_one]
  rw [e]
/-- x, with its spare room filled: what DiffMemory lays first. -/
structure Full (w0 w : World) (g n : Nat) (a : List ByteArray) : Prop where
  rw : Rw w g 9 (encs Value.string a ++ [.string ⟨#[49]⟩, .string ⟨#[50]⟩])
  n : n = a.length
  g : w0.heap.size ≤ g
  below : Below w0.heap.size w0 w
theorem Full.then {w0 w w' : World} {g n : Nat} {a : List ByteArray} (h : Full w0 w g n a) (hb : Below w.heap.size w w') : Full w0 w' g n a :=
  ⟨(hb.block _ h.rw.lt).trans h.rw, h.n, h.g, below_then h.below h.below.size hb⟩
theorem Full.len {w0 w : World} {g n : Nat} {a : List ByteArray} (h : Full w0 w g n a) : (encs Value.string a ++ [Value.string ⟨#[49]⟩, .string ⟨#[50]⟩]).length = n + 2 := by
  rw [List.length_append, encs_length, h.n]
  rfl
theorem Full.x {w0 w : World} {g n : Nat} {a : List ByteArray} (h : Full w0 w g n a) (hn : n ≤ 60) : ReadsOf Value.string ByteArray.empty w (some ⟨g, 0, none⟩) n a := by
  have ho := h.rw.own (base := w0.heap.size) (n := n) h.g h.len (Nat.le_add_right _ _) (by unfold maxLen; omega)
  rw [List.take_append_of_le_length (by rw [encs_length, h.n]; exact Nat.le_refl _), List.take_of_length_le (by rw [encs_length, h.n]; exact Nat.le_refl _)] at ho
  exact own_reads_of' ho
theorem Full.one {w0 w : World} {g n : Nat} {a : List ByteArray} (h : Full w0 w g n a) : w.cell? ⟨g, n, none⟩ = some (.string ⟨#[49]⟩) ∧ w.cell? ⟨g, n + 1, none⟩ = some (.string ⟨#[50]⟩) := by
  rw [h.rw.cell, h.rw.cell, List.getElem?_append_right (by rw [encs_length, h.n]; exact Nat.le_refl _), List.getElem?_append_right (by rw [encs_length, h.n]; omega), encs_length, h.n]
  refine ⟨?_, ?_⟩
  · rw [Nat.sub_self]; rfl
  · rw [show a.length + 1 - a.length = 1 by omega]; rfl
theorem full_made (w0 w : World) (n : Nat) (a : List ByteArray) (hn : n = a.length) (h60 : n ≤ 60) (A : Option Addr) (ca : Nat) (ha : ReadsOf Value.string ByteArray.empty w A n a) (hb : Below w0.heap.size w0 w) :
    ∃ W1 W2 W4, (Instr.makeSlice 22 (.int .i64 (n : Int)) (.int .i64 ((n : Int) + 2))).run Try.prog w = .ok (.slice (some ⟨w.heap.size, 0, none⟩) n (n + 2)) W1 ∧
      (∀ ty, (Builtin.copy_ #[22, 22] ty #[.slice (some ⟨w.heap.size, 0, none⟩) n (n + 2), .slice A n ca]).run Try.prog W1 = .ok (goInt (encs Value.string a).length) W2) ∧
      (∀ ty, (Builtin.append_ #[22, 22] ty #[.slice (some ⟨w.heap.size, 0, none⟩) n (n + 2), .slice (some ⟨W2.heap.size, 0, none⟩) 2 2]).run Try.prog (W2.alloc (.cells #[.string ⟨#[49]⟩, .string ⟨#[50]⟩] 9)) = .ok (.slice (some ⟨w.heap.size, 0, none⟩) (n + 2) (n + 2)) W4) ∧
      Full w0 W4 w.heap.size n a := by
  obtain ⟨W1, hm, hr, hb1⟩ := make_two w n h60
  have hl0 : (List.replicate (n + 2) (Value.string ByteArray.empty)).length = n + 2 := List.length_replicate
  have hel : (encs Value.string a).length = n := by rw [encs_length, hn]
  obtain ⟨W2, hW2⟩ : ∃ W2, W2 = W1.setCells w.heap.size 0 (encs Value.string a) := ⟨_, rfl⟩
  have hR2 : Rw W2 w.heap.size 9 (put (List.replicate (n + 2) (.string .empty)) 0 (encs Value.string a)) := by rw [hW2]; exact Rw.sets _ _ _ _ hr (by omega)
  have hg2 : W1.grownBy W2 (some w.heap.size) := by rw [hW2]; exact grown_sets _ _ _ _
  have hp2 : (put (List.replicate (n + 2) (Value.string ByteArray.empty)) 0 (encs Value.string a)).length = n + 2 := by rw [put_len (by omega), hl0]
  obtain ⟨W3, hW3⟩ : ∃ W3, W3 = W2.alloc (.cells #[.string ⟨#[49]⟩, .string ⟨#[50]⟩] 9) := ⟨_, rfl⟩
  have hR3 : Rw W3 w.heap.size 9 (put (List.replicate (n + 2) (.string .empty)) 0 (encs Value.string a)) := by rw [hW3]; exact (Below.heap_alloc W2 _ _ hR2.lt).trans hR2
  have hlit : ReadsOf Value.string ByteArray.empty W3 (some ⟨W2.heap.size, 0, none⟩) 2 [⟨#[49]⟩, ⟨#[50]⟩] := by rw [hW3]; exact aw19_lits W2 _ _
  obtain ⟨i0, hi0, hz0, hz1, hz2⟩ := info_parts infoS
  have happ := fun ty => run_append_room_src (P := Try.prog) W3 22 22 ty 9 i0 Try.underlying22 hi0 w.heap.size 0 n (n + 2) (.slice (some ⟨W2.heap.size, 0, none⟩) 2 2) 2 (encs Value.string [⟨#[49]⟩, ⟨#[50]⟩]) (by rw [hz1]; exact src_opt hlit) (Nat.le_refl _) (fun j hj => hR3.has (by rw [hz1, hp2]; have : (encs Value.string [⟨#[49]⟩, ⟨#[50]⟩] : List Value).length = 2 := rfl; omega)) (fun j _ => hR3.frozen _)
  rw [hz1, Nat.mul_one, Nat.zero_add] at happ
  refine ⟨W1, W2, W3.setCells w.heap.size n (encs Value.string [⟨#[49]⟩, ⟨#[50]⟩]), hm, fun ty => ?_, fun ty => ?_, ⟨?_, hn, hb.size, ?_⟩⟩
  · rw [hW2]
    exact hr.copyN ty 0 n (n + 2) A n ca a (ha.below hb1) (Nat.le_refl _) (by omega)
  · rw [← hW3]
    exact happ ty
  · have h := Rw.sets (encs Value.string [⟨#[49]⟩, ⟨#[50]⟩]) n _ _ hR3 (by rw [hp2]; exact Nat.le_refl _)
    have e : put (put (List.replicate (n + 2) (Value.string ByteArray.empty)) 0 (encs Value.string a)) n (encs Value.string [⟨#[49]⟩, ⟨#[50]⟩]) = encs Value.string a ++ [.string ⟨#[49]⟩, .string ⟨#[50]⟩] := by
      unfold put
      rw [List.take_zero, List.nil_append, Nat.zero_add]
      rw [List.take_append_of_le_length (by rw [hel]; exact Nat.le_refl _), List.take_of_length_le (by rw [hel]; exact Nat.le_refl _), List.drop_of_length_le (by rw [List.length_append, List.length_drop, hel, hl0]; show _ ≤ n + 2; omega), List.append_nil]
      rfl
    rw [e] at h
    exact h
  · have h3 := grown_sets w.heap.size (encs Value.string [⟨#[49]⟩, ⟨#[50]⟩]) n W3
    have hz : w.heap.size ≤ W1.heap.size := hb1.size
    have hz2 : W1.heap.size ≤ W2.heap.size := hg2.size
    have hz3 : W2.heap.size ≤ W3.heap.size := by rw [hW3]; simp
    have k3 : ∀ i, i < w.heap.size → (W3.setCells w.heap.size n (encs Value.string [⟨#[49]⟩, ⟨#[50]⟩])).heap[i]? = w.heap[i]? := fun i hi =>
      (h3.block i (by omega) (by simp; omega)).trans (((by rw [hW3]; exact Below.heap_alloc W2 _ _ (by omega) : W3.heap[i]? = W2.heap[i]?)).trans ((hg2.block i (by omega) (by simp; omega)).trans (hb1.block i hi)))
    exact ⟨h3.os.trans ((by rw [hW3]; rfl : W3.os = W2.os).trans (hg2.os.trans (hb1.os.trans hb.os))), h3.tape.trans ((by rw [hW3]; rfl : W3.tape = W2.tape).trans (hg2.tape.trans (hb1.tape.trans hb.tape))), h3.output.trans ((by rw [hW3]; rfl : W3.output = W2.output).trans (hg2.output.trans (hb1.output.trans hb.output))),
      Nat.le_trans hb.size (Nat.le_trans hz (Nat.le_trans hz2 (Nat.le_trans hz3 h3.size))), fun i hi => (k3 i (Nat.lt_of_lt_of_le hi hb.size)).trans (hb.block i hi)⟩
theorem blocks_one {v : Value} {k : Nat} : k ∈ blocksOf [v] ↔ v.ownBlock = some k := by
  rw [mem_blocksOf]
  simp
theorem smash_one {e : Nat} {W : World} {base n : Nat} {v : Value} {xs : List Value} (h : W.ownsRow base e 1 v n xs) : Smash e (blocksOf [v]) W W := Smash.refl (fun k hk => own_typed h k (blocks_one.1 hk))
theorem smash_at {e : Nat} {W : World} {base n c : Nat} {A : Option Addr} {xs : List Value} (h : W.ownsRow base e 1 (.slice A n c) n xs) (h0 : 0 < n) : ∃ g, A = some ⟨g, 0, none⟩ ∧ g ∈ blocksOf [Value.slice A n c] ∧ n ≤ blockLen W g := by
  obtain ⟨A', n', c', e, _, hm⟩ := own_smash h (fun k hk => blocks_one.2 hk)
  cases e
  exact hm h0
theorem Full.smash {w0 W w : World} {g n e : Nat} {a : List ByteArray} {G : List Nat} (h : Full w0 W g n a) (hs : Smash e G W w) (hG : ∀ k, k ∈ G → k ≠ g ∧ w0.heap.size ≤ k) : Full w0 w g n a :=
  ⟨(hs.keep g (fun hm => (hG g hm).1 rfl)).trans h.rw, h.n, h.g, hs.below h.below (fun k hk => (hG k hk).2)⟩
theorem rw_blockLen {W : World} {g : Nat} {e : TypeId} {L : List Value} (h : Rw W g e L) : blockLen W g = L.length := by
  unfold blockLen
  rw [h]
  simp
theorem wayP_bound (a b : List ByteArray) (ha : a.length ≤ 60) (hb : b.length ≤ 60) : ∀ p ∈ wayP a b, p.1 ≤ 1001 ∧ p.2 ≤ 1001 := by
  intro p hp
  obtain ⟨i, hi, rfl⟩ := List.mem_iff_getElem.1 hp
  rcases Nat.lt_or_ge (i + 1) (wayP a b).length with h | h
  · obtain ⟨u, v, dx, dy, t⟩ := two_at a b i h
    have hp := t.p
    rw [List.getD_eq_getElem?_getD, List.getElem?_eq_getElem hi] at hp
    simp only [Option.getD_some] at hp
    rw [hp]
    have := t.hx
    have := t.hy
    exact ⟨by simp only; omega, by simp only; omega⟩
  · rcases i with _ | i
    · exact ⟨Nat.zero_le _, Nat.zero_le _⟩
    · obtain ⟨u, v, dx, dy, t⟩ := two_at a b i hi
      have hq := t.q
      rw [List.getD_eq_getElem?_getD, List.getElem?_eq_getElem hi] at hq
      simp only [Option.getD_some] at hq
      rw [hq]
      have := t.hx
      have := t.hy
      exact ⟨by simp only; omega, by simp only; omega⟩
set_option maxRecDepth 20000 in
set_option maxHeartbeats 40000000 in
theorem dmem_calls (w : World) (A : Option Addr) (ca : Nat) (a : List ByteArray) (B : Option Addr) (cb : Nat) (b : List ByteArray) (hla : ReadsOf Value.string ByteArray.empty w A a.length a) (hlb : ReadsOf Value.string ByteArray.empty w B b.length b)
    (hca : a.length ≤ ca) (hcb : b.length ≤ cb) (hsa : ∀ s ∈ a, s.size ≤ maxLen) (hsb : ∀ s ∈ b, s.size ≤ maxLen) :
    Calls Try.prog 6 #[.slice A a.length ca, .slice B b.length cb] w fun e w' => e = .returned (.bool true) ∧ Below w.heap.size w w' := by
  have HR := Lib.hid (And.intro hla hlb)
  have HS := Lib.hid (And.intro hsa hsb)
  have HC := Lib.hid (And.intro hca hcb)
  clear hla hlb hsa hsb hca hcb
  by_cases h1 : 60 < a.length
  · have g1 : (60 : Int) < (a.length : Int) := by omega
    go_enter Try.func6, Try.ntmps6
    go_wp2_with fail
    refine (codicillaw19_awake.calls true w rfl).mono ?_
    rintro e w1 ⟨rfl, hb⟩
    have HB := Lib.hid hb
    clear hb
    go_wp2_with fail
    go_ret
    exact ⟨rfl, HB.out⟩
  have g1 : decide ((60 : Int) < (a.length : Int)) = false := by simp; omega
  by_cases h2 : 60 < b.length
  · have g2 : (60 : Int) < (b.length : Int) := by omega
    go_enter Try.func6, Try.ntmps6
    go_wp2_with fail
    refine (codicillaw19_awake.calls true w rfl).mono ?_
    rintro e w1 ⟨rfl, hb⟩
    have HB := Lib.hid hb
    clear hb
    go_wp2_with fail
    go_ret
    exact ⟨rfl, HB.out⟩
  have g2 : decide ((60 : Int) < (b.length : Int)) = false := by simp; omega
  have HN := Lib.hid (show a.length ≤ 60 ∧ b.length ≤ 60 by omega)
  obtain ⟨n, hn⟩ : ∃ n, n = a.length := ⟨_, rfl⟩
  have hn60 : n ≤ 60 := by omega
  have wn : IntKind.i64.wrap ((n : Int) + 2) = (n : Int) + 2 := by rw [IntKind.wrap_i64]; omega
  rw [← hn] at g1
  rw [← hn]
  have HNN := Lib.hid hn
  clear h1 h2 hn
  go_enter Try.func6, Try.ntmps6
  go_wp2_with fail
  refine (codicillaw19_awake.calls true w rfl).mono ?_
  rintro e w1 ⟨rfl, hb⟩
  have HB := Lib.hid hb
  clear hb
  obtain ⟨W1, W2, W4, hmk, hcp, happ, hfull⟩ := full_made w w1 n a HNN.out hn60 A ca (by rw [HNN.out]; exact HR.out.1.below HB.out) HB.out
  have HF4 := Lib.hid hfull
  clear hfull HB
  go_wp2_with (first
    | (at_builtin; refine Lib.wpList_append_run _ rfl _ _ _ _ rfl _ _ rfl rfl _ _ (happ _) ?_)
    | (at_builtin; refine wpList_copy_runI _ rfl _ _ 22 22 rfl _ _ rfl rfl (hcp _) ?_))
  obtain ⟨g, hg⟩ : ∃ g, g = w1.heap.size := ⟨_, rfl⟩
  rw [← hg] at HF4 ⊢
  clear hmk hcp happ hg
  have HC4 := Lib.hid (twinLines_calls W4 B cb b (HR.out.2.below HF4.out.below) (by have := HN.out; omega))
  refine HC4.out.mono ?_
  rintro e w5 ⟨v5, rfl, ho5, hb5⟩
  obtain ⟨A5, c5, rfl⟩ := own_slice ho5
  have HO5 := Lib.hid ho5
  have HF5 := Lib.hid (HF4.out.then hb5)
  clear ho5 hb5 HC4 HF4
  have HX5 : Hid (ReadsOf Value.string ByteArray.empty w5 (some ⟨g, 0, none⟩) n a) := Lib.hid (HF5.out.x hn60)
  have HC5 := diffHunks_calls w5 (some ⟨g, 0, none⟩) (n + 2) a A5 c5 b (by have h := HX5.out; rw [HNN.out] at h; exact h) (own_reads_of' HO5.out) (by have := HN.out; omega) (by have := HN.out; omega) HS.out.1 HS.out.2
  rw [← HNN.out] at HC5
  have HC5 := Lib.hid HC5
  go_wp2_with fail
  refine HC5.out.mono ?_
  rintro e w6 ⟨v6, rfl, ho6, hb6⟩
  obtain ⟨A6, c6, rfl⟩ := own_slice ho6
  have HO6 := Lib.hid ho6
  have HF6 := Lib.hid (HF5.out.then hb6)
  have HY6 := Lib.hid (pw_own_below HO5.out hb6)
  have hg6 : g < w6.heap.size := HF6.out.rw.lt
  clear ho6 hb6 HC5 HF5 HX5 HO5
  have HA6 := fun (W : World) (hW : Below w6.heap.size w6 W) => apply_calls W (some ⟨g, 0, none⟩) (n + 2) a A5 c5 b w5.heap.size _ (hks a b) (by have h := (HF6.out.then hW).x hn60; rw [HNN.out] at h; exact h) (own_reads_of' (pw_own_below HY6.out hW)) HN.out.1 HN.out.2 (own_cap HY6.out) (pw_own_below HO6.out hW) (hks_ok a b)
  simp only [hks_app] at HA6
  rw [← HNN.out] at HA6
  have HA6 := Lib.hid HA6
  go_wp2_with fail
  refine (HA6.out w6 (Below.refl _ _)).mono ?_
  rintro e w7 ⟨v7, rfl, ho7, hb7⟩
  obtain ⟨A7, c7, rfl⟩ := own_slice ho7
  have HO7 := Lib.hid ho7
  have HB7 := Lib.hid hb7
  clear ho7 hb7
  go_wp2_with fail
  refine (HA6.out w7 HB7.out).mono ?_
  rintro e w8 ⟨v8, rfl, ho8, hb8⟩
  obtain ⟨A8, c8, rfl⟩ := own_slice ho8
  have HO8 := Lib.hid ho8
  have HS8 : Hid (∀ k, (Value.slice A8 b.length c8).ownBlock = some k → k < w8.heap.size) := Lib.hid (fun k hk => (ho8.lt k hk).2)
  have HB8 := Lib.hid hb8
  have HF8 := Lib.hid ((HF6.out.then HB7.out).then hb8)
  have HY8 := Lib.hid (pw_own_below (pw_own_below HY6.out HB7.out) hb8)
  have HP8 := Lib.hid (pw_own_below HO7.out hb8)
  have hs7 : ∀ k, (Value.slice A7 b.length c7).ownBlock = some k → k < w7.heap.size := fun k hk => (HO7.out.lt k hk).2
  have HS7 := Lib.hid hs7
  clear ho8 hb8 HA6 HF6 HY6 HO6 hs7
  have HW8 := fun (W : World) (hW : Below w8.heap.size w8 W) => diffWay_calls W (some ⟨g, 0, none⟩) (n + 2) a A5 c5 b (by have h := (HF8.out.then hW).x hn60; rw [HNN.out] at h; exact h) (own_reads_of' (pw_own_below HY8.out hW)) (by have := HN.out; omega) (by have := HN.out; omega) HS.out.1 HS.out.2
  rw [← HNN.out] at HW8
  have HW8 := Lib.hid HW8
  go_wp2_with fail
  refine (HW8.out w8 (Below.refl _ _)).mono ?_
  rintro e w9 ⟨v9, rfl, ho9, hb9⟩
  obtain ⟨A9, c9, rfl⟩ := own_slice ho9
  have HO9 := Lib.hid ho9
  have HS9 : Hid (∀ k, (Value.slice A9 (wayP a b).length c9).ownBlock = some k → k < w9.heap.size) := Lib.hid (fun k hk => (ho9.lt k hk).2)
  have HB9 := Lib.hid hb9
  clear ho9 hb9
  go_wp2_with fail
  refine (HW8.out w9 HB9.out).mono ?_
  rintro e wa ⟨va, rfl, hoa, hba⟩
  obtain ⟨Aa, cca, rfl⟩ := own_slice hoa
  have HOa := Lib.hid hoa
  have HBa := Lib.hid (below_then HB9.out HB9.out.size hba)
  have HFa := Lib.hid (HF8.out.then HBa.out)
  have HYa := Lib.hid (pw_own_below HY8.out HBa.out)
  have HPa := Lib.hid (pw_own_below HP8.out HBa.out)
  have HQa := Lib.hid (pw_own_below HO8.out HBa.out)
  have HWa := Lib.hid (pw_own_below HO9.out hba)
  have HSZ := Lib.hid (show w7.heap.size ≤ w8.heap.size ∧ w8.heap.size ≤ w9.heap.size ∧ w9.heap.size ≤ wa.heap.size ∧ g < w6.heap.size ∧ w6.heap.size ≤ w7.heap.size from ⟨HB8.out.size, HB9.out.size, hba.size, hg6, HB7.out.size⟩)
  clear hoa hba HW8 HF8 HY8 HP8 HO8 HO9 HB8 HB9 HB7 HO7 hg6
  have HSL := Lib.hid (sameLines_calls wa (some ⟨g, 0, none⟩) (n + 2) A ca n n a HNN.out.symm HNN.out.symm (HFa.out.x hn60) (by have h := HR.out.1.below HFa.out.below; rw [← HNN.out] at h; exact h))
  have nn : IntKind.i64.wrap ((n : Int) + 1) = (n : Int) + 1 := by rw [IntKind.wrap_i64]; omega
  have n0 : (0 : Int) ≤ (n : Int) := by omega
  have n1 : (n : Int) < (n : Int) + 2 := by omega
  have n2 : (n : Int) + 1 < (n : Int) + 2 := by omega
  have n3 : (0 : Int) ≤ (n : Int) + 1 := by omega
  have n4 : ((n : Int) + 1).toNat = n + 1 := by omega
  go_wp2_with fail
  refine HSL.out.mono ?_
  rintro e w' ⟨rfl, ka, rfl⟩
  have f1 : (wa.drewN ka).cell? ⟨g, n, none⟩ = some (.string ⟨#[49]⟩) := HFa.out.one.1
  have f2 : (wa.drewN ka).cell? ⟨g, n + 1, none⟩ = some (.string ⟨#[50]⟩) := HFa.out.one.2
  go_wp2_with fail
  refine (sameLines_calls (wa.drewN ka) A5 c5 B cb b.length b.length b rfl rfl (own_reads_of' HYa.out) (HR.out.2.below (pw_below_drewN HFa.out.below ka))).mono ?_
  rintro e w' ⟨rfl, kb, rfl⟩
  clear HSL f1 f2
  obtain ⟨Wb, hWb⟩ : ∃ W, W = (wa.drewN ka).drewN kb := ⟨_, rfl⟩
  have HPb : Hid (Wb.ownsRow w6.heap.size 9 1 (.slice A7 b.length c7) b.length (encs Value.string b)) := Lib.hid (by rw [hWb]; exact HPa.out)
  have HQb : Hid (Wb.ownsRow w7.heap.size 9 1 (.slice A8 b.length c8) b.length (encs Value.string b)) := Lib.hid (by rw [hWb]; exact HQa.out)
  have HWb : Hid (Wb.ownsRow w8.heap.size 30 1 (.slice A9 (wayP a b).length c9) (wayP a b).length (encs pt (wayP a b))) := Lib.hid (by rw [hWb]; exact HWa.out)
  have HVb : Hid (Wb.ownsRow w9.heap.size 30 1 (.slice Aa (wayP a b).length cca) (wayP a b).length (encs pt (wayP a b))) := Lib.hid (by rw [hWb]; exact HOa.out)
  have HFb : Hid (Full w Wb g n a) := Lib.hid (by rw [hWb]; exact ⟨HFa.out.rw, HFa.out.n, HFa.out.g, pw_below_drewN (pw_below_drewN HFa.out.below ka) kb⟩)
  rw [← hWb]
  clear hWb HPa HQa HWa HOa HFa HYa
  go_wp2_with fail
  go_loopw [109] (fun v109 wr => ∃ i : Nat, v109 = .int .i64 i ∧ i ≤ b.length ∧ Hid (Smash 9 (blocksOf [.slice A7 b.length c7]) Wb wr)) (fun v109 _ => b.length - (intOf v109).toNat)
  case atStart => exact ⟨0, rfl, by omega, Lib.hid (smash_one HPb.out)⟩
  case round =>
    obtain ⟨i, rfl, hi, hsm⟩ := hrel
    by_cases hlt : i < b.length
    · have i0 : (0 : Int) ≤ (i : Int) := by omega
      have i1 : (i : Int) < (b.length : Int) := by omega
      have hb60 := HN.out.2
      have wi : IntKind.i64.wrap ((i : Int) + 1) = (i : Int) + 1 := by rw [IntKind.wrap_i64]; omega
      obtain ⟨g7, hA7, hg7, hl7⟩ := smash_at HPb.out (by omega)
      obtain ⟨u, ku, fu⟩ := hsm.out.cell hg7 (Nat.lt_of_lt_of_le hlt hl7)
      have HS1 := Lib.hid (hsm.out.set hg7 i (.string ⟨#[111, 116, 104, 101, 114]⟩))
      have HA7 := Lib.hid hA7
      clear hsm hg7 hl7
      rw [hA7]
      clear hA7
      go_wp2_with fail
      go_roundw
      case rel => exact ⟨i + 1, by go_num, by omega, Lib.hid (by have h := HS1.out; rw [HA7.out] at h; exact h)⟩
      case measure => simp only [intOf]; omega
    · obtain rfl : i = b.length := by omega
      have hG : ∀ k, k ∈ blocksOf [Value.slice A7 b.length c7] → w6.heap.size ≤ k ∧ k < w7.heap.size := fun k hk => ⟨own_base HPb.out k (blocks_one.1 hk), HS7.out k (blocks_one.1 hk)⟩
      obtain ⟨s1, s2, s3, s4, s5⟩ := HSZ.out
      have hw6 : w.heap.size ≤ w6.heap.size := by have := HFb.out.g; omega
      have HQc := Lib.hid (hsm.out.own HQb.out (fun k hk hm => by have h1 := own_base HQb.out k hk; have h2 := hG k hm; omega))
      have HWc := Lib.hid (hsm.out.own HWb.out (fun k hk hm => by have h1 := own_base HWb.out k hk; have h2 := hG k hm; omega))
      have HVc := Lib.hid (hsm.out.own HVb.out (fun k hk hm => by have h1 := own_base HVb.out k hk; have h2 := hG k hm; omega))
      have HFc := Lib.hid (HFb.out.smash hsm.out (fun k hm => by have h2 := hG k hm; omega))
      have HW9 : Hid (∀ k, k ∈ blocksOf [Value.slice A9 (wayP a b).length c9] → w8.heap.size ≤ k ∧ k < w9.heap.size) := Lib.hid (fun k hk => ⟨own_base HWb.out k (blocks_one.1 hk), HS9.out k (blocks_one.1 hk)⟩)
      clear HQb HWb HVb HFb HPb hsm hG s1 s2 s3 s4 s5
      generalize wr = Wc at *
      obtain ⟨m, hm⟩ : ∃ m, m = (wayP a b).length := ⟨_, rfl⟩
      have hm200 : m ≤ 200 := by have := (wayP_len a b).2; have := HN.out; omega
      have HM := Lib.hid hm
      rw [← hm] at HWc HVc HW9 ⊢
      clear hm
      go_wp2_with fail
      go_loopw [118] (fun v118 wr => ∃ i : Nat, v118 = .int .i64 i ∧ i ≤ m ∧ Hid (Smash 30 (blocksOf [.slice A9 m c9]) Wc wr)) (fun v118 _ => m - (intOf v118).toNat)
      case atStart => exact ⟨0, rfl, by omega, Lib.hid (smash_one HWc.out)⟩
      case round =>
        obtain ⟨i, rfl, hi, hsm⟩ := hrel
        by_cases hlt : i < m
        · have i0 : (0 : Int) ≤ (i : Int) := by omega
          have i1 : (i : Int) < (m : Int) := by omega
          have wi : IntKind.i64.wrap ((i : Int) + 1) = (i : Int) + 1 := by rw [IntKind.wrap_i64]; omega
          obtain ⟨g9, hA9, hg9, hl9⟩ := smash_at HWc.out (by omega)
          obtain ⟨u, ku, fu⟩ := hsm.out.cell hg9 (Nat.lt_of_lt_of_le hlt hl9)
          have HS1 := Lib.hid (hsm.out.set hg9 i (.complex .f64 13830554455654793216 0))
          have sc := sto_cx 13830554455654793216 0
          have HA9 := Lib.hid hA9
          clear hsm hg9 hl9
          rw [hA9]
          clear hA9
          go_wp2_with fail
          go_roundw
          case rel => exact ⟨i + 1, by go_num, by omega, Lib.hid (by have h := HS1.out; rw [HA9.out] at h; exact h)⟩
          case measure => simp only [intOf]; omega
        · obtain rfl : i = m := by omega
          have hG := HW9.out
          obtain ⟨s1, s2, s3, s4, s5⟩ := HSZ.out
          have hgw := HFc.out.g
          have HQd := Lib.hid (hsm.out.own HQc.out (fun k hk hm => by
            have h2 := hG k hm
            have h3 : k < w8.heap.size := HS8.out k hk
            omega))
          have HVd := Lib.hid (hsm.out.own HVc.out (fun k hk hm => by have h1 := own_base HVc.out k hk; have h2 := hG k hm; omega))
          have HFd := Lib.hid (HFc.out.smash hsm.out (fun k hm => by have h2 := hG k hm; omega))
          clear HQc HWc HVc HFc hsm hG s1 s2 s3 s4 s5
          generalize wr = Wd at *
          go_wp2_with fail
          go_loopw [127] (fun v127 wr => ∃ i : Nat, v127 = .int .i64 i ∧ i ≤ n + 2 ∧ Hid (Smash 9 [g] Wd wr)) (fun v127 _ => n + 2 - (intOf v127).toNat)
          case atStart => exact ⟨0, rfl, by omega, Lib.hid (Smash.refl (fun k hk => by
            rw [List.mem_singleton] at hk
            subst hk
            exact ⟨_, HFd.out.rw⟩))⟩
          case round =>
            obtain ⟨i, rfl, hi, hsm⟩ := hrel
            by_cases hlt : i < n + 2
            · have i0 : (0 : Int) ≤ (i : Int) := by omega
              have i1 : (i : Int) < (n : Int) + 2 := by omega
              have wi : IntKind.i64.wrap ((i : Int) + 1) = (i : Int) + 1 := by rw [IntKind.wrap_i64]; omega
              obtain ⟨u, ku, fu⟩ := hsm.out.cell (List.mem_singleton.2 rfl) (show i < blockLen Wd g by rw [rw_blockLen HFd.out.rw, HFd.out.len]; exact hlt)
              have HS1 := Lib.hid (hsm.out.set (List.mem_singleton.2 rfl) i (.string ⟨#[111, 116, 104, 101, 114]⟩))
              clear hsm
              go_wp2_with fail
              go_roundw
              case rel => exact ⟨i + 1, by go_num, by omega, HS1⟩
              case measure => simp only [intOf]; omega
            · obtain rfl : i = n + 2 := by omega
              have n5 : ¬ (((n + 2 : Nat) : Int) < (n : Int) + 2) := by omega
              obtain ⟨s1, s2, s3, s4, s5⟩ := HSZ.out
              have hgw := HFd.out.g
              have HQe := Lib.hid (hsm.out.own HQd.out (fun k hk hm => by
                rw [List.mem_singleton] at hm
                have h1 := own_base HQd.out k hk
                omega))
              have HVe := Lib.hid (hsm.out.own HVd.out (fun k hk hm => by
                rw [List.mem_singleton] at hm
                have h1 := own_base HVd.out k hk
                omega))
              have HBe := Lib.hid (hsm.out.below HFd.out.below (fun k hm => by rw [List.mem_singleton] at hm; omega))
              clear HQd HVd HFd hsm s1 s2 s3 s4 s5
              generalize wr = We at *
              have HSL := Lib.hid (sameLines_calls We A8 c8 B cb b.length b.length b rfl rfl (own_reads_of' HQe.out) (HR.out.2.below HBe.out))
              go_wp2_with fail
              refine HSL.out.mono ?_
              rintro e w' ⟨rfl, kd, rfl⟩
              have HRW := refWay_calls (We.drewN kd) A ca a B cb b (HR.out.1.below (pw_below_drewN HBe.out kd)) (HR.out.2.below (pw_below_drewN HBe.out kd)) (by have := HN.out; omega) (by have := HN.out; omega)
              rw [← HNN.out, ← HM.out] at HRW
              have HRW := Lib.hid HRW
              clear HSL
              go_wp2_with fail
              refine HRW.out.mono ?_
              rintro e wf ⟨vf, rfl, hof, hbf⟩
              obtain ⟨Af, cf, rfl⟩ := own_slice hof
              have HSW := sameWay_calls wf Aa cca Af cf (wayP a b) (by have h := own_reads_of' (d := (0, 0)) (pw_own_below (w := We.drewN kd) HVe.out hbf); rwa [HM.out] at h) (by have h := own_reads_of' (d := (0, 0)) hof; rwa [HM.out] at h) (wayP_bound a b HN.out.1 HN.out.2) (by rw [← HM.out]; omega)
              rw [← HM.out] at HSW
              have HSW := Lib.hid HSW
              have HBf := Lib.hid (below_then (pw_below_drewN HBe.out kd) (pw_below_drewN HBe.out kd).size hbf)
              clear hof hbf HRW
              go_wp2_with fail
              refine HSW.out.mono ?_
              rintro e w' ⟨rfl, ke, rfl⟩
              go_wp2_with fail
              go_ret
              exact ⟨rfl, pw_below_drewN HBf.out ke⟩
end Go.Proofs.Ytmnpcignolofaaa
