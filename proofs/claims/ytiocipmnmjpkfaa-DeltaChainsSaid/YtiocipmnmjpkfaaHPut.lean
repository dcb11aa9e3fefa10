/- num.PutSize, PutSpan, PutBig, PutHead: what they answer. -/
import Derived.Test.YtiocipmnmjpkfaaHMore
import Derived.Test.YtiocipmnmjpkfaaHNum
import Derived.Test.YtiocipmnmjpkfaaHLen
namespace Go.Proofs.Ytiocipmnmjpkfaa
set_option linter.unusedVariables false
set_option linter.unusedSimpArgs false
open Go.RowKit Go.Proofs.YtiocipmnmjpkfaaW.PrintWords Go.Proofs.YtiocipmnmjpkfaaW.PrintMore

/-- What the loop of PutSize keeps. -/
def SizeInv (E : Nat) (w : World) (l : List Int) (v : Int) (q t : Value) (wr : World) : Prop :=
  ∃ (f : Nat) (x : Int) (l' : List Int), t = .int .u64 x ∧ 0 ≤ x ∧ x < 128 ^ (f + 1) ∧ x < 18446744073709551616 ∧ l' ++ sizeL (f + 1) x = l ++ sizeL 10 v ∧ BRow E wr w.heap.size q l' ∧ l'.length + f ≤ l.length + 10 ∧ Below w.heap.size w wr

set_option maxHeartbeats 1000000 in
theorem putSize_calls (A : Option Addr) (c : Nat) (l : List Int) (v : Int) (w : World) (hl : ReadsInt w .u8 A l.length l) (hn : l.length ≤ 140737488355000) (h0 : 0 ≤ v) (h1 : v < 18446744073709551616) :
    Calls Try.prog 22 #[.slice A l.length c, .int .u64 v] w fun e w' => ∃ r, e = .returned r ∧ Bs 5 w' w.heap.size r (l ++ sizeL 10 v) ∧ Below w.heap.size w w' := by
  have HL := Lib.hid hl
  clear hl
  go_enter Try.func22, Try.ntmps22
  go_wp2_with fail
  refine (more_calls _ _ _ _ HL.out (by omega)).mono ?_
  rintro e w1 ⟨q1, rfl, hq1, hb1⟩
  have HQ := Lib.hid hq1
  clear hq1
  have HB := Lib.hid hb1
  clear hb1
  go_wp2_with fail
  go_loopw [5, 1] (fun q t wr => SizeInv 5 w l v q t wr) (fun _ t _ => (intOf t).toNat)
  case atStart => exact ⟨9, v, l, rfl, h0, Int.lt_of_lt_of_le h1 (by decide), h1, rfl, HQ.out, by omega, HB.out⟩
  case round =>
    obtain ⟨f, x, l', rfl, hx0, hx1, hx2, hE, hR, hlen, hB1⟩ := hrel
    have HE := Lib.hid hE
    have HR := Lib.hid hR
    have HB1 := Lib.hid hB1
    have HX := Lib.hid hx1
    clear hE hR hB1 hx1 HQ HB
    by_cases hlt : x < 128
    · have h3 : ¬ (128 ≤ x) := by omega
      go_wp2_with (at_builtin; go_must (refine brow_append (w0 := w) w.heap.size rfl (.tmp 18) (.tmp 21) 22 5 rfl Try.underlying22 infoU8 u5 l' _ rfl rfl HR.out HB1.out HB1.out.size (by omega) ?_; intro v1 w2 hown hb))
      go_ret
      have e : l' ++ [x] = l ++ sizeL 10 v := by rw [← HE.out, sizeL_small _ _ hlt]
      rw [e] at hown
      exact ⟨v1, rfl, hown, hb⟩
    · have h3 : 128 ≤ x := by omega
      go_wp2_with (at_builtin; go_must (refine brow_append (w0 := w) w.heap.size rfl (.tmp 12) (.tmp 16) 22 5 rfl Try.underlying22 infoU8 u5 l' _ rfl rfl HR.out HB1.out HB1.out.size (by omega) ?_; intro v1 w2 hown hb))
      go_roundw
      case rel =>
        rw [or128 _ (by omega) (by omega), show x % 256 % 128 = x % 128 from by omega] at hown
        obtain ⟨f, rfl⟩ : ∃ g, f = g + 1 := by
          rcases Nat.eq_zero_or_pos f with rfl | h
          · have := HX.out
            simp at this
            omega
          · exact ⟨f - 1, by omega⟩
        refine ⟨f, x / 128, l' ++ [x % 128 + 128], rfl, by omega, ?_, by omega, ?_, .inl hown, by simp; omega, hb⟩
        · have := HX.out
          rw [Int.pow_succ] at this
          exact Int.ediv_lt_of_lt_mul (by decide) this
        · rw [← HE.out, sizeL_more _ _ hlt, List.append_assoc]
          rfl
      case measure => simp [intOf]; omega

def BigInv (E : Nat) (w : World) (l : List Int) (v : Int) (n : Nat) (q t : Value) (wr : World) : Prop :=
  ∃ k : Nat, k ≤ n ∧ t = .int .i64 k ∧ BRow E wr w.heap.size q (l ++ (List.range k).map fun i => (v / 2 ^ (8 * (n - 1 - i))) % 256) ∧ Below w.heap.size w wr ∧ (0 < k → Bs E wr w.heap.size q (l ++ (List.range k).map fun i => (v / 2 ^ (8 * (n - 1 - i))) % 256))

set_option maxHeartbeats 1000000 in
theorem putBig_calls (A : Option Addr) (c : Nat) (l : List Int) (v : Int) (n : Nat) (w : World) (hl : ReadsInt w .u8 A l.length l) (hn : l.length ≤ 140737488355000) (h0 : 0 ≤ v) (h1 : v < 18446744073709551616) (hn1 : 1 ≤ n) (hn8 : n ≤ 8) (hv : v < 2 ^ (8 * n)) :
    Calls Try.prog 16 #[.slice A l.length c, .int .u64 v, .int .i64 n] w fun e w' => ∃ r, e = .returned (.tuple #[r, .int .i64 0]) ∧ Bs 5 w' w.heap.size r (l ++ bigL n v) ∧ Below w.heap.size w w' := by
  have HL := Lib.hid hl
  clear hl
  have hlen : ¬ ((8 : Int) * n < lenI v) := by
    have := lenI_le v (8 * n) (by simpa using hv)
    omega
  go_enter Try.func16, Try.ntmps16
  go_wp2_with fail
  refine (len64_calls _ _ h0 h1).mono ?_
  rintro e w' ⟨he, rfl⟩
  unfold IsInt at he
  subst he
  go_wp2_with fail
  refine (more_calls _ _ _ _ HL.out (by omega)).mono ?_
  rintro e w1 ⟨q1, rfl, hq1, hb1⟩
  have HQ := Lib.hid hq1
  clear hq1
  have HB := Lib.hid hb1
  clear hb1
  go_wp2_with fail
  go_loopw [8, 24] (fun q t wr => BigInv 5 w l v n q t wr) (fun _ t _ => n - (intOf t).toNat)
  case atStart => exact ⟨0, by omega, rfl, by simpa using HQ.out, HB.out, fun h => absurd h (by omega)⟩
  case round =>
    obtain ⟨k, hk, rfl, hR, hB1, hS⟩ := hrel
    have HS := Lib.hid hS
    clear hS
    have HR := Lib.hid hR
    have HB1 := Lib.hid hB1
    clear hR hB1 HQ HB
    by_cases hlt : k < n
    · go_wp2_with (at_builtin; go_must (refine brow_append (w0 := w) w.heap.size rfl (.tmp 27) (.tmp 36) 22 5 rfl Try.underlying22 infoU8 u8 _ _ rfl rfl HR.out HB1.out HB1.out.size (by simp; omega) ?_; intro v1 w2 hown hb))
      go_roundw
      case rel =>
        have e : l ++ List.map (fun i => v / 2 ^ (8 * (n - 1 - i)) % 256) (List.range k) ++ [v / 2 ^ (8 * (n - 1 - k)) % 256] = l ++ List.map (fun i => v / 2 ^ (8 * (n - 1 - i)) % 256) (List.range (k + 1)) := by
          rw [List.range_succ, List.map_append, List.append_assoc]
          rfl
        rw [e] at hown
        exact ⟨k + 1, hlt, by go_num, .inl hown, hb, fun _ => hown⟩
      case measure => simp [intOf]; omega
    · obtain rfl : k = n := by omega
      go_wp2_with fail
      go_ret2
      refine ⟨u8, rfl, ?_, HB1.out⟩
      exact HS.out (by omega)

set_option maxHeartbeats 1000000 in
theorem putBig_arg (A : Option Addr) (c : Nat) (l : List Int) (v : Int) (n : Int) (w : World) (hn : n < 1 ∨ 8 < n) :
    Calls Try.prog 16 #[.slice A l.length c, .int .u64 v, .int .i64 n] w fun e w' => e = .returned (.tuple #[.slice none 0 0, .int .i64 1]) ∧ w = w' := by
  by_cases h : n < 1
  · go_enter Try.func16, Try.ntmps16
    go_wp2_with fail
    go_ret2
    exact ⟨rfl, rfl⟩
  · have h8 : 8 < n := by omega
    go_enter Try.func16, Try.ntmps16
    go_wp2_with fail
    go_ret2
    exact ⟨rfl, rfl⟩

set_option maxHeartbeats 1000000 in
theorem putBig_limit (A : Option Addr) (c : Nat) (l : List Int) (v : Int) (n : Nat) (w : World) (h0 : 0 ≤ v) (h1 : v < 18446744073709551616) (hn1 : 1 ≤ n) (hn8 : n ≤ 8) (hv : (2 ^ (8 * n) : Nat) ≤ v) :
    Calls Try.prog 16 #[.slice A l.length c, .int .u64 v, .int .i64 n] w fun e w' => e = .returned (.tuple #[.slice none 0 0, .int .i64 10]) ∧ w = w' := by
  have hlen : (8 : Int) * n < lenI v := by
    have := lenI_gt v (8 * n) hv
    omega
  clear hv
  go_enter Try.func16, Try.ntmps16
  go_wp2_with fail
  refine (len64_calls _ _ h0 h1).mono ?_
  rintro e w' ⟨he, rfl⟩
  unfold IsInt at he
  subst he
  go_wp2_with fail
  go_ret2
  exact ⟨rfl, rfl⟩

/-- What PutHead writes. -/
def headL (kind size : Int) : List Int := if size < 16 then [kind * 16 + size] else (kind * 16 + size % 16 + 128) :: sizeL 10 (size / 16)
theorem headByte (kind size : Int) (h0 : 0 ≤ kind) (h7 : kind ≤ 7) (hs : 0 ≤ size) : bits .or .u8 (kind * 16) (size % 16) = kind * 16 + size % 16 := by
  rw [u8_or _ _ (by omega) (by omega) (by omega) (by omega)]
  have key : ∀ (a : Fin 8) (b : Fin 16), (a.val * 16 ||| b.val) = a.val * 16 + b.val := by decide +kernel
  obtain ⟨a, rfl⟩ := Int.eq_ofNat_of_zero_le h0
  obtain ⟨b, hb⟩ := Int.eq_ofNat_of_zero_le (show 0 ≤ size % 16 by omega)
  have h := key ⟨a, by omega⟩ ⟨b, by omega⟩
  simp only at h
  rw [hb, show ((a : Int) * 16).toNat = a * 16 from by omega, Int.toNat_natCast, h]
  omega

set_option maxHeartbeats 1000000 in
theorem putHead_arg (A : Option Addr) (c : Nat) (l : List Int) (k s : Int) (w : World) (hn : k < 0 ∨ 7 < k) :
    Calls Try.prog 19 #[.slice A l.length c, .int .i64 k, .int .u64 s] w fun e w' => e = .returned (.tuple #[.slice none 0 0, .int .i64 1]) ∧ w = w' := by
  by_cases h : k < 0
  · go_enter Try.func19, Try.ntmps19
    go_wp2_with fail
    go_ret2
    exact ⟨rfl, rfl⟩
  · have h8 : 7 < k := by omega
    go_enter Try.func19, Try.ntmps19
    go_wp2_with fail
    go_ret2
    exact ⟨rfl, rfl⟩

set_option maxHeartbeats 1000000 in
theorem putHead_calls (A : Option Addr) (c : Nat) (l : List Int) (k s : Int) (w : World) (hl : ReadsInt w .u8 A l.length l) (hn : l.length ≤ 140737488354000) (h0 : 0 ≤ k) (h7 : k ≤ 7) (hs0 : 0 ≤ s) (hs1 : s < 18446744073709551616) :
    Calls Try.prog 19 #[.slice A l.length c, .int .i64 k, .int .u64 s] w fun e w' => ∃ r, e = .returned (.tuple #[r, .int .i64 0]) ∧ Bs 5 w' w.heap.size r (l ++ headL k s) ∧ Below w.heap.size w w' := by
  have HL := Lib.hid hl
  clear hl
  have hk : ¬ (k < 0) := by omega
  have hk7 : ¬ (7 < k) := by omega
  by_cases hs : s < 16
  · have hz : s / 16 = 0 := by omega
    have hz1 : (s / 16 == 0) = true := by simp [hz]
    go_enter Try.func19, Try.ntmps19
    clear hz
    go_wp2_with fail
    refine (more_calls _ _ _ _ HL.out (by omega)).mono ?_
    rintro e w1 ⟨q1, rfl, hq1, hb1⟩
    have HQ := Lib.hid hq1
    clear hq1
    have HB := Lib.hid hb1
    clear hb1
    go_wp2_with (at_builtin; go_must (refine brow_append (w0 := w) w.heap.size rfl (.tmp 29) (.tmp 31) 22 5 rfl Try.underlying22 infoU8 q1 l _ rfl rfl HQ.out HB.out HB.out.size (by omega) ?_; intro v1 w2 hown hb))
    go_ret2
    have e : l ++ [bits .or .u8 (k * 16) (bits .and .u64 s 15 % 256)] = l ++ headL k s := by
      rw [and15 s hs0 hs1, show s % 16 % 256 = s % 16 from by omega, headByte k s h0 h7 hs0]
      unfold headL
      rw [if_pos hs, show s % 16 = s from by omega]
    rw [e] at hown
    exact ⟨v1, rfl, hown, hb⟩
  · have hz1 : (s / 16 == 0) = false := by simp; omega
    go_enter Try.func19, Try.ntmps19
    go_wp2_with fail
    refine (more_calls _ _ _ _ HL.out (by omega)).mono ?_
    rintro e w1 ⟨q1, rfl, hq1, hb1⟩
    have HQ := Lib.hid hq1
    clear hq1
    have HB := Lib.hid hb1
    clear hb1
    go_wp2_with (at_builtin; go_must (refine brow_append (w0 := w) w.heap.size rfl (.tmp 33) (.tmp 36) 22 5 rfl Try.underlying22 infoU8 q1 l _ rfl rfl HQ.out HB.out HB.out.size (by omega) ?_; intro v1 w2 hown hb))
    obtain ⟨A2, c2, hv, hr2⟩ := own_reads hown
    subst hv
    have HR2 := Lib.hid hr2
    have HB2 := Lib.hid hb
    clear hr2 hb hown
    have hb15 := and15 s hs0 hs1
    refine (putSize_calls _ _ _ _ _ HR2.out (by simp; omega) (by omega) (by omega)).mono ?_
    rintro e w3 ⟨r, rfl, hr3, hb3⟩
    go_wp2_with fail
    go_ret2
    have hby := headByte k s h0 h7 hs0
    have e : l ++ [bits .or .u8 (bits .or .u8 (k * 16) (bits .and .u64 s 15 % 256)) 128] ++ sizeL 10 (s / 16) = l ++ headL k s := by
      rw [and15 s hs0 hs1, show s % 16 % 256 = s % 16 from by omega, hby, or128 _ (by omega) (by omega), show (k * 16 + s % 16) % 128 = k * 16 + s % 16 from by omega]
      unfold headL
      rw [if_neg (by omega), List.append_assoc]
      rfl
    rw [e] at hr3
    exact ⟨r, rfl, own_weaken hr3 HB2.out.size, below_then HB2.out HB2.out.size hb3⟩
end Go.Proofs.Ytiocipmnmjpkfaa
