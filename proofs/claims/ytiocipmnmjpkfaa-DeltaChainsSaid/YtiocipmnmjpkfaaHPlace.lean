/- codicilref08.place: the place and the count of a copy. -/
import Derived.Test.YtiocipmnmjpkfaaHTake
namespace Go.Proofs.Ytiocipmnmjpkfaa
set_option linter.unusedVariables false
set_option linter.unusedSimpArgs false
open Go.RowKit Go.Proofs.YtiocipmnmjpkfaaW.PrintWords Go.Proofs.YtiocipmnmjpkfaaW.PrintMore

/-- place, so far: i bits are over; the value of the bytes behind pre. -/
inductive Pc (W wr : World) (g : Nat) (A : Option Addr) (cp : Nat) (l : List Int) (n : Nat) (ov : Value) (c : Int) (pre : List Int) (i : Nat) (v : Value) : Prop
  | ok (rs : List Int) (u : Nat) (h : pickV c (l.drop n) i = some (pre ++ rs, u)) (hv : v = .int .i64 (leV rs)) (hT : Tl wr g (.slice A l.length cp) ((n + u : Nat) : Int) ov 0) (hS : OnlyG g W wr)
  | err (x : Int) (n' : Nat) (h : pickV c (l.drop n) i = none) (hv : v = .int .i64 x) (hT : Tl wr g (.slice A l.length cp) (n' : Int) ov 5) (hn : n' ≤ l.length) (hS : OnlyG g W wr)
theorem pc_zero {W wr : World} {g : Nat} {A : Option Addr} {cp : Nat} {l : List Int} {n : Nat} {ov : Value} {c : Int} {pre : List Int} {i : Nat} {v : Value} (hP : Pc W wr g A cp l n ov c pre i v) (h0 : c / 2 ^ i % 2 = 0) : Pc W wr g A cp l n ov c pre (i + 1) v := by
  rcases hP with ⟨rs, u, hpk, hv, hT, hS⟩ | ⟨x, n', hpk, hv, hT, hn', hS⟩
  · exact .ok (rs ++ [0]) u (by rw [pickV_zero c (l.drop n) i hpk h0, List.append_assoc]) (by rw [leV_snoc]; simpa using hv) hT hS
  · exact .err x n' (pickV_none c (l.drop n) i hpk) hv hT hn' hS
theorem pc_one {W wr : World} {g : Nat} {A : Option Addr} {cp : Nat} {l : List Int} {n : Nat} {ov : Value} {c : Int} {pre rs : List Int} {u i : Nat} {v : Value} (hpk : pickV c (l.drop n) i = some (pre ++ rs, u)) (h0 : ¬ c / 2 ^ i % 2 = 0) (hu : n + u < l.length)
    (hv : v = .int .i64 (leV (rs ++ [l.getD (n + u) 0]))) (hT : Tl wr g (.slice A l.length cp) ((n + u + 1 : Nat) : Int) ov 0) (hS : OnlyG g W wr) : Pc W wr g A cp l n ov c pre (i + 1) v :=
  .ok (rs ++ [l.getD (n + u) 0]) (u + 1) (by rw [pickV_one c (l.drop n) i hpk h0 (by rw [List.length_drop]; omega), List.append_assoc]; simp) hv hT hS
theorem pc_fail {W wr : World} {g : Nat} {A : Option Addr} {cp : Nat} {l : List Int} {n : Nat} {ov : Value} {c : Int} {pre rs : List Int} {u i : Nat} {v : Value} (hpk : pickV c (l.drop n) i = some (pre ++ rs, u)) (h0 : ¬ c / 2 ^ i % 2 = 0) (hu : ¬ n + u < l.length)
    (x : Int) (hv : v = .int .i64 x) (hT : Tl wr g (.slice A l.length cp) ((n + u : Nat) : Int) ov 5) (hn : n + u ≤ l.length) (hS : OnlyG g W wr) : Pc W wr g A cp l n ov c pre (i + 1) v :=
  .err x (n + u) (pickV_fail c (l.drop n) i hpk h0 (by rw [List.length_drop]; omega)) hv hT hn hS
theorem le_step (v x : Int) (k : Nat) (hk : k < 4) (hv : 0 ≤ v ∧ v < 256 ^ k) (hx : 0 ≤ x ∧ x < 256) : wrap64 (v + wrap64 (x * 2 ^ (8 * k))) = v + x * 256 ^ k := by
  have : k = 0 ∨ k = 1 ∨ k = 2 ∨ k = 3 := by omega
  rcases this with rfl | rfl | rfl | rfl
  all_goals
    simp [wrap64] at hv ⊢
    omega
/-- What place does. -/
def PlaceAns (W : World) (g : Nat) (A : Option Addr) (cp : Nat) (l : List Int) (n : Nat) (ov : Value) (c : Int) (e : Ending) (wr : World) : Prop :=
  (∃ vs u, pickV c (l.drop n) 7 = some (vs, u) ∧ e = .returned (.tuple #[.int .i64 (atV vs), .int .i64 (cntV vs)]) ∧ Tl wr g (.slice A l.length cp) ((n + u : Nat) : Int) ov 0 ∧ OnlyG g W wr)
  ∨ (pickV c (l.drop n) 7 = none ∧ ∃ (x y : Int) (n' : Nat), e = .returned (.tuple #[.int .i64 x, .int .i64 y]) ∧ Tl wr g (.slice A l.length cp) (n' : Int) ov 5 ∧ n' ≤ l.length ∧ OnlyG g W wr)
set_option maxHeartbeats 4000000 in
theorem place_calls (w0 W : World) (g : Nat) (A : Option Addr) (cp : Nat) (l : List Int) (n : Nat) (ov : Value) (c : Int) (hT : Tl W g (.slice A l.length cp) n ov 0) (hB : Below w0.heap.size w0 W) (hg : w0.heap.size ≤ g)
    (hl : ReadsInt w0 .u8 A l.length l) (hm : l.length ≤ 1099511627776) (hn : n ≤ l.length) (hby : ∀ x ∈ l, 0 ≤ x ∧ x < 256) (hc0 : 0 ≤ c) (hc1 : c < 256) :
    Calls Try.prog 65 #[.pointer (some ⟨g, 0, none⟩), .int .i64 c] W fun e W' => PlaceAns W g A cp l n ov c e W' := by
  have HT := Lib.hid hT
  have HB := Lib.hid hB
  have HL := Lib.hid hl
  have HBY := Lib.hid hby
  have HBD := Lib.hid (fun x hx => hby x (List.mem_of_mem_drop (i := n) hx))
  have HC := Lib.hid (⟨hc0, hc1⟩ : 0 ≤ c ∧ c < 256)
  clear hT hB hl hby hc0 hc1
  go_enter Try.func65, Try.ntmps65
  go_wp2_with fail
  go_loopw [6, 8] (fun v i wr => ∃ (k : Nat) (v' : Value), k ≤ 4 ∧ i = .int .i64 k ∧ v = v' ∧ Hid (Pc W wr g A cp l n ov c [] k v')) (fun _ i _ => 4 - (intOf i).toNat)
  case atStart => exact ⟨0, _, by omega, rfl, rfl, Lib.hid (Pc.ok [] 0 rfl rfl HT.out (OnlyG.refl g W))⟩
  case round =>
    obtain ⟨k, v, hk, rfl, rfl, HP⟩ := hrel
    by_cases hlt : k < 4
    · have hp2 : (0 : Int) < 2 ^ k := Int.pow_pos (by decide)
      have hq0 := Int.ediv_nonneg HC.out.1 (Int.le_of_lt hp2)
      have h1 := Int.tmod_eq_emod_of_nonneg hq0 (b := 2)
      have hk64 : (k : Int) < 8 := by omega
      have HQ := Lib.hid hq0
      clear hp2 hq0
      by_cases h0 : c / 2 ^ k % 2 = 0
      · have HH := Lib.hid (pc_zero HP.out h0)
        rcases HP.out with ⟨rs, u, hpk, rfl, hT, hS⟩ | ⟨x, n', hpk, rfl, hT, hn', hS⟩
        all_goals
          clear hpk hT hS
          go_wp2_with fail
          go_roundw
          case rel => exact ⟨k + 1, _, hlt, by simp, rfl, HH⟩
          case measure => simp [intOf]; omega
      · rcases HP.out with ⟨rs, u, hpk, rfl, hT, hS⟩ | ⟨x, n', hpk, rfl, hT, hn', hS⟩
        · have hpf := pickV_facts c (l.drop n) HBD.out k _ _ hpk
          have hul := hpf.2.2.1
          rw [List.length_drop] at hul
          have hul2 : n + u ≤ l.length := by omega
          have htk := take_calls w0 wr g A cp l (n + u) ov 0 hT (HB.out.trans (hS.below hg)) hg HL.out hm hul2 HBY.out
          by_cases hu : n + u < l.length
          · rw [tk_ok l (n + u) hu] at htk
            have HH := Lib.hid (fun v wr' => pc_one (W := W) (wr := wr') (g := g) (A := A) (cp := cp) (ov := ov) (v := v) hpk h0 hu)
            have HLE := Lib.hid (leV_snoc rs (l.getD (n + u) 0))
            have HBO := Lib.hid (leV_bound rs (fun x hx => hpf.2.2.2 x (by simpa using hx)))
            have hrl : rs.length = k := by simpa using hpf.1
            have hb : 0 ≤ l.getD (n + u) 0 ∧ l.getD (n + u) 0 < 256 := by
              rw [show l.getD (n + u) 0 = l[n + u] from by simp [hu]]
              exact HBY.out _ (List.getElem_mem hu)
            generalize l.getD (n + u) 0 = x at *
            rw [hrl] at HLE HBO
            have HTK := Lib.hid htk
            have HSS := Lib.hid hS
            clear hpk hT hS htk hpf hrl hul
            go_wp2_with fail
            refine HTK.out.mono ?_
            rintro e w2 ⟨rfl, hS2, hT2⟩
            have HS2 := Lib.hid hS2
            have HT2 := Lib.hid hT2
            clear hS2 hT2
            go_wp2_with fail
            go_roundw
            case rel => exact ⟨k + 1, _, hlt, by simp, rfl, Lib.hid (HH.out _ _ (by rw [HLE.out, le_step _ _ k hlt HBO.out hb]) HT2.out (HSS.out.trans HS2.out))⟩
            case measure => simp [intOf]; omega
          · rw [tk_end l (n + u) hu] at htk
            have HH := Lib.hid (fun v wr' => pc_fail (W := W) (wr := wr') (g := g) (A := A) (cp := cp) (ov := ov) (v := v) hpk h0 hu)
            have HTK := Lib.hid htk
            have HSS := Lib.hid hS
            clear hpk hT hS htk hpf hul
            go_wp2_with fail
            refine HTK.out.mono ?_
            rintro e w2 ⟨rfl, hS2, hT2⟩
            have HS2 := Lib.hid hS2
            have HT2 := Lib.hid hT2
            clear hS2 hT2
            go_wp2_with fail
            go_roundw
            case rel => exact ⟨k + 1, _, hlt, by simp, rfl, Lib.hid (HH.out _ _ _ rfl HT2.out hul2 (HSS.out.trans HS2.out))⟩
            case measure => simp [intOf]; omega
        · have htk := take_calls w0 wr g A cp l n' ov 5 hT (HB.out.trans (hS.below hg)) hg HL.out hm hn' HBY.out
          rw [tk_err] at htk
          have HTK := Lib.hid htk
          have HSS := Lib.hid hS
          have HPK := Lib.hid (pickV_none c (l.drop n) k hpk)
          clear hpk hT hS htk
          go_wp2_with fail
          refine HTK.out.mono ?_
          rintro e w2 ⟨rfl, hS2, hT2⟩
          have HS2 := Lib.hid hS2
          have HT2 := Lib.hid hT2
          clear hS2 hT2
          go_wp2_with fail
          go_roundw
          case rel => exact ⟨k + 1, _, hlt, by simp, rfl, Lib.hid (Pc.err _ n' HPK.out rfl HT2.out hn' (HSS.out.trans HS2.out))⟩
          case measure => simp [intOf]; omega
    · obtain rfl : k = 4 := by omega
      obtain ⟨pre, x6, hv6, HX, HP2⟩ : ∃ (pre : List Int) (x6 : Int), u6 = .int .i64 x6 ∧ Hid ((pre.length = 4 ∧ x6 = leV pre) ∨ pickV c (l.drop n) 4 = none) ∧ Hid (Pc W wr g A cp l n ov c pre (4 + 0) (.int .i64 0)) := by
        rcases HP.out with ⟨rs, u, hpk, rfl, hT, hS⟩ | ⟨x, n', hpk, rfl, hT, hn', hS⟩
        · exact ⟨rs, leV rs, rfl, Lib.hid (.inl ⟨by simpa using (pickV_facts c (l.drop n) HBD.out 4 _ _ hpk).1, rfl⟩), Lib.hid (Pc.ok [] u (by simpa using hpk) rfl hT hS)⟩
        · exact ⟨[], x, rfl, Lib.hid (.inr hpk), Lib.hid (Pc.err 0 n' hpk rfl hT hn' hS)⟩
      subst hv6
      clear HP
      rw [show ((4 : Nat) : Int) = 4 from rfl]
      go_wp2_with fail
      go_loopw [7, 9] (fun v i wr => ∃ (k : Nat) (v' : Value), k ≤ 3 ∧ i = .int .i64 k ∧ v = v' ∧ Hid (Pc W wr g A cp l n ov c pre (4 + k) v')) (fun _ i _ => 3 - (intOf i).toNat)
      case atStart => exact ⟨0, _, by omega, rfl, rfl, HP2⟩
      case round =>
        obtain ⟨k, v, hk, rfl, rfl, HP⟩ := hrel
        by_cases hlt : k < 3
        · have hp2 : (0 : Int) < 2 ^ (4 + k) := Int.pow_pos (by decide)
          have hq0 := Int.ediv_nonneg HC.out.1 (Int.le_of_lt hp2)
          have h1 := Int.tmod_eq_emod_of_nonneg hq0 (b := 2)
          have hk64 : (k : Int) < 8 := by omega
          have HQ := Lib.hid hq0
          clear hp2 hq0
          by_cases h0 : c / 2 ^ (4 + k) % 2 = 0
          · have HH := Lib.hid (pc_zero HP.out h0)
            rcases HP.out with ⟨rs, u, hpk, rfl, hT, hS⟩ | ⟨x, n', hpk, rfl, hT, hn', hS⟩
            all_goals
              clear hpk hT hS
              go_wp2_with fail
              go_roundw
              case rel => exact ⟨k + 1, _, hlt, by simp, rfl, HH⟩
              case measure => simp [intOf]; omega
          · rcases HP.out with ⟨rs, u, hpk, rfl, hT, hS⟩ | ⟨x, n', hpk, rfl, hT, hn', hS⟩
            · have hpf := pickV_facts c (l.drop n) HBD.out (4 + k) _ _ hpk
              have hul := hpf.2.2.1
              rw [List.length_drop] at hul
              have hul2 : n + u ≤ l.length := by omega
              have htk := take_calls w0 wr g A cp l (n + u) ov 0 hT (HB.out.trans (hS.below hg)) hg HL.out hm hul2 HBY.out
              by_cases hu : n + u < l.length
              · rw [tk_ok l (n + u) hu] at htk
                have HH := Lib.hid (fun v wr' => pc_one (W := W) (wr := wr') (g := g) (A := A) (cp := cp) (ov := ov) (v := v) hpk h0 hu)
                have HLE := Lib.hid (leV_snoc rs (l.getD (n + u) 0))
                have HBO := Lib.hid (leV_bound rs (fun x hx => hpf.2.2.2 x (List.mem_append.2 (.inr hx))))
                have hrl : rs.length = k := by
                  have h4 : pre.length = 4 := by
                    rcases HX.out with h | h
                    · exact h.1
                    · rw [pickV_later c (l.drop n) 4 h (4 + k) (by omega)] at hpk; cases hpk
                  have := hpf.1
                  rw [List.length_append] at this
                  omega
                have hb : 0 ≤ l.getD (n + u) 0 ∧ l.getD (n + u) 0 < 256 := by
                  rw [show l.getD (n + u) 0 = l[n + u] from by simp [hu]]
                  exact HBY.out _ (List.getElem_mem hu)
                generalize l.getD (n + u) 0 = x at *
                rw [hrl] at HLE HBO
                have HTK := Lib.hid htk
                have HSS := Lib.hid hS
                clear hpk hT hS htk hpf hrl hul
                go_wp2_with fail
                refine HTK.out.mono ?_
                rintro e w2 ⟨rfl, hS2, hT2⟩
                have HS2 := Lib.hid hS2
                have HT2 := Lib.hid hT2
                clear hS2 hT2
                go_wp2_with fail
                go_roundw
                case rel => exact ⟨k + 1, _, hlt, by simp, rfl, Lib.hid (HH.out _ _ (by rw [HLE.out, le_step _ _ k (by omega) HBO.out hb]) HT2.out (HSS.out.trans HS2.out))⟩
                case measure => simp [intOf]; omega
              · rw [tk_end l (n + u) hu] at htk
                have HH := Lib.hid (fun v wr' => pc_fail (W := W) (wr := wr') (g := g) (A := A) (cp := cp) (ov := ov) (v := v) hpk h0 hu)
                have HTK := Lib.hid htk
                have HSS := Lib.hid hS
                clear hpk hT hS htk hpf hul
                go_wp2_with fail
                refine HTK.out.mono ?_
                rintro e w2 ⟨rfl, hS2, hT2⟩
                have HS2 := Lib.hid hS2
                have HT2 := Lib.hid hT2
                clear hS2 hT2
                go_wp2_with fail
                go_roundw
                case rel => exact ⟨k + 1, _, hlt, by simp, rfl, Lib.hid (HH.out _ _ _ rfl HT2.out hul2 (HSS.out.trans HS2.out))⟩
                case measure => simp [intOf]; omega
            · have htk := take_calls w0 wr g A cp l n' ov 5 hT (HB.out.trans (hS.below hg)) hg HL.out hm hn' HBY.out
              rw [tk_err] at htk
              have HTK := Lib.hid htk
              have HSS := Lib.hid hS
              have HPK := Lib.hid (pickV_none c (l.drop n) (4 + k) hpk)
              clear hpk hT hS htk
              go_wp2_with fail
              refine HTK.out.mono ?_
              rintro e w2 ⟨rfl, hS2, hT2⟩
              have HS2 := Lib.hid hS2
              have HT2 := Lib.hid hT2
              clear hS2 hT2
              go_wp2_with fail
              go_roundw
              case rel => exact ⟨k + 1, _, hlt, by simp, rfl, Lib.hid (Pc.err _ n' HPK.out rfl HT2.out hn' (HSS.out.trans HS2.out))⟩
              case measure => simp [intOf]; omega
        · obtain rfl : k = 3 := by omega
          have hx6 : x6 = x6 := rfl
          rcases HP.out with ⟨rs, u, hpk, rfl, hT, hS⟩ | ⟨x, n', hpk, rfl, hT, hn', hS⟩
          · have h4 : pre.length = 4 ∧ x6 = leV pre := by
              rcases HX.out with h | h
              · exact h
              · rw [pickV_later c (l.drop n) 4 h (4 + 3) (by omega)] at hpk; cases hpk
            have hat : atV (pre ++ rs) = x6 := by unfold atV; rw [List.take_left' h4.1]; exact h4.2.symm
            have hct : cntV (pre ++ rs) = if leV rs = 0 then 65536 else leV rs := by unfold cntV; rw [List.drop_left' h4.1]
            generalize leV rs = y at *
            have HAT := Lib.hid hat
            have HCT := Lib.hid hct
            have HPK := Lib.hid hpk
            have HTT := Lib.hid hT
            have HSS := Lib.hid hS
            clear hat hct hpk hT hS h4
            go_wp2_with fail
            · rename_i hz
              go_ret2
              exact .inl ⟨_, u, HPK.out, by rw [HAT.out, HCT.out, if_pos (by simpa using hz)]; rfl, HTT.out, HSS.out⟩
            · rename_i hz
              go_ret2
              exact .inl ⟨_, u, HPK.out, by rw [HAT.out, HCT.out, if_neg (by simpa using hz)]; rfl, HTT.out, HSS.out⟩
          · have HPK := Lib.hid hpk
            have HTT := Lib.hid hT
            have HSS := Lib.hid hS
            clear hpk hT hS
            go_wp2_with fail
            all_goals
              go_ret2
              exact .inr ⟨HPK.out, _, _, n', rfl, HTT.out, hn', HSS.out⟩
end Go.Proofs.Ytiocipmnmjpkfaa
