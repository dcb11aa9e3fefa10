/- codicilref08.step: an instruction. -/
import Derived.Test.YtiocipmnmjpkfaaHPlace
namespace Go.Proofs.Ytiocipmnmjpkfaa
set_option linter.unusedVariables false
set_option linter.unusedSimpArgs false
open Go.RowKit Go.Proofs.YtiocipmnmjpkfaaW.PrintWords Go.Proofs.YtiocipmnmjpkfaaW.PrintMore

theorem Tl.grown {W W1 : World} {g B : Nat} {dv ov v : Value} {a e : Int} {out : List Int} (h : Tl W g dv a ov e) (hO : Bs 5 W B v out) (hg : W.grownBy W1 v.ownBlock) : Tl W1 g dv a ov e := by
  refine (hg.block g (blk_lt h) fun he => ?_).trans h
  obtain ⟨cells, hc⟩ := own_typed hO g he.symm
  rw [show W.heap[g]? = _ from h] at hc
  cases hc
theorem Tl.far {W W1 : World} {g B : Nat} {dv ov v : Value} {a e : Int} {out : List Int} (h : Tl W g dv a ov e) (hO : Bs 5 W B v out) (hS : OnlyG g W W1) : Bs 5 W1 B v out := by
  refine own_move hO fun k hk => hS.keep k fun he => ?_
  subst he
  obtain ⟨cells, hc⟩ := own_typed hO k hk
  rw [show W.heap[k]? = _ from h] at hc
  cases hc
/-- W' is W below B, but for the block g. -/
structure GB (g B : Nat) (W W' : World) : Prop where
  os : W'.os = W.os
  tape : W'.tape = W.tape
  output : W'.output = W.output
  size : W.heap.size ≤ W'.heap.size
  keep : ∀ i, i < B → i ≠ g → W'.heap[i]? = W.heap[i]?
theorem GB.refl (g B : Nat) (W : World) : GB g B W W := ⟨rfl, rfl, rfl, Nat.le_refl _, fun _ _ _ => rfl⟩
theorem GB.only {g B : Nat} {W W1 W2 : World} (h : GB g B W W1) (k : OnlyG g W1 W2) : GB g B W W2 :=
  ⟨k.os.trans h.os, k.tape.trans h.tape, k.output.trans h.output, by rw [k.size]; exact h.size, fun i hi hg => (k.keep i hg).trans (h.keep i hi hg)⟩
theorem GB.below {g B : Nat} {W W1 W2 : World} (h : GB g B W W1) (k : Below B W1 W2) : GB g B W W2 :=
  ⟨k.os.trans h.os, k.tape.trans h.tape, k.output.trans h.output, Nat.le_trans h.size k.size, fun i hi hg => (k.block i hi).trans (h.keep i hi hg)⟩
theorem GB.to {g B C : Nat} {W W1 : World} (h : GB g B W W1) (hg : C ≤ g) (hB : C ≤ B) : Below C W W1 := ⟨h.os, h.tape, h.output, h.size, fun i hi => h.keep i (by omega) (by omega)⟩
theorem Tl.gb {W W1 : World} {g C : Nat} {dv ov v : Value} {a e : Int} {out : List Int} (h : Tl W g dv a ov e) (hO : Bs 5 W C v out) (hS : GB g W.heap.size W W1) : Bs 5 W1 C v out := by
  refine own_move hO fun k hk => hS.keep k (own_lt hO k hk) fun he => ?_
  subst he
  obtain ⟨cells, hc⟩ := own_typed hO k hk
  rw [show W.heap[k]? = _ from h] at hc
  cases hc
/-- step's loop over the bytes that are put: i rounds are over. -/
inductive Pl (w2 wr : World) (g : Nat) (A : Option Addr) (cp : Nat) (l : List Int) (n : Nat) (ov : Value) (q i : Nat) (pv : Value) : Prop
  | ok (hi : i ≤ q) (hil : n + i ≤ l.length) (hT : Tl wr g (.slice A l.length cp) ((n + i : Nat) : Int) ov 0) (hR : Bs 5 wr w2.heap.size pv ((l.drop n).take i)) (hS : GB g w2.heap.size w2 wr)
  | err (hq : l.length < n + q) (n' : Nat) (hn : n' ≤ l.length) (hT : Tl wr g (.slice A l.length cp) (n' : Int) ov 5) (ps : List Int) (hps : ps.length ≤ q) (hR : Bs 5 wr w2.heap.size pv ps) (hS : GB g w2.heap.size w2 wr)
/-- An instruction at a delta under way: the error, what has come out, what is left. -/
def stepF (base : List Int) (size : Nat) (out : List Int) (c : Int) (d : List Int) : Int × List Int × List Int :=
  if (oneF base c d).1 = 0 then (if size < out.length + (oneF base c d).2.1.length then (4, [], []) else (0, out ++ (oneF base c d).2.1, (oneF base c d).2.2)) else ((oneF base c d).1, [], [])
def StepAns (w0 : World) (g : Nat) (A : Option Addr) (cp : Nat) (l : List Int) (p : Int × List Int × List Int) (e : Ending) (wr : World) : Prop :=
  e = .returned (.tuple #[]) ∧ Below w0.heap.size w0 wr ∧ ∃ (n' : Nat) (ov' : Value), n' ≤ l.length ∧ Tl wr g (.slice A l.length cp) n' ov' p.1 ∧ (p.1 = 0 → Bs 5 wr w0.heap.size ov' p.2.1 ∧ l.drop n' = p.2.2)
theorem StepAns.err {w0 wr : World} {g : Nat} {A : Option Addr} {cp : Nat} {l : List Int} {p : Int × List Int × List Int} {x : Int} {n' : Nat} {ov : Value} (hp : p = (x, [], [])) (hx : x ≠ 0) (hB : Below w0.heap.size w0 wr) (hn : n' ≤ l.length) (hT : Tl wr g (.slice A l.length cp) n' ov x) : StepAns w0 g A cp l p (.returned (.tuple #[])) wr := by
  subst hp
  exact ⟨rfl, hB, n', ov, hn, hT, fun h => absurd h hx⟩
set_option maxRecDepth 8000 in
set_option maxHeartbeats 4000000 in
theorem step_calls (w0 W : World) (g : Nat) (A Ab : Option Addr) (cp cb : Nat) (l base out : List Int) (n size : Nat) (ov : Value) (hT : Tl W g (.slice A l.length cp) n ov 0) (hO : Bs 5 W w0.heap.size ov out) (hB : Below w0.heap.size w0 W) (hg : w0.heap.size ≤ g)
    (hl : ReadsInt w0 .u8 A l.length l) (hb : ReadsInt w0 .u8 Ab base.length base) (hcb : base.length ≤ cb) (hm : l.length ≤ 1099511627776) (hmb : base.length ≤ 1099511627776) (hn : n < l.length) (hby : ∀ x ∈ l, 0 ≤ x ∧ x < 256) (hso : out.length ≤ size) (hsz : size ≤ 1099511627776) :
    Calls Try.prog 53 #[.pointer (some ⟨g, 0, none⟩), .slice Ab base.length cb, .int .i64 size] W fun e W' => StepAns w0 g A cp l (stepF base size out (l.getD n 0) (l.drop (n + 1))) e W' := by
  obtain ⟨p, hp⟩ : ∃ p, stepF base size out (l.getD n 0) (l.drop (n + 1)) = p := ⟨_, rfl⟩
  rw [hp]
  have HF := Lib.hid hp
  have htk := take_calls w0 W g A cp l n ov 0 hT hB hg hl hm (Nat.le_of_lt hn) hby
  rw [tk_ok l n hn] at htk
  obtain ⟨i0, hi0, _, hsz0, _⟩ := info_parts infoU8
  have hcb0 : 0 ≤ l.getD n 0 ∧ l.getD n 0 < 256 := by
    rw [show l.getD n 0 = l[n] from by simp [hn]]
    exact hby _ (List.getElem_mem hn)
  have HBS := Lib.hid hb
  have HL := Lib.hid hl
  have HBY := Lib.hid hby
  have HBD := Lib.hid (fun x hx => hby x (List.mem_of_mem_drop (i := n + 1) hx))
  have HT := Lib.hid hT
  have HO := Lib.hid hO
  have HB := Lib.hid hB
  have HTK := Lib.hid htk
  have hld : (l.drop (n + 1)).length = l.length - (n + 1) := List.length_drop
  have HLD := Lib.hid hld
  have HDR := Lib.hid (fun u => (List.drop_drop (l := l) (i := u) (j := n + 1)))
  generalize l.getD n 0 = c at HF HTK hcb0
  obtain ⟨q, rfl⟩ := Int.eq_ofNat_of_zero_le hcb0.1
  clear hp hT hO hB hl hb hby htk hld
  rw [stepF] at HF
  by_cases h0 : (q : Int) = 0
  · rw [h0, oneF_zero, if_neg (by simp)] at HF
    rw [h0] at HTK
    go_enter Try.func53, Try.ntmps53
    go_wp2_with fail
    refine HTK.out.mono ?_
    rintro e w2 ⟨rfl, hS2, hT2⟩
    have c3 := hT2.c3
    have f3 := hT2.f 3
    have HS2 := Lib.hid hS2
    have HB2 := Lib.hid (HB.out.trans (hS2.below hg))
    have HT2 := Lib.hid hT2
    clear hS2 hT2
    go_wp2_with fail
    refine bodyPost_end (results_none rfl _ _ _) rfl (StepAns.err (n' := n + 1) HF.out.symm (by decide) (below_set HB2.out hg) hn (HT2.out.set3 4))
  · have hq0 : 0 < q := by omega
    by_cases h1 : (q : Int) < 128
    · have hbe : ((q : Int) == 0) = false := beq_eq_false_iff_ne.2 h0
      have hdec : decide ((128 : Int) ≤ (q : Int)) = false := decide_eq_false (by omega)
      have HF1 := Lib.hid (fun h => oneF_short base (q : Int) (l.drop (n + 1)) h0 h1 h)
      have HF2 := Lib.hid (fun h => oneF_put base (q : Int) (l.drop (n + 1)) h0 h1 h)
      go_enter Try.func53, Try.ntmps53
      go_wp2_with fail
      refine HTK.out.mono ?_
      rintro e w2 ⟨rfl, hS2, hT2⟩
      have HS2 := Lib.hid hS2
      have HT2 := Lib.hid hT2
      have HB2 := Lib.hid (HB.out.trans (hS2.below hg))
      have HO2 := Lib.hid (HT.out.far HO.out hS2)
      clear hS2 hT2
      have hw2 : w0.heap.size ≤ w2.heap.size := HB2.out.size
      go_wp2_with fail
      go_loopw [7, 10] (fun pv iv wr => ∃ (i : Nat) (pv' : Value), iv = .int .i64 i ∧ pv = pv' ∧ i ≤ q ∧ Hid (Pl w2 wr g A cp l (n + 1) ov q i pv')) (fun _ iv _ => q - (intOf iv).toNat)
      case atStart => exact ⟨0, _, rfl, rfl, Nat.zero_le _, Lib.hid (Pl.ok (Nat.zero_le _) hn HT2.out (own_nil _ _ _ _) (GB.refl _ _ _))⟩
      case round =>
        obtain ⟨i, pv, rfl, rfl, hiq, HP⟩ := hrel
        rcases HP.out with ⟨hi, hil, hT, hR, hS⟩ | ⟨hq5, n', hn', hT, ps, hps, hR, hS⟩
        · have c3 := hT.c3
          have c2 := hT.c2
          have HRR := Lib.hid hR
          have HTT := Lib.hid hT
          have HSS := Lib.hid hS
          have hBw := HB2.out.trans (hS.to hg hw2)
          have HBW := Lib.hid hBw
          have HO3 := Lib.hid (HT2.out.gb HO2.out hS)
          by_cases hlt : i < q
          · have htk := take_calls w0 wr g A cp l (n + 1 + i) ov 0 hT hBw hg HL.out hm hil HBY.out
            have hsz := hS.size
            by_cases hfar : n + 1 + i < l.length
            · rw [tk_ok l _ hfar] at htk
              have hbx : 0 ≤ l.getD (n + 1 + i) 0 ∧ l.getD (n + 1 + i) 0 < 256 := by
                rw [show l.getD (n + 1 + i) 0 = l[n + 1 + i] from by simp [hfar]]
                exact HBY.out _ (List.getElem_mem hfar)
              have HTA := Lib.hid (show (l.drop (n + 1)).take (i + 1) = (l.drop (n + 1)).take i ++ [l.getD (n + 1 + i) 0] by
                rw [List.take_succ_eq_append_getElem (by rw [List.length_drop]; omega)]
                simp [hfar])
              have hwx : IntKind.u8.wrap (l.getD (n + 1 + i) 0) = l.getD (n + 1 + i) 0 := by rw [IntKind.wrap_u8]; omega
              generalize l.getD (n + 1 + i) 0 = x at htk hbx HTA hwx
              have HTK2 := Lib.hid htk
              clear htk hT hR hS hBw
              go_wp2_with fail
              refine HTK2.out.mono ?_
              rintro e w3 ⟨rfl, hS3, hT3⟩
              have HT3 := Lib.hid hT3
              have HS3 := Lib.hid hS3
              have HR3 := Lib.hid (HTT.out.far HRR.out hS3)
              have hsz3 : w2.heap.size ≤ w3.heap.size := by rw [hS3.size]; exact hsz
              clear hS3 hT3
              go_wp2_with (at_builtin; go_must (refine brow_append_row' (w0 := w3) w2.heap.size rfl (.tmp 25) (.tmp 29) 22 5 rfl Try.underlying22 infoU8 u7 ((l.drop (n + 1)).take i) [x] (some ⟨w3.heap.size, 0, none⟩) 1 1 rfl rfl (pw_own_below HR3.out (below_alloc (Below.refl _ _) _)) (own_reads' (own_lit w3 w2.heap.size 5 .u8 [x] hsz3 (by simp))) ((below_alloc (Below.refl w3.heap.size w3) _).mono hsz3) (by simp; omega) (by have := List.length_take_le i (l.drop (n + 1)); omega) ?_); intro v1 w1 hown1 hb1; have HO1 := Lib.hid hown1; have HB1 := Lib.hid hb1; clear hown1 hb1)
              go_roundw
              case rel => exact ⟨i + 1, _, by simp, rfl, hlt, Lib.hid (Pl.ok hlt (by omega) ((HB1.out.block g (blk_lt HT2.out)).trans HT3.out) (by rw [HTA.out]; exact HO1.out) ((HSS.out.only HS3.out).below HB1.out))⟩
              case measure => simp [intOf]; omega
            · rw [tk_end l _ hfar] at htk
              have HTK2 := Lib.hid htk
              clear htk hT hR hS hBw
              go_wp2_with fail
              refine HTK2.out.mono ?_
              rintro e w3 ⟨rfl, hS3, hT3⟩
              have HT3 := Lib.hid hT3
              have HS3 := Lib.hid hS3
              have HR3 := Lib.hid (HTT.out.far HRR.out hS3)
              have hsz3 : w2.heap.size ≤ w3.heap.size := by rw [hS3.size]; exact hsz
              clear hS3 hT3
              go_wp2_with (at_builtin; go_must (refine brow_append_row' (w0 := w3) w2.heap.size rfl (.tmp 25) (.tmp 29) 22 5 rfl Try.underlying22 infoU8 u7 ((l.drop (n + 1)).take i) [0] (some ⟨w3.heap.size, 0, none⟩) 1 1 rfl rfl (pw_own_below HR3.out (below_alloc (Below.refl _ _) _)) (own_reads' (own_lit w3 w2.heap.size 5 .u8 [0] hsz3 (by simp))) ((below_alloc (Below.refl w3.heap.size w3) _).mono hsz3) (by simp; omega) (by have := List.length_take_le i (l.drop (n + 1)); omega) ?_); intro v1 w1 hown1 hb1; have HO1 := Lib.hid hown1; have HB1 := Lib.hid hb1; clear hown1 hb1)
              go_roundw
              case rel => exact ⟨i + 1, _, by simp, rfl, hlt, Lib.hid (Pl.err (by omega) (n + 1 + i) hil ((HB1.out.block g (blk_lt HT2.out)).trans HT3.out) _ (by simp only [List.length_append, List.length_singleton, List.length_take]; omega) HO1.out ((HSS.out.only HS3.out).below HB1.out))⟩
              case measure => simp [intOf]; omega
          · obtain rfl : i = q := by omega
            have hdl : (l.drop (n + 1)).length = l.length - (n + 1) := HLD.out
            rw [HF2.out (by rw [hdl, Int.toNat_natCast]; omega), if_pos rfl, Int.toNat_natCast] at HF
            have hpl : ((l.drop (n + 1)).take i).length = i := by rw [List.length_take, hdl]; omega
            rw [hpl] at HF
            obtain ⟨Ap, np, cpv, hpv, HR', HNP⟩ := Bs.open_ hR
            have hnp : np = i := HNP.out.trans hpl
            subst hpv
            subst hnp
            have HPR := Lib.hid (own_reads' HR'.out)
            obtain ⟨Ao, no, co, rfl, HO', HN⟩ := Bs.open_ HO3.out
            have hno := HN.out
            have c3b := (hT.set3 4).c3
            have f3 := hT.f 3
            have hdr := HDR.out np
            clear hT hR hS hBw
            by_cases hfit : size < out.length + np
            · rw [if_pos hfit] at HF
              have hf4 : (size : Int) < (no : Int) + np := by omega
              go_wp2_with fail
              refine bodyPost_end (results_none rfl _ _ _) rfl (StepAns.err HF.out.symm (by decide) (below_set HBW.out hg) (by omega) (HTT.out.set3 4))
            · rw [if_neg hfit] at HF
              have hf4 : ¬ (size : Int) < (no : Int) + np := by omega
              go_wp2_with (at_builtin; refine print_append_row (w0 := w0) w0.heap.size rfl (.tmp 102) (.tmp 103) 22 5 .u8 1 rfl Try.underlying22 infoU8 (by decide) (.slice Ao no co) out ((l.drop (n + 1)).take np) Ap np cpv (by rw [hno]; rfl) rfl HO3.out HPR.out HBW.out HBW.out.size (by omega) ?_; intro v1 w1 hown hb1 hgr hbk; obtain ⟨A1, c1, rfl⟩ := own_slice hown; have HOW := Lib.hid hown; have HB1 := Lib.hid hb1; have HT4 := Lib.hid (HTT.out.grown HO3.out hgr); have c2 := HT4.out.c2; have f2 := HT4.out.f 2; clear hown hb1 hgr hbk)
              refine bodyPost_end (results_none rfl _ _ _) rfl ?_
              rw [← HF.out]
              have hrow : Bs 5 w1 w0.heap.size (.slice A1 (out ++ (l.drop (n + 1)).take np).length c1) (out ++ (l.drop (n + 1)).take np) := HOW.out
              rw [show (out ++ (l.drop (n + 1)).take np).length = out.length + np from by rw [List.length_append, hpl]] at hrow
              exact ⟨rfl, below_set HB1.out hg, n + 1 + np, _, by omega, HT4.out.set2 _, fun _ => ⟨HT4.out.far hrow ((OnlyG.refl g w1).set 2 _), by rw [hdr]⟩⟩
        · have c3 := hT.c3
          have HTT := Lib.hid hT
          have HBW := Lib.hid (HB2.out.trans (hS.to hg hw2))
          have hdl : (l.drop (n + 1)).length = l.length - (n + 1) := HLD.out
          rw [HF1.out (by rw [hdl, Int.toNat_natCast]; omega), if_neg (by simp)] at HF
          obtain ⟨Ap, np, cpv, hpv, HR', HNP⟩ := Bs.open_ hR
          subst hpv
          clear hT hR hS
          go_wp2_with fail
          all_goals
            refine bodyPost_end (results_none rfl _ _ _) rfl (StepAns.err HF.out.symm (by decide) HBW.out hn' HTT.out)
    · have h1' : (128 : Int) ≤ q := by omega
      cases hpk : pickV (q : Int) (l.drop (n + 1)) 7 with
      | none =>
        rw [oneF_none base q _ h0 h1 hpk, if_neg (by simp)] at HF
        go_enter Try.func53, Try.ntmps53
        go_wp2_with fail
        refine HTK.out.mono ?_
        rintro e w2 ⟨rfl, hS2, hT2⟩
        have HS2 := Lib.hid hS2
        have HT2 := Lib.hid hT2
        have HB2 := Lib.hid (HB.out.trans (hS2.below hg))
        have HO2 := Lib.hid (HT.out.far HO.out hS2)
        clear hS2 hT2
        have HPL := Lib.hid (place_calls w0 w2 g A cp l (n + 1) ov (q : Int) HT2.out HB2.out hg HL.out hm hn HBY.out hcb0.1 hcb0.2)
        go_wp2_with fail
        refine HPL.out.mono ?_
        rintro e w3 (⟨vs, u, hpk2, _⟩ | ⟨_, x, y, n', rfl, hT3, hn', hS3⟩)
        · rw [hpk] at hpk2; cases hpk2
        have c3 := hT3.c3
        have HT3 := Lib.hid hT3
        have HB3 := Lib.hid (HB2.out.trans (hS3.below hg))
        clear hT3 hS3 hpk
        go_wp2_with fail
        refine bodyPost_end (results_none rfl _ _ _) rfl (StepAns.err HF.out.symm (by decide) HB3.out hn' HT3.out)
      | some pr =>
        obtain ⟨vs, u⟩ := pr
        rw [oneF_some base q _ h0 h1 hpk] at HF
        have hpf := pickV_facts (q : Int) (l.drop (n + 1)) HBD.out 7 vs u hpk
        have hul := hpf.2.2.1
        rw [HLD.out] at hul
        have hcp := cntV_pos vs hpf.2.2.2
        have hap := (leV_bound (vs.take 4) (fun x hx => hpf.2.2.2 x (List.mem_of_mem_take hx)))
        have hap2 : atV vs < 4294967296 := by
          have h4 : (vs.take 4).length = 4 := by rw [List.length_take, hpf.1]; rfl
          have := hap.2
          rw [h4] at this
          exact this
        have hap1 : 0 ≤ atV vs := hap.1
        have hcp2 : cntV vs < 16777217 := by
          have h3 : (vs.drop 4).length = 3 := by rw [List.length_drop, hpf.1]
          have := (leV_bound (vs.drop 4) (fun x hx => hpf.2.2.2 x (List.mem_of_mem_drop hx))).2
          rw [h3] at this
          unfold cntV
          split <;> omega
        obtain ⟨at_, hat⟩ := Int.eq_ofNat_of_zero_le hap1
        obtain ⟨cn, hcn⟩ := Int.eq_ofNat_of_zero_le (Int.le_of_lt hcp)
        rw [hat, hcn] at HF
        rw [hat] at hap2
        rw [hcn] at hcp hcp2
        have HAP := Lib.hid (show at_ < 4294967296 by omega)
        have HCP := Lib.hid (show cn < 16777217 by omega)
        have hcn0 : 0 < cn := by omega
        have HATN := Lib.hid (⟨hat, hcn, hpk⟩ : atV vs = at_ ∧ cntV vs = cn ∧ pickV (q : Int) (l.drop (n + 1)) 7 = some (vs, u))
        clear hpk hpf hap hap1 hat hcn hap2 hcp hcp2
        have hdr := HDR.out u
        by_cases hfar : base.length < at_ + cn
        · rw [if_pos (show (base.length : Int) < at_ + cn by omega), if_neg (by simp)] at HF
          go_enter Try.func53, Try.ntmps53
          go_wp2_with fail
          refine HTK.out.mono ?_
          rintro e w2 ⟨rfl, hS2, hT2⟩
          have HS2 := Lib.hid hS2
          have HT2 := Lib.hid hT2
          have HB2 := Lib.hid (HB.out.trans (hS2.below hg))
          have HO2 := Lib.hid (HT.out.far HO.out hS2)
          clear hS2 hT2
          have HPL := Lib.hid (place_calls w0 w2 g A cp l (n + 1) ov (q : Int) HT2.out HB2.out hg HL.out hm hn HBY.out hcb0.1 hcb0.2)
          go_wp2_with fail
          refine HPL.out.mono ?_
          rintro e w3 (⟨vs', u', hpk2, rfl, hT3, hS3⟩ | ⟨hpk2, _⟩)
          · rw [HATN.out.2.2] at hpk2
            obtain ⟨rfl, rfl⟩ : vs = vs' ∧ u = u' := by simpa using hpk2
            rw [HATN.out.1, HATN.out.2.1]
            have hap2 := HAP.out
            have hcp2 := HCP.out
            have hf3 : (base.length : Int) < (at_ : Int) + cn := by omega
            have c3 := hT3.c3
            have f3 := hT3.f 3
            have c3b := (hT3.set3 4).c3
            have HT3 := Lib.hid hT3
            have HB3 := Lib.hid (HB2.out.trans (hS3.below hg))
            clear hT3 hS3 hpk2 HATN
            go_wp2_with fail
            refine bodyPost_end (results_none rfl _ _ _) rfl (StepAns.err HF.out.symm (by decide) (below_set HB3.out hg) (by omega) (HT3.out.set3 4))
          · rw [HATN.out.2.2] at hpk2; cases hpk2
        · rw [if_neg (show ¬ (base.length : Int) < at_ + cn by omega), if_pos rfl, Int.toNat_natCast, Int.toNat_natCast] at HF
          have hpl : ((base.drop at_).take cn).length = cn := by rw [List.length_take, List.length_drop]; omega
          rw [hpl] at HF
          obtain ⟨A3, hcut3, hcr3⟩ := cut_mid 22 5 Try.underlying22 hi0 hsz0 Ab base.length cb at_ (at_ + cn) (by omega) (by omega) hcb
          have hcut4 := hcut3 (at_ : Int) ((at_ : Int) + cn) rfl (by omega)
          rw [show at_ + cn - at_ = cn from by omega] at hcut4 hcr3
          have HP := Lib.hid (hcr3 w0 .u8 _ HBS.out)
          clear hcut3 hcr3
          by_cases hfit : size < out.length + cn
          all_goals
            go_enter Try.func53, Try.ntmps53
            go_wp2_with fail
            refine HTK.out.mono ?_
            rintro e w2 ⟨rfl, hS2, hT2⟩
            have HS2 := Lib.hid hS2
            have HT2 := Lib.hid hT2
            have HB2 := Lib.hid (HB.out.trans (hS2.below hg))
            have HO2 := Lib.hid (HT.out.far HO.out hS2)
            clear hS2 hT2
            have HPL := Lib.hid (place_calls w0 w2 g A cp l (n + 1) ov (q : Int) HT2.out HB2.out hg HL.out hm hn HBY.out hcb0.1 hcb0.2)
            go_wp2_with fail
            refine HPL.out.mono ?_
            rintro e w3 (⟨vs', u', hpk2, rfl, hT3, hS3⟩ | ⟨hpk2, _⟩)
            case inr => rw [HATN.out.2.2] at hpk2; cases hpk2
            rw [HATN.out.2.2] at hpk2
            obtain ⟨rfl, rfl⟩ : vs = vs' ∧ u = u' := by simpa using hpk2
            rw [HATN.out.1, HATN.out.2.1]
            have hap2 := HAP.out
            have hcp2 := HCP.out
            have hf3 : ¬ (base.length : Int) < (at_ : Int) + cn := by omega
            have HO3 := Lib.hid (HT2.out.far HO2.out hS3)
            obtain ⟨Ao, no, co, rfl, HO', HN⟩ := Bs.open_ HO3.out
            have hno := HN.out
            have c3 := hT3.c3
            have f3 := hT3.f 3
            have c2 := hT3.c2
            have c3b := (hT3.set3 4).c3
            have HT3 := Lib.hid hT3
            have HB3 := Lib.hid (HB2.out.trans (hS3.below hg))
            clear hT3 hS3 hpk2 HATN
          · rw [if_pos hfit] at HF
            have hf4 : (size : Int) < (no : Int) + cn := by omega
            go_wp2_with fail
            refine bodyPost_end (results_none rfl _ _ _) rfl (StepAns.err HF.out.symm (by decide) (below_set HB3.out hg) (by omega) (HT3.out.set3 4))
          · rw [if_neg hfit] at HF
            have hf4 : ¬ (size : Int) < (no : Int) + cn := by omega
            go_wp2_with (at_builtin; refine print_append_row (w0 := w0) w0.heap.size rfl (.tmp 102) (.tmp 103) 22 5 .u8 1 rfl Try.underlying22 infoU8 (by decide) (.slice Ao no co) out ((base.drop at_).take cn) A3 cn (cb - at_) (by rw [hno]; rfl) rfl HO3.out (HP.out.below HB3.out) HB3.out HB3.out.size (by omega) ?_; intro v1 w1 hown hb1 hgr hbk; obtain ⟨A1, c1, rfl⟩ := own_slice hown; have HOW := Lib.hid hown; have HB1 := Lib.hid hb1; have HT4 := Lib.hid (HT3.out.grown HO3.out hgr); have c2 := HT4.out.c2; have f2 := HT4.out.f 2; clear hown hb1 hgr hbk)
            refine bodyPost_end (results_none rfl _ _ _) rfl ?_
            rw [← HF.out]
            have hrow : Bs 5 w1 w0.heap.size (.slice A1 (out ++ (base.drop at_).take cn).length c1) (out ++ (base.drop at_).take cn) := HOW.out
            rw [show (out ++ (base.drop at_).take cn).length = out.length + cn from by rw [List.length_append, hpl]] at hrow
            exact ⟨rfl, below_set HB1.out hg, n + 1 + u, _, by omega, HT4.out.set2 _, fun _ => ⟨HT4.out.far hrow ((OnlyG.refl g w1).set 2 _), by rw [hdr]⟩⟩
end Go.Proofs.Ytiocipmnmjpkfaa
