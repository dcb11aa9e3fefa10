/- delta.run: instructions one after the other. -/
import Derived.Test.YtiocipmnmjpkfaaHSpan
namespace Go.Proofs.Ytiocipmnmjpkfaa
set_option linter.unusedVariables false
set_option linter.unusedSimpArgs false
open Go.RowKit Go.Proofs.YtiocipmnmjpkfaaW.PrintWords Go.Proofs.YtiocipmnmjpkfaaW.PrintMore

def lenOfV : Value → Nat
  | .slice _ n _ => n
  | _ => 0
/-- 'xs[lo:]', lo a number of whatever kind. -/
theorem cut_endk {P : Program} (kl : IntKind) (t e : TypeId) {i : TypeInfo} (ht : P.underlying t = some (.slice e)) (hi : P.info? e = some i) (hsz : i.size = 1) (A : Option Addr) (n c : Nat) (x : Int) (lo : Nat) (hx : x = lo) (h1 : lo ≤ n) (h3 : n ≤ c) :
    ∃ A' : Option Addr, (∀ W : World, (Instr.slice t (.slice A n c) (some (.int kl x)) none none).run P W = .ok (.slice A' (n - lo) (c - lo)) W) ∧
      ∀ (w : World) (k : IntKind) (xs : List Int), ReadsInt w k A n xs → ReadsInt w k A' (n - lo) (xs.drop lo) := by
  subst hx
  refine ⟨if c = lo then A else A.map (·.add lo), ?_, fun w k xs h => h.drop_ lo (by omega) h3⟩
  intro W
  have hel : P.elem t = e := by simp [Program.elem, ht]
  have hu : P.underlying t = some (.slice (P.elem t)) := by rw [hel]; exact ht
  rw [run_slice_l W t A n c hu kl (lo : Int) (by omega) (by omega), hel]
  simp [sizeOf, typeInfo, hi, hsz, sliced, Result.andThen]
theorem oneF_zero (base d : List Int) : oneF base 0 d = (4, [], d) := by simp [oneF]
theorem oneF_short (base : List Int) (c : Int) (d : List Int) (h0 : c ≠ 0) (h1 : c < 128) (h2 : d.length < c.toNat) : oneF base c d = (5, [], d) := by simp [oneF, h0, h1, h2]
theorem oneF_put (base : List Int) (c : Int) (d : List Int) (h0 : c ≠ 0) (h1 : c < 128) (h2 : ¬ d.length < c.toNat) : oneF base c d = (0, d.take c.toNat, d.drop c.toNat) := by simp [oneF, h0, h1, h2]
theorem oneF_none (base : List Int) (c : Int) (d : List Int) (h0 : c ≠ 0) (h1 : ¬ c < 128) (h2 : pickV c d 7 = none) : oneF base c d = (5, [], d) := by simp [oneF, h0, h1, h2]
theorem oneF_some (base : List Int) (c : Int) (d : List Int) (h0 : c ≠ 0) (h1 : ¬ c < 128) {vs : List Int} {u : Nat} (h2 : pickV c d 7 = some (vs, u)) : oneF base c d = if (base.length : Int) < atV vs + cntV vs then (4, [], d) else (0, (base.drop (atV vs).toNat).take (cntV vs).toNat, d.drop u) := by simp [oneF, h0, h1, h2]
/-- What run answers. -/
def RunAns (w : World) (p : Int × List Int) (e : Ending) (w' : World) : Prop := ∃ v, e = .returned (.tuple #[v, .int .i64 p.1]) ∧ Bs 5 w' w.heap.size v p.2 ∧ Below w.heap.size w w'
theorem RunAns.err {w w' : World} {p : Int × List Int} {x : Int} (hp : p = (x, [])) (hB : Below w.heap.size w w') : RunAns w p (.returned (.tuple #[.slice none 0 0, .int .i64 x])) w' := by
  subst hp
  exact ⟨_, rfl, own_nil _ _ _ _, hB⟩
def RunInv (w : World) (base d : List Int) (size : Nat) (dv ov : Value) (wr : World) : Prop := ∃ (l out : List Int) (A' : Option Addr) (n c' k : Nat), dv = .slice A' n c' ∧ n = l.length ∧ n ≤ c' ∧ l.length ≤ d.length ∧ l.length < k ∧ out.length ≤ size ∧ Hid (ReadsInt w .u8 A' l.length l) ∧ Hid (Bs 5 wr w.heap.size ov out) ∧ Hid (Below w.heap.size w wr) ∧ Hid (runF base size (d.length + 1) [] d = runF base size k out l) ∧ Hid (∀ x ∈ l, 0 ≤ x ∧ x < 256)
set_option maxRecDepth 8000 in
set_option maxHeartbeats 4000000 in
theorem drun_calls (Ab Ad : Option Addr) (cb cd : Nat) (base d : List Int) (size : Nat) (w : World) (hb : ReadsInt w .u8 Ab base.length base) (hcb : base.length ≤ cb) (hd : ReadsInt w .u8 Ad d.length d) (hcd : d.length ≤ cd)
    (hmb : base.length ≤ 1099511627776) (hmd : d.length ≤ 1099511627776) (hms : size ≤ 1099511627776) (hby : ∀ x ∈ d, 0 ≤ x ∧ x < 256) :
    Calls Try.prog 52 #[.slice Ab base.length cb, .slice Ad d.length cd, .int .i64 size] w fun e w' => RunAns w (runF base size (d.length + 1) [] d) e w' := by
  have HBS := Lib.hid hb
  have HD := Lib.hid hd
  have HBY := Lib.hid hby
  obtain ⟨i0, hi0, _, hsz0, _⟩ := info_parts infoU8
  have hmk := make_room (P := Try.prog) 22 5 (.int .u8 0) 1 Try.underlying22 infoU8 rfl
  have hmk1 := hmk (size : Int) size rfl (by omega) (by omega)
  have hmk2 := hmk ((base.length : Int) + d.length) (base.length + d.length) (by omega) (by omega) (by omega)
  have HROOM := Lib.hid (fun c (hc : c ≤ 4398046511104) => own_room w w.heap.size 5 (.int .u8 0) c (Nat.le_refl _) (by simp only [maxLen]; omega))
  clear hb hd hby hmk
  go_enter Try.func52, Try.ntmps52
  go_wp2_with fail
  all_goals
    go_loopw [1, 8] (fun dv ov wr => RunInv w base d size dv ov wr) (fun dv _ _ => lenOfV dv)
    case atStart => exact ⟨d, [], Ad, d.length, cd, d.length + 1, rfl, rfl, hcd, Nat.le_refl _, Nat.lt_succ_self _, Nat.zero_le _, HD, HROOM.out _ (by omega), below_alloc (Below.refl _ _) _, rfl, HBY⟩
    case round =>
      obtain ⟨l, out, A', n, c', k, rfl, hn, hlc, hld, hlk, hos, HL, HO, HB, HF, HBL⟩ := hrel
      obtain ⟨Ao, no, co, rfl, HO', HN⟩ := Bs.open_ HO.out
      have hno := HN.out
      have hmo := hos
      obtain ⟨k, rfl⟩ : ∃ j, k = j + 1 := ⟨k - 1, by omega⟩
      rcases l with _ | ⟨c, r⟩
      · obtain rfl : n = 0 := hn
        rw [runF_nil] at HF
        by_cases he : out.length = size
        · rw [if_pos he] at HF
          have he2 : (no : Int) = size := by omega
          go_wp2_with fail
          go_ret2
          rw [HF.out]
          exact ⟨_, rfl, HO.out, HB.out⟩
        · rw [if_neg he] at HF
          have he2 : ¬ (no : Int) = size := by omega
          go_wp2_with fail
          go_ret2
          exact RunAns.err HF.out HB.out
      · obtain rfl : n = r.length + 1 := hn
        rw [runF_cons] at HF
        have hcb0 := HBL.out c List.mem_cons_self
        have HBR := Lib.hid (fun x hx => HBL.out x (List.mem_cons_of_mem c hx))
        obtain ⟨ad, rfl, hcell⟩ := HL.out.2.2 (Nat.succ_pos _)
        have hc0 := pw_cell_below HB.out (hcell 0 (by simp))
        rw [show ad.add 0 = ad from by simp [Addr.add]] at hc0
        rw [show (c :: r).getD 0 0 = c from rfl] at hc0
        obtain ⟨A1, hcut, hcr⟩ := cut_endk .i64 22 5 Try.underlying22 hi0 hsz0 (some ad) (r.length + 1) c' 1 1 rfl (by omega) hlc
        rw [show r.length + 1 - 1 = r.length from rfl] at hcut hcr
        have HR := Lib.hid (hcr w .u8 _ HL.out)
        rw [show (c :: r).drop 1 = r from rfl] at HR
        have hmr : r.length ≤ 1099511627776 := by have : r.length + 1 ≤ d.length := by simpa using hld
                                                  omega
        have hlk2 : r.length < k := by simp at hlk; omega
        have hld2 : r.length + 1 ≤ d.length := by simpa using hld
        clear hcell hcr hld hlk
        by_cases h0 : c = 0
        · subst h0
          rw [oneF_zero, if_neg (by simp)] at HF
          go_wp2_with fail
          go_ret2
          exact RunAns.err HF.out HB.out
        · obtain ⟨q, rfl⟩ := Int.eq_ofNat_of_zero_le hcb0.1
          have hq0 : 0 < q := by omega
          by_cases h1 : (q : Int) < 128
          · by_cases h2 : r.length < q
            · rw [oneF_short base q r h0 h1 (by simpa using h2), if_neg (by simp)] at HF
              go_wp2_with fail
              go_ret2
              exact RunAns.err HF.out HB.out
            · rw [oneF_put base q r h0 h1 (by simpa using h2), if_pos rfl, Int.toNat_natCast] at HF
              have hct := cut_to (P := Try.prog) 22 5 .u8 Try.underlying22 hi0 A1 r.length (c' - 1) (q : Int) (by omega) (by omega) (by omega)
              rw [Int.toNat_natCast] at hct
              obtain ⟨A2, hcut2, hcr2⟩ := cut_endk .u8 22 5 Try.underlying22 hi0 hsz0 A1 r.length (c' - 1) (q : Int) q rfl (by omega) (by omega)
              have HR2 := Lib.hid (hcr2 w .u8 _ HR.out)
              have HP := Lib.hid (HR.out.take_ q (by omega))
              have hle2 : (q : Int) ≤ r.length := by omega
              have hpl : (r.take q).length = q := by rw [List.length_take]; omega
              have hdl : (r.drop q).length = r.length - q := by rw [List.length_drop]
              rw [hpl] at HF
              clear hcr2
              by_cases hfit : size < out.length + q
              · rw [if_pos hfit] at HF
                have hf2 : ¬ (q : Int) ≤ (size : Int) - no := by omega
                go_wp2_with fail
                go_quiet (fail)
                try go_wp2_with fail
                go_ret2
                exact RunAns.err HF.out (pw_below_drewN HB.out nq)
              · rw [if_neg hfit] at HF
                have hf2 : ¬ (size : Int) - no < (q : Int) := by omega
                go_wp2_with fail
                go_quiet (fail)
                have HBq := Lib.hid (pw_below_drewN HB.out nq)
                have HOq : Hid (Bs 5 (wr.drewN nq) w.heap.size (.slice Ao no co) out) := Lib.hid (pw_own_below HO.out (pw_below_drewN (Below.refl _ _) nq))
                generalize wr.drewN nq = w2 at HBq HOq ⊢
                go_wp2_with (at_builtin; refine brow_append_row' (w0 := w) w.heap.size rfl (.tmp 86) (.tmp 87) 22 5 rfl Try.underlying22 infoU8 (.slice Ao no co) out (r.take q) A1 q (c' - 1) (by rw [hno]; rfl) rfl HOq.out (HP.out.below HBq.out) HBq.out HBq.out.size (by omega) ?_; intro v1 w1 hown1 hb1; have HO1 := Lib.hid hown1; have HB1 := Lib.hid hb1; clear hown1 hb1)
                go_roundw
                case rel => exact ⟨r.drop q, out ++ r.take q, A2, r.length - q, c' - 1 - q, k, rfl, hdl.symm, by omega, by omega, by omega, by rw [List.length_append, hpl]; omega, Lib.hid (by rw [hdl]; exact HR2.out), HO1, HB1, HF, Lib.hid fun x hx => HBR.out x (List.mem_of_mem_drop hx)⟩
                case measure => simp [lenOfV]; omega
          · have hbr := fun x hx => HBR.out x hx
            have hsp := (dspan_calls A1 (c' - 1) (q : Int) r wr (HR.out.below HB.out) (by omega) hcb0.1 hcb0.2 HBR.out)
            have HPF := Lib.hid (pickV_facts (q : Int) r HBR.out 7)
            have HON := Lib.hid (oneF_none base q r h0 h1)
            have HOS := Lib.hid (fun vs u => oneF_some base q r h0 h1 (vs := vs) (u := u))
            clear hbr
            cases hpk : pickV (q : Int) r 7 with
            | none =>
              rw [hpk] at hsp
              rw [HON.out hpk, if_neg (by simp)] at HF
              clear hpk
              go_wp2_with fail
              refine hsp.mono ?_
              rintro e w2 ⟨he, hb2⟩
              unfold SpanAns at he
              subst he
              go_wp2_with fail
              go_ret2
              exact RunAns.err HF.out (HB.out.trans (hb2.mono HB.out.size))
            | some p =>
              obtain ⟨vs, u⟩ := p
              rw [hpk] at hsp
              have hpf := HPF.out vs u hpk
              rw [HOS.out vs u hpk] at HF
              have hul := hpf.2.2.1
              have hcp := cntV_pos vs hpf.2.2.2
              have hap := (leV_bound (vs.take 4) (fun x hx => hpf.2.2.2 x (List.mem_of_mem_take hx)))
              have hap2 : atV vs < 4294967296 := by
                have h4 : (vs.take 4).length = 4 := by rw [List.length_take, hpf.1]; rfl
                have := hap.2
                rw [h4] at this
                exact this
              have hap1 : 0 ≤ atV vs := hap.1
              have hcp2 : cntV vs < 16777217 := by
                have h3 : (vs.drop 4).length = 3 := by rw [List.length_drop, hpf.1]
                have := (leV_bound (vs.drop 4) (fun x hx => hpf.2.2.2 x (List.mem_of_mem_drop hx))).2
                rw [h3] at this
                unfold cntV
                split <;> omega
              obtain ⟨at_, hat⟩ := Int.eq_ofNat_of_zero_le hap1
              obtain ⟨cn, hcn⟩ := Int.eq_ofNat_of_zero_le (Int.le_of_lt hcp)
              have hsa : ∀ e, SpanAns (some (vs, u)) e → e = .returned (.tuple #[.int .i64 (at_ : Int), .int .i64 (cn : Int), .int .i64 u, .bool true]) := by
                intro e he
                unfold SpanAns at he
                rw [he, hat, hcn]
              have HSA := Lib.hid hsa
              rw [hat, hcn] at HF
              rw [hat] at hap2
              rw [hcn] at hcp hcp2
              have hcn0 : 0 < cn := by omega
              have HSP := Lib.hid hsp
              have HAP := Lib.hid (show at_ < 4294967296 by omega)
              have HCP := Lib.hid (show cn < 16777217 by omega)
              clear hsp hap2 hcp hcp2
              clear hpk hpf hap hap1 hat hcn hsa
              obtain ⟨A2, hcut2, hcr2⟩ := cut_endk .i64 22 5 Try.underlying22 hi0 hsz0 A1 r.length (c' - 1) (u : Int) u rfl hul (by omega)
              have HR2 := Lib.hid (hcr2 w .u8 _ HR.out)
              have hdl : (r.drop u).length = r.length - u := by rw [List.length_drop]
              clear hcr2
              by_cases hfar : base.length < at_ + cn
              · rw [if_pos (show (base.length : Int) < at_ + cn by omega), if_neg (by simp)] at HF
                by_cases hfar2 : base.length < at_
                · have hf3 : (base.length : Int) < at_ := by omega
                  go_wp2_with fail
                  refine HSP.out.mono ?_
                  rintro e w2 ⟨he, hb2⟩
                  obtain rfl := HSA.out e he
                  have hap2 := HAP.out
                  have hcp2 := HCP.out
                  go_wp2_with fail
                  go_ret2
                  exact RunAns.err HF.out (HB.out.trans (hb2.mono HB.out.size))
                · have hf3 : ¬ (base.length : Int) < at_ := by omega
                  have hf4 : (base.length : Int) - at_ < cn := by omega
                  go_wp2_with fail
                  refine HSP.out.mono ?_
                  rintro e w2 ⟨he, hb2⟩
                  obtain rfl := HSA.out e he
                  have hap2 := HAP.out
                  have hcp2 := HCP.out
                  go_wp2_with fail
                  go_ret2
                  exact RunAns.err HF.out (HB.out.trans (hb2.mono HB.out.size))
              · rw [if_neg (show ¬ (base.length : Int) < at_ + cn by omega), if_pos rfl, Int.toNat_natCast, Int.toNat_natCast] at HF
                have hf3 : ¬ (base.length : Int) < at_ := by omega
                have hf4 : ¬ (base.length : Int) - at_ < cn := by omega
                obtain ⟨A3, hcut3, hcr3⟩ := cut_mid 22 5 Try.underlying22 hi0 hsz0 Ab base.length cb at_ (at_ + cn) (by omega) (by omega) hcb
                have hcut4 := hcut3 (at_ : Int) ((at_ : Int) + cn) rfl (by omega)
                rw [show at_ + cn - at_ = cn from by omega] at hcut4 hcr3
                have HP := Lib.hid (hcr3 w .u8 _ HBS.out)
                have hpl : ((base.drop at_).take cn).length = cn := by rw [List.length_take, List.length_drop]; omega
                rw [hpl] at HF
                clear hcut3 hcr3
                by_cases hfit : size < out.length + cn
                · rw [if_pos hfit] at HF
                  have hf2 : ¬ (cn : Int) ≤ (size : Int) - no := by omega
                  go_wp2_with fail
                  refine HSP.out.mono ?_
                  rintro e w2 ⟨he, hb2⟩
                  obtain rfl := HSA.out e he
                  have hap2 := HAP.out
                  have hcp2 := HCP.out
                  go_wp2_with fail
                  go_ret2
                  exact RunAns.err HF.out (HB.out.trans (hb2.mono HB.out.size))
                · rw [if_neg hfit] at HF
                  have hf2 : ¬ (size : Int) - no < (cn : Int) := by omega
                  go_wp2_with fail
                  refine HSP.out.mono ?_
                  rintro e w2 ⟨he, hb2⟩
                  obtain rfl := HSA.out e he
                  have hap2 := HAP.out
                  have hcp2 := HCP.out
                  have HBq := Lib.hid (HB.out.trans (hb2.mono HB.out.size))
                  have HOq : Hid (Bs 5 w2 w.heap.size (.slice Ao no co) out) := Lib.hid (pw_own_below HO.out hb2)
                  clear hb2
                  go_wp2_with (at_builtin; refine brow_append_row' (w0 := w) w.heap.size rfl (.tmp 86) (.tmp 87) 22 5 rfl Try.underlying22 infoU8 (.slice Ao no co) out ((base.drop at_).take cn) A3 cn (cb - at_) (by rw [hno]; rfl) rfl HOq.out (HP.out.below HBq.out) HBq.out HBq.out.size (by omega) ?_; intro v1 w1 hown1 hb1; have HO1 := Lib.hid hown1; have HB1 := Lib.hid hb1; clear hown1 hb1)
                  go_roundw
                  case rel => exact ⟨r.drop u, out ++ (base.drop at_).take cn, A2, r.length - u, c' - 1 - u, k, rfl, hdl.symm, by omega, by omega, by omega, by rw [List.length_append, hpl]; omega, Lib.hid (by rw [hdl]; exact HR2.out), HO1, HB1, HF, Lib.hid fun x hx => HBR.out x (List.mem_of_mem_drop hx)⟩
                  case measure => simp [lenOfV]; omega
end Go.Proofs.Ytiocipmnmjpkfaa
