/- delta.PutCopy: an instruction that copies. -/
import Derived.Test.YtiocipmnmjpkfaaHMakeS
import Derived.Deep.RegionLaw
import Derived.StillTailTactics
import Derived.Deep.QuietTactic
import Derived.BigQuiet
namespace Go.Proofs.Ytiocipmnmjpkfaa
set_option linter.unusedVariables false
set_option linter.unusedSimpArgs false
open Go.RowKit Go.Proofs.YtiocipmnmjpkfaaW.PrintWords Go.Proofs.YtiocipmnmjpkfaaW.PrintMore

/-- The first byte of a copy, when i of its bytes are told; the bytes told. -/
def mkB (b : Nat → Int) : Nat → Int
  | 0 => 128
  | i + 1 => if b i = 0 then mkB b i else mkB b i + 2 ^ i
def lsB (b : Nat → Int) : Nat → List Int
  | 0 => []
  | i + 1 => if b i = 0 then lsB b i else lsB b i ++ [b i]
theorem lsB_len (b : Nat → Int) : ∀ i, (lsB b i).length ≤ i := by
  intro i
  induction i with
  | zero => simp [lsB]
  | succ i ih =>
    simp only [lsB]
    split
    · omega
    · simp; omega
theorem mkB_bound (b : Nat → Int) : ∀ i, 128 ≤ mkB b i ∧ mkB b i < 128 + 2 ^ i := by
  intro i
  induction i with
  | zero => simp [mkB]
  | succ i ih =>
    have hp : (0 : Int) < 2 ^ i := Int.pow_pos (by decide)
    simp only [mkB, Int.pow_succ]
    split <;> omega
theorem or_bit_tab : ∀ i : Fin 7, ∀ y : Fin 64, y.val < 2 ^ i.val → bits .or .u8 (128 + (y.val : Int)) (2 ^ i.val) = 128 + (y.val : Int) + 2 ^ i.val := by decide +kernel
theorem or_bit (b : Nat → Int) (i : Nat) (hi : i < 7) : bits .or .u8 (mkB b i) (2 ^ i) = mkB b i + 2 ^ i := by
  have h := mkB_bound b i
  obtain ⟨y, hy⟩ := Int.eq_ofNat_of_zero_le (show 0 ≤ mkB b i - 128 by omega)
  have hlt : y < 2 ^ i := by
    have h2 : ((2 ^ i : Nat) : Int) = 2 ^ i := by simp
    omega
  have h64 : y < 64 := by
    have : 2 ^ i ≤ 2 ^ 6 := Nat.pow_le_pow_right (by decide) (by omega)
    omega
  have := or_bit_tab ⟨i, hi⟩ ⟨y, h64⟩ hlt
  rw [show mkB b i = 128 + (y : Int) by omega]
  exact this
/-- The bytes of a copy. -/
def cpB (at_ n : Int) (i : Nat) : Int := if i < 4 then at_ / 256 ^ i % 256 else (if n = 65536 then 0 else n / 256 ^ (i - 4) % 256)
/-- What PutCopy writes. -/
def copyL (at_ n : Int) : List Int := mkB (cpB at_ n) 7 :: lsB (cpB at_ n) 7
theorem copyL_len (at_ n : Int) : (copyL at_ n).length ≤ 8 := by have := lsB_len (cpB at_ n) 7; simp [copyL]; omega
theorem eqIn_nil (d : Nat) (A : Option Addr) (l c : Nat) (w : World) : (Op.equalIn (d + 1) 22 (.slice A l c) (.slice none 0 0)).run Try.prog w = .ok A.isNone w := by
  cases A <;> simp [Op.equalIn, run_underlying Try.underlying22]
theorem eq_nil (A : Option Addr) (l c : Nat) (w : World) : (binOp .eql 22 (.slice A l c) (.slice none 0 0)).run Try.prog w = .ok (.bool A.isNone) w := by
  have h : (Op.equal 22 (.slice A l c) (.slice none 0 0)).run Try.prog w = .ok A.isNone w := eqIn_nil 9999 A l c w
  simp only [binOp]
  simp [h]
set_option maxHeartbeats 1000000 in
theorem clone_calls (A : Option Addr) (c : Nat) (l : List Int) (w : World) (hl : ReadsInt w .u8 A l.length l) (hm : l.length ≤ 140737488355000) :
    Calls Try.prog 54 #[.slice A l.length c] w fun e w' => ∃ v, e = .returned v ∧ Bs 5 w' w.heap.size v l ∧ Below w.heap.size w w' := by
  have HL := Lib.hid hl
  have hen := eq_nil A l.length c
  clear hl
  cases A with
  | none =>
    have h0 : l = [] := by
      rcases l with _ | ⟨x, r⟩
      · rfl
      · obtain ⟨ad, e, _⟩ := HL.out.2.2 (by simp)
        cases e
    subst h0
    have hen : ∀ w, (binOp .eql 22 (.slice none 0 c) (.slice none 0 0)).run Try.prog w = .ok (.bool true) w := eq_nil none 0 c
    go_enter Try.func54, Try.ntmps54
    go_wp2_with fail
    go_ret
    exact ⟨_, rfl, own_nil _ _ _ _, Below.refl _ _⟩
  | some ad =>
    simp only [Option.isNone_some] at hen
    go_enter Try.func54, Try.ntmps54
    go_wp2_with (at_builtin; go_must (refine brow_append_row' (w0 := w) w.heap.size rfl (.tmp 5) (.tmp 6) 22 5 rfl Try.underlying22 infoU8 (.slice (some ⟨w.heap.size, 0, none⟩) 0 0) [] l (some ad) l.length c rfl rfl (own_lit w w.heap.size 5 .u8 [] (Nat.le_refl _) (by simp)) (HL.out.allocS _) (below_alloc (Below.refl _ _) _) (by simp) (by simp; omega) ?_); intro v1 w1 hown1 hb1; have HO1 := Lib.hid hown1; have HB1 := Lib.hid hb1; clear hown1 hb1)
    go_ret
    exact ⟨v1, rfl, HO1.out, HB1.out⟩
/-- PutCopy's row in its box, its place in another. -/
def Qb (W : World) (q b : Nat) (qv : Value) (c : Int) : Prop := W.heap[q]? = some (.cells #[qv] 22 (0, 0)) ∧ W.heap[b]? = some (.cells #[.int .i64 c] 3 (0, 0))
/-- W' is W below B, but for the box q. -/
def PutInv (w2 : World) (q b B : Nat) (p : List Int) (f : Nat → Int) (j : Nat) (wr : World) : Prop :=
  ∃ qv, Qb wr q b qv p.length ∧ Bs 5 wr B qv (p ++ mkB f j :: lsB f j) ∧ GB q B w2 wr
set_option maxRecDepth 8000 in
set_option maxHeartbeats 4000000 in
theorem put_calls (w2 W : World) (q b B : Nat) (p : List Int) (f : Nat → Int) (v : Int) (first count : Nat) (hI : PutInv w2 q b B p f first W) (hfc : first + count ≤ 7) (hqB : B ≤ q) (hv0 : 0 ≤ v) (hv1 : v < 4294967296) (hcount : count ≤ 4) (hp : p.length ≤ 140737488351240) (hB : B ≤ w2.heap.size)
    (hf : ∀ i, i < count → f (first + i) = v / 256 ^ i % 256) :
    Calls Try.prog 55 #[.int .i64 v, .int .i64 first, .int .i64 count, .pointer (some ⟨q, 0, none⟩), .pointer (some ⟨b, 0, none⟩)] W fun e W' => e = .returned (.tuple #[]) ∧ PutInv w2 q b B p f (first + count) W' := by
  have HI := Lib.hid hI
  have HFF := Lib.hid hf
  clear hI hf
  go_enter Try.func55, Try.ntmps55
  go_wp2_with fail
  go_loopw [11] (fun iv wr => ∃ i : Nat, iv = .int .i64 i ∧ i ≤ count ∧ Hid (PutInv w2 q b B p f (first + i) wr)) (fun iv _ => count - (intOf iv).toNat)
  case atStart => exact ⟨0, rfl, Nat.zero_le _, HI⟩
  case round =>
    obtain ⟨i, rfl, hi, HP⟩ := hrel
    by_cases hlt : i < count
    · obtain ⟨qv, hQ, hR, hS⟩ := HP.out
      have hk64 : (i : Int) < 8 := by omega
      have hff := HFF.out i hlt
      by_cases h0 : f (first + i) = 0
      · have hw : IntKind.u8.wrap (v / 2 ^ (8 * i)) = 0 := by
          rw [IntKind.wrap_u8, ← h0, hff, show (2 : Int) ^ (8 * i) = 256 ^ i by rw [Int.pow_mul]; rfl]
        have HH := Lib.hid (show PutInv w2 q b B p f (first + (i + 1)) wr from ⟨qv, hQ, by rw [← Nat.add_assoc]; simp only [mkB, lsB, h0, if_true]; exact hR, hS⟩)
        clear hQ hR hS
        go_wp2_with fail
        go_roundw
        case rel => exact ⟨i + 1, by simp, hlt, HH⟩
        case measure => simp [intOf]; omega
      · obtain ⟨x, hx⟩ : ∃ x, f (first + i) = x := ⟨_, rfl⟩
        have hxw : IntKind.u8.wrap (v / 2 ^ (8 * i)) = x := by
          rw [IntKind.wrap_u8, ← hx, hff, show (2 : Int) ^ (8 * i) = 256 ^ i by rw [Int.pow_mul]; rfl]
        rw [hx] at h0
        obtain ⟨r, cap, rfl, hrB, hrl⟩ := World.ownsRow.form hR (by simp; omega)
        have hmb := mkB_bound f (first + i)
        have hor := or_bit f (first + i) (by omega)
        have hm1 : mkB f (first + (i + 1)) = mkB f (first + i) + 2 ^ (first + i) := by rw [← Nat.add_assoc]; simp only [mkB, hx, if_neg h0]
        have hl1 : lsB f (first + (i + 1)) = lsB f (first + i) ++ [x] := by rw [← Nat.add_assoc]; simp only [lsB, hx, if_neg h0]
        have hll := lsB_len f (first + i)
        have hat := own_at hR (p.length : Int) (by omega) (by simp; omega)
        rw [Int.toNat_natCast] at hat
        have hrd : rd (p ++ mkB f (first + i) :: lsB f (first + i)) (p.length : Int) = mkB f (first + i) := by simp [rd]
        rw [hrd] at hat
        have d2 := hat.1
        have e2 := hat.2
        have q0 : wr.cell? ⟨q, 0, none⟩ = some (.slice (some ⟨r, 0, none⟩) (p ++ mkB f (first + i) :: lsB f (first + i)).length cap) := blk_cell hQ.1 0
        have b0 : wr.cell? ⟨b, 0, none⟩ = some (.int .i64 (p.length : Int)) := blk_cell hQ.2 0
        have hst := own_store hR (p.length : Int) (mkB f (first + i) + 2 ^ (first + i))
        rw [Int.toNat_natCast] at hst
        have hlen : (p ++ mkB f (first + i) :: lsB f (first + i)).length = p.length + 1 + (lsB f (first + i)).length := by simp; omega
        have hwfi : IntKind.i64.wrap ((first : Int) + (i : Int)) = (first : Int) + i := by rw [IntKind.wrap_i64]; omega
        have hs0 : (0 : Int) ≤ (first : Int) + i := by omega
        have hs1 : (first : Int) + (i : Int) < 8 := by omega
        have hton : ((first : Int) + (i : Int)).toNat = first + i := by omega
        have hsh : IntKind.u8.wrap (2 ^ (first + i)) = 2 ^ (first + i) := by
          have h2 : (2 : Int) ^ (first + i) ≤ 2 ^ 6 := by
            have : 2 ^ (first + i) ≤ 2 ^ 6 := Nat.pow_le_pow_right (by decide) (by omega)
            exact_mod_cast this
          have h3 : (0 : Int) < 2 ^ (first + i) := Int.pow_pos (by decide)
          rw [IntKind.wrap_u8]
          omega
        have HQ := Lib.hid hQ
        have HR := Lib.hid hR
        have HS := Lib.hid hS
        have HST := Lib.hid hst
        have HM1 := Lib.hid hm1
        have HL1 := Lib.hid hl1
        have HX := Lib.hid hx
        rw [hlen] at HR HST
        rw [hlen] at q0
        have hn1 : (p.length : Int) < ((p.length + 1 + (lsB f (first + i)).length : Nat) : Int) := by omega
        generalize hmm : mkB f (first + i) = mk at *
        generalize hnn : p.length + 1 + (lsB f (first + i)).length = nn at *
        clear hQ hR hS hst hm1 hl1 hx hat hrd hlen hmm
        have hrq : q ≠ r := by
          rintro rfl
          obtain ⟨cells, hc⟩ := own_typed HR.out q rfl
          rw [HQ.out.1] at hc
          simp at hc
        have hrb : b ≠ r := by
          rintro rfl
          obtain ⟨cells, hc⟩ := own_typed HR.out b rfl
          rw [HQ.out.2] at hc
          simp at hc
        have hL' : (p ++ (mk + 2 ^ (first + i)) :: lsB f (first + i)).length = nn := by rw [← hnn]; simp; omega
        have hq6 := blk_far HQ.out.1 (p := ⟨r, p.length, none⟩) hrq (.int .u8 (mk + 2 ^ (first + i)))
        have hb6 := blk_far HQ.out.2 (p := ⟨r, p.length, none⟩) hrb (.int .u8 (mk + 2 ^ (first + i)))
        have q1 : (wr.setCell ⟨r, p.length, none⟩ (.int .u8 (mk + 2 ^ (first + i)))).cell? ⟨q, 0, none⟩ = some (.slice (some ⟨r, 0, none⟩) nn cap) := by
          rw [← hL']
          have h5 : (p ++ mk :: lsB f (first + i)).length = (p ++ (mk + 2 ^ (first + i)) :: lsB f (first + i)).length := by simp
          rw [← h5]
          exact blk_cell hq6 0
        have hst6 : (wr.setCell ⟨r, p.length, none⟩ (.int .u8 (mk + 2 ^ (first + i)))).ownsRow B 5 1 (.slice (some ⟨r, 0, none⟩) nn cap) nn (nums .u8 (p ++ (mk + 2 ^ (first + i)) :: lsB f (first + i))) := by
          have h6 := HST.out.1
          simpa [nums] using h6
        have HOA := Lib.hid (show (((wr.setCell ⟨r, p.length, none⟩ (.int .u8 (mk + 2 ^ (first + i)))).drew).alloc (.cells #[.int .u8 x] 5)).ownsRow B 5 1 (.slice (some ⟨r, 0, none⟩) nn cap) (p ++ (mk + 2 ^ (first + i)) :: lsB f (first + i)).length (nums .u8 (p ++ (mk + 2 ^ (first + i)) :: lsB f (first + i))) by rw [hL']; exact pw_own_below hst6 (below_alloc (below_drew (Below.refl _ _)) _))
        have hszs : ((wr.setCell ⟨r, p.length, none⟩ (.int .u8 (mk + 2 ^ (first + i)))).drew).heap.size = wr.heap.size := by simp [World.setCell]
        have HXA := Lib.hid (show ReadsInt (((wr.setCell ⟨r, p.length, none⟩ (.int .u8 (mk + 2 ^ (first + i)))).drew).alloc (.cells #[.int .u8 x] 5)) .u8 (some ⟨wr.heap.size, 0, none⟩) 1 [x] by
          have h7 := own_reads' (own_lit ((wr.setCell ⟨r, p.length, none⟩ (.int .u8 (mk + 2 ^ (first + i)))).drew) 0 5 .u8 [x] (Nat.zero_le _) (by simp))
          rw [hszs] at h7
          exact h7)
        have hszr : B ≤ wr.heap.size := by have := HS.out.size; omega
        have HBA := Lib.hid (show Below B ((wr.setCell ⟨r, p.length, none⟩ (.int .u8 (mk + 2 ^ (first + i)))).drew) (((wr.setCell ⟨r, p.length, none⟩ (.int .u8 (mk + 2 ^ (first + i)))).drew).alloc (.cells #[.int .u8 x] 5)) from (Below.refl B _).alloc (by rw [hszs]; exact hszr) _)
        have HBB := Lib.hid (show B ≤ (((wr.setCell ⟨r, p.length, none⟩ (.int .u8 (mk + 2 ^ (first + i)))).drew).alloc (.cells #[.int .u8 x] 5)).heap.size by rw [World.size_alloc, hszs]; omega)
        have HLN := Lib.hid hL'
        have hqlt := blk_lt HQ.out.1
        have hblt := blk_lt HQ.out.2
        have HQA := Lib.hid (show _ ∧ _ from ⟨(Below.heap_alloc ((wr.setCell ⟨r, p.length, none⟩ (.int .u8 (mk + 2 ^ (first + i)))).drew) (.cells #[.int .u8 x] 5) q (by rw [hszs]; exact hqlt)).trans hq6, (Below.heap_alloc ((wr.setCell ⟨r, p.length, none⟩ (.int .u8 (mk + 2 ^ (first + i)))).drew) (.cells #[.int .u8 x] 5) b (by rw [hszs]; exact hblt)).trans hb6⟩)
        have HQL := Lib.hid (show q < (((wr.setCell ⟨r, p.length, none⟩ (.int .u8 (mk + 2 ^ (first + i)))).drew).alloc (.cells #[.int .u8 x] 5)).heap.size ∧ some q ≠ (Value.slice (some ⟨r, 0, none⟩) nn cap).ownBlock ∧ b < (((wr.setCell ⟨r, p.length, none⟩ (.int .u8 (mk + 2 ^ (first + i)))).drew).alloc (.cells #[.int .u8 x] 5)).heap.size ∧ some b ≠ (Value.slice (some ⟨r, 0, none⟩) nn cap).ownBlock from ⟨by rw [World.size_alloc, hszs]; omega, fun e => hrq (by simpa [Value.ownBlock] using e), by rw [World.size_alloc, hszs]; omega, fun e => hrb (by simpa [Value.ownBlock] using e)⟩)
        clear hq6 hb6 hst6 hszs hL'
        go_wp2_with fail
        go_still_tail 10, (by kernel_rfl)
        go_wp2_with (at_builtin; go_must (refine print_append_row (w0 := (wr.setCell ⟨r, p.length, none⟩ (.int .u8 (mk + 2 ^ (first + i)))).drew) B rfl (.tmp 31) (.tmp 33) 22 5 .u8 1 rfl Try.underlying22 infoU8 (by decide) (.slice (some ⟨r, 0, none⟩) nn cap) (p ++ (mk + 2 ^ (first + i)) :: lsB f (first + i)) [x] (some ⟨wr.heap.size, 0, none⟩) 1 1 (by rfl) (by rfl) HOA.out HXA.out HBA.out HBB.out (by rw [HLN.out]; omega) ?_); intro v1 w7 hown hb1 hgr hbk; obtain ⟨A1, cc1, rfl⟩ := own_slice hown; have hq7 := (hgr.block q HQL.out.1 HQL.out.2.1).trans HQA.out.1; have hb7 := (hgr.block b HQL.out.2.2.1 HQL.out.2.2.2).trans HQA.out.2; have q7 := blk_cell hq7 0; have f7 := blk_frozen hq7 0; have HQ7 := Lib.hid hq7; have HB7 := Lib.hid hb7; have HOW := Lib.hid hown; have HBX := Lib.hid hb1; clear hown hb1 hgr hbk hq7 hb7)
        go_roundw
        case rel =>
          have hl2 : ((p ++ (mk + 2 ^ (first + i)) :: lsB f (first + i)) ++ [x]).length = p.length + ((lsB f (first + i)).length + 1 + 1) := by simp
          have hrow : Bs 5 w7 B (.slice A1 ((p ++ (mk + 2 ^ (first + i)) :: lsB f (first + i)) ++ [x]).length cc1) ((p ++ (mk + 2 ^ (first + i)) :: lsB f (first + i)) ++ [x]) := HOW.out
          rw [hl2] at hrow
          have hq8 := blk_set HQ7.out 0 (.slice A1 (p.length + ((lsB f (first + i)).length + 1 + 1)) cc1)
          have hqb : q ≠ b := by
            rintro rfl
            rw [HQ7.out] at HB7
            have := HB7.out
            simp at this
          refine ⟨i + 1, by simp, hlt, Lib.hid ⟨_, ⟨hq8, blk_far HB7.out (p := ⟨q, 0, none⟩) (fun e => hqb e.symm) _⟩, ?_, ((HS.out.below (((Below.refl B wr).setCell (p := ⟨r, p.length, none⟩) hrB _).drew)).below HBX.out).set 0 _⟩⟩
          rw [HM1.out, HL1.out, show p ++ (mk + 2 ^ (first + i)) :: (lsB f (first + i) ++ [x]) = (p ++ (mk + 2 ^ (first + i)) :: lsB f (first + i)) ++ [x] from by simp]
          refine own_move hrow fun k hk => Below.heap_setCell w7 ⟨q, 0, none⟩ _ k ?_
          intro e
          obtain ⟨cells, hc⟩ := own_typed hrow k hk
          rw [show k = q from e, HQ7.out] at hc
          simp at hc
        case measure => simp [intOf]; omega
    · obtain rfl : i = count := by omega
      go_wp2_with fail
      exact bodyPost_end (results_none rfl _ _ _) rfl ⟨rfl, HP.out⟩
/-- What PutCopy answers. -/
def putCopyF (p : List Int) (at_ n : Int) : List Int × Int := if at_ < 0 ∨ 4294967296 ≤ at_ ∨ n < 1 ∨ 16777215 < n then ([], 1) else (p ++ copyL at_ n, 0)
theorem cpB_lo (at_ n : Int) (i : Nat) (h : i < 4) : cpB at_ n (0 + i) = at_ / 256 ^ i % 256 := by simp [cpB, h]
theorem cpB_hi (at_ n : Int) (hn : n ≠ 65536) (i : Nat) (h : i < 3) : cpB at_ n (4 + i) = n / 256 ^ i % 256 := by
  unfold cpB
  rw [if_neg (by omega), if_neg hn, show 4 + i - 4 = i from by omega]
theorem cpB_none (at_ : Int) : mkB (cpB at_ 65536) 7 = mkB (cpB at_ 65536) 4 ∧ lsB (cpB at_ 65536) 7 = lsB (cpB at_ 65536) 4 := by
  have h : ∀ i, 4 ≤ i → cpB at_ 65536 i = 0 := fun i hi => by unfold cpB; rw [if_neg (by omega), if_pos rfl]
  constructor
  · simp only [mkB, h 6 (by omega), h 5 (by omega), h 4 (by omega), if_true]
  · simp only [lsB, h 6 (by omega), h 5 (by omega), h 4 (by omega), if_true]
set_option maxRecDepth 8000 in
set_option maxHeartbeats 4000000 in
theorem putCopy_calls (A : Option Addr) (c : Nat) (p : List Int) (at_ n : Int) (w : World) (hl : ReadsInt w .u8 A p.length p) (hm : p.length ≤ 140737488351240) :
    Calls Try.prog 39 #[.slice A p.length c, .int .i64 at_, .int .i64 n] w fun e w' => ∃ v, e = .returned (.tuple #[v, .int .i64 (putCopyF p at_ n).2]) ∧ Bs 5 w' w.heap.size v (putCopyF p at_ n).1 ∧ Below w.heap.size w w' := by
  have HL := Lib.hid hl
  clear hl
  by_cases hbad : at_ < 0 ∨ 4294967296 ≤ at_ ∨ n < 1 ∨ 16777215 < n
  · have HF := Lib.hid (show putCopyF p at_ n = ([], 1) by unfold putCopyF; rw [if_pos hbad])
    by_cases h1 : at_ < 0
    · go_enter Try.func39, Try.ntmps39
      go_wp2_with fail
      go_ret2
      rw [HF.out]
      exact ⟨_, rfl, own_nil _ _ _ _, Below.refl _ _⟩
    · by_cases h2 : 4294967296 ≤ at_
      · go_enter Try.func39, Try.ntmps39
        go_wp2_with fail
        go_ret2
        rw [HF.out]
        exact ⟨_, rfl, own_nil _ _ _ _, Below.refl _ _⟩
      · by_cases h3 : n < 1
        · go_enter Try.func39, Try.ntmps39
          go_wp2_with fail
          go_ret2
          rw [HF.out]
          exact ⟨_, rfl, own_nil _ _ _ _, Below.refl _ _⟩
        · have h4 : 16777215 < n := by omega
          go_enter Try.func39, Try.ntmps39
          go_wp2_with fail
          go_ret2
          rw [HF.out]
          exact ⟨_, rfl, own_nil _ _ _ _, Below.refl _ _⟩
  · have HF := Lib.hid (show putCopyF p at_ n = (p ++ copyL at_ n, 0) by unfold putCopyF; rw [if_neg hbad])
    have h1 : ¬ at_ < 0 := by omega
    have h2 : ¬ 4294967296 ≤ at_ := by omega
    have h3 : ¬ n < 1 := by omega
    have h4 : ¬ 16777215 < n := by omega
    have HCL := Lib.hid (clone_calls A c p w HL.out (by omega))
    clear hbad
    go_enter Try.func39, Try.ntmps39
    go_wp2_with fail
    refine HCL.out.mono ?_
    rintro e w1 ⟨v1, rfl, ho1, hb1⟩
    obtain ⟨A1, n1, c1, rfl, HO1, HN1⟩ := Bs.open_ ho1
    have HO := Lib.hid ho1
    have HB1 := Lib.hid hb1
    have hs1 := hb1.size
    clear ho1 hb1
    go_wp2_with (at_builtin; go_must (refine brow_append_row' (w0 := w) w.heap.size rfl (.tmp 26) (.tmp 27) 22 5 rfl Try.underlying22 infoU8 (.slice A1 n1 c1) p [128] (some ⟨w1.heap.size, 0, none⟩) 1 1 rfl rfl (pw_own_below HO.out (below_alloc (Below.refl _ _) _)) (own_reads' (own_lit w1 0 5 .u8 [128] (Nat.zero_le _) (by simp))) (HB1.out.alloc hs1 _) (by simp; omega) (by omega) ?_); intro v2 w2 hown2 hb2; obtain ⟨A2, cc2, rfl⟩ := own_slice hown2; have HO2 := Lib.hid hown2; have HB2 := Lib.hid hb2; clear hown2 hb2)
    have hs2 := HB2.out.size
    obtain ⟨W, hW⟩ : ∃ W, (w2.alloc (.cells #[.slice A2 (p.length + 1) cc2] 22)).alloc (.cells #[.int .i64 p.length] 3) = W := ⟨_, rfl⟩
    have hq : W.heap[w2.heap.size]? = some (.cells #[.slice A2 (p.length + 1) cc2] 22 (0, 0)) := by
      rw [← hW]
      exact (Below.heap_alloc _ _ _ (by simp)).trans (heap_alloc_new w2 _)
    have hb : W.heap[w2.heap.size + 1]? = some (.cells #[.int .i64 p.length] 3 (0, 0)) := by
      rw [← hW]
      have := heap_alloc_new (w2.alloc (.cells #[.slice A2 (p.length + 1) cc2] 22)) (.cells #[.int .i64 p.length] 3)
      rwa [World.size_alloc] at this
    have hBW : Below w.heap.size w W := by rw [← hW]; exact below_alloc (below_alloc HB2.out _) _
    have hsW : W.heap.size = w2.heap.size + 2 := by rw [← hW]; simp
    have hrow : Bs 5 W w.heap.size (.slice A2 (p.length + 1) cc2) (p ++ mkB (cpB at_ n) 0 :: lsB (cpB at_ n) 0) := by
      have h1 : Bs 5 W w.heap.size (.slice A2 (p ++ [128]).length cc2) (p ++ [128]) := by rw [← hW]; exact pw_own_below HO2.out (below_alloc (below_alloc (Below.refl _ _) _) _)
      rw [show (p ++ [(128 : Int)]).length = p.length + 1 from by simp] at h1
      exact h1
    have hP1 := put_calls W W w2.heap.size (w2.heap.size + 1) w.heap.size p (cpB at_ n) at_ 0 4 ⟨_, ⟨hq, hb⟩, hrow, GB.refl _ _ _⟩ (by omega) (by omega) (by omega) (by omega) (by omega) hm (by omega) (fun i hi => cpB_lo at_ n i hi)
    rw [hW]
    have HP1 := Lib.hid hP1
    have HBW := Lib.hid hBW
    clear hP1 hBW hrow hq hb HO2 HO HCL HO1 HN1
    refine HP1.out.mono ?_
    rintro e w3 ⟨rfl, hI3⟩
    by_cases hn : n = 65536
    · subst hn
      obtain ⟨qv, hQ, hR, hS⟩ := hI3
      have q0 := blk_cell hQ.1 0
      have HR := Lib.hid hR
      have HS := Lib.hid hS
      clear hQ hR hS
      go_wp2_with fail
      go_ret2
      rw [HF.out]
      have e7 := cpB_none at_
      refine ⟨_, rfl, ?_, HBW.out.trans (HS.out.to (by omega) (Nat.le_refl _))⟩
      unfold copyL
      rw [e7.1, e7.2]
      exact HR.out
    · have HP2 := Lib.hid (put_calls W w3 w2.heap.size (w2.heap.size + 1) w.heap.size p (cpB at_ n) n 4 3 hI3 (by omega) (by omega) (by omega) (by omega) (by omega) hm (by omega) (fun i hi => cpB_hi at_ n hn i hi))
      clear hI3
      go_wp2_with fail
      refine HP2.out.mono ?_
      rintro e w4 ⟨rfl, qv, hQ, hR, hS⟩
      have q0 := blk_cell hQ.1 0
      have HR := Lib.hid hR
      have HS := Lib.hid hS
      clear hQ hR hS
      go_wp2_with fail
      go_ret2
      rw [HF.out]
      exact ⟨_, rfl, HR.out, HBW.out.trans (HS.out.to (by omega) (Nat.le_refl _))⟩
end Go.Proofs.Ytiocipmnmjpkfaa
