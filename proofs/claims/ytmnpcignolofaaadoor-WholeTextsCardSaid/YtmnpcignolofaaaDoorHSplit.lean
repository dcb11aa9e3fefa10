/- bytes.SplitAfterSeq at a line feed, as an iterator. -/
import Derived.Test.YtmnpcignolofaaaDoorHSeq
import Derived.Test.YtmnpcignolofaaaDoorHIdx
import Derived.RangeFuncBox
import Derived.Shelf.RegionOpen
import Derived.OwnWalkIn
import Derived.TacticsInMore
import Derived.LoopNIn
import Derived.LoopIn
import Derived.Maps.AppendAt
namespace Go.Proofs.YtmnpcignolofaaaDoor
set_option linter.unusedVariables false
set_option linter.unusedSimpArgs false
open Go.RowKit Go.Shelf Go.Proofs.YtmnpcignolofaaaDoorW.PrintWords Go.Proofs.YtmnpcignolofaaaDoorW.PrintMore
attribute [local go_sem] Oper.semAt_some
/-- A piece of the text that lay in w0: its address and its bytes. -/
abbrev Pc (w0 : World) : Type := { x : Option Addr × List Int // ReadsInt w0 .u8 x.1 x.2.length x.2 }
def pcV {w0 : World} (x : Pc w0) : Array Value := #[.slice x.1.1 x.1.2.length x.1.2.length]
def pcL {w0 : World} (xs : List (Pc w0)) : List (List Int) := (xs.map fun x => x.1.2).filter fun l => !l.isEmpty
theorem pcL_snoc {w0 : World} (xs : List (Pc w0)) (x : Pc w0) : pcL (xs ++ [x]) = pcL xs ++ (if x.1.2 = [] then [] else [x.1.2]) := by
  unfold pcL
  rw [List.map_append, List.filter_append]
  congr 1
  by_cases h : x.1.2 = []
  · simp [h]
  · rw [if_neg h]
    cases hx : x.1.2 with
    | nil => exact absurd hx h
    | cons a b => simp [hx]
set_option maxHeartbeats 1000000 in
theorem split_in (n : Nat) (A : Option Addr) (L c sb : Nat) (w : World) :
    CallsIn Fence.wide n Tryd.prog 54 #[.slice A L c, .slice (some ⟨sb, 0, none⟩) 1 1, .int .i64 1] w fun e w' => e = .returned (.func (.func 74) #[] #[.pointer (some ⟨w.heap.size + 1, 0, none⟩), .pointer (some ⟨w.heap.size, 0, none⟩), .pointer (some ⟨w.heap.size + 1 + 1, 0, none⟩)]) ∧
      w' = ((w.alloc (.cells #[.slice A L c] 22)).alloc (.cells #[.slice (some ⟨sb, 0, none⟩) 1 1] 22)).alloc (.cells #[.int .i64 1] 3) := by
  refine callsIn_of_wp Tryd.func54 rfl trivial ?_ rfl
  simp only [Tryd.ntmps54, List.size_toArray, List.length_cons, List.length_nil, Nat.reduceAdd, Nat.reduceSub, Array.replicate_succ, Array.replicate_zero, List.push_toArray, List.append_toArray, List.nil_append, List.cons_append]
  gi_wp2
  go_ret
  exact ⟨rfl, rfl⟩
set_option maxHeartbeats 1000000 in
theorem splitAfter_in (n : Nat) (hn : 1 ≤ n) (A : Option Addr) (L c sb : Nat) (w : World) :
    CallsIn Fence.wide n Tryd.prog 31 #[.slice A L c, .slice (some ⟨sb, 0, none⟩) 1 1] w fun e w' => e = .returned (.func (.func 74) #[] #[.pointer (some ⟨w.heap.size + 1, 0, none⟩), .pointer (some ⟨w.heap.size, 0, none⟩), .pointer (some ⟨w.heap.size + 1 + 1, 0, none⟩)]) ∧
      w' = ((w.alloc (.cells #[.slice A L c] 22)).alloc (.cells #[.slice (some ⟨sb, 0, none⟩) 1 1] 22)).alloc (.cells #[.int .i64 1] 3) := by
  refine callsIn_of_wp Tryd.func31 rfl trivial ?_ rfl
  simp only [Tryd.ntmps31, List.size_toArray, List.length_cons, List.length_nil, Nat.reduceAdd, Nat.reduceSub, Array.replicate_succ, Array.replicate_zero, List.push_toArray, List.append_toArray, List.nil_append, List.cons_append]
  gi_wp2
  refine ⟨trivial, ?_⟩
  refine (split_in _ A L c sb w).mono ?_
  rintro e w' ⟨rfl, rfl⟩
  gi_wp2
  go_ret
  exact ⟨rfl, rfl⟩
/-- What a round keeps. -/
def Kb (n0 bs bp bn sb : Nat) (W W' : World) : Prop := Below n0 W W' ∧ W'.heap[bs]? = W.heap[bs]? ∧ W'.heap[bp]? = W.heap[bp]? ∧ W'.heap[bn]? = W.heap[bn]? ∧ W'.heap[sb]? = W.heap[sb]?
theorem Kb.trans {n0 bs bp bn sb : Nat} {A B C : World} (h : Kb n0 bs bp bn sb A B) (k : Kb n0 bs bp bn sb B C) : Kb n0 bs bp bn sb A C :=
  ⟨h.1.trans k.1, k.2.1.trans h.2.1, k.2.2.1.trans h.2.2.1, k.2.2.2.1.trans h.2.2.2.1, k.2.2.2.2.trans h.2.2.2.2⟩
/-- 'xs[:hi]'. -/
theorem cut_to {P : Program} (t e : TypeId) {i : TypeInfo} (ht : P.underlying t = some (.slice e)) (hi : P.info? e = some i) (hsz : i.size = 1) (A : Option Addr) (n c : Nat) (x : Int) (m : Nat) (hx : x = m) (h1 : m ≤ c) : ∀ W : World, (Instr.slice t (.slice A n c) none (some (.int .i64 x)) none).run P W = .ok (.slice A m c) W := by
  intro W
  subst hx
  have hel : P.elem t = e := by simp [Program.elem, ht]
  have hu : P.underlying t = some (.slice (P.elem t)) := by rw [hel]; exact ht
  have hsb : (Instr.sliceBounds true n c none (some (.int .i64 (m : Int))) none).run P W = .ok (0, m, c) W := by
    simp [Instr.sliceBounds, run_sliceBound_if, Result.andThen, h1, show (m : Int) ≤ (c : Int) from by omega]
  rw [run_slice_any W t A n c hu, hsb, hel]
  cases A with
  | none => simp [sizeOf, typeInfo, hi, hsz, sliced, Result.andThen]
  | some a => simp [sizeOf, typeInfo, hi, hsz, sliced, Result.andThen, Addr.add]
/-- 'xs[:hi:hi]'. -/
theorem cut_to3 {P : Program} (t e : TypeId) {i : TypeInfo} (ht : P.underlying t = some (.slice e)) (hi : P.info? e = some i) (hsz : i.size = 1) (A : Option Addr) (n c : Nat) (x : Int) (m : Nat) (hx : x = m) (h1 : m ≤ c) : ∀ W : World, (Instr.slice t (.slice A n c) none (some (.int .i64 x)) (some (.int .i64 x))).run P W = .ok (.slice A m m) W := by
  intro W
  subst hx
  have hel : P.elem t = e := by simp [Program.elem, ht]
  have hu : P.underlying t = some (.slice (P.elem t)) := by rw [hel]; exact ht
  have hsb : (Instr.sliceBounds true n c none (some (.int .i64 (m : Int))) (some (.int .i64 (m : Int)))).run P W = .ok (0, m, m) W := by
    simp [Instr.sliceBounds, run_sliceBound_if, Result.andThen, h1, show (m : Int) ≤ (c : Int) from by omega]
  rw [run_slice_any W t A n c hu, hsb, hel]
  cases A with
  | none => simp [sizeOf, typeInfo, hi, hsz, sliced, Result.andThen]
  | some a => simp [sizeOf, typeInfo, hi, hsz, sliced, Result.andThen, Addr.add]
/-- 'xs[lo:]'. -/
theorem cut_from {P : Program} (t e : TypeId) {i : TypeInfo} (ht : P.underlying t = some (.slice e)) (hi : P.info? e = some i) (hsz : i.size = 1) (A : Option Addr) (n c : Nat) (x : Int) (lo : Nat) (hx : x = lo) (h1 : lo ≤ n) (h2 : n ≤ c) : ∀ W : World, (Instr.slice t (.slice A n c) (some (.int .i64 x)) none none).run P W = .ok (.slice (if c = lo then A else A.map (·.add lo)) (n - lo) (c - lo)) W := by
  intro W
  subst hx
  have hel : P.elem t = e := by simp [Program.elem, ht]
  have hu : P.underlying t = some (.slice (P.elem t)) := by rw [hel]; exact ht
  have hsb : (Instr.sliceBounds true n c (some (.int .i64 (lo : Int))) none none).run P W = .ok (lo, n, c) W := by
    simp [Instr.sliceBounds, run_sliceBound_if, Result.andThen, h1, h2, show (lo : Int) ≤ (n : Int) from by omega]
  rw [run_slice_any W t A n c hu, hsb, hel]
  by_cases hc : c = lo
  · subst hc
    simp [sizeOf, typeInfo, hi, hsz, sliced, Result.andThen]
  · cases A with
    | none => simp [sizeOf, typeInfo, hi, hsz, sliced, Result.andThen, hc, show ¬ c - lo = 0 by omega]
    | some a => simp [sizeOf, typeInfo, hi, hsz, sliced, Result.andThen, hc, show ¬ c - lo = 0 by omega]
/-- Between two rounds of the iterator: r is the rest. -/
def SpI (w0 : World) (bs bp bn sb : Nat) (fr : Nat × Nat) (text : List Int) (J : List (Pc w0) → World → Prop) (B : Option Addr) (cm : Nat) (r : List Int) (wr : World) : Prop :=
  wr.heap[bs]? = some (.cells #[.slice B r.length cm] 22 (0, 0)) ∧ wr.heap[bp]? = some (.cells #[.slice (some ⟨sb, 0, none⟩) 1 1] 22 (0, 0)) ∧ wr.heap[bn]? = some (.cells #[.int .i64 1] 3 (0, 0)) ∧ wr.heap[sb]? = some (.cells #[.int .u8 10] 5 fr) ∧
    Below w0.heap.size w0 wr ∧ ReadsInt w0 .u8 B r.length r ∧ r.length ≤ cm ∧ r.length ≤ text.length ∧ (∀ x ∈ r, 0 ≤ x ∧ x < 256) ∧ ∃ pre, J pre wr ∧ pcL pre ++ linesF r = linesF text ∧ pre.length + r.length ≤ text.length
def restLen (bs : Nat) (W : World) : Nat := match W.cell? ⟨bs, 0, none⟩ with
  | some (Value.slice _ n _) => n
  | _ => 0
theorem restLen_of {bs n c : Nat} {W : World} {B : Option Addr} (h : W.cell? ⟨bs, 0, none⟩ = some (.slice B n c)) : restLen bs W = n := by simp [restLen, h]
theorem infoU8s : (Tryd.prog.info? 5).map (fun i => (i.zero, i.size, i.bytes)) = some (some (.int .u8 0), 1, 1) := by kernel_rfl
set_option maxRecDepth 100000 in
set_option maxHeartbeats 4000000 in
theorem split_seq (n : Nat) (hn : 1 ≤ n) (w0 w : World) (A : Option Addr) (c : Nat) (text : List Int) (ht : ReadsInt w0 .u8 A text.length text) (hc : text.length ≤ c) (hby : ∀ x ∈ text, 0 ≤ x ∧ x < 256) (hm : text.length ≤ 1099511627776) (bs bp bn sb : Nat) (hw : Below w0.heap.size w0 w) (hn0 : w0.heap.size ≤ bs)
    (h1 : w.heap[bs]? = some (.cells #[.slice A text.length c] 22 (0, 0))) (h2 : w.heap[bp]? = some (.cells #[.slice (some ⟨sb, 0, none⟩) 1 1] 22 (0, 0))) (h3 : w.heap[bn]? = some (.cells #[.int .i64 1] 3 (0, 0))) {fr : Nat × Nat} (h4 : w.heap[sb]? = some (.cells #[.int .u8 10] 5 fr))
    (hne : bp ≠ bs ∧ bn ≠ bs ∧ sb ≠ bs) :
    SeqBox Fence.wide n Tryd.prog 74 #[.pointer (some ⟨bp, 0, none⟩), .pointer (some ⟨bs, 0, none⟩), .pointer (some ⟨bn, 0, none⟩)] (pcV (w0 := w0)) (Kb w0.heap.size bs bp bn sb) bs (fun xs => pcL xs = linesF text) (text.length + 1) w := by
  intro l J W hW hJs hY h0
  have k1 := (hW.block bs (blk_lt h1)).trans h1
  have k2 := (hW.block bp (blk_lt h2)).trans h2
  have k3 := (hW.block bn (blk_lt h3)).trans h3
  have k4 := (hW.block sb (blk_lt h4)).trans h4
  have hS0 := Lib.hid (show SpI w0 bs bp bn sb fr text J A c text W from ⟨k1, k2, k3, k4, hw.trans (hW.mono hw.size), ht, hc, Nat.le_refl _, hby, [], h0, rfl, by simp⟩)
  have c1 := blk_cell k1 0
  have c2 := blk_cell k2 0
  have HY := Lib.hid hY
  have HJ := Lib.hid hJs
  have HNE := Lib.hid hne
  clear k1 k2 k3 k4 h1 h2 h3 h4 hY hJs ht hc hby hw hW h0 hne
  refine callsIn_of_wp Tryd.func74 rfl trivial ?_ rfl
  simp only [Tryd.ntmps74, List.size_toArray, List.length_cons, List.length_nil, Nat.reduceAdd, Nat.reduceSub, Array.replicate_succ, Array.replicate_zero, List.push_toArray, List.append_toArray, List.nil_append, List.cons_append]
  gi_wp2
  gi_loopw [] (fun wr => ∃ B cm r, Hid (SpI w0 bs bp bn sb fr text J B cm r wr)) (fun wr => restLen bs wr)
  case atStart => exact ⟨A, c, text, hS0⟩
  case round =>
    clear hS0 c1 c2
    obtain ⟨B, cm, r, HS⟩ := hrel
    obtain ⟨k1, k2, k3, k4, hb, hr, hrc, hrl, hrb, pre, hJ, hpre, hpn⟩ := HS.out
    have c1 : wr.cell? ⟨bs, 0, none⟩ = some (.slice B r.length cm) := blk_cell k1 0
    have c2 : wr.cell? ⟨bp, 0, none⟩ = some (.slice (some ⟨sb, 0, none⟩) 1 1) := blk_cell k2 0
    have c3 : wr.cell? ⟨bn, 0, none⟩ = some (.int .i64 1) := blk_cell k3 0
    have HIX := Lib.hid (index_calls wr B cm sb r (hr.below hb) (cell_of_row wr sb 0 _ _ fr k4))
    obtain ⟨i0, hi0, _, hsz0, _⟩ := info_parts infoU8s
    gi_wp2
    refine ⟨trivial, ?_⟩
    refine (callsIn_wide.2 HIX.out).mono ?_
    rintro e w' ⟨rfl, rfl⟩
    rcases idxF_cases r hrb with ⟨hx, hno⟩ | ⟨p, s, hps, hx, hno⟩
    · rw [hx]
      have hcut := cut_to3 (P := Tryd.prog) 22 5 Tryd.underlying22 hi0 hsz0 B r.length cm (r.length : Int) r.length rfl hrc
      obtain ⟨fn, tmps, assign, body, hy, hR⟩ := HY.out pre ⟨(B, r), hr⟩ w' hJ (by omega)
      dsimp only [pcV] at hy
      have HR := Lib.hid hR
      have HPRE := Lib.hid (show pcL (pre ++ [⟨(B, r), hr⟩]) = linesF text by
        rw [pcL_snoc, ← hpre, linesF, lnA_none r [] hno, List.nil_append])
      clear hR
      gi_wp2
      refine HR.out.mono ?_
      rintro e W3 ⟨rfl, hJ3, hk3⟩
      gi_wp2
      go_end0
      exact ⟨⟨_, rfl⟩, _, HPRE.out, hJ3⟩
    · rw [hx]
      have hpl : p.length + 1 ≤ r.length := by rw [hps]; simp
      have hfr : (p ++ [10]).length = p.length + 1 := by simp
      have hps2 : r = (p ++ [10]) ++ s := by rw [hps]; simp
      have htk : r.take (p.length + 1) = p ++ [10] := by rw [hps2, ← hfr, List.take_left]
      have hdr : r.drop (p.length + 1) = s := by rw [hps2, ← hfr, List.drop_left]
      have hrl2 : r.length ≤ 1099511627776 := by omega
      have hcutA := cut_to (P := Tryd.prog) 22 5 Tryd.underlying22 hi0 hsz0 B r.length cm ((p.length : Int) + 1) (p.length + 1) (by omega) (by omega)
      have hcutB := cut_to3 (P := Tryd.prog) 22 5 Tryd.underlying22 hi0 hsz0 B (p.length + 1) cm (((p.length + 1 : Nat) : Int)) (p.length + 1) rfl (by omega)
      have hcutC := cut_from (P := Tryd.prog) 22 5 Tryd.underlying22 hi0 hsz0 B r.length cm ((p.length : Int) + 1) (p.length + 1) (by omega) hpl hrc
      have hrA : ReadsInt w0 .u8 B (p ++ [10]).length (p ++ [10]) := by
        have h := hr.take_ (p.length + 1) hpl
        rwa [htk, ← hfr] at h
      have hrB : ReadsInt w0 .u8 (if cm = p.length + 1 then B else B.map (·.add (p.length + 1))) s.length s := by
        have h := hr.drop_ (p.length + 1) hpl hrc
        rw [hdr] at h
        rwa [show r.length - (p.length + 1) = s.length by rw [← hdr, List.length_drop]] at h
      have hpI : (p.length : Int) < (r.length : Int) := by omega
      have hp0 : (0 : Int) ≤ (p.length : Int) := by omega
      have hpb : (p.length : Int) ≤ 1099511627776 := by omega
      obtain ⟨x, hxv⟩ : ∃ x : Pc w0, x.1 = (B, p ++ [10]) := ⟨⟨_, hrA⟩, rfl⟩
      obtain ⟨fn, tmps, assign, body, hy, hR⟩ := HY.out pre x w' hJ (by omega)
      dsimp only [pcV] at hy
      rw [hxv] at hy
      dsimp only at hy
      rw [hfr] at hy
      have HR := Lib.hid hR
      have HPRE := Lib.hid (show pcL (pre ++ [x]) ++ linesF s = linesF text by
        rw [pcL_snoc, hxv, if_neg (by simp), ← hpre, hps, linesF, linesF, lnA_some p [] s hno, List.append_assoc]
        rfl)
      have HSL := Lib.hid (show s.length = r.length - (p.length + 1) ∧ s.length ≤ cm - (p.length + 1) ∧ ∀ x ∈ s, 0 ≤ x ∧ x < 256 from ⟨by rw [← hdr, List.length_drop], by rw [← hdr, List.length_drop]; omega, fun x hx => hrb x (by rw [hps]; simp [hx])⟩)
      have HRB := Lib.hid hrB
      have HBLK := Lib.hid (And.intro k1 (And.intro k2 (And.intro k3 (And.intro k4 hb))))
      have hrlt : r.length ≤ text.length := hrl
      clear hR hps hps2 hdr htk hfr hrA hrB hxv k1 k2 k3 k4 hb
      gi_wp2
      refine HR.out.mono ?_
      rintro e W3 ⟨rfl, hJ3, hk3⟩
      have HK3 := Lib.hid hk3
      have HJ3 := Lib.hid hJ3
      have m1 := hk3.2.1.trans HBLK.out.1
      have m2 := hk3.2.2.1.trans HBLK.out.2.1
      have m3 := hk3.2.2.2.1.trans HBLK.out.2.2.1
      have d1 : W3.cell? ⟨bs, 0, none⟩ = some (.slice B r.length cm) := blk_cell m1 0
      have d2 : W3.cell? ⟨bp, 0, none⟩ = some (.slice (some ⟨sb, 0, none⟩) 1 1) := blk_cell m2 0
      have d3 : W3.cell? ⟨bn, 0, none⟩ = some (.int .i64 1) := blk_cell m3 0
      have df := blk_frozen m1 0
      have HM := Lib.hid (And.intro m1 (And.intro m2 (And.intro m3 (hk3.2.2.2.2.trans HBLK.out.2.2.2.1))))
      clear hJ3 hk3 m1 m2 m3 c1 c2 c3 hy hJ
      gi_wp2
      have hmap : Option.map (fun x : Addr => x.add (p.length + 1)) B = Option.map (fun x : Addr => ({ block := x.block, off := x.off + (p.length + 1) } : Addr)) B := rfl
      have hrb := HRB.out
      rw [hmap] at hrb
      have hsl := HSL.out
      have hmm := HM.out
      have hset := blk_set hmm.1 0 (.slice (if cm = p.length + 1 then B else Option.map (fun x : Addr => ({ block := x.block, off := x.off + (p.length + 1) } : Addr)) B) (r.length - (p.length + 1)) (cm - (p.length + 1)))
      have hcell := blk_cell hset 0
      refine ⟨⟨if cm = p.length + 1 then B else Option.map (fun x : Addr => ({ block := x.block, off := x.off + (p.length + 1) } : Addr)) B, cm - (p.length + 1), s, Lib.hid ⟨?_, ?_, ?_, ?_, ?_, hrb, hsl.2.1, by omega, hsl.2.2, pre ++ [x], ?_, HPRE.out, by rw [List.length_append, List.length_singleton]; omega⟩⟩, ?_⟩
      · rw [hsl.1]; exact hset
      · exact (Below.heap_setCell _ _ _ _ HNE.out.1).trans hmm.2.1
      · exact (Below.heap_setCell _ _ _ _ HNE.out.2.1).trans hmm.2.2.1
      · exact (Below.heap_setCell _ _ _ _ HNE.out.2.2).trans hmm.2.2.2
      · exact (HBLK.out.2.2.2.2.trans HK3.out.1).setCell (p := ⟨bs, 0, none⟩) hn0 _
      · exact HJ.out _ _ _ HJ3.out (by simp [World.setCell]) (fun k _ hk => Below.heap_setCell _ _ _ _ hk) rfl rfl rfl
      · rw [restLen_of hcell, restLen_of (blk_cell HBLK.out.1 0)]
        omega
end Go.Proofs.YtmnpcignolofaaaDoor
