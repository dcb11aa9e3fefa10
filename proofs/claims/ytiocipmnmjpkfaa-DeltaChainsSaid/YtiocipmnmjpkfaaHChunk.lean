/- slices.Chunk at []byte, as an iterator: its rounds; a region that draws, within a round. -/
import Derived.RangeFuncNested
import Derived.RangeFuncBound
import Derived.RangeFuncCalls
import Derived.RangeFuncLeaves
import Derived.Shelf.Abstract
import Derived.Shelf.RegionOpen
import Derived.OrdersHeld
import Derived.Deep.RegionHeld
import Derived.WalkKit
import Derived.OwnWalkIn
import Derived.TacticsInMore
import Derived.LoopNIn
import Derived.LoopIn
import Derived.Test.YtiocipmnmjpkfaaHTake
namespace Go.Proofs.Ytiocipmnmjpkfaa
set_option linter.unusedVariables false
set_option linter.unusedSimpArgs false
open Go.RowKit Go.Shelf Go.Proofs.YtiocipmnmjpkfaaW.PrintWords Go.Proofs.YtiocipmnmjpkfaaW.PrintMore
attribute [local go_sem] Oper.semAt_some

/-- 'xs[lo:hi:hi]'. -/
theorem cut_three {P : Program} (t e : TypeId) {i : TypeInfo} (ht : P.underlying t = some (.slice e)) (hi : P.info? e = some i) (hsz : i.size = 1) (A : Option Addr) (n c : Nat) (x y : Int) (lo m : Nat) (hx : x = lo) (hy : y = lo + m) (hm : 0 < m) (h1 : lo + m ≤ c) :
    ∀ W : World, (Instr.slice t (.slice A n c) (some (.int .i64 x)) (some (.int .i64 y)) (some (.int .i64 y))).run P W = .ok (.slice (A.map (·.add lo)) m m) W := by
  intro W
  subst hx hy
  have hel : P.elem t = e := by simp [Program.elem, ht]
  have hu : P.underlying t = some (.slice (P.elem t)) := by rw [hel]; exact ht
  have hsb : (Instr.sliceBounds true n c (some (.int .i64 (lo : Int))) (some (.int .i64 ((lo : Int) + m))) (some (.int .i64 ((lo : Int) + m)))).run P W = .ok (lo, lo + m, lo + m) W := by
    have e1 : ((lo : Int) + (m : Int)).toNat = lo + m := by omega
    simp [Instr.sliceBounds, run_sliceBound_if, Result.andThen, e1, h1, show (lo : Int) ≤ (lo : Int) + m from by omega, show (0 : Int) ≤ (lo : Int) + m from by omega, show (lo : Int) + m ≤ c from by omega, show ((lo + m : Nat) : Int) = (lo : Int) + m from by simp]
  rw [run_slice_any W t A n c hu, hsb, hel]
  simp [sizeOf, typeInfo, hi, hsz, sliced, Result.andThen, show ¬ m = 0 from by omega]
/-- A chunk's number. -/
abbrev Ck (L : Nat) : Type := { k : Nat // 127 * k < L }
def ckLen (L k : Nat) : Nat := min 127 (L - 127 * k)
/-- What the iterator keeps: its two boxes. -/
def KBox (bs bn : Nat) (W W' : World) : Prop := W'.heap[bs]? = W.heap[bs]? ∧ W'.heap[bn]? = W.heap[bn]?
theorem KBox.refl (bs bn : Nat) (W : World) : KBox bs bn W W := ⟨rfl, rfl⟩
theorem KBox.trans {bs bn : Nat} {A B C : World} (h : KBox bs bn A B) (k : KBox bs bn B C) : KBox bs bn A C := ⟨k.1.trans h.1, k.2.trans h.2⟩
def ckVal (A : Option Addr) (L : Nat) (x : Ck L) : Array Value := #[.slice (A.map (·.add (127 * x.1))) (ckLen L x.1) (ckLen L x.1)]
set_option maxRecDepth 100000 in
set_option maxHeartbeats 2000000 in
theorem chunk1_in (n : Nat) (hn : 1 ≤ n) (l bs bn L c : Nat) (A : Option Addr) (hLc : L ≤ c) (hm : L ≤ 1099511627776) (J Jx : List (Ck L) → World → Prop)
    (hY : ∀ pre x W, J pre W → pre.length < L → YieldAt Fence.wide (n - 1) Try.prog l (ckVal A L x) W fun e W' =>
      (e = .returned (.bool true) ∧ J (pre ++ [x]) W' ∧ KBox bs bn W W') ∨ (e = .returned (.bool false) ∧ Jx (pre ++ [x]) W'))
    (W : World) (hs : W.cell? ⟨bs, 0, none⟩ = some (.slice A L c)) (hc : W.cell? ⟨bn, 0, none⟩ = some (.int .i64 127)) (h0 : J [] W) (hJd : ∀ pre W m, J pre W → J pre (W.drewN m)) :
    CallsIn Fence.wide n Try.prog 68 #[.func (.yield l) #[] #[], .pointer (some ⟨bs, 0, none⟩), .pointer (some ⟨bn, 0, none⟩)] W fun e W' => (∃ v, e = .returned v) ∧
      ((∃ ys : List (Ck L), ys.map Subtype.val = List.range ((L + 126) / 127) ∧ J ys W') ∨ (∃ pre, Jx pre W')) := by
  refine callsIn_of_wp Try.func68 rfl trivial ?_ rfl
  simp only [Try.ntmps68, List.size_toArray, List.length_cons, List.length_nil, Nat.reduceAdd, Nat.reduceSub, Array.replicate_succ, Array.replicate_zero, List.push_toArray, List.append_toArray, List.nil_append, List.cons_append]
  gi_wp2
  gi_loopw [4] (fun i wr => ∃ (k : Nat) (pre : List (Ck L)), pre.map Subtype.val = List.range k ∧ k ≤ (L + 126) / 127 ∧ i = .int .i64 ((127 * k : Nat) : Int) ∧ J pre wr ∧ KBox bs bn W wr)
    (fun i _ => L + 127 - (intOf i).toNat)
  case atStart => exact ⟨0, [], rfl, Nat.zero_le _, rfl, h0, KBox.refl _ _ _⟩
  case round =>
    obtain ⟨k, pre, hpre, hk, rfl, hJs, hK⟩ := hrel
    have hs' : wr.cell? ⟨bs, 0, none⟩ = some (.slice A L c) := (World.cell?_of_block hK.1).trans hs
    have hc' : wr.cell? ⟨bn, 0, none⟩ = some (.int .i64 127) := (World.cell?_of_block hK.2).trans hc
    have hlen : pre.length = k := by
      have := congrArg List.length hpre
      rw [List.length_map, List.length_range] at this
      exact this
    obtain ⟨i0, hi0, _, hsz0, _⟩ := info_parts infoU8
    by_cases hlt : 127 * k < L
    · obtain ⟨A1, hcut, _⟩ := cut_endk .i64 22 5 Try.underlying22 hi0 hsz0 A L c ((127 * k : Nat) : Int) (127 * k) rfl (by omega) hLc
      have hm0 : 0 < ckLen L k := by unfold ckLen; omega
      have hmn : (if ((L - 127 * k : Nat) : Int) < 127 then ((L - 127 * k : Nat) : Int) else 127) = ckLen L k := by unfold ckLen; split <;> omega
      have hmL : 127 * k + ckLen L k ≤ L := by unfold ckLen; omega
      have hcut3 := cut_three (P := Try.prog) 22 5 Try.underlying22 hi0 hsz0 A L c (127 * (k : Int)) (127 * (k : Int) + ckLen L k) (127 * k) (ckLen L k) (by omega) (by omega) hm0 (by unfold ckLen; omega)
      gi_wp2
      refine wpIn_wide.2 ?_
      go_quiet (fail)
      obtain ⟨fn, tmps, assign, body, hy, hR⟩ := hY pre ⟨k, hlt⟩ (wr.drewN nq) (hJd _ _ _ hJs) (by omega)
      dsimp only [ckVal] at hy
      have hs2 : (wr.drewN nq).cell? ⟨bs, 0, none⟩ = some (.slice A L c) := hs'
      have hK2 : KBox bs bn W (wr.drewN nq) := hK
      clear hcut hmn
      generalize wr.drewN nq = wq at *
      generalize ckLen L k = m at *
      have hw64 : wrap64 (127 * (k : Int) + m) = 127 * (k : Int) + m := by simp [wrap64]; omega
      gi_wp2
      refine hR.mono ?_
      rintro e W3 (⟨rfl, hJ3, hk3⟩ | ⟨rfl, hJx3⟩)
      · have hc3 : W3.cell? ⟨bn, 0, none⟩ = some (.int .i64 127) := (World.cell?_of_block (hK2.trans hk3).2).trans hc
        gi_wp2
        go_roundw
        case rel => exact ⟨k + 1, pre ++ [⟨k, hlt⟩], by rw [List.map_append, hpre, List.range_succ]; rfl, by omega, by congr 1, hJ3, hK2.trans hk3⟩
        case measure => simp [intOf]; omega
      · gi_wp2
        refine bodyPost_ret (results_none rfl _ _ _) rfl ?_
        exact ⟨⟨_, rfl⟩, .inr ⟨_, hJx3⟩⟩
    · obtain rfl : k = (L + 126) / 127 := by omega
      gi_wp2
      go_end0
      exact ⟨⟨_, rfl⟩, .inl ⟨pre, hpre, hJs⟩⟩
theorem chunk_stops (n : Nat) (hn : 1 ≤ n) (bs bn L c : Nat) (A : Option Addr) (hLc : L ≤ c) (hm : L ≤ 1099511627776) (w : World) (hbs : bs < w.heap.size) (hbn : bn < w.heap.size)
    (hs : w.cell? ⟨bs, 0, none⟩ = some (.slice A L c)) (hc : w.cell? ⟨bn, 0, none⟩ = some (.int .i64 127)) :
    SeqStopsK Fence.wide n Try.prog 68 #[.pointer (some ⟨bs, 0, none⟩), .pointer (some ⟨bn, 0, none⟩)] (ckVal A L) (KBox bs bn) (fun ys => ys.map Subtype.val = List.range ((L + 126) / 127)) (fun _ => True) L w := fun l J Jx W hW hJ _ hY h0 =>
  (chunk1_in n hn l bs bn L c A hLc hm J Jx hY W ((hW.cell (p := ⟨bs, 0, none⟩) hbs).trans hs) ((hW.cell (p := ⟨bn, 0, none⟩) hbn).trans hc) h0 (fun pre W1 m h => hJ pre W1 _ none h ⟨rfl, rfl, rfl, Nat.le_refl _, fun _ _ _ => rfl⟩ (by simp))).mono
    fun e W' ⟨he, hx⟩ => ⟨he, hx.elim (fun ⟨ys, h1, h2⟩ => .inl ⟨ys, h1, h2⟩) (fun ⟨pre, h⟩ => .inr ⟨pre, trivial, h⟩)⟩
set_option maxHeartbeats 1000000 in
/-- slices.Chunk(s, 127): both are boxed. -/
theorem chunk_in (n : Nat) (A : Option Addr) (L c : Nat) (w : World) :
    CallsIn Fence.wide n Try.prog 66 #[.slice A L c, .int .i64 127] w fun e w' => e = .returned (.func (.func 68) #[] #[.pointer (some ⟨w.heap.size, 0, none⟩), .pointer (some ⟨w.heap.size + 1, 0, none⟩)]) ∧
      w' = (w.alloc (.cells #[.slice A L c] 22)).alloc (.cells #[.int .i64 127] 3) := by
  refine callsIn_of_wp Try.func66 rfl trivial ?_ rfl
  simp only [Try.ntmps66, List.size_toArray, List.length_cons, List.length_nil, Nat.reduceAdd, Nat.reduceSub, Array.replicate_succ, Array.replicate_zero, List.push_toArray, List.append_toArray, List.nil_append, List.cons_append]
  gi_wp2
  go_ret
  exact ⟨rfl, rfl⟩
/-! ### A region that draws, within a round -/
theorem wpOp_round {P : Program} {ops : Array Oper} {Q : Exit → Act → World → Prop} (hQ : ∀ a w, ¬ Q .outgrown a w) (hd : ∀ o ∈ ops, ∀ c, o.op ≠ .defer c) {l n i : Nat} {K K' : Act → World → Prop} (hK : ∀ a w, K a w → K' a w) {a : Act} {w : World} (h : wpOp P ops Q i K a w) :
    wpOpIn (Fence.wide.inRound l) n P ops Q i K' a w := by
  unfold wpOp at h
  unfold wpOpIn
  cases ho : ops[i]? with
  | none => rw [ho] at h; exact hK _ _ h
  | some o =>
    rw [ho] at h
    dsimp only at h ⊢
    split
    · rename_i hw
      rw [if_pos hw] at h
      rcases h with h | ⟨_, a', w', h⟩
      · have hmem : o ∈ ops := Array.mem_of_getElem? ho
        refine ⟨fun _ _ => trivial, ?_⟩
        rw [Oper.semAt_eq _ _ _ (hd o hmem)]
        unfold Oper.wp at h
        generalize (execOp a.eval o).run P w = r at *
        cases r with
        | ok x w' =>
          cases x with
          | value v => exact hK _ _ h
          | skip => exact hK _ _ h
          | defer d => exact hK _ _ h
          | enter f args =>
            refine ⟨fun hs => absurd hs (by simp [Fence.wide, Fence.inRound]), CallsIn.inRound l (callsIn_wide.2 (Calls.mono h fun e w'' he => ?_))⟩
            cases e with
            | returned v => exact hK _ _ he
            | panicked c => exact he
            | outgrown => exact he
          | row row args =>
            refine ⟨fun hs => absurd hs (by simp [Fence.wide, Fence.inRound]), fun c cs _ => ?_⟩
            obtain ⟨v, w'', hr, hs⟩ := h c cs
            exact ⟨v, w'', hK _ _ hr, stepsIn_wide.2 hs⟩
          | _ => exact (h : False).elim
        | halt x w' =>
          cases x with
          | panic v => exact h
          | _ => exact (h : False).elim
      · exact absurd h (hQ a' w')
    · rename_i hw
      rw [if_neg hw] at h
      exact ⟨fun _ _ => trivial, hK _ _ h⟩
theorem region_round {P : Program} {ops : Array Oper} {Q : Exit → Act → World → Prop} (hm : P.follows .mixedOrders = true) (hQ : ∀ a w, ¬ Q .outgrown a w) (hd : ∀ o ∈ ops, ∀ c, o.op ≠ .defer c) {l n id : Nat} {a : Act} {w : World}
    (h : wpAny P .any ops Q ops.size (Array.replicate ops.size false) a w.drew) : (Code.region id ops true).wpIn (Fence.wide.inRound l) n P Q a w := by
  refine wpIn_region_any hm ?_
  have key : ∀ (fuel : Nat) (listed : Array Bool) (a : Act) (w : World), wpAny P .any ops Q fuel listed a w → wpAnyIn (Fence.wide.inRound l) n P .any ops Q fuel listed a w := by
    intro fuel
    induction fuel with
    | zero => intro listed a w h; exact h
    | succ fuel ih =>
      intro listed a w h
      exact ⟨h.1, fun i hi => wpOp_round hQ hd (fun a w hk => ih _ a w hk) (h.2 i hi)⟩
  exact key _ _ _ _ h
end Go.Proofs.Ytiocipmnmjpkfaa
