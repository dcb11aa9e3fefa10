/- A region that draws and ends in calls and stores, within a round of a range over an iterator. -/
import Derived.Test.YtmnpcignolofaaaHSeqO
import Derived.OrdersIn
import Derived.StillTailTactics
namespace Go.Proofs.Ytmnpcignolofaaa
set_option linter.unusedVariables false
set_option linter.unusedSimpArgs false
open Go.RowKit
/-! ### A region that draws, within a round -/
theorem wpOp_round {P : Program} {ops : Array Oper} {Q : Exit → Act → World → Prop} (hQ : ∀ a w, ¬ Q .outgrown a w) (hd : ∀ o ∈ ops, ∀ c, o.op ≠ .defer c) {l n i : Nat} {K K' : Act → World → Prop} (hK : ∀ a w, K a w → K' a w) {a : Act} {w : World} (h : wpOp P ops Q i K a w) :
    wpOpIn (Fence.wide.inRound l) n P ops Q i K' a w := by
  unfold wpOp at h
  unfold wpOpIn
  cases ho : ops[i]? with
  | none => rw [ho] at h; exact hK _ _ h
  | some o =>
    rw [ho] at h
    dsimp only at h ⊢
    split
    · rename_i hw
      rw [if_pos hw] at h
      rcases h with h | ⟨_, a', w', h⟩
      · have hmem : o ∈ ops := Array.mem_of_getElem? ho
        refine ⟨fun _ _ => trivial, ?_⟩
        rw [Oper.semAt_eq _ _ _ (hd o hmem)]
        unfold Oper.wp at h
        generalize (execOp a.eval o).run P w = r at *
        cases r with
        | ok x w' =>
          cases x with
          | value v => exact hK _ _ h
          | skip => exact hK _ _ h
          | defer d => exact hK _ _ h
          | enter f args =>
            refine ⟨fun hs => absurd hs (by simp [Fence.wide, Fence.inRound]), CallsIn.inRound l (callsIn_wide.2 (Calls.mono h fun e w'' he => ?_))⟩
            cases e with
            | returned v => exact hK _ _ he
            | panicked c => exact he
            | outgrown => exact he
          | row row args =>
            refine ⟨fun hs => absurd hs (by simp [Fence.wide, Fence.inRound]), fun c cs _ => ?_⟩
            obtain ⟨v, w'', hr, hs⟩ := h c cs
            exact ⟨v, w'', hK _ _ hr, stepsIn_wide.2 hs⟩
          | _ => exact (h : False).elim
        | halt x w' =>
          cases x with
          | panic v => exact h
          | _ => exact (h : False).elim
      · exact absurd h (hQ a' w')
    · rename_i hw
      rw [if_neg hw] at h
      exact ⟨fun _ _ => trivial, hK _ _ h⟩
theorem region_round {P : Program} {ops : Array Oper} {Q : Exit → Act → World → Prop} (hm : P.follows .mixedOrders = true) (hQ : ∀ a w, ¬ Q .outgrown a w) (hd : ∀ o ∈ ops, ∀ c, o.op ≠ .defer c) {l n id : Nat} {a : Act} {w : World}
    (h : wpAny P .any ops Q ops.size (Array.replicate ops.size false) a w.drew) : (Code.region id ops true).wpIn (Fence.wide.inRound l) n P Q a w := by
  refine wpIn_region_any hm ?_
  have key : ∀ (fuel : Nat) (listed : Array Bool) (a : Act) (w : World), wpAny P .any ops Q fuel listed a w → wpAnyIn (Fence.wide.inRound l) n P .any ops Q fuel listed a w := by
    intro fuel
    induction fuel with
    | zero => intro listed a w h; exact h
    | succ fuel ih =>
      intro listed a w h
      exact ⟨h.1, fun i hi => wpOp_round hQ hd (fun a w hk => ih _ a w hk) (h.2 i hi)⟩
  exact key _ _ _ _ h
def notDefer (o : Oper) : Bool := match o.op with
  | .defer _ => false
  | _ => true
theorem notDefer_all {ops : Array Oper} (h : ops.all notDefer = true) : ∀ o ∈ ops, ∀ c, o.op ≠ .defer c := by
  intro o ho c hc
  have := Array.all_eq_true_iff_forall_mem.1 h o ho
  simp [notDefer, hc] at this
theorem round_still_tail {P : Program} {id q m : Nat} {Q : Exit → Act → World → Prop} {a : Act} {w : World} {l : List Oper} (n : Nat) (hm : P.follows .mixedOrders = true) (hB : Region.lexTailB .any l.toArray n = true) (hQ : ∀ a w, ¬ Q .outgrown a w) (hd : ∀ o ∈ l.toArray, ∀ c, o.op ≠ .defer c)
    (h : wpStill P l.toArray { w with drawn := w.drawn + 1 } (fun a' => wpList P l.toArray Q (l.drop n) a' { w with drawn := w.drawn + 1 }) (l.take n) a) : (Code.region id l.toArray true).wpIn (Fence.wide.inRound q) m P Q a w := by
  simp only [Region.lexTailB, Bool.and_eq_true, decide_eq_true_eq] at hB
  obtain ⟨⟨⟨⟨hsel, hn⟩, hs⟩, hc⟩, hlex⟩ := hB
  have hn' : n < l.length := by simpa using hn
  have htl : (l.take n).length = n := by rw [List.length_take]; omega
  have hdl : (l.drop n).length = l.toArray.size - n := by simp
  have inv0 : HeadInv .any l.toArray n (Array.replicate l.toArray.size false) :=
    ⟨by simp, fun j oj _ hl => (by rw [getD_replicate_false] at hl; cases hl), fun t _ ht => getD_in (by simpa using ht) (getD_replicate_false _ _)⟩
  have H := wpAnyL_lex (md := .any) (g := l.toArray.size - n) hsel hs hc hn (l.take n) 0 _ a (fun j hj => by
    have hj' : j < n := by rw [htl] at hj; exact hj
    simp [hj']) (by simpa using htl) inv0 (by rw [htl]; exact hlex) h
  refine region_round hm hQ hd ?_
  have h2 := wpAny_of_head (Q' := Q) (g := l.toArray.size - n) (fun listed a' hL => by
    have h3 := wpAny_of_seq (md := .any) (Q' := Q) (l.drop n) n listed a' { w with drawn := w.drawn + 1 } (fun j => by simp [List.getElem?_drop]) (by rw [hdl]; exact hL.1) hL.2
    rwa [hdl] at h3) _ _ _ H
  rw [htl, show n + (l.toArray.size - n) = l.toArray.size by omega] at h2
  exact h2
end Go.Proofs.Ytmnpcignolofaaa
