/- A range over an iterator that writes a box of its own between two rounds; the body never leaves the loop. -/
import Derived.RangeFuncNested
import Derived.RangeFuncBound
import Derived.RangeFuncCalls
import Derived.RangeFuncLeaves
import Derived.Shelf.Abstract
import Derived.WalkKit
import Derived.Test.YtmnpcignolofaaaDoorProg
namespace Go.Proofs.YtmnpcignolofaaaDoor
set_option linter.unusedVariables false
set_option linter.unusedSimpArgs false
open Go.RowKit
/-- An iterator that stores into its box Bx: whatever the caller says must bear such a store. -/
def SeqBox {α : Type} (F : Fence) (n : Nat) (P : Program) (g : Nat) (lb : Array Value) (encs : α → Array Value) (Kp : World → World → Prop) (Bx : Nat) (S : List α → Prop) (N : Nat) (w : World) : Prop :=
  ∀ (l : Nat) (J : List α → World → Prop) (W : World), Below w.heap.size w W → (∀ s A B, J s A → A.heap.size ≤ B.heap.size → (∀ k, k < A.heap.size → k ≠ Bx → B.heap[k]? = A.heap[k]?) → B.os = A.os → B.tape = A.tape → B.output = A.output → J s B) →
    (∀ pre x W1, J pre W1 → pre.length < N → YieldAt F (n - 1) P l (encs x) W1 fun e W' => e = .returned (.bool true) ∧ J (pre ++ [x]) W' ∧ Kp W1 W') →
    J [] W → CallsIn F n P g (#[.func (.yield l) #[] #[]] ++ lb) W fun e W' => (∃ v, e = .returned v) ∧ ∃ xs, S xs ∧ J xs W'
/-- What the caller's word must bear: whatever is laid or turned beyond B and is no cells, and a store into the box. -/
def Bears {α : Type} (B Bx : Nat) (I : List α → World → Prop) : Prop :=
  ∀ s A C, I s A → A.heap.size ≤ C.heap.size → (∀ k, k < A.heap.size → k ≠ Bx → (k < B ∨ ∃ o : Obj, A.heap[k]? = some o ∧ o.isCells = true) → C.heap[k]? = A.heap[k]?) → C.os = A.os → C.tape = A.tape → C.output = A.output → I s C
theorem Bears.put {α : Type} {B Bx : Nat} {I : List α → World → Prop} (h : Bears B Bx I) {s : List α} {W : World} {l : Nat} {o o' : Obj} (hs : I s W) (hB : B ≤ l) (hl : W.heap[l]? = some o) (ho : o.isCells = false) : I s (W.putObj l o') := by
  have hg := grownBy_putObj' W l o'
  refine h s W _ hs hg.size (fun k hk _ hc => hg.block k hk fun e => ?_) hg.os hg.tape hg.output
  cases e
  rcases hc with hc | ⟨o2, h2, h3⟩
  · omega
  · rw [hl] at h2
    cases h2
    rw [ho] at h3
    cases h3
theorem Bears.lay {α : Type} {B Bx : Nat} {I : List α → World → Prop} (h : Bears B Bx I) {s : List α} {W : World} (o : Obj) (hs : I s W) : I s (W.alloc o) :=
  h s W _ hs (by simp) (fun k hk _ _ => Below.heap_alloc W o k hk) rfl rfl rfl
theorem wpIn_rangeFunc_box {α : Type} {F : Fence} {n : Nat} {P : Program} {w : World} {g : Operand} {ps : Array Tmp} {assign body : Code} {Q : Exit → Act → World → Prop} {a : Act}
    (hro : F.round = none) (h1 : 1 ≤ n) {gf : Nat} {lb : Array Value} (hg : a.eval g = .func (.func gf) #[] lb) (hFg : F.fn gf) (eg : ∀ args w, (callFunc gf args).run P w = .ok (.enter gf args) w)
    {encs : α → Array Value} {Kp : World → World → Prop} {Bx : Nat} {S : List α → Prop} {N : Nat} (hseq : SeqBox F (n - 1) P gf lb encs Kp Bx S N w) (hBx : Bx < w.heap.size)
    (hKt : ∀ {A B C : World}, Kp A B → Kp B C → Kp A C) (hKb : ∀ (W : World) (l : Nat) (o o' : Obj), w.heap.size ≤ l → W.heap[l]? = some o → o.isCells = false → o.isWalk = false → Kp W (W.putObj l o')) (hps : ∀ x, (encs x).size = ps.size)
    (I : List α → World → Prop) (hI : Bears w.heap.size Bx I) (h0 : I [] w) (a₁ : α → Act)
    (hassign : ∀ (l : Nat) (x : α) (W : World) (K : Act → World → Prop), K (a₁ x) W →
      assign.wpIn (F.inRound l) (n - 1 - 1) P (Exit.then K (fun _ _ _ => False)) { tmps := (ps.zip (encs x)).foldl (fun t (p, v) => t.setIfInBounds p v) a.tmps, defers := [] } W)
    (hbody : ∀ (l : Nat) (pre : List α) (x : α) (W : World), I pre W → pre.length < N → body.wpIn (F.inRound l) (n - 1 - 1) P (ownPostG w.heap.size Kp I (fun _ _ _ => False) (pre ++ [x]) W) (a₁ x) W)
    (hdone : ∀ (D : Nat) (xs : List α) (W : World), w.heap.size ≤ D → S xs → I xs W → W.heap[D]? = some (.deferred (some [])) → Q .normal { a with defers := { target := .collected D, args := #[] } :: a.defers } W) :
    (Code.rangeFunc g ps assign body).wpIn F n P Q a w := by
  refine wpIn_rangeFunc ?_
  intro fn hfn
  rw [hro]
  obtain ⟨rec, hrec⟩ : ∃ rec : LoopState → Option Code → Loop, rec = fun st pe => { state := st, pending := pe, fn, tmps := a.tmps, params := ps, assign, body, defers := w.heap.size } := ⟨_, rfl⟩
  obtain ⟨V, hV⟩ : ∃ V, (w.alloc (.deferred (some []))).alloc (.loop (rec .ready none)) = V := ⟨_, rfl⟩
  have vsz : V.heap.size = w.heap.size + 2 := by rw [← hV]; simp
  have vl : V.heap[w.heap.size + 1]? = some (.loop (rec .ready none)) := by
    rw [← hV]
    have := World.alloc_heap_new (w.alloc (.deferred (some []))) (.loop (rec .ready none))
    rwa [World.size_alloc] at this
  have vd : V.heap[w.heap.size]? = some (.deferred (some [])) := by
    rw [← hV]
    exact (Below.heap_alloc _ _ _ (by simp)).trans (World.alloc_heap_new w _)
  have vi : I [] V := by rw [← hV]; exact hI.lay _ (hI.lay _ h0)
  have vb : Below w.heap.size w V := by rw [← hV]; exact ((Below.refl _ w).alloc (Nat.le_refl _) _).alloc (by simp) _
  refine ⟨w.heap.size + 1, [{ target := .collected w.heap.size, args := #[] }], V, { target := .fn (.func gf) lb, args := #[.func (.yield (w.heap.size + 1)) #[] #[]] }, V, gf, #[.func (.yield (w.heap.size + 1)) #[] #[]] ++ lb, V, ?_, ?_, ?_, ?_, fun _ => h1, ?_⟩
  · rw [← hV, hrec]; exact run_enterLoop_outer _ _ _ _ _
  · simp only [resolve, hg]
    simp [go_sem]
  · intro f' hf'; simp [Target.leads] at hf'; subst hf'; exact hFg
  · simp [invoke, go_sem, eg]
  refine (hseq (w.heap.size + 1) (fun pre W => I pre W ∧ W.heap[w.heap.size + 1]? = some (.loop (rec .ready none)) ∧ W.heap[w.heap.size]? = some (.deferred (some []))) V vb ?_ ?_ ⟨vi, vl, vd⟩).mono ?_
  · rintro s A C ⟨hi, hl, hd⟩ hsz hk e1 e2 e3
    have la := (Array.getElem?_eq_some_iff.1 hl).1
    exact ⟨hI s A C hi hsz (fun k hk1 hk2 _ => hk k hk1 hk2) e1 e2 e3, (hk _ la (by omega)).trans hl, (hk _ (by omega) (by omega)).trans hd⟩
  · rintro pre x W ⟨hi, hl, hd⟩ hlen
    have la := (Array.getElem?_eq_some_iff.1 hl).1
    have hy := run_yield (P := P) (args := encs x) hl (by rw [hrec]; exact hps x)
    rw [hrec] at hy
    refine ⟨fn, _, assign, body, hy, roundIn_of_wpIn hfn (hassign _ x W _ ?_)⟩
    clear hy
    refine ⟨_, run_beginRound hl (by rw [hrec]), ?_⟩
    have bl : (W.putObj (w.heap.size + 1) (.loop { rec .ready none with state := .busy })).heap[w.heap.size + 1]? = some (.loop { rec .ready none with state := .busy }) := World.putObj_heap_same la
    have bd : (W.putObj (w.heap.size + 1) (.loop { rec .ready none with state := .busy })).heap[w.heap.size]? = some (.deferred (some [])) := (World.putObj_heap_other (by omega)).trans hd
    have bk : Kp W (W.putObj (w.heap.size + 1) (.loop { rec .ready none with state := .busy })) := hKb _ _ _ _ (by omega) hl rfl rfl
    refine wpIn_mono (hbody _ pre x _ (hI.put hi (by omega) hl rfl) hlen) ?_
    rintro e a3 W3 hp
    cases e with
    | normal =>
      obtain ⟨k3, p3, i3⟩ := hp
      have l3 := k3.same _ _ (by omega) bl rfl
      have hr := run_endRound (P := P) none l3
      rw [hrec] at hr
      have l4 := l3
      rw [hrec] at l4
      refine ⟨_, _, hr, rfl, ⟨hI.put i3 (by omega) l3 rfl, ?_, ?_⟩, hKt bk (hKt p3 (hKb _ _ _ _ (by omega) l3 rfl rfl))⟩
      · rw [hrec]
        exact World.putObj_heap_same (Array.getElem?_eq_some_iff.1 l3).1
      · exact (World.putObj_heap_other (by omega)).trans (k3.same _ _ (Nat.le_refl _) bd rfl)
    | ret => exact hp.2.elim
    | exit id => exact hp.2.elim
    | goto t => exact hp.2.elim
    | panic ch => exact hp.elim
    | outgrown => exact hp.elim
  · rintro e W2 ⟨⟨v, rfl⟩, xs, hS, hi, hl, hd⟩
    have hr := run_endLoop (P := P) hl (by rw [hrec]; simp)
    rw [hrec] at hr
    exact ⟨none, _, hr, hdone _ xs _ (Nat.le_refl _) hS (hI.put hi (by omega) hl rfl) ((World.putObj_heap_other (by omega)).trans hd)⟩
end Go.Proofs.YtmnpcignolofaaaDoor
