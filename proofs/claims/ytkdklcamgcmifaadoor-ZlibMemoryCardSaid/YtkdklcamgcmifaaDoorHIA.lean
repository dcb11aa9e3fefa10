/- inflate's reader: take, emit, symbol, length, distance, repeat, stored. -/
import Derived.Test.YtkdklcamgcmifaaDoorHConst
import Derived.Test.YtkdklcamgcmifaaDoorProg
import Derived.WalkKit
import Derived.KernelRfl
import Derived.Outline
import Derived.Deep.RegionHeld3
import Derived.Deep.AppendLies
import Derived.Deep.LoopGhost
import Derived.Laws.BitsAllLaws
import Derived.Laws.BitsLemmas
import Derived.StillTailTactics
import Derived.Deep.RegionLaw
import Derived.Deep.QuietTactic
import Derived.BigQuiet
/-! HSt: A state whose cell k is a row of its own: what a call on it leaves as it was. -/
namespace Go.Proofs.YtkdklcamgcmifaaDoor
set_option linter.unusedVariables false
set_option linter.unusedSimpArgs false
open Go.RowKit Go.Proofs.YtkdklcamgcmifaaDoorW.PrintWords Go.Proofs.YtkdklcamgcmifaaDoorW.PrintMore

/-- The block of a row that stands in a state's cell k. -/
def rowK (k : Nat) (W : World) (g : Nat) : Option Nat := match W.heap[g]? with
  | some (.cells cs _ _) => (cs[k]?).bind Value.ownBlock
  | _ => none
theorem rowK_eq {W : World} {k g : Nat} {cs : Array Value} {t : TypeId} {m : Nat × Nat} {v : Value} (h : W.heap[g]? = some (.cells cs t m)) (h0 : cs[k]? = some v) : rowK k W g = v.ownBlock := by simp [rowK, h, h0]
/-- W' is W but for the state g, its row, and what is new. -/
structure SK (k g : Nat) (W W' : World) : Prop where
  os : W'.os = W.os
  tape : W'.tape = W.tape
  output : W'.output = W.output
  size : W.heap.size ≤ W'.heap.size
  keep : ∀ i, i < W.heap.size → i ≠ g → rowK k W g ≠ some i → W'.heap[i]? = W.heap[i]?
  row : rowK k W' g = rowK k W g ∨ ∃ b, rowK k W' g = some b ∧ W.heap.size ≤ b
theorem SK.refl (k g : Nat) (W : World) : SK k g W W := ⟨rfl, rfl, rfl, Nat.le_refl _, fun _ _ _ _ => rfl, .inl rfl⟩
theorem SK.trans {k g : Nat} {W W1 W2 : World} (h : SK k g W W1) (h' : SK k g W1 W2) : SK k g W W2 := by
  refine ⟨h'.os.trans h.os, h'.tape.trans h.tape, h'.output.trans h.output, Nat.le_trans h.size h'.size, fun i hi hg hr => ?_, ?_⟩
  · refine (h'.keep i (Nat.lt_of_lt_of_le hi h.size) hg ?_).trans (h.keep i hi hg hr)
    rcases h.row with e | ⟨b, e, hb⟩
    · rw [e]; exact hr
    · rw [e]
      intro hc
      cases hc
      omega
  · rcases h'.row with e | ⟨b, e, hb⟩
    · rcases h.row with e2 | ⟨b, e2, hb⟩
      · exact .inl (e.trans e2)
      · exact .inr ⟨b, e.trans e2, hb⟩
    · exact .inr ⟨b, e, Nat.le_trans h.size hb⟩
theorem SK.below {k g B : Nat} {w W W' : World} (h : SK k g W W') (hb : Below B w W) (hB : B ≤ W.heap.size) (hg : B ≤ g) (hr : ∀ i, rowK k W g = some i → B ≤ i) : Below B w W' :=
  ⟨h.os.trans hb.os, h.tape.trans hb.tape, h.output.trans hb.output, Nat.le_trans hb.size h.size, fun i hi => (h.keep i (by omega) (by omega) (fun e => by have := hr i e; omega)).trans (hb.block i hi)⟩
theorem SK.put {k g : Nat} {W W1 : World} (h : SK k g W W1) {cs : Array Value} {t : TypeId} (hb : W1.heap[g]? = some (.cells cs t (0, 0))) (j : Nat) (u : Value)
    (hr : ((cs.setIfInBounds j u)[k]?).bind Value.ownBlock = rowK k W1 g ∨ ∃ b, ((cs.setIfInBounds j u)[k]?).bind Value.ownBlock = some b ∧ W.heap.size ≤ b) : SK k g W (W1.setCell ⟨g, j, none⟩ u) := by
  have hb2 := blk_set hb j u
  have hrow : rowK k (W1.setCell ⟨g, j, none⟩ u) g = ((cs.setIfInBounds j u)[k]?).bind Value.ownBlock := by simp only [rowK, hb2]
  refine ⟨h.os, h.tape, h.output, by simpa [World.setCell] using h.size, fun i hi hg hri => (Below.heap_setCell W1 ⟨g, j, none⟩ u i hg).trans (h.keep i hi hg hri), ?_⟩
  rw [hrow]
  rcases hr with e | e
  · rw [e]; exact h.row
  · exact .inr e
theorem SK.grow {k g : Nat} {W W1 W2 : World} (h : SK k g W W1) (hlt : g < W1.heap.size) (hg : W1.grownBy W2 (rowK k W1 g)) (hne : rowK k W1 g ≠ some g) : SK k g W W2 := by
  have hrow : rowK k W2 g = rowK k W1 g := by
    have := hg.block g hlt (fun e => hne e.symm)
    simp only [rowK, this]
  refine ⟨hg.os.trans h.os, hg.tape.trans h.tape, hg.output.trans h.output, Nat.le_trans h.size hg.size, fun i hi hgi hri => ?_, by rw [hrow]; exact h.row⟩
  refine (hg.block i (Nat.lt_of_lt_of_le hi h.size) fun e => ?_).trans (h.keep i hi hgi hri)
  rcases h.row with e2 | ⟨b, e2, hb⟩
  · rw [e2] at e; exact hri e.symm
  · rw [e2] at e
    cases e
    omega
theorem SK.alloc {k g : Nat} {W W1 : World} (h : SK k g W W1) (hlt : g < W1.heap.size) (o : Obj) : SK k g W (W1.alloc o) := by
  have hrow : rowK k (W1.alloc o) g = rowK k W1 g := by
    have := Below.heap_alloc W1 o g hlt
    simp only [rowK, this]
  refine ⟨h.os, h.tape, h.output, Nat.le_trans h.size (by simp), fun i hi hgi hri => (Below.heap_alloc W1 o i (Nat.lt_of_lt_of_le hi h.size)).trans (h.keep i hi hgi hri), by rw [hrow]; exact h.row⟩
theorem SK.drew {k g : Nat} {W W1 : World} (h : SK k g W W1) : SK k g W W1.drew := ⟨h.os, h.tape, h.output, h.size, h.keep, h.row⟩
theorem SK.drewN {k g : Nat} {W W1 : World} (h : SK k g W W1) (n : Nat) : SK k g W (W1.drewN n) := ⟨h.os, h.tape, h.output, h.size, h.keep, h.row⟩
end Go.Proofs.YtkdklcamgcmifaaDoor

/-! HInf: Inflate in plain Lean: a stream is a number T of N bits; what it puts out, or the first thing that is wrong. No program in sight. -/
namespace Go.Proofs.YtkdklcamgcmifaaDoor
set_option linter.unusedVariables false
set_option linter.unusedSimpArgs false

/-- A reader: of T's bits below N, from a place on; what it reads and the place behind it, or an error. -/
abbrev Rdr (α : Type) := Nat → Nat → Nat → Except Int (α × Nat)
def retR {α : Type} (x : α) : Rdr α := fun _ _ p => .ok (x, p)
def badR {α : Type} (e : Int) : Rdr α := fun _ _ _ => .error e
def bndR {α β : Type} (a : Rdr α) (f : α → Rdr β) : Rdr β := fun T N p => match a T N p with
  | .ok (x, q) => f x T N q
  | .error e => .error e
def tk (n : Nat) : Rdr Nat := fun T N p => if p + n ≤ N then .ok (T / 2 ^ p % 2 ^ n, p + n) else .error 5

/-! Tables of codes. -/
def idxs (v : Nat) (l : List Nat) : List Nat := (List.range l.length).filter fun i => l.getD i 0 == v
def cntT (l : List Nat) (n : Nat) : Nat := if n = 0 then 0 else l.count n
def symT (l : List Nat) : List Nat := (List.range 15).flatMap fun n => idxs (n + 1) l
def leftT (l : List Nat) : Nat → Int
  | 0 => 1
  | n + 1 => 2 * leftT l n - (l.count (n + 1) : Int)
def okT (l : List Nat) (none : Bool) : Bool := (List.range 15).all (fun n => decide (0 ≤ leftT l (n + 1))) && (leftT l 15 == 0 || (symT l).length == 1 && l.count 1 == 1 || none && (symT l).length == 0)

/-- The next symbol. -/
def symR (c : Nat → Nat) (ss : List Nat) : Nat → Nat → Nat → Nat → Nat → Rdr Nat
  | 0, _, _, _, _ => badR 4
  | k + 1, n, code, first, index => if ss.length ≤ index then badR 4 else bndR (tk 1) fun b =>
    if code + b < first + c n then retR (ss.getD (index + (code + b - first)) 0)
    else symR c ss k (n + 1) (2 * (code + b)) (2 * (first + c n)) (index + c n)
def symL (l : List Nat) : Rdr Nat := symR (cntT l) (symT l) 15 1 0 0 0
def lenR (s : Nat) : Rdr Nat :=
  if 285 < s then badR 4 else if s = 285 then retR 258 else if s < 265 then retR (s - 254)
  else bndR (tk ((s - 261) / 4)) fun v => retR ((4 + (s - 261) % 4) * 2 ^ ((s - 261) / 4) + 3 + v)
def disR (s : Nat) : Rdr Nat :=
  if 29 < s then badR 4 else if s < 4 then retR (s + 1)
  else bndR (tk (s / 2 - 1)) fun v => retR ((2 + s % 2) * 2 ^ (s / 2 - 1) + 1 + v)
/-- A byte put out. -/
def putO (most : Nat) (out : List Int) (b : Int) : Except Int (List Int) := if most ≤ out.length then .error 10 else .ok (out ++ [b])
def repO (most far : Nat) : Nat → List Int → Except Int (List Int)
  | 0, out => .ok out
  | n + 1, out => match putO most out (out.getD (out.length - far) 0) with
    | .ok o => repO most far n o
    | .error e => .error e
/-- What a length's symbol copies: how many bytes, and how far back. -/
def copR (d : List Nat) (s : Nat) : Rdr (Nat × Nat) := bndR (lenR s) fun n => bndR (symL d) fun t => bndR (disR t) fun far => retR (n, far)
/-- What follows where a putting out went well. -/
def onO {α : Type} (x : Except Int (List Int)) (f : List Int → Rdr α) : Rdr α := match x with
  | .ok o => f o
  | .error e => badR e
/-- A block of symbols. -/
def symsO (l d : List Nat) (most : Nat) : Nat → List Int → Rdr (List Int)
  | 0, _ => badR 4
  | k + 1, out => bndR (symL l) fun s =>
    if s = 256 then retR out
    else if s < 256 then onO (putO most out s) (symsO l d most k)
    else bndR (copR d s) fun (n, far) => if out.length < far then badR 4 else onO (repO most far n out) (symsO l d most k)
def bytO (most : Nat) : Nat → List Int → Rdr (List Int)
  | 0, out => retR out
  | n + 1, out => bndR (tk 8) fun b => onO (putO most out b) (bytO most n)
/-- A block of bytes as they are. -/
def stoO (most : Nat) (out : List Int) : Rdr (List Int) := fun T N p =>
  bndR (tk 16) (fun n => bndR (tk 16) fun m => if n + m ≠ 65535 then badR 4 else bytO most n out) T N ((p + 7) / 8 * 8)
def ordT : List Nat := [16, 17, 18, 0, 8, 7, 9, 6, 10, 5, 11, 4, 12, 3, 13, 2, 14, 1, 15]
/-- The lengths of the codes' codes. -/
def fstR (c : Nat) : Nat → List Nat → Rdr (List Nat)
  | 0, l => retR l
  | k + 1, l => bndR (tk 3) fun v => fstR c k (l.set (ordT.getD (c - (k + 1)) 0) v)
/-- Lengths: what a symbol puts behind them. -/
def nxtR (l : List Nat) (s : Nat) : Rdr (Nat × Nat) :=
  if s = 16 then (if l.length = 0 then badR 4 else bndR (tk 2) fun t => retR (l.getD (l.length - 1) 0, 3 + t))
  else if s = 17 then bndR (tk 3) fun t => retR (0, 3 + t)
  else if s = 18 then bndR (tk 7) fun t => retR (0, 11 + t)
  else retR (s, 1)
def lnsR (first : List Nat) (want : Nat) : Nat → List Nat → Rdr (List Nat)
  | 0, l => retR l
  | k + 1, l => if want ≤ l.length then retR l else bndR (symL first) fun s => bndR (nxtR l s) fun (v, times) =>
    if want < l.length + times then badR 4 else lnsR first want k (l ++ List.replicate times v)
/-- The tables that a block brings. -/
def dynR : Rdr (List Nat × List Nat) := bndR (tk 5) fun a => bndR (tk 5) fun b => bndR (tk 4) fun c =>
  if 286 < a + 257 ∨ 30 < b + 1 then badR 4 else bndR (fstR (c + 4) (c + 4) (List.replicate 19 0)) fun first =>
  if okT first false = false then badR 4 else bndR (lnsR first (a + 257 + (b + 1)) (a + 257 + (b + 1)) []) fun ls =>
  if okT (ls.take (a + 257)) false = true ∧ okT (ls.drop (a + 257)) true = true ∧ ls.getD 256 0 ≠ 0 then retR (ls.take (a + 257), ls.drop (a + 257)) else badR 4
def fixL : List Nat := List.replicate 144 8 ++ List.replicate 112 9 ++ List.replicate 24 7 ++ List.replicate 8 8
def fixD : List Nat := List.replicate 32 5
/-- One block, of a way. -/
def blkO (most F way : Nat) (out : List Int) : Rdr (List Int) :=
  if way = 0 then stoO most out else if way = 1 then symsO fixL fixD most F out
  else if way = 2 then bndR dynR fun (l, d) => symsO l d most F out else badR 4
/-- Blocks, up to the last one. -/
def runO (most F : Nat) : Nat → List Int → Rdr (List Int)
  | 0, _ => badR 4
  | k + 1, out => bndR (tk 1) fun last => bndR (tk 2) fun way => bndR (blkO most F way out) fun o => if last = 1 then retR o else runO most F k o
/-- The number that bytes write, the lowest first. -/
def numB : List Int → Nat
  | [] => 0
  | b :: l => b.toNat + 256 * numB l
def infF (p : List Int) (most : Int) : List Int × Int × Int :=
  if most < 0 ∨ 1048576 < most then ([], 0, 1) else
  match runO most.toNat (8 * p.length + 1) (8 * p.length + 1) [] (numB p) (8 * p.length) 0 with
  | .ok (out, q) => (out, ((q + 7) / 8 : Nat), 0)
  | .error e => ([], 0, e)

/-! A reader that reads on: it feels nothing of what stands behind what it has read, and is short where that lacks. -/
structure Okr {α : Type} (a : Rdr α) (T N p : Nat) (x : α) (q : Nat) : Prop where
  le : p ≤ q
  top : q ≤ N
  on : ∀ T' N', T' % 2 ^ q = T % 2 ^ q → q ≤ N' → a T' N' p = .ok (x, q)
  short : ∀ T' N', N' % 8 = 0 → p ≤ N' → N' < q → T' % 2 ^ N' = T % 2 ^ N' → a T' N' p = .error 5
def Stb {α : Type} (a : Rdr α) : Prop := ∀ T N p x q, N % 8 = 0 → p ≤ N → a T N p = .ok (x, q) → Okr a T N p x q
theorem mod_pow_le {T T' m n : Nat} (h : T' % 2 ^ n = T % 2 ^ n) (hm : m ≤ n) : T' % 2 ^ m = T % 2 ^ m := by
  have hd : (2 : Nat) ^ m ∣ 2 ^ n := Nat.pow_dvd_pow 2 hm
  rw [← Nat.mod_mod_of_dvd T' hd, ← Nat.mod_mod_of_dvd T hd, h]
theorem bits_mod {T T' p n : Nat} (h : T' % 2 ^ (p + n) = T % 2 ^ (p + n)) : T' / 2 ^ p % 2 ^ n = T / 2 ^ p % 2 ^ n := by
  rw [← Nat.mod_mul_right_div_self, ← Nat.mod_mul_right_div_self, ← Nat.pow_add, h]
theorem Stb.ret {α : Type} (x : α) : Stb (retR x) := by
  intro T N p y q h8 hp h
  simp only [retR, Except.ok.injEq, Prod.mk.injEq] at h
  obtain ⟨rfl, rfl⟩ := h
  exact ⟨Nat.le_refl _, hp, fun _ _ _ _ => rfl, fun _ _ _ h1 h2 _ => by omega⟩
theorem Stb.bad {α : Type} (e : Int) : Stb (badR (α := α) e) := by
  intro T N p y q h8 hp h
  cases h
theorem Stb.tk (n : Nat) : Stb (tk n) := by
  intro T N p y q h8 hp h
  unfold Proofs.YtkdklcamgcmifaaDoor.tk at h
  split at h
  · simp only [Except.ok.injEq, Prod.mk.injEq] at h
    obtain ⟨rfl, rfl⟩ := h
    refine ⟨by omega, by omega, fun T' N' ht hn => ?_, fun T' N' _ h1 h2 ht => ?_⟩
    · unfold Proofs.YtkdklcamgcmifaaDoor.tk
      rw [if_pos hn, bits_mod ht]
    · unfold Proofs.YtkdklcamgcmifaaDoor.tk
      rw [if_neg (by omega)]
  · cases h
theorem Stb.bnd {α β : Type} {a : Rdr α} {f : α → Rdr β} (ha : Stb a) (hf : ∀ x, Stb (f x)) : Stb (bndR a f) := by
  intro T N p y q h8 hp h
  unfold bndR at h
  split at h
  · rename_i x r hr
    have h1 := ha T N p x r h8 hp hr
    have h2 := hf x T N r y q h8 h1.top h
    refine ⟨Nat.le_trans h1.le h2.le, h2.top, fun T' N' ht hn => ?_, fun T' N' h8' hp' hn ht => ?_⟩
    · unfold bndR
      rw [h1.on T' N' (mod_pow_le ht h2.le) (Nat.le_trans h2.le hn)]
      exact h2.on T' N' ht hn
    · unfold bndR
      rcases Nat.lt_or_ge N' r with hl | hl
      · rw [h1.short T' N' h8' hp' hl ht]
      · rw [h1.on T' N' (mod_pow_le ht hl) hl]
        exact h2.short T' N' h8' hl hn ht
  · cases h
theorem Stb.ite {α : Type} {c : Prop} [Decidable c] {a b : Rdr α} (ha : Stb a) (hb : Stb b) : Stb (if c then a else b) := by
  split
  · exact ha
  · exact hb
theorem Stb.onO {α : Type} (x : Except Int (List Int)) {f : List Int → Rdr α} (hf : ∀ o, Stb (f o)) : Stb (onO x f) := by
  cases x with
  | ok o => exact hf o
  | error e => exact Stb.bad e
theorem Stb.symR (c : Nat → Nat) (ss : List Nat) : ∀ k n code first index, Stb (symR c ss k n code first index) := by
  intro k
  induction k with
  | zero => intro n code first index; exact Stb.bad 4
  | succ k ih =>
    intro n code first index
    unfold Proofs.YtkdklcamgcmifaaDoor.symR
    exact Stb.ite (Stb.bad 4) (Stb.bnd (Stb.tk 1) fun b => Stb.ite (Stb.ret _) (ih _ _ _ _))
theorem Stb.symL (l : List Nat) : Stb (symL l) := Stb.symR _ _ _ _ _ _ _
theorem Stb.lenR (s : Nat) : Stb (lenR s) := Stb.ite (Stb.bad 4) (Stb.ite (Stb.ret _) (Stb.ite (Stb.ret _) (Stb.bnd (Stb.tk _) fun _ => Stb.ret _)))
theorem Stb.disR (s : Nat) : Stb (disR s) := Stb.ite (Stb.bad 4) (Stb.ite (Stb.ret _) (Stb.bnd (Stb.tk _) fun _ => Stb.ret _))
theorem Stb.copR (d : List Nat) (s : Nat) : Stb (copR d s) := Stb.bnd (Stb.lenR s) fun _ => Stb.bnd (Stb.symL d) fun _ => Stb.bnd (Stb.disR _) fun _ => Stb.ret _
theorem Stb.symsO (l d : List Nat) (most : Nat) : ∀ k out, Stb (symsO l d most k out) := by
  intro k
  induction k with
  | zero => intro out; exact Stb.bad 4
  | succ k ih =>
    intro out
    unfold Proofs.YtkdklcamgcmifaaDoor.symsO
    refine Stb.bnd (Stb.symL l) fun s => Stb.ite (Stb.ret _) (Stb.ite (Stb.onO _ ih) (Stb.bnd (Stb.copR d s) fun nf => ?_))
    obtain ⟨n, far⟩ := nf
    exact Stb.ite (Stb.bad 4) (Stb.onO _ ih)
theorem Stb.bytO (most : Nat) : ∀ n out, Stb (bytO most n out) := by
  intro n
  induction n with
  | zero => intro out; exact Stb.ret _
  | succ n ih =>
    intro out
    unfold Proofs.YtkdklcamgcmifaaDoor.bytO
    exact Stb.bnd (Stb.tk 8) fun b => Stb.onO _ ih
theorem Stb.fstR (c : Nat) : ∀ k l, Stb (fstR c k l) := by
  intro k
  induction k with
  | zero => intro l; exact Stb.ret _
  | succ k ih => intro l; exact Stb.bnd (Stb.tk 3) fun _ => ih _
theorem Stb.nxtR (l : List Nat) (s : Nat) : Stb (nxtR l s) :=
  Stb.ite (Stb.ite (Stb.bad 4) (Stb.bnd (Stb.tk 2) fun _ => Stb.ret _)) (Stb.ite (Stb.bnd (Stb.tk 3) fun _ => Stb.ret _) (Stb.ite (Stb.bnd (Stb.tk 7) fun _ => Stb.ret _) (Stb.ret _)))
theorem Stb.lnsR (first : List Nat) (want : Nat) : ∀ k l, Stb (lnsR first want k l) := by
  intro k
  induction k with
  | zero => intro l; exact Stb.ret _
  | succ k ih =>
    intro l
    unfold Proofs.YtkdklcamgcmifaaDoor.lnsR
    refine Stb.ite (Stb.ret _) (Stb.bnd (Stb.symL first) fun s => Stb.bnd (Stb.nxtR l s) fun vt => ?_)
    obtain ⟨v, t⟩ := vt
    exact Stb.ite (Stb.bad 4) (ih _)
theorem Stb.dynR : Stb dynR := Stb.bnd (Stb.tk 5) fun _ => Stb.bnd (Stb.tk 5) fun _ => Stb.bnd (Stb.tk 4) fun _ => Stb.ite (Stb.bad 4) (Stb.bnd (Stb.fstR _ _ _) fun _ => Stb.ite (Stb.bad 4) (Stb.bnd (Stb.lnsR _ _ _ _) fun _ => Stb.ite (Stb.ret _) (Stb.bad 4)))
theorem Stb.stoO (most : Nat) (out : List Int) : Stb (stoO most out) := by
  have hs : Stb (bndR (Proofs.YtkdklcamgcmifaaDoor.tk 16) (fun n => bndR (Proofs.YtkdklcamgcmifaaDoor.tk 16) fun m => if n + m ≠ 65535 then badR 4 else Proofs.YtkdklcamgcmifaaDoor.bytO most n out)) :=
    Stb.bnd (Stb.tk 16) fun n => Stb.bnd (Stb.tk 16) fun m => Stb.ite (Stb.bad 4) (Stb.bytO most n out)
  intro T N p x q h8 hp h
  have h1 := hs T N ((p + 7) / 8 * 8) x q h8 (by omega) h
  exact ⟨by have := h1.le; omega, h1.top, h1.on, fun T' N' h8' hp' hn ht => h1.short T' N' h8' (by omega) hn ht⟩
theorem Stb.blkO (most F way : Nat) (out : List Int) : Stb (blkO most F way out) :=
  Stb.ite (Stb.stoO most out) (Stb.ite (Stb.symsO _ _ _ _ _) (Stb.ite (Stb.bnd Stb.dynR fun ld => Stb.symsO _ _ _ _ _) (Stb.bad 4)))
theorem Stb.runO (most F : Nat) : ∀ k out, Stb (runO most F k out) := by
  intro k
  induction k with
  | zero => intro out; exact Stb.bad 4
  | succ k ih => intro out; exact Stb.bnd (Stb.tk 1) fun last => Stb.bnd (Stb.tk 2) fun way => Stb.bnd (Stb.blkO most F way out) fun o => Stb.ite (Stb.ret _) (ih _)

/-! Room. -/
structure Lmd (f : Nat → Rdr (List Int)) (out : List Int) (most T N p : Nat) (o : List Int) (q : Nat) : Prop where
  le : out.length ≤ o.length
  top : out.length ≤ most → o.length ≤ most
  same : ∀ m', o.length ≤ m' → f m' T N p = .ok (o, q)
  limit : ∀ m', out.length ≤ m' → m' < o.length → f m' T N p = .error 10
def Lm (f : Nat → Rdr (List Int)) (out : List Int) : Prop := ∀ most T N p o q, f most T N p = .ok (o, q) → Lmd f out most T N p o q
theorem Lm.ret (out : List Int) : Lm (fun _ => retR out) out := by
  intro most T N p o q h
  simp only [retR, Except.ok.injEq, Prod.mk.injEq] at h
  obtain ⟨rfl, rfl⟩ := h
  exact ⟨Nat.le_refl _, id, fun _ _ => rfl, fun _ h1 h2 => by omega⟩
theorem Lm.bad (out : List Int) (e : Int) : Lm (fun _ => badR e) out := by
  intro most T N p o q h
  cases h
theorem Lm.bnd {α : Type} (out : List Int) (a : Rdr α) (f : α → Nat → Rdr (List Int)) (hf : ∀ x, Lm (f x) out) : Lm (fun most => bndR a fun x => f x most) out := by
  intro most T N p o q h
  simp only [bndR] at h
  split at h
  · rename_i x r hr
    have h1 := hf x most T N r o q h
    refine ⟨h1.le, h1.top, fun m' hm => ?_, fun m' h2 h3 => ?_⟩
    · simp only [bndR, hr]; exact h1.same m' hm
    · simp only [bndR, hr]; exact h1.limit m' h2 h3
  · cases h
theorem Lm.ite {c : Prop} [Decidable c] {a b : Nat → Rdr (List Int)} {out : List Int} (ha : Lm a out) (hb : Lm b out) : Lm (fun most => if c then a most else b most) out := by
  by_cases h : c
  · simpa only [if_pos h] using ha
  · simpa only [if_neg h] using hb
/-- A step that puts out, and what follows. -/
theorem Lm.put (out : List Int) (b : Int) (f : Nat → List Int → Rdr (List Int)) (hf : ∀ o, Lm (fun m => f m o) o) :
    Lm (fun most => onO (putO most out b) (f most)) out := by
  have e : ∀ m, onO (putO m out b) (f m) = if m ≤ out.length then badR 10 else f m (out ++ [b]) := by
    intro m
    unfold putO
    split <;> rfl
  intro most T N p o q h
  simp only [e] at h
  split at h
  · cases h
  · have h2 := hf (out ++ [b]) most T N p o q h
    have hl := h2.le
    simp only [List.length_append, List.length_singleton] at hl
    refine ⟨by omega, fun _ => h2.top (by simp; omega), fun m' hm => ?_, fun m' h3 h4 => ?_⟩
    · simp only [e]
      rw [if_neg (by omega)]
      exact h2.same m' hm
    · simp only [e]
      by_cases h5 : m' ≤ out.length
      · rw [if_pos h5]; rfl
      · rw [if_neg h5]
        exact h2.limit m' (by simp; omega) h4
theorem Lm.rep (far : Nat) (f : Nat → List Int → Rdr (List Int)) (hf : ∀ o, Lm (fun m => f m o) o) : ∀ n out,
    Lm (fun most => onO (repO most far n out) (f most)) out := by
  intro n
  induction n with
  | zero => intro out; exact hf out
  | succ n ih =>
    intro out
    have h := Lm.put out (out.getD (out.length - far) 0) (fun most o => onO (repO most far n o) (f most)) ih
    have e : (fun most => onO (repO most far (n + 1) out) (f most)) = (fun most => onO (putO most out (out.getD (out.length - far) 0)) (fun o => onO (repO most far n o) (f most))) := by
      funext m
      simp only [repO, onO]
      cases putO m out (out.getD (out.length - far) 0) <;> rfl
    rw [e]
    exact h
theorem Lm.symsO (l d : List Nat) : ∀ k out, Lm (fun most => symsO l d most k out) out := by
  intro k
  induction k with
  | zero => intro out; exact Lm.bad out 4
  | succ k ih =>
    intro out
    unfold Proofs.YtkdklcamgcmifaaDoor.symsO
    refine Lm.bnd out _ _ fun s => Lm.ite (Lm.ret _) (Lm.ite (Lm.put out s _ ih) (Lm.bnd out _ _ fun nf => ?_))
    obtain ⟨n, far⟩ := nf
    exact Lm.ite (Lm.bad _ _) (Lm.rep far _ ih n out)
theorem Lm.bytO : ∀ n out, Lm (fun most => bytO most n out) out := by
  intro n
  induction n with
  | zero => intro out; exact Lm.ret _
  | succ n ih => intro out; exact Lm.bnd out _ _ fun b => Lm.put out b _ ih
theorem Lm.stoO (out : List Int) : Lm (fun most => stoO most out) out := by
  have h : Lm (fun most => bndR (tk 16) (fun n => bndR (tk 16) fun m => if n + m ≠ 65535 then badR 4 else Proofs.YtkdklcamgcmifaaDoor.bytO most n out)) out :=
    Lm.bnd out _ _ fun n => Lm.bnd out _ _ fun m => Lm.ite (Lm.bad _ _) (Lm.bytO n out)
  intro most T N p o q hh
  have h1 := h most T N _ o q hh
  exact ⟨h1.le, h1.top, h1.same, h1.limit⟩
theorem Lm.blkO (F way : Nat) (out : List Int) : Lm (fun most => blkO most F way out) out :=
  Lm.ite (Lm.stoO out) (Lm.ite (Lm.symsO _ _ F out) (Lm.ite (Lm.bnd out dynR (fun ld most => Proofs.YtkdklcamgcmifaaDoor.symsO ld.1 ld.2 most F out) fun ld => Lm.symsO ld.1 ld.2 F out) (Lm.bad _ _)))
theorem Lm.then_ {a : Nat → Rdr (List Int)} {out : List Int} {f : Nat → List Int → Rdr (List Int)} (ha : Lm a out) (hf : ∀ o, Lm (fun m => f m o) o) : Lm (fun most => bndR (a most) (f most)) out := by
  intro most T N p o q h
  simp only [bndR] at h
  split at h
  · rename_i o1 r hr
    have h1 := ha most T N p o1 r hr
    have h2 := hf o1 most T N r o q h
    refine ⟨Nat.le_trans h1.le h2.le, fun h => h2.top (h1.top h), fun m' hm => ?_, fun m' h3 h4 => ?_⟩
    · simp only [bndR, h1.same m' (Nat.le_trans h2.le hm)]
      exact h2.same m' hm
    · simp only [bndR]
      rcases Nat.lt_or_ge m' o1.length with hl | hl
      · rw [h1.limit m' h3 hl]
      · rw [h1.same m' hl]
        exact h2.limit m' hl h4
  · cases h
theorem Lm.runO (F : Nat) : ∀ k out, Lm (fun most => runO most F k out) out := by
  intro k
  induction k with
  | zero => intro out; exact Lm.bad _ _
  | succ k ih =>
    intro out
    unfold Proofs.YtkdklcamgcmifaaDoor.runO
    exact Lm.bnd out _ _ fun last => Lm.bnd out _ _ fun way => Lm.then_ (Lm.blkO F way out) fun o => Lm.ite (Lm.ret _) (ih o)
end Go.Proofs.YtkdklcamgcmifaaDoor

/-! HRd: inflate's reader: how much it has taken and put out, and the first thing that was wrong; wrong, take, emit. -/
namespace Go.Proofs.YtkdklcamgcmifaaDoor
set_option linter.unusedVariables false
set_option linter.unusedSimpArgs false
open Go.RowKit Go.Proofs.YtkdklcamgcmifaaDoorW.PrintWords Go.Proofs.YtkdklcamgcmifaaDoorW.PrintMore

/-! Bytes as a number. -/
theorem numB_div : ∀ {l : List Int}, (∀ x ∈ l, 0 ≤ x ∧ x < 256) → ∀ k, numB l / 2 ^ (8 * k) = numB (l.drop k) := by
  intro l
  induction l with
  | nil => intro _ k; simp [numB]
  | cons b l ih =>
    intro h k
    have h2 := h b List.mem_cons_self
    cases k with
    | zero => simp
    | succ k =>
      rw [List.drop_succ_cons, ← ih (fun x hx => h x (List.mem_cons_of_mem _ hx)) k, show 8 * (k + 1) = 8 + 8 * k from by omega, Nat.pow_add, ← Nat.div_div_eq_div_mul]
      congr 1
      simp only [numB]
      omega
theorem numB_byte {l : List Int} (h : ∀ x ∈ l, 0 ≤ x ∧ x < 256) {k : Nat} (hk : k < l.length) : numB l / 2 ^ (8 * k) % 256 = (l.getD k 0).toNat := by
  rw [numB_div h k, List.drop_eq_getElem_cons hk]
  have h2 := h _ (List.getElem_mem hk)
  simp only [numB, List.getD_eq_getElem?_getD, List.getElem?_eq_getElem hk, Option.getD_some]
  omega
theorem pow_split (T a b c : Nat) : T / 2 ^ a % 2 ^ (b + c) = T / 2 ^ a % 2 ^ b + 2 ^ b * (T / 2 ^ (a + b) % 2 ^ c) := by
  rw [Nat.pow_add, Nat.mod_mul, Nat.div_div_eq_div_mul, ← Nat.pow_add]

/-- The reader at g: q bits of p are taken, out is put out, e is what was wrong. -/
def Rdm (m : Nat) (w0 : World) (A : Option Addr) (c : Nat) (p : List Int) (most : Nat) (g : Nat) (q : Nat) (out : List Int) (e : Int) (W : World) : Prop :=
  ∃ (at_ n : Nat) (v : Value), W.heap[g]? = some (.cells #[.slice A p.length c, .int .i64 at_, .int .u32 ((numB p / 2 ^ q % 2 ^ n : Nat) : Int), .int .i64 n, v, .int .i64 most, .int .i64 e] 44 (0, 0)) ∧
    Bs 5 W w0.heap.size v out ∧ q + n = 8 * at_ ∧ at_ ≤ p.length ∧ n ≤ 24 ∧ (e = 0 → n < m) ∧ (0 ≤ e ∧ e < 100) ∧ out.length ≤ most ∧ most ≤ 1048576
abbrev Rd := Rdm 8
/-- What was there when the reader was made. -/
structure Rw (w0 : World) (A : Option Addr) (c : Nat) (p : List Int) (g : Nat) (W : World) : Prop where
  base : w0.heap.size ≤ g
  rd : ReadsInt w0 .u8 A p.length p
  by_ : ∀ x ∈ p, 0 ≤ x ∧ x < 256
  cap : p.length ≤ c
  len : p.length ≤ 1048576
  below : Below w0.heap.size w0 W
  ord : ∀ j, j < 19 → w0.cell? ⟨0, j, none⟩ = some (.int .i64 ((ordT.getD j 0 : Nat) : Int))
theorem Rdm.lt {m : Nat} {w0 : World} {A : Option Addr} {c most g q : Nat} {p out : List Int} {e : Int} {W : World} (h : Rdm m w0 A c p most g q out e W) : g < W.heap.size := by
  obtain ⟨at_, n, v, hb, _⟩ := h
  exact blk_lt hb
theorem Rdm.row_ge {m : Nat} {w0 : World} {A : Option Addr} {c most g q : Nat} {p out : List Int} {e : Int} {W : World} (h : Rdm m w0 A c p most g q out e W) : ∀ i, rowK 4 W g = some i → w0.heap.size ≤ i ∧ i < W.heap.size := by
  obtain ⟨at_, n, v, hb, ho, _⟩ := h
  intro i hi
  rw [rowK_eq hb rfl] at hi
  exact ⟨own_base ho i hi, own_lt ho i hi⟩
theorem Rdm.row_ne {m : Nat} {w0 : World} {A : Option Addr} {c most g q : Nat} {p out : List Int} {e : Int} {W : World} (h : Rdm m w0 A c p most g q out e W) : rowK 4 W g ≠ some g := by
  obtain ⟨at_, n, v, hb, ho, _⟩ := h
  intro hi
  rw [rowK_eq hb rfl] at hi
  obtain ⟨cur, hc⟩ := own_typed ho g hi
  rw [hb] at hc
  simp at hc
theorem Rdm.keep {m : Nat} {w0 : World} {A : Option Addr} {c most g q : Nat} {p out : List Int} {e : Int} {W W' : World} (h : Rdm m w0 A c p most g q out e W) (hg : W'.heap[g]? = W.heap[g]?) (hr : ∀ i, rowK 4 W g = some i → W'.heap[i]? = W.heap[i]?) : Rdm m w0 A c p most g q out e W' := by
  obtain ⟨at_, n, v, hb, ho, hx⟩ := h
  exact ⟨at_, n, v, hg.trans hb, own_move ho fun k hk => hr k (by rw [rowK_eq hb rfl]; exact hk), hx⟩
theorem Rdm.below {m : Nat} {w0 : World} {A : Option Addr} {c most g q : Nat} {p out : List Int} {e : Int} {W W' : World} (h : Rdm m w0 A c p most g q out e W) (hb : Below W.heap.size W W') : Rdm m w0 A c p most g q out e W' :=
  h.keep (hb.block g h.lt) fun i hi => hb.block i (h.row_ge i hi).2
theorem Rw.sk {m : Nat} {w0 : World} {A : Option Addr} {c most g q : Nat} {p out : List Int} {e : Int} {W W' : World} (h : Rw w0 A c p g W) (hr : Rdm m w0 A c p most g q out e W) (hs : SK 4 g W W') : Rw w0 A c p g W' :=
  ⟨h.base, h.rd, h.by_, h.cap, h.len, hs.below h.below (h.below.size) h.base (fun i hi => (hr.row_ge i hi).1), h.ord⟩
theorem SK.ofBelow {k g : Nat} {W W' : World} (h : Below W.heap.size W W') (hg : g < W.heap.size) : SK k g W W' :=
  ⟨h.os, h.tape, h.output, h.size, fun i hi _ _ => h.block i hi, .inl (by simp only [rowK, h.block g hg])⟩
/-- Blocks of other kinds stay. -/
theorem SK.block {w0 : World} {A : Option Addr} {c most g q m : Nat} {p out : List Int} {e : Int} {W W' : World} (hs : SK 4 g W W') (hr : Rdm m w0 A c p most g q out e W) {i : Nat} {cs : Array Value} {t : TypeId} {fr : Nat × Nat} (hb : W.heap[i]? = some (.cells cs t fr)) (h1 : t ≠ 44) (h2 : t ≠ 5) : W'.heap[i]? = some (.cells cs t fr) := by
  obtain ⟨a, n, v', hb', ho', _⟩ := hr
  have hrow : rowK 4 W g = v'.ownBlock := rowK_eq hb' rfl
  refine (hs.keep i (blk_lt hb) ?_ ?_).trans hb
  · rintro rfl
    rw [hb'] at hb
    simp only [Option.some.injEq, Obj.cells.injEq] at hb
    exact h1 hb.2.1.symm
  · intro e
    rw [hrow] at e
    obtain ⟨cur, hc⟩ := own_typed ho' i e
    rw [hb] at hc
    simp only [Option.some.injEq, Obj.cells.injEq] at hc
    exact h2 hc.2.1
/-- The first thing that was wrong. -/
def fst (e x : Int) : Int := if e = 0 then x else e

set_option maxHeartbeats 1000000 in
theorem wrong_calls {m : Nat} (w0 : World) (A : Option Addr) (c : Nat) (p : List Int) (most g q : Nat) (out : List Int) (e x : Int) (W : World) (hr : Rdm m w0 A c p most g q out e W) (hx : 0 < x ∧ x < 100) :
    Calls Tryd.prog 44 #[.pointer (some ⟨g, 0, none⟩), .int .i64 x] W fun ee w' => ee = .returned (.tuple #[]) ∧ SK 4 g W w' ∧ Rd w0 A c p most g q out (fst e x) w' := by
  have HR := Lib.hid hr
  obtain ⟨at_, n, v, hb, ho, h1, h2, h3, h4, h5, h6⟩ := hr
  have c6 : W.cell? ⟨g, 6, none⟩ = some (.int .i64 e) := blk_cell hb 6
  have f6 := blk_frozen hb 6
  have HB := Lib.hid hb
  have HO := Lib.hid ho
  have HN := Lib.hid (And.intro h1 (And.intro h2 (And.intro h3 (And.intro h4 h6))))
  clear hb ho h1 h2 h3 h4 h6
  by_cases h0 : e = 0
  · subst h0
    go_enter Tryd.func44, Tryd.ntmps44
    go_wp2_with fail
    refine bodyPost_end (results_none rfl _ _ _) rfl ?_
    refine ⟨rfl, (SK.refl 4 g W).put HB.out 6 _ (.inl ?_), at_, n, v, ?_, ?_, HN.out.1, HN.out.2.1, HN.out.2.2.1, fun h => ?_, ?_, HN.out.2.2.2.2⟩
    · rw [rowK_eq HB.out rfl]; rfl
    · have := blk_set HB.out 6 (.int .i64 x)
      rw [this]
      simp [fst]
    · exact own_move HO.out fun k hk => Below.heap_setCell _ ⟨g, 6, none⟩ _ k (fun e => HR.out.row_ne (by rw [rowK_eq HB.out rfl]; exact hk.trans (congrArg some e)))
    · simp [fst] at h; omega
    · simp [fst]; omega
  · go_enter Tryd.func44, Tryd.ntmps44
    go_wp2_with fail
    refine bodyPost_end (results_none rfl _ _ _) rfl ?_
    refine ⟨rfl, SK.refl 4 g W, ?_⟩
    rw [fst, if_neg h0]
    exact ⟨at_, n, v, HB.out, HO.out, HN.out.1, HN.out.2.1, HN.out.2.2.1, fun h => absurd h h0, h5, HN.out.2.2.2.2⟩
end Go.Proofs.YtkdklcamgcmifaaDoor

/-! HTk: inflate's reader: take. -/
namespace Go.Proofs.YtkdklcamgcmifaaDoor
set_option linter.unusedVariables false
set_option linter.unusedSimpArgs false
open Go.RowKit Go.Proofs.YtkdklcamgcmifaaDoorW.PrintWords Go.Proofs.YtkdklcamgcmifaaDoorW.PrintMore

theorem or_low32' (h x c : Nat) (hh : h < 2 ^ c) (hc : c ≤ 16) (hx : x < 256) : bits .or .u32 (h : Int) ((x : Int) * 2 ^ c % 4294967296) = ((h + 2 ^ c * x : Nat) : Int) := by
  have h2 : 2 ^ c ≤ 2 ^ 16 := Nat.pow_le_pow_right (by decide) hc
  have h3 : x * 2 ^ c < 256 * 65536 := Nat.mul_lt_mul_of_lt_of_le hx h2 (by omega)
  have e : (x : Int) * 2 ^ c % 4294967296 = ((x * 2 ^ c : Nat) : Int) := by
    have : (x : Int) * 2 ^ c = ((x * 2 ^ c : Nat) : Int) := by simp
    rw [this]
    omega
  rw [e, u32_or _ _ (by omega) (by omega) (by omega) (by omega), Int.toNat_natCast, Int.toNat_natCast]
  have := Nat.two_pow_add_eq_or_of_lt hh x
  rw [Nat.or_comm, Nat.mul_comm x, ← this]
  simp
  omega
/-- In take's loop. -/
def TkI (w0 : World) (A : Option Addr) (c : Nat) (p : List Int) (most g q : Nat) (out : List Int) (e : Int) (n : Nat) (W : World) (k : Nat) (wr : World) : Prop :=
  ∃ (a b : Nat) (v : Value), wr.heap[g]? = some (.cells #[.slice A p.length c, .int .i64 a, .int .u32 ((numB p / 2 ^ q % 2 ^ b : Nat) : Int), .int .i64 b, v, .int .i64 most, .int .i64 e] 44 (0, 0)) ∧
    Bs 5 wr w0.heap.size v out ∧ q + b = 8 * a ∧ a ≤ p.length ∧ b ≤ 24 ∧ (e = 0 → b < n + 8) ∧ SK 4 g W wr ∧ p.length - a = k
theorem tk_step {w0 W wq : World} {A : Option Addr} {c most g q a b' h' x gk n : Nat} {p out : List Int} {e : Int} {v' : Value} (hby : ∀ x ∈ p, 0 ≤ x ∧ x < 256) (ha : a < p.length) (hx : p.getD a 0 = (x : Int)) (hx2 : x < 256) (hq : q + b' = 8 * a) (hlt : b' < n) (hn : n ≤ 13)
    (hh : numB p / 2 ^ q % 2 ^ b' = h') (hgk : p.length - a = gk) (hS : SK 4 g W wq) (hO : Bs 5 wq w0.heap.size v' out)
    (hB : wq.heap[g]? = some (.cells #[.slice A p.length c, .int .i64 a, .int .u32 (h' : Int), .int .i64 b', v', .int .i64 most, .int .i64 e] 44 (0, 0))) :
    TkI w0 A c p most g q out e n W (gk - 1) (((wq.setCell ⟨g, 2, none⟩ (.int .u32 (bits .or .u32 (h' : Int) ((x : Int) * 2 ^ b' % 4294967296)))).setCell ⟨g, 1, none⟩ (.int .i64 ((a : Int) + 1))).setCell ⟨g, 3, none⟩ (.int .i64 ((b' : Int) + 8))).drew := by
  have hv : bits .or .u32 (h' : Int) ((x : Int) * 2 ^ b' % 4294967296) = ((numB p / 2 ^ q % 2 ^ (b' + 8) : Nat) : Int) := by
    rw [or_low32' h' x b' (by rw [← hh]; exact Nat.mod_lt _ (Nat.pow_pos (by decide))) (by omega) hx2, pow_split, hh, hq, show (2 : Nat) ^ 8 = 256 from rfl, numB_byte hby ha, hx, Int.toNat_natCast]
  rw [hv]
  have b1 := blk_set hB 2 (.int .u32 ((numB p / 2 ^ q % 2 ^ (b' + 8) : Nat) : Int))
  have b2 := blk_set b1 1 (.int .i64 ((a : Int) + 1))
  have b3 := blk_set b2 3 (.int .i64 ((b' : Int) + 8))
  have hne : ∀ k, v'.ownBlock = some k → k ≠ g := fun k hk e => by
    obtain ⟨cur, hc⟩ := own_typed hO k hk
    rw [e, hB] at hc
    simp at hc
  refine ⟨a + 1, b' + 8, v', ?_, ?_, by omega, by omega, by omega, fun _ => by omega, ?_, by omega⟩
  · refine Eq.trans (b := (((wq.setCell ⟨g, 2, none⟩ _).setCell ⟨g, 1, none⟩ _).setCell ⟨g, 3, none⟩ _).heap[g]?) rfl ?_
    rw [b3]
    simp
  · exact own_move hO fun k hk => ((Below.heap_setCell _ ⟨g, 3, none⟩ _ k (hne k hk)).trans (Below.heap_setCell _ ⟨g, 1, none⟩ _ k (hne k hk))).trans (Below.heap_setCell _ ⟨g, 2, none⟩ _ k (hne k hk))
  · refine SK.drew ?_
    exact ((hS.put hB 2 _ (.inl (by rw [rowK_eq hB rfl]; rfl))).put b1 1 _ (.inl (by rw [rowK_eq b1 rfl]; rfl))).put b2 3 _ (.inl (by rw [rowK_eq b2 rfl]; rfl))
theorem tk_end {w0 W wq : World} {A : Option Addr} {c most g q a b' h' n : Nat} {p out : List Int} {e : Int} {v' : Value} (hq : q + b' = 8 * a) (ha : a ≤ p.length) (hb : b' ≤ 24) (hbn : e = 0 → b' < n + 8) (he : 0 ≤ e ∧ e < 100) (hm : out.length ≤ most ∧ most ≤ 1048576) (hlt : n ≤ b')
    (hh : numB p / 2 ^ q % 2 ^ b' = h') (hS : SK 4 g W wq) (hO : Bs 5 wq w0.heap.size v' out)
    (hB : wq.heap[g]? = some (.cells #[.slice A p.length c, .int .i64 a, .int .u32 (h' : Int), .int .i64 b', v', .int .i64 most, .int .i64 e] 44 (0, 0))) :
    SK 4 g W ((wq.setCell ⟨g, 2, none⟩ (.int .u32 ((h' : Int) / 2 ^ n))).setCell ⟨g, 3, none⟩ (.int .i64 ((b' : Int) - (n : Int)))) ∧
    Rd w0 A c p most g (q + n) out e ((wq.setCell ⟨g, 2, none⟩ (.int .u32 ((h' : Int) / 2 ^ n))).setCell ⟨g, 3, none⟩ (.int .i64 ((b' : Int) - (n : Int)))) := by
  have hv : (h' : Int) / 2 ^ n = ((numB p / 2 ^ (q + n) % 2 ^ (b' - n) : Nat) : Int) := by
    have h1 : numB p / 2 ^ q % 2 ^ b' = numB p / 2 ^ q % 2 ^ n + 2 ^ n * (numB p / 2 ^ (q + n) % 2 ^ (b' - n)) := by
      rw [← pow_split, show n + (b' - n) = b' from by omega]
    have h2 : h' / 2 ^ n = numB p / 2 ^ (q + n) % 2 ^ (b' - n) := by
      rw [← hh, h1, Nat.add_mul_div_left _ _ (Nat.pow_pos (by decide)), Nat.div_eq_of_lt (Nat.mod_lt _ (Nat.pow_pos (by decide))), Nat.zero_add]
    rw [← h2]
    simp
  rw [hv]
  have b1 := blk_set hB 2 (.int .u32 ((numB p / 2 ^ (q + n) % 2 ^ (b' - n) : Nat) : Int))
  have b2 := blk_set b1 3 (.int .i64 ((b' : Int) - (n : Int)))
  have hne : ∀ k, v'.ownBlock = some k → k ≠ g := fun k hk e => by
    obtain ⟨cur, hc⟩ := own_typed hO k hk
    rw [e, hB] at hc
    simp at hc
  refine ⟨(hS.put hB 2 _ (.inl (by rw [rowK_eq hB rfl]; rfl))).put b1 3 _ (.inl (by rw [rowK_eq b1 rfl]; rfl)), a, b' - n, v', ?_, ?_, by omega, ha, by omega, fun h => by have := hbn h; omega, he, hm⟩
  · rw [b2, show (b' : Int) - (n : Int) = ((b' - n : Nat) : Int) from by omega]
    simp
  · exact own_move hO fun k hk => (Below.heap_setCell _ ⟨g, 3, none⟩ _ k (hne k hk)).trans (Below.heap_setCell _ ⟨g, 2, none⟩ _ k (hne k hk))
theorem mask32 (v e : Nat) (he : e ≤ 20) (hv : v < 2 ^ 24) : bits .and .u32 (v : Int) (((2 ^ e : Nat) : Int) - 1) = ((v % 2 ^ e : Nat) : Int) := by
  have h := bits_mask .u32 24 (by decide) (fun n h0 h1 => by rw [IntKind.wrap_u32]; omega) e (by omega) (v : Int) (by omega) (by omega)
  simpa using h
set_option maxRecDepth 8000 in
set_option maxHeartbeats 2000000 in
theorem take_calls (w0 : World) (A : Option Addr) (c : Nat) (p : List Int) (most g q : Nat) (out : List Int) (e : Int) (W : World) (n : Nat) (hr : Rd w0 A c p most g q out e W) (hw : Rw w0 A c p g W) (hn : n ≤ 13) :
    Calls Tryd.prog 41 #[.pointer (some ⟨g, 0, none⟩), .int .i64 n] W fun ee w' => ∃ (x q' : Nat) (e' : Int), ee = .returned (.int .i64 x) ∧ Hid (SK 4 g W w') ∧ Hid (Rd w0 A c p most g q' out e' w') ∧
      ((q + n ≤ 8 * p.length ∧ x = numB p / 2 ^ q % 2 ^ n ∧ q' = q + n ∧ e' = e) ∨ (8 * p.length < q + n ∧ x = 0 ∧ q' = q ∧ e' = fst e 5)) := by
  obtain ⟨at_, b, v, hb, ho, h1, h2, h3, h4, h5, h6⟩ := hr
  have HB := Lib.hid hb
  have HO := Lib.hid ho
  have HW := Lib.hid hw
  have H4 := Lib.hid h4
  have HF := Lib.hid h6
  have HN := Lib.hid (And.intro h1 (And.intro h2 h3))
  clear hb ho hw h4 h1 h2 h3 h6
  go_enter Tryd.func41, Tryd.ntmps41
  go_wp2_with fail
  go_loopg [] (p.length - at_) (fun k wr => TkI w0 A c p most g q out e n W k wr)
  case atStart =>
    exact ⟨at_, b, v, HB.out, HO.out, HN.out.1, HN.out.2.1, HN.out.2.2, fun h => by have := H4.out h; omega, SK.refl 4 g W, rfl⟩
  case round =>
    obtain ⟨a, b', v', hb', ho', i1, i2, i3, i4, i5, i6⟩ := hrel
    have d0 : wr.cell? ⟨g, 0, none⟩ = some (.slice A p.length c) := blk_cell hb' 0
    have d1 : wr.cell? ⟨g, 1, none⟩ = some (.int .i64 a) := blk_cell hb' 1
    have d2 : wr.cell? ⟨g, 2, none⟩ = some (.int .u32 ((numB p / 2 ^ q % 2 ^ b' : Nat) : Int)) := blk_cell hb' 2
    have d3 : wr.cell? ⟨g, 3, none⟩ = some (.int .i64 b') := blk_cell hb' 3
    have e0 := blk_frozen hb' 0
    have e1 := blk_frozen hb' 1
    have e2 := blk_frozen hb' 2
    have e3 := blk_frozen hb' 3
    have hRd : e = 0 → n ≤ b' ∨ True := fun _ => .inr trivial
    have HB' := Lib.hid hb'
    have HO' := Lib.hid ho'
    have HS' := Lib.hid i5
    have HI := Lib.hid (And.intro i1 (And.intro i3 i4))
    have HLT : Hid (numB p / 2 ^ q % 2 ^ b' < 2 ^ b') := Lib.hid (Nat.mod_lt _ (Nat.pow_pos (by decide)))
    clear hb' ho' i5 i1 i3 i4 hRd
    generalize hh' : numB p / 2 ^ q % 2 ^ b' = h' at *
    have HH' := Lib.hid hh'
    clear hh'
    by_cases hlt : b' < n
    · have hlt' : (b' : Int) < (n : Int) := by omega
      by_cases hat : p.length ≤ a
      · have hat' : (p.length : Int) ≤ (a : Int) := by omega
        have hdec : decide ((p.length : Int) ≤ (a : Int)) = true := by simpa using hat
        go_wp2_with fail
        go_quiet (fail)
        go_wp2_with fail
        have hrd : Rdm 24 w0 A c p most g q out e wr := ⟨a, b', v', by rw [HH'.out]; exact HB'.out, HO'.out, HI.out.1, i2, HI.out.2.1, fun _ => by omega, h5, HF.out⟩
        refine (wrong_calls w0 A c p most g q out e 5 (wr.drewN nq) (hrd.keep rfl fun _ _ => rfl) (by omega)).mono ?_
        rintro ee w2 ⟨rfl, hs2, hr2⟩
        have HS2 : Hid (SK 4 g W w2) := Lib.hid ((HS'.out.drewN nq).trans hs2)
        have HR2 := Lib.hid hr2
        clear hs2 hr2 hrd
        go_wp2_with fail
        go_ret
        refine ⟨0, q, _, rfl, HS2, HR2, .inr ⟨?_, rfl, rfl, rfl⟩⟩
        have := HI.out.1
        omega
      · have hat' : ¬ (p.length : Int) ≤ (a : Int) := by omega
        have ha0 : (a : Int) < (p.length : Int) := by omega
        have hc64 : (b' : Int) < 64 := by omega
        have hc0 : (0 : Int) ≤ (b' : Int) := by omega
        obtain ⟨ad, rfl, hcell⟩ := (HW.out.rd.below (show Below w0.heap.size w0 wr from HS'.out.below HW.out.below HW.out.below.size HW.out.base (by
          intro i hi
          rw [rowK_eq HB.out rfl] at hi
          exact own_base HO.out i hi))).2.2 (by omega)
        obtain ⟨x, hx, hx2⟩ : ∃ x : Nat, p.getD a 0 = (x : Int) ∧ x < 256 := by
          have := HW.out.by_ (p.getD a 0) (by rw [List.getD_eq_getElem?_getD, List.getElem?_eq_getElem (by omega)]; exact List.getElem_mem _)
          exact ⟨(p.getD a 0).toNat, by omega, by omega⟩
        have hcx : wr.cell? (ad.add a) = some (.int .u8 x) := by rw [hcell a (by omega), ← hx]
        have HX := Lib.hid (And.intro hx hx2)
        clear hcell hx hx2
        have hdec : decide ((p.length : Int) ≤ (a : Int)) = false := by simpa using hat
        have hdecn : decide (p.length ≤ a) = false := by simpa using hat
        go_wp2_with fail
        go_quiet (fail)
        have k0 : (wr.drewN nq).cell? ⟨g, 0, none⟩ = some (.slice (some ad) p.length c) := d0
        have k1 : (wr.drewN nq).cell? ⟨g, 1, none⟩ = some (.int .i64 a) := d1
        have k2 : (wr.drewN nq).cell? ⟨g, 2, none⟩ = some (.int .u32 (h' : Int)) := d2
        have k3 : (wr.drewN nq).cell? ⟨g, 3, none⟩ = some (.int .i64 b') := d3
        have kx : (wr.drewN nq).cell? (ad.add a) = some (.int .u8 x) := hcx
        have j1 : (wr.drewN nq).frozen? ⟨g, 1, none⟩ = false := e1
        have j2 : (wr.drewN nq).frozen? ⟨g, 2, none⟩ = false := e2
        have j3 : (wr.drewN nq).frozen? ⟨g, 3, none⟩ = false := e3
        have HSq : Hid (SK 4 g W (wr.drewN nq)) := Lib.hid (HS'.out.drewN nq)
        have HBq : Hid ((wr.drewN nq).heap[g]? = some (.cells #[.slice (some ad) p.length c, .int .i64 a, .int .u32 (h' : Int), .int .i64 b', v', .int .i64 most, .int .i64 e] 44 (0, 0))) := Lib.hid HB'.out
        have HOq : Hid (Bs 5 (wr.drewN nq) w0.heap.size v' out) := Lib.hid (own_move HO'.out fun _ _ => rfl)
        clear d0 d1 d2 d3 hcx e0 e1 e2 e3 HS' HB' HO'
        generalize wr.drewN nq = wq at *
        have hwx : IntKind.u32.wrap (x : Int) = (x : Int) := by rw [IntKind.wrap_u32]; have := HX.out.2; omega
        have hwa : IntKind.i64.wrap ((a : Int) + 1) = (a : Int) + 1 := by rw [IntKind.wrap_i64]; have := HW.out.len; omega
        have hwb : IntKind.i64.wrap ((b' : Int) + 8) = (b' : Int) + 8 := by rw [IntKind.wrap_i64]; omega
        go_wp2_with fail
        go_still_tail 23, (by kernel_rfl)
        go_wp2_with fail
        go_roundg (gk - 1)
        case rel => exact tk_step HW.out.by_ (by omega) HX.out.1 HX.out.2 HI.out.1 hlt hn HH'.out i6 HSq.out HOq.out HBq.out
        case measure => omega
    · have hlt' : ¬ (b' : Int) < (n : Int) := by omega
      have hwb : wrap64 ((b' : Int) - (n : Int)) = (b' : Int) - (n : Int) := IntWalk.wrap64_in _ (by have := HI.out.2.1; omega)
      have hpn : (2 : Nat) ^ n ≤ 8192 := Nat.pow_le_pow_right (by decide) hn
      have hmask : bits .and .u32 (h' : Int) ((2 ^ n - 1) % 4294967296) = ((h' % 2 ^ n : Nat) : Int) := by
        have h24 : h' < 2 ^ 24 := Nat.lt_of_lt_of_le HLT.out (Nat.pow_le_pow_right (by decide) HI.out.2.1)
        have h1 := mask32 h' n (by omega) h24
        have h2 : ((2 : Int) ^ n - 1) % 4294967296 = ((2 ^ n : Nat) : Int) - 1 := by
          have : (2 : Int) ^ n = ((2 ^ n : Nat) : Int) := by simp
          have hp : 0 < 2 ^ n := Nat.pow_pos (by decide)
          rw [this]
          omega
        rw [h2]
        exact h1
      have hxl : h' % 2 ^ n < 2 ^ n := Nat.mod_lt _ (Nat.pow_pos (by decide))
      have hxe : h' % 2 ^ n = numB p / 2 ^ q % 2 ^ n := by
        rw [← HH'.out, Nat.mod_mod_of_dvd _ (Nat.pow_dvd_pow 2 (by omega))]
      generalize h' % 2 ^ n = xx at hmask hxl hxe
      have hw64 : wrap64 (xx : Int) = (xx : Int) := IntWalk.wrap64_in _ (by omega)
      have HX := Lib.hid hxe
      clear hxe
      clear hpn hxl
      go_wp2_with fail
      go_quiet (fail)
      go_wp2_with fail
      have hE := tk_end (wq := wr.drewN nq) HI.out.1 i2 HI.out.2.1 HI.out.2.2 h5 HF.out (by omega) HH'.out (HS'.out.drewN nq) (own_move HO'.out fun _ _ => rfl) HB'.out
      go_ret
      refine ⟨xx, q + n, e, ?_, Lib.hid hE.1, Lib.hid hE.2, .inl ⟨?_, HX.out, rfl, rfl⟩⟩
      · show Ending.returned (.int .i64 (wrap64 (xx : Int))) = _
        rw [hw64]
      · have := HI.out.1
        omega
end Go.Proofs.YtkdklcamgcmifaaDoor

/-! HEmit: inflate's reader: emit. -/
namespace Go.Proofs.YtkdklcamgcmifaaDoor
set_option linter.unusedVariables false
set_option linter.unusedSimpArgs false
open Go.RowKit Go.Proofs.YtkdklcamgcmifaaDoorW.PrintWords Go.Proofs.YtkdklcamgcmifaaDoorW.PrintMore
theorem infoE : (Tryd.prog.info? 5).map (fun i => (i.zero, i.size, i.bytes)) = some (some (.int .u8 0), 1, 1) := by kernel_rfl
/-- What a byte more leaves. -/
theorem emit_end {w0 W W1 w1 : World} {A : Option Addr} {c most g q a b : Nat} {p out : List Int} {e x : Int} {v v1 : Value}
    (hq : q + b = 8 * a) (ha : a ≤ p.length) (hb : b ≤ 24) (hb8 : e = 0 → b < 8) (he : 0 ≤ e ∧ e < 100) (hm : out.length < most ∧ most ≤ 1048576)
    (hS : SK 4 g W W1) (hO : Bs 5 W1 w0.heap.size v out)
    (hB : W1.heap[g]? = some (.cells #[.slice A p.length c, .int .i64 a, .int .u32 ((numB p / 2 ^ q % 2 ^ b : Nat) : Int), .int .i64 b, v, .int .i64 most, .int .i64 e] 44 (0, 0)))
    (hown : Bs 5 w1 w0.heap.size v1 (out ++ [x])) (hg : W1.grownBy w1 v.ownBlock) (hat : v1.ownBlock = v.ownBlock ∨ ∃ b, v1.ownBlock = some b ∧ W1.heap.size ≤ b) :
    SK 4 g W (w1.setCell ⟨g, 4, none⟩ v1) ∧ Rd w0 A c p most g q (out ++ [x]) e (w1.setCell ⟨g, 4, none⟩ v1) := by
  have hlt := blk_lt hB
  have hrow : rowK 4 W1 g = v.ownBlock := rowK_eq hB rfl
  have hne : v.ownBlock ≠ some g := fun e => by
    obtain ⟨cur, hc⟩ := own_typed hO g e
    rw [hB] at hc
    simp at hc
  have hb1 := (hg.block g hlt (fun e => hne e.symm)).trans hB
  have s2 : SK 4 g W w1 := hS.grow hlt (by rw [hrow]; exact hg) (by rw [hrow]; exact hne)
  have s3 : SK 4 g W (w1.setCell ⟨g, 4, none⟩ v1) := s2.put hb1 4 v1 (by
    rw [rowK_eq hb1 rfl]
    rcases hat with e | ⟨b, e, hb⟩
    · exact .inl e
    · exact .inr ⟨b, e, by have := hS.size; omega⟩)
  refine ⟨s3, a, b, v1, ?_, ?_, hq, ha, hb, hb8, he, by simp; omega, hm.2⟩
  · rw [blk_set hb1 4 v1]
    simp
  · refine own_move hown fun k hk => Below.heap_setCell _ ⟨g, 4, none⟩ _ k (fun e2 => ?_)
    rcases hat with e | ⟨b, e, hb⟩
    · exact hne (e.symm.trans (hk.trans (congrArg some e2)))
    · rw [e] at hk
      simp at hk hb
      have e3 : b = g := hk.trans e2
      omega
set_option maxRecDepth 8000 in
set_option maxHeartbeats 2000000 in
theorem emit_calls (w0 : World) (A : Option Addr) (c : Nat) (p : List Int) (most g q : Nat) (out : List Int) (x : Int) (W : World) (hr : Rd w0 A c p most g q out 0 W) (hbase : w0.heap.size ≤ W.heap.size) :
    Calls Tryd.prog 46 #[.pointer (some ⟨g, 0, none⟩), .int .u8 x] W fun ee w' => ∃ (out' : List Int) (e' : Int), ee = .returned (.tuple #[]) ∧ Hid (SK 4 g W w') ∧ Hid (Rd w0 A c p most g q out' e' w') ∧
      ((out.length < most ∧ out' = out ++ [x] ∧ e' = 0) ∨ (most ≤ out.length ∧ out' = out ∧ e' = 10)) := by
  have HR := Lib.hid hr
  obtain ⟨at_, b, v, hb, ho, h1, h2, h3, h4, h5, h6⟩ := hr
  obtain ⟨A1, c1, rfl⟩ := own_slice ho
  have d4 : W.cell? ⟨g, 4, none⟩ = some (.slice A1 out.length c1) := blk_cell hb 4
  have d5 : W.cell? ⟨g, 5, none⟩ = some (.int .i64 most) := blk_cell hb 5
  have f4 := blk_frozen hb 4
  have HB := Lib.hid hb
  have HO := Lib.hid ho
  have HN := Lib.hid (And.intro h1 (And.intro h2 (And.intro h3 (And.intro h4 h6))))
  have HBASE := Lib.hid hbase
  clear hb ho h1 h2 h3 h4 h6 hbase
  by_cases hlt : most ≤ out.length
  · have hlt' : (most : Int) ≤ (out.length : Int) := by omega
    have hdec : decide ((most : Int) ≤ (out.length : Int)) = true := by simpa using hlt
    go_enter Tryd.func46, Tryd.ntmps46
    go_wp2_with fail
    go_quiet (fail)
    go_wp2_with fail
    refine (wrong_calls w0 A c p most g q out 0 10 (W.drewN nq) (HR.out.keep rfl fun _ _ => rfl) (by omega)).mono ?_
    rintro ee w2 ⟨rfl, hs2, hr2⟩
    have HS2 : Hid (SK 4 g W w2) := Lib.hid (((SK.refl 4 g W).drewN nq).trans hs2)
    have HR2 := Lib.hid hr2
    clear hs2 hr2
    go_wp2_with fail
    refine bodyPost_ret (results_none rfl _ _ _) rfl ?_
    refine ⟨out, 10, rfl, HS2, HR2, .inr ⟨hlt, rfl, rfl⟩⟩
  · have hlt' : ¬ (most : Int) ≤ (out.length : Int) := by omega
    have hdec : decide ((most : Int) ≤ (out.length : Int)) = false := by simpa using hlt
    have hdecn : decide (most ≤ out.length) = false := by simpa using hlt
    go_enter Tryd.func46, Tryd.ntmps46
    go_wp2_with fail
    go_quiet (fail)
    have k4 : (W.drewN nq).cell? ⟨g, 4, none⟩ = some (.slice A1 out.length c1) := d4
    have j4 : (W.drewN nq).frozen? ⟨g, 4, none⟩ = false := f4
    have HSq : Hid (SK 4 g W (W.drewN nq)) := Lib.hid ((SK.refl 4 g W).drewN nq)
    have HBq := Lib.hid (show (W.drewN nq).heap[g]? = _ from HB.out)
    have HOq : Hid (Bs 5 (W.drewN nq) w0.heap.size (.slice A1 out.length c1) out) := Lib.hid (own_move HO.out fun _ _ => rfl)
    have HBASEq : Hid (w0.heap.size ≤ (W.drewN nq).heap.size) := HBASE
    have HL : Hid (out.length < 1048576) := Lib.hid (by have := HN.out.2.2.2.2; omega)
    clear d4 f4
    generalize W.drewN nq = wq at *
    have hltg := blk_lt HBq.out
    have hne : Value.ownBlock (.slice A1 out.length c1) ≠ some g := fun e => by
      obtain ⟨cur, hc⟩ := own_typed HOq.out g e
      rw [HBq.out] at hc
      simp at hc
    go_wp2_with (at_builtin; refine print_append_num (w0 := wq) w0.heap.size rfl (.tmp 20) (.tmp 22) 22 5 .u8 1 rfl Tryd.underlying22 infoE (by omega) (.slice A1 out.length c1) out x rfl rfl HOq.out (Below.refl _ _) HBASEq.out (by have := HL.out; omega) ?_; intro v1 w1 hown1 hbel1 hgrow hat; have HOWN := Lib.hid hown1; obtain ⟨g2, cap, hv1, _, _⟩ := World.ownsRow.form hown1 (by simp); subst hv1; have hb1 := (hgrow.block g hltg (fun e => hne e.symm)).trans HBq.out; have m4 := blk_frozen hb1 4; have m5 := blk_cell hb1 4; have HG := Lib.hid hgrow; have HAT := Lib.hid hat; clear hown1 hbel1 hgrow hat hb1)
    refine bodyPost_end (results_none rfl _ _ _) rfl ?_
    have hE := emit_end HN.out.1 HN.out.2.1 HN.out.2.2.1 (fun _ => HN.out.2.2.2.1 trivial) h5 (by have := HN.out.2.2.2.2; omega) HSq.out HOq.out HBq.out HOWN.out HG.out HAT.out
    rw [show (out ++ [x]).length = out.length + 1 from by simp] at hE
    exact ⟨out ++ [x], 0, rfl, Lib.hid hE.1, Lib.hid hE.2, .inl ⟨by omega, rfl, rfl⟩⟩
end Go.Proofs.YtkdklcamgcmifaaDoor

/-! HSym: inflate's reader: symbol. -/
namespace Go.Proofs.YtkdklcamgcmifaaDoor
set_option linter.unusedVariables false
set_option linter.unusedSimpArgs false
open Go.RowKit Go.Proofs.YtkdklcamgcmifaaDoorW.PrintWords Go.Proofs.YtkdklcamgcmifaaDoorW.PrintMore
/-- The cells of a table. -/
def tabC (l : List Nat) (v : Value) : List Value := (List.range 16).map (fun n => Value.int .i64 ((cntT l n : Nat) : Int)) ++ [v]
def natI (l : List Nat) : List Int := l.map (fun n : Nat => (n : Int))
theorem natI_length (l : List Nat) : (natI l).length = l.length := by simp [natI]
/-- The table of the lengths l at t. -/
def Tab (base : Nat) (W : World) (l : List Nat) (t : Nat) : Prop := ∃ v, W.heap[t]? = some (.cells (tabC l v).toArray 59 (0, 0)) ∧ W.ownsRow base 3 1 v (symT l).length (nums .i64 (natI (symT l)))
theorem tab_get {l : List Nat} {v : Value} {n : Nat} (h : n < 16) : (tabC l v)[n]? = some (.int .i64 ((cntT l n : Nat) : Int)) := by
  unfold tabC
  rw [List.getElem?_append_left (by simpa using h)]
  simp [h]
theorem tab_sym {l : List Nat} {v : Value} : (tabC l v)[16]? = some v := by
  unfold tabC
  rw [List.getElem?_append_right (by simp)]
  simp
theorem blk_cellL {W : World} {g : Nat} {cs : List Value} {t : TypeId} {m : Nat × Nat} {v : Value} (h : W.heap[g]? = some (.cells cs.toArray t m)) {j : Nat} (hj : cs[j]? = some v) : W.cell? ⟨g, j, none⟩ = some v := by
  unfold World.cell?
  simp only [h]
  simpa using hj
theorem Tab.sk {w0 : World} {A : Option Addr} {c most g q m : Nat} {p out : List Int} {e : Int} {W W' : World} {l : List Nat} {t base : Nat} (h : Tab base W l t) (hr : Rdm m w0 A c p most g q out e W) (hs : SK 4 g W W') : Tab base W' l t := by
  obtain ⟨v, hb, ho⟩ := h
  obtain ⟨a, n, v', hb', ho', _⟩ := hr
  have hrow : rowK 4 W g = v'.ownBlock := rowK_eq hb' rfl
  have hg : t ≠ g := blk_ne hb hb' (by decide)
  refine ⟨v, (hs.keep t (blk_lt hb) hg ?_).trans hb, own_move ho fun k hk => hs.keep k (own_lt ho k hk) ?_ ?_⟩
  · intro e
    rw [hrow] at e
    obtain ⟨cur, hc⟩ := own_typed ho' t e
    rw [hb] at hc
    simp at hc
  · rintro rfl
    obtain ⟨cur, hc⟩ := own_typed ho k hk
    rw [hb'] at hc
    simp at hc
  · intro e
    rw [hrow] at e
    obtain ⟨cur, hc⟩ := own_typed ho k hk
    obtain ⟨cur', hc'⟩ := own_typed ho' k e
    rw [hc] at hc'
    simp at hc'
theorem Tab.below {W W' : World} {l : List Nat} {t base : Nat} (h : Tab base W l t) (hb : Below W.heap.size W W') : Tab base W' l t := by
  obtain ⟨v, hb', ho⟩ := h
  exact ⟨v, (hb.block t (blk_lt hb')).trans hb', own_move ho fun k hk => hb.block k (own_lt ho k hk)⟩

/-! How many symbols have shorter codes. -/
def sumT (l : List Nat) : Nat → Nat
  | 0 => 0
  | n + 1 => sumT l n + (idxs (n + 1) l).length
theorem symT_take (l : List Nat) : ∀ n, ((List.range n).flatMap fun n => idxs (n + 1) l).length = sumT l n := by
  intro n
  induction n with
  | zero => rfl
  | succ n ih => rw [List.range_succ, List.flatMap_append, List.length_append, ih]; simp [sumT]
theorem sumT_mono (l : List Nat) {m n : Nat} (h : m ≤ n) : sumT l m ≤ sumT l n := by
  induction n with
  | zero => rw [show m = 0 from by omega]; exact Nat.le_refl _
  | succ n ih =>
    rcases Nat.lt_or_ge m (n + 1) with h1 | h1
    · have := ih (by omega); simp only [sumT]; omega
    · rw [show m = n + 1 from by omega]; exact Nat.le_refl _
theorem symT_len (l : List Nat) : (symT l).length = sumT l 15 := symT_take l 15
theorem idxs_len (v : Nat) (l : List Nat) : (idxs v l).length = l.count v := by
  unfold idxs
  have h : ∀ l : List Nat, l = (List.range l.length).map fun i => l.getD i 0 := by
    intro l
    apply List.ext_getElem (by simp)
    intro i h1 h2
    simp [List.getD_eq_getElem?_getD, List.getElem?_eq_getElem h1]
  conv => rhs; rw [h l]
  rw [List.count_eq_countP, List.countP_map, List.countP_eq_length_filter]
  rfl
theorem cnt_sum (l : List Nat) (n : Nat) (h : n < 15) : sumT l (n + 1) = sumT l n + cntT l (n + 1) := by
  simp only [sumT, idxs_len, cntT]
  rw [if_neg (by omega)]
theorem cnt_le (l : List Nat) (n : Nat) (h : n < 15) : sumT l n + cntT l (n + 1) ≤ (symT l).length := by
  rw [symT_len, ← cnt_sum l n h]
  exact sumT_mono l (by omega)
theorem symT_le (l : List Nat) : (symT l).length ≤ l.length := by
  have key : ∀ n, ((List.range n).flatMap fun n => idxs (n + 1) l).length + (l.countP fun x => decide (n < x)) ≤ l.length := by
    intro n
    induction n with
    | zero => simp; exact List.countP_le_length
    | succ n ih =>
      rw [List.range_succ, List.flatMap_append, List.length_append]
      have e : (l.countP fun x => decide (n < x)) = l.count (n + 1) + l.countP fun x => decide (n + 1 < x) := by
        clear ih
        induction l with
        | nil => rfl
        | cons x l ih =>
          rw [List.countP_cons, List.countP_cons, List.count_cons, ih]
          by_cases h1 : x = n + 1
          · subst h1; simp; omega
          · by_cases h2 : n < x
            · have h3 : n + 1 < x := by omega
              simp [h1, h2, h3]; omega
            · have h3 : ¬ n + 1 < x := by omega
              simp [h1, h2, h3]
      simp only [List.flatMap_cons, List.flatMap_nil, List.append_nil, idxs_len]
      omega
  have := key 15
  unfold symT
  omega
theorem symT_getD (l : List Nat) (j : Nat) : (natI (symT l)).getD j 0 = (((symT l).getD j 0 : Nat) : Int) := by
  simp only [natI, List.getD_eq_getElem?_getD, List.getElem?_map]
  cases (symT l)[j]? <;> rfl

theorem rd_e {m : Nat} {w0 : World} {A : Option Addr} {c most g q : Nat} {p out : List Int} {e : Int} {W : World} (h : Rdm m w0 A c p most g q out e W) : W.cell? ⟨g, 6, none⟩ = some (.int .i64 e) := by
  obtain ⟨at_, n, v, hb, _⟩ := h
  exact blk_cell hb 6
theorem or_even (cc b : Nat) (h : cc % 2 = 0) (hb : b < 2) (hc : cc < 1000000) : bits .or .i64 (cc : Int) (b : Int) = ((cc + b : Nat) : Int) := by
  rw [bits_join .i64 40 (by decide) (fun n h0 h1 => by rw [IntKind.wrap_i64]; omega) 1 (cc : Int) (b : Int) (by omega) (by omega) (by omega) (by omega) (by omega) (by omega)]
  simp
set_option maxRecDepth 8000 in
set_option maxHeartbeats 4000000 in
theorem symbol_calls (w0 : World) (A : Option Addr) (c : Nat) (p : List Int) (most g q : Nat) (out : List Int) (W : World) (l : List Nat) (t base : Nat) (hr : Rd w0 A c p most g q out 0 W) (hw : Rw w0 A c p g W) (ht : Tab base W l t) (hl : l.length ≤ 1000) :
    Calls Tryd.prog 45 #[.pointer (some ⟨g, 0, none⟩), .pointer (some ⟨t, 0, none⟩)] W fun ee w' => ∃ (x q' : Nat) (e' : Int), ee = .returned (.int .i64 x) ∧ Hid (SK 4 g W w') ∧ Hid (Rd w0 A c p most g q' out e' w') ∧
      ((symL l (numB p) (8 * p.length) q = .ok (x, q') ∧ e' = 0) ∨ (symL l (numB p) (8 * p.length) q = .error e' ∧ e' ≠ 0)) := by
  have HR := Lib.hid hr
  have HW := Lib.hid hw
  have HT := Lib.hid ht
  have hs := symT_le l
  have HL : Hid ((symT l).length ≤ 1000) := Lib.hid (by omega)
  obtain ⟨v, hb, ho⟩ := ht
  obtain ⟨As, cs, rfl⟩ := own_slice ho
  have c16 : W.cell? ⟨t, 16, none⟩ = some (.slice As (symT l).length cs) := blk_cellL hb tab_sym
  have HS0 : Hid (symR (cntT l) (symT l) 15 1 0 0 0 (numB p) (8 * p.length) q = symL l (numB p) (8 * p.length) q) := Lib.hid rfl
  generalize hres : symL l (numB p) (8 * p.length) q = res at *
  clear hb ho hs hl hr hw hres
  go_enter Tryd.func45, Tryd.ntmps45
  go_wp2_with fail
  go_quiet (fail)
  go_wp2_with fail
  go_loopw [5, 6, 7, 8, 9] (fun vc vf vi vr vn wr => ∃ (k n cc ff ii qq : Nat), vc = .int .i64 cc ∧ vf = .int .i64 ff ∧ vi = .int .i64 ii ∧ vr = .int .i64 (((symT l).length : Int) - ii) ∧ vn = .int .i64 n ∧ n + k = 16 ∧ 1 ≤ n ∧ Hid (ii = sumT l (n - 1)) ∧ Hid (ff ≤ cc ∧ cc + 2 ≤ 2 ^ n ∧ cc % 2 = 0) ∧
    Hid (SK 4 g W wr) ∧ Hid (Rd w0 A c p most g qq out 0 wr) ∧ Hid (symR (cntT l) (symT l) k n cc ff ii (numB p) (8 * p.length) qq = res)) (fun _ _ _ _ vn _ => 16 - (intOf vn).toNat)
  case atStart =>
    exact ⟨15, 1, 0, 0, 0, q, rfl, rfl, rfl, by simp, rfl, by omega, by omega, Lib.hid rfl, Lib.hid (by decide), Lib.hid ((SK.refl 4 g W).drewN nq), Lib.hid (HR.out.keep rfl fun _ _ => rfl), HS0⟩
  case round =>
    obtain ⟨k, n, cc, ff, ii, qq, rfl, rfl, rfl, rfl, rfl, hnk, hn1, HI, HC, HS, HRR, HE⟩ := hrel
    have hsum : n < 16 → ii + cntT l n ≤ (symT l).length := fun h => by
      have := cnt_le l (n - 1) (by omega)
      rw [show n - 1 + 1 = n from by omega] at this
      rw [HI.out]; exact this
    have hile : ii ≤ (symT l).length := by
      rw [HI.out, symT_len]; exact sumT_mono l (by omega)
    have HLE := Lib.hid hile
    by_cases h16 : n < 16
    · have i16 : (n : Int) < 16 := by omega
      have HSUM := Lib.hid (hsum h16)
      clear hsum hile
      by_cases hrest : ii < (symT l).length
      · have irest : (0 : Int) < ((symT l).length : Int) - ii := by omega
        have irest' : ((symT l).length : Int) - ii > 0 := by omega
        have HRWr := Lib.hid (HW.out.sk HR.out HS.out)
        have HTr := Lib.hid (HT.out.sk HR.out HS.out)
        go_wp2_with fail
        refine (take_calls w0 A c p most g qq out 0 wr 1 HRR.out HRWr.out (by omega)).mono ?_
        rintro ee w2 ⟨b, q2, e2, rfl, hs2, hr2, hcase⟩
        have HS2 : Hid (SK 4 g W w2) := Lib.hid (HS.out.trans hs2.out)
        have HT2 : Hid (Tab base w2 l t) := Lib.hid (HTr.out.sk HRR.out hs2.out)
        have HR2 := Lib.hid hr2.out
        clear hs2 hr2
        obtain ⟨k, rfl⟩ : ∃ k', k = k' + 1 := ⟨k - 1, by omega⟩
        have hpow : 2 ^ n ≤ 32768 := Nat.pow_le_pow_right (n := 2) (by decide) (show n ≤ 15 by omega)
        have HPOW := Lib.hid hpow
        have hr6 := rd_e HR2.out
        have hb2 : b < 2 := by
          rcases hcase with ⟨_, rfl, _⟩ | ⟨_, rfl, _⟩
          · exact Nat.mod_lt _ (by decide)
          · decide
        obtain ⟨d, hd⟩ : ∃ d, d = cc + b := ⟨_, rfl⟩
        have HD := Lib.hid hd
        have hor : bits .or .i64 (cc : Int) (b : Int) = (d : Int) := by
          have := HC.out
          rw [hd]
          exact or_even cc b (by omega) hb2 (by omega)
        have hd2 : d + 1 ≤ 2 ^ n := by have := HC.out; omega
        have hdl : d < 32768 := by omega
        have HD2 := Lib.hid hd2
        have HB2 := Lib.hid hb2
        clear hd2 hb2
        rcases hcase with ⟨h1, hb, h2, h3⟩ | ⟨h1, hb, h2, h3⟩
        · subst h3
          have HB : Hid (tk 1 (numB p) (8 * p.length) qq = .ok (b, q2)) := Lib.hid (by unfold tk; rw [if_pos h1, hb, h2])
          clear hb h1 h2 hpow
          have hE2 := HE.out
          unfold symR at hE2
          rw [if_neg (by omega)] at hE2
          simp only [bndR, HB.out] at hE2
          obtain ⟨v2, hbt, hot⟩ := HT2.out
          obtain ⟨As2, cs2, rfl⟩ := own_slice hot
          have cn : w2.cell? ⟨t, n, none⟩ = some (.int .i64 ((cntT l n : Nat) : Int)) := blk_cellL hbt (tab_get h16)
          have cs16 : w2.cell? ⟨t, 16, none⟩ = some (.slice As2 (symT l).length cs2) := blk_cellL hbt tab_sym
          have HOT := Lib.hid hot
          clear hot hbt
          have hn0 : (0 : Int) ≤ (n : Int) := by omega
          rw [← hd] at hE2
          generalize hct : cntT l n = ct at *
          have HCT := Lib.hid hct
          clear hct hd
          have hct1 : ct ≤ 1000 := by have := HSUM.out; have := HL.out; omega
          have hff : ff ≤ d := by have := HC.out; have := HD.out; omega
          by_cases hyes : d < ff + ct
          · rw [if_pos hyes] at hE2
            have HE2 := Lib.hid hE2
            clear hE2
            have iyes : (d : Int) - (ff : Int) < (ct : Int) := by omega
            have hjl : ii + (d - ff) < (symT l).length := by have := HSUM.out; omega
            have hrd := own_reads' HOT.out
            obtain ⟨ad, rfl, hcell⟩ := hrd.2.2 (by omega)
            have hcj : w2.cell? (ad.add (ii + (d - ff))) = some (.int .i64 (((symT l).getD (ii + (d - ff)) 0 : Nat) : Int)) := by rw [hcell _ hjl, symT_getD]
            clear hcell hrd
            have hw : wrap64 (wrap64 ((ii : Int) + (d : Int)) - (ff : Int)) = ((ii + (d - ff) : Nat) : Int) := by
              have := HL.out
              rw [IntWalk.wrap64_in ((ii : Int) + (d : Int)) (by omega), IntWalk.wrap64_in _ (by omega)]
              omega
            generalize ii + (d - ff) = j at *
            generalize (symT l).getD j 0 = xs at *
            go_wp2_with fail
            go_ret
            refine ⟨xs, q2, 0, rfl, HS2, HR2, .inl ⟨HE2.out.symm, rfl⟩⟩
          · rw [if_neg hyes] at hE2
            have HE2 := Lib.hid hE2
            clear hE2
            have ino : ¬ (d : Int) - (ff : Int) < (ct : Int) := by omega
            go_wp2_with fail
            go_roundw
            case rel =>
              have h1 := HCT.out
              have h2 := HI.out
              have h3 := HC.out
              have h4 := HD.out
              have h5 := HB2.out
              have h6 := HLE.out
              have h7 := HL.out
              have h8 := HPOW.out
              have h9 := HSUM.out
              have hcs := cnt_sum l (n - 1) (by omega)
              rw [show n - 1 + 1 = n from by omega, h1] at hcs
              refine ⟨k, n + 1, 2 * d, 2 * (ff + ct), ii + ct, q2, ?_, ?_, ?_, ?_, by go_num, by omega, by omega, Lib.hid ?_, Lib.hid ⟨by omega, ?_, by omega⟩, HS2, HR2, HE2⟩
              · congr 1
                omega
              · congr 1
                omega
              · congr 1
                rw [IntWalk.wrap64_in _ (by omega)]
                omega
              · congr 1
                rw [IntWalk.wrap64_in _ (by omega)]
                omega
              · rw [show n + 1 - 1 = n from by omega, hcs, h2]
              · rw [Nat.pow_succ]
                omega
            case measure => simp [intOf]; omega
        · subst h3
          have HB : Hid (res = .error 5) := Lib.hid (by
            rw [← HE.out]
            unfold symR
            rw [if_neg (by omega)]
            simp only [bndR, tk]
            rw [if_neg (by omega)])
          have h55 : fst 0 5 = 5 := rfl
          rw [h55] at hr6 HR2
          clear hb h1 hpow
          go_wp2_with fail
          go_ret
          exact ⟨0, q2, 5, rfl, HS2, HR2, .inr ⟨HB.out, by decide⟩⟩
      · have irest : ¬ (0 : Int) < ((symT l).length : Int) - ii := by omega
        obtain ⟨k, rfl⟩ : ∃ k', k = k' + 1 := ⟨k - 1, by omega⟩
        have HB : Hid (res = .error 4) := Lib.hid (by
          rw [← HE.out]
          unfold symR
          rw [if_pos (by omega)]
          rfl)
        go_wp2_with fail
        refine (wrong_calls w0 A c p most g qq out 0 4 wr HRR.out (by omega)).mono ?_
        rintro ee w2 ⟨rfl, hs2, hr2⟩
        have HS2 : Hid (SK 4 g W w2) := Lib.hid (HS.out.trans hs2)
        have HR2 : Hid (Rd w0 A c p most g qq out 4 w2) := Lib.hid hr2
        clear hs2 hr2
        go_wp2_with fail
        go_ret
        exact ⟨0, qq, 4, rfl, HS2, HR2, .inr ⟨HB.out, by decide⟩⟩
    · have i16 : ¬ (n : Int) < 16 := by omega
      obtain rfl : k = 0 := by omega
      have HB : Hid (res = .error 4) := Lib.hid (by
        rw [← HE.out]
        rfl)
      go_wp2_with fail
      refine (wrong_calls w0 A c p most g qq out 0 4 wr HRR.out (by omega)).mono ?_
      rintro ee w2 ⟨rfl, hs2, hr2⟩
      have HS2 : Hid (SK 4 g W w2) := Lib.hid (HS.out.trans hs2)
      have HR2 : Hid (Rd w0 A c p most g qq out 4 w2) := Lib.hid hr2
      clear hs2 hr2
      go_wp2_with fail
      go_ret
      exact ⟨0, qq, 4, rfl, HS2, HR2, .inr ⟨HB.out, by decide⟩⟩
end Go.Proofs.YtkdklcamgcmifaaDoor

/-! HLenD: inflate's reader: length, distance. -/
namespace Go.Proofs.YtkdklcamgcmifaaDoor
set_option linter.unusedVariables false
set_option linter.unusedSimpArgs false
open Go.RowKit Go.Proofs.YtkdklcamgcmifaaDoorW.PrintWords Go.Proofs.YtkdklcamgcmifaaDoorW.PrintMore
/-- What a call that reads a number tells. -/
def Told (w0 : World) (A : Option Addr) (c : Nat) (p : List Int) (most g : Nat) (out : List Int) (W : World) (r : Except Int (Nat × Nat)) (ee : Ending) (w' : World) : Prop :=
  ∃ (x q' : Nat) (e' : Int), ee = .returned (.int .i64 x) ∧ Hid (SK 4 g W w') ∧ Hid (Rd w0 A c p most g q' out e' w') ∧ ((r = .ok (x, q') ∧ e' = 0) ∨ (r = .error e' ∧ e' ≠ 0))
theorem wr64 (z : Int) (h : -1000000000000 ≤ z ∧ z ≤ 1000000000000) : IntKind.i64.wrap z = z := by rw [IntKind.wrap_i64]; omega
theorem shl_val (k y x a v : Nat) (hk : k ≤ 4) (hy : y < 4) (hx : x ≤ 13) (ha : a ≤ 3) (hv : v < 100000) :
    IntKind.i64.wrap (IntKind.i64.wrap (IntKind.i64.wrap (IntKind.i64.wrap ((k : Int) + (y : Int)) * 2 ^ x) + (a : Int)) + (v : Int)) = (((k + y) * 2 ^ x + a + v : Nat) : Int) := by
  have hp : 2 ^ x ≤ 8192 := Nat.pow_le_pow_right (n := 2) (by decide) hx
  have hm : (k + y) * 2 ^ x ≤ 7 * 8192 := Nat.mul_le_mul (by omega) hp
  have he : ((k : Int) + (y : Int)) * 2 ^ x = (((k + y) * 2 ^ x : Nat) : Int) := by simp
  rw [wr64 ((k : Int) + (y : Int)) (by omega), he]
  generalize (k + y) * 2 ^ x = m at *
  rw [wr64 (m : Int) (by omega), wr64 ((m : Int) + (a : Int)) (by omega), wr64 _ (by omega)]
  omega
set_option maxRecDepth 8000 in
set_option maxHeartbeats 4000000 in
theorem length_calls (w0 : World) (A : Option Addr) (c : Nat) (p : List Int) (most g q : Nat) (out : List Int) (W : World) (s : Nat) (hr : Rd w0 A c p most g q out 0 W) (hw : Rw w0 A c p g W) (hs : 257 ≤ s ∧ s ≤ 1000) :
    Calls Tryd.prog 47 #[.pointer (some ⟨g, 0, none⟩), .int .i64 s] W fun ee w' => Told w0 A c p most g out W (lenR s (numB p) (8 * p.length) q) ee w' := by
  by_cases h1 : 285 < s
  · have i1 : (s : Int) > 285 := by omega
    have hres : lenR s (numB p) (8 * p.length) q = .error 4 := by unfold lenR; rw [if_pos h1]; rfl
    rw [hres]
    go_enter Tryd.func47, Tryd.ntmps47
    go_wp2_with fail
    refine (wrong_calls w0 A c p most g q out 0 4 W hr (by omega)).mono ?_
    rintro ee w2 ⟨rfl, hs2, hr2⟩
    have HS2 := Lib.hid hs2
    have HR2 : Hid (Rd w0 A c p most g q out 4 w2) := Lib.hid hr2
    clear hs2 hr2
    go_wp2_with fail
    go_ret
    exact ⟨0, q, 4, rfl, HS2, HR2, .inr ⟨rfl, by decide⟩⟩
  have i1 : ¬ (s : Int) > 285 := by omega
  by_cases h2 : s = 285
  · subst h2
    have hres : lenR 285 (numB p) (8 * p.length) q = .ok (258, q) := rfl
    rw [hres]
    go_enter Tryd.func47, Tryd.ntmps47
    go_wp2_with fail
    go_ret
    exact ⟨258, q, 0, rfl, Lib.hid (SK.refl 4 g W), Lib.hid hr, .inl ⟨rfl, rfl⟩⟩
  have i2 : ¬ (s : Int) = 285 := by omega
  by_cases h3 : s < 265
  · have i3 : (s : Int) < 265 := by omega
    have hres : lenR s (numB p) (8 * p.length) q = .ok (s - 254, q) := by unfold lenR; rw [if_neg h1, if_neg h2, if_pos h3]; rfl
    rw [hres]
    go_enter Tryd.func47, Tryd.ntmps47
    go_wp2_with fail
    go_ret
    refine ⟨s - 254, q, 0, ?_, Lib.hid (SK.refl 4 g W), Lib.hid hr, .inl ⟨rfl, rfl⟩⟩
    congr 1
    show Value.int .i64 ((s : Int) - 254) = _
    congr 1
    omega
  have i3 : ¬ (s : Int) < 265 := by omega
  obtain ⟨x, hx⟩ : ∃ x, x = (s - 261) / 4 := ⟨_, rfl⟩
  obtain ⟨y, hy⟩ : ∃ y, y = (s - 261) % 4 := ⟨_, rfl⟩
  have ix : ((s : Int) - 261) / 4 = (x : Int) := by omega
  have iy : bits .and .i64 ((s : Int) - 261) 3 = (y : Int) := by
    have h := bits_mask .i64 40 (by decide) (fun n h0 h1 => by rw [IntKind.wrap_i64]; omega) 2 (by omega) ((s : Int) - 261) (by omega) (by simp; omega)
    have h' : bits .and .i64 ((s : Int) - 261) 3 = ((s : Int) - 261) % 4 := by simpa using h
    rw [h']
    omega
  have hxl : x ≤ 5 := by omega
  have hyl : y < 4 := by omega
  have hres : lenR s (numB p) (8 * p.length) q = bndR (tk x) (fun v => retR ((4 + y) * 2 ^ x + 3 + v)) (numB p) (8 * p.length) q := by unfold lenR; rw [if_neg h1, if_neg h2, if_neg h3, ← hx, ← hy]
  rw [hres]
  have HH := Lib.hid (And.intro hx hy)
  have hx0 : (0 : Int) ≤ (x : Int) := by omega
  have hx64 : (x : Int) < 64 := by omega
  clear hres hx hy h1 h2 h3
  go_enter Tryd.func47, Tryd.ntmps47
  go_wp2_with fail
  have HRD : Hid (Rd w0 A c p most g q out 0 W.drew) := Lib.hid (hr.keep rfl fun _ _ => rfl)
  have HWD : Hid (Rw w0 A c p g W.drew) := Lib.hid (hw.sk hr ((SK.refl 4 g W).drew))
  have HX5 := Lib.hid hxl
  have HT : Hid True := Lib.hid trivial
  clear hr hw
  go_region_held3 (fun W => True) (exact HT.out) (first | (go_at_call 41; refine (take_calls w0 A c p most g q out 0 W.drew x HRD.out HWD.out (by have := HX5.out; omega)).mono ?_; rintro ee w2 ⟨v, q2, e2, rfl, hs2, hr2, hcase⟩))
  have HS2 : Hid (SK 4 g W w2) := Lib.hid ((SK.refl 4 g W).drew.trans hs2.out)
  have HR2 := Lib.hid hr2.out
  have HC := Lib.hid hcase
  clear hs2 hr2 hcase
  go_wp2_with fail
  go_ret
  have hv : v < 2 ^ x := by
    rcases HC.out with ⟨_, h, _⟩ | ⟨_, h, _⟩
    · rw [h]; exact Nat.mod_lt _ (Nat.pow_pos (by decide))
    · rw [h]; exact Nat.pow_pos (by decide)
  have hp : 2 ^ x ≤ 32 := Nat.pow_le_pow_right (n := 2) (by decide) hxl
  refine ⟨(4 + y) * 2 ^ x + 3 + v, q2, e2, ?_, HS2, HR2, ?_⟩
  · have h1 := shl_val 4 y x 3 v (by omega) hyl (by omega) (by omega) (by omega)
    rw [← h1, ← iy]
    have h2 : IntKind.i64.wrap ((s : Int) - 261) = (s : Int) - 261 := wr64 _ (by omega)
    simp [h2]
  · rcases HC.out with ⟨h, h1, h2, h3⟩ | ⟨h, h1, h2, h3⟩
    · refine .inl ⟨?_, h3⟩
      simp only [bndR, tk]
      rw [if_pos h, ← h1, h2]
      rfl
    · refine .inr ⟨?_, by rw [h3]; decide⟩
      simp only [bndR, tk]
      rw [if_neg (by omega), h3]
      rfl
set_option maxRecDepth 8000 in
set_option maxHeartbeats 4000000 in
theorem distance_calls (w0 : World) (A : Option Addr) (c : Nat) (p : List Int) (most g q : Nat) (out : List Int) (W : World) (s : Nat) (hr : Rd w0 A c p most g q out 0 W) (hw : Rw w0 A c p g W) (hs : s ≤ 1000) :
    Calls Tryd.prog 48 #[.pointer (some ⟨g, 0, none⟩), .int .i64 s] W fun ee w' => Told w0 A c p most g out W (disR s (numB p) (8 * p.length) q) ee w' := by
  by_cases h1 : 29 < s
  · have i1 : (s : Int) > 29 := by omega
    have hres : disR s (numB p) (8 * p.length) q = .error 4 := by unfold disR; rw [if_pos h1]; rfl
    rw [hres]
    go_enter Tryd.func48, Tryd.ntmps48
    go_wp2_with fail
    refine (wrong_calls w0 A c p most g q out 0 4 W hr (by omega)).mono ?_
    rintro ee w2 ⟨rfl, hs2, hr2⟩
    have HS2 := Lib.hid hs2
    have HR2 : Hid (Rd w0 A c p most g q out 4 w2) := Lib.hid hr2
    clear hs2 hr2
    go_wp2_with fail
    go_ret
    exact ⟨0, q, 4, rfl, HS2, HR2, .inr ⟨rfl, by decide⟩⟩
  have i1 : ¬ (s : Int) > 29 := by omega
  by_cases h3 : s < 4
  · have i3 : (s : Int) < 4 := by omega
    have hres : disR s (numB p) (8 * p.length) q = .ok (s + 1, q) := by unfold disR; rw [if_neg h1, if_pos h3]; rfl
    rw [hres]
    go_enter Tryd.func48, Tryd.ntmps48
    go_wp2_with fail
    go_ret
    refine ⟨s + 1, q, 0, ?_, Lib.hid (SK.refl 4 g W), Lib.hid hr, .inl ⟨rfl, rfl⟩⟩
    show Ending.returned (.int .i64 ((s : Int) + 1)) = _
    rw [show ((s + 1 : Nat) : Int) = (s : Int) + 1 from by omega]
  have i3 : ¬ (s : Int) < 4 := by omega
  obtain ⟨x, hx⟩ : ∃ x, x = s / 2 - 1 := ⟨_, rfl⟩
  obtain ⟨y, hy⟩ : ∃ y, y = s % 2 := ⟨_, rfl⟩
  have ix : (s : Int) / 2 - 1 = (x : Int) := by omega
  have iy : bits .and .i64 (s : Int) 1 = (y : Int) := by
    have h := bits_mask .i64 40 (by decide) (fun n h0 h1 => by rw [IntKind.wrap_i64]; omega) 1 (by omega) (s : Int) (by omega) (by omega)
    have h' : bits .and .i64 (s : Int) 1 = (s : Int) % 2 := by simpa using h
    rw [h']
    omega
  have hxl : x ≤ 13 := by omega
  have hyl : y < 2 := by omega
  have hres : disR s (numB p) (8 * p.length) q = bndR (tk x) (fun v => retR ((2 + y) * 2 ^ x + 1 + v)) (numB p) (8 * p.length) q := by unfold disR; rw [if_neg h1, if_neg h3, ← hx, ← hy]
  rw [hres]
  have HH := Lib.hid (And.intro hx hy)
  have hx0 : (0 : Int) ≤ (x : Int) := by omega
  have hx64 : (x : Int) < 64 := by omega
  clear hres hx hy h1 h3
  go_enter Tryd.func48, Tryd.ntmps48
  go_wp2_with fail
  have HRD : Hid (Rd w0 A c p most g q out 0 W.drew) := Lib.hid (hr.keep rfl fun _ _ => rfl)
  have HWD : Hid (Rw w0 A c p g W.drew) := Lib.hid (hw.sk hr ((SK.refl 4 g W).drew))
  have HX5 := Lib.hid hxl
  have HT : Hid True := Lib.hid trivial
  clear hr hw
  go_region_held3 (fun W => True) (exact HT.out) (first | (go_at_call 41; refine (take_calls w0 A c p most g q out 0 W.drew x HRD.out HWD.out (by have := HX5.out; omega)).mono ?_; rintro ee w2 ⟨v, q2, e2, rfl, hs2, hr2, hcase⟩))
  have HS2 : Hid (SK 4 g W w2) := Lib.hid ((SK.refl 4 g W).drew.trans hs2.out)
  have HR2 := Lib.hid hr2.out
  have HC := Lib.hid hcase
  clear hs2 hr2 hcase
  go_wp2_with fail
  go_ret
  have hv : v < 2 ^ x := by
    rcases HC.out with ⟨_, h, _⟩ | ⟨_, h, _⟩
    · rw [h]; exact Nat.mod_lt _ (Nat.pow_pos (by decide))
    · rw [h]; exact Nat.pow_pos (by decide)
  have hp : 2 ^ x ≤ 8192 := Nat.pow_le_pow_right (n := 2) (by decide) hxl
  refine ⟨(2 + y) * 2 ^ x + 1 + v, q2, e2, ?_, HS2, HR2, ?_⟩
  · have h1 := shl_val 2 y x 1 v (by omega) (by omega) (by omega) (by omega) (by omega)
    rw [← h1, ← iy]
    simp
  · rcases HC.out with ⟨h, h1, h2, h3⟩ | ⟨h, h1, h2, h3⟩
    · refine .inl ⟨?_, h3⟩
      simp only [bndR, tk]
      rw [if_pos h, ← h1, h2]
      rfl
    · refine .inr ⟨?_, by rw [h3]; decide⟩
      simp only [bndR, tk]
      rw [if_neg (by omega), h3]
      rfl
end Go.Proofs.YtkdklcamgcmifaaDoor

/-! HRep: inflate's reader: repeat. -/
namespace Go.Proofs.YtkdklcamgcmifaaDoor
set_option linter.unusedVariables false
set_option linter.unusedSimpArgs false
open Go.RowKit Go.Proofs.YtkdklcamgcmifaaDoorW.PrintWords Go.Proofs.YtkdklcamgcmifaaDoorW.PrintMore
theorem rd_out {m : Nat} {w0 : World} {A : Option Addr} {c most g q : Nat} {p out : List Int} {e : Int} {W : World} (h : Rdm m w0 A c p most g q out e W) : ∃ (A1 : Option Addr) (c1 : Nat), W.cell? ⟨g, 4, none⟩ = some (.slice A1 out.length c1) ∧ ReadsInt W .u8 A1 out.length out ∧ out.length ≤ most ∧ most ≤ 1048576 := by
  obtain ⟨at_, n, v, hb, ho, h1, h2, h3, h4, h5, h6⟩ := h
  obtain ⟨A1, c1, rfl⟩ := own_slice ho
  exact ⟨A1, c1, blk_cell hb 4, own_reads' ho, h6⟩
/-- What a call that puts out tells. -/
def ToldO (w0 : World) (A : Option Addr) (c : Nat) (p : List Int) (most g : Nat) (W : World) (e : Int) (r : Except Int (List Int × Nat)) (ee : Ending) (w' : World) : Prop :=
  ∃ (out' : List Int) (q' : Nat) (e' : Int), ee = .returned (.tuple #[]) ∧ Hid (SK 4 g W w') ∧ Hid (Rd w0 A c p most g q' out' e' w') ∧ ((e ≠ 0 ∧ e' = e) ∨ (e = 0 ∧ ((r = .ok (out', q') ∧ e' = 0) ∨ (r = .error e' ∧ e' ≠ 0))))
def atQ (q : Nat) : Except Int (List Int) → Except Int (List Int × Nat)
  | .ok o => .ok (o, q)
  | .error e => .error e
set_option maxRecDepth 8000 in
set_option maxHeartbeats 4000000 in
theorem repeat_calls (w0 : World) (A : Option Addr) (c : Nat) (p : List Int) (most g q : Nat) (out : List Int) (e : Int) (W : World) (n far : Nat) (hr : Rd w0 A c p most g q out e W) (hw : Rw w0 A c p g W) (hn : n ≤ 1000) (hf : 1 ≤ far ∧ far ≤ 100000) :
    Calls Tryd.prog 49 #[.pointer (some ⟨g, 0, none⟩), .int .i64 n, .int .i64 far] W fun ee w' => ToldO w0 A c p most g W e (atQ q (if out.length < far then .error 4 else repO most far n out)) ee w' := by
  have c6 := rd_e hr
  obtain ⟨A1, c1, c4, hrd, hlm, hmm⟩ := rd_out hr
  have HR := Lib.hid hr
  have HW := Lib.hid hw
  have HM := Lib.hid (And.intro hlm hmm)
  have HN := Lib.hid hn
  have HF := Lib.hid hf
  obtain ⟨rr, hrr⟩ : ∃ rr, rr = (if out.length < far then .error 4 else repO most far n out) := ⟨_, rfl⟩
  rw [← hrr]
  by_cases he : e = 0
  · subst he
    by_cases hfar : out.length < far
    · have ifar : (far : Int) > (out.length : Int) := by omega
      have HRES : Hid (atQ q rr = .error 4) := Lib.hid (by rw [hrr, if_pos hfar]; rfl)
      clear hrr
      clear hr hw hrd hlm hmm hn hf
      go_enter Tryd.func49, Tryd.ntmps49
      go_wp2_with fail
      refine (wrong_calls w0 A c p most g q out 0 4 W HR.out (by omega)).mono ?_
      rintro ee w2 ⟨rfl, hs2, hr2⟩
      have HS2 : Hid (SK 4 g W w2) := Lib.hid hs2
      have hr2' : Rd w0 A c p most g q out 4 w2 := hr2
      have k6 := rd_e hr2'
      have HR2 := Lib.hid hr2'
      clear hs2 hr2 hr2'
      go_wp2_with fail
      go_loopw [1] (fun v wr => v = .int .i64 n ∧ wr = w2) (fun _ _ => 0)
      case atStart => exact ⟨rfl, rfl⟩
      case round =>
        obtain ⟨rfl, rfl⟩ := hrel
        by_cases hn0 : n = 0
        · subst hn0
          go_wp2_with fail
          refine bodyPost_end (results_none rfl _ _ _) rfl ⟨out, q, 4, rfl, HS2, HR2, .inr ⟨rfl, .inr ⟨HRES.out, by decide⟩⟩⟩
        · have hn1 : (0 : Int) < (n : Int) := by omega
          go_wp2_with fail
          refine bodyPost_end (results_none rfl _ _ _) rfl ⟨out, q, 4, rfl, HS2, HR2, .inr ⟨rfl, .inr ⟨HRES.out, by decide⟩⟩⟩
    · have ifar : ¬ (far : Int) > (out.length : Int) := by omega
      have HFAR := Lib.hid hfar
      have HRES := Lib.hid (show rr = repO most far n out from by rw [hrr, if_neg hfar])
      clear hr hw hrd hlm hmm hn hf hrr hfar
      go_enter Tryd.func49, Tryd.ntmps49
      go_wp2_with fail
      go_loopw [1] (fun v wr => ∃ (k : Nat) (o : List Int) (e1 : Int), v = .int .i64 k ∧ Hid (k ≤ n) ∧ Hid (far ≤ o.length) ∧ Hid (SK 4 g W wr) ∧ Hid (Rd w0 A c p most g q o e1 wr) ∧ Hid ((e1 = 0 ∧ repO most far k o = rr) ∨ (e1 ≠ 0 ∧ rr = .error e1))) (fun v _ => (intOf v).toNat)
      case atStart => exact ⟨n, out, 0, rfl, Lib.hid (Nat.le_refl _), Lib.hid (by have := HFAR.out; omega), Lib.hid (SK.refl 4 g W), HR, Lib.hid (.inl ⟨rfl, HRES.out.symm⟩)⟩
      case round =>
        obtain ⟨k, o, e1, rfl, HK, HL, HS, HRR, HE⟩ := hrel
        clear c6 c4
        have k6 := rd_e HRR.out
        obtain ⟨A2, c2, k4, hrd2, hlm2, hmm2⟩ := rd_out HRR.out
        have HM2 := Lib.hid (And.intro hlm2 hmm2)
        clear hlm2 hmm2
        by_cases he1 : e1 = 0
        · subst he1
          have hE : repO most far k o = rr := by
            rcases HE.out with ⟨_, h⟩ | ⟨h, _⟩
            · exact h
            · exact absurd rfl h
          cases k with
          | zero =>
            go_wp2_with fail
            refine bodyPost_end (results_none rfl _ _ _) rfl ⟨o, q, 0, rfl, HS, HRR, .inr ⟨rfl, .inl ⟨by rw [← hE]; rfl, rfl⟩⟩⟩
          | succ k =>
            have HE2 := Lib.hid hE
            clear hE
            have hj : o.length - far < o.length := by have := HL.out; have := HF.out; omega
            obtain ⟨ad, rfl, hcell⟩ := hrd2.2.2 (by omega)
            have hcj : wr.cell? (ad.add (o.length - far)) = some (.int .u8 (o.getD (o.length - far) 0)) := hcell _ hj
            have hw1 : IntKind.i64.wrap ((o.length : Int) - (far : Int)) = ((o.length - far : Nat) : Int) := by
              rw [IntKind.wrap_i64]
              have := HL.out
              have := HM2.out
              omega
            clear hrd2 hcell
            generalize hgj : o.length - far = j at *
            generalize hgx : o.getD j 0 = x at *
            have HGX := Lib.hid (And.intro hgj hgx)
            clear hgj hgx
            have hk0 : (0 : Int) < (k : Int) + 1 := by omega
            go_wp2_with fail
            go_still_tail 14, (by kernel_rfl)
            go_wp2_with fail
            refine (emit_calls w0 A c p most g q o x wr.drew (HRR.out.keep rfl fun _ _ => rfl) (HW.out.sk HR.out HS.out).below.size).mono ?_
            rintro ee w2 ⟨o2, e2, rfl, hs2, hr2, hcase⟩
            have HS2 : Hid (SK 4 g W w2) := Lib.hid (HS.out.drew.trans hs2.out)
            have HR2 := Lib.hid hr2.out
            have HC := Lib.hid hcase
            clear hs2 hr2 hcase hw1
            go_wp2_with fail
            have hwk : wrap64 (k : Int) = (k : Int) := IntWalk.wrap64_in _ (by have := HK.out; have := HN.out; omega)
            rw [hwk]
            clear hwk
            go_roundw
            case rel =>
              refine ⟨k, o2, e2, rfl, Lib.hid (by have := HK.out; omega), ?_, HS2, HR2, ?_⟩
              · refine Lib.hid ?_
                have := HL.out
                rcases HC.out with ⟨_, h, _⟩ | ⟨_, h, _⟩
                · rw [h]; simp; omega
                · rw [h]; exact this
              · refine Lib.hid ?_
                have h0 := HE2.out
                simp only [repO, putO, HGX.out.1, HGX.out.2] at h0
                rcases HC.out with ⟨h1, h2, h3⟩ | ⟨h1, h2, h3⟩
                · rw [if_neg (by omega)] at h0
                  exact .inl ⟨h3, by rw [h2]; exact h0⟩
                · rw [if_pos h1] at h0
                  exact .inr ⟨by rw [h3]; decide, by rw [h3]; exact h0.symm⟩
            case measure => simp [intOf]
        · have hk0 : 0 ≤ (k : Int) := by omega
          by_cases hkz : k = 0
          · subst hkz
            go_wp2_with fail
            refine bodyPost_end (results_none rfl _ _ _) rfl ⟨o, q, e1, rfl, HS, HRR, .inr ⟨rfl, .inr ⟨?_, he1⟩⟩⟩
            rcases HE.out with ⟨h, _⟩ | ⟨_, h⟩
            · exact absurd h he1
            · rw [h]; rfl
          · have hk1 : (0 : Int) < (k : Int) := by omega
            go_wp2_with fail
            refine bodyPost_end (results_none rfl _ _ _) rfl ⟨o, q, e1, rfl, HS, HRR, .inr ⟨rfl, .inr ⟨?_, he1⟩⟩⟩
            rcases HE.out with ⟨h, _⟩ | ⟨_, h⟩
            · exact absurd h he1
            · rw [h]; rfl
  · have he' : (e == 0) = false := by simp [he]
    clear hr hw hrd hlm hmm hn hf hrr
    go_enter Tryd.func49, Tryd.ntmps49
    go_wp2_with fail
    go_loopw [1] (fun v wr => v = .int .i64 n ∧ wr = W) (fun _ _ => 0)
    case atStart => exact ⟨rfl, rfl⟩
    case round =>
      obtain ⟨rfl, rfl⟩ := hrel
      by_cases hn0 : n = 0
      · subst hn0
        go_wp2_with fail
        refine bodyPost_end (results_none rfl _ _ _) rfl ⟨out, q, e, rfl, Lib.hid (SK.refl 4 g wr), HR, .inl ⟨he, rfl⟩⟩
      · have hn1 : (0 : Int) < (n : Int) := by omega
        go_wp2_with fail
        refine bodyPost_end (results_none rfl _ _ _) rfl ⟨out, q, e, rfl, Lib.hid (SK.refl 4 g wr), HR, .inl ⟨he, rfl⟩⟩
end Go.Proofs.YtkdklcamgcmifaaDoor

/-! HSto: inflate's reader: stored. -/
namespace Go.Proofs.YtkdklcamgcmifaaDoor
set_option linter.unusedVariables false
set_option linter.unusedSimpArgs false
open Go.RowKit Go.Proofs.YtkdklcamgcmifaaDoorW.PrintWords Go.Proofs.YtkdklcamgcmifaaDoorW.PrintMore
/-- What take tells. -/
def TkC (N T q : Nat) (e : Int) (n x q' : Nat) (e' : Int) : Prop := (q + n ≤ N ∧ x = T / 2 ^ q % 2 ^ n ∧ q' = q + n ∧ e' = e) ∨ (N < q + n ∧ x = 0 ∧ q' = q ∧ e' = fst e 5)
theorem TkC.lt {N T q n x q' : Nat} {e e' : Int} (h : TkC N T q e n x q' e') : x < 2 ^ n := by
  rcases h with ⟨_, h, _⟩ | ⟨_, h, _⟩
  · rw [h]; exact Nat.mod_lt _ (Nat.pow_pos (by decide))
  · rw [h]; exact Nat.pow_pos (by decide)
theorem TkC.ok {N T q n x q' : Nat} {e' : Int} (h : TkC N T q 0 n x q' e') : (tk n T N q = .ok (x, q') ∧ e' = 0) ∨ (tk n T N q = .error 5 ∧ e' = 5) := by
  unfold tk
  rcases h with ⟨h, h1, h2, h3⟩ | ⟨h, h1, h2, h3⟩
  · exact .inl ⟨by rw [if_pos h, h1, h2], h3⟩
  · exact .inr ⟨by rw [if_neg (by omega)], h3⟩
theorem TkC.err {N T q n x q' : Nat} {e e' : Int} (h : TkC N T q e n x q' e') (he : e ≠ 0) : e' = e := by
  rcases h with ⟨_, _, _, h⟩ | ⟨_, _, _, h⟩
  · exact h
  · rw [h, fst, if_neg he]
theorem or_lo (a b : Nat) (ha : a < 256) (hb : b < 256) : bits .or .i64 (a : Int) ((b : Int) * 256) = ((a + 256 * b : Nat) : Int) := by
  have hc : bits .or .i64 (a : Int) ((b : Int) * 256) = bits .or .i64 ((b : Int) * 256) (a : Int) := by simp only [bits, BitVec.or_comm]
  rw [hc, bits_join .i64 40 (by decide) (fun n h0 h1 => by rw [IntKind.wrap_i64]; omega) 8 ((b : Int) * 256) (a : Int) (by omega) (by omega) (by omega) (by omega) (by omega) (by omega)]
  omega
theorem i64_and65535 (n : Int) : bits .and .i64 n 65535 = n % 65536 := by
  have h1 : (BitVec.ofInt 64 65535).toNat = 2 ^ 16 - 1 := by decide
  have key : (BitVec.ofInt 64 n &&& BitVec.ofInt 64 65535).toNat = (n % ((2 ^ 64 : Nat) : Int)).toNat % 2 ^ 16 := by
    rw [BitVec.toNat_and, BitVec.toNat_ofInt, h1, Nat.and_two_pow_sub_one_eq_mod]
  show IntKind.i64.wrap ((BitVec.ofInt 64 n &&& BitVec.ofInt 64 65535).toNat : Nat) = n % 65536
  rw [key, IntKind.wrap_i64]
  omega
theorem not65535 (m : Nat) (h : m ≤ 65535) : bits .and .i64 (bits .xor .i64 (-1) (m : Int)) 65535 = ((65535 - m : Nat) : Int) := by
  have h1 : bits .xor .i64 (-1) (m : Int) = -(m : Int) - 1 := by
    have e : (BitVec.ofInt 64 (-1) ^^^ BitVec.ofInt 64 (m : Int)).toNat = 18446744073709551615 - m := by
      rw [show BitVec.ofInt 64 (-1) = BitVec.allOnes 64 from by decide, BitVec.allOnes_xor, BitVec.toNat_not, BitVec.ofInt_natCast, BitVec.toNat_ofNat]
      omega
    show IntKind.i64.wrap ((BitVec.ofInt 64 (-1) ^^^ BitVec.ofInt 64 (m : Int)).toNat : Nat) = _
    rw [e, IntKind.wrap_i64]
    omega
  rw [h1, i64_and65535]
  omega
/-- Four bytes taken: two numbers of 16 bits. -/
theorem four_tk {N T q q1 q2 q3 q4 x1 x2 x3 x4 : Nat} {e1 e2 e3 e4 : Int} (h1 : TkC N T q 0 8 x1 q1 e1) (h2 : TkC N T q1 e1 8 x2 q2 e2) (h3 : TkC N T q2 e2 8 x3 q3 e3) (h4 : TkC N T q3 e3 8 x4 q4 e4) :
    (tk 16 T N q = .ok (x1 + 256 * x2, q + 16) ∧ tk 16 T N (q + 16) = .ok (x3 + 256 * x4, q + 32) ∧ q4 = q + 32 ∧ e4 = 0) ∨
    ((∀ f : Nat → Nat → Rdr (List Int), bndR (tk 16) (fun n => bndR (tk 16) fun m => f n m) T N q = .error 5) ∧ e4 = 5) := by
  have hs : ∀ q, T / 2 ^ q % 2 ^ 16 = T / 2 ^ q % 2 ^ 8 + 256 * (T / 2 ^ (q + 8) % 2 ^ 8) := fun q => pow_split T q 8 8
  by_cases hq : q + 32 ≤ N
  · left
    obtain ⟨a, rfl, rfl, rfl⟩ := h1.resolve_right (fun h => by have := h.1; omega)
    obtain ⟨b, rfl, rfl, rfl⟩ := h2.resolve_right (fun h => by have := h.1; omega)
    obtain ⟨c, rfl, rfl, rfl⟩ := h3.resolve_right (fun h => by have := h.1; omega)
    obtain ⟨d, rfl, rfl, rfl⟩ := h4.resolve_right (fun h => by have := h.1; omega)
    unfold tk
    rw [if_pos (by omega), if_pos (by omega), hs, hs]
    exact ⟨rfl, rfl, rfl, rfl⟩
  · right
    constructor
    · intro f
      unfold bndR tk
      by_cases h16 : q + 16 ≤ N
      · rw [if_pos h16]
        simp only []
        rw [if_neg (by omega)]
      · rw [if_neg h16]
    · have h5 : fst 0 5 = 5 := rfl
      have h55 : fst 5 5 = 5 := rfl
      rcases h1 with ⟨a, _, rfl, rfl⟩ | ⟨a, _, rfl, rfl⟩ <;> rcases h2 with ⟨b, _, rfl, rfl⟩ | ⟨b, _, rfl, rfl⟩ <;> rcases h3 with ⟨c, _, rfl, rfl⟩ | ⟨c, _, rfl, rfl⟩ <;> rcases h4 with ⟨d, _, rfl, rfl⟩ | ⟨d, _, rfl, rfl⟩ <;> first | omega | rfl
set_option maxRecDepth 8000 in
set_option maxHeartbeats 4000000 in
theorem stored_calls (w0 : World) (A : Option Addr) (c : Nat) (p : List Int) (most g q : Nat) (out : List Int) (W : World) (hr : Rd w0 A c p most g q out 0 W) (hw : Rw w0 A c p g W) :
    Calls Tryd.prog 50 #[.pointer (some ⟨g, 0, none⟩)] W fun ee w' => ToldO w0 A c p most g W 0 (bndR (tk 16) (fun n => bndR (tk 16) fun m => if n + m ≠ 65535 then badR 4 else bytO most n out) (numB p) (8 * p.length) q) ee w' := by
  have HR := Lib.hid hr
  have HW := Lib.hid hw
  obtain ⟨rr, hrr⟩ : ∃ rr, rr = bndR (tk 16) (fun n => bndR (tk 16) fun m => if n + m ≠ 65535 then badR 4 else bytO most n out) (numB p) (8 * p.length) q := ⟨_, rfl⟩
  rw [← hrr]
  have HRES := Lib.hid hrr
  clear hrr hr hw
  go_enter Tryd.func50, Tryd.ntmps50
  go_wp2_with fail
  refine (take_calls w0 A c p most g q out 0 W 8 HR.out HW.out (by omega)).mono ?_
  rintro ee w1 ⟨x1, q1, e1, rfl, hs1, hr1, hc1⟩
  have HS1 : Hid (SK 4 g W w1) := hs1
  have HR1 := Lib.hid hr1.out
  have HC1 : Hid (TkC (8 * p.length) (numB p) q 0 8 x1 q1 e1) := Lib.hid hc1
  clear hs1 hr1 hc1
  go_wp2_with fail
  refine (take_calls w0 A c p most g q1 out e1 w1 8 HR1.out (HW.out.sk HR.out HS1.out) (by omega)).mono ?_
  rintro ee w2 ⟨x2, q2, e2, rfl, hs2, hr2, hc2⟩
  have HS2 : Hid (SK 4 g W w2) := Lib.hid (HS1.out.trans hs2.out)
  have HR2 := Lib.hid hr2.out
  have HC2 : Hid (TkC (8 * p.length) (numB p) q1 e1 8 x2 q2 e2) := Lib.hid hc2
  clear hs2 hr2 hc2
  have hx1 := HC1.out.lt
  have hx2 := HC2.out.lt
  obtain ⟨n, hn⟩ : ∃ n, n = x1 + 256 * x2 := ⟨_, rfl⟩
  have ho1 : bits .or .i64 (x1 : Int) ((x2 : Int) * 256) = (n : Int) := by rw [hn]; exact or_lo x1 x2 hx1 hx2
  have HX2 := Lib.hid (And.intro hx1 hx2)
  have HN := Lib.hid hn
  clear hn hx1
  go_wp2_with fail
  refine (take_calls w0 A c p most g q2 out e2 w2 8 HR2.out (HW.out.sk HR.out HS2.out) (by omega)).mono ?_
  rintro ee w3 ⟨x3, q3, e3, rfl, hs3, hr3, hc3⟩
  have HS3 : Hid (SK 4 g W w3) := Lib.hid (HS2.out.trans hs3.out)
  have HR3 := Lib.hid hr3.out
  have HC3 : Hid (TkC (8 * p.length) (numB p) q2 e2 8 x3 q3 e3) := Lib.hid hc3
  clear hs3 hr3 hc3
  go_wp2_with fail
  refine (take_calls w0 A c p most g q3 out e3 w3 8 HR3.out (HW.out.sk HR.out HS3.out) (by omega)).mono ?_
  rintro ee w4 ⟨x4, q4, e4, rfl, hs4, hr4, hc4⟩
  have HS4 : Hid (SK 4 g W w4) := Lib.hid (HS3.out.trans hs4.out)
  have HR4 := Lib.hid hr4.out
  have HC4 : Hid (TkC (8 * p.length) (numB p) q3 e3 8 x4 q4 e4) := Lib.hid hc4
  clear hs4 hr4 hc4
  have hx3 := HC3.out.lt
  have hx4 := HC4.out.lt
  obtain ⟨m, hm⟩ : ∃ m, m = x3 + 256 * x4 := ⟨_, rfl⟩
  have ho3 : bits .or .i64 (x3 : Int) ((x4 : Int) * 256) = (m : Int) := by rw [hm]; exact or_lo x3 x4 hx3 hx4
  have HM := Lib.hid hm
  have HNM := Lib.hid (show n ≤ 65535 ∧ m ≤ 65535 from by have := HN.out; have := HX2.out; omega)
  have HF : Hid ((tk 16 (numB p) (8 * p.length) q = .ok (n, q + 16) ∧ tk 16 (numB p) (8 * p.length) (q + 16) = .ok (m, q + 32) ∧ q4 = q + 32 ∧ e4 = 0) ∨ (rr = .error 5 ∧ e4 = 5)) := Lib.hid (by
    rcases four_tk HC1.out HC2.out HC3.out HC4.out with h | ⟨h, h2⟩
    · left; rw [HN.out, hm]; exact h
    · right; exact ⟨by rw [HRES.out]; exact h _, h2⟩)
  clear hm hx3 HS1 HS2 HS3 HR1 HR2 HR3 HC1 HC2 HC3 HC4
  have k6 := rd_e HR4.out
  rcases HF.out with ⟨h1, h2, h3, h4⟩ | ⟨h1, h2⟩
  · subst h4
    subst h3
    have hR := HRES.out
    simp only [bndR, h1, h2] at hR
    clear h1 h2 HF
    obtain ⟨mm, hmm⟩ : ∃ mm, mm = 65535 - m := ⟨_, rfl⟩
    have hmx : bits .and .i64 (bits .xor .i64 (-1) (m : Int)) 65535 = (mm : Int) := by rw [not65535 m HNM.out.2, hmm]
    have hsg : (if IntKind.i64.signed = true then (-1 : Int) else 9223372036854775807) = -1 := rfl
    by_cases hbad : n + m = 65535
    · rw [if_neg (by simpa using hbad)] at hR
      have HRR := Lib.hid hR
      obtain rfl : n = mm := by omega
      clear hR HRES hbad hmm
      go_wp2_with fail
      go_loopw [2, 4] (fun v _ wr => ∃ (k qq : Nat) (o : List Int) (e1 : Int), v = .int .i64 k ∧ Hid (k ≤ 65535) ∧ Hid (SK 4 g W wr) ∧ Hid (Rd w0 A c p most g qq o e1 wr) ∧ Hid ((e1 = 0 ∧ bytO most k o (numB p) (8 * p.length) qq = rr) ∨ (e1 ≠ 0 ∧ rr = .error e1))) (fun v _ _ => (intOf v).toNat)
      case atStart => exact ⟨n, q + 32, out, 0, rfl, Lib.hid HNM.out.1, HS4, HR4, Lib.hid (.inl ⟨rfl, HRR.out.symm⟩)⟩
      case round =>
        obtain ⟨k, qq, o, e1, rfl, HK, HS, HRR1, HE⟩ := hrel
        clear k6
        have k6 := rd_e HRR1.out
        by_cases he1 : e1 = 0
        · subst he1
          have hE : bytO most k o (numB p) (8 * p.length) qq = rr := by
            rcases HE.out with ⟨_, h⟩ | ⟨h, _⟩
            · exact h
            · exact absurd rfl h
          cases k with
          | zero =>
            go_wp2_with fail
            refine bodyPost_end (results_none rfl _ _ _) rfl ⟨o, qq, 0, rfl, HS, HRR1, .inr ⟨rfl, .inl ⟨hE.symm, rfl⟩⟩⟩
          | succ k =>
            have HE2 := Lib.hid hE
            clear hE
            have hk0 : (0 : Int) < (k : Int) + 1 := by omega
            go_wp2_with fail
            refine (take_calls w0 A c p most g qq o 0 wr 8 HRR1.out (HW.out.sk HR.out HS.out) (by omega)).mono ?_
            rintro ee w5 ⟨x, q5, e5, rfl, hs5, hr5, hc5⟩
            have HS5 : Hid (SK 4 g W w5) := Lib.hid (HS.out.trans hs5.out)
            have HR5 := Lib.hid hr5.out
            have HC5 : Hid (TkC (8 * p.length) (numB p) qq 0 8 x q5 e5) := Lib.hid hc5
            clear hs5 hr5 hc5 k6
            have k6 := rd_e HR5.out
            have hx8 := HC5.out.lt
            rcases HC5.out.ok with ⟨h1, h2⟩ | ⟨h1, h2⟩
            · subst h2
              have hE := HE2.out
              simp only [bytO, bndR, h1] at hE
              have HE3 := Lib.hid hE
              clear hE h1
              have hwx : IntKind.u8.wrap (x : Int) = (x : Int) := by rw [IntKind.wrap_u8]; omega
              go_wp2_with fail
              refine (emit_calls w0 A c p most g q5 o x w5 HR5.out (HW.out.sk HR.out HS5.out).below.size).mono ?_
              rintro ee w6 ⟨o6, e6, rfl, hs6, hr6, hcase⟩
              have HS6 : Hid (SK 4 g W w6) := Lib.hid (HS5.out.trans hs6.out)
              have HR6 := Lib.hid hr6.out
              have HC6 := Lib.hid hcase
              clear hs6 hr6 hcase hwx
              go_wp2_with fail
              have hwk : wrap64 (k : Int) = (k : Int) := IntWalk.wrap64_in _ (by have := HK.out; omega)
              try rw [hwk]
              clear hwk
              go_roundw
              case rel =>
                refine ⟨k, q5, o6, e6, rfl, Lib.hid (by have := HK.out; omega), HS6, HR6, Lib.hid ?_⟩
                have h0 := HE3.out
                simp only [onO, putO] at h0
                rcases HC6.out with ⟨h1, h2, h3⟩ | ⟨h1, h2, h3⟩
                · rw [if_neg (by omega)] at h0
                  exact .inl ⟨h3, by rw [h2]; exact h0⟩
                · rw [if_pos h1] at h0
                  exact .inr ⟨by rw [h3]; decide, by rw [h3]; exact h0.symm⟩
              case measure => simp [intOf]
            · subst h2
              have hE := HE2.out
              simp only [bytO, bndR, h1] at hE
              have HE3 := Lib.hid hE
              clear hE h1
              go_wp2_with fail
              have hwk : wrap64 (k : Int) = (k : Int) := IntWalk.wrap64_in _ (by have := HK.out; omega)
              try rw [hwk]
              clear hwk
              go_roundw
              case rel =>
                exact ⟨k, q5, o, 5, rfl, Lib.hid (by have := HK.out; omega), HS5, HR5, Lib.hid (.inr ⟨by decide, HE3.out.symm⟩)⟩
              case measure => simp [intOf]
        · have he' : (e1 == 0) = false := by simp [he1]
          have hrr : rr = .error e1 := by
            rcases HE.out with ⟨h, _⟩ | ⟨_, h⟩
            · exact absurd h he1
            · exact h
          have HRR2 := Lib.hid hrr
          clear hrr
          by_cases hkz : k = 0
          · subst hkz
            go_wp2_with fail
            refine bodyPost_end (results_none rfl _ _ _) rfl ⟨o, qq, e1, rfl, HS, HRR1, .inr ⟨rfl, .inr ⟨HRR2.out, he1⟩⟩⟩
          · have hk1 : (0 : Int) < (k : Int) := by omega
            go_wp2_with fail
            refine bodyPost_end (results_none rfl _ _ _) rfl ⟨o, qq, e1, rfl, HS, HRR1, .inr ⟨rfl, .inr ⟨HRR2.out, he1⟩⟩⟩
    · rw [if_pos hbad] at hR
      have HRR := Lib.hid hR
      have ib : ¬ (n : Int) = (mm : Int) := by have := HNM.out; omega
      clear hR HRES hbad hmm
      go_wp2_with fail
      refine (wrong_calls w0 A c p most g (q + 32) out 0 4 w4 HR4.out (by omega)).mono ?_
      rintro ee w7 ⟨rfl, hs7, hr7⟩
      have HS7 : Hid (SK 4 g W w7) := Lib.hid (HS4.out.trans hs7)
      have hr7' : Rd w0 A c p most g (q + 32) out 4 w7 := hr7
      have HR7 := Lib.hid hr7'
      clear hs7 hr7 hr7' k6
      have k6 := rd_e HR7.out
      go_wp2_with fail
      go_loopw [2, 4] (fun v _ wr => ∃ (k qq : Nat) (o : List Int) (e1 : Int), v = .int .i64 k ∧ Hid (k ≤ 65535) ∧ Hid (SK 4 g W wr) ∧ Hid (Rd w0 A c p most g qq o e1 wr) ∧ Hid ((e1 = 0 ∧ bytO most k o (numB p) (8 * p.length) qq = rr) ∨ (e1 ≠ 0 ∧ rr = .error e1))) (fun v _ _ => (intOf v).toNat)
      case atStart => exact ⟨n, q + 32, out, 4, rfl, Lib.hid HNM.out.1, HS7, HR7, Lib.hid (.inr ⟨by decide, HRR.out⟩)⟩
      case round =>
        obtain ⟨k, qq, o, e1, rfl, HK, HS, HRR1, HE⟩ := hrel
        clear k6
        have k6 := rd_e HRR1.out
        by_cases he1 : e1 = 0
        · subst he1
          have hE : bytO most k o (numB p) (8 * p.length) qq = rr := by
            rcases HE.out with ⟨_, h⟩ | ⟨h, _⟩
            · exact h
            · exact absurd rfl h
          cases k with
          | zero =>
            go_wp2_with fail
            refine bodyPost_end (results_none rfl _ _ _) rfl ⟨o, qq, 0, rfl, HS, HRR1, .inr ⟨rfl, .inl ⟨hE.symm, rfl⟩⟩⟩
          | succ k =>
            have HE2 := Lib.hid hE
            clear hE
            have hk0 : (0 : Int) < (k : Int) + 1 := by omega
            go_wp2_with fail
            refine (take_calls w0 A c p most g qq o 0 wr 8 HRR1.out (HW.out.sk HR.out HS.out) (by omega)).mono ?_
            rintro ee w5 ⟨x, q5, e5, rfl, hs5, hr5, hc5⟩
            have HS5 : Hid (SK 4 g W w5) := Lib.hid (HS.out.trans hs5.out)
            have HR5 := Lib.hid hr5.out
            have HC5 : Hid (TkC (8 * p.length) (numB p) qq 0 8 x q5 e5) := Lib.hid hc5
            clear hs5 hr5 hc5 k6
            have k6 := rd_e HR5.out
            have hx8 := HC5.out.lt
            rcases HC5.out.ok with ⟨h1, h2⟩ | ⟨h1, h2⟩
            · subst h2
              have hE := HE2.out
              simp only [bytO, bndR, h1] at hE
              have HE3 := Lib.hid hE
              clear hE h1
              have hwx : IntKind.u8.wrap (x : Int) = (x : Int) := by rw [IntKind.wrap_u8]; omega
              go_wp2_with fail
              refine (emit_calls w0 A c p most g q5 o x w5 HR5.out (HW.out.sk HR.out HS5.out).below.size).mono ?_
              rintro ee w6 ⟨o6, e6, rfl, hs6, hr6, hcase⟩
              have HS6 : Hid (SK 4 g W w6) := Lib.hid (HS5.out.trans hs6.out)
              have HR6 := Lib.hid hr6.out
              have HC6 := Lib.hid hcase
              clear hs6 hr6 hcase hwx
              go_wp2_with fail
              have hwk : wrap64 (k : Int) = (k : Int) := IntWalk.wrap64_in _ (by have := HK.out; omega)
              try rw [hwk]
              clear hwk
              go_roundw
              case rel =>
                refine ⟨k, q5, o6, e6, rfl, Lib.hid (by have := HK.out; omega), HS6, HR6, Lib.hid ?_⟩
                have h0 := HE3.out
                simp only [onO, putO] at h0
                rcases HC6.out with ⟨h1, h2, h3⟩ | ⟨h1, h2, h3⟩
                · rw [if_neg (by omega)] at h0
                  exact .inl ⟨h3, by rw [h2]; exact h0⟩
                · rw [if_pos h1] at h0
                  exact .inr ⟨by rw [h3]; decide, by rw [h3]; exact h0.symm⟩
              case measure => simp [intOf]
            · subst h2
              have hE := HE2.out
              simp only [bytO, bndR, h1] at hE
              have HE3 := Lib.hid hE
              clear hE h1
              go_wp2_with fail
              have hwk : wrap64 (k : Int) = (k : Int) := IntWalk.wrap64_in _ (by have := HK.out; omega)
              try rw [hwk]
              clear hwk
              go_roundw
              case rel =>
                exact ⟨k, q5, o, 5, rfl, Lib.hid (by have := HK.out; omega), HS5, HR5, Lib.hid (.inr ⟨by decide, HE3.out.symm⟩)⟩
              case measure => simp [intOf]
        · have he' : (e1 == 0) = false := by simp [he1]
          have hrr : rr = .error e1 := by
            rcases HE.out with ⟨h, _⟩ | ⟨_, h⟩
            · exact absurd h he1
            · exact h
          have HRR2 := Lib.hid hrr
          clear hrr
          by_cases hkz : k = 0
          · subst hkz
            go_wp2_with fail
            refine bodyPost_end (results_none rfl _ _ _) rfl ⟨o, qq, e1, rfl, HS, HRR1, .inr ⟨rfl, .inr ⟨HRR2.out, he1⟩⟩⟩
          · have hk1 : (0 : Int) < (k : Int) := by omega
            go_wp2_with fail
            refine bodyPost_end (results_none rfl _ _ _) rfl ⟨o, qq, e1, rfl, HS, HRR1, .inr ⟨rfl, .inr ⟨HRR2.out, he1⟩⟩⟩
  · subst h2
    clear HF
    have HRR := Lib.hid h1
    clear h1
    go_wp2_with fail
    go_loopw [2, 4] (fun v _ wr => ∃ (k qq : Nat) (o : List Int) (e1 : Int), v = .int .i64 k ∧ Hid (k ≤ 65535) ∧ Hid (SK 4 g W wr) ∧ Hid (Rd w0 A c p most g qq o e1 wr) ∧ Hid ((e1 = 0 ∧ bytO most k o (numB p) (8 * p.length) qq = rr) ∨ (e1 ≠ 0 ∧ rr = .error e1))) (fun v _ _ => (intOf v).toNat)
    case atStart => exact ⟨n, q4, out, 5, rfl, Lib.hid HNM.out.1, HS4, HR4, Lib.hid (.inr ⟨by decide, HRR.out⟩)⟩
    case round =>
      obtain ⟨k, qq, o, e1, rfl, HK, HS, HRR1, HE⟩ := hrel
      clear k6
      have k6 := rd_e HRR1.out
      by_cases he1 : e1 = 0
      · subst he1
        have hE : bytO most k o (numB p) (8 * p.length) qq = rr := by
          rcases HE.out with ⟨_, h⟩ | ⟨h, _⟩
          · exact h
          · exact absurd rfl h
        cases k with
        | zero =>
          go_wp2_with fail
          refine bodyPost_end (results_none rfl _ _ _) rfl ⟨o, qq, 0, rfl, HS, HRR1, .inr ⟨rfl, .inl ⟨hE.symm, rfl⟩⟩⟩
        | succ k =>
          have HE2 := Lib.hid hE
          clear hE
          have hk0 : (0 : Int) < (k : Int) + 1 := by omega
          go_wp2_with fail
          refine (take_calls w0 A c p most g qq o 0 wr 8 HRR1.out (HW.out.sk HR.out HS.out) (by omega)).mono ?_
          rintro ee w5 ⟨x, q5, e5, rfl, hs5, hr5, hc5⟩
          have HS5 : Hid (SK 4 g W w5) := Lib.hid (HS.out.trans hs5.out)
          have HR5 := Lib.hid hr5.out
          have HC5 : Hid (TkC (8 * p.length) (numB p) qq 0 8 x q5 e5) := Lib.hid hc5
          clear hs5 hr5 hc5 k6
          have k6 := rd_e HR5.out
          have hx8 := HC5.out.lt
          rcases HC5.out.ok with ⟨h1, h2⟩ | ⟨h1, h2⟩
          · subst h2
            have hE := HE2.out
            simp only [bytO, bndR, h1] at hE
            have HE3 := Lib.hid hE
            clear hE h1
            have hwx : IntKind.u8.wrap (x : Int) = (x : Int) := by rw [IntKind.wrap_u8]; omega
            go_wp2_with fail
            refine (emit_calls w0 A c p most g q5 o x w5 HR5.out (HW.out.sk HR.out HS5.out).below.size).mono ?_
            rintro ee w6 ⟨o6, e6, rfl, hs6, hr6, hcase⟩
            have HS6 : Hid (SK 4 g W w6) := Lib.hid (HS5.out.trans hs6.out)
            have HR6 := Lib.hid hr6.out
            have HC6 := Lib.hid hcase
            clear hs6 hr6 hcase hwx
            go_wp2_with fail
            have hwk : wrap64 (k : Int) = (k : Int) := IntWalk.wrap64_in _ (by have := HK.out; omega)
            try rw [hwk]
            clear hwk
            go_roundw
            case rel =>
              refine ⟨k, q5, o6, e6, rfl, Lib.hid (by have := HK.out; omega), HS6, HR6, Lib.hid ?_⟩
              have h0 := HE3.out
              simp only [onO, putO] at h0
              rcases HC6.out with ⟨h1, h2, h3⟩ | ⟨h1, h2, h3⟩
              · rw [if_neg (by omega)] at h0
                exact .inl ⟨h3, by rw [h2]; exact h0⟩
              · rw [if_pos h1] at h0
                exact .inr ⟨by rw [h3]; decide, by rw [h3]; exact h0.symm⟩
            case measure => simp [intOf]
          · subst h2
            have hE := HE2.out
            simp only [bytO, bndR, h1] at hE
            have HE3 := Lib.hid hE
            clear hE h1
            go_wp2_with fail
            have hwk : wrap64 (k : Int) = (k : Int) := IntWalk.wrap64_in _ (by have := HK.out; omega)
            try rw [hwk]
            clear hwk
            go_roundw
            case rel =>
              exact ⟨k, q5, o, 5, rfl, Lib.hid (by have := HK.out; omega), HS5, HR5, Lib.hid (.inr ⟨by decide, HE3.out.symm⟩)⟩
            case measure => simp [intOf]
      · have he' : (e1 == 0) = false := by simp [he1]
        have hrr : rr = .error e1 := by
          rcases HE.out with ⟨h, _⟩ | ⟨_, h⟩
          · exact absurd h he1
          · exact h
        have HRR2 := Lib.hid hrr
        clear hrr
        by_cases hkz : k = 0
        · subst hkz
          go_wp2_with fail
          refine bodyPost_end (results_none rfl _ _ _) rfl ⟨o, qq, e1, rfl, HS, HRR1, .inr ⟨rfl, .inr ⟨HRR2.out, he1⟩⟩⟩
        · have hk1 : (0 : Int) < (k : Int) := by omega
          go_wp2_with fail
          refine bodyPost_end (results_none rfl _ _ _) rfl ⟨o, qq, e1, rfl, HS, HRR1, .inr ⟨rfl, .inr ⟨HRR2.out, he1⟩⟩⟩
end Go.Proofs.YtkdklcamgcmifaaDoor

