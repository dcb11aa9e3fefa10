/- Rows of bytes that are the call's own, or that came of slices.Clip (their capacity is their length): one append makes a row of the call's own of either. -/
import Derived.Test.YtmnpcignolofaaaDoorWWords
import Derived.Test.YtmnpcignolofaaaDoorWMore
import Derived.ArgAppend
import Derived.Laws.MakeOwn
import Derived.Laws.Slices
namespace Go.Proofs.YtmnpcignolofaaaDoor
set_option linter.unusedVariables false
set_option linter.unusedSimpArgs false
open Go.RowKit Go.Proofs.YtmnpcignolofaaaDoorW.PrintWords

/-- A row of bytes of the call's own. -/
def Bs (e : Nat) (w : World) (base : Nat) (v : Value) (l : List Int) : Prop := w.ownsRow base e 1 v l.length (nums .u8 l)
theorem Bs.toR {e : Nat} {w : World} {base : Nat} {v : Value} {l : List Int} (h : Bs e w base v l) : Kd.R (Kd.int .u8) e w base (fun _ => True) v l := Kd.R_of_own (enc := Value.int .u8) h (fun _ _ => trivial)
theorem Bs.ofR {e : Nat} {w : World} {base : Nat} {v : Value} {l : List Int} {ok : Nat → Prop} (h : Kd.R (Kd.int .u8) e w base ok v l) : Bs e w base v l := Kd.own_of_R (enc := Value.int .u8) h
theorem Bs.open_ {e : Nat} {w : World} {base : Nat} {v : Value} {l : List Int} (h : Bs e w base v l) : ∃ A n c, v = .slice A n c ∧ Hid (w.ownsRow base e 1 (.slice A n c) n (nums .u8 l)) ∧ Hid (n = l.length) := by
  obtain ⟨A, c, rfl⟩ := own_slice h
  exact ⟨A, _, c, rfl, h, rfl⟩
theorem readsC {w : World} {A : Option Addr} {n : Nat} {l : List Int} (h : Kd.C (Kd.int .u8) w A n l) : ReadsInt w .u8 A n l := Kd.reads_of_C (enc := Value.int .u8) (d := 0) h
theorem toC {w : World} {A : Option Addr} {n : Nat} {l : List Int} (h : ReadsInt w .u8 A n l) : Kd.C (Kd.int .u8) w A n l := Kd.C_of_reads (enc := Value.int .u8) (d := 0) h
/-- A row of one's own, or one whose room ends with it. -/
def BRow (e : Nat) (w : World) (base : Nat) (v : Value) (l : List Int) : Prop :=
  w.ownsRow base e 1 v l.length (nums .u8 l) ∨ ∃ A, v = .slice A l.length l.length ∧ ReadsInt w .u8 A l.length l

theorem BRow.slice {e : Nat} {w : World} {base : Nat} {v : Value} {l : List Int} (h : BRow e w base v l) : ∃ A c, v = .slice A l.length c := by
  rcases h with h | ⟨A, rfl, _⟩
  · exact own_slice h
  · exact ⟨A, _, rfl⟩
theorem BRow.below {e : Nat} {w w1 : World} {base : Nat} {v : Value} {l : List Int} (h : BRow e w base v l) (hb : Below w.heap.size w w1) : BRow e w1 base v l := by
  rcases h with h | ⟨A, rfl, h⟩
  · exact .inl (pw_own_below h hb)
  · exact .inr ⟨A, rfl, h.below hb⟩
theorem BRow.weaken {e : Nat} {w : World} {base base' : Nat} {v : Value} {l : List Int} (h : BRow e w base v l) (hb : base' ≤ base) : BRow e w base' v l := by
  rcases h with h | ⟨A, rfl, h⟩
  · exact .inl (own_weaken h hb)
  · exact .inr ⟨A, rfl, h⟩
theorem BRow.drew {e : Nat} {w : World} {base : Nat} {v : Value} {l : List Int} (h : BRow e w base v l) : BRow e w.drew base v l := h.below (below_drew (Below.refl _ _))
theorem BRow.drewN {e : Nat} {w : World} {base : Nat} {v : Value} {l : List Int} (h : BRow e w base v l) (n : Nat) : BRow e (w.drewN n) base v l := h.below (pw_below_drewN (Below.refl _ _) n)
theorem BRow.alloc {e : Nat} {w : World} {base : Nat} {v : Value} {l : List Int} (h : BRow e w base v l) (o : Obj) : BRow e (w.alloc o) base v l := h.below (below_alloc (Below.refl _ _) o)
theorem BRow.reads {e : Nat} {w : World} {base : Nat} {v : Value} {l : List Int} (h : BRow e w base v l) : ∃ A c, v = .slice A l.length c ∧ ReadsInt w .u8 A l.length l := by
  rcases h with h | ⟨A, rfl, h⟩
  · exact own_reads h
  · exact ⟨A, _, rfl, h⟩

theorem ReadsInt.cells {w : World} {k : IntKind} {A : Option Addr} {l : List Int} (h : ReadsInt w k A l.length l) : ∀ b, A = some b → ∀ j u, (nums k l)[j]? = some u → w.cell? (b.add j) = some u := by
  rintro b rfl j u hu
  have hj : j < l.length := by
    rcases Nat.lt_or_ge j l.length with hlt | hge
    · exact hlt
    · rw [List.getElem?_eq_none (by simpa [nums] using hge)] at hu
      cases hu
  obtain ⟨ad, e1, e2⟩ := h.2.2 (by omega)
  cases e1
  rw [e2 j hj, ← hu]
  simp [nums, hj]
theorem ReadsInt.nil_len {w : World} {k : IntKind} {l : List Int} (h : ReadsInt w k none l.length l) : l.length = 0 := by
  rcases Nat.eq_zero_or_pos l.length with h0 | h0
  · exact h0
  · obtain ⟨ad, e, _⟩ := h.2.2 h0
    cases e

theorem own_room (W : World) (base : Nat) (e : TypeId) (z : Value) (c : Nat) (hb : base ≤ W.heap.size) (hc : c ≤ maxLen) :
    (W.alloc (.cells (madeCells #[z] c) e)).ownsRow base e 1 (.slice (some ⟨W.heap.size, 0, none⟩) 0 c) 0 [] :=
  ⟨by simp, .inr ⟨W.heap.size, c, madeCells #[z] c, rfl, hb, heap_alloc_new W _, Nat.zero_le _, hc, by simp [madeCells], by simp⟩⟩
/-- 'xs[lo:hi]' of a row that is read, the bounds numbers that the walk has reckoned: laid ahead of the walk. -/
theorem cut_mid {P : Program} (t e : TypeId) {i : TypeInfo} (ht : P.underlying t = some (.slice e)) (hi : P.info? e = some i) (hsz : i.size = 1) (A : Option Addr) (n c : Nat) (lo hi' : Nat) (h1 : lo ≤ hi') (h2 : hi' ≤ n) (h3 : n ≤ c) :
    ∃ A' : Option Addr, (∀ (x y : Int), x = lo → y = hi' → ∀ W : World, (Instr.slice t (.slice A n c) (some (.int .i64 x)) (some (.int .i64 y)) none).run P W = .ok (.slice A' (hi' - lo) (c - lo)) W) ∧
      ∀ (w : World) (k : IntKind) (xs : List Int), ReadsInt w k A n xs → ReadsInt w k A' (hi' - lo) ((xs.drop lo).take (hi' - lo)) := by
  refine ⟨if c = lo then A else A.map (·.add lo), ?_, fun w k xs h => ?_⟩
  · rintro x y rfl rfl W
    have hel : P.elem t = e := by simp [Program.elem, ht]
    have hu : P.underlying t = some (.slice (P.elem t)) := by rw [hel]; exact ht
    rw [run_slice_lh W t A n c hu .i64 .i64 (lo : Int) (hi' : Int) (by omega) (by omega) (by omega), hel]
    simp [sizeOf, typeInfo, hi, hsz, sliced, Result.andThen]
  · exact (h.drop_ lo (by omega) h3).take_ (hi' - lo) (by omega)
/-- 'xs[lo:]'. -/
theorem cut_end {P : Program} (t e : TypeId) {i : TypeInfo} (ht : P.underlying t = some (.slice e)) (hi : P.info? e = some i) (hsz : i.size = 1) (A : Option Addr) (n c : Nat) (lo : Nat) (h1 : lo ≤ n) (h3 : n ≤ c) :
    ∃ A' : Option Addr, (∀ (x : Int), x = lo → ∀ W : World, (Instr.slice t (.slice A n c) (some (.int .i64 x)) none none).run P W = .ok (.slice A' (n - lo) (c - lo)) W) ∧
      ∀ (w : World) (k : IntKind) (xs : List Int), ReadsInt w k A n xs → ReadsInt w k A' (n - lo) (xs.drop lo) := by
  refine ⟨if c = lo then A else A.map (·.add lo), ?_, fun w k xs h => h.drop_ lo (by omega) h3⟩
  rintro x rfl W
  have hel : P.elem t = e := by simp [Program.elem, ht]
  have hu : P.underlying t = some (.slice (P.elem t)) := by rw [hel]; exact ht
  rw [run_slice_l W t A n c hu .i64 (lo : Int) (by omega) (by omega), hel]
  simp [sizeOf, typeInfo, hi, hsz, sliced, Result.andThen]
/-- make([]T, 0, c), c a number that the walk has reckoned: laid ahead of the walk. -/
theorem make_room {P : Program} (t e : TypeId) (z : Value) (bytes : Nat) (ht : P.underlying t = some (.slice e)) (hinfo : (P.info? e).map (fun i => (i.zero, i.size, i.bytes)) = some (some z, 1, bytes)) (hz : z.cells = #[z])
    (x : Int) (c : Nat) (hx : x = c) (hn : bytes * c ≤ 281474976710656) (h63 : c ≤ 9223372036854775807) :
    ∀ W : World, (Instr.makeSlice t (.int .i64 0) (.int .i64 x)).run P W = .ok (.slice (some ⟨W.heap.size, 0, none⟩) 0 c) (W.alloc (.cells (madeCells #[z] c) e)) := by
  intro W
  subst hx
  obtain ⟨i0, hi, hzz⟩ := Option.map_eq_some_iff.1 hinfo
  simp only [Prod.mk.injEq] at hzz
  obtain ⟨hz0, hz1, hz2⟩ := hzz
  subst hz2
  have hb : (i0.bytes : Int) * (c : Int) ≤ 281474976710656 := by
    have h : ((i0.bytes * c : Nat) : Int) ≤ 281474976710656 := by omega
    rwa [Int.natCast_mul] at h
  have h := run_make (P := P) W t e i0 z ht hi hz0 .i64 .i64 0 c (by omega) (by omega) hb (by omega)
  rw [hz, hz1] at h
  simpa using h
section
variable {P : Program} {ops : Array Oper} {rest : List Oper} {o : Oper} {a : Act} {Q : Exit → Act → World → Prop}

/-- 'append(v, x)' behind 'at_builtin': the goal's world is the one in which x lies in a new block of its own. -/
theorem brow_append {w0 W : World} (base : Nat) (hgd : o.guard = none) (s x : Operand) (t e : TypeId)
    (ho : o.op = .call { callee := .builtin .append, args := #[s, x], argTypes := #[t, t] })
    (ht : P.underlying t = some (.slice e)) (hinfo : (P.info? e).map (fun i => (i.zero, i.size, i.bytes)) = some (some (.int .u8 0), 1, 1))
    (v : Value) (l : List Int) (y : Int) (hs : a.eval s = v) (hx : a.eval x = .slice (some ⟨W.heap.size, 0, none⟩) 1 1)
    (HO : BRow e W base v l) (HB : Below base w0 W) (hbase : base ≤ W.heap.size) (hl : l.length + 1 ≤ 140737488355328)
    (h : ∀ v1 w1, Bs e w1 base v1 (l ++ [y]) → Below base w0 w1 → wpList P ops Q rest (a.put o.dst v1) w1) :
    wpList P ops Q (o :: rest) a (W.alloc (.cells #[.int .u8 y] e)) := by
  rcases HO with HO | ⟨A, rfl, HR⟩
  · exact print_append_num base hgd s x t e .u8 1 ho ht hinfo (by omega) v l y hs hx HO HB hbase (by omega) fun v1 w1 h1 h2 _ _ => h v1 w1 h1 h2
  · obtain ⟨i0, hi, hzz⟩ := Option.map_eq_some_iff.1 hinfo
    simp only [Prod.mk.injEq] at hzz
    obtain ⟨hz0, hz1, hz2⟩ := hzz
    have HR' := ReadsInt.allocS HR (.cells #[.int .u8 y] e)
    refine wpList_append_grows (W.alloc (.cells #[.int .u8 y] e)) hgd s x t ho e i0 (.int .u8 0) 1 1 ht hi hz0 hz1 hz2 rfl (by omega) A l.length l.length (nums .u8 l) hs
      (fun hA => by subst hA; have := ReadsInt.nil_len HR; exact ⟨this, this⟩) (by simp [nums]) (ReadsInt.cells HR') ⟨W.heap.size, 0, none⟩ 1 1 [.int .u8 y] hx rfl
      (World.news_of_block (cs := #[.int .u8 y]) (t := e) (fr := (0, 0)) (heap_alloc_new W _)) (by simp [Value.oneCell']) (by omega) (by simp only [maxLen]; omega) (by omega) ?_
    intro v1 w1 hown hg
    refine h v1 w1 ?_ ((HB.alloc hbase _).grown hg (by simp; omega) (by simp))
    have := own_weaken hown (base' := base) (by simp; omega)
    simpa [Bs, nums] using this

/-- 'append(v, ys...)', ys not empty. -/
theorem brow_append_row {w0 W : World} (base : Nat) (hgd : o.guard = none) (s x : Operand) (t e : TypeId)
    (ho : o.op = .call { callee := .builtin .append, args := #[s, x], argTypes := #[t, t] })
    (ht : P.underlying t = some (.slice e)) (hinfo : (P.info? e).map (fun i => (i.zero, i.size, i.bytes)) = some (some (.int .u8 0), 1, 1))
    (v : Value) (l ys : List Int) (A1 : Option Addr) (m c : Nat) (hs : a.eval s = v) (hx : a.eval x = .slice A1 m c) (hm0 : 0 < m)
    (HO : BRow e W base v l) (HY : ReadsInt W .u8 A1 m ys) (HB : Below base w0 W) (hbase : base ≤ W.heap.size) (hl : l.length + m ≤ 140737488355328)
    (h : ∀ v1 w1, Bs e w1 base v1 (l ++ ys) → Below base w0 w1 → wpList P ops Q rest (a.put o.dst v1) w1) :
    wpList P ops Q (o :: rest) a W := by
  rcases HO with HO | ⟨A, rfl, HR⟩
  · exact print_append_row base hgd s x t e .u8 1 ho ht hinfo (by omega) v l ys A1 m c hs hx HO HY HB hbase (by omega) fun v1 w1 h1 h2 _ _ => h v1 w1 h1 h2
  · obtain ⟨i0, hi, hzz⟩ := Option.map_eq_some_iff.1 hinfo
    simp only [Prod.mk.injEq] at hzz
    obtain ⟨hz0, hz1, hz2⟩ := hzz
    obtain rfl : ys.length = m := HY.1
    obtain ⟨ad, rfl, _⟩ := HY.2.2 hm0
    refine wpList_append_grows W hgd s x t ho e i0 (.int .u8 0) 1 1 ht hi hz0 hz1 hz2 rfl (by omega) A l.length l.length (nums .u8 l) hs
      (fun hA => by subst hA; have := ReadsInt.nil_len HR; exact ⟨this, this⟩) (by simp [nums]) (ReadsInt.cells HR) ad ys.length c (nums .u8 ys) hx (by simp [nums])
      (ReadsInt.cells HY ad rfl) (by intro u hu; simp only [nums, List.mem_map] at hu; obtain ⟨q, _, rfl⟩ := hu; rfl) (by omega) (by simp only [maxLen]; omega) (by omega) ?_
    intro v1 w1 hown hg
    refine h v1 w1 ?_ (HB.grown hg hbase (by simp))
    have := own_weaken hown (base' := base) hbase
    simpa [Bs, nums] using this

/-- 'append(v, ys...)' onto a row of one's own. -/
theorem brow_append_row' {w0 W : World} (base : Nat) (hgd : o.guard = none) (s x : Operand) (t e : TypeId)
    (ho : o.op = .call { callee := .builtin .append, args := #[s, x], argTypes := #[t, t] })
    (ht : P.underlying t = some (.slice e)) (hinfo : (P.info? e).map (fun i => (i.zero, i.size, i.bytes)) = some (some (.int .u8 0), 1, 1))
    (v : Value) (l ys : List Int) (A1 : Option Addr) (m c : Nat) (hs : a.eval s = v) (hx : a.eval x = .slice A1 m c)
    (HO : Bs e W base v l) (HY : ReadsInt W .u8 A1 m ys) (HB : Below base w0 W) (hbase : base ≤ W.heap.size) (hl : l.length + m ≤ 140737488355328)
    (h : ∀ v1 w1, Bs e w1 base v1 (l ++ ys) → Below base w0 w1 → wpList P ops Q rest (a.put o.dst v1) w1) :
    wpList P ops Q (o :: rest) a W :=
  print_append_row base hgd s x t e .u8 1 ho ht hinfo (by omega) v l ys A1 m c hs hx HO HY HB hbase (by omega) fun v1 w1 h1 h2 _ _ => h v1 w1 h1 h2
end
end Go.Proofs.YtmnpcignolofaaaDoor
