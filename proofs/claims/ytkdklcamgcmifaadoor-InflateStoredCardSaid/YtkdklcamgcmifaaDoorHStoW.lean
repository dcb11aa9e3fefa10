/- codicillaw03.InflateStored: walked. -/
import Derived.Test.YtkdklcamgcmifaaDoorHAwake3
import Derived.Test.YtkdklcamgcmifaaDoorHStoP
import Derived.Test.YtkdklcamgcmifaaDoorHIn
import Derived.Deep.Matrix
namespace Go.Proofs.YtkdklcamgcmifaaDoor
set_option linter.unusedVariables false
set_option linter.unusedSimpArgs false
open Go.RowKit Go.Proofs.YtkdklcamgcmifaaDoorW.PrintWords Go.Proofs.YtkdklcamgcmifaaDoorW.PrintMore Go.Proofs.YtkdklcamgcmifaaDoor.PI
/-- Lists of bytes that came in. -/
structure Lists (W : World) (A : Option Addr) (len : Nat) (ps : List (List Int)) : Prop where
  size_ : ps.length = len
  cells : ∀ r, r < len → ∃ ad Ar cr, A = some ad ∧ W.cell? (ad.add r) = some (.slice Ar (ps.getD r []).length cr) ∧ ReadsInt W .u8 Ar (ps.getD r []).length (ps.getD r []) ∧ (ps.getD r []).length ≤ cr ∧ ∀ x ∈ ps.getD r [], 0 ≤ x ∧ x < 256
theorem lists_in {W : World} {H : Type} {enc : TypeId × Value → H} {a : Option Addr} {len cap : Nat} {d : DataW H} {p : List MemPlace} {held : Bool} (h : ∃ fuel, DataW.trod enc Tryd.prog W 0 (fun _ => true) held fuel 30 (Value.slice a len cap).cells.toList = some (d, p)) :
    ∃ ps : List (List Int), Lists W a len ps ∧ len ≤ 9223372036854775807 := by
  obtain ⟨fuel, hf⟩ := h
  rcases Go.Deep.open_int_rows Tryd.underlying30 Tryd.underlying22 Tryd.underlying5 (by kernel_rfl) (by kernel_rfl) hf with ⟨hcs, _⟩ | ⟨x, l, c, A, L, C, Z, hcs, _, hl, hm, _, hr⟩
  · simp [Value.cells] at hcs
    obtain ⟨rfl, rfl, rfl⟩ := hcs
    exact ⟨[], ⟨rfl, fun r hr => absurd hr (Nat.not_lt_zero _)⟩, by omega⟩
  · simp [Value.cells] at hcs
    obtain ⟨rfl, rfl, rfl⟩ := hcs
    refine ⟨(List.range len).map fun r => (Z r).take (L r), ⟨by simp, fun r hrl => ?_⟩, by simp only [maxLen] at hm; omega⟩
    have hg : ((List.range len).map fun r => (Z r).take (L r)).getD r [] = (Z r).take (L r) := by
      simp [List.getD_eq_getElem?_getD, List.getElem?_map, List.getElem?_range hrl]
    obtain ⟨h1, h2, h3, h4, h5, h6, h7⟩ := hr r (by omega)
    have hlen : ((Z r).take (L r)).length = L r := by rw [List.length_take]; omega
    rw [hg, hlen]
    refine ⟨x, A r, C r, rfl, h1, ⟨hlen, by simp only [maxLen] at h3; omega, fun h0 => ?_⟩, h2, fun y hy => wf_u8 (h5 y (List.mem_of_mem_take hy))⟩
    cases hA : A r with
    | none => have := h6 hA; omega
    | some ad =>
      refine ⟨ad, rfl, fun j hj => ?_⟩
      rw [(h7 ad hA).2 j (by omega)]
      have : ((Z r).take (L r)).getD j 0 = (Z r).getD j 0 := by
        simp only [List.getD_eq_getElem?_getD]
        rw [List.getElem?_take_of_lt hj]
      rw [this]
theorem cell_lt {W : World} {p : Addr} {v : Value} (h : W.cell? p = some v) : p.block < W.heap.size := by
  apply Nat.lt_of_not_le
  intro hn
  have h0 : W.heap[p.block]? = none := Array.getElem?_eq_none hn
  simp [World.cell?, h0] at h
theorem Lists.below {W W' : World} {A : Option Addr} {len : Nat} {ps : List (List Int)} (h : Lists W A len ps) (hb : Below W.heap.size W W') : Lists W' A len ps :=
  ⟨h.size_, fun r hr => by
    obtain ⟨ad, Ar, cr, h1, h2, h3, h4, h5⟩ := h.cells r hr
    exact ⟨ad, Ar, cr, h1, (hb.cell (cell_lt h2)).trans h2, h3.below hb, h4, h5⟩⟩
/-- Two rows of the call's own. -/
structure Two (base : Nat) (w wr : World) (v u : Value) (P Al : List Int) : Prop where
  a : Bs 5 wr base v P
  b : Bs 5 wr base u Al
  ne : ∀ k, v.ownBlock = some k → u.ownBlock ≠ some k
  below : Below base w wr
theorem Two.swap {base : Nat} {w wr : World} {v u : Value} {P Al : List Int} (h : Two base w wr v u P Al) : Two base w wr u v Al P := ⟨h.b, h.a, fun k h1 h2 => h.ne k h2 h1, h.below⟩
theorem Two.alloc {base : Nat} {w wr : World} {v u : Value} {P Al : List Int} (h : Two base w wr v u P Al) (hB : base ≤ wr.heap.size) (o : Obj) : Two base w (wr.alloc o) v u P Al :=
  ⟨pw_own_below h.a (below_alloc (Below.refl _ _) _), pw_own_below h.b (below_alloc (Below.refl _ _) _), h.ne, h.below.alloc hB _⟩
theorem Two.grow {base : Nat} {w wr w1 : World} {v u v1 : Value} {P Al P1 : List Int} (h : Two base w wr v u P Al) (hv : w1.ownsRow base 5 1 v1 P1.length (nums .u8 P1)) (hb : Below base w w1) (hg : wr.grownBy w1 v.ownBlock) (hat : v1.ownBlock = v.ownBlock ∨ ∃ b, v1.ownBlock = some b ∧ wr.heap.size ≤ b) : Two base w w1 v1 u P1 Al := by
  refine ⟨hv, h.b.kept hg ?_, fun k h1 h2 => ?_, hb⟩
  · cases hu : u.ownBlock with
    | none => exact .inl rfl
    | some k => exact .inr fun e => h.ne k e.symm hu
  · rcases hat with e | ⟨b, e, hlt⟩
    · exact h.ne k (e.symm.trans h1) h2
    · rw [e] at h1
      cases h1
      have := own_lt h.b k h2
      omega
/-- The loop's state. -/
def StI (base : Nat) (w : World) (ps : List (List Int)) (k : Nat) (v u : Value) (wr : World) : Prop :=
  ∃ P Al : List Int, Two base w wr v u P Al ∧ P ++ strS (ps.drop k) = strS ps ∧ Al ++ (ps.drop k).flatten = ps.flatten ∧ ∀ j, j < k → (ps.getD j []).length ≤ 1000
theorem flat_bound : ∀ (ps : List (List Int)), (∀ x ∈ ps, x.length ≤ 1000) → ps.flatten.length ≤ 1000 * ps.length := by
  intro ps
  induction ps with
  | nil => intro _; simp
  | cons x r ih =>
    intro h
    have h1 := ih fun y hy => h y (List.mem_cons_of_mem _ hy)
    have h2 := h x List.mem_cons_self
    rw [List.flatten_cons, List.length_append, List.length_cons]
    omega
theorem all_of_getD {ps : List (List Int)} {Q : List Int → Prop} (h : ∀ j, j < ps.length → Q (ps.getD j [])) : ∀ x ∈ ps, Q x := by
  intro x hx
  obtain ⟨j, hj, rfl⟩ := List.getElem_of_mem hx
  have := h j hj
  rwa [List.getD_eq_getElem?_getD, List.getElem?_eq_getElem hj] at this
theorem sto_lens {ps : List (List Int)} {k : Nat} {P Al : List Int} (hP : P ++ strS (ps.drop k) = strS ps) (hA : Al ++ (ps.drop k).flatten = ps.flatten) (hk : k ≤ ps.length) (hl : ∀ j, j < k → (ps.getD j []).length ≤ 1000) : P.length ≤ 1005 * k ∧ Al.length ≤ 1000 * k := by
  have h1 := strS_len ps
  have h2 := strS_len (ps.drop k)
  have h3 := congrArg List.length hP
  have h4 := congrArg List.length hA
  rw [List.length_append] at h3 h4
  rw [List.length_drop] at h2
  have h5 : ps.flatten.length = (ps.take k).flatten.length + (ps.drop k).flatten.length := by
    rw [← List.length_append, ← List.flatten_append, List.take_append_drop]
  have h6 := flat_bound (ps.take k) (all_of_getD (Q := fun x => x.length ≤ 1000) fun j hj => by
    rw [List.length_take] at hj
    have h := hl j (by omega)
    rw [List.getD_eq_getElem?_getD] at h ⊢
    rwa [List.getElem?_take_of_lt (by omega)])
  rw [List.length_take] at h6
  omega
theorem drop_cons {ps : List (List Int)} {k : Nat} (h : k < ps.length) : ps.drop k = ps.getD k [] :: ps.drop (k + 1) := by
  rw [List.drop_eq_getElem_cons h, List.getD_eq_getElem?_getD, List.getElem?_eq_getElem h]
  rfl
/-- A block's head as the walk spells it. -/
def hdG (f : Int) (n : Nat) : List Int := [f, (n : Int) % 256, (n : Int) / 256, Go.bits .xor .u8 255 ((n : Int) % 256), Go.bits .xor .u8 255 ((n : Int) / 256)]
theorem xor255b {x : Nat} (h : x < 256) : Go.bits .xor .u8 255 (x : Int) = 255 - (x : Int) := by
  have : ∀ x : Nat, x < 256 → Go.bits .xor .u8 255 (x : Int) = 255 - (x : Int) := by decide +kernel
  exact this x h
theorem hdG_eq {f : Int} {n : Nat} (h : n < 65536) : hdG f n = hdS f n := by
  unfold hdG hdS
  rw [show (n : Int) % 256 = ((n % 256 : Nat) : Int) by omega, show (n : Int) / 256 = ((n / 256 : Nat) : Int) by omega, xor255b (by omega), xor255b (by omega)]
theorem sto_step {ps : List (List Int)} {k : Nat} {P Al x : List Int} {f : Int} (h : P ++ strS (ps.drop k) = strS ps ∧ Al ++ (ps.drop k).flatten = ps.flatten ∧ ∀ j, j < k → (ps.getD j []).length ≤ 1000) (hx : x = ps.getD k []) (hk : k < ps.length) (hl : x.length ≤ 1000) (hf : f = if k + 1 = ps.length then 1 else 0) :
    (P ++ hdG f x.length ++ x) ++ strS (ps.drop (k + 1)) = strS ps ∧ (Al ++ x) ++ (ps.drop (k + 1)).flatten = ps.flatten ∧ ∀ j, j < k + 1 → (ps.getD j []).length ≤ 1000 := by
  obtain ⟨h1, h2, h3⟩ := h
  rw [drop_cons hk, ← hx] at h1 h2
  have hd : (if ps.drop (k + 1) = [] then (1 : Int) else 0) = f := by
    rw [hf]
    by_cases e : k + 1 = ps.length
    · rw [if_pos e, if_pos (by rw [List.drop_eq_nil_iff]; omega)]
    · rw [if_neg e, if_neg (by rw [List.drop_eq_nil_iff]; omega)]
  refine ⟨?_, ?_, fun j hj => ?_⟩
  · rw [strS, hd] at h1
    rw [hdG_eq (by omega), ← h1]
    simp
  · rw [List.flatten_cons] at h2
    rw [← h2]
    simp
  · rcases Nat.lt_or_ge j k with hlt | hge
    · exact h3 j hlt
    · rw [show j = k by omega, ← hx]
      exact hl
theorem sto_done {ps : List (List Int)} {P Al : List Int} (h : P ++ strS (ps.drop ps.length) = strS ps ∧ Al ++ (ps.drop ps.length).flatten = ps.flatten ∧ ∀ j, j < ps.length → (ps.getD j []).length ≤ 1000) (hne : ps ≠ []) (h20 : ps.length ≤ 20) (hb : ∀ x ∈ ps, ∀ y ∈ x, 0 ≤ y ∧ y < 256) :
    infF P 20000 = (Al, (P.length : Int), 0) ∧ Al.length ≤ 20000 ∧ P.length ≤ 20100 ∧ ∀ y ∈ P, 0 ≤ y ∧ y < 256 := by
  obtain ⟨h1, h2, h3⟩ := h
  rw [List.drop_length] at h1 h2
  simp only [strS, List.append_nil, List.flatten_nil] at h1 h2
  have hl := all_of_getD (Q := fun x => x.length ≤ 1000) h3
  have hf := flat_bound ps hl
  have hs := strS_len ps
  have ho := strO_stored (ps := ps) (rest := []) (m := 20000) hne (fun x hx => ⟨by have := hl x hx; omega, hb x hx⟩) (by omega)
  rw [List.append_nil] at ho
  rw [h1, h2]
  refine ⟨?_, by omega, by omega, strS_by ps fun x hx => ⟨by have := hl x hx; omega, hb x hx⟩⟩
  rw [show (20000 : Int) = ((20000 : Nat) : Int) from rfl, infF_ok (by omega) ho]
  simp only [Prod.mk.injEq, true_and, and_true]
  omega
set_option maxRecDepth 8000 in
set_option maxHeartbeats 8000000 in
theorem inflateStored_card (w : World) (A0 : Option Addr) (len c0 : Nat) (ps : List (List Int)) (hps : Lists w A0 len ps ∧ len ≤ 9223372036854775807) (ho : Ord w) :
    Calls Tryd.prog 4 #[.slice A0 len c0] w fun e w' => e = .returned (.bool true) ∧ Below w.heap.size w w' := by
  have HO := Lib.hid ho
  have HP := Lib.hid hps.1
  have hl63 := hps.2
  clear ho hps
  by_cases h0 : len = 0
  · subst h0
    go_enter Tryd.func4, Tryd.ntmps4
    go_wp2_with fail
    refine (awake3_calls w HO.out).mono ?_
    rintro e w1 ⟨rfl, hb1⟩
    have HB1 := Lib.hid hb1
    clear hb1
    go_wp2_with fail
    go_ret
    exact ⟨rfl, HB1.out⟩
  by_cases h20 : 20 < len
  · have i0 : ((len : Int) == 0) = false := by simpa using h0
    have i20 : (20 : Int) < (len : Int) := by omega
    clear h0 h20
    go_enter Tryd.func4, Tryd.ntmps4
    go_wp2_with fail
    refine (awake3_calls w HO.out).mono ?_
    rintro e w1 ⟨rfl, hb1⟩
    have HB1 := Lib.hid hb1
    clear hb1
    go_wp2_with fail
    go_ret
    exact ⟨rfl, HB1.out⟩
  have i0 : ((len : Int) == 0) = false := by simpa using h0
  have i20 : ¬ (20 : Int) < (len : Int) := by omega
  go_enter Tryd.func4, Tryd.ntmps4
  go_wp2_with fail
  refine (awake3_calls w HO.out).mono ?_
  rintro e w1 ⟨rfl, hb1⟩
  have HB1 := Lib.hid hb1
  clear hb1
  go_wp2_with fail
  go_loopw [3, 4, 24] (fun v u i wr => ∃ k : Nat, i = .int .i64 k ∧ Hid (k ≤ len) ∧ Hid (StI w.heap.size w ps k v u wr)) (fun _ _ i _ => len - (intOf i).toNat)
  case atStart => exact ⟨0, rfl, Lib.hid (Nat.zero_le _), Lib.hid ⟨[], [], ⟨own_nil _ _ _ _, own_nil _ _ _ _, (fun k h => by cases h), HB1.out⟩, rfl, rfl, fun j hj => absurd hj (Nat.not_lt_zero _)⟩⟩
  case round =>
    obtain ⟨k, rfl, HK, HS⟩ := hrel
    by_cases hk : k < len
    · obtain ⟨P, Al, hT, hPA⟩ := HS.out
      have HT := Lib.hid hT
      have HPA := Lib.hid hPA
      have hlen := sto_lens hPA.1 hPA.2.1 (by rw [HP.out.size_]; omega) hPA.2.2
      clear hT hPA HS
      obtain ⟨ad, Ar, cr, rfl, hcell0, hrd, hcr, hby⟩ := HP.out.cells k hk
      have hcell := (HT.out.below.cell (cell_lt hcell0)).trans hcell0
      obtain ⟨x, hx⟩ : ∃ x, x = ps.getD k [] := ⟨_, rfl⟩
      rw [← hx] at hcell hrd hcr hby
      have HXR : Hid (∀ W', Below w.heap.size w W' → ReadsInt W' .u8 Ar x.length x) := Lib.hid fun W' hb => hrd.below hb
      have HX := Lib.hid (And.intro hcr hby)
      have HXX := Lib.hid hx
      clear hrd hcr hby hx hcell0
      have hki : (0 : Int) ≤ (k : Int) := by omega
      have hkl : (k : Int) < (len : Int) := by omega
      by_cases hbig : 1000 < x.length
      · have ib : (1000 : Int) < (x.length : Int) := by omega
        go_wp2_with fail
        go_ret
        exact ⟨rfl, HT.out.below⟩
      · have ib : ¬ (1000 : Int) < (x.length : Int) := by omega
        by_cases hlast : k + 1 = len
        · have il : ((k : Int) == (len : Int) - 1) = true := by simp; omega
          go_wp2_with (first
            | (at_builtin; refine print_append_row (w0 := w) w.heap.size rfl (.tmp 39) (.tmp 53) 22 5 .u8 1 rfl Tryd.underlying22 infoU8 (by decide) u3 P (hdG 1 x.length) (some ⟨wr.heap.size, 0, none⟩) 5 5 rfl rfl (HT.out.alloc HT.out.below.size _).a (own_reads' (own_lit wr _ 5 .u8 (hdG 1 x.length) (Nat.le_refl _) (by simp [hdG]))) (HT.out.alloc HT.out.below.size _).below (by have := HT.out.below.size; simp; omega) (by simp; omega) ?_; intro v1 w2 hv1 hb1 hg1 hat1; have HT1 := Lib.hid ((HT.out.alloc HT.out.below.size _).grow hv1 hb1 hg1 hat1); clear hv1 hb1 hg1 hat1)
            | (at_builtin; refine print_append_row (w0 := w) w.heap.size rfl (.tmp 55) (.tmp 56) 22 5 .u8 1 rfl Tryd.underlying22 infoU8 (by decide) v1 _ x Ar x.length cr rfl rfl HT1.out.a (HXR.out _ HT1.out.below) HT1.out.below HT1.out.below.size (by simp [hdG]; omega) ?_; intro v2 w3 hv2 hb2 hg2 hat2; have HT2 := Lib.hid (HT1.out.grow hv2 hb2 hg2 hat2); clear hv2 hb2 hg2 hat2)
            | (at_builtin; refine print_append_row (w0 := w) w.heap.size rfl (.tmp 58) (.tmp 59) 22 5 .u8 1 rfl Tryd.underlying22 infoU8 (by decide) u4 Al x Ar x.length cr rfl rfl HT2.out.b (HXR.out _ HT2.out.below) HT2.out.below HT2.out.below.size (by simp; omega) ?_; intro u1 w4 hv3 hb3 hg3 hat3; have HT3 := Lib.hid (HT2.out.swap.grow hv3 hb3 hg3 hat3).swap; clear hv3 hb3 hg3 hat3))
          go_roundw
          case rel => exact ⟨k + 1, by go_num, Lib.hid (by omega), Lib.hid ⟨_, _, HT3.out, sto_step HPA.out HXX.out (by rw [HP.out.size_]; exact hk) (by omega) (by rw [HP.out.size_]; rw [if_pos hlast])⟩⟩
          case measure => simp [intOf]; omega
        · have il : ((k : Int) == (len : Int) - 1) = false := by simp; omega
          go_wp2_with (first
            | (at_builtin; refine print_append_row (w0 := w) w.heap.size rfl (.tmp 39) (.tmp 53) 22 5 .u8 1 rfl Tryd.underlying22 infoU8 (by decide) u3 P (hdG 0 x.length) (some ⟨wr.heap.size, 0, none⟩) 5 5 rfl rfl (HT.out.alloc HT.out.below.size _).a (own_reads' (own_lit wr _ 5 .u8 (hdG 0 x.length) (Nat.le_refl _) (by simp [hdG]))) (HT.out.alloc HT.out.below.size _).below (by have := HT.out.below.size; simp; omega) (by simp; omega) ?_; intro v1 w2 hv1 hb1 hg1 hat1; have HT1 := Lib.hid ((HT.out.alloc HT.out.below.size _).grow hv1 hb1 hg1 hat1); clear hv1 hb1 hg1 hat1)
            | (at_builtin; refine print_append_row (w0 := w) w.heap.size rfl (.tmp 55) (.tmp 56) 22 5 .u8 1 rfl Tryd.underlying22 infoU8 (by decide) v1 _ x Ar x.length cr rfl rfl HT1.out.a (HXR.out _ HT1.out.below) HT1.out.below HT1.out.below.size (by simp [hdG]; omega) ?_; intro v2 w3 hv2 hb2 hg2 hat2; have HT2 := Lib.hid (HT1.out.grow hv2 hb2 hg2 hat2); clear hv2 hb2 hg2 hat2)
            | (at_builtin; refine print_append_row (w0 := w) w.heap.size rfl (.tmp 58) (.tmp 59) 22 5 .u8 1 rfl Tryd.underlying22 infoU8 (by decide) u4 Al x Ar x.length cr rfl rfl HT2.out.b (HXR.out _ HT2.out.below) HT2.out.below HT2.out.below.size (by simp; omega) ?_; intro u1 w4 hv3 hb3 hg3 hat3; have HT3 := Lib.hid (HT2.out.swap.grow hv3 hb3 hg3 hat3).swap; clear hv3 hb3 hg3 hat3))
          go_roundw
          case rel => exact ⟨k + 1, by go_num, Lib.hid (by omega), Lib.hid ⟨_, _, HT3.out, sto_step HPA.out HXX.out (by rw [HP.out.size_]; exact hk) (by omega) (by rw [HP.out.size_]; rw [if_neg hlast])⟩⟩
          case measure => simp [intOf]; omega
    · have hk' : k = len := by have := HK.out; omega
      subst hk'
      have hln := HP.out.size_
      obtain ⟨P, Al, hT, hPA⟩ := HS.out
      rw [← hln] at hPA
      have hd := sto_done hPA (by rintro rfl; exact h0 hln.symm) (by omega) (all_of_getD (Q := fun x => ∀ y ∈ x, 0 ≤ y ∧ y < 256) fun j hj => by
        obtain ⟨_, _, _, _, _, _, _, h⟩ := HP.out.cells j (by omega)
        exact h)
      obtain ⟨A3, c3, rfl⟩ := own_slice hT.a
      obtain ⟨A4, c4, rfl⟩ := own_slice hT.b
      have HT := Lib.hid hT
      have HD := Lib.hid hd
      clear hT hPA hd HS hln
      go_wp2_with fail
      refine (inflate_any wr A3 P.length c3 P 20000 _ rfl (own_reads' HT.out.a) HD.out.2.2.2 (own_cap HT.out.a).1 (by have := HD.out.2.2.1; omega) (HO.out.below HT.out.below) HD.out.1).mono ?_
      rintro e w3 ⟨A5, c5, rfl, HV5, HBi⟩
      have HB3 := Lib.hid (below_then HT.out.below HT.out.below.size HBi.out)
      have HR4 : Hid (ReadsInt w3 .u8 A4 Al.length Al) := Lib.hid ((own_reads' HT.out.b).below HBi.out)
      have HR5 : Hid (ReadsInt w3 .u8 A5 Al.length Al) := Lib.hid (own_reads' HV5.out)
      have HC5 : Hid (Al.length ≤ c5) := Lib.hid (own_cap HV5.out).1
      have HC4 := Lib.hid (own_cap HT.out.b).1
      clear HV5 HBi
      go_wp2_with fail
      refine (same_yes w3 A5 c5 A4 c4 Al.length Al.length Al rfl rfl HR5.out HR4.out HC5.out HC4.out).mono ?_
      rintro e w7 ⟨rfl, n7, rfl⟩
      have HB7 := Lib.hid (pw_below_drewN HB3.out n7)
      go_wp2_with fail
      go_ret
      exact ⟨rfl, HB7.out⟩
end Go.Proofs.YtkdklcamgcmifaaDoor
