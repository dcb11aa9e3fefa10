/- WholeTexts, plain: what Text tells of lines that all end is enough to make both texts again. -/
import Derived.Test.YtmnpcignolofaaaDoorHTextP
import Derived.Test.YtmnpcignolofaaaDoorHIdx
namespace Go.Proofs.YtmnpcignolofaaaDoor
set_option linter.unusedVariables false
set_option linter.unusedSimpArgs false
abbrev Tld := UInt8 × ByteArray
/-- The bytes as whole numbers. -/
def bi (l : List UInt8) : List Int := l.map fun b => (b.toNat : Int)
/-- A line that ends. -/
def Ln (s : ByteArray) : Prop := ∃ p : List UInt8, s.data.toList = p ++ [10] ∧ ∀ x ∈ p, x ≠ 10
def tlB (h : Tld) : List UInt8 := h.1 :: h.2.data.toList
def sideA (ls : List Tld) : List UInt8 := ls.flatMap fun h => if h.1 = 43 then [] else h.2.data.toList
def sideB (ls : List Tld) : List UInt8 := ls.flatMap fun h => if h.1 = 45 then [] else h.2.data.toList
def chg (ls : List Tld) : Nat := (ls.filter fun h => h.1 != 32).length
def cat (l : List ByteArray) : List UInt8 := l.flatMap fun s => s.data.toList
def pieces (a b : List ByteArray) : Pn → List Pn → List (List UInt8)
  | _, [] => []
  | p, q :: r => piece a b p q :: pieces a b q r
theorem textF_range (a b : List ByteArray) (w : List Pn) : ∀ n, textF a b w n = ((List.range n).map fun i => piece a b (w.getD i (0, 0)) (w.getD (i + 1) (0, 0))).flatten
  | 0 => rfl
  | n + 1 => by
    rw [textF, textF_range a b w n, List.range_succ, List.map_append, List.flatten_append]
    simp
theorem pieces_range (a b : List ByteArray) : ∀ (r : List Pn) (p : Pn), pieces a b p r = (List.range r.length).map fun i => piece a b ((p :: r).getD i (0, 0)) ((p :: r).getD (i + 1) (0, 0))
  | [], _ => rfl
  | q :: r, p => by
    rw [pieces, pieces_range a b r q, List.length_cons, List.range_succ_eq_map, List.map_cons, List.map_map]
    rfl
theorem textT_pieces (a b : List ByteArray) : textT a b = (pieces a b (0, 0) (wayW a b 0 0)).flatten := by
  unfold textT
  rw [textF_range, pieces_range]
  rfl
theorem tl_ln {g : UInt8} {s : ByteArray} (h : Ln s) : tl g s.data.toList = g :: s.data.toList := by
  obtain ⟨p, e, _⟩ := h
  unfold tl
  rw [e, suf_snoc]
  simp
theorem getD_mem {l : List ByteArray} {i : Nat} (h : i < l.length) : l.getD i ByteArray.empty ∈ l := by
  rw [List.getD_eq_getElem?_getD, List.getElem?_eq_getElem h]
  exact List.getElem_mem h
theorem cat_drop {l : List ByteArray} {i : Nat} (h : i < l.length) : cat (l.drop i) = (l.getD i ByteArray.empty).data.toList ++ cat (l.drop (i + 1)) := by
  rw [List.drop_eq_getElem_cons h, List.getD_eq_getElem?_getD, List.getElem?_eq_getElem h]
  rfl
theorem same_line {a b : List ByteArray} {x y : Nat} (hx : x < a.length) (hy : y < b.length) (he : (txs a).getD x [] = (txs b).getD y []) : (a.getD x ByteArray.empty).data.toList = (b.getD y ByteArray.empty).data.toList := by
  have e1 : (txs a).getD x [] = tx (a.getD x ByteArray.empty) := by simp [txs, List.getD_eq_getElem?_getD, List.getElem?_eq_getElem hx]
  have e2 : (txs b).getD y [] = tx (b.getD y ByteArray.empty) := by simp [txs, List.getD_eq_getElem?_getD, List.getElem?_eq_getElem hy]
  rw [e1, e2] at he
  exact he
theorem told_way (a b : List ByteArray) (ha : ∀ s ∈ a, Ln s) (hb : ∀ s ∈ b, Ln s) : ∀ (k x y : Nat), a.length + b.length - (x + y) = k → x ≤ a.length → y ≤ b.length →
    ∃ ls : List Tld, pieces a b (x, y) (wayW a b x y) = ls.map tlB ∧ (∀ h ∈ ls, (h.1 = 32 ∨ h.1 = 45 ∨ h.1 = 43) ∧ Ln h.2) ∧ sideA ls = cat (a.drop x) ∧ sideB ls = cat (b.drop y) ∧ chg ls = dd a b x y := by
  intro k
  induction k using Nat.strongRecOn with
  | _ k ih =>
    intro x y hk0 hx hy
    by_cases h : x = a.length ∧ y = b.length
    · obtain ⟨rfl, rfl⟩ := h
      rw [wayW_end, dd_end1, List.drop_of_length_le (Nat.le_refl _), List.drop_of_length_le (Nat.le_refl _), Nat.sub_self]
      exact ⟨[], rfl, by simp, rfl, rfl, rfl⟩
    · rw [wayW_go hx hy h]
      have hin := stepD_in hx hy h
      have hst : stepD a b x y = if x < a.length ∧ y < b.length ∧ (txs a).getD x [] = (txs b).getD y [] then (1, 1) else if x < a.length ∧ (y = b.length ∨ dd a b (x + 1) y ≤ dd a b x (y + 1)) then (1, 0) else (0, 1) := rfl
      by_cases h1 : x < a.length ∧ y < b.length ∧ (txs a).getD x [] = (txs b).getD y []
      · rw [if_pos h1] at hst
        rw [hst]
        obtain ⟨ls, e, hl, e1, e2, e3⟩ := ih _ (by omega) (x + 1) (y + 1) rfl (by omega) (by omega)
        have hs := same_line h1.1 h1.2.1 h1.2.2
        have hLn := ha _ (getD_mem h1.1)
        refine ⟨(32, a.getD x ByteArray.empty) :: ls, ?_, ?_, ?_, ?_, ?_⟩
        · show piece a b (x, y) (x + 1, y + 1) :: pieces a b (x + 1, y + 1) _ = _
          rw [e, piece, if_pos rfl, tl_ln hLn]
          rfl
        · intro h hm
          rcases List.mem_cons.1 hm with rfl | hm
          · exact ⟨.inl rfl, hLn⟩
          · exact hl h hm
        · rw [cat_drop h1.1, ← e1]; rfl
        · rw [cat_drop h1.2.1, ← e2, ← hs]; rfl
        · rw [dd_in a b x y h1.1 h1.2.1, if_pos h1.2.2, ← e3]; rfl
      · rw [if_neg h1] at hst
        by_cases h2 : x < a.length ∧ (y = b.length ∨ dd a b (x + 1) y ≤ dd a b x (y + 1))
        · rw [if_pos h2] at hst
          rw [hst]
          obtain ⟨ls, e, hl, e1, e2, e3⟩ := ih _ (by omega) (x + 1) (y + 0) rfl (by omega) (by omega)
          have hLn := ha _ (getD_mem h2.1)
          refine ⟨(45, a.getD x ByteArray.empty) :: ls, ?_, ?_, ?_, ?_, ?_⟩
          · show piece a b (x, y) (x + 1, y + 0) :: pieces a b (x + 1, y + 0) _ = _
            rw [e, piece, if_neg (by simp), if_pos rfl, tl_ln hLn]
            rfl
          · intro h hm
            rcases List.mem_cons.1 hm with rfl | hm
            · exact ⟨.inr (.inl rfl), hLn⟩
            · exact hl h hm
          · rw [cat_drop h2.1, ← e1]; rfl
          · rw [Nat.add_zero] at e2; rw [← e2]; rfl
          · have e3 : chg ls = dd a b (x + 1) y := e3
            have : chg ((45, a.getD x ByteArray.empty) :: ls) = chg ls + 1 := rfl
            rw [this, e3]
            rcases h2.2 with hy2 | hd
            · rw [hy2, dd_end2, dd_end2]; omega
            · rcases Nat.lt_or_eq_of_le hy with hy2 | hy2
              · rw [dd_in a b x y h2.1 hy2, if_neg (fun hh => h1 ⟨h2.1, hy2, hh⟩), Nat.min_eq_left hd, Nat.add_comm]
              · rw [hy2, dd_end2, dd_end2]; omega
        · rw [if_neg h2] at hst
          rw [hst]
          have hy2 : y < b.length := by
            rcases Nat.lt_or_eq_of_le hy with e | e
            · exact e
            · exact absurd ⟨by omega, .inl e⟩ h2
          obtain ⟨ls, e, hl, e1, e2, e3⟩ := ih _ (by omega) (x + 0) (y + 1) rfl (by omega) (by omega)
          have hLn := hb _ (getD_mem hy2)
          refine ⟨(43, b.getD y ByteArray.empty) :: ls, ?_, ?_, ?_, ?_, ?_⟩
          · show piece a b (x, y) (x + 0, y + 1) :: pieces a b (x + 0, y + 1) _ = _
            rw [e, piece, if_neg (by simp), if_neg (by simp), tl_ln hLn]
            rfl
          · intro h hm
            rcases List.mem_cons.1 hm with rfl | hm
            · exact ⟨.inr (.inr rfl), hLn⟩
            · exact hl h hm
          · rw [Nat.add_zero] at e1; rw [← e1]; rfl
          · rw [cat_drop hy2, ← e2]; rfl
          · have e3 : chg ls = dd a b x (y + 1) := e3
            have : chg ((43, b.getD y ByteArray.empty) :: ls) = chg ls + 1 := rfl
            rw [this, e3]
            rcases Nat.lt_or_eq_of_le hx with hx2 | hx2
            · rw [dd_in a b x y hx2 hy2, if_neg (fun hh => h1 ⟨hx2, hy2, hh⟩), Nat.min_eq_right (by
                rcases Nat.le_total (dd a b (x + 1) y) (dd a b x (y + 1)) with hd | hd
                · exact absurd ⟨hx2, .inr hd⟩ h2
                · exact hd), Nat.add_comm]
            · rw [hx2, dd_end1, dd_end1]; omega
/-- Lines that end, put together and cut again. -/
theorem linesF_lines : ∀ (L : List (List Int)), (∀ l ∈ L, ∃ p : List Int, l = p ++ [10] ∧ ∀ x ∈ p, x ≠ 10) → linesF L.flatten = L
  | [], _ => rfl
  | l :: L, h => by
    obtain ⟨p, rfl, hp⟩ := h l (List.mem_cons_self ..)
    have ih := linesF_lines L (fun m hm => h m (List.mem_cons_of_mem _ hm))
    unfold linesF at ih ⊢
    rw [List.flatten_cons, List.append_assoc, show [10] ++ L.flatten = 10 :: L.flatten from rfl, lnA_some p [] _ hp, ih]
    rfl
theorem bi_append (x y : List UInt8) : bi (x ++ y) = bi x ++ bi y := by unfold bi; rw [List.map_append]
theorem bi_ne {x : UInt8} (h : x ≠ 10) : ((x.toNat : Int)) ≠ 10 := fun e => h (by
  have h2 : x.toNat = 10 := by omega
  exact UInt8.toNat_inj.1 h2)
theorem bi_flatten (L : List (List UInt8)) : bi L.flatten = (L.map bi).flatten := by
  induction L with
  | nil => rfl
  | cons l L ih => rw [List.flatten_cons, bi_append, ih, List.map_cons, List.flatten_cons]
theorem told_lines (a b : List ByteArray) (ha : ∀ s ∈ a, Ln s) (hb : ∀ s ∈ b, Ln s) :
    ∃ ls : List Tld, textT a b = (ls.map tlB).flatten ∧ linesF (bi (textT a b)) = ls.map (fun h => bi (tlB h)) ∧ (∀ h ∈ ls, (h.1 = 32 ∨ h.1 = 45 ∨ h.1 = 43) ∧ Ln h.2) ∧ sideA ls = cat a ∧ sideB ls = cat b ∧ chg ls = dist (txs a) (txs b) := by
  obtain ⟨ls, e, hl, e1, e2, e3⟩ := told_way a b ha hb _ 0 0 rfl (Nat.zero_le _) (Nat.zero_le _)
  refine ⟨ls, by rw [textT_pieces, e], ?_, hl, by rw [List.drop_zero] at e1; exact e1, by rw [List.drop_zero] at e2; exact e2, by rw [e3]; rfl⟩
  rw [textT_pieces, e, bi_flatten, List.map_map]
  refine linesF_lines _ (fun l hm => ?_)
  obtain ⟨h, hh, rfl⟩ := List.mem_map.1 hm
  obtain ⟨hg, p, hp, hn⟩ := hl h hh
  refine ⟨bi (h.1 :: p), ?_, ?_⟩
  · show bi (h.1 :: h.2.data.toList) = _
    rw [hp, ← List.cons_append, bi_append]
    rfl
  · intro x hx
    obtain ⟨y, hy, rfl⟩ := List.mem_map.1 hx
    rcases List.mem_cons.1 hy with rfl | hy
    · rcases hg with e | e | e <;> (rw [e]; decide)
    · exact bi_ne (hn y hy)
end Go.Proofs.YtmnpcignolofaaaDoor
