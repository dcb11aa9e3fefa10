/- diff.numbers: lines by numbers: alike lines have one number. -/
import Derived.Test.YtmnpcignolofaaaDoorProg
import Derived.Test.YtmnpcignolofaaaDoorWMore
import Derived.WalkKit
import Derived.KernelRfl
import Derived.Outline
import Derived.Lib.Hide
import Derived.Maps.Own
import Derived.Maps.OwnSet
import Derived.Maps.OwnOps
import Derived.Maps.Views
import Derived.StringKeys
namespace Go.Proofs.YtmnpcignolofaaaDoor
set_option linter.unusedVariables false
set_option linter.unusedSimpArgs false
open Go.RowKit Go.Proofs.YtmnpcignolofaaaDoorW.PrintWords Go.Proofs.YtmnpcignolofaaaDoorW.PrintMore
open Go.Maps (Keyed)
theorem lawS : Keyed Tryd.prog 9 := Maps.string_keyed Tryd.underlying9
theorem zeroI (w : World) : (zeroValue 3).run Tryd.prog w = .ok (.int .i64 0) w := by kernel_rfl
theorem infoI : (Tryd.prog.info? 3).map (fun i => (i.zero, i.size, i.bytes)) = some (some (.int .i64 0), 1, 8) := by kernel_rfl
def tx (s : ByteArray) : List UInt8 := s.data.toList
def idx (ks : List (List UInt8)) (s : List UInt8) : Int := (ks.idxOf s : Int)
/-- The map reads as the places in ks. -/
structure StrIs (D : DataW Unit) (ks : List (List UInt8)) : Prop where
  size : Maps.size D = ks.length
  has : ∀ s : List UInt8, Maps.has D (.string s) = decide (s ∈ ks)
  at_ : ∀ s, s ∈ ks → ∀ z, D.atKey (.string s) z = .lit (.int .i64 (idx ks s))
theorem StrIs.nil : StrIs (.map [] : DataW Unit) [] := ⟨rfl, fun s => by simp [Maps.has_eq], fun s h => by cases h⟩
theorem idx_old {ks : List (List UInt8)} {s : List UInt8} (more : List (List UInt8)) (h : s ∈ ks) : idx (ks ++ more) s = idx ks s := by
  unfold idx
  rw [List.idxOf_append, if_pos h]
theorem idx_new {ks : List (List UInt8)} {s : List UInt8} (h : s ∉ ks) : idx (ks ++ [s]) s = ks.length := by
  unfold idx
  rw [List.idxOf_append, if_neg h]
  simp
theorem idx_inj {ks : List (List UInt8)} {s t : List UInt8} (hs : s ∈ ks) (ht : t ∈ ks) (h : idx ks s = idx ks t) : s = t := by
  unfold idx at h
  have h1 : ks.idxOf s = ks.idxOf t := by omega
  have h2 := List.getElem_idxOf (List.idxOf_lt_length_of_mem hs)
  have h3 := List.getElem_idxOf (List.idxOf_lt_length_of_mem ht)
  rw [← h2, ← h3]
  simp only [h1]
theorem idx_lt {ks : List (List UInt8)} {s : List UInt8} (hs : s ∈ ks) : 0 ≤ idx ks s ∧ idx ks s < ks.length := by
  have := List.idxOf_lt_length_of_mem hs
  unfold idx
  omega
theorem StrIs.put {D : DataW Unit} {ks : List (List UInt8)} {s : List UInt8} (h : StrIs D ks) (ht : Maps.Tidy D) (hs : s ∉ ks) : StrIs (D.put (.string s) (.lit (.int .i64 (ks.length : Int)))) (ks ++ [s]) := by
  have hk : WideAt.IsKeyLit (.string s) := by trivial
  refine ⟨?_, fun t => ?_, fun t hm z => ?_⟩
  · rw [Maps.size_put ht, h.has, h.size, if_neg (by simpa using hs)]
    simp
  · by_cases e : t = s
    · subst e
      rw [Maps.has_put_same ht.isMap hk]
      simp
    · rw [Maps.has_put_other (fun k => e (by injection k)), h.has]
      simp [e]
  · by_cases e : t = s
    · subst e
      rw [Maps.atKey_put_same ht.isMap hk, idx_new hs]
    · have hm2 : t ∈ ks := by simpa [e] using hm
      rw [Maps.atKey_put_other (fun k => e (by injection k)), h.at_ t hm2, idx_old _ hm2]
def KM (M : Nat) (ks : List (List UInt8)) (W : World) : Prop := ∃ (D : DataW Unit) (n : Nat), W.ownsMap Tryd.prog 9 (plainElem Tryd.prog 3) M n D ∧ n ≤ ks.length ∧ StrIs D ks
/-- W' is W but for the block M, and what is new. -/
structure KF (M : Nat) (W W' : World) : Prop where
  os : W'.os = W.os
  tape : W'.tape = W.tape
  output : W'.output = W.output
  size : W.heap.size ≤ W'.heap.size
  keep : ∀ i, i < W.heap.size → i ≠ M → W'.heap[i]? = W.heap[i]?
theorem KF.refl (M : Nat) (W : World) : KF M W W := ⟨rfl, rfl, rfl, Nat.le_refl _, fun _ _ _ => rfl⟩
theorem KF.trans {M : Nat} {W W1 W2 : World} (h : KF M W W1) (k : KF M W1 W2) : KF M W W2 :=
  ⟨k.os.trans h.os, k.tape.trans h.tape, k.output.trans h.output, Nat.le_trans h.size k.size, fun i hi h1 => (k.keep i (Nat.lt_of_lt_of_le hi h.size) h1).trans (h.keep i hi h1)⟩
theorem KF.below {M : Nat} {w W W' : World} (h : KF M W W') (hb : Below w.heap.size w W) (hM : w.heap.size ≤ M) : Below w.heap.size w W' :=
  ⟨h.os.trans hb.os, h.tape.trans hb.tape, h.output.trans hb.output, Nat.le_trans hb.size h.size, fun i hi => (h.keep i (Nat.lt_of_lt_of_le hi hb.size) (by omega)).trans (hb.block i hi)⟩
theorem KF.grown {M : Nat} {W W1 W2 : World} {row : Option Nat} (h : KF M W W1) (hg : W1.grownBy W2 row) (hv : ∀ k, row = some k → W.heap.size ≤ k ∨ k = M) : KF M W W2 :=
  ⟨hg.os.trans h.os, hg.tape.trans h.tape, hg.output.trans h.output, Nat.le_trans h.size hg.size, fun i hi h1 =>
    (hg.block i (Nat.lt_of_lt_of_le hi h.size) (fun e => by rcases hv i e.symm with h2 | h2 <;> omega)).trans (h.keep i hi h1)⟩
theorem map_idx {ks : List (List UInt8)} (more : List (List UInt8)) (l : List ByteArray) (h : ∀ s ∈ l, tx s ∈ ks) : l.map (fun s => idx (ks ++ more) (tx s)) = l.map (fun s => idx ks (tx s)) :=
  List.map_congr_left fun s hs => idx_old more (h s hs)
theorem row_ne {w : World} {b e n m M : Nat} {v : Value} {xs : List Value} {D : DataW Unit} (h : w.ownsRow b e 1 v n xs) (k : w.ownsMap Tryd.prog 9 (plainElem Tryd.prog 3) M m D) : v.ownBlock ≠ some M := by
  intro hc
  obtain ⟨cur, h1⟩ := own_typed h M hc
  obtain ⟨es, clock, h2, _⟩ := k
  rw [h1] at h2
  cases h2
theorem take_mem {α : Type} {l : List α} {P : α → Prop} {k : Nat} {s : α} (h : l.take (k + 1) = l.take k ++ [s]) (h1 : ∀ x ∈ l.take k, P x) (h2 : P s) : ∀ x ∈ l.take (k + 1), P x := by
  intro x hx
  rw [h] at hx
  rcases List.mem_append.1 hx with e | e
  · exact h1 x e
  · rw [List.mem_singleton.1 e]; exact h2
set_option maxRecDepth 8000 in
set_option maxHeartbeats 4000000 in
theorem numbers_calls (w0 : World) (M : Nat) (A : Option Addr) (c : Nat) (l : List ByteArray) (ks : List (List UInt8)) (W : World) (hl : ReadsOf Value.string ByteArray.empty w0 A l.length l) (hb : Below w0.heap.size w0 W) (hM : w0.heap.size ≤ M) (hmap : KM M ks W)
    (hn : l.length ≤ 1000) (hk : ks.length ≤ 100000) (hsz : ∀ s ∈ l, s.size ≤ maxLen) :
    Calls Tryd.prog 55 #[.slice A l.length c, .map (some M)] W fun e w' => ∃ v more, e = .returned v ∧ (∀ s ∈ l, tx s ∈ ks ++ more) ∧ w'.ownsRow W.heap.size 3 1 v l.length (nums .i64 (l.map fun s => idx (ks ++ more) (tx s))) ∧ KM M (ks ++ more) w' ∧ KF M W w' ∧ more.length ≤ l.length := by
  have HL := Lib.hid hl
  have HB := Lib.hid hb
  have HMAP := Lib.hid hmap
  have HSZ := Lib.hid hsz
  have hMlt : M < W.heap.size := by obtain ⟨D, n, ⟨es, clock, hh, _⟩, _⟩ := hmap; exact blk_lt hh
  have HNIL := Lib.hid (World.ownsRow_nil W W.heap.size 3 1)
  clear hl hb hmap hsz
  go_enter Tryd.func55, Tryd.ntmps55
  go_wp2_with fail
  go_loopw [12, 5] (fun vi v5 wr => ∃ (k : Nat) (more : List (List UInt8)), vi = .int .i64 k ∧ k ≤ l.length ∧ more.length ≤ k ∧ Hid (∀ s ∈ l.take k, tx s ∈ ks ++ more) ∧ Hid (wr.ownsRow W.heap.size 3 1 v5 ((l.take k).map fun s => idx (ks ++ more) (tx s)).length (nums .i64 ((l.take k).map fun s => idx (ks ++ more) (tx s)))) ∧ Hid (KM M (ks ++ more) wr) ∧ Hid (KF M W wr)) (fun vi _ _ => l.length - (intOf vi).toNat)
  case atStart => exact ⟨0, [], rfl, by omega, by simp, Lib.hid (by simp), HNIL, Lib.hid (by simpa using HMAP.out), KF.refl M W⟩
  case round =>
    obtain ⟨k, more, rfl, hk1, hmore, hin, hrow, hkm, hkf⟩ := hrel
    by_cases hlt : k < l.length
    · have i1 : (k : Int) < (l.length : Int) := by omega
      have i0 : (0 : Int) ≤ (k : Int) := by omega
      obtain ⟨ad, hA, hcell⟩ := (HL.out.below (hkf.out.below HB.out hM)).2.2 (by omega)
      subst hA
      have c1 := hcell k hlt
      obtain ⟨s, hs⟩ : ∃ s, s = l.getD k ByteArray.empty := ⟨_, rfl⟩
      have hs2 : l[k]? = some s := by rw [hs]; simp [List.getD_eq_getElem?_getD, List.getElem?_eq_getElem hlt]
      have hsm : s ∈ l := List.mem_of_getElem? hs2
      rw [← hs] at c1
      have HTK := Lib.hid (show l.take (k + 1) = l.take k ++ [s] by rw [List.take_add_one, hs2]; rfl)
      have HKEY := Lib.hid (show keyOf Tryd.prog 9 (.string s) = some (.string (tx s)) from Go.WideMaps.keyOf_string_mk Tryd.underlying9 (HSZ.out s hsm))
      obtain ⟨D, n, hown, hnn, hD⟩ := hkm.out
      have HOWN := Lib.hid hown
      have HD := Lib.hid hD
      clear hcell hs hs2 hown hD
      by_cases hmem : tx s ∈ ks ++ more
      · have hhit : Maps.has D (.string (tx s)) = true := by rw [HD.out.has]; simpa using hmem
        have HAT := Lib.hid (HD.out.at_ _ hmem)
        have HMEM := Lib.hid hmem
        clear hmem
        go_wp2_with (first
          | (at_lookup; refine wpList_lookup_own_ok_int _ rfl _ _ 102 rfl 9 3 .i64 lawS Tryd.underlying102 Tryd.underlying3 (zeroI _) M n D rfl HOWN.out _ _ rfl HKEY.out ?_; intro cL hat hwc; rw [hhit]; have HC : Hid (cL = idx (ks ++ more) (tx s)) := Lib.hid (by have h := hat.symm.trans (HAT.out _); injection h with h; injection h); clear hat hwc)
          | (at_builtin; refine print_append_num (w0 := wr) W.heap.size rfl (.tmp 29) (.tmp 31) 91 3 .i64 8 rfl Tryd.underlying91 infoI (by omega) _ _ _ rfl rfl hrow.out (Below.refl _ _) (by have := hkf.out.size; omega) (by simp; omega) ?_; intro v1 w1 hown1 hbel1 hgrow hat1; have HO1 := Lib.hid hown1; have HG1 := Lib.hid hgrow; clear hown1 hbel1 hgrow hat1))
        go_roundw
        case rel =>
          have hne := row_ne hrow.out HOWN.out
          refine ⟨k + 1, more, by go_num, by omega, by omega, Lib.hid (take_mem HTK.out hin.out HMEM.out), ?_, Lib.hid ⟨D, n, HOWN.out.kept HG1.out (fun e => hne e.symm), hnn, HD.out⟩, Lib.hid (hkf.out.grown HG1.out fun j hj => .inl (own_base hrow.out j hj))⟩
          have h := HO1.out
          rw [HC.out] at h
          rw [HTK.out, List.map_append]
          exact h
        case measure => simp [intOf]; omega
      · have hmiss : Maps.has D (.string (tx s)) = false := by rw [HD.out.has]; simpa using hmem
        have HMEM := Lib.hid hmem
        have hkl : (ks ++ more).length ≤ 101000 := by simp; omega
        have htidy := Lib.hid (HOWN.out.tidy lawS)
        obtain ⟨q, hq⟩ : ∃ q, q = (ks ++ more).length := ⟨_, rfl⟩
        have hn2 : n ≤ 101000 := by omega
        rw [← hq] at hkl
        have HQ := Lib.hid hq
        clear hmem hq
        go_wp2_with (first
          | (at_lookup; refine wpList_lookup_own_ok_int _ rfl _ _ 102 rfl 9 3 .i64 lawS Tryd.underlying102 Tryd.underlying3 (zeroI _) M n D rfl HOWN.out _ _ rfl HKEY.out ?_; intro cL hat hwc; rw [hmiss])
          | (at_len; refine wpList_len_own _ rfl _ 102 rfl 9 3 Tryd.underlying102 _ M n D rfl HOWN.out ?_; rw [HD.out.size, ← HQ.out])
          | (at_mapUpdate; refine wpList_mapUpdate_own _ rfl _ _ _ 102 rfl 9 3 lawS Tryd.underlying102 _ M n D rfl HOWN.out (by unfold maxLen; omega) _ _ _ rfl rfl HKEY.out _ [] (plainElem_int Tryd.underlying3 (WalkArith.wf_i64 (by omega))) ?_; intro w2 hown2 hgrow2; have HOWN2 := Lib.hid hown2; have HGROW2 := Lib.hid hgrow2; have HROW2 := Lib.hid (hrow.out.kept hgrow2 (.inr (row_ne hrow.out HOWN.out))); have hsz2 := hgrow2.size; clear hown2 hgrow2)
          | (at_builtin; refine print_append_num (w0 := w2) W.heap.size rfl (.tmp 29) (.tmp 31) 91 3 .i64 8 rfl Tryd.underlying91 infoI (by omega) _ _ _ rfl rfl HROW2.out (Below.refl _ _) (by have := hkf.out.size; omega) (by simp; omega) ?_; intro v1 w1 hown1 hbel1 hgrow hat1; have HO1 := Lib.hid hown1; have HG1 := Lib.hid hgrow; clear hown1 hbel1 hgrow hat1))
        go_roundw
        case rel =>
          have hne := row_ne HROW2.out HOWN2.out
          have hKF2 : KF M W w2 := hkf.out.grown HGROW2.out fun j hj => .inr (by injection hj with h; exact h.symm)
          refine ⟨k + 1, more ++ [tx s], by go_num, by omega, by simp; omega, ?_, ?_, ?_, Lib.hid (hKF2.grown HG1.out fun j hj => .inl (own_base hrow.out j hj))⟩
          · refine Lib.hid (take_mem HTK.out (fun x hx => ?_) ?_)
            · have := hin.out x hx
              rw [← List.append_assoc]
              exact List.mem_append_left _ this
            · rw [← List.append_assoc]
              exact List.mem_append_right _ (List.mem_singleton.2 rfl)
          · have h := HO1.out
            rw [HTK.out, List.map_append, ← List.append_assoc, map_idx [tx s] (l.take k) hin.out]
            have e : [s].map (fun s' => idx (ks ++ more ++ [tx s]) (tx s')) = [((ks ++ more).length : Int)] := by
              simp only [List.map_cons, List.map_nil]
              rw [idx_new HMEM.out]
            rw [e, ← HQ.out]
            exact Lib.hid h
          · rw [← List.append_assoc]
            exact Lib.hid ⟨_, n + 1, HOWN2.out.kept HG1.out (fun e => hne e.symm), by simp only [List.length_append, List.length_singleton] at hnn ⊢; omega, by rw [HQ.out]; exact HD.out.put htidy.out HMEM.out⟩
        case measure => simp [intOf]; omega
    · obtain rfl : k = l.length := by omega
      go_wp2_with fail
      go_ret
      have hr := hrow.out
      rw [List.take_length] at hr
      refine ⟨_, more, rfl, ?_, by simpa using hr, hkm.out, hkf.out, hmore⟩
      have h := hin.out
      rw [List.take_length] at h
      exact h
end Go.Proofs.YtmnpcignolofaaaDoor
