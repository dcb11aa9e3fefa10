/- deflate's finder: note, where three bytes are left. -/
import Derived.Test.YtkdklcamgcmifaaDoorHNoteW
import Derived.Test.YtkdklcamgcmifaaDoorHDoc
import Derived.Maps.OwnOps
namespace Go.Proofs.YtkdklcamgcmifaaDoor
set_option linter.unusedVariables false
set_option linter.unusedSimpArgs false
open Go.RowKit Go.Proofs.YtkdklcamgcmifaaDoorW.PrintWords Go.Proofs.YtkdklcamgcmifaaDoorW.PrintMore
open Go.Maps (Keyed)
theorem Fd.drewN {w0 : World} {f M V : Nat} {A : Option Addr} {c cv : Nat} {l : List Int} {i : Nat} {W : World} (h : Fd w0 f M V A c cv l i W) (m : Nat) : Fd w0 f M V A c cv l i (W.drewN m) :=
  ⟨h.blk, h.bf, h.bM, h.rd, ⟨h.below.os, h.below.tape, h.below.output, h.below.size, h.below.block⟩, h.map, h.row⟩
theorem key_of (l : List Int) (i : Nat) (hby : ∀ x ∈ l, 0 ≤ x ∧ x < 256) : keyOf Tryd.prog 39 (.int .u32 (keyN l i)) = some (.int .u32 (keyN l i)) := by
  have a0 := bytes_getD hby i
  have a1 := bytes_getD hby (i + 1)
  have a2 := bytes_getD hby (i + 2)
  refine Maps.keyOf_int_mk Tryd.underlying39 ?_
  obtain ⟨z, hz, h0, h1⟩ : ∃ z, keyN l i = z ∧ 0 ≤ z ∧ z < 4294967296 := ⟨_, rfl, by unfold keyN; omega, by unfold keyN; omega⟩
  rw [hz]
  exact WalkArith.wf_u32 (by omega)
theorem note_fin {w0 : World} {f M V : Nat} {A : Option Addr} {c cv : Nat} {l : List Int} {i k : Nat} {w1 wx w2 : World} {D : DataW Unit} {P' : List Int} (hF : Fd w0 f M V A c cv l i w1)
    (hox : wx.ownsRow w0.heap.size 3 1 (.slice (some ⟨V, 0, none⟩) l.length cv) l.length (nums .i64 P')) (hg1 : w1.grownBy wx (some V)) (hg2 : wx.grownBy w2 (some M)) (hD : MapIs D l i) (hk : k ≤ i)
    (hown : w2.ownsMap Tryd.prog 39 (plainElem Tryd.prog 3) M (k + 1) (D.put (.int .u32 (keyN l i)) (.lit (.int .i64 i)))) (hi : i + 3 ≤ l.length)
    (hP : ∀ j, j < i + 1 → j + 3 ≤ l.length → P'.getD j 0 = prevI l j) : MF M V w1 w2 ∧ Fd w0 f M V A c cv l (i + 1) w2 := by
  obtain ⟨hfV, hfM, hVM⟩ := hF.ne
  have hMF : MF M V w1 w2 := ⟨hg2.os.trans hg1.os, hg2.tape.trans hg1.tape, hg2.output.trans hg1.output, Nat.le_trans hg1.size hg2.size, fun j hj h1 h2 =>
    (hg2.block j (Nat.lt_of_lt_of_le hj hg1.size) (fun e => h1 (by injection e))).trans (hg1.block j hj (fun e => h2 (by injection e)))⟩
  have hbM := hF.bM
  have hbV := hF.bV
  refine ⟨hMF, (hMF.keep f (blk_lt hF.blk) hfM hfV).trans hF.blk, hF.bf, hF.bM, hF.rd, ?_, ⟨_, k + 1, hown, by omega, hD.put hi⟩, P', hox.kept hg2 (.inr (fun e => hVM (by simpa [Value.ownBlock] using e))), hP⟩
  exact ⟨hMF.os.trans hF.below.os, hMF.tape.trans hF.below.tape, hMF.output.trans hF.below.output, Nat.le_trans hF.below.size hMF.size, fun j hj => (hMF.keep j (by have := hF.below.size; omega) (by omega) (by omega)).trans (hF.below.block j hj)⟩
theorem prev_set {l P : List Int} {i : Nat} (x : Int) (hP : ∀ j, j < i → j + 3 ≤ l.length → P.getD j 0 = prevI l j) (hi : i < P.length) (hx : x = prevI l i) : ∀ j, j < i + 1 → j + 3 ≤ l.length → (P.set i x).getD j 0 = prevI l j := by
  intro j h1 h2
  rcases Nat.lt_or_ge j i with e | e
  · rw [← hP j e h2]
    simp [List.getD_eq_getElem?_getD, List.getElem?_set_ne (show i ≠ j by omega)]
  · obtain rfl : j = i := by omega
    rw [← hx]
    simp [List.getD_eq_getElem?_getD, List.getElem?_set_self hi]
set_option maxRecDepth 8000 in
set_option maxHeartbeats 2000000 in
theorem note_yes (w0 : World) (f M V : Nat) (A : Option Addr) (c cv : Nat) (l : List Int) (i : Nat) (W : World) (hF : Fd w0 f M V A c cv l i W) (hby : ∀ x ∈ l, 0 ≤ x ∧ x < 256) (hm : l.length ≤ 140737488355328) (hi : i + 3 ≤ l.length) :
    Calls Tryd.prog 63 #[.pointer (some ⟨f, 0, none⟩), .int .i64 i] W fun e w' => e = .returned (.tuple #[]) ∧ MF M V W w' ∧ Fd w0 f M V A c cv l (i + 1) w' := by
  have c0 : W.cell? ⟨f, 0, none⟩ = some (.slice A l.length c) := blk_cell hF.blk 0
  have HF := Lib.hid hF
  have HR := Lib.hid hF.reads
  clear hF
  go_enter Tryd.func63, Tryd.ntmps63
  go_wp2_with fail
  refine (key_yes f W A c i l c0 HR.out hby hm hi).mono ?_
  rintro e w1 ⟨rfl, m, rfl⟩
  have HF1 := Lib.hid (HF.out.drewN m)
  have HMF : Hid (MF M V W (W.drewN m)) := Lib.hid ⟨rfl, rfl, rfl, Nat.le_refl _, fun _ _ _ _ => rfl⟩
  clear HR c0
  generalize W.drewN m = w1 at *
  obtain ⟨P, ho, hP⟩ := HF1.out.row
  have c2 : w1.cell? ⟨f, 2, none⟩ = some (.slice (some ⟨V, 0, none⟩) l.length cv) := blk_cell HF1.out.blk 2
  have hat := own_at ho (i : Int) (by omega) (by omega)
  rw [Int.toNat_natCast] at hat
  have d2 := hat.1
  have e2 := hat.2
  have HO := Lib.hid ho
  have HP := Lib.hid hP
  have i0 : (0 : Int) ≤ (i : Int) := by omega
  have i1 : (i : Int) < (l.length : Int) := by omega
  clear hat ho hP
  obtain ⟨D, k, hown, hk, hD⟩ := HF1.out.map
  obtain ⟨hfV, hfM, hVM⟩ := HF1.out.ne
  have k1 : (w1.setCell ⟨V, i, none⟩ (.int .i64 (-1))).cell? ⟨f, 1, none⟩ = some (.map (some M)) := blk_cell (blk_far HF1.out.blk (p := ⟨V, i, none⟩) hfV (.int .i64 (-1))) 1
  have k2 : (w1.setCell ⟨V, i, none⟩ (.int .i64 (-1))).cell? ⟨f, 2, none⟩ = some (.slice (some ⟨V, 0, none⟩) l.length cv) := blk_cell (blk_far HF1.out.blk (p := ⟨V, i, none⟩) hfV (.int .i64 (-1))) 2
  have hox := own_store HO.out (i : Int) (-1)
  rw [Int.toNat_natCast] at hox
  have HOX := Lib.hid hox
  have HOWNX := Lib.hid (hown.setCell (a := ⟨V, i, none⟩) (fun e => hVM e.symm) (.int .i64 (-1)))
  have HKEY := Lib.hid (key_of l i hby)
  have HD := Lib.hid hD
  clear hown hD hox
  cases hlast : lastAt l i (keyN l i) with
  | none =>
    have hmiss : Maps.has D (.int .u32 (keyN l i)) = false := by rw [HD.out.has, hlast]; rfl
    have HLAST := Lib.hid hlast
    clear hlast
    go_wp2_with (first
      | (at_lookup; refine wpList_lookup_own_ok_int _ rfl _ _ 81 rfl 39 3 .i64 lawK Tryd.underlying81 Tryd.underlying3 (zeroInt _) M k D rfl HOWNX.out _ _ rfl HKEY.out ?_; intro cL hat hwc; rw [hmiss])
      | (at_mapUpdate; refine wpList_mapUpdate_own _ rfl _ _ _ 81 rfl 39 3 lawK Tryd.underlying81 _ M k D rfl HOWNX.out (by unfold maxLen; omega) _ _ _ rfl rfl HKEY.out _ [] (plainElem_int Tryd.underlying3 (WalkArith.wf_i64 (by omega))) ?_; intro w2 hown2 hgrow2))
    have hl : P.length = l.length := by have := HO.out.1; simpa [nums] using this
    have h := note_fin HF1.out HOX.out.1 HOX.out.2 hgrow2 HD.out hk hown2 hi (prev_set (-1) HP.out (by omega) (by unfold prevI; rw [HLAST.out]))
    exact bodyPost_end (results_none rfl _ _ _) rfl ⟨rfl, HMF.out.trans h.1, h.2⟩
  | some q =>
    have hhit : Maps.has D (.int .u32 (keyN l i)) = true := by rw [HD.out.has, hlast]; rfl
    have HAT := Lib.hid (HD.out.at_ _ _ hlast)
    have HLAST := Lib.hid hlast
    clear hlast
    have hat2 := own_at HOX.out.1 (i : Int) (by omega) (by omega)
    rw [Int.toNat_natCast] at hat2
    have d3 := hat2.1
    have e3 := hat2.2
    have m1 : ((w1.setCell ⟨V, i, none⟩ (.int .i64 (-1))).setCell ⟨V, i, none⟩ (.int .i64 q)).cell? ⟨f, 1, none⟩ = some (.map (some M)) := blk_cell (blk_far (blk_far HF1.out.blk (p := ⟨V, i, none⟩) hfV (.int .i64 (-1))) (p := ⟨V, i, none⟩) hfV (.int .i64 q)) 1
    have hox2 := own_store HOX.out.1 (i : Int) (q : Int)
    rw [Int.toNat_natCast] at hox2
    have HOX2 := Lib.hid hox2
    have HOWN2 := Lib.hid (HOWNX.out.setCell (a := ⟨V, i, none⟩) (fun e => hVM e.symm) (.int .i64 q))
    clear hat2 hox2
    go_wp2_with (first
      | (at_lookup; refine wpList_lookup_own_ok_int _ rfl _ _ 81 rfl 39 3 .i64 lawK Tryd.underlying81 Tryd.underlying3 (zeroInt _) M k D rfl HOWNX.out _ _ rfl HKEY.out ?_; intro cL hat hwc; rw [hhit]; obtain rfl : cL = (q : Int) := (by have h := hat.symm.trans (HAT.out _); injection h with h; injection h); clear hat hwc)
      | (at_mapUpdate; refine wpList_mapUpdate_own _ rfl _ _ _ 81 rfl 39 3 lawK Tryd.underlying81 _ M k D rfl HOWN2.out (by unfold maxLen; omega) _ _ _ rfl rfl HKEY.out _ [] (plainElem_int Tryd.underlying3 (WalkArith.wf_i64 (by omega))) ?_; intro w2 hown2 hgrow2))
    have hl : P.length = l.length := by have := HO.out.1; simpa [nums] using this
    have h := note_fin HF1.out HOX2.out.1 (HOX.out.2.trans HOX2.out.2) hgrow2 HD.out hk hown2 hi (by
      rw [List.set_set]
      exact prev_set (q : Int) HP.out (by omega) (by unfold prevI; rw [HLAST.out]))
    exact bodyPost_end (results_none rfl _ _ _) rfl ⟨rfl, HMF.out.trans h.1, h.2⟩
end Go.Proofs.YtkdklcamgcmifaaDoor
