/- The laws of chapter 03: what they call; awake. -/
import Derived.Test.YtkdklcamgcmifaaDoorPIx3
import Derived.Test.YtkdklcamgcmifaaDoorHID
import Derived.Test.YtkdklcamgcmifaaDoorHEndsP
namespace Go.Proofs.YtkdklcamgcmifaaDoor
set_option linter.unusedVariables false
set_option linter.unusedSimpArgs false
open Go.RowKit Go.Proofs.YtkdklcamgcmifaaDoorW.PrintWords Go.Proofs.YtkdklcamgcmifaaDoorW.PrintMore Go.Proofs.YtkdklcamgcmifaaDoor.PI
theorem lit_reads (w : World) (l : List Int) (hl : l.length ≤ 1000) : ReadsInt (w.alloc (.cells (nums .u8 l).toArray 5)) .u8 (some ⟨w.heap.size, 0, none⟩) l.length l :=
  own_reads' (own_lit w w.heap.size 5 .u8 l (Nat.le_refl _) (by omega))
/-- Inflate of bytes that stand in the text. -/
theorem inflate_lit (w : World) (l : List Int) (m : Int) (r : List Int × Int × Int) (ho : Ord w) (hb : ∀ x ∈ l, 0 ≤ x ∧ x < 256) (hl : l.length ≤ 1000) (hr : infF l m = r) :
    Calls Tryd.prog 13 #[.slice (some ⟨w.heap.size, 0, none⟩) l.length l.length, .int .i64 m] (w.alloc (.cells (nums .u8 l).toArray 5)) fun ee w' =>
      ∃ A c, ee = .returned (.tuple #[.slice A r.1.length c, .int .i64 r.2.1, .int .i64 r.2.2]) ∧ Hid (ReadsInt w' .u8 A r.1.length r.1) ∧ Hid (Below w.heap.size w w') := by
  have hb1 := below_alloc (Below.refl w.heap.size w) (.cells (nums .u8 l).toArray 5)
  refine (inflate_calls _ _ _ l m (lit_reads w l hl) hb (Nat.le_refl _) (by omega) (ho.below hb1)).mono ?_
  rintro ee w2 ⟨v, rfl, hv, hb2⟩
  rw [hr] at hv ⊢
  obtain ⟨A, c, rfl⟩ := own_slice hv.out
  exact ⟨A, c, rfl, Lib.hid (own_reads' hv.out), Lib.hid (below_then hb1 hb1.size hb2.out)⟩
theorem r_open {w : World} {base : Nat} {v : Value} {r : List Int} (h : Kd.R (Kd.int .u8) 5 w base (fun _ => True) v r) : ∃ A c, v = .slice A r.length c ∧ r.length ≤ c ∧ ReadsInt w .u8 A r.length r ∧ Bs 5 w base v r := by
  obtain ⟨A, c, e, hc, hr⟩ := own_reads_of_le (enc := Value.int .u8) (d := 0) (Bs.ofR h)
  exact ⟨A, c, e, hc, own_reads' (by rw [← e]; exact Bs.ofR h), Bs.ofR h⟩
theorem twin_any (w : World) (A : Option Addr) (n c : Nat) (l : List Int) (hn : l.length = n) (hr : ReadsInt w .u8 A n l) (hc : n ≤ c) (hl : n ≤ 1000000) :
    Calls Tryd.prog 14 #[.slice A n c] w fun e w' => ∃ A' c', e = .returned (.slice A' n c') ∧ Hid (n ≤ c') ∧ Hid (Bs 5 w' w.heap.size (.slice A' n c') l) ∧ Hid (Below w.heap.size w w') := by
  subst hn
  refine (codicilref01_Twin.calls A c l l w (toC hr) hc (by unfold codicilref01_Twin.f; rw [if_pos (by simp; omega)]; rfl)).mono ?_
  rintro e w1 ⟨v, rfl, hv, hb⟩
  obtain ⟨A', c', rfl, h1, h2, h3⟩ := r_open hv
  exact ⟨A', c', rfl, Lib.hid h1, Lib.hid h3, Lib.hid hb⟩
theorem same_yes (w : World) (A0 : Option Addr) (c0 : Nat) (A1 : Option Addr) (c1 n m : Nat) (l : List Int) (hn : l.length = n) (hm : l.length = m) (hr0 : ReadsInt w .u8 A0 n l) (hr1 : ReadsInt w .u8 A1 m l) (hc0 : n ≤ c0) (hc1 : m ≤ c1) :
    Calls Tryd.prog 15 #[.slice A0 n c0, .slice A1 m c1] w fun e w' => e = .returned (.bool true) ∧ ∃ n, w' = w.drewN n := by
  subst hn
  subst hm
  refine (codicilref01_Same.calls A0 c0 l A1 c1 l true w (toC hr0) hc0 (toC hr1) hc1 (by simp [codicilref01_Same.f])).mono ?_
  rintro e w1 ⟨rfl, hd⟩
  exact ⟨rfl, hd.out⟩
theorem inflate_any (w : World) (A : Option Addr) (n c : Nat) (l : List Int) (m : Int) (r : List Int × Int × Int) (hn : l.length = n) (hr : ReadsInt w .u8 A n l) (hb : ∀ x ∈ l, 0 ≤ x ∧ x < 256) (hc : n ≤ c) (hl : n ≤ 1000000) (ho : Ord w) (he : infF l m = r) :
    Calls Tryd.prog 13 #[.slice A n c, .int .i64 m] w fun ee w' =>
      ∃ A' c', ee = .returned (.tuple #[.slice A' r.1.length c', .int .i64 r.2.1, .int .i64 r.2.2]) ∧ Hid (Bs 5 w' w.heap.size (.slice A' r.1.length c') r.1) ∧ Hid (Below w.heap.size w w') := by
  subst hn
  refine (inflate_calls w A c l m hr hb hc (by omega) ho).mono ?_
  rintro ee w2 ⟨v, rfl, hv, hb2⟩
  rw [he] at hv ⊢
  obtain ⟨A', c', rfl⟩ := own_slice hv.out
  exact ⟨A', c', rfl, hv, hb2⟩
theorem aw3_1 : infF [1, 3, 0, 252, 255, 97, 98, 99] 9 = ([97, 98, 99], 8, 0) := by decide +kernel
theorem aw3_2 : infF [75, 4, 0] 9 = ([97], 3, 0) := by decide +kernel
theorem aw3_3 : infF [7] 9 = ([], 0, 4) := by decide +kernel
set_option maxRecDepth 8000 in
set_option maxHeartbeats 4000000 in
theorem awake3_calls (w : World) (ho : Ord w) : Calls Tryd.prog 12 #[] w fun e w' => e = .returned (.bool true) ∧ Below w.heap.size w w' := by
  have HO := Lib.hid ho
  clear ho
  go_enter Tryd.func12, Tryd.ntmps12
  go_wp2_with fail
  refine (inflate_lit w [1, 3, 0, 252, 255, 97, 98, 99] 9 _ HO.out (by decide) (by decide) aw3_1).mono ?_
  rintro e w1 ⟨A1, c1, rfl, HR1, HB1⟩
  have HO1 := Lib.hid (HO.out.below HB1.out)
  go_wp2_with fail
  refine (inflate_lit w1 [75, 4, 0] 9 _ HO1.out (by decide) (by decide) aw3_2).mono ?_
  rintro e w2 ⟨A2, c2, rfl, HR2, HB2⟩
  have HR12 := Lib.hid (HR1.out.below HB2.out)
  have HB12 := Lib.hid (below_then HB1.out HB1.out.size HB2.out)
  have HO2 := Lib.hid (HO1.out.below HB2.out)
  clear HR1 HB1 HO1
  go_wp2_with fail
  refine (inflate_lit w2 [7] 9 _ HO2.out (by decide) (by decide) aw3_3).mono ?_
  rintro e w3 ⟨A3, c3, rfl, -, HB3⟩
  have HR13 := Lib.hid (HR12.out.below HB3.out)
  have HR23 := Lib.hid (HR2.out.below HB3.out)
  have HB13 := Lib.hid (below_then HB12.out HB12.out.size HB3.out)
  have hcv1 : (convert 22 9 (.slice A1 3 c1)).run Tryd.prog w3 = Result.ok (Value.string ⟨#[97, 98, 99]⟩) w3 := (Kd.C_string (P := Tryd.prog) (A := A1) (c := c1) Tryd.underlying22 Tryd.underlying5 Tryd.underlying9 (toC HR13.out)).trans (by rw [show strOfNums [97, 98, 99] = ⟨#[97, 98, 99]⟩ by decide])
  have hcv2 : (convert 22 9 (.slice A2 1 c2)).run Tryd.prog w3 = Result.ok (Value.string ⟨#[97]⟩) w3 := (Kd.C_string (P := Tryd.prog) (A := A2) (c := c2) Tryd.underlying22 Tryd.underlying5 Tryd.underlying9 (toC HR23.out)).trans (by rw [show strOfNums [97] = ⟨#[97]⟩ by decide])
  clear HR12 HB12 HR2 HB2 HO2 HB3
  go_wp2_with fail
  go_ret
  exact ⟨rfl, HB13.out⟩
end Go.Proofs.YtkdklcamgcmifaaDoor
