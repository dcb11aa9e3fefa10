/- codicilref19.Rests: walked. -/
import Derived.Test.YtmnpcignolofaaaHRests
namespace Go.Proofs.Ytmnpcignolofaaa
set_option linter.unusedVariables false
set_option linter.unusedSimpArgs false
open Go.RowKit Go.Proofs.YtmnpcignolofaaaW.PrintWords Go.Proofs.YtmnpcignolofaaaW.PrintMore
theorem infoSI : (Try.prog.info? 56).map (fun i => (i.zero, i.size, i.bytes)) = some (some (.slice none 0 0), 1, 24) := by kernel_rfl
def Okr (a b : List ByteArray) (R : Nat → List Int) (X Y : Nat) : Prop := ∀ x y, x ≤ a.length → y ≤ b.length → (X < x ∨ X = x ∧ Y ≤ y) → (R x).getD y 0 = (dd a b x y : Int)
theorem okr_set {a b : List ByteArray} {R : Nat → List Int} {x y : Nat} (hx : x ≤ a.length) (hy : y ≤ b.length) (hl : (R x).length = b.length + 1) (hT : Okr a b R x (y + 1)) : Okr a b (fun z => if z = x then (R x).set y (dd a b x y : Int) else R z) x y := by
  intro x' y' hx' hy' h
  by_cases e : x' = x
  · subst e
    simp only [if_true]
    by_cases e2 : y = y'
    · subst e2
      simp [List.getD_eq_getElem?_getD, List.getElem?_set_self (show y < (R x').length by omega)]
    · rw [← hT x' y' hx' hy' (by omega)]
      simp [List.getD_eq_getElem?_getD, List.getElem?_set_ne e2]
  · simp only [if_neg e]
    exact hT x' y' hx' hy' (by omega)
theorem rt_new {w : World} {n m : Nat} : Rt w w.heap.size n m (fun _ => []) (n + 1) (w.alloc (.cells (madeCells #[.slice none 0 0] (n + 1)) 56)) := by
  refine ⟨?_, fun x h1 h2 => by omega, by simp, below_alloc (Below.refl _ _) _, Nat.le_refl _⟩
  rw [heap_alloc_new]
  have e : madeCells #[Value.slice none 0 0] (n + 1) = (rtCells w.heap.size n m (n + 1)).toArray := by
    apply Array.ext
    · simp [madeCells, rtCells]
    · intro i h1 h2
      have hi : i < n + 1 := by simpa [madeCells] using h1
      simp [madeCells, rtCells, Nat.mod_one]
      exact hi
  rw [e]
theorem okr_row {a b : List ByteArray} {R : Nat → List Int} {x : Nat} {l : List Int} (h : Okr a b R (x + 1) 0) : Okr a b (fun z => if z = x then l else R z) x (b.length + 1) := by
  intro x' y' hx' hy' k
  simp only [if_neg (show ¬ x' = x by omega)]
  exact h x' y' hx' hy' (by omega)
theorem Rt.fresh {w0 : World} {Tb n m : Nat} {R : Nat → List Int} {x : Nat} {W : World} (h : Rt w0 Tb n m R (x + 1) W) (hn : x ≤ n) (o : Obj) : (W.alloc o).cell? ⟨Tb, x, none⟩ = some (.slice none 0 0) ∧ (W.alloc o).frozen? ⟨Tb, x, none⟩ = false := by
  have hb1 := (Below.heap_alloc W o Tb (blk_lt h.blk)).trans h.blk
  refine ⟨?_, blk_frozen hb1 x⟩
  rw [blk_cell hb1 x, rtCells_at _ _ _ _ _ hn, if_neg (by omega)]
set_option maxRecDepth 20000 in
set_option maxHeartbeats 20000000 in
theorem rests_calls (w : World) (A : Option Addr) (ca : Nat) (a : List ByteArray) (B : Option Addr) (cb : Nat) (b : List ByteArray) (hla : ReadsOf Value.string ByteArray.empty w A a.length a) (hlb : ReadsOf Value.string ByteArray.empty w B b.length b)
    (hna : a.length ≤ 1000) (hnb : b.length ≤ 1000) :
    Calls Try.prog 30 #[.slice A a.length ca, .slice B b.length cb] w fun e w' => ∃ R, e = .returned (.slice (some ⟨w.heap.size, 0, none⟩) (a.length + 1) (a.length + 1)) ∧ Rt w w.heap.size a.length b.length R 0 w' ∧ Okr a b R 0 0 := by
  have HLA := Lib.hid hla
  have HLB := Lib.hid hlb
  obtain ⟨n1, hn1⟩ : ∃ n1, n1 = a.length + 1 := ⟨_, rfl⟩
  obtain ⟨m1, hm1⟩ : ∃ m1, m1 = b.length + 1 := ⟨_, rfl⟩
  have hmo := print_make_of (P := Try.prog) 57 56 (.slice none 0 0) 24 Try.underlying57 infoSI rfl (by decide) n1 (by omega)
  have hmi := print_make (P := Try.prog) 56 3 .i64 8 Try.underlying56 infoI (by decide) m1 (by omega)
  have en : (a.length : Int) + 1 = (n1 : Int) := by omega
  have em : (b.length : Int) + 1 = (m1 : Int) := by omega
  have HN1 := Lib.hid hn1
  have HM1 := Lib.hid hm1
  have HNEW := Lib.hid (rt_new (w := w) (n := a.length) (m := b.length))
  rw [← hn1] at HNEW ⊢
  have h62n : n1 ≤ 1001 := by omega
  have h62m : m1 ≤ 1001 := by omega
  clear hla hlb hn1 hm1
  go_enter Try.func30, Try.ntmps30
  go_wp2_with fail
  generalize (World.alloc w _) = w1 at HNEW ⊢
  have HOK0 : Hid (Okr a b (fun _ => []) (a.length + 1) 0) := Lib.hid fun x y hx hy h => by omega
  rw [← HN1.out] at HOK0
  go_loopw [8] (fun v8 wr => ∃ (X : Nat) (R : Nat → List Int), v8 = .int .i64 ((X : Int) - 1) ∧ X ≤ n1 ∧ Hid (Rt w w.heap.size a.length b.length R X wr) ∧ Hid (Okr a b R X 0)) (fun v8 _ => (intOf v8 + 1).toNat)
  case atStart => exact ⟨n1, fun _ => [], by congr 1; omega, by omega, HNEW, HOK0⟩
  case round =>
    obtain ⟨X, R, rfl, hX, hrt, hok⟩ := hrel
    clear HNEW HOK0
    rcases X with _ | x
    · rw [show (((0 : Nat) : Int) - 1) = -1 from rfl]
      go_wp2_with fail
      go_ret
      exact ⟨R, rfl, hrt.out, hok.out⟩
    · have ex : (((x + 1 : Nat) : Int) - 1) = (x : Int) := by omega
      rw [ex]
      have x0 : (x : Int) ≥ 0 := by omega
      have hxn := HN1.out
      have hx : x ≤ a.length := by omega
      have x1 : (x : Int) < (n1 : Int) := by omega
      have fr := hrt.out.fresh hx (.cells (madeCells #[.int .i64 0] m1) 3)
      have fr1 := fr.1
      have fr2 := fr.2
      have hrt2 := hrt.out.more hx
      rw [← HM1.out] at hrt2
      have HRT2 := Lib.hid hrt2
      clear fr hxn hrt2
      go_wp2_with fail
      generalize (World.setCell _ _ _) = w2 at HRT2 ⊢
      have HOK2 := Lib.hid (okr_row (l := List.replicate m1 0) hok.out)
      generalize (fun z => if z = x then List.replicate m1 (0 : Int) else R z) = R2 at HRT2 HOK2
      clear fr1 fr2 hrt hok
      obtain ⟨gx, hgx⟩ : ∃ gx, gx = w.heap.size + 1 + a.length - x := ⟨_, rfl⟩
      have HGX := Lib.hid hgx
      clear hgx
      go_loopw [9] (fun v9 wr => ∃ (Y : Nat) (R : Nat → List Int), v9 = .int .i64 ((Y : Int) - 1) ∧ Y ≤ m1 ∧ Hid (Rt w w.heap.size a.length b.length R x wr) ∧ Hid (Okr a b R x Y)) (fun v9 _ => (intOf v9 + 1).toNat)
      case atStart => exact ⟨m1, R2, by congr 1; omega, by omega, HRT2, by rw [HM1.out]; exact HOK2⟩
      case round =>
        obtain ⟨Y, R, rfl, hY, hrt, hok⟩ := hrel
        clear HRT2 HOK2
        rcases Y with _ | y
        · rw [show (((0 : Nat) : Int) - 1) = -1 from rfl]
          go_wp2_with fail
          go_roundw
          case rel => exact ⟨x, R, rfl, by omega, hrt, hok⟩
          case measure => simp only [intOf]; omega
        · have ey : (((y + 1 : Nat) : Int) - 1) = (y : Int) := by omega
          rw [ey]
          have y0 : (y : Int) ≥ 0 := by omega
          have hym := HM1.out
          have hy : y ≤ b.length := by omega
          have y1 : (y : Int) < (m1 : Int) := by omega
          have o1 := hrt.out.outer x (Nat.le_refl _) hx
          have in1 := hrt.out.inner x y (Nat.le_refl _) hx hy
          rw [← HGX.out, ← HM1.out] at o1
          rw [← HGX.out] at in1
          have in2 := in1.2
          have in3 := in1.1
          have hlen := (hrt.out.rows x (Nat.le_refl _) hx).2
          have HPUT := Lib.hid (hrt.out.put x y (Nat.le_refl _) hx (dd a b x y : Int))
          rw [← HGX.out] at HPUT
          have HOKN := Lib.hid (okr_set hx hy hlen hok.out)
          have hdl := dd_le a b x y
          clear in1 hym hlen
          by_cases h1 : x = a.length
          · have hd : (dd a b x y : Int) = (b.length : Int) - (y : Int) := by rw [h1, dd_end1]; omega
            have i1 : ((x : Int) == (a.length : Int)) = true := by simp; omega
            rw [hd] at HPUT HOKN
            clear hd h1
            go_wp2_with fail
            go_roundw
            case rel => exact ⟨y, _, rfl, by omega, HPUT, HOKN⟩
            case measure => simp only [intOf]; omega
          · have i1 : ((x : Int) == (a.length : Int)) = false := by simp; omega
            by_cases h2 : y = b.length
            · have hd : (dd a b x y : Int) = (a.length : Int) - (x : Int) := by rw [h2, dd_end2]; omega
              have j1 : ((y : Int) == (b.length : Int)) = true := by simp; omega
              rw [hd] at HPUT HOKN
              clear hd h1 h2
              go_wp2_with fail
              go_roundw
              case rel => exact ⟨y, _, rfl, by omega, HPUT, HOKN⟩
              case measure => simp only [intOf]; omega
            · have j1 : ((y : Int) == (b.length : Int)) = false := by simp; omega
              have hxl : x < a.length := by omega
              have hyl : y < b.length := by omega
              obtain ⟨aa, hAa, hca⟩ := (HLA.out.below hrt.out.below).2.2 (by omega)
              obtain ⟨ab, hAb, hcb⟩ := (HLB.out.below hrt.out.below).2.2 (by omega)
              have ka := hca x hxl
              have kb := hcb y hyl
              obtain ⟨s, hs⟩ : ∃ s, s = a.getD x ByteArray.empty := ⟨_, rfl⟩
              obtain ⟨u, hu⟩ : ∃ u, u = b.getD y ByteArray.empty := ⟨_, rfl⟩
              have e1 : (txs a).getD x [] = tx s := by rw [hs]; simp [txs, List.getD_eq_getElem?_getD, List.getElem?_eq_getElem hxl]
              have e2 : (txs b).getD y [] = tx u := by rw [hu]; simp [txs, List.getD_eq_getElem?_getD, List.getElem?_eq_getElem hyl]
              rw [← hs] at ka
              rw [← hu] at kb
              have hdi := dd_in a b x y hxl hyl
              rw [e1, e2] at hdi
              subst hAa hAb
              have x0a : (0 : Int) ≤ (x : Int) := by omega
              have x1a : (x : Int) < (a.length : Int) := by omega
              have y0a : (0 : Int) ≤ (y : Int) := by omega
              have y1a : (y : Int) < (b.length : Int) := by omega
              obtain ⟨x2, hx2⟩ : ∃ x2, x2 = x + 1 := ⟨_, rfl⟩
              obtain ⟨y2, hy2⟩ : ∃ y2, y2 = y + 1 := ⟨_, rfl⟩
              have wx : IntKind.i64.wrap ((x : Int) + 1) = (x2 : Int) := by rw [IntKind.wrap_i64]; omega
              have wy : IntKind.i64.wrap ((y : Int) + 1) = (y2 : Int) := by rw [IntKind.wrap_i64]; omega
              have x20 : (0 : Int) ≤ (x2 : Int) := by omega
              have y20 : (0 : Int) ≤ (y2 : Int) := by omega
              have hn1e := HN1.out
              have hm1e := HM1.out
              have x21 : (x2 : Int) < (n1 : Int) := by omega
              have y21 : (y2 : Int) < (m1 : Int) := by omega
              obtain ⟨gy, hgy⟩ : ∃ gy, gy = w.heap.size + 1 + a.length - (x + 1) := ⟨_, rfl⟩
              have o2 := hrt.out.outer (x + 1) (by omega) (by omega)
              rw [← hgy, ← HM1.out, ← hx2] at o2
              have q1 := (hrt.out.inner (x + 1) (y + 1) (by omega) (by omega) (by omega)).1
              have q2 := (hrt.out.inner (x + 1) y (by omega) (by omega) (by omega)).1
              have q3 := (hrt.out.inner x (y + 1) (by omega) (by omega) (by omega)).1
              rw [hok.out (x + 1) (y + 1) (by omega) (by omega) (.inl (by omega)), ← hgy, ← hx2, ← hy2] at q1
              rw [hok.out (x + 1) y (by omega) (by omega) (.inl (by omega)), ← hgy, ← hx2] at q2
              rw [hok.out x (y + 1) (by omega) (by omega) (.inr ⟨rfl, Nat.le_refl _⟩), ← HGX.out, ← hy2] at q3
              rw [← hx2, ← hy2] at hdi
              have b2 := dd_le a b x2 y
              have b3 := dd_le a b x y2
              generalize dd a b x2 y2 = v1 at hdi q1
              generalize dd a b x2 y = v2 at hdi q2 b2
              generalize dd a b x y2 = v3 at hdi q3 b3
              clear hca hcb hs hu e1 e2 h1 h2 hx2 hy2 hn1e hm1e hgy hxl hyl
              by_cases h3 : tx s = tx u
              · rw [if_pos h3] at hdi
                rw [← tx_inj h3] at kb
                rw [hdi] at HPUT HOKN
                have HPUT2 : Hid (∀ k, Rt w w.heap.size a.length b.length (fun z => if z = x then (R x).set y (v1 : Int) else R z) x ((wr.drewN k).setCell ⟨gx, y, none⟩ (.int .i64 (v1 : Int)))) := Lib.hid fun k => by
                  have h := (hrt.out.drewN k).put x y (Nat.le_refl _) hx (v1 : Int)
                  rwa [← HGX.out] at h
                clear h3 hdi HPUT q2 q3
                go_wp2_with fail
                go_quiet (fail)
                have D1 : (wr.drewN nq).cell? ⟨w.heap.size, x, none⟩ = some (.slice (some ⟨gx, 0, none⟩) m1 m1) := o1
                have D2 : (wr.drewN nq).cell? ⟨w.heap.size, x2, none⟩ = some (.slice (some ⟨gy, 0, none⟩) m1 m1) := o2
                have D3 : (wr.drewN nq).cell? ⟨gy, y2, none⟩ = some (.int .i64 (v1 : Int)) := q1
                have D4 : (wr.drewN nq).cell? ⟨gx, y, none⟩ = some (.int .i64 ((R x).getD y 0)) := in3
                have D5 : (wr.drewN nq).frozen? ⟨gx, y, none⟩ = false := in2
                have HP3 := Lib.hid (fun k => (show Rt w w.heap.size a.length b.length _ x (((wr.drewN nq).drewN k).setCell ⟨gx, y, none⟩ (.int .i64 (v1 : Int))) from by rw [World.drewN_drewN]; exact HPUT2.out (nq + k)))
                clear ka kb o1 o2 q1 in2 in3 HPUT2 hrt hok
                generalize wr.drewN nq = w3 at *
                go_wp2_with fail
                go_still_tail 15, (by kernel_rfl)
                go_wp2_with fail
                go_roundw
                case rel => exact ⟨y, _, rfl, by omega, Lib.hid ((HP3.out 0).drewN 1), HOKN⟩
                case measure => simp only [intOf]; omega
              · rw [if_neg h3] at hdi
                have hne : (s.toList == u.toList) = false := by
                  rw [ByteArray.toList_eq, ByteArray.toList_eq]
                  simpa [tx] using h3
                clear h3
                by_cases hv : v3 < v2
                · have f1 : (v3 : Int) < (v2 : Int) := by omega
                  have hmn : 1 + min v2 v3 = 1 + v3 := by omega
                  rw [hmn] at hdi
                  have hcast : ((1 + v3 : Nat) : Int) = 1 + (v3 : Int) := by omega
                  rw [hdi, hcast] at HPUT HOKN
                  have HPUT2 : Hid (∀ k, Rt w w.heap.size a.length b.length (fun z => if z = x then (R x).set y (1 + (v3 : Int)) else R z) x ((wr.drewN k).setCell ⟨gx, y, none⟩ (.int .i64 (1 + (v3 : Int))))) := Lib.hid fun k => by
                    have h := (hrt.out.drewN k).put x y (Nat.le_refl _) hx (1 + (v3 : Int))
                    rwa [← HGX.out] at h
                  clear hdi HPUT q1 hmn hcast
                  go_wp2_with fail
                  go_quiet (fail)
                  have D1 : (wr.drewN nq).cell? ⟨w.heap.size, x, none⟩ = some (.slice (some ⟨gx, 0, none⟩) m1 m1) := o1
                  have D2 : (wr.drewN nq).cell? ⟨w.heap.size, x2, none⟩ = some (.slice (some ⟨gy, 0, none⟩) m1 m1) := o2
                  have D3 : (wr.drewN nq).cell? ⟨gy, y, none⟩ = some (.int .i64 (v2 : Int)) := q2
                  have D3b : (wr.drewN nq).cell? ⟨gx, y2, none⟩ = some (.int .i64 (v3 : Int)) := q3
                  have D4 : (wr.drewN nq).cell? ⟨gx, y, none⟩ = some (.int .i64 ((R x).getD y 0)) := in3
                  have D5 : (wr.drewN nq).frozen? ⟨gx, y, none⟩ = false := in2
                  have HP3 := Lib.hid (fun k => (show Rt w w.heap.size a.length b.length _ x (((wr.drewN nq).drewN k).setCell ⟨gx, y, none⟩ (.int .i64 (1 + (v3 : Int)))) from by rw [World.drewN_drewN]; exact HPUT2.out (nq + k)))
                  clear ka kb o1 o2 q2 q3 in2 in3 HPUT2 hrt hok
                  generalize wr.drewN nq = w3 at *
                  go_wp2_with fail
                  go_still_tail 24, (by kernel_rfl)
                  go_wp2_with fail
                  go_roundw
                  case rel => exact ⟨y, _, rfl, by omega, Lib.hid ((HP3.out 0).drewN 1), HOKN⟩
                  case measure => simp only [intOf]; omega
                · have f1 : ¬ (v3 : Int) < (v2 : Int) := by omega
                  have hmn : 1 + min v2 v3 = 1 + v2 := by omega
                  rw [hmn] at hdi
                  have hcast : ((1 + v2 : Nat) : Int) = 1 + (v2 : Int) := by omega
                  rw [hdi, hcast] at HPUT HOKN
                  have HPUT2 : Hid (∀ k, Rt w w.heap.size a.length b.length (fun z => if z = x then (R x).set y (1 + (v2 : Int)) else R z) x ((wr.drewN k).setCell ⟨gx, y, none⟩ (.int .i64 (1 + (v2 : Int))))) := Lib.hid fun k => by
                    have h := (hrt.out.drewN k).put x y (Nat.le_refl _) hx (1 + (v2 : Int))
                    rwa [← HGX.out] at h
                  clear hdi HPUT q1 hmn hcast
                  go_wp2_with fail
                  go_quiet (fail)
                  have D1 : (wr.drewN nq).cell? ⟨w.heap.size, x, none⟩ = some (.slice (some ⟨gx, 0, none⟩) m1 m1) := o1
                  have D2 : (wr.drewN nq).cell? ⟨w.heap.size, x2, none⟩ = some (.slice (some ⟨gy, 0, none⟩) m1 m1) := o2
                  have D3 : (wr.drewN nq).cell? ⟨gy, y, none⟩ = some (.int .i64 (v2 : Int)) := q2
                  have D3b : (wr.drewN nq).cell? ⟨gx, y2, none⟩ = some (.int .i64 (v3 : Int)) := q3
                  have D4 : (wr.drewN nq).cell? ⟨gx, y, none⟩ = some (.int .i64 ((R x).getD y 0)) := in3
                  have D5 : (wr.drewN nq).frozen? ⟨gx, y, none⟩ = false := in2
                  have HP3 := Lib.hid (fun k => (show Rt w w.heap.size a.length b.length _ x (((wr.drewN nq).drewN k).setCell ⟨gx, y, none⟩ (.int .i64 (1 + (v2 : Int)))) from by rw [World.drewN_drewN]; exact HPUT2.out (nq + k)))
                  clear ka kb o1 o2 q2 q3 in2 in3 HPUT2 hrt hok
                  generalize wr.drewN nq = w3 at *
                  go_wp2_with fail
                  go_still_tail 24, (by kernel_rfl)
                  go_wp2_with fail
                  go_roundw
                  case rel => exact ⟨y, _, rfl, by omega, Lib.hid ((HP3.out 0).drewN 1), HOKN⟩
                  case measure => simp only [intOf]; omega
end Go.Proofs.Ytmnpcignolofaaa
