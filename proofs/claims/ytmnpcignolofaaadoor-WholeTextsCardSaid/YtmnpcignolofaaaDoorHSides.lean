/- codiciltop.sides: both sides of a told difference. -/
import Derived.Test.YtmnpcignolofaaaDoorHWTp
import Derived.Test.YtmnpcignolofaaaDoorHText
import Derived.Test.YtmnpcignolofaaaDoorHLines
import Derived.Lib.ConvBytes
namespace Go.Proofs.YtmnpcignolofaaaDoor
set_option linter.unusedVariables false
set_option linter.unusedSimpArgs false
open Go.RowKit Go.Shelf Go.Proofs.YtmnpcignolofaaaDoorW.PrintWords Go.Proofs.YtmnpcignolofaaaDoorW.PrintMore
theorem str_bi (l : List UInt8) : strOfNums (bi l) = ⟨l.toArray⟩ := by
  unfold strOfNums bi
  rw [List.map_map]
  congr 2
  conv => rhs; rw [← List.map_id l]
  refine List.map_congr_left (fun x _ => ?_)
  simp
theorem bi_len (l : List UInt8) : (bi l).length = l.length := by unfold bi; rw [List.length_map]
theorem ba_size (T : ByteArray) : T.size = T.data.toList.length := rfl
/-- A string's bytes, laid. -/
theorem bytes_of (w : World) (T : ByteArray) (hT : T.size ≤ 2000000) : ∃ c W, (convert 9 22 (.string T)).run Tryd.prog w = .ok (.slice (some ⟨w.heap.size, 0, none⟩) T.size c) W ∧ ReadsInt W .u8 (some ⟨w.heap.size, 0, none⟩) T.size (bi T.data.toList) ∧ T.size ≤ c ∧ Below w.heap.size w W := by
  refine ⟨_, _, Lib.run_convert_string_bytes (P := Tryd.prog) w 9 22 5 T Tryd.underlying9 Tryd.underlying22 Tryd.underlying5, ⟨by rw [bi_len]; rfl, by omega, fun h => ⟨_, rfl, fun j hj => ?_⟩⟩, grownCap_ge w _ _ _, ⟨rfl, rfl, rfl, by rw [Lib.bytesWorld_size]; omega, fun i hi => Lib.bytesWorld_at_old w _ T i hi⟩⟩
  rw [add_plain]
  try rw [Nat.zero_add]
  rw [Lib.bytesWorld_cell w _ T j hj]
  congr 2
  unfold bi
  simp only [List.getD_eq_getElem?_getD, List.getElem?_map]
  have hl : j < T.data.toList.length := hj
  rw [List.getElem?_eq_getElem hl]
  rfl
def lineB (h : Tld) : ByteArray := ⟨#[h.1]⟩ ++ h.2
theorem lineB_bi (h : Tld) : strOfNums (bi (tlB h)) = lineB h := by
  rw [str_bi]
  unfold lineB tlB
  apply ByteArray.ext
  rw [ByteArray.data_append]
  apply Array.ext'
  simp
theorem lineB_size (h : Tld) : (lineB h).size = h.2.size + 1 := by
  unfold lineB
  rw [ByteArray.size_append]
  show 1 + _ = _
  omega
theorem lineB_0 (h : Tld) (hz : 0 < (lineB h).size) : (lineB h)[0]'hz = h.1 := by
  have e : (lineB h).data = #[h.1] ++ h.2.data := by unfold lineB; rw [ByteArray.data_append]
  have h2 : (lineB h)[0]'hz = (lineB h).data[0]'hz := rfl
  rw [h2]
  simp [e]
def strA (ls : List Tld) : ByteArray := ⟨(sideA ls).toArray⟩
def strB (ls : List Tld) : ByteArray := ⟨(sideB ls).toArray⟩
theorem strA_snoc (ls : List Tld) (h : Tld) : strA (ls ++ [h]) = if h.1 = 43 then strA ls else strA ls ++ h.2 := by
  unfold strA sideA
  rw [List.flatMap_append]
  split
  · rename_i e; simp [e]
  · rename_i e
    apply ByteArray.ext
    rw [ByteArray.data_append]
    apply Array.ext'
    simp [e]
theorem strB_snoc (ls : List Tld) (h : Tld) : strB (ls ++ [h]) = if h.1 = 45 then strB ls else strB ls ++ h.2 := by
  unfold strB sideB
  rw [List.flatMap_append]
  split
  · rename_i e; simp [e]
  · rename_i e
    apply ByteArray.ext
    rw [ByteArray.data_append]
    apply Array.ext'
    simp [e]
theorem strA_take (ls : List Tld) (i : Nat) : (strA (ls.take i)).size ≤ ((ls.take i).flatMap tlB).length := by
  show (sideA (ls.take i)).toArray.size ≤ _
  rw [List.size_toArray]
  generalize ls.take i = l
  induction l with
  | nil => exact Nat.le_refl _
  | cons h l ih =>
    unfold sideA at ih ⊢
    rw [List.flatMap_cons, List.flatMap_cons, List.length_append, List.length_append]
    have : (if h.1 = 43 then [] else h.2.data.toList).length ≤ (tlB h).length := by
      unfold tlB
      split <;> simp
    omega
theorem strB_take (ls : List Tld) (i : Nat) : (strB (ls.take i)).size ≤ ((ls.take i).flatMap tlB).length := by
  show (sideB (ls.take i)).toArray.size ≤ _
  rw [List.size_toArray]
  generalize ls.take i = l
  induction l with
  | nil => exact Nat.le_refl _
  | cons h l ih =>
    unfold sideB at ih ⊢
    rw [List.flatMap_cons, List.flatMap_cons, List.length_append, List.length_append]
    have : (if h.1 = 45 then [] else h.2.data.toList).length ≤ (tlB h).length := by
      unfold tlB
      split <;> simp
    omega
theorem flat_len (ls : List Tld) : (ls.map (fun h => bi (tlB h))).flatten.length = (ls.flatMap tlB).length := by
  induction ls with
  | nil => rfl
  | cons h l ih => rw [List.flatMap_cons, List.map_cons, List.flatten_cons, List.length_append, List.length_append, bi_len, ih]
theorem len_flat (ls : List Tld) : ls.length ≤ (ls.flatMap tlB).length := by
  induction ls with
  | nil => exact Nat.le_refl _
  | cons h l ih =>
    rw [List.flatMap_cons, List.length_append, List.length_cons]
    have : 1 ≤ (tlB h).length := by unfold tlB; simp
    omega
theorem mem_flat {ls : List Tld} {h : Tld} (hm : h ∈ ls) : h.2.size ≤ (ls.flatMap tlB).length := by
  induction ls with
  | nil => cases hm
  | cons g l ih =>
    rw [List.flatMap_cons, List.length_append]
    rcases List.mem_cons.1 hm with rfl | hm
    · have : (tlB h).length = h.2.size + 1 := by unfold tlB; rw [List.length_cons]; rfl
      omega
    · have := ih hm
      omega
set_option maxRecDepth 20000 in
set_option maxHeartbeats 40000000 in
theorem sides_calls (w : World) (T : ByteArray) (ls : List Tld) (hT : T.size ≤ 2000000) (hL : linesF (bi T.data.toList) = ls.map (fun h => bi (tlB h))) (hg : ∀ h ∈ ls, (h.1 = 32 ∨ h.1 = 45 ∨ h.1 = 43) ∧ 0 < h.2.size) :
    Calls Tryd.prog 29 #[.string T] w fun e w' => e = .returned (.tuple #[.string (strA ls), .string (strB ls), .bool true]) ∧ Below w.heap.size w w' := by
  obtain ⟨c, W, hcv, hrd, hcc, hb⟩ := bytes_of w T hT
  have HLN := lines_calls W (some ⟨w.heap.size, 0, none⟩) c (bi T.data.toList) (by rw [bi_len]; exact hrd) (by rw [bi_len]; exact hcc) (by
    intro x hx
    obtain ⟨y, _, rfl⟩ := List.mem_map.1 hx
    have := y.toNat_lt
    omega) (by rw [bi_len]; exact Nat.le_trans hT (by decide))
  rw [bi_len, hL] at HLN
  have HLN := Lib.hid HLN
  have HB := Lib.hid hb
  have HG := Lib.hid hg
  have hlen : (ls.flatMap tlB).length ≤ 2000000 := by
    have h1 := linesF_join (bi T.data.toList)
    rw [hL] at h1
    have h2 : (ls.flatMap tlB).length = (bi T.data.toList).length := by rw [← h1, flat_len]
    rw [h2, bi_len]
    exact hT
  have HLE : Hid (∀ i, (strA (ls.take i)).size ≤ 2000000 ∧ (strB (ls.take i)).size ≤ 2000000) := Lib.hid (fun i => by
    have h1 : ((ls.take i).flatMap tlB).length ≤ (ls.flatMap tlB).length := by
      conv => rhs; rw [← List.take_append_drop i ls, List.flatMap_append, List.length_append]
      omega
    exact ⟨Nat.le_trans (strA_take ls i) (by omega), Nat.le_trans (strB_take ls i) (by omega)⟩)
  have HFL := Lib.hid hlen
  clear hrd hcc hb hg hL hlen
  go_enter Tryd.func29, Tryd.ntmps29
  go_wp2_with fail
  refine HLN.out.mono ?_
  rintro e w1 ⟨v1, rfl, ho1, hb1⟩
  obtain ⟨A1, c1, rfl⟩ := own_slice ho1
  have hll : (ls.map (fun h => bi (tlB h))).length = ls.length := List.length_map ..
  rw [hll] at ho1 ⊢
  have HO1 : Hid (w1.ownsRow W.heap.size 9 1 (.slice A1 ls.length c1) ls.length (encs (fun h => Value.string (lineB h)) ls)) := Lib.hid (by
    have e : (ls.map (fun h => bi (tlB h))).map strV = encs (fun h => Value.string (lineB h)) ls := by
      rw [List.map_map]
      unfold encs
      refine List.map_congr_left (fun h _ => ?_)
      show Value.string (strOfNums (bi (tlB h))) = _
      rw [lineB_bi]
    rw [e] at ho1
    exact ho1)
  have HB1 := Lib.hid (below_then HB.out HB.out.size hb1)
  clear ho1 hb1 HB HLN hcv hll
  go_wp2_with fail
  go_loopw [13, 5, 6] (fun v13 v5 v6 wr => ∃ i : Nat, v13 = .int .i64 i ∧ i ≤ ls.length ∧ v5 = .string (strA (ls.take i)) ∧ v6 = .string (strB (ls.take i)) ∧ Hid (∃ k, wr = w1.drewN k)) (fun v13 _ _ _ => ls.length - (intOf v13).toNat)
  case atStart => exact ⟨0, rfl, by omega, rfl, rfl, Lib.hid ⟨0, rfl⟩⟩
  case round =>
    obtain ⟨i, rfl, hi, rfl, rfl, hw⟩ := hrel
    by_cases hlt : i < ls.length
    · have i0 : (0 : Int) ≤ (i : Int) := by omega
      have i1 : (i : Int) < (ls.length : Int) := by omega
      have hl20 : ls.length ≤ 2000000 := Nat.le_trans (len_flat ls) HFL.out
      have wi : IntKind.i64.wrap ((i : Int) + 1) = (i : Int) + 1 := by rw [IntKind.wrap_i64]; omega
      obtain ⟨ax, rfl, hcx⟩ := (own_reads_of' (d := (0, ByteArray.empty)) HO1.out).2.2 (by omega)
      have k1 := hcx i hlt
      obtain ⟨h, hh⟩ : ∃ h, h = ls.getD i (0, ByteArray.empty) := ⟨_, rfl⟩
      rw [← hh] at k1
      have hgt : ls.getD i (0, ByteArray.empty) = ls[i] := by rw [List.getD_eq_getElem?_getD, List.getElem?_eq_getElem hlt]; rfl
      have hmem : h ∈ ls := by rw [hh, hgt]; exact List.getElem_mem hlt
      have htk : ls.take (i + 1) = ls.take i ++ [h] := by rw [List.take_succ_eq_append_getElem hlt, hh, hgt]
      have k2 : wr.cell? (ax.add i) = some (.string (lineB h)) := by obtain ⟨k, rfl⟩ := hw.out; exact k1
      obtain ⟨hg3, hsz⟩ := HG.out h hmem
      have hl2 := lineB_size h
      have e1 := ext_1 h.1 h.2
      have hle := HLE.out i
      have hm20 : h.2.size ≤ 2000000 := Nat.le_trans (mem_flat hmem) HFL.out
      have HTA := Lib.hid (strA_snoc (ls.take i) h)
      have HTB := Lib.hid (strB_snoc (ls.take i) h)
      have HTK := Lib.hid htk
      clear hh hgt hmem htk hcx k1
      generalize strA (ls.take i) = PA at *
      generalize strB (ls.take i) = PB at *
      have z0' : 0 < (lineB h).size := by omega
      have s0' := lineB_0 h z0'
      obtain ⟨m, hm⟩ : ∃ m, m = h.2.size := ⟨_, rfl⟩
      rw [← hm] at hl2 hsz
      have e1 : (lineB h).extract 1 (m + 1) = h.2 := by rw [hm, Nat.add_comm]; exact ext_1 h.1 h.2
      obtain ⟨S, hS⟩ : ∃ S : ByteArray, lineB h = S ∧ ∃ z0 : 0 < S.size, S[0]'z0 = h.1 := ⟨lineB h, rfl, z0', s0'⟩
      obtain ⟨hS, z0, s0⟩ := hS
      rw [hS] at k2 hl2 e1
      have z1 : ¬ ((m : Int) + 1 < 2) := by omega
      have e2 : S.extract 1 S.size = h.2 := by rw [hl2]; exact e1
      have p1 : ¬ (9223372036854775807 < PA.size + h.2.size) := by omega
      have p2 : ¬ (9223372036854775807 < PB.size + h.2.size) := by omega
      clear hS s0' z0' hm
      rcases hg3 with e | e | e
      · have HH := Lib.hid e
        rw [e] at s0
        have b32 : (((S[0]'z0).toNat : Int) == 32) = true := by rw [s0]; rfl
        clear e s0
        go_wp2_with fail
        go_roundw
        case rel => exact ⟨i + 1, by go_num, by omega, by rw [HTK.out, HTA.out, HH.out]; rfl, by rw [HTK.out, HTB.out, HH.out]; rfl, hw⟩
        case measure => simp only [intOf]; omega
      · have HH := Lib.hid e
        rw [e] at s0
        have b32 : (((S[0]'z0).toNat : Int) == 32) = false := by rw [s0]; rfl
        have b45 : (((S[0]'z0).toNat : Int) == 45) = true := by rw [s0]; rfl
        clear e s0
        go_wp2_with fail
        go_roundw
        case rel => exact ⟨i + 1, by go_num, by omega, by rw [HTK.out, HTA.out, HH.out]; rfl, by rw [HTK.out, HTB.out, HH.out]; rfl, hw⟩
        case measure => simp only [intOf]; omega
      · have HH := Lib.hid e
        rw [e] at s0
        have b32 : (((S[0]'z0).toNat : Int) == 32) = false := by rw [s0]; rfl
        have b45 : (((S[0]'z0).toNat : Int) == 45) = false := by rw [s0]; rfl
        have b43 : (((S[0]'z0).toNat : Int) == 43) = true := by rw [s0]; rfl
        clear e s0
        go_wp2_with fail
        go_roundw
        case rel => exact ⟨i + 1, by go_num, by omega, by rw [HTK.out, HTA.out, HH.out]; rfl, by rw [HTK.out, HTB.out, HH.out]; rfl, hw⟩
        case measure => simp only [intOf]; omega
    · obtain rfl : i = ls.length := by omega
      rw [List.take_length]
      go_wp2_with fail
      go_ret3
      obtain ⟨k, rfl⟩ := hw.out
      exact ⟨rfl, pw_below_drewN HB1.out k⟩
end Go.Proofs.YtmnpcignolofaaaDoor
