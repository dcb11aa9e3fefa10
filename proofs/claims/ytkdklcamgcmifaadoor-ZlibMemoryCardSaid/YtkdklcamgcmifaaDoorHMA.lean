/- What the laws of chapters 04 and 05 call: Adler, Twin, Same, Inflate, Unwrap, Wrap. -/
import Derived.Test.YtkdklcamgcmifaaDoorPMx5
import Derived.Laws.BitsAllLaws
import Derived.Test.YtkdklcamgcmifaaDoorHID
import Derived.Test.YtkdklcamgcmifaaDoorHEndsP
import Derived.Deep.QuietTactic
import Derived.BigQuiet
/-! HAdl: Adler, by the program and by the document. -/
namespace Go.Proofs.YtkdklcamgcmifaaDoor.PM
set_option linter.unusedVariables false
set_option linter.unusedSimpArgs false
open Go.RowKit Go.Proofs.YtkdklcamgcmifaaDoor Go.Proofs.YtkdklcamgcmifaaDoorW.PrintWords Go.Proofs.YtkdklcamgcmifaaDoorW.PrintLast Go.Proofs.YtkdklcamgcmifaaDoorW.PrintMore

theorem wrapId (x : Int) (h0 : -9223372036854775808 ≤ x) (h1 : x ≤ 9223372036854775807) : wrap64 x = x := by
  simp only [wrap64]
  omega
def adl : List Int → Int → Int → Int × Int
  | [], a, b => (a, b)
  | x :: r, a, b => adl r ((a + x) % 65521) ((b + (a + x) % 65521) % 65521)
theorem adl_range : ∀ (l : List Int) (a b : Int), 0 ≤ a → a < 65521 → 0 ≤ b → b < 65521 → 0 ≤ (adl l a b).1 ∧ (adl l a b).1 < 65521 ∧ 0 ≤ (adl l a b).2 ∧ (adl l a b).2 < 65521 := by
  intro l
  induction l with
  | nil => intro a b h0 h1 h2 h3; exact ⟨h0, h1, h2, h3⟩
  | cons x r ih => intro a b h0 h1 h2 h3; exact ih _ _ (by omega) (by omega) (by omega) (by omega)
theorem rd_drop (l : List Int) (i : Nat) (h : i < l.length) : l.drop i = rd l (i : Int) :: l.drop (i + 1) := by
  rw [List.drop_eq_getElem_cons h]
  simp [rd, h]
theorem rd_mem (l : List Int) (i : Nat) (h : i < l.length) : rd l (i : Int) ∈ l := by
  simp [rd, h]
theorem u32_join (b a : Int) (h0 : 0 ≤ b) (h1 : b < 65536) (h2 : 0 ≤ a) (h3 : a < 65536) : Go.bits .or .u32 (b * 65536) a = 65536 * b + a := by
  rw [u32_or _ _ (by omega) (by omega) h2 (by omega)]
  have h := nat_join 16 (b * 65536).toNat a.toNat (by omega) (by omega)
  rw [h]
  omega
theorem adlProg (l : List Int) (hb : ∀ x ∈ l, 0 ≤ x ∧ x < 256) (hl : l.length ≤ 140737488351232) : ∀ (m i k : Nat) (a b : Int), l.length - i = m → i ≤ l.length → m < k → 0 ≤ a → a ≤ 65520 + 255 * ((i % 2000 : Nat) : Int) → 0 ≤ b → b ≤ 65520 + 575520 * ((i % 2000 : Nat) : Int) →
    zlib_Adler.l0 k a b l (l.length : Int) (i : Int) = some ((65536 * (adl (l.drop i) (a % 65521) (b % 65521)).2 + (adl (l.drop i) (a % 65521) (b % 65521)).1)) := by
  intro m
  induction m with
  | zero =>
    intro i k a b hm hi hk h0 h1 h2 h3
    obtain ⟨k, rfl⟩ : ∃ j, k = j + 1 := ⟨k - 1, by omega⟩
    obtain rfl : i = l.length := by omega
    simp only [zlib_Adler.l0]
    rw [if_neg (by omega), List.drop_length]
    simp only [adl]
    rw [Int.tmod_eq_emod_of_nonneg h0, Int.tmod_eq_emod_of_nonneg h2, show b % 65521 % 4294967296 = b % 65521 from by omega, show a % 65521 % 4294967296 = a % 65521 from by omega, show b % 65521 * 65536 % 4294967296 = b % 65521 * 65536 from by omega]
    rw [u32_join _ _ (by omega) (by omega) (by omega) (by omega)]
  | succ m ih =>
    intro i k a b hm hi hk h0 h1 h2 h3
    obtain ⟨k, rfl⟩ : ∃ j, k = j + 1 := ⟨k - 1, by omega⟩
    have hx := hb _ (rd_mem l i (by omega))
    simp only [zlib_Adler.l0]
    rw [if_pos (by omega), if_pos (by omega), if_pos (by omega), rd_drop l i (by omega)]
    simp only [adl]
    generalize rd l (i : Int) = x at hx ⊢
    have hi2 : i % 2000 < 2000 := Nat.mod_lt _ (by decide)
    have e1 : (a % 65521 + x) % 65521 = (a + x) % 65521 := by omega
    have e2 : (b % 65521 + (a + x) % 65521) % 65521 = (b + (a + x)) % 65521 := by omega
    rw [e1, e2, wrapId x (by omega) (by omega), wrapId (a + x) (by omega) (by omega), wrapId (b + (a + x)) (by omega) (by omega), wrapId ((i : Int) + 1) (by omega) (by omega), show (i : Int) + 1 = ((i + 1 : Nat) : Int) from by omega]
    rw [Int.tmod_eq_emod_of_nonneg (show (0 : Int) ≤ i by omega)]
    by_cases h : (i : Int) % 2000 = 1999
    · rw [if_pos h, Int.tmod_eq_emod_of_nonneg (by omega), Int.tmod_eq_emod_of_nonneg (by omega)]
      rw [ih (i + 1) k _ _ (by omega) (by omega) (by omega) (by omega) (by omega) (by omega) (by omega)]
      rw [Int.emod_emod_of_dvd _ (Int.dvd_refl _), Int.emod_emod_of_dvd _ (Int.dvd_refl _)]
    · rw [if_neg h]
      have e3 : (i + 1) % 2000 = i % 2000 + 1 := by omega
      rw [ih (i + 1) k _ _ (by omega) (by omega) (by omega) (by omega) (by rw [e3]; omega) (by omega) (by rw [e3]; omega)]

end Go.Proofs.YtkdklcamgcmifaaDoor.PM

/-! HAnyZ: The laws of chapters 04 and 05: what they call. -/
namespace Go.Proofs.YtkdklcamgcmifaaDoor
set_option linter.unusedVariables false
set_option linter.unusedSimpArgs false
open Go.RowKit Go.Proofs.YtkdklcamgcmifaaDoorW.PrintWords Go.Proofs.YtkdklcamgcmifaaDoorW.PrintMore Go.Proofs.YtkdklcamgcmifaaDoor.PM
theorem r_open {w : World} {base : Nat} {v : Value} {r : List Int} (h : Kd.R (Kd.int .u8) 5 w base (fun _ => True) v r) : ∃ A c, v = .slice A r.length c ∧ r.length ≤ c ∧ ReadsInt w .u8 A r.length r ∧ Bs 5 w base v r := by
  obtain ⟨A, c, e, hc, hr⟩ := own_reads_of_le (enc := Value.int .u8) (d := 0) (Bs.ofR h)
  exact ⟨A, c, e, hc, own_reads' (by rw [← e]; exact Bs.ofR h), Bs.ofR h⟩
theorem same_yes (w : World) (A0 : Option Addr) (c0 : Nat) (A1 : Option Addr) (c1 n m : Nat) (l : List Int) (hn : l.length = n) (hm : l.length = m) (hr0 : ReadsInt w .u8 A0 n l) (hr1 : ReadsInt w .u8 A1 m l) (hc0 : n ≤ c0) (hc1 : m ≤ c1) :
    Calls Tryd.prog 15 #[.slice A0 n c0, .slice A1 m c1] w fun e w' => e = .returned (.bool true) ∧ ∃ n, w' = w.drewN n := by
  subst hn
  subst hm
  refine (codicilref01_Same.calls A0 c0 l A1 c1 l true w (toC hr0) hc0 (toC hr1) hc1 (by simp [codicilref01_Same.f])).mono ?_
  rintro e w1 ⟨rfl, hd⟩
  exact ⟨rfl, hd.out⟩
theorem inflate_any (w : World) (A : Option Addr) (n c : Nat) (l : List Int) (m : Int) (r : List Int × Int × Int) (hn : l.length = n) (hr : ReadsInt w .u8 A n l) (hb : ∀ x ∈ l, 0 ≤ x ∧ x < 256) (hc : n ≤ c) (hl : n ≤ 1000000) (ho : Ord w) (he : infF l m = r) :
    Calls Tryd.prog 13 #[.slice A n c, .int .i64 m] w fun ee w' =>
      ∃ A' c', ee = .returned (.tuple #[.slice A' r.1.length c', .int .i64 r.2.1, .int .i64 r.2.2]) ∧ Hid (Bs 5 w' w.heap.size (.slice A' r.1.length c') r.1) ∧ Hid (Below w.heap.size w w') := by
  subst hn
  refine (inflate_calls w A c l m hr hb hc (by omega) ho).mono ?_
  rintro ee w2 ⟨v, rfl, hv, hb2⟩
  rw [he] at hv ⊢
  obtain ⟨A', c', rfl⟩ := own_slice hv.out
  exact ⟨A', c', rfl, hv, hb2⟩
end Go.Proofs.YtkdklcamgcmifaaDoor

/-! HUnw: zlib.Unwrap. -/
namespace Go.Proofs.YtkdklcamgcmifaaDoor
set_option linter.unusedVariables false
set_option linter.unusedSimpArgs false
open Go.RowKit Go.Proofs.YtkdklcamgcmifaaDoorW.PrintWords Go.Proofs.YtkdklcamgcmifaaDoorW.PrintMore Go.Proofs.YtkdklcamgcmifaaDoor.PM
def headV (a b : Int) : Bool := (zlib_head.f a b).getD false
theorem head_some (a b : Int) : zlib_head.f a b = some (headV a b) := by
  unfold headV zlib_head.f
  split
  · split
    · split <;> rfl
    · rfl
  · rfl
theorem head_calls (a b : Int) (w : World) : Calls Tryd.prog 38 #[.int .u8 a, .int .u8 b] w fun e w' => e = .returned (.bool (headV a b)) ∧ ∃ n, w' = w.drewN n := by
  refine (zlib_head.calls a b _ w (head_some a b)).mono ?_
  rintro e w' ⟨rfl, hd⟩
  exact ⟨rfl, hd.out⟩
/-- The sum. -/
def A32 (l : List Int) : Int := 65536 * (adl l 1 0).2 + (adl l 1 0).1
theorem A32_range (l : List Int) : 0 ≤ A32 l ∧ A32 l < 4294967296 := by
  have := adl_range l 1 0 (by omega) (by omega) (by omega) (by omega)
  unfold A32
  omega
theorem adler_calls (w : World) (A : Option Addr) (n c : Nat) (l : List Int) (hn : l.length = n) (hr : ReadsInt w .u8 A n l) (hc : n ≤ c) (hb : ∀ x ∈ l, 0 ≤ x ∧ x < 256) (hl : n ≤ 10000000) :
    Calls Tryd.prog 24 #[.slice A n c] w fun e w' => e = .returned (.int .u32 (A32 l)) ∧ ∃ n, w' = w.drewN n := by
  subst hn
  have e1 := adlProg l hb (by omega) l.length 0 (l.length + 1) 1 0 (by omega) (by omega) (by omega) (by omega) (by omega) (by omega) (by omega)
  refine (zlib_Adler.calls (l.length + 1) A c l (A32 l) w (toC hr) hc (by unfold zlib_Adler.f; simpa [A32] using e1)).mono ?_
  rintro e w' ⟨rfl, hd⟩
  exact ⟨rfl, hd.out⟩
/-- Four bytes as a number, the highest first. -/
def be4 (l : List Int) : Int := 16777216 * l.getD 0 0 + 65536 * l.getD 1 0 + 256 * l.getD 2 0 + l.getD 3 0
/-- What Unwrap answers. -/
def unwF (p : List Int) (most : Int) : List Int × Int × Int :=
  if most < 0 ∨ 1048576 < most then ([], 0, 1) else if p.length < 2 then ([], 0, 5) else if headV (p.getD 0 0) (p.getD 1 0) = false then ([], 0, 4)
  else if (infF (p.drop 2) most).2.2 ≠ 0 then ([], 0, (infF (p.drop 2) most).2.2)
  else if (p.drop (2 + (infF (p.drop 2) most).2.1.toNat)).length < 4 then ([], 0, 5)
  else if A32 (infF (p.drop 2) most).1 ≠ be4 (p.drop (2 + (infF (p.drop 2) most).2.1.toNat)) then ([], 0, 6)
  else ((infF (p.drop 2) most).1, (infF (p.drop 2) most).2.1 + 6, 0)
theorem infF_bounds (p : List Int) (most : Int) : 0 ≤ (infF p most).2.1 ∧ (infF p most).2.1 ≤ p.length ∧ (infF p most).1.length ≤ 1048576 := by
  unfold infF
  split
  · simp
  · rename_i h
    have hs := @strO_ok p most.toNat
    have ht := @strO_top p most.toNat
    unfold strO at hs ht
    split
    · rename_i o q hq
      have := hs hq
      have := ht hq
      simp only []
      omega
    · simp
/-! What comes out are bytes. -/
def ByL (l : List Int) : Prop := ∀ x ∈ l, 0 ≤ x ∧ x < 256
def Byo (f : Rdr (List Int)) : Prop := ∀ T N p o q, f T N p = .ok (o, q) → ByL o
theorem Byo.ret {out : List Int} (h : ByL out) : Byo (retR out) := by
  intro T N p o q e
  simp only [retR, Except.ok.injEq, Prod.mk.injEq] at e
  rw [← e.1]
  exact h
theorem Byo.bad (e : Int) : Byo (badR e) := fun _ _ _ _ _ h => by cases h
theorem Byo.bnd {α : Type} {a : Rdr α} {f : α → Rdr (List Int)} (hf : ∀ x, Byo (f x)) : Byo (bndR a f) := by
  intro T N p o q h
  unfold bndR at h
  split at h
  · exact hf _ _ _ _ _ _ h
  · cases h
theorem Byo.then_ {a : Rdr (List Int)} {f : List Int → Rdr (List Int)} (ha : Byo a) (hf : ∀ x, ByL x → Byo (f x)) : Byo (bndR a f) := by
  intro T N p o q h
  unfold bndR at h
  split at h
  · rename_i x r hx
    exact hf x (ha _ _ _ _ _ hx) _ _ _ _ _ h
  · cases h
theorem Byo.tk {n : Nat} {f : Nat → Rdr (List Int)} (hf : ∀ x, x < 2 ^ n → Byo (f x)) : Byo (bndR (tk n) f) := by
  intro T N p o q h
  unfold bndR at h
  split at h
  · rename_i x r hx
    exact hf x (tk_val hx) _ _ _ _ _ h
  · cases h
theorem Byo.ite {c : Prop} [Decidable c] {a b : Rdr (List Int)} (ha : c → Byo a) (hb : ¬ c → Byo b) : Byo (if c then a else b) := by
  by_cases h : c
  · rw [if_pos h]; exact ha h
  · rw [if_neg h]; exact hb h
theorem Byo.onO {x : Except Int (List Int)} {f : List Int → Rdr (List Int)} (hx : ∀ o, x = .ok o → ByL o) (hf : ∀ o, ByL o → Byo (f o)) : Byo (onO x f) := by
  cases x with
  | ok o => exact hf o (hx o rfl)
  | error e => exact Byo.bad e
theorem put_by {most : Nat} {out o : List Int} {b : Int} (h : ByL out) (hb : 0 ≤ b ∧ b < 256) (e : putO most out b = .ok o) : ByL o := by
  unfold putO at e
  split at e
  · cases e
  · cases e
    intro x hx
    rcases List.mem_append.1 hx with h1 | h1
    · exact h x h1
    · simp at h1
      rw [h1]
      exact hb
theorem getD_by {l : List Int} (h : ByL l) (i : Nat) : 0 ≤ l.getD i 0 ∧ l.getD i 0 < 256 := by
  rw [List.getD_eq_getElem?_getD]
  cases hi : l[i]? with
  | none => simp
  | some x => exact h x (List.mem_of_getElem? hi)
theorem rep_by {most far : Nat} : ∀ n {out o : List Int}, ByL out → repO most far n out = .ok o → ByL o := by
  intro n
  induction n with
  | zero => intro out o h e; cases e; exact h
  | succ n ih =>
    intro out o h e
    unfold repO at e
    split at e
    · rename_i o1 h1
      exact ih (put_by h (getD_by h _) h1) e
    · cases e
theorem Byo.symsO (l d : List Nat) (most : Nat) : ∀ k out, ByL out → Byo (symsO l d most k out) := by
  intro k
  induction k with
  | zero => intro out _; exact Byo.bad 4
  | succ k ih =>
    intro out h
    unfold Proofs.YtkdklcamgcmifaaDoor.symsO
    refine Byo.bnd fun s => Byo.ite (fun _ => Byo.ret h) fun _ => Byo.ite (fun hs => Byo.onO (fun o e => put_by h (by omega) e) ih) fun _ => Byo.bnd fun nf => ?_
    obtain ⟨n, far⟩ := nf
    exact Byo.ite (fun _ => Byo.bad 4) fun _ => Byo.onO (fun o e => rep_by n h e) ih
theorem Byo.bytO (most : Nat) : ∀ n out, ByL out → Byo (bytO most n out) := by
  intro n
  induction n with
  | zero => intro out h; exact Byo.ret h
  | succ n ih =>
    intro out h
    unfold Proofs.YtkdklcamgcmifaaDoor.bytO
    exact Byo.tk fun b hb => Byo.onO (fun o e => put_by h (by omega) e) ih
theorem Byo.stoO (most : Nat) (out : List Int) (h : ByL out) : Byo (stoO most out) := by
  intro T N p o q e
  have hs : Byo (bndR (Proofs.YtkdklcamgcmifaaDoor.tk 16) (fun n => bndR (Proofs.YtkdklcamgcmifaaDoor.tk 16) fun m => if n + m ≠ 65535 then badR 4 else Proofs.YtkdklcamgcmifaaDoor.bytO most n out)) := Byo.bnd fun n => Byo.bnd fun m => Byo.ite (fun _ => Byo.bad 4) fun _ => Byo.bytO most n out h
  exact hs T N _ o q e
theorem Byo.blkO (most F way : Nat) (out : List Int) (h : ByL out) : Byo (blkO most F way out) :=
  Byo.ite (fun _ => Byo.stoO most out h) fun _ => Byo.ite (fun _ => Byo.symsO _ _ _ _ _ h) fun _ => Byo.ite (fun _ => Byo.bnd fun ld => Byo.symsO _ _ _ _ _ h) fun _ => Byo.bad 4
theorem Byo.runO (most F : Nat) : ∀ k out, ByL out → Byo (runO most F k out) := by
  intro k
  induction k with
  | zero => intro out _; exact Byo.bad 4
  | succ k ih => intro out h; exact Byo.bnd fun last => Byo.bnd fun way => Byo.then_ (Byo.blkO most F way out h) fun o ho => Byo.ite (fun _ => Byo.ret ho) fun _ => ih o ho
theorem infF_by (p : List Int) (most : Int) : ByL (infF p most).1 := by
  unfold infF
  split
  · intro x hx; cases hx
  · split
    · rename_i o q hq
      exact Byo.runO _ _ _ [] (fun x hx => by cases hx) _ _ _ _ _ hq
    · intro x hx; cases hx
theorem byte_of {l : List Int} (h : ∀ x ∈ l, 0 ≤ x ∧ x < 256) (i : Nat) : 0 ≤ l.getD i 0 ∧ l.getD i 0 < 256 := by
  rw [List.getD_eq_getElem?_getD]
  cases hi : l[i]? with
  | none => simp
  | some x => exact h x (List.mem_of_getElem? hi)
theorem cell_lt {W : World} {p : Addr} {v : Value} (h : W.cell? p = some v) : p.block < W.heap.size := by
  apply Nat.lt_of_not_le
  intro hn
  have h0 : W.heap[p.block]? = none := Array.getElem?_eq_none hn
  simp [World.cell?, h0] at h
theorem or_be (a b c d : Int) (ha : 0 ≤ a ∧ a < 256) (hb : 0 ≤ b ∧ b < 256) (hc : 0 ≤ c ∧ c < 256) (hd : 0 ≤ d ∧ d < 256) :
    bits .or .u32 (bits .or .u32 (bits .or .u32 (a * 16777216) (b * 65536)) (c * 256)) d = 16777216 * a + 65536 * b + 256 * c + d := by
  have j : ∀ (k : Nat) (x y : Int), 0 ≤ x → x < 4294967296 → 0 ≤ y → y < 4294967296 → y.toNat < 2 ^ k → x.toNat % 2 ^ k = 0 → bits .or .u32 x y = x + y := by
    intro k x y h0 h1 h2 h3 h4 h5
    rw [u32_or _ _ h0 h1 h2 h3]
    have h := nat_join k x.toNat y.toNat h5 h4
    rw [h]
    omega
  rw [j 24 (a * 16777216) (b * 65536) (by omega) (by omega) (by omega) (by omega) (by omega) (by omega), j 16 _ (c * 256) (by omega) (by omega) (by omega) (by omega) (by omega) (by omega), j 8 _ d (by omega) (by omega) (by omega) (by omega) (by omega) (by omega)]
  omega
set_option maxRecDepth 8000 in
set_option maxHeartbeats 8000000 in
theorem unwrap_calls (w : World) (A : Option Addr) (c : Nat) (p : List Int) (most : Int) (hrd : ReadsInt w .u8 A p.length p) (hby : ∀ x ∈ p, 0 ≤ x ∧ x < 256) (hcap : p.length ≤ c) (hlen : p.length ≤ 1000000) (hord : Ord w) :
    Calls Tryd.prog 23 #[.slice A p.length c, .int .i64 most] w fun ee w' => InfT w (unwF p most) ee w' := by
  have HR := Lib.hid hrd
  have HY := Lib.hid hby
  have HC := Lib.hid hcap
  have HO := Lib.hid hord
  obtain ⟨r, hr⟩ : ∃ r, unwF p most = r := ⟨_, rfl⟩
  rw [hr]
  unfold unwF at hr
  clear hrd hby hcap hord
  by_cases hm : most < 0 ∨ 1048576 < most
  · rw [if_pos hm] at hr
    subst hr
    by_cases h0 : most < 0
    · go_enter Tryd.func23, Tryd.ntmps23
      go_wp2_with fail
      go_ret3
      exact ⟨_, rfl, Lib.hid (own_nil _ _ _ _), Lib.hid (Below.refl _ _)⟩
    · have h1 : 1048576 < most := by omega
      go_enter Tryd.func23, Tryd.ntmps23
      go_wp2_with fail
      go_ret3
      exact ⟨_, rfl, Lib.hid (own_nil _ _ _ _), Lib.hid (Below.refl _ _)⟩
  rw [if_neg hm] at hr
  have hm1 : ¬ most < 0 := by omega
  have hm2 : ¬ 1048576 < most := by omega
  clear hm
  by_cases h2 : p.length < 2
  · rw [if_pos h2] at hr
    subst hr
    have i2 : (p.length : Int) < 2 := by omega
    go_enter Tryd.func23, Tryd.ntmps23
    go_wp2_with fail
    go_ret3
    exact ⟨_, rfl, Lib.hid (own_nil _ _ _ _), Lib.hid (Below.refl _ _)⟩
  rw [if_neg h2] at hr
  have i2 : ¬ (p.length : Int) < 2 := by omega
  obtain ⟨ad, rfl, hcell⟩ := HR.out.2.2 (by omega)
  obtain ⟨b0, hb0⟩ : ∃ b0, b0 = p.getD 0 0 := ⟨_, rfl⟩
  obtain ⟨b1, hb1⟩ : ∃ b1, b1 = p.getD 1 0 := ⟨_, rfl⟩
  rw [← hb0, ← hb1] at hr
  have k0 : w.cell? ad = some (.int .u8 b0) := by rw [hb0]; exact hcell 0 (by omega)
  have k1 : w.cell? ⟨ad.block, ad.off + 1, none⟩ = some (.int .u8 b1) := by rw [hb1]; exact hcell 1 (by omega)
  have z0 : (0 : Int) < (p.length : Int) := by omega
  have z1 : (1 : Int) < (p.length : Int) := by omega
  clear hcell hb0 hb1
  by_cases hh : headV b0 b1 = false
  · rw [if_pos hh] at hr
    subst hr
    go_enter Tryd.func23, Tryd.ntmps23
    go_wp2_with fail
    go_quiet ((go_at_call 38; exact Calls.quiet_of (head_calls _ _ _)))
    go_wp2_with fail
    go_ret3
    exact ⟨_, rfl, Lib.hid (own_nil _ _ _ _), Lib.hid (pw_below_drewN (Below.refl _ _) _)⟩
  · have hh' : headV b0 b1 = true := by simpa using hh
    rw [if_neg hh] at hr
    clear hh
    have hbd := infF_bounds (p.drop 2) most
    have hoy := infF_by (p.drop 2) most
    obtain ⟨⟨o, n, e⟩, hinf⟩ : ∃ r0, infF (p.drop 2) most = r0 := ⟨_, rfl⟩
    rw [hinf] at hr hbd hoy
    simp only [] at hr hbd hoy
    have HOY : Hid (∀ x ∈ o, 0 ≤ x ∧ x < 256) := Lib.hid hoy
    clear hoy
    obtain ⟨nn, rfl⟩ := Int.eq_ofNat_of_zero_le hbd.1
    rw [List.length_drop] at hbd
    have hn1 : 2 + nn ≤ p.length := by omega
    have hol := hbd.2.2
    have HINF := Lib.hid hinf
    rw [Int.toNat_natCast] at hr
    clear hbd hinf
    obtain ⟨i0, hi0, hz0, hz1, hz2⟩ := info_parts infoU8
    obtain ⟨A1, hcut1, hrd1⟩ := cut_end (P := Tryd.prog) 22 5 Tryd.underlying22 hi0 hz1 (some ad) p.length c 2 (by omega) HC.out
    obtain ⟨A2, hcut2, hrd2⟩ := cut_end (P := Tryd.prog) 22 5 Tryd.underlying22 hi0 hz1 (some ad) p.length c (2 + nn) hn1 HC.out
    have hc1 := hcut1 2 rfl
    have hc2 := hcut2 (2 + (nn : Int)) (by omega)
    have HRD := Lib.hid (And.intro hrd1 hrd2)
    clear hcut1 hcut2 hrd1 hrd2 hz0 hz1 hz2 hi0
    by_cases he : e = 0
    · subst he
      rw [if_neg (by simp)] at hr
      by_cases h4 : (p.drop (2 + nn)).length < 4
      · rw [if_pos h4] at hr
        subst hr
        have i4 : ((p.length - (2 + nn) : Nat) : Int) < 4 := by rw [List.length_drop] at h4; omega
        clear h4
        go_enter Tryd.func23, Tryd.ntmps23
        go_wp2_with fail
        go_quiet ((go_at_call 38; exact Calls.quiet_of (head_calls _ _ _)))
        go_wp2_with fail
        refine (inflate_any (w.drewN nq) A1 (p.length - 2) (c - 2) (p.drop 2) most _ (by simp) (HRD.out.1 _ _ _ HR.out) (fun x hx => HY.out x (List.mem_of_mem_drop hx)) (by have := HC.out; omega) (by omega) HO.out HINF.out).mono ?_
        rintro ee w3 ⟨A3, c3, rfl, HV3, HB3⟩
        go_wp2_with fail
        go_ret3
        exact ⟨_, rfl, Lib.hid (own_nil _ _ _ _), Lib.hid (below_then (pw_below_drewN (Below.refl _ _) nq) (Nat.le_refl _) HB3.out)⟩
      · rw [if_neg h4] at hr
        have i4 : ¬ ((p.length - (2 + nn) : Nat) : Int) < 4 := by rw [List.length_drop] at h4; omega
        have hrest := HRD.out.2 w .u8 p HR.out
        obtain ⟨ad2, rfl, hcell⟩ := hrest.2.2 (by omega)
        obtain ⟨r0, hr0⟩ : ∃ r0, r0 = (p.drop (2 + nn)).getD 0 0 := ⟨_, rfl⟩
        obtain ⟨r1, hr1⟩ : ∃ r1, r1 = (p.drop (2 + nn)).getD 1 0 := ⟨_, rfl⟩
        obtain ⟨r2, hr2⟩ : ∃ r2, r2 = (p.drop (2 + nn)).getD 2 0 := ⟨_, rfl⟩
        obtain ⟨r3, hr3⟩ : ∃ r3, r3 = (p.drop (2 + nn)).getD 3 0 := ⟨_, rfl⟩
        have q0 : w.cell? ad2 = some (.int .u8 r0) := by rw [hr0]; exact hcell 0 (by omega)
        have q1 : w.cell? ⟨ad2.block, ad2.off + 1, none⟩ = some (.int .u8 r1) := by rw [hr1]; exact hcell 1 (by omega)
        have q2 : w.cell? ⟨ad2.block, ad2.off + 2, none⟩ = some (.int .u8 r2) := by rw [hr2]; exact hcell 2 (by omega)
        have q3 : w.cell? ⟨ad2.block, ad2.off + 3, none⟩ = some (.int .u8 r3) := by rw [hr3]; exact hcell 3 (by omega)
        have hby2 : ∀ x ∈ p.drop (2 + nn), 0 ≤ x ∧ x < 256 := fun x hx => HY.out x (List.mem_of_mem_drop hx)
        have g0 : 0 ≤ r0 ∧ r0 < 256 := by rw [hr0]; exact byte_of hby2 0
        have g1 : 0 ≤ r1 ∧ r1 < 256 := by rw [hr1]; exact byte_of hby2 1
        have g2 : 0 ≤ r2 ∧ r2 < 256 := by rw [hr2]; exact byte_of hby2 2
        have g3 : 0 ≤ r3 ∧ r3 < 256 := by rw [hr3]; exact byte_of hby2 3
        have hbe4 : be4 (p.drop (2 + nn)) = bits .or .u32 (bits .or .u32 (bits .or .u32 (r0 * 16777216) (r1 * 65536)) (r2 * 256)) r3 := by
          rw [or_be r0 r1 r2 r3 g0 g1 g2 g3, hr0, hr1, hr2, hr3]
          rfl
        rw [hbe4] at hr
        have HQ := Lib.hid (And.intro q0 (And.intro q1 (And.intro q2 q3)))
        have HRR := Lib.hid hr
        have z20 : (0 : Int) < ((p.length - (2 + nn) : Nat) : Int) := by omega
        have z21 : (1 : Int) < ((p.length - (2 + nn) : Nat) : Int) := by omega
        have z22 : (2 : Int) < ((p.length - (2 + nn) : Nat) : Int) := by omega
        have z23 : (3 : Int) < ((p.length - (2 + nn) : Nat) : Int) := by omega
        have HLT := Lib.hid (cell_lt q0)
        clear hr hbe4 hby2 hr0 hr1 hr2 hr3 q0 q1 q2 q3 hcell hrest h4
        go_enter Tryd.func23, Tryd.ntmps23
        go_wp2_with fail
        go_quiet ((go_at_call 38; exact Calls.quiet_of (head_calls _ _ _)))
        go_wp2_with fail
        refine (inflate_any (w.drewN nq) A1 (p.length - 2) (c - 2) (p.drop 2) most _ (by simp) (HRD.out.1 _ _ _ HR.out) (fun x hx => HY.out x (List.mem_of_mem_drop hx)) (by have := HC.out; omega) (by omega) HO.out HINF.out).mono ?_
        rintro ee w3 ⟨A3, c3, rfl, HV3, HB3⟩
        have hbw : Below w.heap.size w w3 := below_then (pw_below_drewN (Below.refl _ _) nq) (Nat.le_refl _) HB3.out
        have q0 : w3.cell? ad2 = some (.int .u8 r0) := (hbw.cell HLT.out).trans HQ.out.1
        have q1 : w3.cell? ⟨ad2.block, ad2.off + 1, none⟩ = some (.int .u8 r1) := (hbw.cell (p := ⟨ad2.block, ad2.off + 1, none⟩) HLT.out).trans HQ.out.2.1
        have q2 : w3.cell? ⟨ad2.block, ad2.off + 2, none⟩ = some (.int .u8 r2) := (hbw.cell (p := ⟨ad2.block, ad2.off + 2, none⟩) HLT.out).trans HQ.out.2.2.1
        have q3 : w3.cell? ⟨ad2.block, ad2.off + 3, none⟩ = some (.int .u8 r3) := (hbw.cell (p := ⟨ad2.block, ad2.off + 3, none⟩) HLT.out).trans HQ.out.2.2.2
        have HBW := Lib.hid hbw
        have HR3 : Hid (ReadsInt w3 .u8 A3 o.length o) := Lib.hid (own_reads' HV3.out)
        have HC3 : Hid (o.length ≤ c3) := Lib.hid (own_cap HV3.out).1
        clear hbw
        go_wp2_with fail
        go_quiet ((go_at_call 24; exact Calls.quiet_of (adler_calls _ A3 o.length c3 o rfl HR3.out HC3.out HOY.out (by omega))))
        go_wp2_with fail
        · rename_i h
          have hne : A32 o ≠ bits .or .u32 (bits .or .u32 (bits .or .u32 (r0 * 16777216) (r1 * 65536)) (r2 * 256)) r3 := by simpa using h
          have hr := HRR.out
          rw [if_pos hne] at hr
          subst hr
          go_ret3
          exact ⟨_, rfl, Lib.hid (own_nil _ _ _ _), Lib.hid (pw_below_drewN HBW.out _)⟩
        · rename_i h
          have heq : ¬ A32 o ≠ bits .or .u32 (bits .or .u32 (bits .or .u32 (r0 * 16777216) (r1 * 65536)) (r2 * 256)) r3 := by simpa using h
          have hr := HRR.out
          rw [if_neg heq] at hr
          subst hr
          go_ret3
          exact ⟨_, rfl, Lib.hid (own_move HV3.out fun _ _ => rfl), Lib.hid (pw_below_drewN HBW.out _)⟩
    · rw [if_pos he] at hr
      subst hr
      have hbe : (e != 0) = true := by simpa using he
      go_enter Tryd.func23, Tryd.ntmps23
      go_wp2_with fail
      go_quiet ((go_at_call 38; exact Calls.quiet_of (head_calls _ _ _)))
      go_wp2_with fail
      refine (inflate_any (w.drewN nq) A1 (p.length - 2) (c - 2) (p.drop 2) most _ (by simp) (HRD.out.1 _ _ _ HR.out) (fun x hx => HY.out x (List.mem_of_mem_drop hx)) (by have := HC.out; omega) (by omega) HO.out HINF.out).mono ?_
      rintro ee w3 ⟨A3, c3, rfl, HV3, HB3⟩
      go_wp2_with fail
      go_ret3
      exact ⟨_, rfl, Lib.hid (own_nil _ _ _ _), Lib.hid (below_then (pw_below_drewN (Below.refl _ _) nq) (Nat.le_refl _) HB3.out)⟩
end Go.Proofs.YtkdklcamgcmifaaDoor
