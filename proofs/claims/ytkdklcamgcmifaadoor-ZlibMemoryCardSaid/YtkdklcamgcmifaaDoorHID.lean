/- inflate: run, Inflate. -/
import Derived.Test.YtkdklcamgcmifaaDoorHIA
import Derived.ScopeJumps
import Derived.WalkMore
import Derived.Test.YtkdklcamgcmifaaDoorHIB
import Derived.Test.YtkdklcamgcmifaaDoorHIC
/-! HScope: A scope in which the run jumps to several labels: after the kit's law for one label. -/
namespace Go.Proofs.YtkdklcamgcmifaaDoor
set_option linter.unusedVariables false
set_option linter.unusedSimpArgs false
open Go.RowKit
/-- As Q; by a goto to label l: J l. -/
def jumps (J : Nat → Act → World → Prop) (Q : Exit → Act → World → Prop) : Exit → Act → World → Prop
  | .goto l, a, w => J l a w
  | e, a, w => Q e a w
section
variable {P : Program} {a : Act} {w : World} {Q : Exit → Act → World → Prop} {J : Nat → Act → World → Prop}
theorem jumps_normal : jumps J Q .normal a w = Q .normal a w := rfl
theorem jumps_exit (id : Nat) : jumps J Q (.exit id) a w = Q (.exit id) a w := rfl
theorem jumps_ret : jumps J Q .ret a w = Q .ret a w := rfl
theorem jumps_panic (ch : List PanicEntry) : jumps J Q (.panic ch) a w = Q (.panic ch) a w := rfl
theorem jumps_goto (l : Nat) : jumps J Q (.goto l) a w = J l a w := rfl
/-- J bears a ghost that every jump lowers. -/
theorem wp_scope_ghost {c : Code} (rest : Nat → Code) (J : Nat → Nat → Act → World → Prop) (hf : ∀ l n a w, J l n a w → findLabel c l = some (rest l))
    (first : c.wp P (jumps (fun l a w => ∃ n, J l n a w) Q) a w)
    (pass : ∀ l n a w, J l n a w → (rest l).wp P (jumps (fun l' a' w' => ∃ n', n' < n ∧ J l' n' a' w') Q) a w) : (Code.scope c).wp P Q a w := by
  intro b k cs
  have hg : ∀ l n a w, J l n a w → gotoIn l (.inScope c :: k) = some (.code (rest l) :: .inScope c :: k) := fun l n a w h => by simp [gotoIn, hf l n a w h]
  have key : ∀ n l a w, J l n a w → ∃ e a' w', Q e a' w' ∧ Arrives P (lone (b.at a (.code (rest l) :: .inScope c :: k)) cs w) b k cs e a' w' := by
    intro n
    induction n using Nat.strongRecOn with
    | _ n ih =>
      intro l a w hJ
      obtain ⟨e, a₁, w₁, hq, harr⟩ := pass l n a w hJ b (.inScope c :: k) cs
      cases e with
      | normal => exact ⟨.normal, a₁, w₁, hq, Steps.trans harr (.one step_inScope)⟩
      | exit id => exact ⟨.exit id, a₁, w₁, hq, fun k' hk => harr k' (by simp [exitTo, hk])⟩
      | goto l' =>
        obtain ⟨n', hlt, hJ'⟩ := hq
        obtain ⟨e₂, a₂, w₂, hq₂, harr₂⟩ := ih n' hlt l' a₁ w₁ hJ'
        exact ⟨e₂, a₂, w₂, hq₂, .of_steps (harr _ (hg l' n' a₁ w₁ hJ')) harr₂⟩
      | ret => exact ⟨_, a₁, w₁, hq, harr⟩
      | panic ch => exact ⟨_, a₁, w₁, hq, harr⟩
      | outgrown => exact ⟨_, a₁, w₁, hq, harr⟩
  obtain ⟨e, a₁, w₁, hq, harr⟩ := first b (.inScope c :: k) cs
  cases e with
  | normal => exact ⟨.normal, a₁, w₁, hq, .head step_scope (Steps.trans harr (.one step_inScope))⟩
  | exit id => exact ⟨.exit id, a₁, w₁, hq, fun k' hk => .head step_scope (harr k' (by simp [exitTo, hk]))⟩
  | goto l' =>
    obtain ⟨n', hJ'⟩ := hq
    obtain ⟨e₂, a₂, w₂, hq₂, harr₂⟩ := key n' l' a₁ w₁ hJ'
    exact ⟨e₂, a₂, w₂, hq₂, .of_steps (.head step_scope (harr _ (hg l' n' a₁ w₁ hJ'))) harr₂⟩
  | ret => exact ⟨_, a₁, w₁, hq, .of_steps (.one step_scope) harr⟩
  | panic ch => exact ⟨_, a₁, w₁, hq, .of_steps (.one step_scope) harr⟩
  | outgrown => exact ⟨_, a₁, w₁, hq, .of_steps (.one step_scope) harr⟩
theorem wp_scope_g2 {c : Code} (J : Nat → Nat → Act → World → Prop) (hf : ∀ l n a w, J l n a w → (findLabel c l).isSome = true)
    (first : c.wp P (jumps (fun l a w => ∃ n, J l n a w) Q) a w)
    (pass : ∀ l n a w, J l n a w → ((findLabel c l).getD .skip).wp P (jumps (fun l' a' w' => ∃ n', n' < n ∧ J l' n' a' w') Q) a w) : (Code.scope c).wp P Q a w :=
  wp_scope_ghost (fun l => (findLabel c l).getD .skip) J (fun l n a w h => by
    have h1 := hf l n a w h
    cases hq : findLabel c l with
    | none => rw [hq] at h1; cases h1
    | some r => rfl) first pass
end
end Go.Proofs.YtkdklcamgcmifaaDoor

/-! HRunI: inflate's reader: run. -/
namespace Go.Proofs.YtkdklcamgcmifaaDoor
set_option linter.unusedVariables false
set_option linter.unusedSimpArgs false
open Go.RowKit Go.Proofs.YtkdklcamgcmifaaDoorW.PrintWords Go.Proofs.YtkdklcamgcmifaaDoorW.PrintMore
attribute [local go_sem] jumps_normal jumps_exit jumps_ret jumps_panic jumps_goto
/-- The code in run's scope; what stands behind its two labels. -/
noncomputable def runC : Code := match Tryd.f28.body with
  | some (.scope c) => c
  | _ => .skip
def behind : Code → Code
  | .seq _ r => r
  | c => c
noncomputable def headC : Code := behind ((findLabel runC 0).getD .skip)
noncomputable def stoC : Code := behind ((findLabel runC 1).getD .skip)
abbrev Res := Except Int (List Int × Nat)
/-- How many jumps may follow, at most. -/
def ghost (N q : Nat) (e : Int) : Nat := if e = 0 then 2 * (N + 1 - q) + 1 else 0
/-- At the head: what is to be read is res. -/
def Head (most F T N : Nat) (res : Res) (last q : Nat) (out : List Int) (e : Int) : Prop :=
  (e ≠ 0 ∧ res = .error e) ∨ (e = 0 ∧ last = 1 ∧ res = .ok (out, q)) ∨ (e = 0 ∧ last = 0 ∧ ∃ k, N < q + k ∧ runO most F k out T N q = res)
/-- What follows a block. -/
def After (most F k last : Nat) (o : List Int) : Rdr (List Int) := if last = 1 then retR o else runO most F k o
/-- The blocks of run's two tables. -/
structure Lbs (W w : World) (Lb Db : Nat) : Prop where
  l : ∃ cs : List Value, cs.length = 17 ∧ w.heap[Lb]? = some (.cells cs.toArray 59 (0, 0))
  d : ∃ cs : List Value, cs.length = 17 ∧ w.heap[Db]? = some (.cells cs.toArray 59 (0, 0))
  lo : W.heap.size ≤ Lb
  do_ : Lb < Db
theorem Lbs.sk {w0 W w w' : World} {A : Option Addr} {c most g q m Lb Db : Nat} {p out : List Int} {e : Int} (h : Lbs W w Lb Db) (hr : Rdm m w0 A c p most g q out e w) (hs : SK 4 g w w') : Lbs W w' Lb Db := by
  obtain ⟨⟨c1, l1, h1⟩, ⟨c2, l2, h2⟩, h3, h4⟩ := h
  exact ⟨⟨c1, l1, hs.block hr h1 (by decide) (by decide)⟩, ⟨c2, l2, hs.block hr h2 (by decide) (by decide)⟩, h3, h4⟩
def JH (w0 : World) (A : Option Addr) (c : Nat) (p : List Int) (most g Lb Db : Nat) (W : World) (res : Res) (n : Nat) (a : Act) (w : World) : Prop :=
  ∃ u5 : Value, ∃ u6 : Value, ∃ u7 : Value, ∃ u8 : Value, ∃ u9 : Value, ∃ u10 : Value, ∃ u11 : Value, ∃ u12 : Value, ∃ u13 : Value, ∃ u14 : Value, ∃ u15 : Value, ∃ u16 : Value, ∃ u17 : Value, ∃ u18 : Value, ∃ u19 : Value, ∃ u20 : Value, ∃ u21 : Value, ∃ u22 : Value, ∃ u23 : Value, ∃ u24 : Value, ∃ u25 : Value, ∃ u26 : Value, ∃ u27 : Value, ∃ u28 : Value, ∃ u29 : Value, ∃ u30 : Value, ∃ u31 : Value, ∃ u32 : Value, ∃ u33 : Value, ∃ u34 : Value, ∃ u35 : Value, ∃ u36 : Value, ∃ u37 : Value, ∃ u38 : Value, ∃ u39 : Value, ∃ u40 : Value, ∃ u41 : Value, ∃ u42 : Value, ∃ u43 : Value, ∃ u44 : Value, ∃ u45 : Value, ∃ u46 : Value, ∃ u47 : Value, ∃ u48 : Value, ∃ u49 : Value, ∃ u50 : Value, ∃ u51 : Value, ∃ u52 : Value, ∃ u53 : Value, ∃ u54 : Value, ∃ u55 : Value, ∃ u56 : Value, ∃ u57 : Value, ∃ u58 : Value, ∃ u59 : Value, ∃ u60 : Value, ∃ u61 : Value, ∃ u62 : Value, ∃ u63 : Value, ∃ u64 : Value, ∃ u65 : Value, ∃ u66 : Value, ∃ u67 : Value, ∃ u68 : Value, ∃ u69 : Value, ∃ u70 : Value, ∃ u71 : Value, ∃ u72 : Value, ∃ u73 : Value, ∃ u74 : Value, ∃ u75 : Value, ∃ u76 : Value, ∃ u77 : Value, ∃ u78 : Value, ∃ u79 : Value, ∃ u80 : Value, ∃ u81 : Value, ∃ u82 : Value, ∃ u83 : Value, ∃ u84 : Value, ∃ u85 : Value, ∃ u86 : Value, ∃ u87 : Value, ∃ u88 : Value, ∃ u89 : Value, ∃ u90 : Value, ∃ u91 : Value, ∃ u92 : Value, ∃ u93 : Value, ∃ u94 : Value, ∃ u95 : Value, ∃ u96 : Value, ∃ u97 : Value, ∃ u98 : Value, ∃ u99 : Value, ∃ u100 : Value, ∃ u101 : Value, ∃ u102 : Value, ∃ (last q : Nat) (out : List Int) (e : Int), a = ⟨#[.pointer (some ⟨g, 0, none⟩), undef, .pointer (some ⟨Lb, 0, none⟩), .pointer (some ⟨Db, 0, none⟩), .int .i64 last, u5, u6, u7, u8, u9, u10, u11, u12, u13, u14, u15, u16, u17, u18, u19, u20, u21, u22, u23, u24, u25, u26, u27, u28, u29, u30, u31, u32, u33, u34, u35, u36, u37, u38, u39, u40, u41, u42, u43, u44, u45, u46, u47, u48, u49, u50, u51, u52, u53, u54, u55, u56, u57, u58, u59, u60, u61, u62, u63, u64, u65, u66, u67, u68, u69, u70, u71, u72, u73, u74, u75, u76, u77, u78, u79, u80, u81, u82, u83, u84, u85, u86, u87, u88, u89, u90, u91, u92, u93, u94, u95, u96, u97, u98, u99, u100, u101, u102], []⟩ ∧ n = ghost (8 * p.length) q e ∧ Hid (Lbs W w Lb Db) ∧ Hid (SK 4 g W w) ∧ Hid (Rd w0 A c p most g q out e w) ∧ Hid (Head most (8 * p.length + 1) (numB p) (8 * p.length) res last q out e)
def JS (w0 : World) (A : Option Addr) (c : Nat) (p : List Int) (most g Lb Db : Nat) (W : World) (res : Res) (n : Nat) (a : Act) (w : World) : Prop :=
  ∃ u5 : Value, ∃ u6 : Value, ∃ u7 : Value, ∃ u8 : Value, ∃ u9 : Value, ∃ u10 : Value, ∃ u11 : Value, ∃ u12 : Value, ∃ u13 : Value, ∃ u14 : Value, ∃ u15 : Value, ∃ u16 : Value, ∃ u17 : Value, ∃ u18 : Value, ∃ u19 : Value, ∃ u20 : Value, ∃ u21 : Value, ∃ u22 : Value, ∃ u23 : Value, ∃ u24 : Value, ∃ u25 : Value, ∃ u26 : Value, ∃ u27 : Value, ∃ u28 : Value, ∃ u29 : Value, ∃ u30 : Value, ∃ u31 : Value, ∃ u32 : Value, ∃ u33 : Value, ∃ u34 : Value, ∃ u35 : Value, ∃ u36 : Value, ∃ u37 : Value, ∃ u38 : Value, ∃ u39 : Value, ∃ u40 : Value, ∃ u41 : Value, ∃ u42 : Value, ∃ u43 : Value, ∃ u44 : Value, ∃ u45 : Value, ∃ u46 : Value, ∃ u47 : Value, ∃ u48 : Value, ∃ u49 : Value, ∃ u50 : Value, ∃ u51 : Value, ∃ u52 : Value, ∃ u53 : Value, ∃ u54 : Value, ∃ u55 : Value, ∃ u56 : Value, ∃ u57 : Value, ∃ u58 : Value, ∃ u59 : Value, ∃ u60 : Value, ∃ u61 : Value, ∃ u62 : Value, ∃ u63 : Value, ∃ u64 : Value, ∃ u65 : Value, ∃ u66 : Value, ∃ u67 : Value, ∃ u68 : Value, ∃ u69 : Value, ∃ u70 : Value, ∃ u71 : Value, ∃ u72 : Value, ∃ u73 : Value, ∃ u74 : Value, ∃ u75 : Value, ∃ u76 : Value, ∃ u77 : Value, ∃ u78 : Value, ∃ u79 : Value, ∃ u80 : Value, ∃ u81 : Value, ∃ u82 : Value, ∃ u83 : Value, ∃ u84 : Value, ∃ u85 : Value, ∃ u86 : Value, ∃ u87 : Value, ∃ u88 : Value, ∃ u89 : Value, ∃ u90 : Value, ∃ u91 : Value, ∃ u92 : Value, ∃ u93 : Value, ∃ u94 : Value, ∃ u95 : Value, ∃ u96 : Value, ∃ u97 : Value, ∃ u98 : Value, ∃ u99 : Value, ∃ u100 : Value, ∃ u101 : Value, ∃ u102 : Value, ∃ (last q k : Nat) (out : List Int), a = ⟨#[.pointer (some ⟨g, 0, none⟩), undef, .pointer (some ⟨Lb, 0, none⟩), .pointer (some ⟨Db, 0, none⟩), .int .i64 last, u5, u6, u7, u8, u9, u10, u11, u12, u13, u14, u15, u16, u17, u18, u19, u20, u21, u22, u23, u24, u25, u26, u27, u28, u29, u30, u31, u32, u33, u34, u35, u36, u37, u38, u39, u40, u41, u42, u43, u44, u45, u46, u47, u48, u49, u50, u51, u52, u53, u54, u55, u56, u57, u58, u59, u60, u61, u62, u63, u64, u65, u66, u67, u68, u69, u70, u71, u72, u73, u74, u75, u76, u77, u78, u79, u80, u81, u82, u83, u84, u85, u86, u87, u88, u89, u90, u91, u92, u93, u94, u95, u96, u97, u98, u99, u100, u101, u102], []⟩ ∧ n = 2 * (8 * p.length + 1 - q) ∧ Hid (Lbs W w Lb Db) ∧ Hid (SK 4 g W w) ∧ Hid (Rd w0 A c p most g q out 0 w) ∧ Hid (last ≤ 1 ∧ 8 * p.length < q + k ∧ q ≤ 8 * p.length ∧ bndR (stoO most out) (After most (8 * p.length + 1) k last) (numB p) (8 * p.length) q = res)
def JJ (w0 : World) (A : Option Addr) (c : Nat) (p : List Int) (most g Lb Db : Nat) (W : World) (res : Res) (l n : Nat) (a : Act) (w : World) : Prop :=
  (l = 0 ∧ JH w0 A c p most g Lb Db W res n a w) ∨ (l = 1 ∧ JS w0 A c p most g Lb Db W res n a w)
theorem rd_zero {w0 W : World} {A : Option Addr} {c most g q : Nat} {p out : List Int} (h : Rd w0 A c p most g q out 0 W) :
    Rd w0 A c p most g ((q + 7) / 8 * 8) out 0 ((W.setCell ⟨g, 2, none⟩ (.int .u32 0)).setCell ⟨g, 3, none⟩ (.int .i64 0)) ∧ SK 4 g W ((W.setCell ⟨g, 2, none⟩ (.int .u32 0)).setCell ⟨g, 3, none⟩ (.int .i64 0)) := by
  have hne := h.row_ne
  obtain ⟨a, n, v, hb, ho, h1, h2, h3, h4, h5, h6⟩ := h
  have h48 := h4 rfl
  have b1 := blk_set hb 2 (.int .u32 0)
  have b2 := blk_set b1 3 (.int .i64 0)
  rw [rowK_eq hb rfl] at hne
  have hk : ∀ k, v.ownBlock = some k → k ≠ g := fun k hk e => hne (hk.trans (congrArg some e))
  refine ⟨⟨a, 0, v, ?_, own_move ho fun k e => (Below.heap_setCell _ ⟨g, 3, none⟩ _ k (hk k e)).trans (Below.heap_setCell _ ⟨g, 2, none⟩ _ k (hk k e)), by omega, h2, by omega, fun _ => by omega, h5, h6⟩, ((SK.refl 4 g W).put hb 2 _ (.inl (by rw [rowK_eq hb rfl]; rfl))).put b1 3 _ (.inl (by rw [rowK_eq b1 rfl]; rfl))⟩
  rw [b2]
  simp [Nat.mod_one]
theorem sto_adv {most T N q q' : Nat} {out o : List Int} (h8 : N % 8 = 0) (h : stoO most out T N q = .ok (o, q')) : q + 16 ≤ q' ∧ q' ≤ N := by
  unfold stoO at h
  unfold bndR at h
  split at h
  · rename_i x r hr
    unfold tk at hr
    split at hr
    · rename_i hle
      simp only [Except.ok.injEq, Prod.mk.injEq] at hr
      have h1 := hr.2
      have h2 : Stb (bndR (tk 16) fun m => if x + m ≠ 65535 then badR 4 else bytO most x out) := Stb.bnd (Stb.tk 16) fun m => Stb.ite (Stb.bad 4) (Stb.bytO most x out)
      have h3 := h2 T N r o q' h8 (by omega) h
      have h4 := h3.le
      exact ⟨by omega, h3.top⟩
    · cases hr
  · cases h
theorem sto_head {most F T N q q2 k last : Nat} {out out2 : List Int} {e2 : Int} {res : Res} (h8 : N % 8 = 0) (hl : last ≤ 1) (hk : N < q + k) (hq : q ≤ N) (hres : bndR (stoO most out) (After most F k last) T N q = res)
    (hx : (stoO most out T N q = .ok (out2, q2) ∧ e2 = 0) ∨ (stoO most out T N q = .error e2 ∧ e2 ≠ 0)) :
    Head most F T N res last q2 out2 e2 ∧ ghost N q2 e2 < 2 * (N + 1 - q) := by
  rcases hx with ⟨h1, h2⟩ | ⟨h1, h2⟩
  · have ha := sto_adv h8 h1
    unfold bndR at hres
    rw [h1] at hres
    simp only [After] at hres
    refine ⟨.inr ?_, by rw [ghost, if_pos h2]; omega⟩
    rcases Nat.lt_or_ge last 1 with h | h
    · have h0 : last = 0 := by omega
      rw [if_neg (by omega)] at hres
      exact .inr ⟨h2, h0, k, by omega, hres⟩
    · have h0 : last = 1 := by omega
      rw [if_pos h0] at hres
      exact .inl ⟨h2, h0, hres.symm⟩
  · unfold bndR at hres
    rw [h1] at hres
    exact ⟨.inl ⟨h2, hres.symm⟩, by rw [ghost, if_neg h2]; omega⟩
set_option maxRecDepth 8000 in
set_option maxHeartbeats 4000000 in
theorem sto_pass (w0 : World) (A : Option Addr) (c : Nat) (p : List Int) (most g Lb Db : Nat) (W : World) (res : Res) (n : Nat) (Q : Exit → Act → World → Prop) (a : Act) (w : World) (hw : Rw w0 A c p g W) (hr0 : Rd w0 A c p most g 0 [] 0 W) (h : JS w0 A c p most g Lb Db W res n a w) :
    stoC.wp Tryd.prog (jumps (fun l' a' w' => ∃ n', n' < n ∧ JJ w0 A c p most g Lb Db W res l' n' a' w') Q) a w := by
  obtain ⟨u5, h⟩ := h
  obtain ⟨u6, h⟩ := h
  obtain ⟨u7, h⟩ := h
  obtain ⟨u8, h⟩ := h
  obtain ⟨u9, h⟩ := h
  obtain ⟨u10, h⟩ := h
  obtain ⟨u11, h⟩ := h
  obtain ⟨u12, h⟩ := h
  obtain ⟨u13, h⟩ := h
  obtain ⟨u14, h⟩ := h
  obtain ⟨u15, h⟩ := h
  obtain ⟨u16, h⟩ := h
  obtain ⟨u17, h⟩ := h
  obtain ⟨u18, h⟩ := h
  obtain ⟨u19, h⟩ := h
  obtain ⟨u20, h⟩ := h
  obtain ⟨u21, h⟩ := h
  obtain ⟨u22, h⟩ := h
  obtain ⟨u23, h⟩ := h
  obtain ⟨u24, h⟩ := h
  obtain ⟨u25, h⟩ := h
  obtain ⟨u26, h⟩ := h
  obtain ⟨u27, h⟩ := h
  obtain ⟨u28, h⟩ := h
  obtain ⟨u29, h⟩ := h
  obtain ⟨u30, h⟩ := h
  obtain ⟨u31, h⟩ := h
  obtain ⟨u32, h⟩ := h
  obtain ⟨u33, h⟩ := h
  obtain ⟨u34, h⟩ := h
  obtain ⟨u35, h⟩ := h
  obtain ⟨u36, h⟩ := h
  obtain ⟨u37, h⟩ := h
  obtain ⟨u38, h⟩ := h
  obtain ⟨u39, h⟩ := h
  obtain ⟨u40, h⟩ := h
  obtain ⟨u41, h⟩ := h
  obtain ⟨u42, h⟩ := h
  obtain ⟨u43, h⟩ := h
  obtain ⟨u44, h⟩ := h
  obtain ⟨u45, h⟩ := h
  obtain ⟨u46, h⟩ := h
  obtain ⟨u47, h⟩ := h
  obtain ⟨u48, h⟩ := h
  obtain ⟨u49, h⟩ := h
  obtain ⟨u50, h⟩ := h
  obtain ⟨u51, h⟩ := h
  obtain ⟨u52, h⟩ := h
  obtain ⟨u53, h⟩ := h
  obtain ⟨u54, h⟩ := h
  obtain ⟨u55, h⟩ := h
  obtain ⟨u56, h⟩ := h
  obtain ⟨u57, h⟩ := h
  obtain ⟨u58, h⟩ := h
  obtain ⟨u59, h⟩ := h
  obtain ⟨u60, h⟩ := h
  obtain ⟨u61, h⟩ := h
  obtain ⟨u62, h⟩ := h
  obtain ⟨u63, h⟩ := h
  obtain ⟨u64, h⟩ := h
  obtain ⟨u65, h⟩ := h
  obtain ⟨u66, h⟩ := h
  obtain ⟨u67, h⟩ := h
  obtain ⟨u68, h⟩ := h
  obtain ⟨u69, h⟩ := h
  obtain ⟨u70, h⟩ := h
  obtain ⟨u71, h⟩ := h
  obtain ⟨u72, h⟩ := h
  obtain ⟨u73, h⟩ := h
  obtain ⟨u74, h⟩ := h
  obtain ⟨u75, h⟩ := h
  obtain ⟨u76, h⟩ := h
  obtain ⟨u77, h⟩ := h
  obtain ⟨u78, h⟩ := h
  obtain ⟨u79, h⟩ := h
  obtain ⟨u80, h⟩ := h
  obtain ⟨u81, h⟩ := h
  obtain ⟨u82, h⟩ := h
  obtain ⟨u83, h⟩ := h
  obtain ⟨u84, h⟩ := h
  obtain ⟨u85, h⟩ := h
  obtain ⟨u86, h⟩ := h
  obtain ⟨u87, h⟩ := h
  obtain ⟨u88, h⟩ := h
  obtain ⟨u89, h⟩ := h
  obtain ⟨u90, h⟩ := h
  obtain ⟨u91, h⟩ := h
  obtain ⟨u92, h⟩ := h
  obtain ⟨u93, h⟩ := h
  obtain ⟨u94, h⟩ := h
  obtain ⟨u95, h⟩ := h
  obtain ⟨u96, h⟩ := h
  obtain ⟨u97, h⟩ := h
  obtain ⟨u98, h⟩ := h
  obtain ⟨u99, h⟩ := h
  obtain ⟨u100, h⟩ := h
  obtain ⟨u101, h⟩ := h
  obtain ⟨u102, h⟩ := h
  obtain ⟨last, q, k, out, rfl, hnn, HLB, HS, HR, HE⟩ := h
  have HNN := Lib.hid hnn
  clear hnn
  have HW := Lib.hid hw
  have HR0 := Lib.hid hr0
  clear hw hr0
  have hrz := rd_zero HR.out
  have HRZ := Lib.hid hrz.1
  have HSZ := Lib.hid hrz.2
  clear hrz
  obtain ⟨a, n', v, hb, ho, -, -, -, -, -, -⟩ := HR.out
  have d2 : w.cell? ⟨g, 2, none⟩ = some (.int .u32 _) := blk_cell hb 2
  have d3 : w.cell? ⟨g, 3, none⟩ = some (.int .i64 _) := blk_cell hb 3
  have e2 := blk_frozen hb 2
  have e3 := blk_frozen hb 3
  have HB := Lib.hid hb
  clear hb ho
  conv => arg 2; whnf
  go_wp2_with fail
  refine (stored_calls w0 A c p most g _ out _ HRZ.out ((HW.out.sk HR0.out HS.out).sk HR.out HSZ.out)).mono ?_
  rintro ee w2 ⟨out2, q2, e2', rfl, hs2, hr2, hx2⟩
  have HS2 : Hid (SK 4 g w w2) := Lib.hid (HSZ.out.trans hs2.out)
  have HSW : Hid (SK 4 g W w2) := Lib.hid (HS.out.trans HS2.out)
  have HR2 := Lib.hid hr2.out
  have HX2 : Hid ((stoO most out (numB p) (8 * p.length) q = .ok (out2, q2) ∧ e2' = 0) ∨ (stoO most out (numB p) (8 * p.length) q = .error e2' ∧ e2' ≠ 0)) := Lib.hid (hx2.elim (fun h => absurd rfl h.1) fun h => h.2)
  have HLB2 : Hid (Lbs W w2 Lb Db) := Lib.hid (HLB.out.sk HR.out HS2.out)
  clear hs2 hr2 hx2
  go_wp2_with fail
  go_step3
  have hh := sto_head (most := most) (T := numB p) (N := 8 * p.length) (q := q) (q2 := q2) (out := out) (out2 := out2) (e2 := e2') (by omega) HE.out.1 HE.out.2.1 HE.out.2.2.1 HE.out.2.2.2 HX2.out
  show ∃ n', n' < n ∧ JJ w0 A c p most g Lb Db W res 0 n' _ w2
  exact ⟨_, HNN.out ▸ hh.2, .inl ⟨rfl, _, _, _, _, _, _, _, _, _, _, _, _, _, _, _, _, _, _, _, _, _, _, _, _, _, _, _, _, _, _, _, _, _, _, _, _, _, _, _, _, _, _, _, _, _, _, _, _, _, _, _, _, _, _, _, _, _, _, _, _, _, _, _, _, _, _, _, _, _, _, _, _, _, _, _, _, _, _, _, _, _, _, _, _, _, _, _, _, _, _, _, _, _, _, _, _, _, _, last, q2, out2, e2', rfl, rfl, HLB2, HSW, HR2, Lib.hid hh.1⟩⟩
theorem two_tk {N T q q1 q2 x1 x2 : Nat} {e1 e2 : Int} (h1 : TkC N T q 0 1 x1 q1 e1) (h2 : TkC N T q1 e1 2 x2 q2 e2) :
    (tk 1 T N q = .ok (x1, q + 1) ∧ tk 2 T N (q + 1) = .ok (x2, q + 3) ∧ q2 = q + 3 ∧ e2 = 0 ∧ q + 3 ≤ N) ∨
    ((∀ f : Nat → Nat → Rdr (List Int), bndR (tk 1) (fun n => bndR (tk 2) fun m => f n m) T N q = .error 5) ∧ e2 = 5) := by
  by_cases hq : q + 3 ≤ N
  · left
    obtain ⟨a, rfl, rfl, rfl⟩ := h1.resolve_right (fun h => by have := h.1; omega)
    obtain ⟨b, rfl, rfl, rfl⟩ := h2.resolve_right (fun h => by have := h.1; omega)
    unfold tk
    rw [if_pos (by omega), if_pos (by omega)]
    exact ⟨rfl, rfl, rfl, rfl, hq⟩
  · right
    constructor
    · intro f
      unfold bndR tk
      by_cases h16 : q + 1 ≤ N
      · rw [if_pos h16]
        simp only []
        rw [if_neg (by omega)]
      · rw [if_neg h16]
    · rcases h1 with ⟨h, rfl, rfl, rfl⟩ | ⟨h, rfl, rfl, rfl⟩
      · rcases h2 with ⟨h', rfl, rfl, rfl⟩ | ⟨h', rfl, rfl, rfl⟩
        · omega
        · rfl
      · rcases h2 with ⟨h', rfl, rfl, rfl⟩ | ⟨h', rfl, rfl, rfl⟩
        · rfl
        · rfl
/-- What run leaves where it ends. -/
def Fin (w0 : World) (A : Option Addr) (c : Nat) (p : List Int) (most g : Nat) (W : World) (res : Res) (w' : World) : Prop :=
  ∃ (out : List Int) (q : Nat) (e : Int), Hid (SK 4 g W w') ∧ Hid (Rd w0 A c p most g q out e w') ∧ ((res = .ok (out, q) ∧ e = 0) ∨ (res = .error e ∧ e ≠ 0))
theorem own_row {W : World} {base n b : Nat} {v : Value} {xs : List Value} {cs cs' : Array Value} (hb : W.heap[b]? = some (.cells cs 59 (0, 0))) (h : W.ownsRow base 3 1 v n xs) : (W.setRow b cs').ownsRow base 3 1 v n xs :=
  own_move h fun k hk => by
    obtain ⟨cur, hc⟩ := own_typed h k hk
    refine setRow_other W b k cs' ?_
    rintro rfl
    rw [hc] at hb
    simp at hb
theorem tabC_len (l : List Nat) (v : Value) : (tabC l v).length = 17 := by simp [tabC]
theorem tabs_stored {w0 W w : World} {A : Option Addr} {c most g q Lb Db : Nat} {p out : List Int} {e : Int} {l d : List Nat} {v u : Value} (hS : SK 4 g W w) (hg : g < W.heap.size) (hL : Lbs W w Lb Db) (hR : Rd w0 A c p most g q out e w)
    {c1 c2 : List Value} (l1 : c1.length = 17) (l2 : c2.length = 17) :
    SK 4 g W ((w.setRow Lb c1.toArray).setRow Db c2.toArray) ∧ Lbs W ((w.setRow Lb c1.toArray).setRow Db c2.toArray) Lb Db ∧ Rd w0 A c p most g q out e ((w.setRow Lb c1.toArray).setRow Db c2.toArray) ∧
    (c1 = tabC l v → c2 = tabC d u → w.ownsRow w0.heap.size 3 1 v (symT l).length (nums .i64 (natI (symT l))) → w.ownsRow w0.heap.size 3 1 u (symT d).length (nums .i64 (natI (symT d))) →
      Tab w0.heap.size ((w.setRow Lb c1.toArray).setRow Db c2.toArray) l Lb ∧ Tab w0.heap.size ((w.setRow Lb c1.toArray).setRow Db c2.toArray) d Db) := by
  obtain ⟨⟨o1, m1, b1⟩, ⟨o2, m2, b2⟩, lo, ld⟩ := hL
  have hne : Lb ≠ Db := by omega
  have d2 : (w.setRow Lb c1.toArray).heap[Db]? = some (.cells o2.toArray 59 (0, 0)) := (setRow_other _ _ _ _ (fun e => hne e.symm)).trans b2
  have d1 : (w.setRow Lb c1.toArray).heap[Lb]? = some (.cells c1.toArray 59 (0, 0)) := setRow_heap _ _ _ _ _ _ b1
  have f1 : ((w.setRow Lb c1.toArray).setRow Db c2.toArray).heap[Lb]? = some (.cells c1.toArray 59 (0, 0)) := (setRow_other _ _ _ _ hne).trans d1
  have f2 : ((w.setRow Lb c1.toArray).setRow Db c2.toArray).heap[Db]? = some (.cells c2.toArray 59 (0, 0)) := setRow_heap _ _ _ _ _ _ d2
  refine ⟨(hS.row_ hg lo _).row_ hg (by omega) _, ⟨⟨_, l1, f1⟩, ⟨_, l2, f2⟩, lo, ld⟩, (hR.row_ b1 (by decide) (by decide) _).row_ d2 (by decide) (by decide) _, ?_⟩
  rintro rfl rfl h1 h2
  exact ⟨⟨v, f1, own_row d2 (own_row b1 h1)⟩, ⟨u, f2, own_row d2 (own_row b1 h2)⟩⟩
noncomputable def loopC : Code := behind ((findLabel runC 2).getD .skip)
/-- Ahead of the symbols of a block. -/
def JL (w0 : World) (A : Option Addr) (c : Nat) (p : List Int) (most g Lb Db : Nat) (W : World) (res : Res) (n : Nat) (a : Act) (w : World) : Prop :=
  ∃ u5 : Value, ∃ u6 : Value, ∃ u7 : Value, ∃ u8 : Value, ∃ u9 : Value, ∃ u10 : Value, ∃ u11 : Value, ∃ u12 : Value, ∃ u13 : Value, ∃ u14 : Value, ∃ u15 : Value, ∃ u16 : Value, ∃ u17 : Value, ∃ u18 : Value, ∃ u19 : Value, ∃ u20 : Value, ∃ u21 : Value, ∃ u22 : Value, ∃ u23 : Value, ∃ u24 : Value, ∃ u25 : Value, ∃ u26 : Value, ∃ u27 : Value, ∃ u28 : Value, ∃ u29 : Value, ∃ u30 : Value, ∃ u31 : Value, ∃ u32 : Value, ∃ u33 : Value, ∃ u34 : Value, ∃ u35 : Value, ∃ u36 : Value, ∃ u37 : Value, ∃ u38 : Value, ∃ u39 : Value, ∃ u40 : Value, ∃ u41 : Value, ∃ u42 : Value, ∃ u43 : Value, ∃ u44 : Value, ∃ u45 : Value, ∃ u46 : Value, ∃ u47 : Value, ∃ u48 : Value, ∃ u49 : Value, ∃ u50 : Value, ∃ u51 : Value, ∃ u52 : Value, ∃ u53 : Value, ∃ u54 : Value, ∃ u55 : Value, ∃ u56 : Value, ∃ u57 : Value, ∃ u58 : Value, ∃ u59 : Value, ∃ u60 : Value, ∃ u61 : Value, ∃ u62 : Value, ∃ u63 : Value, ∃ u64 : Value, ∃ u65 : Value, ∃ u66 : Value, ∃ u67 : Value, ∃ u68 : Value, ∃ u69 : Value, ∃ u70 : Value, ∃ u71 : Value, ∃ u72 : Value, ∃ u73 : Value, ∃ u74 : Value, ∃ u75 : Value, ∃ u76 : Value, ∃ u77 : Value, ∃ u78 : Value, ∃ u79 : Value, ∃ u80 : Value, ∃ u81 : Value, ∃ u82 : Value, ∃ u83 : Value, ∃ u84 : Value, ∃ u85 : Value, ∃ u86 : Value, ∃ u87 : Value, ∃ u88 : Value, ∃ u89 : Value, ∃ u90 : Value, ∃ u91 : Value, ∃ u92 : Value, ∃ u93 : Value, ∃ u94 : Value, ∃ u95 : Value, ∃ u96 : Value, ∃ u97 : Value, ∃ u98 : Value, ∃ u99 : Value, ∃ u100 : Value, ∃ u101 : Value, ∃ u102 : Value, ∃ (last q : Nat) (out : List Int) (e : Int), a = ⟨#[.pointer (some ⟨g, 0, none⟩), undef, .pointer (some ⟨Lb, 0, none⟩), .pointer (some ⟨Db, 0, none⟩), .int .i64 last, u5, u6, u7, u8, u9, u10, u11, u12, u13, u14, u15, u16, u17, u18, u19, u20, u21, u22, u23, u24, u25, u26, u27, u28, u29, u30, u31, u32, u33, u34, u35, u36, u37, u38, u39, u40, u41, u42, u43, u44, u45, u46, u47, u48, u49, u50, u51, u52, u53, u54, u55, u56, u57, u58, u59, u60, u61, u62, u63, u64, u65, u66, u67, u68, u69, u70, u71, u72, u73, u74, u75, u76, u77, u78, u79, u80, u81, u82, u83, u84, u85, u86, u87, u88, u89, u90, u91, u92, u93, u94, u95, u96, u97, u98, u99, u100, u101, u102], []⟩ ∧ Hid (Lbs W w Lb Db) ∧ Hid (SK 4 g W w) ∧ Hid (Rd w0 A c p most g q out e w) ∧ Hid (last ≤ 1) ∧ Hid (e = 0 → 2 * (8 * p.length + 1 - q) ≤ n) ∧
    Hid ((e ≠ 0 ∧ res = .error e) ∨ (e = 0 ∧ ∃ (l d : List Nat) (k : Nat), 8 * p.length < q + k ∧ l.length ≤ 1000 ∧ d.length ≤ 1000 ∧ Tab w0.heap.size w l Lb ∧ Tab w0.heap.size w d Db ∧ bndR (symsO l d most (8 * p.length + 1) out) (After most (8 * p.length + 1) k last) (numB p) (8 * p.length) q = res))
set_option maxRecDepth 8000 in
set_option maxHeartbeats 4000000 in
theorem head_pass (w0 : World) (A : Option Addr) (c : Nat) (p : List Int) (most g Lb Db : Nat) (W : World) (res : Res) (n : Nat) (Q : Exit → Act → World → Prop) (hQ : ∀ (a' : Act) w', a'.defers = [] → Fin w0 A c p most g W res w' → Q .ret a' w') (hL : ∀ (a' : Act) w', JL w0 A c p most g Lb Db W res n a' w' → loopC.wp Tryd.prog (jumps (fun l' a' w' => ∃ n', n' < n ∧ JJ w0 A c p most g Lb Db W res l' n' a' w') Q) a' w') (a : Act) (w : World) (hw : Rw w0 A c p g W) (hr0 : Rd w0 A c p most g 0 [] 0 W) (h : JH w0 A c p most g Lb Db W res n a w) :
    headC.wp Tryd.prog (jumps (fun l' a' w' => ∃ n', n' < n ∧ JJ w0 A c p most g Lb Db W res l' n' a' w') Q) a w := by
  obtain ⟨u5, h⟩ := h
  obtain ⟨u6, h⟩ := h
  obtain ⟨u7, h⟩ := h
  obtain ⟨u8, h⟩ := h
  obtain ⟨u9, h⟩ := h
  obtain ⟨u10, h⟩ := h
  obtain ⟨u11, h⟩ := h
  obtain ⟨u12, h⟩ := h
  obtain ⟨u13, h⟩ := h
  obtain ⟨u14, h⟩ := h
  obtain ⟨u15, h⟩ := h
  obtain ⟨u16, h⟩ := h
  obtain ⟨u17, h⟩ := h
  obtain ⟨u18, h⟩ := h
  obtain ⟨u19, h⟩ := h
  obtain ⟨u20, h⟩ := h
  obtain ⟨u21, h⟩ := h
  obtain ⟨u22, h⟩ := h
  obtain ⟨u23, h⟩ := h
  obtain ⟨u24, h⟩ := h
  obtain ⟨u25, h⟩ := h
  obtain ⟨u26, h⟩ := h
  obtain ⟨u27, h⟩ := h
  obtain ⟨u28, h⟩ := h
  obtain ⟨u29, h⟩ := h
  obtain ⟨u30, h⟩ := h
  obtain ⟨u31, h⟩ := h
  obtain ⟨u32, h⟩ := h
  obtain ⟨u33, h⟩ := h
  obtain ⟨u34, h⟩ := h
  obtain ⟨u35, h⟩ := h
  obtain ⟨u36, h⟩ := h
  obtain ⟨u37, h⟩ := h
  obtain ⟨u38, h⟩ := h
  obtain ⟨u39, h⟩ := h
  obtain ⟨u40, h⟩ := h
  obtain ⟨u41, h⟩ := h
  obtain ⟨u42, h⟩ := h
  obtain ⟨u43, h⟩ := h
  obtain ⟨u44, h⟩ := h
  obtain ⟨u45, h⟩ := h
  obtain ⟨u46, h⟩ := h
  obtain ⟨u47, h⟩ := h
  obtain ⟨u48, h⟩ := h
  obtain ⟨u49, h⟩ := h
  obtain ⟨u50, h⟩ := h
  obtain ⟨u51, h⟩ := h
  obtain ⟨u52, h⟩ := h
  obtain ⟨u53, h⟩ := h
  obtain ⟨u54, h⟩ := h
  obtain ⟨u55, h⟩ := h
  obtain ⟨u56, h⟩ := h
  obtain ⟨u57, h⟩ := h
  obtain ⟨u58, h⟩ := h
  obtain ⟨u59, h⟩ := h
  obtain ⟨u60, h⟩ := h
  obtain ⟨u61, h⟩ := h
  obtain ⟨u62, h⟩ := h
  obtain ⟨u63, h⟩ := h
  obtain ⟨u64, h⟩ := h
  obtain ⟨u65, h⟩ := h
  obtain ⟨u66, h⟩ := h
  obtain ⟨u67, h⟩ := h
  obtain ⟨u68, h⟩ := h
  obtain ⟨u69, h⟩ := h
  obtain ⟨u70, h⟩ := h
  obtain ⟨u71, h⟩ := h
  obtain ⟨u72, h⟩ := h
  obtain ⟨u73, h⟩ := h
  obtain ⟨u74, h⟩ := h
  obtain ⟨u75, h⟩ := h
  obtain ⟨u76, h⟩ := h
  obtain ⟨u77, h⟩ := h
  obtain ⟨u78, h⟩ := h
  obtain ⟨u79, h⟩ := h
  obtain ⟨u80, h⟩ := h
  obtain ⟨u81, h⟩ := h
  obtain ⟨u82, h⟩ := h
  obtain ⟨u83, h⟩ := h
  obtain ⟨u84, h⟩ := h
  obtain ⟨u85, h⟩ := h
  obtain ⟨u86, h⟩ := h
  obtain ⟨u87, h⟩ := h
  obtain ⟨u88, h⟩ := h
  obtain ⟨u89, h⟩ := h
  obtain ⟨u90, h⟩ := h
  obtain ⟨u91, h⟩ := h
  obtain ⟨u92, h⟩ := h
  obtain ⟨u93, h⟩ := h
  obtain ⟨u94, h⟩ := h
  obtain ⟨u95, h⟩ := h
  obtain ⟨u96, h⟩ := h
  obtain ⟨u97, h⟩ := h
  obtain ⟨u98, h⟩ := h
  obtain ⟨u99, h⟩ := h
  obtain ⟨u100, h⟩ := h
  obtain ⟨u101, h⟩ := h
  obtain ⟨u102, h⟩ := h
  obtain ⟨last, q, out, e, rfl, hnn, HLB, HS, HR, HE⟩ := h
  have HNN := Lib.hid hnn
  clear hnn
  have HW := Lib.hid hw
  have HR0 := Lib.hid hr0
  clear hw hr0
  have k6 := rd_e HR.out
  rcases HE.out with ⟨he, hx⟩ | ⟨he, hl, hx⟩ | ⟨he, hl, k, hk, hx⟩
  · have hbne : (e != 0) = true := by simpa using he
    conv => arg 2; whnf
    go_wp2_with fail
    all_goals first
      | exact hQ _ _ rfl ⟨out, q, e, HS, HR, .inr ⟨hx, he⟩⟩
      | (exfalso; simp_all; done)
  · subst he
    subst hl
    conv => arg 2; whnf
    go_wp2_with fail
    exact hQ _ _ rfl ⟨out, q, 0, HS, HR, .inl ⟨hx, rfl⟩⟩
  · subst he
    subst hl
    obtain ⟨k, rfl⟩ : ∃ k', k = k' + 1 := ⟨k - 1, by
      have hq : q ≤ 8 * p.length := by
        obtain ⟨_, _, _, _, _, h1, h2, _⟩ := HR.out
        omega
      omega⟩
    have HK := Lib.hid hk
    have HXR := Lib.hid hx
    clear hk hx HE
    conv => arg 2; whnf
    go_wp2_with fail
    have HW' := Lib.hid (HW.out.sk HR0.out HS.out)
    refine (take_calls w0 A c p most g q out 0 w 1 HR.out HW'.out (by omega)).mono ?_
    rintro ee w1 ⟨x1, q1, e1, rfl, hs1, hr1, hc1⟩
    have HS1 : Hid (SK 4 g w w1) := hs1
    have HR1 := Lib.hid hr1.out
    have HC1 : Hid (TkC (8 * p.length) (numB p) q 0 1 x1 q1 e1) := Lib.hid hc1
    clear hs1 hr1 hc1
    go_wp2_with fail
    refine (take_calls w0 A c p most g q1 out e1 w1 2 HR1.out (HW'.out.sk HR.out HS1.out) (by omega)).mono ?_
    rintro ee w2 ⟨x2, q2, e2, rfl, hs2, hr2, hc2⟩
    have HS2 : Hid (SK 4 g w w2) := Lib.hid (HS1.out.trans hs2.out)
    have HR2 := Lib.hid hr2.out
    have HC2 : Hid (TkC (8 * p.length) (numB p) q1 e1 2 x2 q2 e2) := Lib.hid hc2
    clear hs2 hr2 hc2
    have HX12 := Lib.hid (And.intro HC1.out.lt HC2.out.lt)
    have HF := Lib.hid (two_tk HC1.out HC2.out)
    have k62 := rd_e HR2.out
    clear HR1 HC1 HC2 HS1 k6
    rcases HF.out with ⟨t1, t2, rfl, rfl, h5⟩ | ⟨t1, rfl⟩
    · have HT := Lib.hid (And.intro t1 (And.intro t2 h5))
      have hb : bndR (blkO most (8 * p.length + 1) x2 out) (After most (8 * p.length + 1) k x1) (numB p) (8 * p.length) (q + 3) = res := by
        have hh := HXR.out
        unfold runO at hh
        unfold bndR at hh
        rw [t1] at hh
        simp only [] at hh
        rw [t2] at hh
        exact hh
      have HB := Lib.hid hb
      have HSW := Lib.hid (HS.out.trans HS2.out)
      have HLB2 := Lib.hid (HLB.out.sk HR.out HS2.out)
      have hx2 := HX12.out.2
      clear t1 t2 h5 HF hb
      rcases (show x2 = 0 ∨ x2 = 1 ∨ x2 = 2 ∨ x2 = 3 by omega) with rfl | rfl | rfl | rfl
      · clear hx2
        go_wp2_with fail
        go_step3
        show ∃ n', n' < n ∧ JJ w0 A c p most g Lb Db W res 1 n' _ w2
        refine ⟨2 * (8 * p.length + 1 - (q + 3)), ?_, .inr ⟨rfl, _, _, _, _, _, _, _, _, _, _, _, _, _, _, _, _, _, _, _, _, _, _, _, _, _, _, _, _, _, _, _, _, _, _, _, _, _, _, _, _, _, _, _, _, _, _, _, _, _, _, _, _, _, _, _, _, _, _, _, _, _, _, _, _, _, _, _, _, _, _, _, _, _, _, _, _, _, _, _, _, _, _, _, _, _, _, _, _, _, _, _, _, _, _, _, _, _, _, x1, q + 3, k, out, rfl, rfl, HLB2, HSW, HR2, Lib.hid ⟨?_, ?_, ?_, ?_⟩⟩⟩
        · rw [HNN.out, ghost, if_pos rfl]
          have := HT.out.2.2
          omega
        · have := HX12.out.1
          omega
        · have := HK.out
          omega
        · exact HT.out.2.2
        · exact HB.out
      · clear hx2
        go_wp2_with fail
        refine (fixed_calls w2).mono ?_
        rintro ee w3 ⟨v, u, rfl, ho1, ho2, hbel⟩
        have HR3 := Lib.hid (HR2.out.below hbel.out)
        have hs3 : SK 4 g w2 w3 := SK.ofBelow hbel.out HR2.out.lt
        have HS3 := Lib.hid (HSW.out.trans hs3)
        have HLB3 := Lib.hid (HLB2.out.sk HR2.out hs3)
        have HNS : Hid (w0.heap.size ≤ w2.heap.size) := Lib.hid (Nat.le_trans HW'.out.below.size HS2.out.size)
        have HNL : Hid (2 * (8 * p.length + 1 - (q + 3)) ≤ n) := Lib.hid (by
          rw [HNN.out, ghost, if_pos rfl]
          omega)
        have hts := tabs_stored (l := fixL) (d := fixD) (v := v) (u := u) HS3.out HR0.out.lt HLB3.out HR3.out (tabC_len fixL v) (tabC_len fixD u)
        have HTS := Lib.hid hts
        have HO := Lib.hid (And.intro ho1.out ho2.out)
        obtain ⟨⟨c1, l1, b1⟩, ⟨c2, l2, b2⟩, lo, ld⟩ := HLB3.out
        have hne : Db ≠ Lb := by omega
        have b2' : (w3.setRow Lb (tabC fixL v).toArray).heap[Db]? = some (.cells c2.toArray 59 (0, 0)) := (setRow_other _ _ _ _ hne).trans b2
        clear hs3 hts ho1 ho2 hbel hne
        go_wp2_with first
          | (refine wpList_store_row rfl 59 (.tmp 2) (.tmp 39) rfl Lb (tabC fixL v).toArray rfl rfl 59 _ b1 (by rw [tabC_size]; exact infoTab) (by rw [tabC_size]; simpa using l1) (tabC_one' HO.out.1) ?_)
          | (refine wpList_store_row rfl 59 (.tmp 3) (.tmp 40) rfl Db (tabC fixD u).toArray rfl rfl 59 _ b2' (by rw [tabC_size]; exact infoTab) (by rw [tabC_size]; simpa using l2) (tabC_one' HO.out.2) ?_)
        go_step3
        rename_i K hK
        refine hK _ _ ?_
        refine hL _ _ ⟨_, _, _, _, _, _, _, _, _, _, _, _, _, _, _, _, _, _, _, _, _, _, _, _, _, _, _, _, _, _, _, _, _, _, _, _, _, _, _, _, _, _, _, _, _, _, _, _, _, _, _, _, _, _, _, _, _, _, _, _, _, _, _, _, _, _, _, _, _, _, _, _, _, _, _, _, _, _, _, _, _, _, _, _, _, _, _, _, _, _, _, _, _, _, _, _, _, _, x1, q + 3, out, 0, rfl, HTS.out.2.1, HTS.out.1, HTS.out.2.2.1, Lib.hid (by have := HX12.out.1; omega), Lib.hid (fun _ => HNL.out), Lib.hid (.inr ⟨rfl, fixL, fixD, k, ?_, by decide, by decide, ?_, ?_, ?_⟩)⟩
        · have := HK.out
          omega
        · exact (HTS.out.2.2.2 (by first | rfl | trivial) (by first | rfl | trivial) (own_weaken HO.out.1 HNS.out) (own_weaken HO.out.2 HNS.out)).1
        · exact (HTS.out.2.2.2 (by first | rfl | trivial) (by first | rfl | trivial) (own_weaken HO.out.1 HNS.out) (own_weaken HO.out.2 HNS.out)).2
        · have hh := HB.out
          unfold blkO at hh
          exact hh
      · clear hx2
        go_wp2_with fail
        refine (dynamic_calls w0 A c p most g (q + 3) out w2 HR2.out (HW'.out.sk HR.out HS2.out)).mono ?_
        rintro ee w3 ⟨c1, c2, q3, e3, rfl, hs3, hr3, hc3, hx3⟩
        have HR3 := Lib.hid hr3.out
        have HS3 := Lib.hid (HSW.out.trans hs3.out)
        have HLB3 := Lib.hid (HLB2.out.sk HR2.out hs3.out)
        have hlen := hc3.out
        have HTS : Hid _ := Lib.hid (fun (l d : List Nat) (v u : Value) => tabs_stored (l := l) (d := d) (v := v) (u := u) HS3.out HR0.out.lt HLB3.out HR3.out hlen.1 hlen.2.1)
        have hne1 : c1.toArray.all (·.oneCell') = true := by simpa using hlen.2.2.1
        have hne2 : c2.toArray.all (·.oneCell') = true := by simpa using hlen.2.2.2
        have hz1 : c1.toArray.size = 17 := by simpa using hlen.1
        have hz2 : c2.toArray.size = 17 := by simpa using hlen.2.1
        have HX3 : Hid ((e3 = 0 ∧ ∃ l d v u, dynR (numB p) (8 * p.length) (q + 3) = .ok ((l, d), q3) ∧ c1 = tabC l v ∧ c2 = tabC d u ∧ l.length ≤ 1000 ∧ d.length ≤ 1000 ∧ Hid (w3.ownsRow w0.heap.size 3 1 v (symT l).length (nums .i64 (natI (symT l)))) ∧ Hid (w3.ownsRow w0.heap.size 3 1 u (symT d).length (nums .i64 (natI (symT d))))) ∨ (e3 ≠ 0 ∧ dynR (numB p) (8 * p.length) (q + 3) = .error e3)) := Lib.hid hx3
        obtain ⟨⟨o1, l1, b1⟩, ⟨o2, l2, b2⟩, lo, ld⟩ := HLB3.out
        have hne : Db ≠ Lb := by omega
        have b2' : (w3.setRow Lb c1.toArray).heap[Db]? = some (.cells o2.toArray 59 (0, 0)) := (setRow_other _ _ _ _ hne).trans b2
        have HC := Lib.hid (And.intro hne1 (And.intro hne2 (And.intro hz1 hz2)))
        clear hs3 hr3 hc3 hx3 hne hlen hne1 hne2 hz1 hz2
        go_wp2_with first
          | (refine wpList_store_row rfl 59 (.tmp 2) (.tmp 47) rfl Lb c1.toArray rfl rfl 59 _ b1 (by rw [HC.out.2.2.1]; exact infoTab) (by rw [HC.out.2.2.1]; simpa using l1) HC.out.1 ?_)
          | (refine wpList_store_row rfl 59 (.tmp 3) (.tmp 48) rfl Db c2.toArray rfl rfl 59 _ b2' (by rw [HC.out.2.2.2]; exact infoTab) (by rw [HC.out.2.2.2]; simpa using l2) HC.out.2.1 ?_)
        go_step3
        rename_i K hK
        refine hK _ _ ?_
        rcases HX3.out with ⟨rfl, l, d, v, u, hd, rfl, rfl, hl1, hl2, ho1, ho2⟩ | ⟨he3, hd⟩
        · have ht := HTS.out l d v u
          have h8 : 8 * p.length % 8 = 0 := by omega
          have HNS := Lib.hid (Stb.dynR (numB p) (8 * p.length) (q + 3) (l, d) q3 h8 HT.out.2.2 hd).le
          have HNL : Hid (2 * (8 * p.length + 1 - q3) ≤ n) := Lib.hid (by
            rw [HNN.out, ghost, if_pos rfl]
            have := HNS.out
            omega)
          refine hL _ _ ⟨_, _, _, _, _, _, _, _, _, _, _, _, _, _, _, _, _, _, _, _, _, _, _, _, _, _, _, _, _, _, _, _, _, _, _, _, _, _, _, _, _, _, _, _, _, _, _, _, _, _, _, _, _, _, _, _, _, _, _, _, _, _, _, _, _, _, _, _, _, _, _, _, _, _, _, _, _, _, _, _, _, _, _, _, _, _, _, _, _, _, _, _, _, _, _, _, _, _, x1, q3, out, 0, rfl, ht.2.1, ht.1, ht.2.2.1, Lib.hid (by have := HX12.out.1; omega), Lib.hid (fun _ => HNL.out), Lib.hid (.inr ⟨rfl, l, d, k, ?_, hl1, hl2, ?_, ?_, ?_⟩)⟩
          · have := HK.out
            have := HNS.out
            omega
          · exact (ht.2.2.2 (by first | rfl | trivial) (by first | rfl | trivial) ho1.out ho2.out).1
          · exact (ht.2.2.2 (by first | rfl | trivial) (by first | rfl | trivial) ho1.out ho2.out).2
          · have hh := HB.out
            unfold blkO bndR at hh
            rw [if_neg (by omega), if_neg (by omega), if_pos rfl] at hh
            simp only [bndR, hd] at hh
            exact hh
        · have ht := HTS.out [] [] undef undef
          refine hL _ _ ⟨_, _, _, _, _, _, _, _, _, _, _, _, _, _, _, _, _, _, _, _, _, _, _, _, _, _, _, _, _, _, _, _, _, _, _, _, _, _, _, _, _, _, _, _, _, _, _, _, _, _, _, _, _, _, _, _, _, _, _, _, _, _, _, _, _, _, _, _, _, _, _, _, _, _, _, _, _, _, _, _, _, _, _, _, _, _, _, _, _, _, _, _, _, _, _, _, _, _, x1, q3, out, e3, rfl, ht.2.1, ht.1, ht.2.2.1, Lib.hid (by have := HX12.out.1; omega), Lib.hid (fun h => absurd h he3), Lib.hid (.inl ⟨he3, ?_⟩)⟩
          have hh := HB.out
          unfold blkO bndR at hh
          rw [if_neg (by omega), if_neg (by omega), if_pos rfl] at hh
          simp only [bndR, hd] at hh
          exact hh.symm
      · clear hx2
        go_wp2_with fail
        refine (wrong_calls w0 A c p most g (q + 3) out 0 4 w2 HR2.out (by omega)).mono ?_
        rintro ee w3 ⟨rfl, hs3, hr3⟩
        have HS3 : Hid (SK 4 g W w3) := Lib.hid (HSW.out.trans hs3)
        have HLB3 : Hid (Lbs W w3 Lb Db) := Lib.hid (HLB2.out.sk HR2.out hs3)
        have hf4 : fst 0 4 = 4 := rfl
        rw [hf4] at hr3
        have HR3 := Lib.hid hr3
        clear hs3 hr3 hf4
        have h4 : res = .error 4 := by
          have hh := HB.out
          unfold blkO bndR at hh
          rw [if_neg (by omega), if_neg (by omega), if_neg (by omega)] at hh
          exact hh.symm
        have hnl : 2 * (8 * p.length + 1 - (q + 3)) ≤ n := by
          rw [HNN.out, ghost, if_pos rfl]
          omega
        have HNL := Lib.hid hnl
        have H4 := Lib.hid h4
        clear hnl h4
        go_wp2_with fail
        go_step3
        rename_i K hK
        refine hK _ _ ?_
        refine hL _ _ ⟨_, _, _, _, _, _, _, _, _, _, _, _, _, _, _, _, _, _, _, _, _, _, _, _, _, _, _, _, _, _, _, _, _, _, _, _, _, _, _, _, _, _, _, _, _, _, _, _, _, _, _, _, _, _, _, _, _, _, _, _, _, _, _, _, _, _, _, _, _, _, _, _, _, _, _, _, _, _, _, _, _, _, _, _, _, _, _, _, _, _, _, _, _, _, _, _, _, _, x1, q + 3, out, 4, rfl, HLB3, HS3, HR3, Lib.hid (by have := HX12.out.1; omega), Lib.hid (fun _ => HNL.out), Lib.hid (.inl ⟨by decide, H4.out⟩)⟩
    · have HT := Lib.hid (t1 fun last way => bndR (blkO most (8 * p.length + 1) way out) fun o => if last = 1 then retR o else runO most (8 * p.length + 1) k o)
      clear t1 HF
      go_wp2_with fail
      exact hQ _ _ rfl ⟨out, q2, 5, Lib.hid (HS.out.trans HS2.out), HR2, .inr ⟨HXR.out.symm.trans HT.out, by decide⟩⟩
end Go.Proofs.YtkdklcamgcmifaaDoor

/-! HRunL: inflate's reader: run's symbols. -/
namespace Go.Proofs.YtkdklcamgcmifaaDoor
set_option linter.unusedVariables false
set_option linter.unusedSimpArgs false
open Go.RowKit Go.Proofs.YtkdklcamgcmifaaDoorW.PrintWords Go.Proofs.YtkdklcamgcmifaaDoorW.PrintMore
attribute [local go_sem] jumps_normal jumps_exit jumps_ret jumps_panic jumps_goto
theorem symL_adv {l : List Nat} {T N q x q' : Nat} (h8 : N % 8 = 0) (h : symL l T N q = .ok (x, q')) : q + 1 ≤ q' ∧ q' ≤ N := by
  unfold symL symR at h
  split at h
  · cases h
  · unfold bndR at h
    split at h
    · rename_i y r hr
      unfold tk at hr
      split at hr
      · rename_i hle
        simp only [Except.ok.injEq, Prod.mk.injEq] at hr
        have hr2 := hr.2
        have hs := Stb.ite (c := 0 + y < 0 + cntT l 1) (Stb.ret ((symT l).getD (0 + (0 + y - 0)) 0)) (Stb.symR (cntT l) (symT l) 14 (1 + 1) (2 * (0 + y)) (2 * (0 + cntT l 1)) (0 + cntT l 1))
        have h3 := hs T N r x q' h8 (by omega) h
        have := h3.le
        exact ⟨by omega, h3.top⟩
      · cases hr
    · cases h
theorem symL_le {l : List Nat} {T N q x q' : Nat} (h : symL l T N q = .ok (x, q')) (hl : l.length ≤ 1000) : x ≤ 1000 := by
  rcases symR_val _ _ _ _ _ _ _ _ h with h1 | h1
  · have := symT_lt l x h1
    omega
  · omega
theorem tk_val {n T N q x q' : Nat} (h : tk n T N q = .ok (x, q')) : x < 2 ^ n := by
  unfold tk at h
  split at h
  · simp only [Except.ok.injEq, Prod.mk.injEq] at h
    rw [← h.1]
    exact Nat.mod_lt _ (Nat.pow_pos (by decide))
  · cases h
theorem lenR_le {s T N q n q' : Nat} (h : lenR s T N q = .ok (n, q')) : n ≤ 1000 := by
  unfold lenR at h
  split at h
  · cases h
  · split at h
    · simp only [retR, Except.ok.injEq, Prod.mk.injEq] at h
      omega
    · split at h
      · simp only [retR, Except.ok.injEq, Prod.mk.injEq] at h
        omega
      · unfold bndR at h
        split at h
        · rename_i v r hv
          have hv2 := tk_val hv
          simp only [retR, Except.ok.injEq, Prod.mk.injEq] at h
          have hp : 2 ^ ((s - 261) / 4) ≤ 2 ^ 6 := Nat.pow_le_pow_right (by decide) (by omega)
          have hm : (4 + (s - 261) % 4) * 2 ^ ((s - 261) / 4) ≤ 7 * 2 ^ 6 := Nat.mul_le_mul (by omega) hp
          generalize (4 + (s - 261) % 4) * 2 ^ ((s - 261) / 4) = m at *
          generalize 2 ^ ((s - 261) / 4) = z at *
          omega
        · cases h
theorem disR_le {s T N q n q' : Nat} (h : disR s T N q = .ok (n, q')) : 1 ≤ n ∧ n ≤ 100000 := by
  unfold disR at h
  split at h
  · cases h
  · split at h
    · simp only [retR, Except.ok.injEq, Prod.mk.injEq] at h
      omega
    · unfold bndR at h
      split at h
      · rename_i v r hv
        have hv2 := tk_val hv
        simp only [retR, Except.ok.injEq, Prod.mk.injEq] at h
        have hp : 2 ^ (s / 2 - 1) ≤ 2 ^ 13 := Nat.pow_le_pow_right (by decide) (by omega)
        have hm : (2 + s % 2) * 2 ^ (s / 2 - 1) ≤ 3 * 2 ^ 13 := Nat.mul_le_mul (by omega) hp
        generalize (2 + s % 2) * 2 ^ (s / 2 - 1) = m at *
        generalize 2 ^ (s / 2 - 1) = z at *
        omega
      · cases h
theorem bnd_congr {α β : Type} {a b : Rdr α} (f : α → Rdr β) {T N q q' : Nat} (h : a T N q = b T N q') : bndR a f T N q = bndR b f T N q' := by
  unfold bndR
  rw [h]
theorem bnd_err {α β : Type} {a : Rdr α} {f : α → Rdr β} {T N q : Nat} {e : Int} (h : a T N q = .error e) : bndR a f T N q = .error e := by
  unfold bndR
  rw [h]
theorem bnd_ok {α β : Type} {a : Rdr α} {f : α → Rdr β} {T N q q' : Nat} {x : α} (h : a T N q = .ok (x, q')) : bndR a f T N q = f x T N q' := by
  unfold bndR
  rw [h]
theorem syms_lit {l d : List Nat} {most kk T N q x q2 : Nat} {o1 : List Int} {f : List Int → Rdr (List Int)} {res : Res} (hs : symL l T N q = .ok (x, q2)) (h256 : x ≠ 256) (hlt : x < 256) (h : bndR (symsO l d most (kk + 1) o1) f T N q = res) :
    bndR (onO (putO most o1 (x : Int)) (symsO l d most kk)) f T N q2 = res := by
  have e : symsO l d most (kk + 1) o1 T N q = onO (putO most o1 (x : Int)) (symsO l d most kk) T N q2 := by
    rw [symsO]
    unfold bndR
    rw [hs]
    simp only []
    rw [if_neg h256, if_pos hlt]
  unfold bndR at h ⊢
  rw [e] at h
  exact h
theorem syms_cop {l d : List Nat} {most kk T N q x q2 : Nat} {o1 : List Int} {f : List Int → Rdr (List Int)} {res : Res} (hs : symL l T N q = .ok (x, q2)) (h256 : x ≠ 256) (hlt : ¬ x < 256) (h : bndR (symsO l d most (kk + 1) o1) f T N q = res) :
    bndR (bndR (copR d x) fun (n, far) => if o1.length < far then badR 4 else onO (repO most far n o1) (symsO l d most kk)) f T N q2 = res := by
  refine (bnd_congr f ?_).symm.trans h
  rw [symsO, bnd_ok hs, if_neg h256, if_neg hlt]
theorem cop_then {l d : List Nat} {most kk T N q x q2 n far : Nat} {o1 : List Int} {f : List Int → Rdr (List Int)} {res : Res} (hc : copR d x T N q = .ok ((n, far), q2))
    (h : bndR (bndR (copR d x) fun (n, far) => if o1.length < far then badR 4 else onO (repO most far n o1) (symsO l d most kk)) f T N q = res) :
    bndR (if o1.length < far then badR 4 else onO (repO most far n o1) (symsO l d most kk)) f T N q2 = res := by
  refine (bnd_congr f ?_).symm.trans h
  rw [bnd_ok hc]
theorem rep_then {l d : List Nat} {most kk T N n far q5 q6 : Nat} {o1 o6 : List Int} {e6 : Int} {f : List Int → Rdr (List Int)} {res : Res} (hx : (atQ q5 (if o1.length < far then .error 4 else repO most far n o1) = .ok (o6, q6) ∧ e6 = 0) ∨ (atQ q5 (if o1.length < far then .error 4 else repO most far n o1) = .error e6 ∧ e6 ≠ 0))
    (h : bndR (if o1.length < far then badR 4 else onO (repO most far n o1) (symsO l d most kk)) f T N q5 = res) :
    (e6 ≠ 0 ∧ res = .error e6) ∨ (e6 = 0 ∧ q6 = q5 ∧ bndR (symsO l d most kk o6) f T N q6 = res) := by
  by_cases hf : o1.length < far
  · rw [if_pos hf] at hx h
    rcases hx with ⟨h1, rfl⟩ | ⟨h1, h2⟩
    · cases h1
    · simp only [atQ, Except.error.injEq] at h1
      subst h1
      exact .inl ⟨h2, h.symm⟩
  · rw [if_neg hf] at hx h
    cases hr : repO most far n o1 with
    | ok o =>
      rw [hr] at hx h
      rcases hx with ⟨h1, rfl⟩ | ⟨h1, h2⟩
      · simp only [atQ, Except.ok.injEq, Prod.mk.injEq] at h1
        obtain ⟨rfl, rfl⟩ := h1
        exact .inr ⟨rfl, rfl, h⟩
      · cases h1
    | error e =>
      rw [hr] at hx h
      rcases hx with ⟨h1, rfl⟩ | ⟨h1, h2⟩
      · cases h1
      · simp only [atQ, Except.error.injEq] at h1
        subst h1
        exact .inl ⟨h2, h.symm⟩
theorem cop_len {d : List Nat} {x T N q : Nat} {e : Int} (h : lenR x T N q = .error e) : copR d x T N q = .error e := by
  unfold copR bndR
  rw [h]
theorem cop_sym {d : List Nat} {x T N q n q3 : Nat} {e : Int} (h : lenR x T N q = .ok (n, q3)) (h2 : symL d T N q3 = .error e) : copR d x T N q = .error e := by
  unfold copR bndR
  rw [h]
  simp only [bndR]
  rw [h2]
theorem cop_dis {d : List Nat} {x T N q n q3 t q4 : Nat} {e : Int} (h : lenR x T N q = .ok (n, q3)) (h2 : symL d T N q3 = .ok (t, q4)) (h3 : disR t T N q4 = .error e) : copR d x T N q = .error e := by
  unfold copR bndR
  rw [h]
  simp only [bndR]
  rw [h2]
  simp only []
  rw [h3]
theorem cop_ok {d : List Nat} {x T N q n q3 t q4 far q5 : Nat} (h : lenR x T N q = .ok (n, q3)) (h2 : symL d T N q3 = .ok (t, q4)) (h3 : disR t T N q4 = .ok (far, q5)) : copR d x T N q = .ok ((n, far), q5) := by
  unfold copR bndR
  rw [h]
  simp only [bndR]
  rw [h2]
  simp only []
  rw [h3]
  rfl
set_option maxRecDepth 8000 in
set_option maxHeartbeats 4000000 in
theorem repeat_err (w0 : World) (A : Option Addr) (c : Nat) (p : List Int) (most g q : Nat) (out : List Int) (e : Int) (W : World) (n far : Nat) (hr : Rd w0 A c p most g q out e W) (he : e ≠ 0) :
    Calls Tryd.prog 49 #[.pointer (some ⟨g, 0, none⟩), .int .i64 n, .int .i64 far] W fun ee w' => ee = .returned (.tuple #[]) ∧ w' = W := by
  have c6 := rd_e hr
  clear hr
  have he' : (e == 0) = false := by simp [he]
  go_enter Tryd.func49, Tryd.ntmps49
  go_wp2_with fail
  go_loopw [1] (fun v wr => v = .int .i64 n ∧ wr = W) (fun _ _ => 0)
  case atStart => exact ⟨rfl, rfl⟩
  case round =>
    obtain ⟨rfl, rfl⟩ := hrel
    by_cases hn0 : n = 0
    · subst hn0
      go_wp2_with fail
      exact bodyPost_end (results_none rfl _ _ _) rfl ⟨rfl, rfl⟩
    · have hn1 : (0 : Int) < (n : Int) := by omega
      go_wp2_with fail
      exact bodyPost_end (results_none rfl _ _ _) rfl ⟨rfl, rfl⟩
set_option maxRecDepth 8000 in
set_option maxHeartbeats 4000000 in
theorem loop_pass (w0 : World) (A : Option Addr) (c : Nat) (p : List Int) (most g Lb Db : Nat) (W : World) (res : Res) (n : Nat) (Q : Exit → Act → World → Prop) (hQ : ∀ (a' : Act) w', a'.defers = [] → Fin w0 A c p most g W res w' → Q .ret a' w') (a : Act) (w : World) (hw : Rw w0 A c p g W) (hr0 : Rd w0 A c p most g 0 [] 0 W) (h : JL w0 A c p most g Lb Db W res n a w) :
    loopC.wp Tryd.prog (jumps (fun l' a' w' => ∃ n', n' < n ∧ JJ w0 A c p most g Lb Db W res l' n' a' w') Q) a w := by
  obtain ⟨u5, h⟩ := h
  obtain ⟨u6, h⟩ := h
  obtain ⟨u7, h⟩ := h
  obtain ⟨u8, h⟩ := h
  obtain ⟨u9, h⟩ := h
  obtain ⟨u10, h⟩ := h
  obtain ⟨u11, h⟩ := h
  obtain ⟨u12, h⟩ := h
  obtain ⟨u13, h⟩ := h
  obtain ⟨u14, h⟩ := h
  obtain ⟨u15, h⟩ := h
  obtain ⟨u16, h⟩ := h
  obtain ⟨u17, h⟩ := h
  obtain ⟨u18, h⟩ := h
  obtain ⟨u19, h⟩ := h
  obtain ⟨u20, h⟩ := h
  obtain ⟨u21, h⟩ := h
  obtain ⟨u22, h⟩ := h
  obtain ⟨u23, h⟩ := h
  obtain ⟨u24, h⟩ := h
  obtain ⟨u25, h⟩ := h
  obtain ⟨u26, h⟩ := h
  obtain ⟨u27, h⟩ := h
  obtain ⟨u28, h⟩ := h
  obtain ⟨u29, h⟩ := h
  obtain ⟨u30, h⟩ := h
  obtain ⟨u31, h⟩ := h
  obtain ⟨u32, h⟩ := h
  obtain ⟨u33, h⟩ := h
  obtain ⟨u34, h⟩ := h
  obtain ⟨u35, h⟩ := h
  obtain ⟨u36, h⟩ := h
  obtain ⟨u37, h⟩ := h
  obtain ⟨u38, h⟩ := h
  obtain ⟨u39, h⟩ := h
  obtain ⟨u40, h⟩ := h
  obtain ⟨u41, h⟩ := h
  obtain ⟨u42, h⟩ := h
  obtain ⟨u43, h⟩ := h
  obtain ⟨u44, h⟩ := h
  obtain ⟨u45, h⟩ := h
  obtain ⟨u46, h⟩ := h
  obtain ⟨u47, h⟩ := h
  obtain ⟨u48, h⟩ := h
  obtain ⟨u49, h⟩ := h
  obtain ⟨u50, h⟩ := h
  obtain ⟨u51, h⟩ := h
  obtain ⟨u52, h⟩ := h
  obtain ⟨u53, h⟩ := h
  obtain ⟨u54, h⟩ := h
  obtain ⟨u55, h⟩ := h
  obtain ⟨u56, h⟩ := h
  obtain ⟨u57, h⟩ := h
  obtain ⟨u58, h⟩ := h
  obtain ⟨u59, h⟩ := h
  obtain ⟨u60, h⟩ := h
  obtain ⟨u61, h⟩ := h
  obtain ⟨u62, h⟩ := h
  obtain ⟨u63, h⟩ := h
  obtain ⟨u64, h⟩ := h
  obtain ⟨u65, h⟩ := h
  obtain ⟨u66, h⟩ := h
  obtain ⟨u67, h⟩ := h
  obtain ⟨u68, h⟩ := h
  obtain ⟨u69, h⟩ := h
  obtain ⟨u70, h⟩ := h
  obtain ⟨u71, h⟩ := h
  obtain ⟨u72, h⟩ := h
  obtain ⟨u73, h⟩ := h
  obtain ⟨u74, h⟩ := h
  obtain ⟨u75, h⟩ := h
  obtain ⟨u76, h⟩ := h
  obtain ⟨u77, h⟩ := h
  obtain ⟨u78, h⟩ := h
  obtain ⟨u79, h⟩ := h
  obtain ⟨u80, h⟩ := h
  obtain ⟨u81, h⟩ := h
  obtain ⟨u82, h⟩ := h
  obtain ⟨u83, h⟩ := h
  obtain ⟨u84, h⟩ := h
  obtain ⟨u85, h⟩ := h
  obtain ⟨u86, h⟩ := h
  obtain ⟨u87, h⟩ := h
  obtain ⟨u88, h⟩ := h
  obtain ⟨u89, h⟩ := h
  obtain ⟨u90, h⟩ := h
  obtain ⟨u91, h⟩ := h
  obtain ⟨u92, h⟩ := h
  obtain ⟨u93, h⟩ := h
  obtain ⟨u94, h⟩ := h
  obtain ⟨u95, h⟩ := h
  obtain ⟨u96, h⟩ := h
  obtain ⟨u97, h⟩ := h
  obtain ⟨u98, h⟩ := h
  obtain ⟨u99, h⟩ := h
  obtain ⟨u100, h⟩ := h
  obtain ⟨u101, h⟩ := h
  obtain ⟨u102, h⟩ := h
  obtain ⟨last, q, out, e, rfl, HLB, HS, HR, HL1, HNL, HE⟩ := h
  have HW := Lib.hid hw
  have HR0 := Lib.hid hr0
  clear hw hr0
  have k6 := rd_e HR.out
  conv => arg 2; whnf
  go_wp2_with fail
  rcases HE.out with ⟨he, hx⟩ | ⟨he, l, d, k, hk, hl1, hl2, ht1, ht2, hx⟩
  · have hbe : (e == 0) = false := by simpa using he
    clear HE
    go_loopg [] 0 (fun kk wr => Hid (wr = w))
    case atStart => exact Lib.hid rfl
    case round =>
      have hwr := hrel.out
      subst hwr
      go_wp2_with fail
      exact hQ _ _ rfl ⟨out, q, e, HS, HR, .inr ⟨hx, he⟩⟩
  · subst he
    have HK := Lib.hid (And.intro hk (And.intro hl1 hl2))
    have HT1 := Lib.hid ht1
    have HT2 := Lib.hid ht2
    have HX := Lib.hid hx
    clear HE ht1 ht2 hx hk hl1 hl2
    have HNL := Lib.hid (HNL.out rfl)
    go_loopg [] (8 * p.length + 1) (fun kk wr => ∃ (q1 : Nat) (o1 : List Int) (e1 : Int), Hid (e1 = 0 → q ≤ q1) ∧ Hid (Lbs W wr Lb Db) ∧ Hid (SK 4 g W wr) ∧ Hid (Rd w0 A c p most g q1 o1 e1 wr) ∧ Hid (Tab w0.heap.size wr l Lb) ∧ Hid (Tab w0.heap.size wr d Db) ∧
      Hid ((e1 ≠ 0 ∧ res = .error e1) ∨ (e1 = 0 ∧ 8 * p.length < q1 + kk ∧ bndR (symsO l d most kk o1) (After most (8 * p.length + 1) k last) (numB p) (8 * p.length) q1 = res)))
    case atStart => exact ⟨q, out, 0, Lib.hid (fun _ => Nat.le_refl _), HLB, HS, HR, HT1, HT2, Lib.hid (.inr ⟨rfl, by omega, HX.out⟩)⟩
    case round =>
      obtain ⟨q1, o1, e1, HQ1, HLB1, HS1, HR1, HTL, HTD, HE1⟩ := hrel
      have d6 := rd_e HR1.out
      rcases HE1.out with ⟨he, hx⟩ | ⟨he, hk, hx⟩
      · have hbe : (e1 == 0) = false := by simpa using he
        go_wp2_with fail
        exact hQ _ _ rfl ⟨o1, q1, e1, HS1, HR1, .inr ⟨hx, he⟩⟩
      · subst he
        clear HE1
        have HQ2 := Lib.hid (HQ1.out rfl)
        clear HQ1
        have HK1 := Lib.hid hk
        have HX1 := Lib.hid hx
        clear hk hx
        go_wp2_with fail
        have HW1 := Lib.hid (HW.out.sk HR0.out HS1.out)
        refine (symbol_calls w0 A c p most g q1 o1 wr l Lb w0.heap.size HR1.out HW1.out HTL.out HK.out.2.1).mono ?_
        rintro ee w2 ⟨x, q2, e2, rfl, hs2, hr2, hx2⟩
        have hLB2 := HLB1.out.sk HR1.out hs2.out
        have HR2 := Lib.hid hr2.out
        have HX2 : Hid ((symL l (numB p) (8 * p.length) q1 = .ok (x, q2) ∧ e2 = 0) ∨ (symL l (numB p) (8 * p.length) q1 = .error e2 ∧ e2 ≠ 0)) := Lib.hid hx2
        have HS2 : Hid (SK 4 g wr w2) := Lib.hid hs2.out
        have HSW2 := Lib.hid (HS1.out.trans HS2.out)
        have HLB2 := Lib.hid hLB2
        have d62 := rd_e HR2.out
        clear hs2 hr2 hx2 hLB2 d6
        obtain ⟨kk, rfl⟩ : ∃ kk, gk = kk + 1 := ⟨gk - 1, by
          have := HK1.out
          have : q1 ≤ 8 * p.length := by
            obtain ⟨_, _, _, _, _, h1, h2, _⟩ := HR1.out
            omega
          omega⟩
        rcases HX2.out with ⟨hs, rfl⟩ | ⟨hs, he⟩
        · have hadv := symL_adv (by omega) hs
          by_cases h256 : x = 256
          · subst h256
            have hh := HX1.out
            unfold bndR symsO bndR at hh
            rw [hs] at hh
            have hres : After most (8 * p.length + 1) k last o1 (numB p) (8 * p.length) q2 = res := hh
            have hhead : Head most (8 * p.length + 1) (numB p) (8 * p.length) res last q2 o1 0 := by
              unfold After at hres
              rcases Nat.lt_or_ge last 1 with h | h
              · rw [if_neg (by omega)] at hres
                exact .inr (.inr ⟨rfl, by omega, k, by have := HK.out.1; have := HQ2.out; omega, hres⟩)
              · have h1 : last = 1 := by have := HL1.out; omega
                rw [if_pos h1] at hres
                exact .inr (.inl ⟨rfl, h1, hres.symm⟩)
            have hg : ghost (8 * p.length) q2 0 < n := by
              have h1 : 2 * (8 * p.length + 1 - q) ≤ n := by first | exact HNL.out | exact HNL.out trivial
              have := HQ2.out
              rw [ghost, if_pos rfl]
              omega
            clear hh hres
            go_wp2_with fail
            go_step3
            show ∃ n', n' < n ∧ JJ w0 A c p most g Lb Db W res 0 n' _ w2
            exact ⟨_, hg, .inl ⟨rfl, _, _, _, _, _, _, _, _, _, _, _, _, _, _, _, _, _, _, _, _, _, _, _, _, _, _, _, _, _, _, _, _, _, _, _, _, _, _, _, _, _, _, _, _, _, _, _, _, _, _, _, _, _, _, _, _, _, _, _, _, _, _, _, _, _, _, _, _, _, _, _, _, _, _, _, _, _, _, _, _, _, _, _, _, _, _, _, _, _, _, _, _, _, _, _, _, _, _, last, q2, o1, 0, rfl, rfl, HLB2, HSW2, HR2, Lib.hid hhead⟩⟩
          · have hne : ((x : Int) == 256) = false := by simpa using (by omega : (x : Int) ≠ 256)
            rcases Nat.lt_or_ge x 256 with hlt | hge
            · have hlt' : (x : Int) < 256 := by omega
              go_wp2_with fail
              refine (emit_calls w0 A c p most g q2 o1 (x : Int) w2 HR2.out (HW1.out.sk HR1.out HS2.out).below.size).mono ?_
              rintro ee w4 ⟨o4, e4, rfl, hs4, hr4, hx4⟩
              have HR4 := Lib.hid hr4.out
              have HSW4 := Lib.hid (HSW2.out.trans hs4.out)
              have HLB4 := Lib.hid (HLB2.out.sk HR2.out hs4.out)
              have HX4 := Lib.hid hx4
              have hS4 := hs4.out
              have HSS := Lib.hid (HS2.out.trans hS4)
              clear hs4 hr4 hx4 hS4
              go_wp2_with fail
              go_roundg kk
              case measure => omega
              case rel =>
                refine ⟨q2, o4, e4, Lib.hid (fun _ => by have := HQ2.out; omega), HLB4, HSW4, HR4, Lib.hid (HTL.out.sk HR1.out HSS.out), Lib.hid (HTD.out.sk HR1.out HSS.out), Lib.hid ?_⟩
                have hh := syms_lit hs h256 hlt HX1.out
                unfold putO at hh
                rcases HX4.out with ⟨h1, rfl, rfl⟩ | ⟨h1, rfl, rfl⟩
                · rw [if_neg (by omega)] at hh
                  exact .inr ⟨rfl, by have := HK1.out; omega, hh⟩
                · rw [if_pos h1] at hh
                  exact .inl ⟨by decide, hh.symm⟩
            · have hge' : ¬ (x : Int) < 256 := by omega
              go_wp2_with fail
              have hx1 := symL_le hs HK.out.2.1
              have hh := syms_cop hs h256 (by omega) HX1.out
              have HH := Lib.hid hh
              have HW2 := Lib.hid (HW1.out.sk HR1.out HS2.out)
              have h8 : 8 * p.length % 8 = 0 := by omega
              have HT2' := Lib.hid (HTD.out.sk HR1.out HS2.out)
              have HX2' := Lib.hid (And.intro hs hadv)
              have HN0 := HNL
              clear hh
              refine (length_calls w0 A c p most g q2 o1 w2 x HR2.out HW2.out ⟨by omega, hx1⟩).mono ?_
              rintro ee w3 ⟨n3, q3, e3, rfl, hs3, hr3, hx3⟩
              have HS3 : Hid (SK 4 g w2 w3) := Lib.hid hs3.out
              have HSW3 := Lib.hid (HSW2.out.trans hs3.out)
              have HR3 := Lib.hid hr3.out
              have HX3 : Hid ((lenR x (numB p) (8 * p.length) q2 = .ok (n3, q3) ∧ e3 = 0) ∨ (lenR x (numB p) (8 * p.length) q2 = .error e3 ∧ e3 ≠ 0)) := Lib.hid hx3
              have d63 := rd_e HR3.out
              clear hs3 hr3 hx3 d62
              rcases HX3.out with ⟨hl3, rfl⟩ | ⟨hl3, he3⟩
              · have H3 := Lib.hid (And.intro hl3 (And.intro (lenR_le hl3) (Stb.lenR x _ _ _ _ _ h8 HX2'.out.2.2 hl3)))
                have HW3 := Lib.hid (HW2.out.sk HR2.out HS3.out)
                have HT3 := Lib.hid (HT2'.out.sk HR2.out HS3.out)
                clear hl3 HX3
                go_wp2_with fail
                refine (symbol_calls w0 A c p most g q3 o1 w3 d Db w0.heap.size HR3.out HW3.out HT3.out HK.out.2.2).mono ?_
                rintro ee w4 ⟨t4, q4, e4, rfl, hs4, hr4, hx4⟩
                have HS4 : Hid (SK 4 g w3 w4) := Lib.hid hs4.out
                have HSW4 := Lib.hid (HSW3.out.trans hs4.out)
                have HR4 := Lib.hid hr4.out
                have HX4 : Hid ((symL d (numB p) (8 * p.length) q3 = .ok (t4, q4) ∧ e4 = 0) ∨ (symL d (numB p) (8 * p.length) q3 = .error e4 ∧ e4 ≠ 0)) := Lib.hid hx4
                have d64 := rd_e HR4.out
                clear hs4 hr4 hx4 d63
                rcases HX4.out with ⟨hl4, rfl⟩ | ⟨hl4, he4⟩
                · have H4 := Lib.hid (And.intro hl4 (Stb.symL d _ _ _ _ _ h8 H3.out.2.2.top hl4))
                  have HW4 := Lib.hid (HW3.out.sk HR3.out HS4.out)
                  clear HX4
                  go_wp2_with fail
                  refine (distance_calls w0 A c p most g q4 o1 w4 t4 HR4.out HW4.out (symL_le hl4 HK.out.2.2)).mono ?_
                  rintro ee w5 ⟨far, q5, e5, rfl, hs5, hr5, hx5⟩
                  have HS5 : Hid (SK 4 g w4 w5) := Lib.hid hs5.out
                  have HSW5 := Lib.hid (HSW4.out.trans hs5.out)
                  have HR5 := Lib.hid hr5.out
                  have HX5 : Hid ((disR t4 (numB p) (8 * p.length) q4 = .ok (far, q5) ∧ e5 = 0) ∨ (disR t4 (numB p) (8 * p.length) q4 = .error e5 ∧ e5 ≠ 0)) := Lib.hid hx5
                  clear hs5 hr5 hx5 d64 hl4
                  have HS15 := Lib.hid (HS2.out.trans (HS3.out.trans (HS4.out.trans HS5.out)))
                  rcases HX5.out with ⟨hl5, rfl⟩ | ⟨hl5, he5⟩
                  · have H5 := Lib.hid (And.intro hl5 (And.intro (disR_le hl5) (Stb.disR t4 _ _ _ _ _ h8 H4.out.2.top hl5)))
                    have HW5 := Lib.hid (HW4.out.sk HR4.out HS5.out)
                    clear HX5 hl5
                    go_wp2_with fail
                    refine (repeat_calls w0 A c p most g q5 o1 0 w5 n3 far HR5.out HW5.out H3.out.2.1 H5.out.2.1).mono ?_
                    rintro ee w6 ⟨o6, q6, e6, rfl, hs6, hr6, hx6⟩
                    have HS6 := Lib.hid (HS15.out.trans hs6.out)
                    have HSW6 := Lib.hid (HSW5.out.trans hs6.out)
                    have HR6 := Lib.hid hr6.out
                    have HX6 := Lib.hid ((hx6.resolve_left fun h => absurd rfl h.1).2)
                    clear hs6 hr6 hx6
                    go_wp2_with fail
                    go_roundg kk
                    case measure => omega
                    case rel =>
                      refine ⟨q6, o6, e6, Lib.hid ?_, Lib.hid (HLB1.out.sk HR1.out HS6.out), HSW6, HR6, Lib.hid (HTL.out.sk HR1.out HS6.out), Lib.hid (HTD.out.sk HR1.out HS6.out), Lib.hid ?_⟩
                      · intro h6
                        have h1 := HQ2.out
                        have h2 := H3.out.2.2.le
                        have h3 := H4.out.2.le
                        have h4 := H5.out.2.2.le
                        have h5 := HX2'.out.2
                        rcases rep_then HX6.out (cop_then (cop_ok H3.out.1 H4.out.1 H5.out.1) HH.out) with ⟨h, _⟩ | ⟨_, h, _⟩
                        · exact absurd h6 h
                        · omega
                      · have h1 := HK1.out
                        have h2 := H3.out.2.2.le
                        have h3 := H4.out.2.le
                        have h4 := H5.out.2.2.le
                        have h5 := HX2'.out.2
                        rcases rep_then HX6.out (cop_then (cop_ok H3.out.1 H4.out.1 H5.out.1) HH.out) with h | ⟨h, h', h6⟩
                        · exact .inl h
                        · exact .inr ⟨h, by omega, h6⟩
                  · clear HX5
                    go_wp2_with fail
                    refine (repeat_err w0 A c p most g q5 o1 e5 w5 n3 far HR5.out he5).mono ?_
                    rintro ee w6 ⟨rfl, rfl⟩
                    go_wp2_with fail
                    go_roundg kk
                    case measure => omega
                    case rel =>
                      exact ⟨q5, o1, e5, Lib.hid (fun h => absurd h he5), Lib.hid (HLB1.out.sk HR1.out HS15.out), HSW5, HR5, Lib.hid (HTL.out.sk HR1.out HS15.out), Lib.hid (HTD.out.sk HR1.out HS15.out), Lib.hid (.inl ⟨he5, (HH.out.symm.trans (bnd_err (bnd_err (cop_dis H3.out.1 H4.out.1 hl5))))⟩)⟩
                · have hbe : (e4 != 0) = true := by simpa using he4
                  go_wp2_with fail
                  exact hQ _ _ rfl ⟨o1, q4, e4, HSW4, HR4, .inr ⟨HH.out.symm.trans (bnd_err (bnd_err (cop_sym H3.out.1 hl4))), he4⟩⟩
              · have hbe : (e3 != 0) = true := by simpa using he3
                go_wp2_with fail
                exact hQ _ _ rfl ⟨o1, q3, e3, HSW3, HR3, .inr ⟨HH.out.symm.trans (bnd_err (bnd_err (cop_len hl3))), he3⟩⟩
        · have hbe : (e2 != 0) = true := by simpa using he
          have hres : res = .error e2 := by
            have hh := HX1.out
            unfold bndR symsO bndR at hh
            rw [hs] at hh
            exact hh.symm
          have hn0 : 0 < n := by
            have h1 : 2 * (8 * p.length + 1 - q) ≤ n := by first | exact HNL.out | exact HNL.out trivial
            have : q ≤ 8 * p.length := by
              obtain ⟨_, _, _, _, _, h1, h2, _⟩ := HR.out
              omega
            omega
          go_wp2_with fail
          go_step3
          show ∃ n', n' < n ∧ JJ w0 A c p most g Lb Db W res 0 n' _ w2
          exact ⟨_, (show ghost (8 * p.length) q2 e2 < n by rw [ghost, if_neg he]; exact hn0), .inl ⟨rfl, _, _, _, _, _, _, _, _, _, _, _, _, _, _, _, _, _, _, _, _, _, _, _, _, _, _, _, _, _, _, _, _, _, _, _, _, _, _, _, _, _, _, _, _, _, _, _, _, _, _, _, _, _, _, _, _, _, _, _, _, _, _, _, _, _, _, _, _, _, _, _, _, _, _, _, _, _, _, _, _, _, _, _, _, _, _, _, _, _, _, _, _, _, _, _, _, _, _, last, q2, o1, e2, rfl, rfl, HLB2, HSW2, HR2, Lib.hid (.inl ⟨he, hres⟩)⟩⟩
end Go.Proofs.YtkdklcamgcmifaaDoor

/-! HRunC: inflate's reader: run, whole. -/
namespace Go.Proofs.YtkdklcamgcmifaaDoor
set_option linter.unusedVariables false
set_option linter.unusedSimpArgs false
open Go.RowKit Go.Proofs.YtkdklcamgcmifaaDoorW.PrintWords Go.Proofs.YtkdklcamgcmifaaDoorW.PrintMore
attribute [local go_sem] jumps_normal jumps_exit jumps_ret jumps_panic jumps_goto
theorem fin_told {w0 W w' : World} {A : Option Addr} {c most g : Nat} {p : List Int} {res : Res} (h : Fin w0 A c p most g W res w') : ToldO w0 A c p most g W 0 res (.returned (.tuple #[])) w' := by
  obtain ⟨out, q, e, hs, hr, hx⟩ := h
  exact ⟨out, q, e, rfl, hs, hr, .inr ⟨rfl, hx⟩⟩
def tab0 : List Value := List.replicate 16 (.int .i64 0) ++ [.slice none 0 0]
theorem lbs_made (W : World) : Lbs W ((W.alloc (.cells tab0.toArray 59)).alloc (.cells tab0.toArray 59)) W.heap.size (W.heap.size + 1) := by
  refine ⟨⟨tab0, rfl, ?_⟩, ⟨tab0, rfl, ?_⟩, Nat.le_refl _, by omega⟩
  · refine (Below.heap_alloc _ _ _ (by simp)).trans ?_
    exact heap_alloc_new W _
  · have h := heap_alloc_new (W.alloc (.cells tab0.toArray 59)) (.cells tab0.toArray 59)
    rw [World.size_alloc] at h
    exact h
set_option maxRecDepth 8000 in
set_option maxHeartbeats 4000000 in
theorem run_calls (w0 : World) (A : Option Addr) (c : Nat) (p : List Int) (most g : Nat) (W : World) (hr : Rd w0 A c p most g 0 [] 0 W) (hw : Rw w0 A c p g W) :
    Calls Tryd.prog 28 #[.pointer (some ⟨g, 0, none⟩)] W fun ee w' => ToldO w0 A c p most g W 0 (runO most (8 * p.length + 1) (8 * p.length + 1) [] (numB p) (8 * p.length) 0) ee w' := by
  have HR := Lib.hid hr
  have HW := Lib.hid hw
  obtain ⟨res, hres⟩ : ∃ res, runO most (8 * p.length + 1) (8 * p.length + 1) [] (numB p) (8 * p.length) 0 = res := ⟨_, rfl⟩
  have HRES := Lib.hid hres
  rw [hres]
  clear hr hw hres
  go_enter Tryd.func28, Tryd.ntmps28
  refine wp_scope_g2 (fun l n a w => JJ w0 A c p most g W.heap.size (W.heap.size + 1) W res l n a w) ?_ ?_ ?_
  · rintro l n a w (⟨rfl, _⟩ | ⟨rfl, _⟩) <;> rfl
  · go_wp2_with fail
    go_step3
    rename_i K hK
    refine hK _ _ ?_
    have hh : ∀ n' a' w', JH w0 A c p most g W.heap.size (W.heap.size + 1) W res n' a' w' → headC.wp Tryd.prog (jumps (fun l a w => ∃ n, JJ w0 A c p most g W.heap.size (W.heap.size + 1) W res l n a w) (bodyPost Tryd.prog Tryd.f28 fun ee w' => ToldO w0 A c p most g W 0 res ee w')) a' w' := by
      intro n' a' w' h
      refine Code.wp_mono ?_ (head_pass w0 A c p most g _ _ W res n' (bodyPost Tryd.prog Tryd.f28 fun ee w' => ToldO w0 A c p most g W 0 res ee w') (fun a w hd hf => bodyPost_end (results_none rfl _ _ _) hd (fin_told hf)) (fun a w h' => loop_pass w0 A c p most g _ _ W res n' _ (fun a w hd hf => bodyPost_end (results_none rfl _ _ _) hd (fin_told hf)) a w HW.out HR.out h') a' w' HW.out HR.out h)
      intro e a w hq
      cases e with
      | goto l =>
        obtain ⟨n'', _, hj⟩ := hq
        exact ⟨n'', hj⟩
      | normal => exact hq
      | exit id => exact hq
      | ret => exact hq
      | panic ch => exact hq
      | outgrown => exact hq
    have hlt := HR.out.lt
    refine hh _ _ _ ⟨_, _, _, _, _, _, _, _, _, _, _, _, _, _, _, _, _, _, _, _, _, _, _, _, _, _, _, _, _, _, _, _, _, _, _, _, _, _, _, _, _, _, _, _, _, _, _, _, _, _, _, _, _, _, _, _, _, _, _, _, _, _, _, _, _, _, _, _, _, _, _, _, _, _, _, _, _, _, _, _, _, _, _, _, _, _, _, _, _, _, _, _, _, _, _, _, _, _, 0, 0, [], 0, rfl, rfl, Lib.hid (lbs_made W), Lib.hid (((SK.refl 4 g W).alloc hlt _).alloc (by simp; omega) _), Lib.hid (HR.out.below (((Below.refl _ _).alloc (Nat.le_refl _) _).alloc (by simp) _)), Lib.hid (.inr (.inr ⟨rfl, rfl, 8 * p.length + 1, by omega, HRES.out⟩))⟩
  · rintro l n a w (⟨rfl, h⟩ | ⟨rfl, h⟩)
    · show Code.wp _ (Code.seq .skip headC) _ _ _
      refine wp_seq (wp_skip ?_)
      exact head_pass w0 A c p most g _ _ W res n _ (fun a w hd hf => bodyPost_end (results_none rfl _ _ _) hd (fin_told hf)) (fun a' w' h' => loop_pass w0 A c p most g _ _ W res n _ (fun a w hd hf => bodyPost_end (results_none rfl _ _ _) hd (fin_told hf)) a' w' HW.out HR.out h') a w HW.out HR.out h
    · show Code.wp _ (Code.seq .skip stoC) _ _ _
      refine wp_seq (wp_skip ?_)
      exact sto_pass w0 A c p most g _ _ W res n _ a w HW.out HR.out h
end Go.Proofs.YtkdklcamgcmifaaDoor

/-! HInflate: inflate.Inflate. -/
namespace Go.Proofs.YtkdklcamgcmifaaDoor
set_option linter.unusedVariables false
set_option linter.unusedSimpArgs false
open Go.RowKit Go.Proofs.YtkdklcamgcmifaaDoorW.PrintWords Go.Proofs.YtkdklcamgcmifaaDoorW.PrintMore
/-- The table of the order, where the program keeps it. -/
def Ord (w : World) : Prop := ∀ j, j < 19 → w.cell? ⟨0, j, none⟩ = some (.int .i64 ((ordT.getD j 0 : Nat) : Int))
theorem Ord.lt {w : World} (h : Ord w) : 0 < w.heap.size := by
  have := h 0 (by decide)
  apply Nat.lt_of_not_le
  intro hn
  have h0 : w.heap[0]? = none := Array.getElem?_eq_none (by omega)
  simp [World.cell?, h0] at this
theorem Ord.below {w W : World} (h : Ord w) (hb : Below w.heap.size w W) : Ord W := fun j hj => (hb.cell (p := ⟨0, j, none⟩) h.lt).trans (h j hj)
/-- What Inflate tells: its bytes are new. -/
def InfT (w : World) (r : List Int × Int × Int) (ee : Ending) (w' : World) : Prop :=
  ∃ v, ee = .returned (.tuple #[v, .int .i64 r.2.1, .int .i64 r.2.2]) ∧ Hid (Bs 5 w' w.heap.size v r.1) ∧ Hid (Below w.heap.size w w')
def infR : Res → List Int × Int × Int
  | .ok (out, q) => (out, ((q + 7) / 8 : Nat), 0)
  | .error e => ([], 0, e)
theorem infF_eq (p : List Int) (m : Nat) (h : ¬ ((m : Int) < 0 ∨ 1048576 < (m : Int))) : infF p m = infR (runO m (8 * p.length + 1) (8 * p.length + 1) [] (numB p) (8 * p.length) 0) := by
  unfold infF
  rw [if_neg h, Int.toNat_natCast]
  unfold infR
  cases runO m (8 * p.length + 1) (8 * p.length + 1) [] (numB p) (8 * p.length) 0 with
  | ok x => rfl
  | error e => rfl
theorem rd_made (w : World) (A : Option Addr) (c : Nat) (p : List Int) (m : Nat) (hm : m ≤ 1048576) :
    Rd w A c p m w.heap.size 0 [] 0 (w.alloc (.cells #[.slice A p.length c, .int .i64 0, .int .u32 0, .int .i64 0, .slice none 0 0, .int .i64 m, .int .i64 0] 44)) := by
  refine ⟨0, 0, .slice none 0 0, ?_, own_nil _ _ _ _, by omega, by omega, by omega, fun _ => by omega, by omega, by simp, hm⟩
  rw [heap_alloc_new]
  simp [Nat.mod_one]
set_option maxRecDepth 8000 in
set_option maxHeartbeats 4000000 in
theorem inflate_calls (w : World) (A : Option Addr) (c : Nat) (p : List Int) (most : Int) (hrd : ReadsInt w .u8 A p.length p) (hby : ∀ x ∈ p, 0 ≤ x ∧ x < 256) (hcap : p.length ≤ c) (hlen : p.length ≤ 1048576) (hord : Ord w) :
    Calls Tryd.prog 13 #[.slice A p.length c, .int .i64 most] w fun ee w' => InfT w (infF p most) ee w' := by
  have HP := Lib.hid (And.intro hrd (And.intro hby (And.intro hcap (And.intro hlen hord))))
  clear hrd hby hcap hlen hord
  by_cases hm : most < 0 ∨ 1048576 < most
  · have hr : infF p most = ([], 0, 1) := by unfold infF; rw [if_pos hm]
    rw [hr]
    by_cases h0 : most < 0
    · go_enter Tryd.func13, Tryd.ntmps13
      go_wp2_with fail
      go_ret3
      exact ⟨_, rfl, Lib.hid (own_nil _ _ _ _), Lib.hid (Below.refl _ _)⟩
    · have h1 : 1048576 < most := by omega
      go_enter Tryd.func13, Tryd.ntmps13
      go_wp2_with fail
      go_ret3
      exact ⟨_, rfl, Lib.hid (own_nil _ _ _ _), Lib.hid (Below.refl _ _)⟩
  · obtain ⟨m, rfl⟩ : ∃ m : Nat, most = (m : Int) := ⟨most.toNat, by omega⟩
    have hm1 : ¬ (m : Int) < 0 := by omega
    have hm2 : ¬ (1048576 : Int) < (m : Int) := by omega
    obtain ⟨res, hres⟩ : ∃ res, runO m (8 * p.length + 1) (8 * p.length + 1) [] (numB p) (8 * p.length) 0 = res := ⟨_, rfl⟩
    have hr := infF_eq p m hm
    rw [hres] at hr
    have HR := Lib.hid hr
    have HRES := Lib.hid hres
    clear hr hres hm
    go_enter Tryd.func13, Tryd.ntmps13
    go_wp2_with fail
    have hb : Below w.heap.size w (w.alloc (.cells #[.slice A p.length c, .int .i64 0, .int .u32 0, .int .i64 0, .slice none 0 0, .int .i64 m, .int .i64 0] 44)) := (Below.refl _ _).alloc (Nat.le_refl _) _
    have hw : Rw w A c p w.heap.size (w.alloc (.cells #[.slice A p.length c, .int .i64 0, .int .u32 0, .int .i64 0, .slice none 0 0, .int .i64 m, .int .i64 0] 44)) :=
      ⟨Nat.le_refl _, HP.out.1, HP.out.2.1, HP.out.2.2.1, HP.out.2.2.2.1, hb, HP.out.2.2.2.2⟩
    have HW := Lib.hid hw
    have HRD := Lib.hid (rd_made w A c p m (by omega))
    clear hw hb
    refine (run_calls w A c p m w.heap.size _ HRD.out HW.out).mono ?_
    rintro ee w2 ⟨o2, q2, e2, rfl, hs2, hr2, hx2⟩
    have hB2 := HW.out.sk HRD.out hs2.out
    rw [HRES.out] at hx2
    have HB2 := Lib.hid hB2.below
    have hxx := (hx2.resolve_left fun h => absurd rfl h.1).2
    obtain ⟨a2, n2, v2, hb2, ho2, h1, h2, h3, h4, h5, h6, h7⟩ := hr2.out
    have HQ := Lib.hid (And.intro h1 h4)
    have c1 : w2.cell? ⟨w.heap.size, 1, none⟩ = some (.int .i64 a2) := blk_cell hb2 1
    have c4 : w2.cell? ⟨w.heap.size, 4, none⟩ = some v2 := blk_cell hb2 4
    have c6 : w2.cell? ⟨w.heap.size, 6, none⟩ = some (.int .i64 e2) := blk_cell hb2 6
    have HO := Lib.hid ho2
    clear hs2 hr2 hx2 hB2 hb2 ho2 h1 h2 h3 h4 h5 h6 h7
    rcases hxx with ⟨hx, rfl⟩ | ⟨hx, he⟩
    · have HRS : Hid (infF p (m : Int) = (o2, (((q2 + 7) / 8 : Nat) : Int), 0)) := Lib.hid (by rw [HR.out, hx]; rfl)
      have HA : Hid ((q2 + 7) / 8 = a2) := Lib.hid (by have h1 := HQ.out.1; have h2 := HQ.out.2 rfl; omega)
      clear hx
      go_wp2_with fail
      go_quiet (fail)
      go_wp2_with fail
      go_ret3
      unfold InfT
      rw [HRS.out, HA.out]
      exact ⟨v2, rfl, Lib.hid (own_move HO.out fun _ _ => rfl), Lib.hid (pw_below_drewN HB2.out _)⟩
    · have HRS : Hid (infF p (m : Int) = ([], 0, e2)) := Lib.hid (by rw [HR.out, hx]; rfl)
      clear hx
      have hbe : (e2 != 0) = true := by simpa using he
      go_wp2_with fail
      go_quiet (fail)
      go_wp2_with fail
      go_ret3
      unfold InfT
      rw [HRS.out]
      exact ⟨_, rfl, Lib.hid (own_nil _ _ _ _), Lib.hid (pw_below_drewN HB2.out _)⟩
end Go.Proofs.YtkdklcamgcmifaaDoor

