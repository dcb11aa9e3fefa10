/- diff and its document at lists that are too long; DocWay, DocRest. -/
import Derived.Test.YtanfodjjfajobaaHRefWay
namespace Go.Proofs.Ytanfodjjfajobaa
set_option linter.unusedVariables false
set_option linter.unusedSimpArgs false
open Go.RowKit Go.Proofs.YtanfodjjfajobaaW.PrintWords Go.Proofs.YtanfodjjfajobaaW.PrintMore
set_option maxHeartbeats 2000000 in
theorem lay_long (w : World) (A : Option Addr) (ca n : Nat) (B : Option Addr) (cb m : Nat) (h : 1000 < n ∨ 1000 < m) (hn : n ≤ 9223372036854775807) (hm : m ≤ 9223372036854775807) :
    Calls Try.prog 26 #[.slice A n ca, .slice B m cb] w fun e w' => e = .returned (.tuple #[.pointer none, .int .i64 2]) ∧ w' = w := by
  by_cases h1 : 1000 < n
  · have g1 : (n : Int) > 1000 := by omega
    clear h
    go_enter Try.func26, Try.ntmps26
    go_wp2_with fail
    go_ret2
    exact ⟨rfl, rfl⟩
  · have g1 : ¬ (n : Int) > 1000 := by omega
    have g2 : (m : Int) > 1000 := by omega
    clear h
    go_enter Try.func26, Try.ntmps26
    go_wp2_with fail
    go_ret2
    exact ⟨rfl, rfl⟩
set_option maxHeartbeats 2000000 in
theorem way_long (w : World) (A : Option Addr) (ca n : Nat) (B : Option Addr) (cb m : Nat) (h : 1000 < n ∨ 1000 < m) (hn : n ≤ 9223372036854775807) (hm : m ≤ 9223372036854775807) :
    Calls Try.prog 9 #[.slice A n ca, .slice B m cb] w fun e w' => e = .returned (.tuple #[.slice none 0 0, .int .i64 2]) ∧ w' = w := by
  have HL := Lib.hid (lay_long w A ca n B cb m h hn hm)
  clear h
  go_enter Try.func9, Try.ntmps9
  go_wp2_with fail
  refine HL.out.mono ?_
  rintro e w1 ⟨rfl, rfl⟩
  go_wp2_with fail
  go_ret2
  exact ⟨rfl, rfl⟩
set_option maxHeartbeats 2000000 in
theorem rest_long (w : World) (A : Option Addr) (ca n : Nat) (B : Option Addr) (cb m : Nat) (h : 1000 < n ∨ 1000 < m) (hn : n ≤ 9223372036854775807) (hm : m ≤ 9223372036854775807) :
    Calls Try.prog 10 #[.slice A n ca, .slice B m cb] w fun e w' => e = .returned (.tuple #[.int .i64 0, .int .i64 2]) ∧ w' = w := by
  have HL := Lib.hid (lay_long w A ca n B cb m h hn hm)
  clear h
  go_enter Try.func10, Try.ntmps10
  go_wp2_with fail
  refine HL.out.mono ?_
  rintro e w1 ⟨rfl, rfl⟩
  go_wp2_with fail
  go_ret2
  exact ⟨rfl, rfl⟩
set_option maxHeartbeats 2000000 in
theorem long_yes (w : World) (A : Option Addr) (ca n : Nat) (B : Option Addr) (cb m : Nat) (h : 1000 < n ∨ 1000 < m) :
    Calls Try.prog 29 #[.slice A n ca, .slice B m cb] w fun e w' => e = .returned (.bool true) ∧ w' = w := by
  by_cases h1 : 1000 < n
  · have g1 : (n : Int) > 1000 := by omega
    clear h
    go_enter Try.func29, Try.ntmps29
    go_wp2_with fail
    go_ret
    exact ⟨rfl, rfl⟩
  · have g1 : ¬ (n : Int) > 1000 := by omega
    have g2 : (m : Int) > 1000 := by omega
    clear h
    go_enter Try.func29, Try.ntmps29
    go_wp2_with fail
    go_ret
    exact ⟨rfl, rfl⟩
set_option maxHeartbeats 2000000 in
theorem long_no (w : World) (A : Option Addr) (ca n : Nat) (B : Option Addr) (cb m : Nat) (h1 : n ≤ 1000) (h2 : m ≤ 1000) :
    Calls Try.prog 29 #[.slice A n ca, .slice B m cb] w fun e w' => e = .returned (.bool false) ∧ w' = w := by
  have g1 : ¬ (n : Int) > 1000 := by omega
  have g2 : ¬ (m : Int) > 1000 := by omega
  go_enter Try.func29, Try.ntmps29
  go_wp2_with fail
  go_ret
  exact ⟨rfl, rfl⟩
set_option maxHeartbeats 2000000 in
theorem docWay_calls (w : World) (A : Option Addr) (ca : Nat) (a : List ByteArray) (B : Option Addr) (cb : Nat) (b : List ByteArray) (hla : ReadsOf Value.string ByteArray.empty w A a.length a) (hlb : ReadsOf Value.string ByteArray.empty w B b.length b)
    (hna : a.length ≤ 60) (hnb : b.length ≤ 60) :
    Calls Try.prog 13 #[.slice A a.length ca, .slice B b.length cb] w fun e w' => ∃ v, e = .returned (.tuple #[v, .int .i64 0]) ∧ w'.ownsRow w.heap.size 30 1 v (wayP a b).length (encs pt (wayP a b)) ∧ Below w.heap.size w w' := by
  have HN := Lib.hid (long_no w A ca a.length B cb b.length (by omega) (by omega))
  have HW := Lib.hid (refWay_calls w A ca a B cb b hla hlb hna hnb)
  clear hla hlb
  go_enter Try.func13, Try.ntmps13
  go_wp2_with fail
  refine HN.out.mono ?_
  rintro e w1 ⟨rfl, rfl⟩
  go_wp2_with fail
  refine HW.out.mono ?_
  rintro e w2 ⟨v, rfl, hv, hb⟩
  have HV := Lib.hid hv
  have HB := Lib.hid hb
  clear hv hb
  go_wp2_with fail
  go_ret2
  exact ⟨v, rfl, HV.out, HB.out⟩
set_option maxHeartbeats 2000000 in
theorem docWay_long (w : World) (A : Option Addr) (ca n : Nat) (B : Option Addr) (cb m : Nat) (h : 1000 < n ∨ 1000 < m) :
    Calls Try.prog 13 #[.slice A n ca, .slice B m cb] w fun e w' => e = .returned (.tuple #[.slice none 0 0, .int .i64 2]) ∧ w' = w := by
  have HN := Lib.hid (long_yes w A ca n B cb m h)
  clear h
  go_enter Try.func13, Try.ntmps13
  go_wp2_with fail
  refine HN.out.mono ?_
  rintro e w1 ⟨rfl, rfl⟩
  go_wp2_with fail
  go_ret2
  exact ⟨rfl, rfl⟩
set_option maxHeartbeats 2000000 in
theorem docRest_long (w : World) (A : Option Addr) (ca n : Nat) (B : Option Addr) (cb m : Nat) (h : 1000 < n ∨ 1000 < m) :
    Calls Try.prog 15 #[.slice A n ca, .slice B m cb] w fun e w' => e = .returned (.tuple #[.int .i64 0, .int .i64 2]) ∧ w' = w := by
  have HN := Lib.hid (long_yes w A ca n B cb m h)
  clear h
  go_enter Try.func15, Try.ntmps15
  go_wp2_with fail
  refine HN.out.mono ?_
  rintro e w1 ⟨rfl, rfl⟩
  go_wp2_with fail
  go_ret2
  exact ⟨rfl, rfl⟩
set_option maxHeartbeats 2000000 in
theorem docRest_calls (w : World) (A : Option Addr) (ca : Nat) (a : List ByteArray) (B : Option Addr) (cb : Nat) (b : List ByteArray) (hla : ReadsOf Value.string ByteArray.empty w A a.length a) (hlb : ReadsOf Value.string ByteArray.empty w B b.length b)
    (hna : a.length ≤ 60) (hnb : b.length ≤ 60) :
    Calls Try.prog 15 #[.slice A a.length ca, .slice B b.length cb] w fun e w' => e = .returned (.tuple #[.int .i64 (dist (txs a) (txs b) : Int), .int .i64 0]) ∧ Below w.heap.size w w' := by
  have HN := Lib.hid (long_no w A ca a.length B cb b.length (by omega) (by omega))
  have HR := Lib.hid (rests_calls w A ca a B cb b hla hlb hna hnb)
  obtain ⟨d, hd⟩ : ∃ d, d = dist (txs a) (txs b) := ⟨_, rfl⟩
  rw [← hd]
  have HD := Lib.hid hd
  clear hla hlb hd
  go_enter Try.func15, Try.ntmps15
  go_wp2_with fail
  refine HN.out.mono ?_
  rintro e w1 ⟨rfl, rfl⟩
  go_wp2_with fail
  refine HR.out.mono ?_
  rintro e w2 ⟨R, rfl, hrt, hok⟩
  have o1 := hrt.outer 0 (by omega) (by omega)
  have q1 := (hrt.inner 0 0 (by omega) (by omega) (by omega)).1
  rw [hok 0 0 (by omega) (by omega) (.inr ⟨rfl, Nat.le_refl _⟩), show dd a b 0 0 = d from by rw [HD.out]; rfl] at q1
  have HB := Lib.hid hrt.below
  have i0 : (0 : Int) < (a.length : Int) + 1 := by omega
  have i1 : (0 : Int) < (b.length : Int) + 1 := by omega
  clear hrt hok
  generalize w1.heap.size + 1 + a.length - 0 = gx at o1 q1
  go_wp2_with fail
  go_ret2
  exact ⟨rfl, HB.out⟩
end Go.Proofs.Ytanfodjjfajobaa
