/- Words for the walk of DiffShortest. -/
import Derived.Test.YtanfodjjfajobaaHShort
import Derived.Laws.BitsAllLaws
import Derived.Laws.BitsLemmas
namespace Go.Proofs.Ytanfodjjfajobaa
set_option linter.unusedVariables false
set_option linter.unusedSimpArgs false
open Go.RowKit Go.Proofs.YtanfodjjfajobaaW.PrintWords Go.Proofs.YtanfodjjfajobaaW.PrintMore
theorem fl_sub1 : ∀ n : Fin 62, floatBits .sub .f64 (fl (n.val + 1)) (fl n.val) = some 4607182418800017408 := by decide +kernel
theorem fl_sub0 : ∀ n : Fin 62, floatBits .sub .f64 (fl n.val) (fl n.val) = some 0 := by decide +kernel
theorem fl_sub (z t : Nat) (hz : z ≤ 60) (ht : t ≤ 1) : floatBits .sub .f64 (fl (z + t)) (fl z) = some (fl t) := by
  rcases t with _ | _ | t
  · rw [fl_0]; exact fl_sub0 ⟨z, by omega⟩
  · rw [fl_1]; exact fl_sub1 ⟨z, by omega⟩
  · omega
theorem cx_sub (x y u v : Nat) (hx : x ≤ 60) (hy : y ≤ 60) (hu : u ≤ 1) (hv : v ≤ 1) (w : World) : (binOp .sub 30 (.complex .f64 (fl (x + u)) (fl (y + v))) (.complex .f64 (fl x) (fl y))).run Try.prog w = .ok (.complex .f64 (fl u) (fl v)) w := by
  refine run_complex_sum w .sub (.inr rfl) 30 .f64 _ _ _ _ _ _ ?_
  unfold cSumBits
  rw [fl_sub x u hx hu, fl_sub y v hy hv]
  rfl
theorem way_last (a b : List ByteArray) : ∀ (k x y : Nat), a.length + b.length - (x + y) = k → x ≤ a.length → y ≤ b.length → ∀ d, ((x, y) :: wayW a b x y).getD (wayW a b x y).length d = (a.length, b.length) := by
  intro k
  induction k using Nat.strongRecOn with
  | _ k ih =>
    intro x y hk hx hy d
    by_cases h : x = a.length ∧ y = b.length
    · rw [h.1, h.2, wayW_end]
      rfl
    · have hin := stepD_in hx hy h
      rw [wayW_go hx hy h]
      have := ih _ (by omega) (x + (stepD a b x y).1) (y + (stepD a b x y).2) rfl hin.1 hin.2.1 d
      simpa using this
theorem way_len (a b : List ByteArray) : ∀ (k x y : Nat), a.length + b.length - (x + y) = k → x ≤ a.length → y ≤ b.length → (wayW a b x y).length ≤ k := by
  intro k
  induction k using Nat.strongRecOn with
  | _ k ih =>
    intro x y hk hx hy
    by_cases h : x = a.length ∧ y = b.length
    · rw [h.1, h.2, wayW_end]
      simp
    · have hin := stepD_in hx hy h
      rw [wayW_go hx hy h]
      have := ih _ (by omega) (x + (stepD a b x y).1) (y + (stepD a b x y).2) rfl hin.1 hin.2.1
      simp only [List.length_cons]
      omega
theorem and_one (v : Nat) (hv : v < 1099511627776) : bits .and .i64 (v : Int) 1 = ((v % 2 : Nat) : Int) := by
  have h := bits_mask .i64 40 (by decide) (fun n h0 h1 => by rw [IntKind.wrap_i64]; omega) 1 (by omega) (v : Int) (by omega) (by omega)
  simpa using h
theorem sel_skip {α : Type} {k : Nat} {s : α} {r : List α} (h : k % 2 = 0) : selF k (s :: r) = selF (k / 2) r := by rw [selF, if_neg (by omega)]
theorem sel_take {α : Type} {k : Nat} {s : α} {r : List α} (h : k % 2 = 1) : selF k (s :: r) = s :: selF (k / 2) r := by rw [selF, if_pos h]
theorem txs_drop (l : List ByteArray) (i : Nat) (h : i < l.length) : (txs l).drop i = tx (l.getD i ByteArray.empty) :: (txs l).drop (i + 1) := by
  rw [List.drop_eq_getElem_cons (by simpa [txs] using h)]
  simp [txs, List.getD_eq_getElem?_getD, List.getElem?_eq_getElem h]
theorem tx_inj {s t : ByteArray} (h : tx s = tx t) : s = t := by
  cases s; cases t
  simp [tx] at h
  simp [h]
end Go.Proofs.Ytanfodjjfajobaa
