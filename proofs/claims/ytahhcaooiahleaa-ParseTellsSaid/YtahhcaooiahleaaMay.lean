/- Settings that may be; the coder, made. -/
import Derived.Test.YtahhcaooiahleaaProbs2
namespace Go.Proofs.Ytahhcaooiahleaa
open Go Go.RowKit

theorem ret_bool {a b : Bool} (h : a = b) : Ending.returned (.bool a) = .returned (.bool b) := by rw [h]

/-- May a setting be? -/
def mayB (a b c d : Int) : Bool := decide (0 ≤ a) && decide (a ≤ 8) && decide (0 ≤ b) && decide (b ≤ 4) && decide (0 ≤ c) && decide (c ≤ 4) && decide (4096 ≤ d) && decide (d ≤ 4294967295)

set_option maxRecDepth 100000 in
set_option maxHeartbeats 1000000 in
theorem lzma_May (a b c d : Int) (w : World) :
    Calls Try.prog 41 #[.agg #[.int .i64 a, .int .i64 b, .int .i64 c, .int .i64 d]] w fun e w' => e = .returned (.bool (mayB a b c d)) ∧ Kept (fun _ _ => False) w w' := by
  by_cases h0 : 0 ≤ a
  rotate_left
  · have d0 : decide (0 ≤ a) = false := decide_eq_false h0
    clear h0
    go_enter Try.func41, Try.ntmps41
    go_wp2
    go_ret
    exact ⟨ret_bool (by simp [mayB, d0]), (Kept.refl _ _).alloc _⟩
  have d0 : decide (0 ≤ a) = true := decide_eq_true h0
  clear h0
  by_cases h1 : a ≤ 8
  rotate_left
  · have d1 : decide (a ≤ 8) = false := decide_eq_false h1
    clear h1
    go_enter Try.func41, Try.ntmps41
    go_wp2
    go_ret
    exact ⟨ret_bool (by simp [mayB, d0, d1]), (Kept.refl _ _).alloc _⟩
  have d1 : decide (a ≤ 8) = true := decide_eq_true h1
  clear h1
  by_cases h2 : 0 ≤ b
  rotate_left
  · have d2 : decide (0 ≤ b) = false := decide_eq_false h2
    clear h2
    go_enter Try.func41, Try.ntmps41
    go_wp2
    go_ret
    exact ⟨ret_bool (by simp [mayB, d0, d1, d2]), (Kept.refl _ _).alloc _⟩
  have d2 : decide (0 ≤ b) = true := decide_eq_true h2
  clear h2
  by_cases h3 : b ≤ 4
  rotate_left
  · have d3 : decide (b ≤ 4) = false := decide_eq_false h3
    clear h3
    go_enter Try.func41, Try.ntmps41
    go_wp2
    go_ret
    exact ⟨ret_bool (by simp [mayB, d0, d1, d2, d3]), (Kept.refl _ _).alloc _⟩
  have d3 : decide (b ≤ 4) = true := decide_eq_true h3
  clear h3
  by_cases h4 : 0 ≤ c
  rotate_left
  · have d4 : decide (0 ≤ c) = false := decide_eq_false h4
    clear h4
    go_enter Try.func41, Try.ntmps41
    go_wp2
    go_ret
    exact ⟨ret_bool (by simp [mayB, d0, d1, d2, d3, d4]), (Kept.refl _ _).alloc _⟩
  have d4 : decide (0 ≤ c) = true := decide_eq_true h4
  clear h4
  by_cases h5 : c ≤ 4
  rotate_left
  · have d5 : decide (c ≤ 4) = false := decide_eq_false h5
    clear h5
    go_enter Try.func41, Try.ntmps41
    go_wp2
    go_ret
    exact ⟨ret_bool (by simp [mayB, d0, d1, d2, d3, d4, d5]), (Kept.refl _ _).alloc _⟩
  have d5 : decide (c ≤ 4) = true := decide_eq_true h5
  clear h5
  by_cases h6 : 4096 ≤ d
  rotate_left
  · have d6 : decide (4096 ≤ d) = false := decide_eq_false h6
    clear h6
    go_enter Try.func41, Try.ntmps41
    go_wp2
    go_ret
    exact ⟨ret_bool (by simp [mayB, d0, d1, d2, d3, d4, d5, d6]), (Kept.refl _ _).alloc _⟩
  have d6 : decide (4096 ≤ d) = true := decide_eq_true h6
  clear h6
  by_cases h7 : d ≤ 4294967295
  rotate_left
  · have d7 : decide (d ≤ 4294967295) = false := decide_eq_false h7
    clear h7
    go_enter Try.func41, Try.ntmps41
    go_wp2
    go_ret
    exact ⟨ret_bool (by simp [mayB, d0, d1, d2, d3, d4, d5, d6, d7]), (Kept.refl _ _).alloc _⟩
  have d7 : decide (d ≤ 4294967295) = true := decide_eq_true h7
  clear h7
  go_enter Try.func41, Try.ntmps41
  go_wp2
  go_ret
  exact ⟨ret_bool (by simp [mayB, d0, d1, d2, d3, d4, d5, d6, d7]), (Kept.refl _ _).alloc _⟩

set_option maxRecDepth 100000 in
set_option maxHeartbeats 1000000 in
theorem ref08_May (a b c d : Int) (w : World) :
    Calls Try.prog 15 #[.agg #[.int .i64 a, .int .i64 b, .int .i64 c, .int .i64 d]] w fun e w' => e = .returned (.bool (mayB a b c d)) ∧ Kept (fun _ _ => False) w w' := by
  by_cases h0 : 0 ≤ a
  rotate_left
  · have d0 : decide (0 ≤ a) = false := decide_eq_false h0
    clear h0
    go_enter Try.func15, Try.ntmps15
    go_wp2
    go_ret
    exact ⟨ret_bool (by simp [mayB, d0]), (Kept.refl _ _).alloc _⟩
  have d0 : decide (0 ≤ a) = true := decide_eq_true h0
  clear h0
  by_cases h1 : a ≤ 8
  rotate_left
  · have d1 : decide (a ≤ 8) = false := decide_eq_false h1
    clear h1
    go_enter Try.func15, Try.ntmps15
    go_wp2
    go_ret
    exact ⟨ret_bool (by simp [mayB, d0, d1]), (Kept.refl _ _).alloc _⟩
  have d1 : decide (a ≤ 8) = true := decide_eq_true h1
  clear h1
  by_cases h2 : 0 ≤ b
  rotate_left
  · have d2 : decide (0 ≤ b) = false := decide_eq_false h2
    clear h2
    go_enter Try.func15, Try.ntmps15
    go_wp2
    go_ret
    exact ⟨ret_bool (by simp [mayB, d0, d1, d2]), (Kept.refl _ _).alloc _⟩
  have d2 : decide (0 ≤ b) = true := decide_eq_true h2
  clear h2
  by_cases h3 : b ≤ 4
  rotate_left
  · have d3 : decide (b ≤ 4) = false := decide_eq_false h3
    clear h3
    go_enter Try.func15, Try.ntmps15
    go_wp2
    go_ret
    exact ⟨ret_bool (by simp [mayB, d0, d1, d2, d3]), (Kept.refl _ _).alloc _⟩
  have d3 : decide (b ≤ 4) = true := decide_eq_true h3
  clear h3
  by_cases h4 : 0 ≤ c
  rotate_left
  · have d4 : decide (0 ≤ c) = false := decide_eq_false h4
    clear h4
    go_enter Try.func15, Try.ntmps15
    go_wp2
    go_ret
    exact ⟨ret_bool (by simp [mayB, d0, d1, d2, d3, d4]), (Kept.refl _ _).alloc _⟩
  have d4 : decide (0 ≤ c) = true := decide_eq_true h4
  clear h4
  by_cases h5 : c ≤ 4
  rotate_left
  · have d5 : decide (c ≤ 4) = false := decide_eq_false h5
    clear h5
    go_enter Try.func15, Try.ntmps15
    go_wp2
    go_ret
    exact ⟨ret_bool (by simp [mayB, d0, d1, d2, d3, d4, d5]), (Kept.refl _ _).alloc _⟩
  have d5 : decide (c ≤ 4) = true := decide_eq_true h5
  clear h5
  by_cases h6 : 4096 ≤ d
  rotate_left
  · have d6 : decide (4096 ≤ d) = false := decide_eq_false h6
    clear h6
    go_enter Try.func15, Try.ntmps15
    go_wp2
    go_ret
    exact ⟨ret_bool (by simp [mayB, d0, d1, d2, d3, d4, d5, d6]), (Kept.refl _ _).alloc _⟩
  have d6 : decide (4096 ≤ d) = true := decide_eq_true h6
  clear h6
  by_cases h7 : d ≤ 4294967295
  rotate_left
  · have d7 : decide (d ≤ 4294967295) = false := decide_eq_false h7
    clear h7
    go_enter Try.func15, Try.ntmps15
    go_wp2
    go_ret
    exact ⟨ret_bool (by simp [mayB, d0, d1, d2, d3, d4, d5, d6, d7]), (Kept.refl _ _).alloc _⟩
  have d7 : decide (d ≤ 4294967295) = true := decide_eq_true h7
  clear h7
  go_enter Try.func15, Try.ntmps15
  go_wp2
  go_ret
  exact ⟨ret_bool (by simp [mayB, d0, d1, d2, d3, d4, d5, d6, d7]), (Kept.refl _ _).alloc _⟩

end Go.Proofs.Ytahhcaooiahleaa
