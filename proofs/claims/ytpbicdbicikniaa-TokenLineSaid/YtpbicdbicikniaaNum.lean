/- Contracts of the small functions on numbers. -/
import Derived.Test.YtpbicdbicikniaaBase
namespace Go.Proofs.Ytpbicdbicikniaa
open Go.RowKit
set_option linter.unusedVariables false

theorem ret_int {k : IntKind} {a b : Int} (h : a = b) : Ending.returned (.int k a) = .returned (.int k b) := by rw [h]
theorem ret_bool {a b : Bool} (h : a = b) : Ending.returned (.bool a) = .returned (.bool b) := by rw [h]

def clampZ (x lo hi : Int) : Int := if hi < lo then lo else min (max x lo) hi
def fitZ (x : Int) : Int := min (max x 0) 4611686018427387904

def inB (x lo hi : Int) : Bool := decide (lo ≤ x) && decide (x ≤ hi)
def newerB (a b c d : Int) : Bool := decide (c < a) || (decide (a = c) && decide (d < b))
def majZ (n : Int) : Int := if n < 1 then 0 else n / 2 + 1
def rightKeyB (k : Int) : Bool := decide (0 ≤ k) && decide (k < 524288)
def rightB (n : Int) : Bool := decide (1 ≤ n) && decide (n ≤ 64)

set_option maxHeartbeats 400000 in
theorem clamp_c (x lo hi : Int) (w : World) :
    Calls Try.prog 96 #[.int .i64 x, .int .i64 lo, .int .i64 hi] w fun e w' => e = .returned (.int .i64 (clampZ x lo hi)) ∧ w = w' := by
  go_enter Try.func96, Try.ntmps96
  go_wp2
  all_goals go_ret
  all_goals exact ⟨ret_int (by unfold clampZ; first | omega | (split <;> omega)), rfl⟩

set_option maxHeartbeats 400000 in
theorem fit_c (x : Int) (w : World) :
    Calls Try.prog 54 #[.int .i64 x] w fun e w' => e = .returned (.int .i64 (fitZ x)) ∧ w = w' := by
  go_enter Try.func54, Try.ntmps54
  go_wp2_with (go_at_call 96; refine (clamp_c _ _ _ _).mono ?_; rintro e w' ⟨rfl, rfl⟩)
  go_ret
  exact ⟨ret_int (by unfold clampZ fitZ; rfl), rfl⟩

set_option maxHeartbeats 400000 in
theorem in_c (x lo hi : Int) (w : World) :
    Calls Try.prog 85 #[.int .i64 x, .int .i64 lo, .int .i64 hi] w fun e w' => e = .returned (.bool (inB x lo hi)) ∧ w = w' := by
  go_enter Try.func85, Try.ntmps85
  go_wp2
  all_goals go_ret
  all_goals exact ⟨ret_bool (by unfold inB; simp [*]; try omega), rfl⟩

theorem in_eq {b : Bool} {x lo hi : Int} (h : inB x lo hi = b) (w : World) :
    Calls Try.prog 85 #[.int .i64 x, .int .i64 lo, .int .i64 hi] w fun e w' => e = .returned (.bool b) ∧ w = w' := by
  subst h; exact in_c x lo hi w

set_option maxHeartbeats 400000 in
theorem rin_c (x lo hi : Int) (w : World) :
    Calls Try.prog 87 #[.int .i64 x, .int .i64 lo, .int .i64 hi] w fun e w' => e = .returned (.bool (inB x lo hi)) ∧ w = w' := by
  go_enter Try.func87, Try.ntmps87
  go_wp2
  all_goals go_ret
  all_goals exact ⟨ret_bool (by unfold inB; simp [*]; try omega), rfl⟩

set_option maxHeartbeats 400000 in
theorem right_c (n : Int) (w : World) :
    Calls Try.prog 52 #[.int .i64 n] w fun e w' => e = .returned (.bool (rightB n)) ∧ w = w' := by
  go_enter Try.func52, Try.ntmps52
  go_wp2
  all_goals go_ret
  all_goals exact ⟨ret_bool (by unfold rightB; simp [*]; try omega), rfl⟩

set_option maxHeartbeats 400000 in
theorem keyRight_c (n : Int) (w : World) :
    Calls Try.prog 122 #[.int .i64 n] w fun e w' => e = .returned (.bool (rightKeyB n)) ∧ w = w' := by
  go_enter Try.func122, Try.ntmps122
  go_wp2
  all_goals go_ret
  all_goals exact ⟨ret_bool (by unfold rightKeyB; simp [*]; try omega), rfl⟩

set_option maxHeartbeats 400000 in
theorem rkeyRight_c (n : Int) (w : World) :
    Calls Try.prog 149 #[.int .i64 n] w fun e w' => e = .returned (.bool (rightKeyB n)) ∧ w = w' := by
  go_enter Try.func149, Try.ntmps149
  go_wp2
  all_goals go_ret
  all_goals exact ⟨ret_bool (by unfold rightKeyB; simp [*]; try omega), rfl⟩

set_option maxHeartbeats 400000 in
theorem maj_c (n : Int) (hn : I64 n) (w : World) :
    Calls Try.prog 20 #[.int .i64 n] w fun e w' => e = .returned (.int .i64 (majZ n)) ∧ w = w' := by
  obtain ⟨h1, h2⟩ := hn
  by_cases h : n < 1
  · go_enter Try.func20, Try.ntmps20
    go_wp2
    go_ret
    exact ⟨ret_int (by unfold majZ; rw [if_pos h]), rfl⟩
  · go_enter Try.func20, Try.ntmps20
    go_wp2
    go_ret
    exact ⟨ret_int (by unfold majZ; rw [if_neg (by omega)]), rfl⟩

set_option maxHeartbeats 400000 in
theorem newer_c (a b c d : Int) (w : World) :
    Calls Try.prog 11 #[.agg #[.int .i64 a, .int .i64 b], .agg #[.int .i64 c, .int .i64 d]] w fun e w' => e = .returned (.bool (newerB a b c d)) ∧ Below w.heap.size w w' := by
  go_enter Try.func11, Try.ntmps11
  go_wp2
  all_goals go_ret
  all_goals exact ⟨ret_bool (by unfold newerB; first | (simp_all; done) | (simp_all; omega)), (by repeat (with_reducible first | assumption | exact Below.refl _ _ | apply bel_alloc | apply bel_drew | apply bel_drewN | (refine bel_set ?_ (by simp; try omega) _)))⟩
set_option maxHeartbeats 400000 in
theorem at_c (g h st : Int) (sv rv : Value) (w : World) :
    Calls Try.prog 16 #[.agg #[.int .i64 g, .int .i64 h, sv, .int .i64 st, rv]] w fun e w' => e = .returned (.agg #[.int .i64 g, .int .i64 h]) ∧ Below w.heap.size w w' := by
  go_enter Try.func16, Try.ntmps16
  go_wp2
  exact bodyPost_ret (v := .agg #[.int .i64 g, .int .i64 h]) (by simp [results, Try.results16, go_sem]) rfl ⟨rfl, (by repeat (with_reducible first | assumption | exact Below.refl _ _ | apply bel_alloc | apply bel_drew | apply bel_drewN | (refine bel_set ?_ (by simp; try omega) _)))⟩
end Go.Proofs.Ytpbicdbicikniaa
