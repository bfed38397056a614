/- ring sets: All, Has, Count. -/
import Derived.Test.YtpbicdbicikniaaNum
import Derived.Laws.BitsAllLaws
import Derived.Laws.Bits128
import Derived.Test.YtpbicdbicikniaaPop
namespace Go.Proofs.Ytpbicdbicikniaa
open Go.RowKit
set_option linter.unusedVariables false
set_option maxRecDepth 100000

theorem ret_u64 {a b : Int} (h : a = b) : Ending.returned (.int .u64 a) = .returned (.int .u64 b) := by rw [h]
theorem pow_lt64 {n : Nat} (h : n < 64) : 2 ^ n < 18446744073709551616 := Nat.pow_lt_pow_right (by decide) h
theorem pow_le64 {n : Nat} (h : n ≤ 64) : 2 ^ n ≤ 18446744073709551616 := Nat.pow_le_pow_right (by decide) h
theorem all_val (n : Nat) (h1 : 1 ≤ n) (h2 : n ≤ 64) : (18446744073709551615 : Int) / 2 ^ (64 - n) = ((2 ^ n - 1 : Nat) : Int) := by
  have hp : 2 ^ n * 2 ^ (64 - n) = 18446744073709551616 := by rw [← Nat.pow_add]; rw [show n + (64 - n) = 64 by omega]
  have h0 : 0 < 2 ^ (64 - n) := Nat.two_pow_pos _
  have hn : 0 < 2 ^ n := Nat.two_pow_pos _
  have e2 : (2 : Int) ^ (64 - n) = ((2 ^ (64 - n) : Nat) : Int) := by rw [Int.natCast_pow]; rfl
  rw [e2]
  generalize 2 ^ (64 - n) = q at *
  generalize 2 ^ n = p at *
  have e3 : (18446744073709551615 : Int) / (q : Int) = ((18446744073709551615 / q : Nat) : Int) := by rw [Int.natCast_ediv]; rfl
  rw [e3]
  congr 1
  refine Nat.div_eq_of_lt_le ?_ ?_
  · rw [Nat.sub_mul]; omega
  · rw [show p - 1 + 1 = p from by omega, hp]; omega
theorem one_val (n : Nat) (h : n < 64) : IntKind.u64.wrap (2 ^ n) = ((2 ^ n : Nat) : Int) := by
  rw [IntKind.wrap_u64]
  have h1 := pow_lt64 h
  have e : (2 : Int) ^ n = ((2 ^ n : Nat) : Int) := by rw [Int.natCast_pow]; rfl
  rw [e]
  generalize 2 ^ n = p at *
  omega
theorem has_nat (x n : Nat) : decide (x &&& 2 ^ n ≠ 0) = x.testBit n := by
  cases h : x.testBit n with
  | true =>
    have : (x &&& 2 ^ n).testBit n = true := by rw [Nat.testBit_and, h, Nat.testBit_two_pow_self]; rfl
    simp only [decide_eq_true_eq]
    intro e
    rw [e] at this
    simp at this
  | false =>
    have : x &&& 2 ^ n = 0 := by
      apply Nat.eq_of_testBit_eq
      intro i
      rw [Nat.testBit_and, Nat.zero_testBit, Nat.testBit_two_pow]
      by_cases e : n = i
      · subst e; rw [h]; rfl
      · simp [e]
    simp [this]
theorem has_val (x n : Nat) (hx : x < 18446744073709551616) (h : n < 64) : (bits .and .u64 (x : Int) ((2 ^ n : Nat) : Int) != 0) = x.testBit n := by
  rw [u64_and_nat _ _ hx (pow_lt64 h), ← has_nat]
  generalize x &&& 2 ^ n = m
  by_cases e : m = 0
  · simp [e]
  · simp [e]

theorem all_c (n : Nat) (h1 : 1 ≤ n) (h2 : n ≤ 64) (w : World) :
    Calls Try.prog 17 #[.int .i64 n] w fun e w' => e = .returned (.int .u64 ((2 ^ n - 1 : Nat) : Int)) ∧ w = w' := by
  have hr : rightB n = true := by unfold rightB; simp; omega
  have HV := Lib.hid (all_val n h1 h2)
  go_enter Try.func17, Try.ntmps17
  go_wp2_with (go_at_call 52; refine (right_c _ _).mono ?_; rintro e w' ⟨rfl, rfl⟩)
  go_ret
  exact ⟨ret_u64 HV.out, rfl⟩
theorem one_c (n : Nat) (h2 : n < 64) (w : World) :
    Calls Try.prog 53 #[.int .i64 n] w fun e w' => e = .returned (.int .u64 ((2 ^ n : Nat) : Int)) ∧ w = w' := by
  have g1 : decide ((n : Int) < 0) = false := by simp
  have g2 : decide ((64 : Int) ≤ n) = false := by simp; omega
  have HV := Lib.hid (one_val n h2)
  go_enter Try.func53, Try.ntmps53
  go_wp2
  go_ret
  exact ⟨ret_u64 HV.out, rfl⟩
theorem has_c (x : Nat) (hx : x < 18446744073709551616) (n : Nat) (h2 : n < 64) (w : World) :
    Calls Try.prog 18 #[.int .u64 x, .int .i64 n] w fun e w' => e = .returned (.bool (x.testBit n)) ∧ w = w' := by
  have HV := Lib.hid (has_val x n hx h2)
  obtain ⟨p, hp⟩ : ∃ p : Nat, p = 2 ^ n := ⟨_, rfl⟩
  have HO := Lib.hid (one_c n h2 w)
  rw [← hp] at HO HV
  clear hp
  go_enter Try.func18, Try.ntmps18
  go_wp2_with (go_at_call 53; refine HO.out.mono ?_; rintro e w' ⟨rfl, rfl⟩)
  go_ret
  exact ⟨ret_bool HV.out, rfl⟩
theorem wrap_nat {a : Nat} (h : a < 18446744073709551616) : IntKind.u64.wrap (a : Int) = (a : Int) := by rw [IntKind.wrap_u64]; omega
theorem ones_1 (x : Nat) (hx : x < 18446744073709551616) : IntKind.u64.wrap (bits .and .u64 ((x : Int) / 2) 6148914691236517205 + bits .and .u64 (x : Int) 6148914691236517205) = ((step1 8 x : Nat) : Int) := by
  have e : (x : Int) / 2 = ((x / 2 : Nat) : Int) := by omega
  rw [e, show (6148914691236517205 : Int) = ((rep 0x55 8 : Nat) : Int) from rfl, u64_and_nat _ _ (by omega) (by decide), u64_and_nat _ _ hx (by decide), ← Int.natCast_add]
  have := step1_le 8 x
  rw [show rep 0x55 8 = 6148914691236517205 from rfl] at this
  exact wrap_nat (by unfold step1 at this; rw [show rep 0x55 8 = 6148914691236517205 from rfl] at *; omega)
theorem ones_2 (x : Nat) (hx : x < 18446744073709551616) : IntKind.u64.wrap (bits .and .u64 ((x : Int) / 4) 3689348814741910323 + bits .and .u64 (x : Int) 3689348814741910323) = ((step2 8 x : Nat) : Int) := by
  have e : (x : Int) / 4 = ((x / 4 : Nat) : Int) := by omega
  rw [e, show (3689348814741910323 : Int) = ((rep 0x33 8 : Nat) : Int) from rfl, u64_and_nat _ _ (by omega) (by decide), u64_and_nat _ _ hx (by decide), ← Int.natCast_add]
  have := step2_le 8 x
  exact wrap_nat (by unfold step2 at this; rw [show rep 0x33 8 = 3689348814741910323 from rfl] at *; omega)
theorem ones_3 (x : Nat) (hx : x ≤ 7378697629483820646) : bits .and .u64 (IntKind.u64.wrap ((x : Int) / 16 + (x : Int))) 1085102592571150095 = ((step3 8 x : Nat) : Int) := by
  have e : (x : Int) / 16 + (x : Int) = ((x / 16 + x : Nat) : Int) := by omega
  rw [e, wrap_nat (by omega), show (1085102592571150095 : Int) = ((rep 0x0f 8 : Nat) : Int) from rfl, u64_and_nat _ _ (by omega) (by decide)]
  rfl
theorem ones_4 {u k : Nat} (h : u + u / k < 18446744073709551616) : IntKind.u64.wrap ((u : Int) + (u : Int) / (k : Int)) = ((u + u / k : Nat) : Int) := by
  have e : (u : Int) + (u : Int) / (k : Int) = ((u + u / k : Nat) : Int) := by rw [Int.natCast_add, Int.natCast_ediv]
  rw [e, wrap_nat h]
set_option maxHeartbeats 1000000 in
theorem ones_c (x : Nat) (hx : x < 18446744073709551616) (w : World) :
    Calls Try.prog 55 #[.int .u64 x] w fun e w' => e = .returned (.int .i64 (pcN 64 x)) ∧ w = w' := by
  have H1 := ones_1 x hx
  have L1 := step1_le 8 x
  have L2 := step2_le 8 (step1 8 x)
  have C3 := step_cnts 8 x
  rw [show rep 0x55 8 = 6148914691236517205 from rfl] at L1
  rw [show rep 0x33 8 = 3689348814741910323 from rfl] at L2
  generalize step1 8 x = z1 at *
  have H2 := ones_2 z1 (by omega)
  generalize step2 8 z1 = z2 at *
  have H3 := ones_3 z2 (by omega)
  generalize step3 8 z2 = z3 at *
  have hs := sum_bytes (pcN_le 8 x) (pcN_le 8 (x / 256)) (pcN_le 8 (x / 256 / 256)) (pcN_le 8 (x / 256 / 256 / 256)) (pcN_le 8 (x / 256 / 256 / 256 / 256)) (pcN_le 8 (x / 256 / 256 / 256 / 256 / 256)) (pcN_le 8 (x / 256 / 256 / 256 / 256 / 256 / 256)) (pcN_le 8 (x / 256 / 256 / 256 / 256 / 256 / 256 / 256)) z3 (by rw [C3, cnts8])
  obtain ⟨b1, b2, b3, b4⟩ := hs
  rw [← pc64] at b4
  have H4 : IntKind.u64.wrap ((z3 : Int) + (z3 : Int) / 256) = ((z3 + z3 / 256 : Nat) : Int) := ones_4 b1
  generalize z3 + z3 / 256 = z4 at *
  have H5 : IntKind.u64.wrap ((z4 : Int) + (z4 : Int) / 65536) = ((z4 + z4 / 65536 : Nat) : Int) := ones_4 b2
  generalize z4 + z4 / 65536 = z5 at *
  have H6 : IntKind.u64.wrap ((z5 : Int) + (z5 : Int) / 4294967296) = ((z5 + z5 / 4294967296 : Nat) : Int) := ones_4 (Nat.lt_trans b3 (by decide))
  generalize z5 + z5 / 4294967296 = z6 at *
  have H7 : bits .and .i64 (wrap64 z6) 127 = (pcN 64 x : Int) := by
    rw [i64_and127, ← IntWalk.i64_left, IntWalk.i64_in _ (by omega)]; omega
  generalize pcN 64 x = r at *
  clear L1 L2 C3 b1 b2 b3 b4
  go_enter Try.func55, Try.ntmps55
  go_wp2
  go_ret
  all_goals exact ⟨rfl, rfl⟩
theorem count_c (x : Nat) (hx : x < 18446744073709551616) (w : World) :
    Calls Try.prog 21 #[.int .u64 x] w fun e w' => e = .returned (.int .i64 (pcN 64 x)) ∧ w = w' := by
  have HO := Lib.hid (ones_c x hx)
  generalize pcN 64 x = r at *
  go_enter Try.func21, Try.ntmps21
  go_wp2_with (go_at_call 55; refine (HO.out _).mono ?_; rintro e w' ⟨rfl, rfl⟩)
  go_ret
  exact ⟨rfl, rfl⟩
end Go.Proofs.Ytpbicdbicikniaa
