/- annonalaw10.TokenMajority: it answers true. -/
import Derived.Test.YtpbicdbicikniaaMajP
import Derived.Test.YtpbicdbicikniaaAlive
import Derived.Test.YtpbicdbicikniaaRing
namespace Go.Proofs.Ytpbicdbicikniaa
open Go.RowKit
set_option linter.unusedVariables false
set_option maxRecDepth 100000

def cntL (now span : Int) (l : List Int) (k : Nat) : Nat := ((l.take k).filter (late now span)).length
theorem cntL_succ (now span : Int) (l : List Int) (k : Nat) (h : k < l.length) : cntL now span l (k + 1) = cntL now span l k + (if late now span (intAt l k) then 1 else 0) := by
  unfold cntL
  rw [take_snoc_int l k h, List.filter_append, List.length_append]
  cases hq : late now span (intAt l k) <;> simp [hq]
theorem cntL_le (now span : Int) (l : List Int) (k : Nat) : cntL now span l k ≤ k := by
  unfold cntL
  have := List.length_filter_le (late now span) (l.take k)
  rw [List.length_take] at this; omega
def somL (now span : Int) (l : List Int) (y k : Nat) : Bool := (List.range k).any fun i => late now span (intAt l i) && y.testBit i
theorem somL_succ (now span : Int) (l : List Int) (y k : Nat) : somL now span l y (k + 1) = (somL now span l y k || (late now span (intAt l k) && y.testBit k)) := by unfold somL; simp [List.range_succ]
theorem cntL_range (now span : Int) (l : List Int) : ∀ k, k ≤ l.length → cntL now span l k = ((List.range k).filter fun i => late now span (intAt l i)).length := by
  intro k
  induction k with
  | zero => intro _; simp [cntL]
  | succ k ih =>
    intro h
    rw [cntL_succ _ _ _ _ (by omega), ih (by omega), List.range_succ, List.filter_append, List.length_append]
    congr 1
    cases hq : late now span (intAt l k) <;> simp [hq]
theorem pcN_zero (k : Nat) : pcN k 0 = 0 := by
  induction k with
  | zero => rfl
  | succ k ih => simp only [pcN]; rw [Nat.zero_div, ih]
theorem pc_short (y n : Nat) (h : y < 2 ^ n) (hn : n ≤ 64) : pcN 64 y = ((List.range n).filter fun i => y.testBit i).length := by
  rw [← pc_bit, show (64 : Nat) = n + (64 - n) by omega, pcN_add, Nat.div_eq_of_lt h, pcN_zero]; rfl
theorem som_meet (now span : Int) (l : List Int) (y : Nat) (h : y < 2 ^ l.length) (hn1 : 1 ≤ l.length) (hn : l.length ≤ 64) (h1 : majZ l.length ≤ (cntL now span l l.length : Int)) (h2 : majZ l.length ≤ (pcN 64 y : Int)) : somL now span l y l.length = true := by
  rw [cntL_range _ _ _ _ (Nat.le_refl _)] at h1
  rw [pc_short y _ h hn] at h2
  cases hs : somL now span l y l.length with
  | true => rfl
  | false =>
    exfalso
    unfold somL at hs
    rw [List.any_eq_false] at hs
    have := disjoint_le (p := fun i => late now span (intAt l i)) (q := fun i => y.testBit i) l.length (fun i hi h => hs i (List.mem_range.2 hi) (by rw [h.1, h.2]; rfl))
    have hm : majZ l.length = (l.length : Int) / 2 + 1 := by unfold majZ; rw [if_neg (by omega)]
    rw [hm] at h1 h2
    omega

set_option maxHeartbeats 2000000 in
theorem tokenMajority_c (S : Bs) (v : Value) (l : List Int) (now span : Int) (x : Nat) (w : World) (h : Sl intE S w v l) (hx : x < 18446744073709551616) (hn : I64 now) (hs : I64 span) :
    Calls Try.prog 5 #[v, .agg #[.int .i64 now, .int .i64 span], .int .u64 x] w fun e w' => e = .returned (.bool true) ∧ Below w.heap.size w w' := by
  have h0 := h
  obtain ⟨A, c, rfl, hl, hc, _⟩ := h0
  have HS := Lib.hid h
  by_cases g1 : l.length < 1
  · go_enter Try.func5, Try.ntmps5
    go_wp2_with (go_at_call 13; refine (alive_c _).mono ?_; rintro e w' ⟨rfl, hb⟩)
    go_ret
    exact ⟨rfl, bel_trans (by repeat (with_reducible first | assumption | exact Below.refl _ _ | apply bel_alloc | apply bel_drew | apply bel_drewN | (refine bel_set ?_ (by simp; try omega) _))) hb⟩
  by_cases g2 : 64 < l.length
  · go_enter Try.func5, Try.ntmps5
    go_wp2_with (go_at_call 13; refine (alive_c _).mono ?_; rintro e w' ⟨rfl, hb⟩)
    go_ret
    exact ⟨rfl, bel_trans (by repeat (with_reducible first | assumption | exact Below.refl _ _ | apply bel_alloc | apply bel_drew | apply bel_drewN | (refine bel_set ?_ (by simp; try omega) _))) hb⟩
  by_cases g3 : now < 0
  · go_enter Try.func5, Try.ntmps5
    go_wp2_with (go_at_call 13; refine (alive_c _).mono ?_; rintro e w' ⟨rfl, hb⟩)
    go_ret
    exact ⟨rfl, bel_trans (by repeat (with_reducible first | assumption | exact Below.refl _ _ | apply bel_alloc | apply bel_drew | apply bel_drewN | (refine bel_set ?_ (by simp; try omega) _))) hb⟩
  by_cases g4 : 1099511627776 < now
  · go_enter Try.func5, Try.ntmps5
    go_wp2_with (go_at_call 13; refine (alive_c _).mono ?_; rintro e w' ⟨rfl, hb⟩)
    go_ret
    exact ⟨rfl, bel_trans (by repeat (with_reducible first | assumption | exact Below.refl _ _ | apply bel_alloc | apply bel_drew | apply bel_drewN | (refine bel_set ?_ (by simp; try omega) _))) hb⟩
  by_cases g5 : span < 0
  · go_enter Try.func5, Try.ntmps5
    go_wp2_with (go_at_call 13; refine (alive_c _).mono ?_; rintro e w' ⟨rfl, hb⟩)
    go_ret
    exact ⟨rfl, bel_trans (by repeat (with_reducible first | assumption | exact Below.refl _ _ | apply bel_alloc | apply bel_drew | apply bel_drewN | (refine bel_set ?_ (by simp; try omega) _))) hb⟩
  by_cases g6 : 1099511627776 < span
  · go_enter Try.func5, Try.ntmps5
    go_wp2_with (go_at_call 13; refine (alive_c _).mono ?_; rintro e w' ⟨rfl, hb⟩)
    go_ret
    exact ⟨rfl, bel_trans (by repeat (with_reducible first | assumption | exact Below.refl _ _ | apply bel_alloc | apply bel_drew | apply bel_drewN | (refine bel_set ?_ (by simp; try omega) _))) hb⟩
  obtain ⟨y, hy⟩ : ∃ y : Nat, y = x &&& (2 ^ l.length - 1) := ⟨_, rfl⟩
  have hp64 := pow_le64 (n := l.length) (by omega)
  have HY := Lib.hid (show bits .and .u64 (x : Int) ((2 ^ l.length - 1 : Nat) : Int) = (y : Int) from by rw [hy, u64_and_nat _ _ hx (by omega)])
  have hylt : y < 2 ^ l.length := by
    rw [hy]
    refine Nat.lt_of_le_of_lt Nat.and_le_right ?_
    have := Nat.two_pow_pos l.length; omega
  have HYL := Lib.hid hylt
  have hy64 : y < 18446744073709551616 := by omega
  have HYC := hy64
  clear hy hylt hp64
  obtain ⟨M, hM⟩ : ∃ M : Nat, M = 2 ^ l.length - 1 := ⟨_, rfl⟩
  have HA := Lib.hid (all_c l.length (by omega) (by omega) (w.alloc (.cells #[.int .i64 now, .int .i64 span] 23)))
  rw [← hM] at HA HY
  clear hM
  have HYE := HY.out
  have q1 : decide ((l.length : Int) < 1) = false := by simp; omega
  have q2 : decide ((64 : Int) < (l.length : Int)) = false := by simp; omega
  go_enter Try.func5, Try.ntmps5
  go_wp2_with (go_at_call 17; refine HA.out.mono ?_; rintro e w' ⟨rfl, rfl⟩)
  have HS1 := Lib.hid (HS.out.below (bel_alloc (o := .cells #[.int .i64 now, .int .i64 span] 23) (Below.refl _ _)))
  go_loop [10, 11, 13] (fun cv sv iv => ∃ k : Nat, k ≤ l.length ∧ iv = .int .i64 k ∧ cv = .int .i64 (cntL now span l k) ∧ sv = .bool (somL now span l y k) ∧ As (∀ j, j < k → -1 ≤ intAt l j ∧ intAt l j ≤ 1099511627776)) (fun _ _ i => l.length - (intOf i).toNat)
  case atStart => exact ⟨0, Nat.zero_le _, rfl, rfl, rfl, ⟨fun j hj => by omega⟩⟩
  case round =>
    obtain ⟨k, hk, rfl, rfl, rfl, ⟨hj⟩⟩ := hrel
    have hcl := cntL_le now span l k
    have HJ0 := Lib.hid hj
    clear hj
    by_cases hlt : k < l.length
    · obtain ⟨b, off, rfl, hS, i1, c1⟩ := HS1.out.int_at k hlt
      by_cases r1 : intAt l k < -1
      · go_wp2_with (go_at_call 13; refine (alive_c _).mono ?_; rintro e w' ⟨rfl, hb⟩)
        go_ret
        exact ⟨rfl, bel_trans (by repeat (with_reducible first | assumption | exact Below.refl _ _ | apply bel_alloc | apply bel_drew | apply bel_drewN | (refine bel_set ?_ (by simp; try omega) _))) hb⟩
      by_cases r2 : 1099511627776 < intAt l k
      · go_wp2_with (go_at_call 13; refine (alive_c _).mono ?_; rintro e w' ⟨rfl, hb⟩)
        go_ret
        exact ⟨rfl, bel_trans (by repeat (with_reducible first | assumption | exact Below.refl _ _ | apply bel_alloc | apply bel_drew | apply bel_drewN | (refine bel_set ?_ (by simp; try omega) _))) hb⟩
      have HJ := Lib.hid (show As (∀ j, j < k + 1 → -1 ≤ intAt l j ∧ intAt l j ≤ 1099511627776) from ⟨fun j hj => by
        rcases Nat.lt_or_ge j k with h | h
        · exact HJ0.out j h
        · obtain rfl : j = k := by omega
          omega⟩)
      by_cases r3 : intAt l k < 0
      · have q3 : decide (0 ≤ intAt l k) = false := by simp; omega
        have HL := show late now span (intAt l k) = false from by unfold late; simp; omega
        have HF := Lib.hid (show cntL now span l (k + 1) = cntL now span l k from by rw [cntL_succ _ _ _ _ hlt, HL]; rfl)
        have HB := Lib.hid (show somL now span l y (k + 1) = somL now span l y k from by rw [somL_succ, HL]; simp)
        clear HL
        go_wp2_with fail
        go_round
        case rel => exact ⟨k + 1, by omega, by go_num, by rw [HF.out], by rw [HB.out], HJ.out⟩
        case measure => simp [intOf]; omega
      by_cases r4 : intAt l k < now - span
      · have q4 : decide (now - span ≤ intAt l k) = false := by simp; omega
        have HL := show late now span (intAt l k) = false from by unfold late; simp; omega
        have HF := Lib.hid (show cntL now span l (k + 1) = cntL now span l k from by rw [cntL_succ _ _ _ _ hlt, HL]; rfl)
        have HB := Lib.hid (show somL now span l y (k + 1) = somL now span l y k from by rw [somL_succ, HL]; simp)
        clear HL
        go_wp2_with fail
        go_round
        case rel => exact ⟨k + 1, by omega, by go_num, by rw [HF.out], by rw [HB.out], HJ.out⟩
        case measure => simp [intOf]; omega
      · have q4 : now - span ≤ intAt l k := by omega
        have HL := show late now span (intAt l k) = true from by unfold late; simp; omega
        have HF := Lib.hid (show cntL now span l (k + 1) = cntL now span l k + 1 from by rw [cntL_succ _ _ _ _ hlt, HL]; rfl)
        cases hb : somL now span l y k with
        | false =>
          have HB := Lib.hid (show somL now span l y (k + 1) = y.testBit k from by rw [somL_succ, hb, HL]; rfl)
          clear HL
          go_wp2_with (go_at_call 18; refine (has_c y HYC k (by omega) _).mono ?_; rintro e w' ⟨rfl, rfl⟩)
          go_round
          case rel => exact ⟨k + 1, by omega, by go_num, by rw [HF.out]; go_num, by rw [HB.out], HJ.out⟩
          case measure => simp [intOf]; omega
        | true =>
          have HB := Lib.hid (show somL now span l y (k + 1) = true from by rw [somL_succ, hb]; rfl)
          clear HL
          go_wp2_with fail
          go_round
          case rel => exact ⟨k + 1, by omega, by go_num, by rw [HF.out]; go_num, by rw [HB.out], HJ.out⟩
          case measure => simp [intOf]; omega
    · obtain rfl : k = l.length := by omega
      have hall : ∀ z ∈ l, -1 ≤ z ∧ z ≤ 1099511627776 := by
        intro z hz
        obtain ⟨j, hj, rfl⟩ := List.getElem_of_mem hz
        have := HJ0.out j hj
        have e : intAt l j = l[j] := by simp [intAt, hj]
        rw [e] at this; exact this
      have hv := valid_cnt l now span (by omega) (by omega) (by omega) (by omega) (by omega) hall
      have hcc : (l.filter (late now span)).length = cntL now span l l.length := by unfold cntL; rw [List.take_of_length_le (Nat.le_refl _)]
      rw [hcc] at hv
      have HM := Lib.hid (maj_c l.length (by unfold I64; omega))
      have HPC := Lib.hid (count_c y HYC)
      have HME := fun h1 h2 => som_meet now span l y HYL.out (by omega) (by omega) h1 h2
      have HTK := Lib.hid (show TokR S (w.alloc (.cells #[.int .i64 now, .int .i64 span] 23)) (.agg #[.int .i64 0, .int .i64 0, .slice A l.length c, .int .i64 0, .slice none 0 0]) ⟨0, 0, l, ⟨0, []⟩⟩ from ⟨_, _, rfl, by unfold I64; simp, by unfold I64; simp, by unfold I64; simp, HS1.out, Sl.nil⟩)
      have HVC := Lib.hid (valid_c S _ _ now span _ HTK.out hs (by show l.length ≤ 1048576; omega))
      rw [show (TokenV.mk 0 0 l ⟨0, []⟩).stamps = l from rfl, hv] at HVC
      clear hv hcc hall
      generalize cntL now span l l.length = cN at *
      generalize majZ l.length = mj at *
      generalize pcN 64 y = pc at *
      generalize somL now span l y l.length = sm at *
      have HS2 := Lib.hid HME
      clear HME
      by_cases v : mj ≤ (cN : Int)
      · have v1 : decide (mj ≤ (cN : Int)) = true := by simpa using v
        by_cases m : (pc : Int) < mj
        · have m1 : decide ((pc : Int) < mj) = true := by simpa using m
          clear v m
          go_wp2_with (first | (go_at_call 19; refine HVC.out.mono ?_; rintro e w1 ⟨rfl, hb1⟩; have HB1 := Lib.hid (bel_trans (bel_alloc (o := .cells #[.int .i64 now, .int .i64 span] 23) (Below.refl _ _)) hb1); clear hb1) | (go_at_call 20; refine (HM.out _).mono ?_; rintro e w' ⟨rfl, rfl⟩) | (go_at_call 13; refine (alive_c _).mono ?_; rintro e w2 ⟨rfl, hb2⟩; have HB2 := Lib.hid (bel_trans HB1.out hb2); clear hb2) | (go_at_call 21; refine (HPC.out _).mono ?_; rintro e w' ⟨rfl, rfl⟩))
          go_ret
          exact ⟨rfl, HB2.out⟩
        · have m1 : decide ((pc : Int) < mj) = false := by simp; omega
          have hsm := HS2.out v (by omega)
          subst hsm
          clear v m
          go_wp2_with (first | (go_at_call 19; refine HVC.out.mono ?_; rintro e w1 ⟨rfl, hb1⟩; have HB1 := Lib.hid (bel_trans (bel_alloc (o := .cells #[.int .i64 now, .int .i64 span] 23) (Below.refl _ _)) hb1); clear hb1) | (go_at_call 20; refine (HM.out _).mono ?_; rintro e w' ⟨rfl, rfl⟩) | (go_at_call 13; refine (alive_c _).mono ?_; rintro e w2 ⟨rfl, hb2⟩; have HB2 := Lib.hid (bel_trans HB1.out hb2); clear hb2) | (go_at_call 21; refine (HPC.out _).mono ?_; rintro e w' ⟨rfl, rfl⟩))
          go_ret
          exact ⟨rfl, HB2.out⟩
      · have v1 : decide (mj ≤ (cN : Int)) = false := by simp; omega
        clear v
        go_wp2_with (first | (go_at_call 19; refine HVC.out.mono ?_; rintro e w1 ⟨rfl, hb1⟩; have HB1 := Lib.hid (bel_trans (bel_alloc (o := .cells #[.int .i64 now, .int .i64 span] 23) (Below.refl _ _)) hb1); clear hb1) | (go_at_call 20; refine (HM.out _).mono ?_; rintro e w' ⟨rfl, rfl⟩) | (go_at_call 13; refine (alive_c _).mono ?_; rintro e w2 ⟨rfl, hb2⟩; have HB2 := Lib.hid (bel_trans HB1.out hb2); clear hb2) | (go_at_call 21; refine (HPC.out _).mono ?_; rintro e w' ⟨rfl, rfl⟩))
        go_ret
        exact ⟨rfl, HB2.out⟩
end Go.Proofs.Ytpbicdbicikniaa
