/- The reference's readers: Same, Table and Token (at tokens without rows), SameTable, SameToken. -/
import Derived.Test.YtpbicdbicikniaaToken
namespace Go.Proofs.Ytpbicdbicikniaa
open Go.RowKit
set_option linter.unusedVariables false
set_option maxRecDepth 100000

def sameL (xs ys : List Int) : Bool := decide (xs = ys)
theorem sameL_of (xs ys : List Int) (hl : xs.length = ys.length) (h : ∀ j, j < xs.length → intAt xs j = intAt ys j) : sameL xs ys = true := by
  unfold sameL
  rw [decide_eq_true_eq]
  apply List.ext_getElem hl
  intro i h1 h2
  have := h i h1
  simpa [intAt, h1, h2] using this
theorem sameL_len (xs ys : List Int) (hl : xs.length ≠ ys.length) : sameL xs ys = false := by
  unfold sameL
  rw [decide_eq_false_iff_not]
  rintro rfl
  exact hl rfl
theorem sameL_at (xs ys : List Int) (k : Nat) (h : intAt xs k ≠ intAt ys k) : sameL xs ys = false := by
  unfold sameL
  rw [decide_eq_false_iff_not]
  rintro rfl
  exact h rfl

set_option maxHeartbeats 1000000 in
theorem rsame_c (S T : Bs) (v u : Value) (xs ys : List Int) (w : World) (h : Sl intE S w v xs) (h' : Sl intE T w u ys) :
    Calls Try.prog 31 #[v, u] w fun e w' => e = .returned (.bool (sameL xs ys)) ∧ Below w.heap.size w w' := by
  have h0 := h
  have h0' := h'
  obtain ⟨A, c, rfl, hl, hc, _⟩ := h0
  obtain ⟨A', c', rfl, hl', hc', _⟩ := h0'
  have HS := Lib.hid h
  have HS' := Lib.hid h'
  clear h h'
  by_cases hle : xs.length = ys.length
  · have HLE := Lib.hid hle
    have q : ((xs.length : Int) != (ys.length : Int)) = false := by rw [hle]; simp
    clear hle
    go_enter Try.func31, Try.ntmps31
    go_wp2_with fail
    go_loopw [5] (fun iv wr => ∃ k : Nat, k ≤ xs.length ∧ iv = .int .i64 k ∧ As (∀ j, j < k → intAt xs j = intAt ys j) ∧ As (Below w.heap.size w wr)) (fun i _ => xs.length - (intOf i).toNat)
    case atStart => exact ⟨0, Nat.zero_le _, rfl, ⟨fun j hj => by omega⟩, ⟨Below.refl _ _⟩⟩
    case round =>
      obtain ⟨k, hk, rfl, ⟨hj⟩, ⟨hbl⟩⟩ := hrel
      have HJ := Lib.hid hj
      have HBL := Lib.hid hbl
      by_cases hlt : k < xs.length
      · obtain ⟨b, off, rfl, _, i1, c1⟩ := (HS.out.below hbl).int_at k hlt
        obtain ⟨b', off', rfl, _, i2, c2⟩ := (HS'.out.below hbl).int_at k (by rw [← HLE.out]; exact hlt)
        have hk2 : k < ys.length := by rw [← HLE.out]; exact hlt
        clear hj hbl
        by_cases he : intAt xs k = intAt ys k
        · have q2 : (intAt xs k != intAt ys k) = false := by rw [he]; simp
          have HJ2 := Lib.hid (show ∀ j, j < k + 1 → intAt xs j = intAt ys j from fun j hj => by
            rcases Nat.lt_or_ge j k with h | h
            · exact HJ.out j h
            · obtain rfl : j = k := by omega
              exact he)
          clear he
          go_wp2_with fail
          go_quiet (fail)
          go_wp2
          go_roundw
          case rel => exact ⟨k + 1, by omega, by go_num, ⟨HJ2.out⟩, ⟨bel_drewN HBL.out⟩⟩
          case measure => simp [intOf]; omega
        · have q2 : (intAt xs k != intAt ys k) = true := by simpa using he
          have HF := Lib.hid (sameL_at xs ys k he)
          clear he
          go_wp2_with fail
          go_quiet (fail)
          go_wp2
          go_ret
          exact ⟨ret_bool HF.out.symm, bel_drewN HBL.out⟩
      · obtain rfl : k = xs.length := by omega
        have HF := Lib.hid (sameL_of xs ys HLE.out HJ.out)
        clear hj
        go_wp2_with fail
        go_ret
        exact ⟨ret_bool HF.out.symm, HBL.out⟩
  · have q : ((xs.length : Int) != (ys.length : Int)) = true := by simp; omega
    have HF := Lib.hid (sameL_len xs ys hle)
    clear hle
    go_enter Try.func31, Try.ntmps31
    go_wp2_with fail
    go_ret
    exact ⟨ret_bool HF.out.symm, Below.refl _ _⟩

/-- A table without rows. -/
def t0B (start : Int) : Bool := inB start 0 4611686018427387904
theorem t0B_eq (start : Int) : tableB ⟨start, []⟩ = t0B start := by unfold tableB t0B; simp [allUp]

set_option maxHeartbeats 1000000 in
theorem rtable0_c (start : Int) (A : Option Addr) (c : Nat) (w : World) :
    Calls Try.prog 88 #[.agg #[.int .i64 start, .slice A 0 c]] w fun e w' => e = .returned (.bool (t0B start)) ∧ Below w.heap.size w w' := by
  cases h : inB start 0 4611686018427387904
  all_goals
    have HF := Lib.hid (show t0B start = _ from h)
    go_enter Try.func88, Try.ntmps88
    go_wp2_with (go_at_call 87; refine (rin_c _ _ _ _).mono ?_; rintro e w' ⟨rfl, rfl⟩)
  · go_ret
    exact ⟨ret_bool HF.out.symm, (by repeat (with_reducible first | assumption | exact Below.refl _ _ | apply bel_alloc | apply bel_drew | apply bel_drewN | (refine bel_set ?_ (by simp; try omega) _)))⟩
  · go_loopw [4] (fun iv wr => iv = .int .i64 0 ∧ As (Below w.heap.size w wr) ∧ As (wr = w.alloc (.cells #[.int .i64 start, .slice A 0 c] 27))) (fun _ _ => 0)
    case atStart => exact ⟨rfl, ⟨(by repeat (with_reducible first | assumption | exact Below.refl _ _ | apply bel_alloc | apply bel_drew | apply bel_drewN | (refine bel_set ?_ (by simp; try omega) _)))⟩, ⟨rfl⟩⟩
    case round =>
      obtain ⟨rfl, ⟨hb⟩, ⟨hw⟩⟩ := hrel
      subst hw
      go_wp2_with fail
      go_ret
      exact ⟨ret_bool HF.out.symm, hb⟩

def allIn (l : List Int) (k : Nat) : Bool := (l.take k).all fun x => inB x (-1) 4611686018427387903
theorem allIn_succ (l : List Int) (k : Nat) (h : k < l.length) : allIn l (k + 1) = (allIn l k && inB (intAt l k) (-1) 4611686018427387903) := by
  unfold allIn
  rw [List.take_succ_eq_append_getElem h, List.all_append]; simp [intAt, h]

set_option maxHeartbeats 4000000 in
theorem rtoken0_c (S : Bs) (v : Value) (t : TokenV) (w : World) (h : TokR S w v t) (hr0 : t.table.rows = []) :
    Calls Try.prog 48 #[v] w fun e w' => e = .returned (.bool (tokenB t)) ∧ Below w.heap.size w w' := by
  obtain ⟨sv, rv, rfl, i1, i2, i3, hs, hr⟩ := h
  rw [hr0] at hr
  have hs0 := hs
  obtain ⟨A, c, rfl, hl, hc, _⟩ := hs0
  obtain ⟨A2, c2, rfl, hl2, hc2, _⟩ := hr
  have HT := Lib.hid (show tableB t.table = t0B t.table.start from by rw [← t0B_eq]; congr 1; rw [← hr0])
  have HS := Lib.hid (hs.below (bel_alloc (o := .cells #[.int .i64 t.gen, .int .i64 t.hop, .slice A t.stamps.length c, .int .i64 t.table.start, .slice A2 0 c2] 29) (Below.refl _ _)))
  have HB := Lib.hid (bel_alloc (o := .cells #[.int .i64 t.gen, .int .i64 t.hop, .slice A t.stamps.length c, .int .i64 t.table.start, .slice A2 0 c2] 29) (Below.refl w.heap.size w))
  have HK := blk_new w #[.int .i64 t.gen, .int .i64 t.hop, .slice A t.stamps.length c, .int .i64 t.table.start, .slice A2 0 c2] 29
  obtain ⟨b0, hb0⟩ : ∃ b0, b0 = (inB t.gen 1 1099511627776 && inB t.hop 0 1099511627776 && inB (t.stamps.length : Int) 1 64) := ⟨_, rfl⟩
  have HZ := Lib.hid hb0
  have HF := Lib.hid (show tokenB t = (b0 && allIn t.stamps t.stamps.length && t0B t.table.start) from by
    unfold tokenB
    rw [hb0, HT.out]
    congr 2
    unfold allIn
    rw [List.take_of_length_le (Nat.le_refl _), List.not_any_eq_all_not]
    simp)
  clear hb0 hs hr0
  cases h1 : inB t.gen 1 1099511627776 <;> cases h2 : inB t.hop 0 1099511627776 <;> cases h3 : inB (t.stamps.length : Int) 1 64
  all_goals
    have HZ2 := HZ.out
    rw [h1, h2, h3] at HZ2
    have HZ3 := Lib.hid HZ2
    clear HZ2
    go_enter Try.func48, Try.ntmps48
    go_wp2_with (go_at_call 87; refine (rin_c _ _ _ _).mono ?_; rintro e w' ⟨rfl, rfl⟩)
  all_goals
    go_loop [3, 4] (fun sv iv => ∃ k : Nat, k ≤ t.stamps.length ∧ iv = .int .i64 k ∧ sv = .bool (b0 && allIn t.stamps k)) (fun _ i => t.stamps.length - (intOf i).toNat)
    case atStart => exact ⟨0, Nat.zero_le _, rfl, by rw [HZ3.out]; rfl⟩
    case round =>
      obtain ⟨k, hk, rfl, rfl⟩ := hrel
      by_cases hlt : k < t.stamps.length
      · obtain ⟨b, off, rfl, _, j1, c1⟩ := HS.out.int_at k hlt
        have HA := Lib.hid (show (b0 && allIn t.stamps (k + 1)) = (b0 && allIn t.stamps k && inB (intAt t.stamps k) (-1) 4611686018427387903) from by rw [allIn_succ _ _ hlt, Bool.and_assoc])
        cases hq : (b0 && allIn t.stamps k)
        all_goals
          rw [hq] at HA
          go_wp2_with (go_at_call 87; refine (rin_c _ _ _ _).mono ?_; rintro e w' ⟨rfl, rfl⟩)
          go_round
          case rel => exact ⟨k + 1, by omega, by go_num, by rw [HA.out]; rfl⟩
          case measure => simp [intOf]; omega
      · obtain rfl : k = t.stamps.length := by omega
        have HQ := HF.out
        cases hq : (b0 && allIn t.stamps t.stamps.length)
        all_goals
          rw [hq] at HQ
          have HQ2 := Lib.hid HQ
          clear HQ
          go_wp2_with (go_at_call 88; refine (rtable0_c _ _ _ _).mono ?_; rintro e w' ⟨rfl, hb2⟩)
          go_ret
          exact ⟨ret_bool (by rw [HQ2.out]; simp), bel_trans HB.out hb2⟩
end Go.Proofs.Ytpbicdbicikniaa
