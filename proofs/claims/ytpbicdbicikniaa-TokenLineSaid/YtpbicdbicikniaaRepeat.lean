/- slices.Repeat of one whole number. -/
import Derived.Test.YtpbicdbicikniaaCloneT
import Derived.Test.YtpbicdbicikniaaShelf
import Derived.Shelf.Bits.Mul64
import Derived.Laws.CopyOwn
import Derived.Deep.OwnRows
import Derived.Deep.RegionLaw
namespace Go.Proofs.Ytpbicdbicikniaa
open Go.RowKit
set_option linter.unusedVariables false
set_option maxRecDepth 100000

def reps (x : Int) (k : Nat) : List Value := List.replicate k (.int .i64 x)
theorem reps_length {x : Int} {k : Nat} : (reps x k).length = k := by simp [reps]
def repRow (x : Int) (n m : Nat) : List Value := reps x m ++ reps 0 (n - m)
theorem repRow_length {x : Int} {n m : Nat} (h : m ≤ n) : (repRow x n m).length = n := by simp [repRow, reps]; omega
theorem splice_rep {x : Int} {n m k : Nat} (h : m + k ≤ n) : splice (repRow x n m) m (reps x k) = repRow x n (m + k) := by
  unfold splice repRow reps
  rw [List.take_append_of_le_length (by simp), List.take_of_length_le (by simp), List.drop_append]
  simp only [List.length_replicate, List.drop_replicate]
  have e1 : m - (m + k) = 0 := by omega
  have e2 : n - m - (m + k - m) = n - (m + k) := by omega
  rw [e1, e2, List.replicate_zero, List.nil_append, ← List.append_assoc, List.replicate_append_replicate]
theorem repRow_get {x : Int} {n m : Nat} (j : Nat) (hj : j < m) : (repRow x n m)[j]? = some (.int .i64 x) := by
  unfold repRow reps
  rw [List.getElem?_append_left (by simpa using hj)]
  simp [hj]
theorem reps_one {x : Int} {k : Nat} : ∀ v ∈ reps x k, v.oneCell' = true := by
  intro v hv
  simp only [reps, List.mem_replicate] at hv
  rw [hv.2]; rfl
theorem made_reps (x : Int) (n : Nat) : madeCells #[.int .i64 0] n = (repRow x n 0).toArray := by
  apply Array.ext'
  apply List.ext_getElem?
  intro i
  by_cases hi : i < n
  · simp [madeCells, repRow, reps, hi, Nat.mod_one]
  · simp [madeCells, repRow, reps, hi]

set_option maxHeartbeats 2000000 in
theorem repeat_c (S : Bs) (v : Value) (x : Int) (n : Nat) (w : World) (h : Sl intE S w v [x]) (hn1 : 1 ≤ n) (hn2 : n ≤ 1048576) :
    Calls Try.prog 45 #[v, .int .i64 n] w fun e w' => ∃ u, e = .returned u ∧ w'.ownsRow w.heap.size 3 1 u n (reps x n) ∧ Below w.heap.size w w' := by
  have h0 := h
  obtain ⟨A, c, rfl, hl, hc, _⟩ := h0
  obtain ⟨b, off, rfl, hS, i1, c1⟩ := h.int_at 0 (by simp)
  have g0 : decide ((n : Int) < 0) = false := by simp
  have hmk : ∀ w : World, (Instr.makeSlice 24 (.int .i64 (n : Int)) (.int .i64 (n : Int))).run Try.prog w = .ok (.slice (some ⟨w.heap.size, 0, none⟩) n n) (w.alloc (.cells (repRow x n 0).toArray 3)) := by
    intro w
    rw [← made_reps]
    exact run_make_row' (P := Try.prog) 24 3 (.int .i64 0) 8 Try.underlying24 info_int rfl .i64 .i64 n (by omega) (by omega) w
  have hblt : b < w.heap.size := World.block_lt_of_cell? w _ c1
  have hmul : ∀ w : World, Calls Try.prog 82 #[.int .u64 1, .int .u64 n] w fun e w' => e = .returned (.tuple #[.int .u64 0, .int .u64 n]) ∧ w' = w := by
    intro w
    have := Any.bits_Mul Try.lays212 1 n (by omega) (by omega) w
    have e1 : 1 * n / 18446744073709551616 = 0 := by omega
    have e2 : 1 * n % 18446744073709551616 = n := by omega
    rw [e1, e2] at this
    exact this
  have g1 : decide (9223372036854775807 < (n : Int)) = false := by simp; omega
  have c1' : w.cell? ⟨b, off, none⟩ = some (.int .i64 x) := c1
  have H0 := Lib.hid (Below.refl w.heap.size w)
  obtain ⟨g, hg⟩ : ∃ g, g = w.heap.size := ⟨_, rfl⟩
  have HG := Lib.hid hg
  have HL := Lib.hid (show (reps x 1).length = Nat.min 1 n from by rw [reps_length]; show 1 = min 1 n; omega)
  have HB := Lib.hid (bel_alloc (o := .cells (repRow x n 0).toArray 3) (Below.refl w.heap.size w))
  have HA := Lib.hid (blk_new w (repRow x n 0).toArray 3)
  have HC := Lib.hid (show ∀ j v, (reps x 1)[j]? = some v → (w.alloc (.cells (repRow x n 0).toArray 3)).cell? ((⟨b, off, none⟩ : Addr).add j) = some v from by
    intro j v hj
    match j, hj with
    | 0, hj => rw [Addr.add_lit]; simp [reps] at hj; subst hj; exact cell_bel HB.out c1'
    | j + 1, hj => simp [reps] at hj)
  have HF := Lib.hid (show 0 + (reps x 1).length ≤ (repRow x n 0).length from by rw [reps_length, repRow_length (by omega)]; omega)
  clear h hg
  go_enter Try.func45, Try.ntmps45
  go_wp2_with (first
    | (go_at_call 82; refine (hmul _).mono ?_; rintro e w' ⟨rfl, hw⟩; subst w')
    | (refine wpList_copy_splice rfl (.tmp 31) (.tmp 32) 24 24 rfl 3 Try.underlying24 rfl _ _ _ _ _ _ rfl rfl w.heap.size 0 (repRow x n 0) 3 HA.out (reps x 1) HL.out (fun _ => ⟨rfl, _, rfl, HC.out⟩) HF.out reps_one w.heap.size w HB.out (Nat.le_refl _) ?_; intro w2 hG2 hB2; have HG2 := Lib.hid (show Blk w2 w.heap.size (repRow x n 1).toArray 3 from by have := hG2.out; rw [splice_rep (by omega)] at this; exact this); have HB2 := Lib.hid hB2; clear hG2 hB2))
  go_loopw [8] (fun sm wr => ∃ m : Nat, sm = .int .i64 m ∧ 1 ≤ m ∧ m ≤ n ∧ As (Blk wr w.heap.size (repRow x n m).toArray 3) ∧ As (Below w.heap.size w wr)) (fun sm _ => n - (intOf sm).toNat)
  case atStart => exact ⟨1, by simp [reps], Nat.le_refl _, hn1, ⟨HG2.out⟩, ⟨HB2.out⟩⟩
  case round =>
    obtain ⟨m, rfl, hm1, hmn, ⟨hbk⟩, ⟨hbl⟩⟩ := hrel
    by_cases hlt : m < n
    · obtain ⟨k, hk, hk1, hk2, hk3⟩ : ∃ k : Nat, k = Nat.min m (n - m) ∧ 1 ≤ k ∧ m + k ≤ n ∧ k ≤ m := by
        refine ⟨Nat.min m (n - m), rfl, ?_, ?_, ?_⟩ <;> (show _; simp only [Nat.min_def]; split <;> omega)
      have HBK := Lib.hid (hbk.drew 1)
      have HBL := Lib.hid (bel_drew hbl)
      have HL3 := Lib.hid (show (reps x k).length = Nat.min m (n - m) from by rw [reps_length, hk])
      have HF3 := Lib.hid (show m + (reps x k).length ≤ (repRow x n m).length from by rw [reps_length, repRow_length hmn]; omega)
      have HC3 := Lib.hid (show ∀ j v, (reps x k)[j]? = some v → wr.drew.cell? ((⟨w.heap.size, 0, none⟩ : Addr).add j) = some v from by
        intro j v hj
        rw [Addr.add_lit]
        have hjm : j < k := by
          rcases Nat.lt_or_ge j k with h | h
          · exact h
          · rw [List.getElem?_eq_none (by rw [reps_length]; exact h)] at hj; cases hj
        have hv : v = .int .i64 x := by simp [reps, hjm] at hj; exact hj.symm
        subst hv
        have := HBK.out.cell j (.int .i64 x) (by rw [List.getElem?_toArray]; exact repRow_get j (by omega))
        simpa using this)
      clear hbk hbl hk
      have HNE : ¬ n = m := by omega
      have HSM := Lib.hid (show IntKind.i64.wrap ((m : Int) + ((reps x k).length : Int)) = ((m + k : Nat) : Int) from by rw [reps_length, IntWalk.i64_in _ (by omega)]; omega)
      go_wp2_with fail
      go_region_law (refine step_copy_splice rfl (.tmp 41) (.tmp 44) 24 24 rfl 3 Try.underlying24 rfl (some ⟨w.heap.size, m, none⟩) (some ⟨w.heap.size, 0, none⟩) (n - m) (n - m) m n (by simp [Act.eval, Act.put]) (by simp [Act.eval, Act.put]) w.heap.size m (repRow x n m) 3 HBK.out (reps x k) HL3.out (fun _ => ⟨rfl, _, rfl, HC3.out⟩) HF3.out reps_one w.heap.size w HBL.out (Nat.le_refl _) ?_; intro w4 hG4 hB4; have HG4 := Lib.hid (show Blk w4 w.heap.size (repRow x n (m + k)).toArray 3 from by have := hG4.out; rw [splice_rep (by omega)] at this; exact this); have HB4 := Lib.hid hB4; clear hG4 hB4)
      all_goals go_simp
      all_goals go_wp2
      all_goals go_roundw
      all_goals first
        | exact ⟨m + k, by rw [HSM.out], by omega, by omega, ⟨HG4.out⟩, ⟨HB4.out⟩⟩
        | (rw [HSM.out]; simp only [intOf]; omega)
    · obtain rfl : m = n := by omega
      go_wp2_with fail
      go_ret
      refine ⟨_, rfl, ⟨by rw [reps_length]; omega, Or.inr ⟨_, _, _, rfl, Nat.le_refl _, hbk, Nat.le_refl _, by unfold maxLen; omega, by simp [repRow_length], by simp [repRow, reps]⟩⟩, hbl⟩
end Go.Proofs.Ytpbicdbicikniaa
