/- Leases, rows, tables and tokens: how they read; whether they may be. -/
import Derived.Test.YtpbicdbicikniaaNum
namespace Go.Proofs.Ytpbicdbicikniaa
open Go.RowKit
set_option linter.unusedVariables false

structure LeaseV where
  node : Int
  amount : Int
structure RowV where
  key : Int
  avail : Int
  mark : Int
  out : List LeaseV
structure TableV where
  start : Int
  rows : List RowV
structure TokenV where
  gen : Int
  hop : Int
  stamps : List Int
  table : TableV

def leaseE : Ek LeaseV := flatE 2 (fun x => [.int .i64 x.node, .int .i64 x.amount]) (fun _ => rfl) (fun x => I64 x.node ∧ I64 x.amount)

def rowE : Ek RowV where
  sz := 4
  R := fun S w cs x => ∃ ov, cs = [.int .i64 x.key, .int .i64 x.avail, .int .i64 x.mark, ov] ∧ I64 x.key ∧ I64 x.avail ∧ I64 x.mark ∧ Sl leaseE S w ov x.out
  len := by rintro S w cs x ⟨ov, rfl, _⟩; rfl
  mono := by rintro S w w' cs x hw ⟨ov, rfl, h1, h2, h3, h4⟩; exact ⟨ov, rfl, h1, h2, h3, h4.mono hw⟩
  sub := by rintro S T w cs x hST ⟨ov, rfl, h1, h2, h3, h4⟩; exact ⟨ov, rfl, h1, h2, h3, h4.sub hST⟩
  fit := by rintro S w cs x ⟨ov, rfl, h1, h2, h3, h4⟩; exact ⟨ov, rfl, h1, h2, h3, h4.fit (by decide)⟩

def leaseAt (l : List LeaseV) (j : Nat) : LeaseV := l.getD j ⟨0, 0⟩
def rowAt (l : List RowV) (j : Nat) : RowV := l.getD j ⟨0, 0, 0, []⟩

/-- A lease of a slice. -/
theorem Sl.lease_at {S : Bs} {w : World} {A : Option Addr} {n c : Nat} {xs : List LeaseV} (h : Sl leaseE S w (.slice A n c) xs) (k : Nat) (hk : k < xs.length) :
    ∃ b off, A = some ⟨b, off, none⟩ ∧ S b ∧ I64 (leaseAt xs k).node ∧ I64 (leaseAt xs k).amount ∧ w.cell? ⟨b, off + k * 2, none⟩ = some (.int .i64 (leaseAt xs k).node) ∧ w.cell? ⟨b, off + k * 2 + 1, none⟩ = some (.int .i64 (leaseAt xs k).amount) := by
  obtain ⟨A', c', e, _, _, h3⟩ := h
  obtain ⟨rfl, _, _⟩ : A = A' ∧ n = xs.length ∧ c = c' := by injection e with e1 e2 e3; exact ⟨e1, e2, e3⟩
  have e1 : xs[k]? = some (leaseAt xs k) := by simp [leaseAt, hk]
  obtain ⟨b, off, cs, rfl, hS, ⟨rfl, hI⟩, hc⟩ := h3 k _ e1
  exact ⟨b, off, rfl, hS, hI.1, hI.2, hc 0 _ rfl, hc 1 _ rfl⟩

/-- A row of a slice. -/
theorem Sl.row_at {S : Bs} {w : World} {A : Option Addr} {n c : Nat} {xs : List RowV} (h : Sl rowE S w (.slice A n c) xs) (k : Nat) (hk : k < xs.length) :
    ∃ b off ov, A = some ⟨b, off, none⟩ ∧ S b ∧ I64 (rowAt xs k).key ∧ I64 (rowAt xs k).avail ∧ I64 (rowAt xs k).mark ∧ Sl leaseE S w ov (rowAt xs k).out ∧
      w.cell? ⟨b, off + k * 4, none⟩ = some (.int .i64 (rowAt xs k).key) ∧ w.cell? ⟨b, off + k * 4 + 1, none⟩ = some (.int .i64 (rowAt xs k).avail) ∧
      w.cell? ⟨b, off + k * 4 + 2, none⟩ = some (.int .i64 (rowAt xs k).mark) ∧ w.cell? ⟨b, off + k * 4 + 3, none⟩ = some ov := by
  obtain ⟨A', c', e, _, _, h3⟩ := h
  obtain ⟨rfl, _, _⟩ : A = A' ∧ n = xs.length ∧ c = c' := by injection e with e1 e2 e3; exact ⟨e1, e2, e3⟩
  have e1 : xs[k]? = some (rowAt xs k) := by simp [rowAt, hk]
  obtain ⟨b, off, cs, rfl, hS, ⟨ov, rfl, i1, i2, i3, hs⟩, hc⟩ := h3 k _ e1
  exact ⟨b, off, ov, rfl, hS, i1, i2, i3, hs, hc 0 _ rfl, hc 1 _ rfl, hc 2 _ rfl, hc 3 _ rfl⟩

/-- All of the first ones. -/
def allUp (p : Nat → Bool) (n : Nat) : Bool := (List.range n).all p
theorem allUp_zero (p : Nat → Bool) : allUp p 0 = true := rfl
theorem allUp_succ (p : Nat → Bool) (n : Nat) : allUp p (n + 1) = (allUp p n && p n) := by simp [allUp, List.range_succ]
theorem allUp_false {p : Nat → Bool} {n k : Nat} (hk : k < n) (h : p k = false) : allUp p n = false := by
  simp only [allUp, List.all_eq_false, List.mem_range]
  exact ⟨k, hk, by simp [h]⟩
theorem allUp_iff {p : Nat → Bool} {n : Nat} : allUp p n = true ↔ ∀ k, k < n → p k = true := by simp [allUp]

def leaseOk (l : List LeaseV) (j : Nat) : Bool :=
  inB (leaseAt l j).node 0 63 && inB (leaseAt l j).amount 1 2147483648 && (decide (j = 0) || decide ((leaseAt l (j - 1)).node < (leaseAt l j).node))
def leasesB (l : List LeaseV) : Bool := allUp (leaseOk l) l.length && decide (l.length ≤ 64)

set_option maxHeartbeats 4000000 in
theorem leases_c (S : Bs) (v : Value) (l : List LeaseV) (w : World) (h : Sl leaseE S w v l) :
    Calls Try.prog 123 #[v] w fun e w' => e = .returned (.bool (leasesB l)) ∧ Below w.heap.size w w' := by
  have h0 := h
  obtain ⟨A, c, rfl, hl, hc, _⟩ := h0
  go_enter Try.func123, Try.ntmps123
  go_wp2
  go_loopw [7] (fun i wr => ∃ k : Nat, k ≤ l.length ∧ i = .int .i64 k ∧ allUp (leaseOk l) k = true ∧ Below w.heap.size w wr) (fun i _ => l.length - (intOf i).toNat)
  case atStart => exact ⟨0, Nat.zero_le _, rfl, rfl, Below.refl _ _⟩
  case round =>
    obtain ⟨k, hk, rfl, hup, hb⟩ := hrel
    have HU := Lib.hid hup; clear hup
    by_cases hlt : k < l.length
    · obtain ⟨b, off, rfl, hS, i1, i2, c1, c2⟩ := (h.below hb).lease_at k hlt
      cases h1 : inB (leaseAt l k).node 0 63
      · have HF := Lib.hid (show leasesB l = false from by unfold leasesB; rw [allUp_false hlt (by unfold leaseOk; rw [h1]; rfl)]; rfl)
        go_wp2
        go_quiet ((go_at_call 85; exact qs (in_c _ _ _ _)))
        go_wp2
        go_ret
        exact ⟨ret_bool HF.out.symm, (by repeat (with_reducible first | assumption | exact Below.refl _ _ | apply bel_alloc | apply bel_drew | apply bel_drewN | (refine bel_set ?_ (by simp; try omega) _)))⟩
      cases h2 : inB (leaseAt l k).amount 1 2147483648
      · have HF := Lib.hid (show leasesB l = false from by unfold leasesB; rw [allUp_false hlt (by unfold leaseOk; rw [h1, h2]; rfl)]; rfl)
        go_wp2
        go_quiet ((go_at_call 85; exact qs (in_c _ _ _ _)))
        go_wp2
        go_ret
        exact ⟨ret_bool HF.out.symm, (by repeat (with_reducible first | assumption | exact Below.refl _ _ | apply bel_alloc | apply bel_drew | apply bel_drewN | (refine bel_set ?_ (by simp; try omega) _)))⟩
      by_cases hk0 : k = 0
      · have HF : Hid (leaseOk l k = true) := by unfold leaseOk; rw [h1, h2, hk0]; rfl
        have hd : decide (0 < k) = false := by simp; omega
        have HK := Lib.hid hk0
        clear hk0
        go_wp2
        go_quiet ((go_at_call 85; exact qs (in_c _ _ _ _)))
        go_wp2
        go_roundw
        case rel => exact ⟨k + 1, by omega, by go_num, by rw [allUp_succ, HU.out, HF.out]; rfl, (by repeat (with_reducible first | assumption | exact Below.refl _ _ | apply bel_alloc | apply bel_drew | apply bel_drewN | (refine bel_set ?_ (by simp; try omega) _)))⟩
        case measure => simp [intOf]; omega
      · have hd : decide (0 < k) = true := by simp; omega
        obtain ⟨b', off', e, _, i3, _, c3, _⟩ := (h.below hb).lease_at (k - 1) (by omega)
        injection e with e
        injection e with e1 e2
        subst e1; subst e2
        cases h3 : decide ((leaseAt l k).node ≤ (leaseAt l (k - 1)).node)
        · have HF := Lib.hid (show leaseOk l k = true from by unfold leaseOk; rw [h1, h2]; have := of_decide_eq_false h3; simp only [Bool.true_and, Bool.or_eq_true, decide_eq_true_eq]; omega)
          have hz : 0 < k := by omega
          have hblt := World.block_lt_of_cell? _ _ c3
          go_wp2
          go_quiet ((go_at_call 85; exact qs (in_c _ _ _ _)))
          go_wp2
          go_roundw
          case rel => exact ⟨k + 1, by omega, by go_num, by rw [allUp_succ, HU.out, HF.out]; rfl, (by repeat (with_reducible first | assumption | exact Below.refl _ _ | apply bel_alloc | apply bel_drew | apply bel_drewN | (refine bel_set ?_ (by simp; try omega) _)))⟩
          case measure => simp [intOf]; omega
        · have HF := Lib.hid (show leasesB l = false from by unfold leasesB; rw [allUp_false hlt (by unfold leaseOk; rw [h1, h2]; have := of_decide_eq_true h3; simp only [Bool.true_and, Bool.or_eq_false_iff, decide_eq_false_iff_not]; omega)]; rfl)
          have hz : 0 < k := by omega
          have hblt := World.block_lt_of_cell? _ _ c3
          go_wp2
          go_quiet ((go_at_call 85; exact qs (in_c _ _ _ _)))
          go_wp2
          go_ret
          exact ⟨ret_bool HF.out.symm, (by repeat (with_reducible first | assumption | exact Below.refl _ _ | apply bel_alloc | apply bel_drew | apply bel_drewN | (refine bel_set ?_ (by simp; try omega) _)))⟩
    · have HF : Hid (leasesB l = decide (l.length ≤ 64)) := by
        unfold leasesB
        have : k = l.length := by omega
        rw [← this, HU.out, this]; rfl
      go_wp2
      go_ret
      exact ⟨ret_bool (by rw [HF.out]; simp; omega), (by repeat (with_reducible first | assumption | exact Below.refl _ _ | apply bel_alloc | apply bel_drew | apply bel_drewN | (refine bel_set ?_ (by simp; try omega) _)))⟩

def rowOk (t : TableV) (j : Nat) : Bool :=
  rightKeyB (rowAt t.rows j).key && inB (rowAt t.rows j).avail 0 2147483648 && inB (rowAt t.rows j).mark t.start 4611686018427387904 && leasesB (rowAt t.rows j).out && (decide (j = 0) || decide ((rowAt t.rows (j - 1)).key < (rowAt t.rows j).key))
def tableB (t : TableV) : Bool := allUp (rowOk t) t.rows.length && (inB t.start 0 4611686018427387904 && decide (t.rows.length ≤ 16))

set_option maxHeartbeats 4000000 in
theorem table_c (S : Bs) (rv : Value) (t : TableV) (w : World) (h : Sl rowE S w rv t.rows) :
    Calls Try.prog 86 #[.agg #[.int .i64 t.start, rv]] w fun e w' => e = .returned (.bool (tableB t)) ∧ Below w.heap.size w w' := by
  have h0 := h
  obtain ⟨A, c, rfl, hl, hc, _⟩ := h0
  go_enter Try.func86, Try.ntmps86
  go_wp2
  obtain ⟨w1, hw1⟩ : ∃ w1, w1 = w.alloc (Obj.cells #[Value.int .i64 t.start, Value.slice A t.rows.length c] 27) := ⟨_, rfl⟩
  have hb1 : Below w.heap.size w w1 := by rw [hw1]; exact bel_alloc (Below.refl _ _)
  have d0 : w1.cell? ⟨w.heap.size, 0, none⟩ = some (.int .i64 t.start) := by rw [hw1]; exact new_cell _ _ _ _ _ rfl
  have d1 : w1.cell? ⟨w.heap.size, 1, none⟩ = some (.slice A t.rows.length c) := by rw [hw1]; exact new_cell _ _ _ _ _ rfl
  rw [← hw1]
  clear hw1
  go_loopw [8] (fun i wr => ∃ k : Nat, k ≤ t.rows.length ∧ i = .int .i64 k ∧ allUp (rowOk t) k = true ∧ Below w1.heap.size w1 wr) (fun i _ => t.rows.length - (intOf i).toNat)
  case atStart => exact ⟨0, Nat.zero_le _, rfl, rfl, Below.refl _ _⟩
  case round =>
    obtain ⟨k, hk, rfl, hup, hb⟩ := hrel
    have HU := Lib.hid hup; clear hup
    have d0' := cell_bel hb d0
    have d1' := cell_bel hb d1
    have hbw := bel_trans hb1 hb
    have HB := Lib.hid hbw
    by_cases hlt : k < t.rows.length
    · obtain ⟨b, off, ov, rfl, hS, i1, i2, i3, ho, c1, c2, c3, c4⟩ := (h.below hbw).row_at k hlt
      have ho0 := ho
      obtain ⟨Ao, co, rfl, _, _, _⟩ := ho0
      have hblt := World.block_lt_of_cell? _ _ c1
      have hdlt := World.block_lt_of_cell? _ _ d0'
      have hblt1 : b < wr.heap.size + 1 := Nat.lt_succ_of_lt hblt
      have hdlt1 : w.heap.size < wr.heap.size + 1 := Nat.lt_succ_of_lt hdlt
      cases h1 : rightKeyB (rowAt t.rows k).key
      · have HF := Lib.hid (show tableB t = false from by unfold tableB; rw [allUp_false hlt (by unfold rowOk; rw [h1]; rfl)]; rfl)
        go_wp2
        (refine wp_region_bel (by kernel_rfl) (by kernel_rfl) ?_; (repeat (go_big_quiet_step ((first | (go_at_call 122; exact qbs (keyRight_c _ _)) | (go_at_call 85; exact qbs (in_c _ _ _ _)))))); refine wpQuiet_nil ?_; intro W hw9; have hW := wb_below hw9; clear hw9)
        go_wp2
        go_ret
        exact ⟨ret_bool HF.out.symm, bel_trans (bel_alloc HB.out) hW⟩
      cases h2 : inB (rowAt t.rows k).avail 0 2147483648
      · have HF := Lib.hid (show tableB t = false from by unfold tableB; rw [allUp_false hlt (by unfold rowOk; rw [h1, h2]; rfl)]; rfl)
        go_wp2
        (refine wp_region_bel (by kernel_rfl) (by kernel_rfl) ?_; (repeat (go_big_quiet_step ((first | (go_at_call 122; exact qbs (keyRight_c _ _)) | (go_at_call 85; exact qbs (in_c _ _ _ _)))))); refine wpQuiet_nil ?_; intro W hw9; have hW := wb_below hw9; clear hw9)
        go_wp2
        go_ret
        exact ⟨ret_bool HF.out.symm, bel_trans (bel_alloc HB.out) hW⟩
      cases h3 : inB (rowAt t.rows k).mark t.start 4611686018427387904
      · have HF := Lib.hid (show tableB t = false from by unfold tableB; rw [allUp_false hlt (by unfold rowOk; rw [h1, h2, h3]; rfl)]; rfl)
        go_wp2
        (refine wp_region_bel (by kernel_rfl) (by kernel_rfl) ?_; (repeat (go_big_quiet_step ((first | (go_at_call 122; exact qbs (keyRight_c _ _)) | (go_at_call 85; exact qbs (in_c _ _ _ _)))))); refine wpQuiet_nil ?_; intro W hw9; have hW := wb_below hw9; clear hw9)
        go_wp2
        go_ret
        exact ⟨ret_bool HF.out.symm, bel_trans (bel_alloc HB.out) hW⟩
      have hsl := fun (i : Wb (wr.alloc (Obj.cells #[Value.int IntKind.i64 (rowAt t.rows k).key, Value.int IntKind.i64 (rowAt t.rows k).avail, Value.int IntKind.i64 (rowAt t.rows k).mark, Value.slice Ao (rowAt t.rows k).out.length co] 106))) => (ho.below (bel_alloc (Below.refl _ _))).below i.h
      have HSL := Lib.hid hsl
      clear hsl
      cases h4 : leasesB (rowAt t.rows k).out
      · have HF := Lib.hid (show tableB t = false from by unfold tableB; rw [allUp_false hlt (by unfold rowOk; rw [h1, h2, h3, h4]; rfl)]; rfl)
        go_wp2
        (refine wp_region_bel (by kernel_rfl) (by kernel_rfl) ?_; (repeat (go_big_quiet_step ((first | (go_at_call 122; exact qbs (keyRight_c _ _)) | (go_at_call 85; exact qbs (in_c _ _ _ _)) | (go_at_call 123; exact qb (leases_c S _ _ _ (HSL.out _))))))); refine wpQuiet_nil ?_; intro W hw9; have hW := wb_below hw9; clear hw9)
        go_wp2
        go_ret
        exact ⟨ret_bool HF.out.symm, bel_trans (bel_alloc HB.out) hW⟩
      by_cases hk0 : k = 0
      · have HF := Lib.hid (show rowOk t k = true from by unfold rowOk; rw [h1, h2, h3, h4, hk0]; rfl)
        have hd : decide (0 < k) = false := by simp; omega
        have HK := Lib.hid hk0
        clear hk0
        go_wp2
        (refine wp_region_bel (by kernel_rfl) (by kernel_rfl) ?_; (repeat (go_big_quiet_step ((first | (go_at_call 122; exact qbs (keyRight_c _ _)) | (go_at_call 85; exact qbs (in_c _ _ _ _)) | (go_at_call 123; exact qb (leases_c S _ _ _ (HSL.out _))))))); refine wpQuiet_nil ?_; intro W hw9; have hW := wb_below hw9; clear hw9)
        go_wp2
        go_roundw
        case rel => exact ⟨k + 1, by omega, by go_num, by rw [allUp_succ, HU.out, HF.out]; rfl, bel_trans (bel_alloc hb) hW⟩
        case measure => simp [intOf]; omega
      · have hd : decide (0 < k) = true := by simp; omega
        obtain ⟨b', off', _, e, _, i4, _, _, _, c5, _⟩ := (h.below hbw).row_at (k - 1) (by omega)
        injection e with e
        injection e with e1 e2
        subst e1; subst e2
        have hz : 0 < k := by omega
        cases h5 : decide ((rowAt t.rows k).key ≤ (rowAt t.rows (k - 1)).key)
        · have HF := Lib.hid (show rowOk t k = true from by unfold rowOk; rw [h1, h2, h3, h4]; have := of_decide_eq_false h5; simp only [Bool.true_and, Bool.or_eq_true, decide_eq_true_eq]; omega)
          go_wp2
          (refine wp_region_bel (by kernel_rfl) (by kernel_rfl) ?_; (repeat (go_big_quiet_step ((first | (go_at_call 122; exact qbs (keyRight_c _ _)) | (go_at_call 85; exact qbs (in_c _ _ _ _)) | (go_at_call 123; exact qb (leases_c S _ _ _ (HSL.out _))))))); refine wpQuiet_nil ?_; intro W hw9; have hW := wb_below hw9; clear hw9)
          go_wp2
          go_roundw
          case rel => exact ⟨k + 1, by omega, by go_num, by rw [allUp_succ, HU.out, HF.out]; rfl, bel_trans (bel_alloc hb) hW⟩
          case measure => simp [intOf]; omega
        · have HF := Lib.hid (show tableB t = false from by unfold tableB; rw [allUp_false hlt (by unfold rowOk; rw [h1, h2, h3, h4]; have := of_decide_eq_true h5; simp only [Bool.true_and, Bool.or_eq_false_iff, decide_eq_false_iff_not]; omega)]; rfl)
          go_wp2
          (refine wp_region_bel (by kernel_rfl) (by kernel_rfl) ?_; (repeat (go_big_quiet_step ((first | (go_at_call 122; exact qbs (keyRight_c _ _)) | (go_at_call 85; exact qbs (in_c _ _ _ _)) | (go_at_call 123; exact qb (leases_c S _ _ _ (HSL.out _))))))); refine wpQuiet_nil ?_; intro W hw9; have hW := wb_below hw9; clear hw9)
          go_wp2
          go_ret
          exact ⟨ret_bool HF.out.symm, bel_trans (bel_alloc HB.out) hW⟩
    · have HF := Lib.hid (show tableB t = (inB t.start 0 4611686018427387904 && decide (t.rows.length ≤ 16)) from by
        unfold tableB
        have : k = t.rows.length := by omega
        rw [← this, HU.out, this]; rfl)
      cases h1 : inB t.start 0 4611686018427387904
      · go_wp2_with (go_at_call 85; refine (in_c _ _ _ _).mono ?_; rintro e w' ⟨rfl, rfl⟩)
        go_ret
        exact ⟨ret_bool (by rw [HF.out, h1]; rfl), HB.out⟩
      · go_wp2_with (go_at_call 85; refine (in_c _ _ _ _).mono ?_; rintro e w' ⟨rfl, rfl⟩)
        go_ret
        exact ⟨ret_bool (by rw [HF.out, h1]; simp; omega), HB.out⟩

end Go.Proofs.Ytpbicdbicikniaa
