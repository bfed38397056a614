/- annonalaw10.TokenLine: it answers true. -/
import Derived.Test.YtpbicdbicikniaaAlive
namespace Go.Proofs.Ytpbicdbicikniaa
open Go.RowKit
set_option linter.unusedVariables false
set_option maxRecDepth 100000

def fitsB (t : TokenV) : Bool := decide (t.stamps.length ≤ 100) && decide (t.table.rows.length ≤ 100) && t.table.rows.all fun r => decide (r.out.length ≤ 100)
theorem fits_of (t : TokenV) (h : fitsB t = true) : Fits t := by
  unfold fitsB at h
  simp only [Bool.and_eq_true, decide_eq_true_eq, List.all_eq_true] at h
  exact ⟨by omega, by omega, fun r hr => by have := h.2 r hr; omega⟩

set_option maxHeartbeats 1000000 in
theorem fits_c (S : Bs) (v : Value) (t : TokenV) (w : World) (h : TokR S w v t) :
    Calls Try.prog 14 #[v] w fun e w' => e = .returned (.bool (fitsB t)) ∧ Below w.heap.size w w' := by
  obtain ⟨sv, rv, rfl, i1, i2, i3, hs, hr⟩ := h
  obtain ⟨A, c, rfl⟩ := Sl.shape hs
  have hr0 := hr
  obtain ⟨A2, c2, rfl⟩ := Sl.shape hr0
  have HR := Lib.hid (hr.below (bel_alloc (o := .cells #[.int .i64 t.gen, .int .i64 t.hop, .slice A t.stamps.length c, .int .i64 t.table.start, .slice A2 t.table.rows.length c2] 29) (Below.refl _ _)))
  clear hs hr hr0
  by_cases h1 : 100 < t.stamps.length
  · have HF := Lib.hid (show fitsB t = false from by unfold fitsB; rw [show decide (t.stamps.length ≤ 100) = false from by simp; omega]; rfl)
    have q1 : decide ((100 : Int) < (t.stamps.length : Int)) = true := by simp; omega
    go_enter Try.func14, Try.ntmps14
    go_wp2_with fail
    go_ret
    exact ⟨ret_bool HF.out.symm, (by repeat (with_reducible first | assumption | exact Below.refl _ _ | apply bel_alloc | apply bel_drew | apply bel_drewN | (refine bel_set ?_ (by simp; try omega) _)))⟩
  have q1 : decide ((100 : Int) < (t.stamps.length : Int)) = false := by simp; omega
  by_cases h2 : 100 < t.table.rows.length
  · have HF := Lib.hid (show fitsB t = false from by unfold fitsB; rw [show decide (t.table.rows.length ≤ 100) = false from by simp; omega]; simp)
    have q2 : decide ((100 : Int) < (t.table.rows.length : Int)) = true := by simp; omega
    go_enter Try.func14, Try.ntmps14
    go_wp2_with fail
    go_ret
    exact ⟨ret_bool HF.out.symm, (by repeat (with_reducible first | assumption | exact Below.refl _ _ | apply bel_alloc | apply bel_drew | apply bel_drewN | (refine bel_set ?_ (by simp; try omega) _)))⟩
  have q2 : decide ((100 : Int) < (t.table.rows.length : Int)) = false := by simp; omega
  go_enter Try.func14, Try.ntmps14
  go_wp2_with fail
  go_loop [3] (fun iv => ∃ k : Nat, k ≤ t.table.rows.length ∧ iv = .int .i64 k ∧ As (∀ j, j < k → (rowAt t.table.rows j).out.length ≤ 100)) (fun i => t.table.rows.length - (intOf i).toNat)
  case atStart => exact ⟨0, Nat.zero_le _, rfl, ⟨fun j hj => by omega⟩⟩
  case round =>
    obtain ⟨k, hk, rfl, ⟨hj⟩⟩ := hrel
    have HJ := Lib.hid hj
    clear hj
    by_cases hlt : k < t.table.rows.length
    · obtain ⟨b, off, ov, rfl, _, _, _, _, ho, _, _, _, c4⟩ := HR.out.row_at k hlt
      obtain ⟨A3, c3, rfl⟩ := Sl.shape ho
      clear ho
      by_cases h3 : 100 < (rowAt t.table.rows k).out.length
      · have HF := Lib.hid (show fitsB t = false from by
          unfold fitsB
          have : (t.table.rows.all fun r => decide (r.out.length ≤ 100)) = false := by
            rw [List.all_eq_false]
            refine ⟨t.table.rows[k], List.getElem_mem hlt, ?_⟩
            have e : rowAt t.table.rows k = t.table.rows[k] := by simp [rowAt, hlt]
            rw [e] at h3; simp; omega
          rw [this]; simp)
        have q3 : decide ((100 : Int) < ((rowAt t.table.rows k).out.length : Int)) = true := by simp; omega
        go_wp2_with fail
        go_ret
        exact ⟨ret_bool HF.out.symm, (by repeat (with_reducible first | assumption | exact Below.refl _ _ | apply bel_alloc | apply bel_drew | apply bel_drewN | (refine bel_set ?_ (by simp; try omega) _)))⟩
      · have q3 : decide ((100 : Int) < ((rowAt t.table.rows k).out.length : Int)) = false := by simp; omega
        have HJ2 := Lib.hid (show ∀ j, j < k + 1 → (rowAt t.table.rows j).out.length ≤ 100 from fun j hj => by
          rcases Nat.lt_or_ge j k with h | h
          · exact HJ.out j h
          · obtain rfl : j = k := by omega
            omega)
        go_wp2_with fail
        go_round
        case rel => exact ⟨k + 1, by omega, by go_num, ⟨HJ2.out⟩⟩
        case measure => simp [intOf]; omega
    · obtain rfl : k = t.table.rows.length := by omega
      have HF := Lib.hid (show fitsB t = true from by
        unfold fitsB
        simp only [Bool.and_eq_true, decide_eq_true_eq, List.all_eq_true]
        refine ⟨⟨by omega, by omega⟩, fun r hr => ?_⟩
        obtain ⟨j, hj, rfl⟩ := List.getElem_of_mem hr
        have := HJ.out j hj
        have e : rowAt t.table.rows j = t.table.rows[j] := by simp [rowAt, hj]
        rw [e] at this; exact this)
      go_wp2_with fail
      go_ret
      exact ⟨ret_bool HF.out.symm, (by repeat (with_reducible first | assumption | exact Below.refl _ _ | apply bel_alloc | apply bel_drew | apply bel_drewN | (refine bel_set ?_ (by simp; try omega) _)))⟩

theorem newer_asym (a b c d : Int) (h : newerB a b c d = true) : newerB c d a b = false := by
  cases h' : newerB c d a b with
  | false => rfl
  | true =>
    exfalso
    unfold newerB at h h'
    simp at h h'
    omega
theorem newer_total (a b c d : Int) (h : newerB a b c d = false) (h' : newerB c d a b = false) : a = c ∧ b = d := by
  unfold newerB at h h'
  simp at h h'
  omega
theorem newer_irr (a b c d : Int) (h : a = c ∧ b = d) : newerB a b c d = false ∧ newerB c d a b = false := by
  obtain ⟨rfl, rfl⟩ := h
  unfold newerB
  simp
theorem newer_trans (a b c d e f : Int) (h : newerB a b c d = true) (h' : newerB c d e f = true) : newerB a b e f = true := by
  unfold newerB at *
  simp at *
  omega
theorem newer_next (a b : Int) : newerB a (b + 1) a b = true := by unfold newerB; simp; omega

set_option maxHeartbeats 4000000 in
theorem tokenLine_c (S : Bs) (v : Value) (t : TokenV) (x0 x1 x2 x3 x4 x5 : Int) (w : World) (h : TokR S w v t) :
    Calls Try.prog 4 #[.agg #[.int .i64 x0, .int .i64 x1, .int .i64 x2, .int .i64 x3, .int .i64 x4, .int .i64 x5], v] w fun e w' => e = .returned (.bool true) ∧ Below w.heap.size w w' := by
  have ht := h
  obtain ⟨A, c, B, d, rfl⟩ := tok_shape h
  have HT := Lib.hid (h.fit)
  clear h
  obtain ⟨W0, hW0⟩ : ∃ W0, W0 = (w.alloc (.cells #[.int .i64 x0, .int .i64 x1, .int .i64 x2, .int .i64 x3, .int .i64 x4, .int .i64 x5] 40)).alloc (.cells #[.int .i64 t.gen, .int .i64 t.hop, .slice A t.stamps.length c, .int .i64 t.table.start, .slice B t.table.rows.length d] 29) := ⟨_, rfl⟩
  have HB := Lib.hid (show Below w.heap.size w W0 from by rw [hW0]; exact bel_alloc (bel_alloc (Below.refl _ _)))
  have HT0 := Lib.hid (HT.out.below HB.out)
  have Ka := Lib.hid (show Blk W0 w.heap.size #[.int .i64 x0, .int .i64 x1, .int .i64 x2, .int .i64 x3, .int .i64 x4, .int .i64 x5] 40 from by rw [hW0]; exact (blk_new _ _ _).alloc _)
  have Kb := Lib.hid (show Blk W0 (w.heap.size + 1) #[.int .i64 t.gen, .int .i64 t.hop, .slice A t.stamps.length c, .int .i64 t.table.start, .slice B t.table.rows.length d] 29 from by rw [hW0]; have := blk_new (w.alloc (.cells #[.int .i64 x0, .int .i64 x1, .int .i64 x2, .int .i64 x3, .int .i64 x4, .int .i64 x5] 40)) #[.int .i64 t.gen, .int .i64 t.hop, .slice A t.stamps.length c, .int .i64 t.table.start, .slice B t.table.rows.length d] 29; rw [World.size_alloc] at this; exact this)
  have HFC := Lib.hid (fits_c _ _ t _ HT0.out)
  cases hf : fitsB t with
  | false =>
    rw [hf] at HFC
    go_enter Try.func4, Try.ntmps4
    go_upto_region 1 with fail
    rw [← hW0]
    clear hW0
    have zb := Kb.out
    have q0 := zb.cell 0 _ rfl; have q1 := zb.cell 1 _ rfl; have q2 := zb.cell 2 _ rfl; have q3 := zb.cell 3 _ rfl; have q4 := zb.cell 4 _ rfl; have qf := zb.frozen
    clear zb
    go_wp2_with (first | (go_at_call 14; refine HFC.out.mono ?_; rintro e w1 ⟨rfl, hb1⟩; have HB1 := Lib.hid (bel_trans HB.out hb1); clear hb1) | (go_at_call 13; refine (alive_c _).mono ?_; rintro e w5 ⟨rfl, hb5⟩; have HB5 := Lib.hid (bel_trans HB1.out hb5); clear hb5))
    go_ret
    exact ⟨rfl, HB5.out⟩
  | true =>
    have HFT := Lib.hid (fits_of t hf)
    rw [hf] at HFC
    go_enter Try.func4, Try.ntmps4
    go_upto_region 1 with fail
    rw [← hW0]
    clear hW0
    have zb := Kb.out
    have q0 := zb.cell 0 _ rfl; have q1 := zb.cell 1 _ rfl; have q2 := zb.cell 2 _ rfl; have q3 := zb.cell 3 _ rfl; have q4 := zb.cell 4 _ rfl; have qf := zb.frozen
    clear zb
    go_upto_region 4 with (go_at_call 14; refine HFC.out.mono ?_; rintro e w1 ⟨rfl, hb1⟩; have HB1 := Lib.hid (bel_trans HB.out hb1); have HT1 := Lib.hid (HT0.out.below hb1); have Ka1 := Lib.hid (Ka.out.below hb1); have Kb1 := Lib.hid (Kb.out.below hb1); clear hb1 q0 q1 q2 q3 q4 qf; have za := Ka1.out; have p0 := za.cell 0 _ rfl; have p1 := za.cell 1 _ rfl; have p2 := za.cell 2 _ rfl; have p3 := za.cell 3 _ rfl; have p4 := za.cell 4 _ rfl; have p5 := za.cell 5 _ rfl; have pf := za.frozen; clear za)
    go_upto_region 5 with (go_at_call 11; refine (newer_c _ _ _ _ _).mono ?_; rintro e w2 ⟨rfl, hb2⟩; have HB2 := Lib.hid (bel_trans HB1.out hb2); have HT2 := Lib.hid (HT1.out.below hb2); have Ka2 := Lib.hid (Ka1.out.below hb2); have Kb2 := Lib.hid (Kb1.out.below hb2); clear hb2 p0 p1 p2 p3 p4 p5 pf; have za := Ka2.out; have p0 := za.cell 0 _ rfl; have p1 := za.cell 1 _ rfl; have p2 := za.cell 2 _ rfl; have p3 := za.cell 3 _ rfl; have p4 := za.cell 4 _ rfl; have p5 := za.cell 5 _ rfl; have pf := za.frozen; clear za)
    go_upto_region 6 with (go_at_call 11; refine (newer_c _ _ _ _ _).mono ?_; rintro e w3 ⟨rfl, hb3⟩; have HB3 := Lib.hid (bel_trans HB2.out hb3); have HT3 := Lib.hid (HT2.out.below hb3); have Ka3 := Lib.hid (Ka2.out.below hb3); have Kb3 := Lib.hid (Kb2.out.below hb3); clear hb3 p0 p1 p2 p3 p4 p5 pf; have za := Ka3.out; have p0 := za.cell 0 _ rfl; have p1 := za.cell 1 _ rfl; have p2 := za.cell 2 _ rfl; have p3 := za.cell 3 _ rfl; have p4 := za.cell 4 _ rfl; have p5 := za.cell 5 _ rfl; have pf := za.frozen; clear za)
    go_upto_region 7 with (go_at_call 11; refine (newer_c _ _ _ _ _).mono ?_; rintro e w4 ⟨rfl, hb4⟩; have HB4 := Lib.hid (bel_trans HB3.out hb4); have HT4 := Lib.hid (HT3.out.below hb4); have Ka4 := Lib.hid (Ka3.out.below hb4); have Kb4 := Lib.hid (Kb3.out.below hb4); clear hb4 p0 p1 p2 p3 p4 p5 pf; have za := Ka4.out; have p0 := za.cell 0 _ rfl; have p1 := za.cell 1 _ rfl; have p2 := za.cell 2 _ rfl; have p3 := za.cell 3 _ rfl; have p4 := za.cell 4 _ rfl; have p5 := za.cell 5 _ rfl; have pf := za.frozen; clear za)
    go_upto_region 8 with (go_at_call 11; refine (newer_c _ _ _ _ _).mono ?_; rintro e w5 ⟨rfl, hb5⟩; have HB5 := Lib.hid (bel_trans HB4.out hb5); have HT5 := Lib.hid (HT4.out.below hb5); have Ka5 := Lib.hid (Ka4.out.below hb5); have Kb5 := Lib.hid (Kb4.out.below hb5); clear hb5 p0 p1 p2 p3 p4 p5 pf; have za := Ka5.out; have p0 := za.cell 0 _ rfl; have p1 := za.cell 1 _ rfl; have p2 := za.cell 2 _ rfl; have p3 := za.cell 3 _ rfl; have p4 := za.cell 4 _ rfl; have p5 := za.cell 5 _ rfl; have pf := za.frozen; clear za)
    have zb := Kb5.out
    have q0 := zb.cell 0 _ rfl; have q1 := zb.cell 1 _ rfl; have q2 := zb.cell 2 _ rfl; have q3 := zb.cell 3 _ rfl; have q4 := zb.cell 4 _ rfl; have qf := zb.frozen
    clear zb
    have HPC := Lib.hid (pass_c _ _ t _ HT5.out HFT.out)
    go_upto_region 9 with (go_at_call 15; refine HPC.out.mono ?_; rintro e w6 ⟨v6, rfl, ht6, hb6⟩; obtain ⟨A6, c6, B6, d6, rfl⟩ := tok_shape ht6; have HB6 := Lib.hid (bel_alloc (o := .cells #[.int .i64 (passT t).gen, .int .i64 (passT t).hop, .slice A6 (passT t).stamps.length c6, .int .i64 (passT t).table.start, .slice B6 (passT t).table.rows.length d6] 29) (bel_trans HB5.out hb6)); have Ka6 := Lib.hid ((Ka5.out.below hb6).alloc (.cells #[.int .i64 (passT t).gen, .int .i64 (passT t).hop, .slice A6 (passT t).stamps.length c6, .int .i64 (passT t).table.start, .slice B6 (passT t).table.rows.length d6] 29)); have Kb6 := Lib.hid ((Kb5.out.below hb6).alloc (.cells #[.int .i64 (passT t).gen, .int .i64 (passT t).hop, .slice A6 (passT t).stamps.length c6, .int .i64 (passT t).table.start, .slice B6 (passT t).table.rows.length d6] 29)); have Kc6 := Lib.hid (blk_new w6 #[.int .i64 (passT t).gen, .int .i64 (passT t).hop, .slice A6 (passT t).stamps.length c6, .int .i64 (passT t).table.start, .slice B6 (passT t).table.rows.length d6] 29); clear hb6 ht6)
    obtain ⟨W7, hW7⟩ : ∃ W7, W7 = w6.alloc (.cells #[.int .i64 (passT t).gen, .int .i64 (passT t).hop, .slice A6 (passT t).stamps.length c6, .int .i64 (passT t).table.start, .slice B6 (passT t).table.rows.length d6] 29) := ⟨_, rfl⟩
    rw [← hW7] at HB6 Ka6 Kb6 Kc6
    rw [← hW7]
    clear hW7 p0 p1 p2 p3 p4 p5 pf q0 q1 q2 q3 q4 qf
    have za := Ka6.out
    have zb := Kb6.out
    have zc := Kc6.out
    have la := za.lt
    have lb := zb.lt
    have lc := zc.lt
    have p0 := za.cell 0 _ rfl; have p1 := za.cell 1 _ rfl; have p2 := za.cell 2 _ rfl; have p3 := za.cell 3 _ rfl; have p4 := za.cell 4 _ rfl; have p5 := za.cell 5 _ rfl; have pf := za.frozen
    have q0 := zb.cell 0 _ rfl; have q1 := zb.cell 1 _ rfl; have q2 := zb.cell 2 _ rfl; have q3 := zb.cell 3 _ rfl; have q4 := zb.cell 4 _ rfl; have qf := zb.frozen
    have r0 := zc.cell 0 _ rfl; have r1 := zc.cell 1 _ rfl; have r2 := zc.cell 2 _ rfl; have r3 := zc.cell 3 _ rfl; have r4 := zc.cell 4 _ rfl; have rf := zc.frozen
    clear za zb zc
    have hpe : passE t = 6 ∨ (passE t = 0 ∧ newerB (passT t).gen (passT t).hop t.gen t.hop = true) := by
      unfold passE passT
      by_cases hh : 1099511627776 ≤ t.hop
      · left; rw [if_pos hh]
      · right; rw [if_neg hh, if_neg hh]; exact ⟨rfl, newer_next _ _⟩
    have HN1 := Lib.hid (newer_asym x0 x1 x2 x3)
    have HN2 := Lib.hid (newer_total x0 x1 x2 x3)
    have HN3 := Lib.hid (newer_irr x0 x1 x2 x3)
    have HN4 := Lib.hid (newer_trans x0 x1 x2 x3 x4 x5)
    generalize passE t = pe at *
    generalize newerB x0 x1 x2 x3 = ab at *
    generalize newerB x2 x3 x0 x1 = ba at *
    generalize newerB x2 x3 x4 x5 = bc at *
    generalize newerB x0 x1 x4 x5 = ac at *
    rcases hpe with rfl | ⟨rfl, hnb⟩
    all_goals
      (refine wp_region_bel (by kernel_rfl) (by kernel_rfl) ?_; (repeat (go_big_quiet_step ((first | (go_at_call 16; exact qb (at_c _ _ _ _ _ _)) | (go_at_call 11; exact qb (newer_c _ _ _ _ _)))))); refine wpQuiet_nil ?_; intro W hw9; have hW := wb_below hw9; clear hw9)
      have HBW := Lib.hid (bel_trans HB6.out hW)
      have HKW := Lib.hid (Ka6.out.below hW)
      clear hW
      clear p0 p1 p2 p3 p4 p5 pf
      have hx : ((ab = true ∧ ba = false) ∨ (ab = false ∧ ba = true)) ∧ ((x0 == x2) = false ∨ ((x0 == x2) = true ∧ (x1 == x3) = false)) ∨ ab = false ∧ ba = false ∧ (x0 == x2) = true ∧ (x1 == x3) = true := by
        have a1 := HN1.out
        have a2 := HN2.out
        have a3 := HN3.out
        cases ab <;> cases ba <;> simp at a1 a2 a3 ⊢ <;> omega
      have hy := HN4.out
      clear HN1 HN2 HN3 HN4
      rcases hx with ⟨⟨rfl, rfl⟩ | ⟨rfl, rfl⟩, e0 | ⟨e0, e1⟩⟩ | ⟨rfl, rfl, e0, e1⟩
    all_goals cases bc
    all_goals cases ac
    all_goals first
      | (exfalso; exact absurd (hy rfl rfl) (by decide))
      | skip
    all_goals clear hy
    all_goals
      go_wp2_with (go_at_call 13; refine (alive_c _).mono ?_; rintro e w9 ⟨rfl, hb9⟩; have HB9 := Lib.hid (bel_trans HBW.out hb9); have zk := HKW.out.below hb9; clear hb9; have p0 := zk.cell 0 _ rfl; have p1 := zk.cell 1 _ rfl; have p2 := zk.cell 2 _ rfl; have p3 := zk.cell 3 _ rfl; have p4 := zk.cell 4 _ rfl; have p5 := zk.cell 5 _ rfl; have pf := zk.frozen; clear zk)
      go_ret
      exact ⟨rfl, HB9.out⟩
end Go.Proofs.Ytpbicdbicikniaa
