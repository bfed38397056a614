/- annonalaw10.alive: the wakeful part of the laws 10 is true. -/
import Derived.Test.YtpbicdbicikniaaFresh
namespace Go.Proofs.Ytpbicdbicikniaa
open Go.RowKit
set_option linter.unusedVariables false
set_option maxRecDepth 100000

def aT1 : TokenV := ⟨7, 0, [-1, 20, -1], ⟨20, []⟩⟩
def aT3 : TokenV := ⟨7, 0, [-1, 20, 24], ⟨20, []⟩⟩
def aT4 : TokenV := ⟨7, 1, [-1, 20, 24], ⟨20, []⟩⟩
theorem a_freshB : freshB 7 3 1 20 = true := by decide
theorem a_freshE : freshE 7 3 1 20 = 0 := by unfold freshE; rw [a_freshB]; rfl
theorem a_freshT : freshT 7 3 1 20 = aT1 := by unfold freshT; rw [a_freshB]; rfl
theorem a_stampB : stampB aT1 2 24 = true := by decide
theorem a_stampE : stampE aT1 2 24 = 0 := by unfold stampE; rw [a_stampB]; rfl
theorem a_stampT : stampT aT1 2 24 = aT3 := by unfold stampT; rw [a_stampB]; rfl
theorem a_passE : passE aT3 = 0 := by decide
theorem a_passT : passT aT3 = aT4 := by unfold passT; rw [if_neg (by decide)]; rfl
theorem a_sort : sortZ [20, 24] = [20, 24] := by
  unfold sortZ
  exact List.mergeSort_of_pairwise (by simp)
theorem a_until1 : untilZ [-1, 20, -1] 5 = -1 := by
  unfold untilZ
  rw [show nthB (List.filter (fun x => !decide (x < 0)) [-1, 20, -1]) (majZ ([-1, 20, -1] : List Int).length) = false from by decide]; rfl
theorem a_nth : nthV [20, 24] 2 = 20 := by
  unfold nthV
  rw [show nthB [20, 24] 2 = true from by decide]
  unfold nthZ
  rw [a_sort]; rfl
theorem a_until3 : untilZ [-1, 20, 24] 5 = 25 := by
  unfold untilZ
  rw [show List.filter (fun x => !decide (x < 0)) [-1, 20, 24] = ([20, 24] : List Int) from by decide, show majZ ([-1, 20, 24] : List Int).length = 2 from by decide, a_nth, show nthB [20, 24] 2 = true from by decide]
  decide
theorem a_valid1 : validB [-1, 20, -1] 20 5 = false := by unfold validB; rw [a_until1]; decide
theorem a_valid3 : validB [-1, 20, 24] 25 5 = true := by unfold validB; rw [a_until3]; decide
theorem a_valid4 : validB [-1, 20, 24] 26 5 = false := by unfold validB; rw [a_until3]; decide
theorem tok_shape {S : Bs} {w : World} {v : Value} {t : TokenV} (h : TokR S w v t) : ∃ A c B d, v = .agg #[.int .i64 t.gen, .int .i64 t.hop, .slice A t.stamps.length c, .int .i64 t.table.start, .slice B t.table.rows.length d] := by
  obtain ⟨sv, rv, rfl, _, _, _, hs, hr⟩ := h
  obtain ⟨A, c, rfl⟩ := Sl.shape hs
  obtain ⟨B, d, rfl⟩ := Sl.shape hr
  exact ⟨A, c, B, d, rfl⟩
theorem a_fresh (w : World) : Calls Try.prog 8 #[.int .i64 7, .int .i64 3, .int .i64 1, .int .i64 20] w fun e w' => ∃ A c B d, e = .returned (.tuple #[.agg #[.int .i64 7, .int .i64 0, .slice A 3 c, .int .i64 20, .slice B 0 d], .int .i64 0]) ∧ TokR (fun _ => True) w' (.agg #[.int .i64 7, .int .i64 0, .slice A 3 c, .int .i64 20, .slice B 0 d]) aT1 ∧ Below w.heap.size w w' := by
  refine (fresh_c 7 3 1 20 w (by unfold I64; omega) (by unfold I64; omega) (by unfold I64; omega) (by unfold I64; omega)).mono ?_
  rintro e w' ⟨v', rfl, h, hb⟩
  rw [a_freshT] at h
  rw [a_freshE]
  obtain ⟨A, c, B, d, rfl⟩ := tok_shape h
  exact ⟨A, c, B, d, rfl, h.sub fun _ _ => trivial, hb⟩
theorem a_stamp (v : Value) (w : World) (h : TokR (fun _ => True) w v aT1) : Calls Try.prog 46 #[v, .int .i64 2, .int .i64 24] w fun e w' => ∃ A c B d, e = .returned (.tuple #[.agg #[.int .i64 7, .int .i64 0, .slice A 3 c, .int .i64 20, .slice B 0 d], .int .i64 0]) ∧ TokR (fun _ => True) w' (.agg #[.int .i64 7, .int .i64 0, .slice A 3 c, .int .i64 20, .slice B 0 d]) aT3 ∧ Below w.heap.size w w' := by
  refine (stamp_c _ v aT1 2 24 w h ⟨by decide, by decide, by simp [aT1]⟩).mono ?_
  rintro e w' ⟨v', rfl, h, hb⟩
  rw [a_stampT] at h
  rw [a_stampE]
  obtain ⟨A, c, B, d, rfl⟩ := tok_shape h
  exact ⟨A, c, B, d, rfl, h.sub fun _ _ => trivial, hb⟩
theorem a_pass (v : Value) (w : World) (h : TokR (fun _ => True) w v aT3) : Calls Try.prog 15 #[v] w fun e w' => ∃ A c B d, e = .returned (.tuple #[.agg #[.int .i64 7, .int .i64 1, .slice A 3 c, .int .i64 20, .slice B 0 d], .int .i64 0]) ∧ TokR (fun _ => True) w' (.agg #[.int .i64 7, .int .i64 1, .slice A 3 c, .int .i64 20, .slice B 0 d]) aT4 ∧ Below w.heap.size w w' := by
  refine (pass_c _ v aT3 w h ⟨by decide, by decide, by simp [aT3]⟩).mono ?_
  rintro e w' ⟨v', rfl, h, hb⟩
  rw [a_passT] at h
  rw [a_passE]
  obtain ⟨A, c, B, d, rfl⟩ := tok_shape h
  exact ⟨A, c, B, d, rfl, h.sub fun _ _ => trivial, hb⟩
theorem a_vld1 (v : Value) (w : World) (h : TokR (fun _ => True) w v aT1) : Calls Try.prog 19 #[v, .int .i64 20, .int .i64 5] w fun e w' => e = .returned (.bool false) ∧ Below w.heap.size w w' := by
  have := valid_c _ v aT1 20 5 w h (by unfold I64; omega) (by decide)
  rw [show aT1.stamps = [-1, 20, -1] from rfl, a_valid1] at this
  exact this

set_option maxHeartbeats 2000000 in
theorem alive_c (w : World) : Calls Try.prog 13 #[] w fun e w' => e = .returned (.bool true) ∧ Below w.heap.size w w' := by
  go_enter Try.func13, Try.ntmps13
  go_upto_region 5 with (first
    | (go_at_call 8; refine (a_fresh _).mono ?_; rintro e w1 ⟨A1, c1, B1, d1, rfl, ht1, hb1⟩; have HT1 := Lib.hid (ht1.below (w' := w1.alloc (.cells #[.int .i64 7, .int .i64 0, .slice A1 3 c1, .int .i64 20, .slice B1 0 d1] 29)) (bel_alloc (Below.refl _ _))); have HK1 := Lib.hid (blk_new w1 #[.int .i64 7, .int .i64 0, .slice A1 3 c1, .int .i64 20, .slice B1 0 d1] 29); have HB1 := Lib.hid (bel_alloc (o := .cells #[.int .i64 7, .int .i64 0, .slice A1 3 c1, .int .i64 20, .slice B1 0 d1] 29) hb1); clear hb1 ht1)
    | (go_at_call 19; refine (a_vld1 _ _ HT1.out).mono ?_; rintro e w2 ⟨rfl, hb2⟩; have HT2 := Lib.hid (HT1.out.below hb2); have HB2 := Lib.hid (bel_trans HB1.out hb2); have K1 := HK1.out.below hb2; have p0 := K1.cell 0 _ rfl; have p1 := K1.cell 1 _ rfl; have p2 := K1.cell 2 _ rfl; have p3 := K1.cell 3 _ rfl; have p4 := K1.cell 4 _ rfl; have pf := K1.frozen; have HK2 := Lib.hid K1; clear hb2 K1)
    | (go_at_call 46; refine (a_stamp _ _ HT2.out).mono ?_; rintro e w3 ⟨A3, c3, B3, d3, rfl, ht3, hb3⟩; have HT3 := Lib.hid (ht3.below (w' := w3.alloc (.cells #[.int .i64 7, .int .i64 0, .slice A3 3 c3, .int .i64 20, .slice B3 0 d3] 29)) (bel_alloc (Below.refl _ _))); have HB3 := Lib.hid (bel_alloc (o := .cells #[.int .i64 7, .int .i64 0, .slice A3 3 c3, .int .i64 20, .slice B3 0 d3] 29) (bel_trans HB2.out hb3)); have HK3 := Lib.hid ((HK2.out.below hb3).alloc (.cells #[.int .i64 7, .int .i64 0, .slice A3 3 c3, .int .i64 20, .slice B3 0 d3] 29)); have HL3 := Lib.hid (blk_new w3 #[.int .i64 7, .int .i64 0, .slice A3 3 c3, .int .i64 20, .slice B3 0 d3] 29); have HU3 := Lib.hid ((HT2.out.below hb3).below (w' := w3.alloc (.cells #[.int .i64 7, .int .i64 0, .slice A3 3 c3, .int .i64 20, .slice B3 0 d3] 29)) (bel_alloc (Below.refl _ _))); clear hb3 ht3)
    | (go_at_call 15; refine (a_pass _ _ HT3.out).mono ?_; rintro e w4 ⟨A4, c4, B4, d4, rfl, ht4, hb4⟩; have HB4 := Lib.hid (bel_trans HB3.out hb4); have HK4 := Lib.hid (HK3.out.below hb4); have HL4 := Lib.hid (HL3.out.below hb4); have HU4 := Lib.hid (HU3.out.below hb4); have HT4 := Lib.hid (HT3.out.below hb4); have HV4 := Lib.hid ht4; clear hb4 ht4))
  obtain ⟨W6, hW6⟩ : ∃ W6, W6 = w4.alloc (.cells #[.int .i64 7, .int .i64 1, .slice A4 3 c4, .int .i64 20, .slice B4 0 d4] 29) := ⟨_, rfl⟩
  have HB6 := Lib.hid (show Below w.heap.size w W6 from by rw [hW6]; exact bel_alloc HB4.out)
  have HK6 := Lib.hid (show Blk W6 w1.heap.size #[.int .i64 7, .int .i64 0, .slice A1 3 c1, .int .i64 20, .slice B1 0 d1] 29 from by rw [hW6]; exact HK4.out.alloc _)
  have HL6 := Lib.hid (show Blk W6 w3.heap.size #[.int .i64 7, .int .i64 0, .slice A3 3 c3, .int .i64 20, .slice B3 0 d3] 29 from by rw [hW6]; exact HL4.out.alloc _)
  have HM6 := Lib.hid (show Blk W6 w4.heap.size #[.int .i64 7, .int .i64 1, .slice A4 3 c4, .int .i64 20, .slice B4 0 d4] 29 from by rw [hW6]; exact blk_new _ _ _)
  have HU6 := Lib.hid (show TokR (fun _ => True) W6 (.agg #[.int .i64 7, .int .i64 0, .slice A1 3 c1, .int .i64 20, .slice B1 0 d1]) aT1 from by rw [hW6]; exact HU4.out.below (bel_alloc (Below.refl _ _)))
  have HT6 := Lib.hid (show TokR (fun _ => True) W6 (.agg #[.int .i64 7, .int .i64 0, .slice A3 3 c3, .int .i64 20, .slice B3 0 d3]) aT3 from by rw [hW6]; exact HT4.out.below (bel_alloc (Below.refl _ _)))
  rw [← hW6]
  have B1 := HK6.out
  have B2 := HL6.out
  have B3 := HM6.out
  have zl1 := B1.lt
  have zl2 := B2.lt
  have zl3 := B3.lt
  clear hW6 p0 p1 p2 p3 p4 pf
  have p0 := B1.cell 0 _ rfl; have p1 := B1.cell 1 _ rfl; have p2 := B1.cell 2 _ rfl; have p3 := B1.cell 3 _ rfl; have p4 := B1.cell 4 _ rfl; have pf := B1.frozen
  have q0 := B2.cell 0 _ rfl; have q1 := B2.cell 1 _ rfl; have q2 := B2.cell 2 _ rfl; have q3 := B2.cell 3 _ rfl; have q4 := B2.cell 4 _ rfl; have qf := B2.frozen
  have r0 := B3.cell 0 _ rfl; have r1 := B3.cell 1 _ rfl; have r2 := B3.cell 2 _ rfl; have r3 := B3.cell 3 _ rfl; have r4 := B3.cell 4 _ rfl; have rf := B3.frozen
  clear B1 B2 B3
  have HS6 := HU6.out
  obtain ⟨sv, rv, e9, _, _, _, hs9, _⟩ := HS6
  simp only [Value.agg.injEq, Array.mk.injEq, List.cons.injEq] at e9
  obtain ⟨b, off, rfl, _, _, hc9⟩ := Sl.int_at (show Sl intE (fun _ => True) W6 (.slice A1 3 c1) aT1.stamps from by rw [e9.2.2.1]; exact hs9) 2 (by decide)
  have hc9' : W6.cell? ⟨b, off + 2, none⟩ = some (.int .i64 (-1)) := hc9
  have hbl9 := World.block_lt_of_cell? W6 _ hc9'
  clear hc9 hs9 e9
  have hv3 : validB aT3.stamps 25 5 = true := a_valid3
  have hv4 : validB aT3.stamps 26 5 = false := a_valid4
  have hu3 : untilZ aT3.stamps 5 = 25 := a_until3
  have hn4 : newerB 7 1 7 0 = true := by decide
  have HI5 := Lib.hid (show I64 5 from by unfold I64; omega)
  have HI6 := Lib.hid (show aT3.stamps.length ≤ 1048576 from by decide)
  (refine wp_region_bel (by kernel_rfl) (by kernel_rfl) ?_; (repeat (go_big_quiet_step ((first | (go_at_call 50; exact qb (until_c (fun _ => True) _ aT3 _ _ (HT6.out.below (Wb.h _)) HI5.out HI6.out)) | (go_at_call 19; exact qb (valid_c (fun _ => True) _ aT3 _ _ _ (HT6.out.below (Wb.h _)) HI5.out HI6.out)) | (go_at_call 16; exact qb (at_c _ _ _ _ _ _)) | (go_at_call 11; exact qb (newer_c _ _ _ _ _)))))); refine wpQuiet_nil ?_; intro W hw9; have hW := wb_below hw9; clear hw9)
  go_wp2
  go_ret
  exact ⟨rfl, bel_trans HB6.out hW⟩
end Go.Proofs.Ytpbicdbicikniaa
