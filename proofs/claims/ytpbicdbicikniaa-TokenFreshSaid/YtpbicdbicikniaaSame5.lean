/- SameToken at two readings of one token without rows. -/
import Derived.Test.YtpbicdbicikniaaRef5
import Derived.Test.YtpbicdbicikniaaOwn
namespace Go.Proofs.Ytpbicdbicikniaa
open Go.RowKit
set_option linter.unusedVariables false
set_option maxRecDepth 100000

set_option maxHeartbeats 1000000 in
theorem rsameTable0_c (start : Int) (A A' : Option Addr) (c c' : Nat) (w : World) :
    Calls Try.prog 49 #[.agg #[.int .i64 start, .slice A 0 c], .agg #[.int .i64 start, .slice A' 0 c']] w fun e w' => e = .returned (.bool true) ∧ Below w.heap.size w w' := by
  go_enter Try.func49, Try.ntmps49
  go_wp2_with fail
  go_loopw [5] (fun iv wr => iv = .int .i64 0 ∧ As (wr = (w.alloc (.cells #[.int .i64 start, .slice A 0 c] 27)).alloc (.cells #[.int .i64 start, .slice A' 0 c'] 27))) (fun _ _ => 0)
  case atStart => exact ⟨rfl, ⟨rfl⟩⟩
  case round =>
    obtain ⟨rfl, ⟨hw⟩⟩ := hrel
    subst hw
    go_wp2_with fail
    go_ret
    exact ⟨rfl, (by repeat (with_reducible first | assumption | exact Below.refl _ _ | apply bel_alloc | apply bel_drew | apply bel_drewN | (refine bel_set ?_ (by simp; try omega) _)))⟩

theorem sameL_self (xs : List Int) : sameL xs xs = true := by unfold sameL; simp

set_option maxHeartbeats 1000000 in
theorem rsameToken0_c (S T : Bs) (v u : Value) (t : TokenV) (w : World) (h : TokR S w v t) (h' : TokR T w u t) (hr0 : t.table.rows = []) :
    Calls Try.prog 10 #[v, u] w fun e w' => e = .returned (.bool true) ∧ Below w.heap.size w w' := by
  obtain ⟨sv, rv, rfl, i1, i2, i3, hs, hr⟩ := h
  obtain ⟨sv', rv', rfl, _, _, _, hs', hr'⟩ := h'
  rw [hr0] at hr hr'
  obtain ⟨A, c, rfl⟩ := Sl.shape hs
  obtain ⟨B, d, rfl⟩ := Sl.shape hr
  obtain ⟨A', c', rfl⟩ := Sl.shape hs'
  obtain ⟨B', d', rfl⟩ := Sl.shape hr'
  have HS := Lib.hid hs
  have HS' := Lib.hid hs'
  clear hs hs' hr hr' hr0
  go_enter Try.func10, Try.ntmps10
  have HK := Lib.hid ((blk_new w #[.int .i64 t.gen, .int .i64 t.hop, .slice A t.stamps.length c, .int .i64 t.table.start, .slice B 0 d] 29).alloc (.cells #[.int .i64 t.gen, .int .i64 t.hop, .slice A' t.stamps.length c', .int .i64 t.table.start, .slice B' 0 d'] 29))
  have HL := Lib.hid (show Blk ((w.alloc (.cells #[.int .i64 t.gen, .int .i64 t.hop, .slice A t.stamps.length c, .int .i64 t.table.start, .slice B 0 d] 29)).alloc (.cells #[.int .i64 t.gen, .int .i64 t.hop, .slice A' t.stamps.length c', .int .i64 t.table.start, .slice B' 0 d'] 29)) (w.heap.size + 1) #[.int .i64 t.gen, .int .i64 t.hop, .slice A' t.stamps.length c', .int .i64 t.table.start, .slice B' 0 d'] 29 from by have := blk_new (w.alloc (.cells #[.int .i64 t.gen, .int .i64 t.hop, .slice A t.stamps.length c, .int .i64 t.table.start, .slice B 0 d] 29)) #[.int .i64 t.gen, .int .i64 t.hop, .slice A' t.stamps.length c', .int .i64 t.table.start, .slice B' 0 d'] 29; rw [World.size_alloc] at this; exact this)
  go_wp2_with (first | (go_at_call 31; refine (rsame_c S T _ _ t.stamps t.stamps _ (HS.out.below (by repeat (with_reducible first | assumption | exact Below.refl _ _ | apply bel_alloc | apply bel_drew | apply bel_drewN | (refine bel_set ?_ (by simp; try omega) _)))) (HS'.out.below (by repeat (with_reducible first | assumption | exact Below.refl _ _ | apply bel_alloc | apply bel_drew | apply bel_drewN | (refine bel_set ?_ (by simp; try omega) _))))).mono ?_; rintro e w1 ⟨rfl, hb1⟩; rw [sameL_self]; have B1 := HK.out.below hb1; have B2 := HL.out.below hb1; have p0 := B1.cell 0 _ rfl; have p1 := B1.cell 1 _ rfl; have p2 := B1.cell 2 _ rfl; have p3 := B1.cell 3 _ rfl; have p4 := B1.cell 4 _ rfl; have pf := B1.frozen; have q0 := B2.cell 0 _ rfl; have q1 := B2.cell 1 _ rfl; have q2 := B2.cell 2 _ rfl; have q3 := B2.cell 3 _ rfl; have q4 := B2.cell 4 _ rfl; have qf := B2.frozen; have HK1 := Lib.hid B1; have HL1 := Lib.hid B2; have HB1 := Lib.hid (show Below w.heap.size w w1 from bel_trans (by repeat (with_reducible first | assumption | exact Below.refl _ _ | apply bel_alloc | apply bel_drew | apply bel_drewN | (refine bel_set ?_ (by simp; try omega) _))) hb1); clear hb1 B1 B2) | (go_at_call 49; refine (rsameTable0_c _ _ _ _ _ _).mono ?_; rintro e w2 ⟨rfl, hb2⟩; have B1 := HK1.out.below hb2; have B2 := HL1.out.below hb2; clear p0 p1 p2 p3 p4 pf q0 q1 q2 q3 q4 qf; have p0 := B1.cell 0 _ rfl; have p1 := B1.cell 1 _ rfl; have p2 := B1.cell 2 _ rfl; have p3 := B1.cell 3 _ rfl; have p4 := B1.cell 4 _ rfl; have pf := B1.frozen; have q0 := B2.cell 0 _ rfl; have q1 := B2.cell 1 _ rfl; have q2 := B2.cell 2 _ rfl; have q3 := B2.cell 3 _ rfl; have q4 := B2.cell 4 _ rfl; have qf := B2.frozen; have HB2 := Lib.hid (bel_trans HB1.out hb2); clear hb2 B1 B2))
  go_ret
  exact ⟨rfl, HB2.out⟩
end Go.Proofs.Ytpbicdbicikniaa
