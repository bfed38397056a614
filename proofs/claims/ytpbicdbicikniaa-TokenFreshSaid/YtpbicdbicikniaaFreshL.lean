/- annonalaw10.TokenFresh: it answers true. -/
import Derived.Test.YtpbicdbicikniaaRFresh
import Derived.Test.YtpbicdbicikniaaSame5
import Derived.Test.YtpbicdbicikniaaAlive
namespace Go.Proofs.Ytpbicdbicikniaa
open Go.RowKit
set_option linter.unusedVariables false
set_option maxRecDepth 100000

set_option maxHeartbeats 400000 in
theorem rnewer_c (a b c d : Int) (w : World) :
    Calls Try.prog 12 #[.agg #[.int .i64 a, .int .i64 b], .agg #[.int .i64 c, .int .i64 d]] w fun e w' => e = .returned (.bool (newerB a b c d)) ∧ Below w.heap.size w w' := by
  by_cases h1 : c < a
  · have HF := Lib.hid (show newerB a b c d = true from by unfold newerB; simp [h1])
    have q1 : decide (c < a) = true := by simpa using h1
    go_enter Try.func12, Try.ntmps12
    go_wp2
    go_ret
    exact ⟨ret_bool HF.out.symm, (by repeat (with_reducible first | assumption | exact Below.refl _ _ | apply bel_alloc | apply bel_drew | apply bel_drewN | (refine bel_set ?_ (by simp; try omega) _)))⟩
  by_cases h2 : a = c
  · have q1 : decide (c < a) = false := by simpa using h1
    have q2 : (a == c) = true := by simpa using h2
    have HF := Lib.hid (show newerB a b c d = decide (d < b) from by unfold newerB; rw [q1]; simp [h2])
    clear h1 h2
    go_enter Try.func12, Try.ntmps12
    go_wp2
    go_ret
    exact ⟨ret_bool HF.out.symm, (by repeat (with_reducible first | assumption | exact Below.refl _ _ | apply bel_alloc | apply bel_drew | apply bel_drewN | (refine bel_set ?_ (by simp; try omega) _)))⟩
  · have q1 : decide (c < a) = false := by simpa using h1
    have q2 : (a == c) = false := by simpa using h2
    have HF := Lib.hid (show newerB a b c d = false from by unfold newerB; rw [q1]; simp [h2])
    clear h1 h2
    go_enter Try.func12, Try.ntmps12
    go_wp2
    go_ret
    exact ⟨ret_bool HF.out.symm, (by repeat (with_reducible first | assumption | exact Below.refl _ _ | apply bel_alloc | apply bel_drew | apply bel_drewN | (refine bel_set ?_ (by simp; try omega) _)))⟩

theorem freshT_rows (gen n node now : Int) : (freshT gen n node now).table.rows = [] := by
  unfold freshT
  split
  · unfold stampT
    split <;> rfl
  · rfl

theorem fresh_shape {f : Nat} {args : Array Value} {W : World} {T : TokenV} {E : Int} (hr : T.table.rows = [])
    (h : Calls Try.prog f args W fun e w' => ∃ v', e = .returned (.tuple #[v', .int .i64 E]) ∧ TokR (plus (fun _ => False) W w') w' v' T ∧ Below W.heap.size W w') :
    Calls Try.prog f args W fun e w' => ∃ A c B d, e = .returned (.tuple #[.agg #[.int .i64 T.gen, .int .i64 T.hop, .slice A T.stamps.length c, .int .i64 T.table.start, .slice B 0 d], .int .i64 E]) ∧ TokR (fun _ => True) w' (.agg #[.int .i64 T.gen, .int .i64 T.hop, .slice A T.stamps.length c, .int .i64 T.table.start, .slice B 0 d]) T ∧ Below W.heap.size W w' := by
  refine h.mono ?_
  rintro e w' ⟨v', rfl, ht, hb⟩
  obtain ⟨A, c, B, d, rfl⟩ := tok_shape ht
  rw [hr] at ht ⊢
  exact ⟨A, c, B, d, rfl, ht.sub fun _ _ => trivial, hb⟩

set_option maxHeartbeats 2000000 in
theorem tokenFresh_c (g n d t a0 a1 b0 b1 : Int) (w : World) (hg : I64 g) (hn : I64 n) (hd : I64 d) (ht : I64 t) :
    Calls Try.prog 3 #[.agg #[.int .i64 g, .int .i64 n, .int .i64 d, .int .i64 t], .agg #[.int .i64 a0, .int .i64 a1], .agg #[.int .i64 b0, .int .i64 b1]] w fun e w' => e = .returned (.bool true) ∧ Below w.heap.size w w' := by
  obtain ⟨W0, hW0⟩ : ∃ W0, W0 = ((w.alloc (.cells #[.int .i64 g, .int .i64 n, .int .i64 d, .int .i64 t] 22)).alloc (.cells #[.int .i64 a0, .int .i64 a1] 23)).alloc (.cells #[.int .i64 b0, .int .i64 b1] 23) := ⟨_, rfl⟩
  have K4 := Lib.hid (show Blk W0 w.heap.size #[.int .i64 g, .int .i64 n, .int .i64 d, .int .i64 t] 22 from by rw [hW0]; exact ((blk_new _ _ _).alloc _).alloc _)
  have Ka := Lib.hid (show Blk W0 (w.heap.size + 1) #[.int .i64 a0, .int .i64 a1] 23 from by rw [hW0]; have := (blk_new (w.alloc (.cells #[.int .i64 g, .int .i64 n, .int .i64 d, .int .i64 t] 22)) #[.int .i64 a0, .int .i64 a1] 23).alloc (.cells #[.int .i64 b0, .int .i64 b1] 23); rw [World.size_alloc] at this; exact this)
  have Kb := Lib.hid (show Blk W0 (w.heap.size + 1 + 1) #[.int .i64 b0, .int .i64 b1] 23 from by rw [hW0]; have := blk_new ((w.alloc (.cells #[.int .i64 g, .int .i64 n, .int .i64 d, .int .i64 t] 22)).alloc (.cells #[.int .i64 a0, .int .i64 a1] 23)) #[.int .i64 b0, .int .i64 b1] 23; rw [World.size_alloc, World.size_alloc] at this; exact this)
  have HB := Lib.hid (show Below w.heap.size w W0 from by rw [hW0]; exact bel_alloc (bel_alloc (bel_alloc (Below.refl _ _))))
  have HR := Lib.hid (freshT_rows g n d t)
  have HF := Lib.hid (fun W => fresh_shape HR.out (fresh_c g n d t W hg hn hd ht))
  have HG := Lib.hid (fun W => fresh_shape HR.out (rfresh_c g n d t W hg hn hd ht))
  generalize freshT g n d t = T at *
  generalize freshE g n d t = E at *
  go_enter Try.func3, Try.ntmps3
  go_upto_region 1 with fail
  rw [← hW0]
  have B4 := K4.out
  have Ba := Ka.out
  have Bb := Kb.out
  have o0 := B4.cell 0 _ rfl; have o1 := B4.cell 1 _ rfl; have o2 := B4.cell 2 _ rfl; have o3 := B4.cell 3 _ rfl; have of := B4.frozen
  clear B4 Ba Bb hW0
  go_upto_region 4 with (first
    | (go_at_call 8; refine (HF.out _).mono ?_; rintro e w1 ⟨A1, c1, B1, d1, rfl, ht1, hb1⟩; have HT1 := Lib.hid (ht1.below (w' := w1.alloc (.cells #[.int .i64 T.gen, .int .i64 T.hop, .slice A1 T.stamps.length c1, .int .i64 T.table.start, .slice B1 0 d1] 29)) (bel_alloc (Below.refl _ _))); have HK1 := Lib.hid (blk_new w1 #[.int .i64 T.gen, .int .i64 T.hop, .slice A1 T.stamps.length c1, .int .i64 T.table.start, .slice B1 0 d1] 29); have K41 := Lib.hid ((K4.out.below hb1).alloc (.cells #[.int .i64 T.gen, .int .i64 T.hop, .slice A1 T.stamps.length c1, .int .i64 T.table.start, .slice B1 0 d1] 29)); have Ka1 := Lib.hid ((Ka.out.below hb1).alloc (.cells #[.int .i64 T.gen, .int .i64 T.hop, .slice A1 T.stamps.length c1, .int .i64 T.table.start, .slice B1 0 d1] 29)); have Kb1 := Lib.hid ((Kb.out.below hb1).alloc (.cells #[.int .i64 T.gen, .int .i64 T.hop, .slice A1 T.stamps.length c1, .int .i64 T.table.start, .slice B1 0 d1] 29)); have HB1 := Lib.hid (bel_alloc (o := .cells #[.int .i64 T.gen, .int .i64 T.hop, .slice A1 T.stamps.length c1, .int .i64 T.table.start, .slice B1 0 d1] 29) (bel_trans HB.out hb1)); have z1 := K41.out; clear o0 o1 o2 o3 of; have o0 := z1.cell 0 _ rfl; have o1 := z1.cell 1 _ rfl; have o2 := z1.cell 2 _ rfl; have o3 := z1.cell 3 _ rfl; have of := z1.frozen; clear hb1 ht1 z1)
    | (go_at_call 9; refine (HG.out _).mono ?_; rintro e w2 ⟨A2, c2, B2, d2, rfl, ht2, hb2⟩; have HT2 := Lib.hid (ht2.below (w' := w2.alloc (.cells #[.int .i64 T.gen, .int .i64 T.hop, .slice A2 T.stamps.length c2, .int .i64 T.table.start, .slice B2 0 d2] 29)) (bel_alloc (Below.refl _ _))); have HU2 := Lib.hid ((HT1.out.below hb2).below (w' := w2.alloc (.cells #[.int .i64 T.gen, .int .i64 T.hop, .slice A2 T.stamps.length c2, .int .i64 T.table.start, .slice B2 0 d2] 29)) (bel_alloc (Below.refl _ _))); have HK2 := Lib.hid ((HK1.out.below hb2).alloc (.cells #[.int .i64 T.gen, .int .i64 T.hop, .slice A2 T.stamps.length c2, .int .i64 T.table.start, .slice B2 0 d2] 29)); have HL2 := Lib.hid (blk_new w2 #[.int .i64 T.gen, .int .i64 T.hop, .slice A2 T.stamps.length c2, .int .i64 T.table.start, .slice B2 0 d2] 29); have Ka2 := Lib.hid ((Ka1.out.below hb2).alloc (.cells #[.int .i64 T.gen, .int .i64 T.hop, .slice A2 T.stamps.length c2, .int .i64 T.table.start, .slice B2 0 d2] 29)); have Kb2 := Lib.hid ((Kb1.out.below hb2).alloc (.cells #[.int .i64 T.gen, .int .i64 T.hop, .slice A2 T.stamps.length c2, .int .i64 T.table.start, .slice B2 0 d2] 29)); have HB2 := Lib.hid (bel_alloc (o := .cells #[.int .i64 T.gen, .int .i64 T.hop, .slice A2 T.stamps.length c2, .int .i64 T.table.start, .slice B2 0 d2] 29) (bel_trans HB1.out hb2)); have z1 := HK2.out; have z2 := HL2.out; clear o0 o1 o2 o3 of; have p0 := z1.cell 0 _ rfl; have p1 := z1.cell 1 _ rfl; have p2 := z1.cell 2 _ rfl; have p3 := z1.cell 3 _ rfl; have p4 := z1.cell 4 _ rfl; have pf := z1.frozen; have q0 := z2.cell 0 _ rfl; have q1 := z2.cell 1 _ rfl; have q2 := z2.cell 2 _ rfl; have q3 := z2.cell 3 _ rfl; have q4 := z2.cell 4 _ rfl; have qf := z2.frozen; clear hb2 ht2 z1 z2)
    | (go_at_call 10; refine (rsameToken0_c (fun _ => True) (fun _ => True) _ _ T _ HU2.out HT2.out HR.out).mono ?_; rintro e w3 ⟨rfl, hb3⟩; have HB3 := Lib.hid (bel_trans HB2.out hb3); have Ka3 := Lib.hid (Ka2.out.below hb3); have Kb3 := Lib.hid (Kb2.out.below hb3); clear hb3 p0 p1 p2 p3 p4 pf q0 q1 q2 q3 q4 qf))
  have za := Ka3.out
  have zb := Kb3.out
  have la := za.lt
  have lb := zb.lt
  have p0 := za.cell 0 _ rfl; have p1 := za.cell 1 _ rfl; have pf := za.frozen
  have q0 := zb.cell 0 _ rfl; have q1 := zb.cell 1 _ rfl; have qf := zb.frozen
  clear za zb
  (refine wp_region_bel (by kernel_rfl) (by kernel_rfl) ?_; (repeat (go_big_quiet_step ((first | (go_at_call 11; exact qb (newer_c _ _ _ _ _)) | (go_at_call 12; exact qb (rnewer_c _ _ _ _ _)))))); refine wpQuiet_nil ?_; intro W hw9; have hW := wb_below hw9; clear hw9)
  go_wp2_with (go_at_call 13; refine (alive_c _).mono ?_; rintro e w5 ⟨rfl, hb5⟩; have HB5 := Lib.hid (bel_trans (bel_trans HB3.out hW) hb5); clear hb5)
  go_ret
  exact ⟨rfl, HB5.out⟩
end Go.Proofs.Ytpbicdbicikniaa
