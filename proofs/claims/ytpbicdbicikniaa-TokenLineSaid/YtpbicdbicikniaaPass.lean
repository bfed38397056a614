/- token.Valid, token.Pass. -/
import Derived.Test.YtpbicdbicikniaaUntil
namespace Go.Proofs.Ytpbicdbicikniaa
open Go.RowKit
set_option linter.unusedVariables false

def validB (stamps : List Int) (now span : Int) : Bool := decide (fitZ now ≤ untilZ stamps span)

set_option maxHeartbeats 1000000 in
set_option maxRecDepth 100000 in
theorem valid_c (S : Bs) (v : Value) (t : TokenV) (now span : Int) (w : World) (h : TokR S w v t) (hspan : I64 span) (hbig : t.stamps.length ≤ 1048576) :
    Calls Try.prog 19 #[v, .int .i64 now, .int .i64 span] w fun e w' => e = .returned (.bool (validB t.stamps now span)) ∧ Below w.heap.size w w' := by
  obtain ⟨sv, rv, rfl, i1, i2, i3, hs, hr⟩ := id h
  obtain ⟨A, c, rfl, hl, hc, _⟩ := id hs
  obtain ⟨A2, c2, rfl, hl2, hc2, _⟩ := id hr
  have HT := Lib.hid h
  clear h hs hr
  go_enter Try.func19, Try.ntmps19
  have htw := fun (i : Wb (w.alloc (.cells #[.int .i64 t.gen, .int .i64 t.hop, .slice A t.stamps.length c, .int .i64 t.table.start, .slice A2 t.table.rows.length c2] 29))) => (HT.out.below (bel_alloc (Below.refl _ _))).below i.h
  have HTW := Lib.hid htw
  clear htw
  go_wp2_with fail
  (refine wp_region_bel (by kernel_rfl) (by kernel_rfl) ?_; (repeat (go_big_quiet_step ((first | (go_at_call 50; exact qb (until_c S _ t _ _ (HTW.out _) hspan hbig)) | (go_at_call 54; exact qbs (fit_c _ _)))))); refine wpQuiet_nil ?_; intro W hw9; have hW := wb_below hw9; clear hw9)
  go_wp2
  go_ret
  exact ⟨rfl, bel_trans (bel_alloc (Below.refl _ _)) hW⟩

def passE (t : TokenV) : Int := if 1099511627776 ≤ t.hop then 6 else 0
def passT (t : TokenV) : TokenV := if 1099511627776 ≤ t.hop then t else { t with hop := t.hop + 1 }

set_option maxHeartbeats 2000000 in
set_option maxRecDepth 100000 in
theorem pass_c (S : Bs) (v : Value) (t : TokenV) (w : World) (h : TokR S w v t) (hf : Fits t) :
    Calls Try.prog 15 #[v] w fun e w' => ∃ v', e = .returned (.tuple #[v', .int .i64 (passE t)]) ∧ TokR (plus S w w') w' v' (passT t) ∧ Below w.heap.size w w' := by
  have h' := h
  obtain ⟨sv, rv, rfl, i1, i2, i3, hs, hr⟩ := h'
  have hs' := hs
  obtain ⟨A, c, rfl, hl, hc, _⟩ := hs
  obtain ⟨A2, c2, rfl, hl2, hc2, _⟩ := hr
  have HT := Lib.hid h.fit
  have HI := Lib.hid hs'.ints
  have i2' := i2
  obtain ⟨j1, j2⟩ := i2'
  clear h hs'
  by_cases h1 : 1099511627776 ≤ t.hop
  · have HF := Lib.hid (show passE t = 6 from by unfold passE; rw [if_pos h1])
    have HG := Lib.hid (show passT t = t from by unfold passT; rw [if_pos h1])
    go_enter Try.func15, Try.ntmps15
    go_wp2_with (go_at_call 51; refine (cloneT_c (fun b => S b ∧ b < w.heap.size) _ t _ (HT.out.below (by repeat (with_reducible first | assumption | exact Below.refl _ _ | apply bel_alloc | apply bel_drew | apply bel_drewN | (refine bel_set ?_ (by simp; try omega) _)))) hf.1 hf.2.1 hf.2.2).mono ?_; rintro e w1 ⟨sv1, rv1, rfl, hown1, hr1, hb1⟩; obtain ⟨Ax, cx, rfl⟩ := owned_slice hown1; obtain ⟨Ay, cy, rfl⟩ := Sl.shape hr1; have hB1 : Below w.heap.size w w1 := bel_trans (by repeat (with_reducible first | assumption | exact Below.refl _ _ | apply bel_alloc | apply bel_drew | apply bel_drewN | (refine bel_set ?_ (by simp; try omega) _))) hb1; have B1 := ((blk_new w #[.int .i64 t.gen, .int .i64 t.hop, .slice A t.stamps.length c, .int .i64 t.table.start, .slice A2 t.table.rows.length c2] 29).alloc _).below hb1; have B2 := (blk_new (w.alloc (.cells #[.int .i64 t.gen, .int .i64 t.hop, .slice A t.stamps.length c, .int .i64 t.table.start, .slice A2 t.table.rows.length c2] 29)) #[.int .i64 0, .int .i64 0, .slice none 0 0, .int .i64 0, .slice none 0 0] 29).below hb1; rw [World.size_alloc] at B2; have p0 := B1.cell 0 _ rfl; have p1 := B1.cell 1 _ rfl; have p2 := B1.cell 2 _ rfl; have p3 := B1.cell 3 _ rfl; have p4 := B1.cell 4 _ rfl; have pf := B1.frozen; have q0 := B2.cell 0 _ rfl; have q1 := B2.cell 1 _ rfl; have q2 := B2.cell 2 _ rfl; have q3 := B2.cell 3 _ rfl; have q4 := B2.cell 4 _ rfl; have qf := B2.frozen; have hz1 := hb1.size; simp only [World.size_alloc] at hz1; have HO1 := Lib.hid hown1; have HR1 := Lib.hid hr1; have HB1 := Lib.hid hb1; have HBB1 := Lib.hid hB1; have HK1 := Lib.hid B1; have HK2 := Lib.hid B2; clear hown1 hr1 hb1 hB1 B1 B2; dsimp only)
    have fin : ∀ W : World, (∀ b, b ≠ w.heap.size → b ≠ w.heap.size + 1 → W.heap[b]? = w1.heap[b]?) → Below w.heap.size w1 W → ∃ v',
        Ending.returned (.tuple #[.agg #[.int .i64 t.gen, .int .i64 (t.hop), .slice Ax t.stamps.length cx, .int .i64 t.table.start, .slice Ay t.table.rows.length cy], .int .i64 6]) = .returned (.tuple #[v', .int .i64 (passE t)]) ∧ TokR (plus S w W) W v' (passT t) ∧ Below w.heap.size w W := by
      intro W hW1 hW2
      have HO := HO1.out
      simp only [World.size_alloc] at HO
      have := stamp_fin (S := fun b => S b ∧ b < w.heap.size) (w := w) (w1 := w1) (W := W) (t := { t with hop := t.hop }) (stamps' := t.stamps) (n := w.heap.size + 1 + 1) i1 (show I64 (t.hop) from by unfold I64; omega) i3 HI.out (Nat.le_refl _) hz1 HBB1.out (owned_keep HO fun g hg => hW1 g (by have := (HO.lt g hg).1; omega) (by have := (HO.lt g hg).1; omega))
        (HR1.out.sub fun b hb => ⟨by rcases hb.1 with h | h; exact .inl h; exact .inr (by simpa using h), hb.2⟩) (fun b hb => hb.2) (fun b h1 h2 _ => hW1 b h1 h2) hW2
      refine ⟨_, by rw [HF.out], ?_, this.2⟩
      rw [HG.out]
      exact this.1.sub fun b hb => by rcases hb with hb | hb; exact .inl hb.1; exact .inr hb
    refine bodyPost_ret (v := .tuple #[.agg #[.int .i64 t.gen, .int .i64 (t.hop), .slice Ax t.stamps.length cx, .int .i64 t.table.start, .slice Ay t.table.rows.length cy], .int .i64 6]) (by simp only [results, Try.results15]; go_simp) rfl (fin _ ?_ ?_)
    · intro b h1 h2
      repeat rw [Below.heap_setCell _ _ _ _ (by first | exact h1 | exact h2)]
    · repeat (with_reducible first | exact Below.refl _ _ | (refine Below.setCell ?_ (by simp) _))
  · have HF := Lib.hid (show passE t = 0 from by unfold passE; rw [if_neg h1])
    have HG := Lib.hid (show passT t = { t with hop := t.hop + 1 } from by unfold passT; rw [if_neg h1])
    go_enter Try.func15, Try.ntmps15
    go_upto_region 2 with ((go_at_call 51; refine (cloneT_c (fun b => S b ∧ b < w.heap.size) _ t _ (HT.out.below (by repeat (with_reducible first | assumption | exact Below.refl _ _ | apply bel_alloc | apply bel_drew | apply bel_drewN | (refine bel_set ?_ (by simp; try omega) _)))) hf.1 hf.2.1 hf.2.2).mono ?_; rintro e w1 ⟨sv1, rv1, rfl, hown1, hr1, hb1⟩; obtain ⟨Ax, cx, rfl⟩ := owned_slice hown1; obtain ⟨Ay, cy, rfl⟩ := Sl.shape hr1; have hB1 : Below w.heap.size w w1 := bel_trans (by repeat (with_reducible first | assumption | exact Below.refl _ _ | apply bel_alloc | apply bel_drew | apply bel_drewN | (refine bel_set ?_ (by simp; try omega) _))) hb1; have B1 := ((blk_new w #[.int .i64 t.gen, .int .i64 t.hop, .slice A t.stamps.length c, .int .i64 t.table.start, .slice A2 t.table.rows.length c2] 29).alloc _).below hb1; have B2 := (blk_new (w.alloc (.cells #[.int .i64 t.gen, .int .i64 t.hop, .slice A t.stamps.length c, .int .i64 t.table.start, .slice A2 t.table.rows.length c2] 29)) #[.int .i64 0, .int .i64 0, .slice none 0 0, .int .i64 0, .slice none 0 0] 29).below hb1; rw [World.size_alloc] at B2; have p0 := B1.cell 0 _ rfl; have p1 := B1.cell 1 _ rfl; have p2 := B1.cell 2 _ rfl; have p3 := B1.cell 3 _ rfl; have p4 := B1.cell 4 _ rfl; have pf := B1.frozen; have q0 := B2.cell 0 _ rfl; have q1 := B2.cell 1 _ rfl; have q2 := B2.cell 2 _ rfl; have q3 := B2.cell 3 _ rfl; have q4 := B2.cell 4 _ rfl; have qf := B2.frozen; have hz1 := hb1.size; simp only [World.size_alloc] at hz1; have HO1 := Lib.hid hown1; have HR1 := Lib.hid hr1; have HB1 := Lib.hid hb1; have HBB1 := Lib.hid hB1; have HK1 := Lib.hid B1; have HK2 := Lib.hid B2; clear hown1 hr1 hb1 hB1 B1 B2; dsimp only))
    obtain ⟨W5, hW5⟩ : ∃ W5, W5 = ((((w1.setCell ⟨w.heap.size, 0, none⟩ (.int .i64 t.gen)).setCell ⟨w.heap.size, 1, none⟩ (.int .i64 t.hop)).setCell ⟨w.heap.size, 2, none⟩ (.slice Ax t.stamps.length cx)).setCell ⟨w.heap.size, 3, none⟩ (.int .i64 t.table.start)).setCell ⟨w.heap.size, 4, none⟩ (.slice Ay t.table.rows.length cy) := ⟨_, rfl⟩
    have HK5 := Lib.hid (show Blk W5 w.heap.size #[.int .i64 t.gen, .int .i64 t.hop, .slice Ax t.stamps.length cx, .int .i64 t.table.start, .slice Ay t.table.rows.length cy] 29 from by rw [hW5]; exact ((((HK1.out.set 0 _).set 1 _).set 2 _).set 3 _).set 4 _)
    have HR5 := Lib.hid (show ∀ b, b ≠ w.heap.size → W5.heap[b]? = w1.heap[b]? from by intro b hb; rw [hW5]; repeat rw [Below.heap_setCell _ _ _ _ hb])
    have HQ5 := Lib.hid (show Below w.heap.size w1 W5 from by rw [hW5]; repeat (with_reducible first | exact Below.refl _ _ | (refine Below.setCell ?_ (by simp) _)))
    rw [← hW5]
    have HL5 := Lib.hid (HK2.out.keep (HR5.out (w.heap.size + 1) (by omega)))
    clear hW5 p0 p1 p2 p3 p4 pf q0 q1 q2 q3 q4 qf
    have B1 := HK5.out
    have B2 := HL5.out
    have p0 := B1.cell 0 _ rfl; have p1 := B1.cell 1 _ rfl; have p2 := B1.cell 2 _ rfl; have p3 := B1.cell 3 _ rfl; have p4 := B1.cell 4 _ rfl; have pf := B1.frozen
    have q0 := B2.cell 0 _ rfl; have q1 := B2.cell 1 _ rfl; have q2 := B2.cell 2 _ rfl; have q3 := B2.cell 3 _ rfl; have q4 := B2.cell 4 _ rfl; have qf := B2.frozen
    clear B1 B2
    go_wp2_with fail
    have fin : ∀ W : World, (∀ b, b ≠ w.heap.size → b ≠ w.heap.size + 1 → W.heap[b]? = w1.heap[b]?) → Below w.heap.size w1 W → ∃ v',
        Ending.returned (.tuple #[.agg #[.int .i64 t.gen, .int .i64 (t.hop + 1), .slice Ax t.stamps.length cx, .int .i64 t.table.start, .slice Ay t.table.rows.length cy], .int .i64 0]) = .returned (.tuple #[v', .int .i64 (passE t)]) ∧ TokR (plus S w W) W v' (passT t) ∧ Below w.heap.size w W := by
      intro W hW1 hW2
      have HO := HO1.out
      simp only [World.size_alloc] at HO
      have := stamp_fin (S := fun b => S b ∧ b < w.heap.size) (w := w) (w1 := w1) (W := W) (t := { t with hop := t.hop + 1 }) (stamps' := t.stamps) (n := w.heap.size + 1 + 1) i1 (show I64 (t.hop + 1) from by unfold I64; omega) i3 HI.out (Nat.le_refl _) hz1 HBB1.out (owned_keep HO fun g hg => hW1 g (by have := (HO.lt g hg).1; omega) (by have := (HO.lt g hg).1; omega))
        (HR1.out.sub fun b hb => ⟨by rcases hb.1 with h | h; exact .inl h; exact .inr (by simpa using h), hb.2⟩) (fun b hb => hb.2) (fun b h1 h2 _ => hW1 b h1 h2) hW2
      refine ⟨_, by rw [HF.out], ?_, this.2⟩
      rw [HG.out]
      exact this.1.sub fun b hb => by rcases hb with hb | hb; exact .inl hb.1; exact .inr hb
    refine bodyPost_ret (v := .tuple #[.agg #[.int .i64 t.gen, .int .i64 (t.hop + 1), .slice Ax t.stamps.length cx, .int .i64 t.table.start, .slice Ay t.table.rows.length cy], .int .i64 0]) (by simp only [results, Try.results15]; go_simp) rfl (fin _ ?_ ?_)
    · intro b h1 h2
      repeat rw [Below.heap_setCell _ _ _ _ (by first | exact h1 | exact h2)]
      exact HR5.out b h1
    · repeat (with_reducible first | exact HQ5.out | (refine Below.setCell ?_ (by simp) _))

end Go.Proofs.Ytpbicdbicikniaa
