/- token.Stamp, Pass, Fresh. -/
import Derived.Test.YtpbicdbicikniaaCloneT
namespace Go.Proofs.Ytpbicdbicikniaa
open Go.RowKit
set_option linter.unusedVariables false

/-- A token whose lists are not too long. -/
def Fits (t : TokenV) : Prop := t.stamps.length ≤ 1048576 ∧ t.table.rows.length ≤ 1048576 ∧ ∀ r ∈ t.table.rows, r.out.length ≤ 1048576

def stampB (t : TokenV) (node now : Int) : Bool := decide (0 ≤ node) && decide (node < t.stamps.length) && decide (0 ≤ now) && decide (now < 4611686018427387904)
def stampE (t : TokenV) (node now : Int) : Int := if stampB t node now then 0 else 1
def stampT (t : TokenV) (node now : Int) : TokenV := if stampB t node now then { t with stamps := t.stamps.set node.toNat now } else t

theorem stamp_fin {S : Bs} {w w1 W : World} {t : TokenV} {stamps' : List Int} {n e : Nat} {Ax : Option Addr} {cx : Nat} {rv : Value}
    (i1 : I64 t.gen) (i2 : I64 t.hop) (i3 : I64 t.table.start) (hst : ∀ x ∈ stamps', I64 x) (hn : w.heap.size + 2 ≤ n) (hn1 : n ≤ w1.heap.size)
    (hB : Below w.heap.size w w1) (hown : W.ownsRow n e 1 (.slice Ax stamps'.length cx) stamps'.length (stamps'.map (Value.int .i64)))
    (hr : Sl rowE (fun b => (S b ∨ (n ≤ b ∧ b < w1.heap.size)) ∧ (Value.slice Ax stamps'.length cx).ownBlock ≠ some b) w1 rv t.table.rows)
    (hS : ∀ b, S b → b < w.heap.size)
    (hW1 : ∀ b, b ≠ w.heap.size → b ≠ w.heap.size + 1 → (Value.slice Ax stamps'.length cx).ownBlock ≠ some b → W.heap[b]? = w1.heap[b]?) (hW2 : Below w.heap.size w1 W) :
    TokR (plus S w W) W (.agg #[.int .i64 t.gen, .int .i64 t.hop, .slice Ax stamps'.length cx, .int .i64 t.table.start, rv]) { t with stamps := stamps' } ∧ Below w.heap.size w W := by
  refine ⟨⟨_, _, rfl, i1, i2, i3, ?_, ?_⟩, hB.trans hW2⟩
  · refine (Sl.of_owned (S := fun b => w.heap.size ≤ b) (E := intE) (by decide) hown ?_ (fun k hk => by have := (hown.lt k hk).1; show w.heap.size ≤ k; omega)).fit (by decide) |>.sub fun b ⟨h1, h2⟩ => .inr ⟨h1, h2⟩
    refine ⟨by simp [intE, flatE], fun j x hx => ⟨_, ⟨rfl, hst x (List.mem_of_getElem? hx)⟩, fun i u hu => ?_⟩⟩
    match i, hu with
    | 0, hu =>
      simp only [intE, flatE, Nat.mul_one, Nat.add_zero]
      rw [List.getElem?_map, hx]; exact hu
    | i + 1, hu => simp at hu
  · refine ((hr.mono (w' := W) fun b hb _ => hW1 b ?_ ?_ hb.2).sub (T := fun b => S b ∨ w.heap.size ≤ b) fun b hb => by rcases hb.1 with h | h; exact .inl h; exact .inr (by omega)).fit (by decide) |>.sub fun b ⟨h1, h2⟩ => by rcases h1 with h1 | h1; exact .inl h1; exact .inr ⟨h1, h2⟩
    · intro e; subst e
      rcases hb.1 with h | h
      · have := hS _ h; omega
      · omega
    · intro e; subst e
      rcases hb.1 with h | h
      · have := hS _ h; omega
      · omega

set_option maxHeartbeats 400000 in
set_option maxRecDepth 100000 in
theorem stamp_c (S : Bs) (v : Value) (t : TokenV) (node now : Int) (w : World) (h : TokR S w v t) (hf : Fits t) :
    Calls Try.prog 46 #[v, .int .i64 node, .int .i64 now] w fun e w' => ∃ v', e = .returned (.tuple #[v', .int .i64 (stampE t node now)]) ∧ TokR (plus S w w') w' v' (stampT t node now) ∧ Below w.heap.size w w' := by
  have h' := h
  obtain ⟨sv, rv, rfl, i1, i2, i3, hs, hr⟩ := h'
  have hs' := hs
  obtain ⟨A, c, rfl, hl, hc, _⟩ := hs
  obtain ⟨A2, c2, rfl, hl2, hc2, _⟩ := hr
  have HT := Lib.hid h.fit
  have HI := Lib.hid hs'.ints
  clear h hs'
  by_cases h1 : node < 0
  · have HF := Lib.hid (show stampB t node now = false from by unfold stampB; simp; omega)
    go_enter Try.func46, Try.ntmps46
    go_wp2_with (go_at_call 51; refine (cloneT_c (fun b => S b ∧ b < w.heap.size) _ t _ (HT.out.below (by repeat (with_reducible first | assumption | exact Below.refl _ _ | apply bel_alloc | apply bel_drew | apply bel_drewN | (refine bel_set ?_ (by simp; try omega) _)))) hf.1 hf.2.1 hf.2.2).mono ?_; rintro e w1 ⟨sv1, rv1, rfl, hown1, hr1, hb1⟩; obtain ⟨Ax, cx, rfl⟩ := owned_slice hown1; obtain ⟨Ay, cy, rfl⟩ := Sl.shape hr1; have hB1 : Below w.heap.size w w1 := bel_trans (by repeat (with_reducible first | assumption | exact Below.refl _ _ | apply bel_alloc | apply bel_drew | apply bel_drewN | (refine bel_set ?_ (by simp; try omega) _))) hb1; have B1 := ((blk_new w #[.int .i64 t.gen, .int .i64 t.hop, .slice A t.stamps.length c, .int .i64 t.table.start, .slice A2 t.table.rows.length c2] 29).alloc _).below hb1; have B2 := (blk_new (w.alloc (.cells #[.int .i64 t.gen, .int .i64 t.hop, .slice A t.stamps.length c, .int .i64 t.table.start, .slice A2 t.table.rows.length c2] 29)) #[.int .i64 0, .int .i64 0, .slice none 0 0, .int .i64 0, .slice none 0 0] 29).below hb1; rw [World.size_alloc] at B2; have p0 := B1.cell 0 _ rfl; have p1 := B1.cell 1 _ rfl; have p2 := B1.cell 2 _ rfl; have p3 := B1.cell 3 _ rfl; have p4 := B1.cell 4 _ rfl; have pf := B1.frozen; have q0 := B2.cell 0 _ rfl; have q1 := B2.cell 1 _ rfl; have q2 := B2.cell 2 _ rfl; have q3 := B2.cell 3 _ rfl; have q4 := B2.cell 4 _ rfl; have qf := B2.frozen; have hz1 := hb1.size; simp only [World.size_alloc] at hz1; have HO1 := Lib.hid hown1; have HR1 := Lib.hid hr1; have HB1 := Lib.hid hb1; have HBB1 := Lib.hid hB1; have HK1 := Lib.hid B1; have HK2 := Lib.hid B2; clear hown1 hr1 hb1 hB1 B1 B2; dsimp only)
    have fin : ∀ W : World, (∀ b, b ≠ w.heap.size → b ≠ w.heap.size + 1 → W.heap[b]? = w1.heap[b]?) → Below w.heap.size w1 W → ∃ v',
        Ending.returned (.tuple #[.agg #[.int .i64 t.gen, .int .i64 t.hop, .slice Ax t.stamps.length cx, .int .i64 t.table.start, .slice Ay t.table.rows.length cy], .int .i64 1]) = .returned (.tuple #[v', .int .i64 (stampE t node now)]) ∧ TokR (plus S w W) W v' (stampT t node now) ∧ Below w.heap.size w W := by
      intro W hW1 hW2
      have HO := HO1.out
      simp only [World.size_alloc] at HO
      have := stamp_fin (S := fun b => S b ∧ b < w.heap.size) (w := w) (w1 := w1) (W := W) (t := t) (stamps' := t.stamps) (n := w.heap.size + 1 + 1) i1 i2 i3 HI.out (Nat.le_refl _) hz1 HBB1.out (owned_keep HO fun g hg => hW1 g (by have := (HO.lt g hg).1; omega) (by have := (HO.lt g hg).1; omega))
        (HR1.out.sub fun b hb => ⟨by rcases hb.1 with h | h; exact .inl h; exact .inr (by simpa using h), hb.2⟩) (fun b hb => hb.2) (fun b h1 h2 _ => hW1 b h1 h2) hW2
      refine ⟨_, by unfold stampE; rw [HF.out]; rfl, ?_, this.2⟩
      unfold stampT
      rw [HF.out]
      exact this.1.sub fun b hb => by rcases hb with hb | hb; exact .inl hb.1; exact .inr hb

    refine bodyPost_ret (v := .tuple #[.agg #[.int .i64 t.gen, .int .i64 t.hop, .slice Ax t.stamps.length cx, .int .i64 t.table.start, .slice Ay t.table.rows.length cy], .int .i64 1]) (by simp only [results, Try.results46]; go_simp) rfl (fin _ ?_ ?_)
    · intro b h1 h2
      repeat rw [Below.heap_setCell _ _ _ _ (by first | exact h1 | exact h2)]
    · repeat (with_reducible first | exact Below.refl _ _ | (refine Below.setCell ?_ (by simp) _))
  by_cases h2 : (t.stamps.length : Int) ≤ node
  · have HF := Lib.hid (show stampB t node now = false from by unfold stampB; simp; omega)
    go_enter Try.func46, Try.ntmps46
    go_wp2_with (go_at_call 51; refine (cloneT_c (fun b => S b ∧ b < w.heap.size) _ t _ (HT.out.below (by repeat (with_reducible first | assumption | exact Below.refl _ _ | apply bel_alloc | apply bel_drew | apply bel_drewN | (refine bel_set ?_ (by simp; try omega) _)))) hf.1 hf.2.1 hf.2.2).mono ?_; rintro e w1 ⟨sv1, rv1, rfl, hown1, hr1, hb1⟩; obtain ⟨Ax, cx, rfl⟩ := owned_slice hown1; obtain ⟨Ay, cy, rfl⟩ := Sl.shape hr1; have hB1 : Below w.heap.size w w1 := bel_trans (by repeat (with_reducible first | assumption | exact Below.refl _ _ | apply bel_alloc | apply bel_drew | apply bel_drewN | (refine bel_set ?_ (by simp; try omega) _))) hb1; have B1 := ((blk_new w #[.int .i64 t.gen, .int .i64 t.hop, .slice A t.stamps.length c, .int .i64 t.table.start, .slice A2 t.table.rows.length c2] 29).alloc _).below hb1; have B2 := (blk_new (w.alloc (.cells #[.int .i64 t.gen, .int .i64 t.hop, .slice A t.stamps.length c, .int .i64 t.table.start, .slice A2 t.table.rows.length c2] 29)) #[.int .i64 0, .int .i64 0, .slice none 0 0, .int .i64 0, .slice none 0 0] 29).below hb1; rw [World.size_alloc] at B2; have p0 := B1.cell 0 _ rfl; have p1 := B1.cell 1 _ rfl; have p2 := B1.cell 2 _ rfl; have p3 := B1.cell 3 _ rfl; have p4 := B1.cell 4 _ rfl; have pf := B1.frozen; have q0 := B2.cell 0 _ rfl; have q1 := B2.cell 1 _ rfl; have q2 := B2.cell 2 _ rfl; have q3 := B2.cell 3 _ rfl; have q4 := B2.cell 4 _ rfl; have qf := B2.frozen; have hz1 := hb1.size; simp only [World.size_alloc] at hz1; have HO1 := Lib.hid hown1; have HR1 := Lib.hid hr1; have HB1 := Lib.hid hb1; have HBB1 := Lib.hid hB1; have HK1 := Lib.hid B1; have HK2 := Lib.hid B2; clear hown1 hr1 hb1 hB1 B1 B2; dsimp only)
    have fin : ∀ W : World, (∀ b, b ≠ w.heap.size → b ≠ w.heap.size + 1 → W.heap[b]? = w1.heap[b]?) → Below w.heap.size w1 W → ∃ v',
        Ending.returned (.tuple #[.agg #[.int .i64 t.gen, .int .i64 t.hop, .slice Ax t.stamps.length cx, .int .i64 t.table.start, .slice Ay t.table.rows.length cy], .int .i64 1]) = .returned (.tuple #[v', .int .i64 (stampE t node now)]) ∧ TokR (plus S w W) W v' (stampT t node now) ∧ Below w.heap.size w W := by
      intro W hW1 hW2
      have HO := HO1.out
      simp only [World.size_alloc] at HO
      have := stamp_fin (S := fun b => S b ∧ b < w.heap.size) (w := w) (w1 := w1) (W := W) (t := t) (stamps' := t.stamps) (n := w.heap.size + 1 + 1) i1 i2 i3 HI.out (Nat.le_refl _) hz1 HBB1.out (owned_keep HO fun g hg => hW1 g (by have := (HO.lt g hg).1; omega) (by have := (HO.lt g hg).1; omega))
        (HR1.out.sub fun b hb => ⟨by rcases hb.1 with h | h; exact .inl h; exact .inr (by simpa using h), hb.2⟩) (fun b hb => hb.2) (fun b h1 h2 _ => hW1 b h1 h2) hW2
      refine ⟨_, by unfold stampE; rw [HF.out]; rfl, ?_, this.2⟩
      unfold stampT
      rw [HF.out]
      exact this.1.sub fun b hb => by rcases hb with hb | hb; exact .inl hb.1; exact .inr hb

    refine bodyPost_ret (v := .tuple #[.agg #[.int .i64 t.gen, .int .i64 t.hop, .slice Ax t.stamps.length cx, .int .i64 t.table.start, .slice Ay t.table.rows.length cy], .int .i64 1]) (by simp only [results, Try.results46]; go_simp) rfl (fin _ ?_ ?_)
    · intro b h1 h2
      repeat rw [Below.heap_setCell _ _ _ _ (by first | exact h1 | exact h2)]
    · repeat (with_reducible first | exact Below.refl _ _ | (refine Below.setCell ?_ (by simp) _))
  by_cases h3 : now < 0
  · have HF := Lib.hid (show stampB t node now = false from by unfold stampB; simp; omega)
    go_enter Try.func46, Try.ntmps46
    go_wp2_with (go_at_call 51; refine (cloneT_c (fun b => S b ∧ b < w.heap.size) _ t _ (HT.out.below (by repeat (with_reducible first | assumption | exact Below.refl _ _ | apply bel_alloc | apply bel_drew | apply bel_drewN | (refine bel_set ?_ (by simp; try omega) _)))) hf.1 hf.2.1 hf.2.2).mono ?_; rintro e w1 ⟨sv1, rv1, rfl, hown1, hr1, hb1⟩; obtain ⟨Ax, cx, rfl⟩ := owned_slice hown1; obtain ⟨Ay, cy, rfl⟩ := Sl.shape hr1; have hB1 : Below w.heap.size w w1 := bel_trans (by repeat (with_reducible first | assumption | exact Below.refl _ _ | apply bel_alloc | apply bel_drew | apply bel_drewN | (refine bel_set ?_ (by simp; try omega) _))) hb1; have B1 := ((blk_new w #[.int .i64 t.gen, .int .i64 t.hop, .slice A t.stamps.length c, .int .i64 t.table.start, .slice A2 t.table.rows.length c2] 29).alloc _).below hb1; have B2 := (blk_new (w.alloc (.cells #[.int .i64 t.gen, .int .i64 t.hop, .slice A t.stamps.length c, .int .i64 t.table.start, .slice A2 t.table.rows.length c2] 29)) #[.int .i64 0, .int .i64 0, .slice none 0 0, .int .i64 0, .slice none 0 0] 29).below hb1; rw [World.size_alloc] at B2; have p0 := B1.cell 0 _ rfl; have p1 := B1.cell 1 _ rfl; have p2 := B1.cell 2 _ rfl; have p3 := B1.cell 3 _ rfl; have p4 := B1.cell 4 _ rfl; have pf := B1.frozen; have q0 := B2.cell 0 _ rfl; have q1 := B2.cell 1 _ rfl; have q2 := B2.cell 2 _ rfl; have q3 := B2.cell 3 _ rfl; have q4 := B2.cell 4 _ rfl; have qf := B2.frozen; have hz1 := hb1.size; simp only [World.size_alloc] at hz1; have HO1 := Lib.hid hown1; have HR1 := Lib.hid hr1; have HB1 := Lib.hid hb1; have HBB1 := Lib.hid hB1; have HK1 := Lib.hid B1; have HK2 := Lib.hid B2; clear hown1 hr1 hb1 hB1 B1 B2; dsimp only)
    have fin : ∀ W : World, (∀ b, b ≠ w.heap.size → b ≠ w.heap.size + 1 → W.heap[b]? = w1.heap[b]?) → Below w.heap.size w1 W → ∃ v',
        Ending.returned (.tuple #[.agg #[.int .i64 t.gen, .int .i64 t.hop, .slice Ax t.stamps.length cx, .int .i64 t.table.start, .slice Ay t.table.rows.length cy], .int .i64 1]) = .returned (.tuple #[v', .int .i64 (stampE t node now)]) ∧ TokR (plus S w W) W v' (stampT t node now) ∧ Below w.heap.size w W := by
      intro W hW1 hW2
      have HO := HO1.out
      simp only [World.size_alloc] at HO
      have := stamp_fin (S := fun b => S b ∧ b < w.heap.size) (w := w) (w1 := w1) (W := W) (t := t) (stamps' := t.stamps) (n := w.heap.size + 1 + 1) i1 i2 i3 HI.out (Nat.le_refl _) hz1 HBB1.out (owned_keep HO fun g hg => hW1 g (by have := (HO.lt g hg).1; omega) (by have := (HO.lt g hg).1; omega))
        (HR1.out.sub fun b hb => ⟨by rcases hb.1 with h | h; exact .inl h; exact .inr (by simpa using h), hb.2⟩) (fun b hb => hb.2) (fun b h1 h2 _ => hW1 b h1 h2) hW2
      refine ⟨_, by unfold stampE; rw [HF.out]; rfl, ?_, this.2⟩
      unfold stampT
      rw [HF.out]
      exact this.1.sub fun b hb => by rcases hb with hb | hb; exact .inl hb.1; exact .inr hb

    refine bodyPost_ret (v := .tuple #[.agg #[.int .i64 t.gen, .int .i64 t.hop, .slice Ax t.stamps.length cx, .int .i64 t.table.start, .slice Ay t.table.rows.length cy], .int .i64 1]) (by simp only [results, Try.results46]; go_simp) rfl (fin _ ?_ ?_)
    · intro b h1 h2
      repeat rw [Below.heap_setCell _ _ _ _ (by first | exact h1 | exact h2)]
    · repeat (with_reducible first | exact Below.refl _ _ | (refine Below.setCell ?_ (by simp) _))
  by_cases h4 : 4611686018427387904 ≤ now
  · have HF := Lib.hid (show stampB t node now = false from by unfold stampB; simp; omega)
    go_enter Try.func46, Try.ntmps46
    go_wp2_with (go_at_call 51; refine (cloneT_c (fun b => S b ∧ b < w.heap.size) _ t _ (HT.out.below (by repeat (with_reducible first | assumption | exact Below.refl _ _ | apply bel_alloc | apply bel_drew | apply bel_drewN | (refine bel_set ?_ (by simp; try omega) _)))) hf.1 hf.2.1 hf.2.2).mono ?_; rintro e w1 ⟨sv1, rv1, rfl, hown1, hr1, hb1⟩; obtain ⟨Ax, cx, rfl⟩ := owned_slice hown1; obtain ⟨Ay, cy, rfl⟩ := Sl.shape hr1; have hB1 : Below w.heap.size w w1 := bel_trans (by repeat (with_reducible first | assumption | exact Below.refl _ _ | apply bel_alloc | apply bel_drew | apply bel_drewN | (refine bel_set ?_ (by simp; try omega) _))) hb1; have B1 := ((blk_new w #[.int .i64 t.gen, .int .i64 t.hop, .slice A t.stamps.length c, .int .i64 t.table.start, .slice A2 t.table.rows.length c2] 29).alloc _).below hb1; have B2 := (blk_new (w.alloc (.cells #[.int .i64 t.gen, .int .i64 t.hop, .slice A t.stamps.length c, .int .i64 t.table.start, .slice A2 t.table.rows.length c2] 29)) #[.int .i64 0, .int .i64 0, .slice none 0 0, .int .i64 0, .slice none 0 0] 29).below hb1; rw [World.size_alloc] at B2; have p0 := B1.cell 0 _ rfl; have p1 := B1.cell 1 _ rfl; have p2 := B1.cell 2 _ rfl; have p3 := B1.cell 3 _ rfl; have p4 := B1.cell 4 _ rfl; have pf := B1.frozen; have q0 := B2.cell 0 _ rfl; have q1 := B2.cell 1 _ rfl; have q2 := B2.cell 2 _ rfl; have q3 := B2.cell 3 _ rfl; have q4 := B2.cell 4 _ rfl; have qf := B2.frozen; have hz1 := hb1.size; simp only [World.size_alloc] at hz1; have HO1 := Lib.hid hown1; have HR1 := Lib.hid hr1; have HB1 := Lib.hid hb1; have HBB1 := Lib.hid hB1; have HK1 := Lib.hid B1; have HK2 := Lib.hid B2; clear hown1 hr1 hb1 hB1 B1 B2; dsimp only)
    have fin : ∀ W : World, (∀ b, b ≠ w.heap.size → b ≠ w.heap.size + 1 → W.heap[b]? = w1.heap[b]?) → Below w.heap.size w1 W → ∃ v',
        Ending.returned (.tuple #[.agg #[.int .i64 t.gen, .int .i64 t.hop, .slice Ax t.stamps.length cx, .int .i64 t.table.start, .slice Ay t.table.rows.length cy], .int .i64 1]) = .returned (.tuple #[v', .int .i64 (stampE t node now)]) ∧ TokR (plus S w W) W v' (stampT t node now) ∧ Below w.heap.size w W := by
      intro W hW1 hW2
      have HO := HO1.out
      simp only [World.size_alloc] at HO
      have := stamp_fin (S := fun b => S b ∧ b < w.heap.size) (w := w) (w1 := w1) (W := W) (t := t) (stamps' := t.stamps) (n := w.heap.size + 1 + 1) i1 i2 i3 HI.out (Nat.le_refl _) hz1 HBB1.out (owned_keep HO fun g hg => hW1 g (by have := (HO.lt g hg).1; omega) (by have := (HO.lt g hg).1; omega))
        (HR1.out.sub fun b hb => ⟨by rcases hb.1 with h | h; exact .inl h; exact .inr (by simpa using h), hb.2⟩) (fun b hb => hb.2) (fun b h1 h2 _ => hW1 b h1 h2) hW2
      refine ⟨_, by unfold stampE; rw [HF.out]; rfl, ?_, this.2⟩
      unfold stampT
      rw [HF.out]
      exact this.1.sub fun b hb => by rcases hb with hb | hb; exact .inl hb.1; exact .inr hb

    refine bodyPost_ret (v := .tuple #[.agg #[.int .i64 t.gen, .int .i64 t.hop, .slice Ax t.stamps.length cx, .int .i64 t.table.start, .slice Ay t.table.rows.length cy], .int .i64 1]) (by simp only [results, Try.results46]; go_simp) rfl (fin _ ?_ ?_)
    · intro b h1 h2
      repeat rw [Below.heap_setCell _ _ _ _ (by first | exact h1 | exact h2)]
    · repeat (with_reducible first | exact Below.refl _ _ | (refine Below.setCell ?_ (by simp) _))
  obtain ⟨m, rfl⟩ := Int.eq_ofNat_of_zero_le (show 0 ≤ node by omega)
  have hm : m < t.stamps.length := by omega
  have hm2 : ¬ (t.stamps.length : Int) ≤ (m : Int) := by omega
  have HF := Lib.hid (show stampB t m now = true from by unfold stampB; simp; omega)
  go_enter Try.func46, Try.ntmps46
  go_wp2_with (go_at_call 51; refine (cloneT_c (fun b => S b ∧ b < w.heap.size) _ t _ (HT.out.below (by repeat (with_reducible first | assumption | exact Below.refl _ _ | apply bel_alloc | apply bel_drew | apply bel_drewN | (refine bel_set ?_ (by simp; try omega) _)))) hf.1 hf.2.1 hf.2.2).mono ?_; rintro e w1 ⟨sv1, rv1, rfl, hown1, hr1, hb1⟩; obtain ⟨g, cx, rfl, hg1, hg2⟩ := hown1.form (by omega); have hgc := (hown1.cellAt m (by omega)).trans (List.getElem?_map ..); rw [List.getElem?_eq_getElem hm] at hgc; have hgf := hown1.frozenAt m; obtain ⟨Ay, cy, rfl⟩ := Sl.shape hr1; have hB1 : Below w.heap.size w w1 := bel_trans (by repeat (with_reducible first | assumption | exact Below.refl _ _ | apply bel_alloc | apply bel_drew | apply bel_drewN | (refine bel_set ?_ (by simp; try omega) _))) hb1; have B1 := ((blk_new w #[.int .i64 t.gen, .int .i64 t.hop, .slice A t.stamps.length c, .int .i64 t.table.start, .slice A2 t.table.rows.length c2] 29).alloc _).below hb1; have B2 := (blk_new (w.alloc (.cells #[.int .i64 t.gen, .int .i64 t.hop, .slice A t.stamps.length c, .int .i64 t.table.start, .slice A2 t.table.rows.length c2] 29)) #[.int .i64 0, .int .i64 0, .slice none 0 0, .int .i64 0, .slice none 0 0] 29).below hb1; rw [World.size_alloc] at B2; have p0 := B1.cell 0 _ rfl; have p1 := B1.cell 1 _ rfl; have p2 := B1.cell 2 _ rfl; have p3 := B1.cell 3 _ rfl; have p4 := B1.cell 4 _ rfl; have pf := B1.frozen; have q0 := B2.cell 0 _ rfl; have q1 := B2.cell 1 _ rfl; have q2 := B2.cell 2 _ rfl; have q3 := B2.cell 3 _ rfl; have q4 := B2.cell 4 _ rfl; have qf := B2.frozen; have hz1 := hb1.size; simp only [World.size_alloc] at hz1 hg1; have HO1 := Lib.hid hown1; have HR1 := Lib.hid hr1; have HB1 := Lib.hid hb1; have HBB1 := Lib.hid hB1; have HK1 := Lib.hid B1; have HK2 := Lib.hid B2; clear hown1 hr1 hb1 hB1 B1 B2; dsimp only)
  have fin : ∀ W : World, (∀ b, b ≠ w.heap.size → b ≠ w.heap.size + 1 → b ≠ g → W.heap[b]? = w1.heap[b]?) → W.heap[g]? = (w1.setCell ⟨g, m, none⟩ (.int .i64 now)).heap[g]? → Below w.heap.size w1 W → ∃ v',
      Ending.returned (.tuple #[.agg #[.int .i64 t.gen, .int .i64 t.hop, .slice (some ⟨g, 0, none⟩) t.stamps.length cx, .int .i64 t.table.start, .slice Ay t.table.rows.length cy], .int .i64 0]) = .returned (.tuple #[v', .int .i64 (stampE t m now)]) ∧ TokR (plus S w W) W v' (stampT t m now) ∧ Below w.heap.size w W := by
    intro W hW1 hWg hW2
    have HO := (HO1.out.stored m (.int .i64 now)).1
    simp only [World.size_alloc] at HO
    rw [show Value.int .i64 now = (Value.int .i64) now from rfl, ← List.map_set] at HO
    have hlen : (t.stamps.set m now).length = t.stamps.length := List.length_set ..
    have := stamp_fin (S := fun b => S b ∧ b < w.heap.size) (w := w) (w1 := w1) (W := W) (t := t) (stamps' := t.stamps.set m now) (n := w.heap.size + 1 + 1) (Ax := some ⟨g, 0, none⟩) (cx := cx) (rv := .slice Ay t.table.rows.length cy) (e := 3) i1 i2 i3
      (fun x hx => by
        rcases List.mem_or_eq_of_mem_set hx with h | rfl
        · exact HI.out x h
        · unfold I64; omega) (Nat.le_refl _) hz1 HBB1.out (by rw [hlen]; exact owned_keep HO fun g' hg' => (show W.heap[g']? = _ from by have h9 : g' = g := (by simpa [Value.ownBlock] using hg'.symm); rw [h9]; exact hWg))
      (by rw [hlen]; exact HR1.out.sub fun b hb => ⟨by rcases hb.1 with h | h; exact .inl h; exact .inr (by simpa using h), hb.2⟩) (fun b hb => hb.2) (fun b h1 h2 h3 => hW1 b h1 h2 (fun e => by subst e; exact h3 rfl)) hW2
    rw [hlen] at this
    refine ⟨_, by unfold stampE; rw [HF.out]; rfl, ?_, this.2⟩
    unfold stampT
    rw [HF.out]
    exact this.1.sub fun b hb => by rcases hb with hb | hb; exact .inl hb.1; exact .inr hb
  refine bodyPost_ret (v := .tuple #[.agg #[.int .i64 t.gen, .int .i64 t.hop, .slice (some ⟨g, 0, none⟩) t.stamps.length cx, .int .i64 t.table.start, .slice Ay t.table.rows.length cy], .int .i64 0]) (by simp only [results, Try.results46]; go_simp) rfl (fin _ ?_ ?_ ?_)
  · intro b h1 h2 h3
    repeat rw [Below.heap_setCell _ _ _ _ (by first | exact h1 | exact h2 | exact h3)]
  · have hx0 : g ≠ w.heap.size := by omega
    have hx1 : g ≠ w.heap.size + 1 := by omega
    rw [Below.heap_setCell _ _ _ _ hx1, Below.heap_setCell _ _ _ _ hx1, Below.heap_setCell _ _ _ _ hx1, Below.heap_setCell _ _ _ _ hx1, Below.heap_setCell _ _ _ _ hx1]
    unfold World.setCell
    simp only [Array.getElem?_modify]
    simp [hx0.symm]
  · repeat (with_reducible first | exact Below.refl _ _ | (refine Below.setCell ?_ (by first | (simp; done) | (simp; omega)) _))

end Go.Proofs.Ytpbicdbicikniaa
