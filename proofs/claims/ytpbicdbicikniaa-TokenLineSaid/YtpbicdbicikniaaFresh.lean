/- token.Fresh. -/
import Derived.Test.YtpbicdbicikniaaRepeat
import Derived.Test.YtpbicdbicikniaaPass
namespace Go.Proofs.Ytpbicdbicikniaa
open Go.RowKit
set_option linter.unusedVariables false
set_option maxRecDepth 100000

def tok0 : TokenV := ⟨0, 0, [], ⟨0, []⟩⟩
def freshN (gen n now : Int) : TokenV := ⟨gen, 0, List.replicate n.toNat (-1), ⟨now, []⟩⟩
def freshB (gen n node now : Int) : Bool := inB n 1 64 && (stampB (freshN gen n now) node now && tokenB (stampT (freshN gen n now) node now))
def freshE (gen n node now : Int) : Int := if freshB gen n node now then 0 else 1
def freshT (gen n node now : Int) : TokenV := if freshB gen n node now then stampT (freshN gen n now) node now else tok0

theorem tok0_r {S : Bs} {w : World} : TokR S w (.agg #[.int .i64 0, .int .i64 0, .slice none 0 0, .int .i64 0, .slice none 0 0]) tok0 :=
  ⟨_, _, rfl, by unfold I64 tok0; simp, by unfold I64 tok0; simp, by unfold I64 tok0; simp, Sl.nil, Sl.nil⟩

theorem freshN_r {base : Nat} {W : World} {v : Value} {gen now : Int} {n : Nat} (h : W.ownsRow base 3 1 v n (reps (-1) n)) (i1 : I64 gen) (i2 : I64 now) :
    TokR (fun b => base ≤ b ∧ b < W.heap.size) W (.agg #[.int .i64 gen, .int .i64 0, v, .int .i64 now, .slice none 0 0]) (freshN gen n now) := by
  refine ⟨v, _, rfl, i1, by unfold I64 freshN; simp, i2, ?_, Sl.nil⟩
  have e : reps (-1) n = (List.replicate n (-1 : Int)).map (Value.int .i64) := by simp [reps]
  have el : (List.replicate n (-1 : Int)).length = n := by simp
  rw [e] at h
  have h2 := sl_of_ints (xs := List.replicate n (-1 : Int)) (by rw [el]; exact h) (fun x hx => by rw [List.mem_replicate] at hx; rw [hx.2]; unfold I64; omega)
  have h3 := (h2.sub (T := fun b => base ≤ b) (fun b hb => (h.lt b hb).1)).fit (by decide)
  show Sl intE _ W v (List.replicate ((n : Int).toNat) (-1))
  rw [Int.toNat_natCast]
  exact h3

theorem sl_lit1 {W : World} {b t : Nat} {x : Int} (h : Blk W b #[.int .i64 x] t) (hx : I64 x) : Sl intE (fun b' => b' = b) W (.slice (some ⟨b, 0, none⟩) 1 1) [x] := by
  refine ⟨_, 1, rfl, Nat.le_refl _, by omega, fun j z hz => ?_⟩
  match j, hz with
  | 0, hz =>
    simp at hz; subst hz
    refine ⟨b, 0, _, rfl, rfl, ⟨rfl, hx⟩, fun i u hu => ?_⟩
    match i, hu with
    | 0, hu => simpa [intE, flatE] using h.cell 0 u (by simpa using hu)
    | i + 1, hu => simp at hu
  | j + 1, hz => simp at hz

abbrev tokZ : Array Value := #[.int .i64 0, .int .i64 0, .slice none 0 0, .int .i64 0, .slice none 0 0]

theorem five {w : World} {b : Nat} {a0 a1 a2 a3 a4 : Value} {t : TypeId} (h : Blk w b #[a0, a1, a2, a3, a4] t) (u0 u1 u2 u3 u4 : Value) :
    ∃ W, W = ((((w.setCell ⟨b, 0, none⟩ u0).setCell ⟨b, 1, none⟩ u1).setCell ⟨b, 2, none⟩ u2).setCell ⟨b, 3, none⟩ u3).setCell ⟨b, 4, none⟩ u4 ∧ Blk W b #[u0, u1, u2, u3, u4] t ∧
      (∀ b', b' ≠ b → W.heap[b']? = w.heap[b']?) ∧ (∀ B w0, B ≤ b → Below B w0 w → Below B w0 W) ∧ W.heap.size = w.heap.size :=
  ⟨_, rfl, ((((h.set 0 _).set 1 _).set 2 _).set 3 _).set 4 _, fun b' hb => by repeat rw [Below.heap_setCell _ _ _ _ hb], fun B w0 hB hw => ((((hw.setCell hB _).setCell hB _).setCell hB _).setCell hB _).setCell hB _, by simp⟩

set_option maxHeartbeats 1000000 in
theorem fresh_c (gen n node now : Int) (w : World) (hg : I64 gen) (hn : I64 n) (hd : I64 node) (ht : I64 now) :
    Calls Try.prog 8 #[.int .i64 gen, .int .i64 n, .int .i64 node, .int .i64 now] w fun e w' => ∃ v', e = .returned (.tuple #[v', .int .i64 (freshE gen n node now)]) ∧ TokR (plus (fun _ => False) w w') w' v' (freshT gen n node now) ∧ Below w.heap.size w w' := by
  by_cases h1 : n < 1
  · have HF := Lib.hid (show freshB gen n node now = false from by unfold freshB; rw [show inB n 1 64 = false from by unfold inB; simp; omega]; rfl)
    go_enter Try.func8, Try.ntmps8
    go_wp2_with fail
    refine bodyPost_ret (v := .tuple #[.agg tokZ, .int .i64 1]) (by simp only [results, Try.results8]; go_simp) rfl ⟨_, by unfold freshE; rw [HF.out]; rfl, by unfold freshT; rw [HF.out]; exact tok0_r, (by repeat (with_reducible first | assumption | exact Below.refl _ _ | apply bel_alloc | apply bel_drew | apply bel_drewN | (refine bel_set ?_ (by simp; try omega) _)))⟩
  by_cases h2 : 64 < n
  · have HF := Lib.hid (show freshB gen n node now = false from by unfold freshB; rw [show inB n 1 64 = false from by unfold inB; simp; omega]; rfl)
    go_enter Try.func8, Try.ntmps8
    go_wp2_with fail
    refine bodyPost_ret (v := .tuple #[.agg tokZ, .int .i64 1]) (by simp only [results, Try.results8]; go_simp) rfl ⟨_, by unfold freshE; rw [HF.out]; rfl, by unfold freshT; rw [HF.out]; exact tok0_r, (by repeat (with_reducible first | assumption | exact Below.refl _ _ | apply bel_alloc | apply bel_drew | apply bel_drewN | (refine bel_set ?_ (by simp; try omega) _)))⟩
  obtain ⟨m, rfl⟩ := Int.eq_ofNat_of_zero_le (show 0 ≤ n by omega)
  have HN := Lib.hid (show 1 ≤ m from by omega)
  have HN2 := Lib.hid (show m ≤ 1048576 from by omega)
  go_enter Try.func8, Try.ntmps8
  go_upto_region 4 with ((go_at_call 45; refine (repeat_c (fun b => b = w.heap.size + 1) _ (-1) m _ (by have := sl_lit1 (blk_new (w.alloc (.cells tokZ 29)) #[.int .i64 (-1)] 3) (by unfold I64; omega); rw [World.size_alloc] at this; exact this) HN.out HN2.out).mono ?_; rintro e w1 ⟨v1, rfl, ho1, hb1⟩; obtain ⟨A1, c1, rfl⟩ := owned_slice ho1; have B1 := ((blk_new w tokZ 29).alloc _).below hb1; have p0 := B1.cell 0 _ rfl; have p1 := B1.cell 1 _ rfl; have p2 := B1.cell 2 _ rfl; have p3 := B1.cell 3 _ rfl; have p4 := B1.cell 4 _ rfl; have pf := B1.frozen; have hz1 := hb1.size; simp only [World.size_alloc] at hz1; have HB1 := Lib.hid (show Below w.heap.size w w1 from bel_trans (by repeat (with_reducible first | assumption | exact Below.refl _ _ | apply bel_alloc | apply bel_drew | apply bel_drewN | (refine bel_set ?_ (by simp; try omega) _))) hb1); have HK1 := Lib.hid B1; simp only [World.size_alloc] at ho1; have HO1 := Lib.hid ho1; clear ho1 hb1 B1))
  have HT1 := Lib.hid (freshN_r (gen := gen) (now := now) HO1.out hg ht)
  have HFit := Lib.hid (show Fits (freshN gen m now) from ⟨by simp [freshN]; omega, by simp [freshN], by simp [freshN]⟩)
  obtain ⟨X, hX⟩ : ∃ X, X = #[Value.int .i64 gen, Value.int .i64 0, Value.slice A1 m c1, Value.int .i64 now, Value.slice none 0 0] := ⟨_, rfl⟩
  have HB2 := Lib.hid (bel_alloc (o := .cells X 29) HB1.out)
  have HT2 := Lib.hid (HT1.out.below (bel_alloc (o := .cells X 29) (Below.refl _ _)))
  have HK2 := Lib.hid (blk_new w1 X 29)
  have HL2 := Lib.hid (HK1.out.alloc (.cells X 29))
  subst hX
  have HST := Lib.hid (stamp_c _ _ _ node now _ HT2.out HFit.out)
  clear p0 p1 p2 p3 p4 pf
  cases hq : stampB (freshN gen m now) node now with
  | false =>
    have HE := Lib.hid (show stampE (freshN gen m now) node now = 1 from by unfold stampE; rw [hq]; rfl)
    have HF := Lib.hid (show freshB gen m node now = false from by unfold freshB; rw [hq]; simp)
    go_upto_region 5 with ((go_at_call 46; refine HST.out.mono ?_; rintro e w2 ⟨v2, rfl, ⟨sv2, rv2, rfl, j1, j2, j3, hs2, hr2⟩, hb2⟩; obtain ⟨Ax, cx, rfl⟩ := Sl.shape hs2; obtain ⟨Ay, cy, rfl⟩ := Sl.shape hr2; rw [HE.out]; have B1 := HL2.out.below hb2; have B2 := HK2.out.below hb2; have p0 := B1.cell 0 _ rfl; have p1 := B1.cell 1 _ rfl; have p2 := B1.cell 2 _ rfl; have p3 := B1.cell 3 _ rfl; have p4 := B1.cell 4 _ rfl; have pf := B1.frozen; have q0 := B2.cell 0 _ rfl; have q1 := B2.cell 1 _ rfl; have q2 := B2.cell 2 _ rfl; have q3 := B2.cell 3 _ rfl; have q4 := B2.cell 4 _ rfl; have qf := B2.frozen; have hz2 := hb2.size; simp only [World.size_alloc] at hz2; have HB3 := Lib.hid (bel_trans HB2.out hb2); have HL3 := Lib.hid B1; have HK3 := Lib.hid B2; have HS2 := Lib.hid hs2; have HR2 := Lib.hid hr2; clear hs2 hr2 hb2 B1 B2))
    obtain ⟨W5, hW5, hK5, hR5, hQ5, hZ5⟩ := five HK3.out (Value.int .i64 (stampT (freshN gen m now) node now).gen) (Value.int .i64 (stampT (freshN gen m now) node now).hop) (Value.slice Ax (stampT (freshN gen m now) node now).stamps.length cx) (Value.int .i64 (stampT (freshN gen m now) node now).table.start) (Value.slice Ay (stampT (freshN gen m now) node now).table.rows.length cy)
    rw [← hW5]
    have HL5 := Lib.hid (HL3.out.keep (hR5 w.heap.size (by omega)))
    have HB5 := Lib.hid (hQ5 w.heap.size w (by omega) HB3.out)
    have HK5 := Lib.hid hK5
    have HR5 := Lib.hid hR5
    have HQ5 := Lib.hid hQ5
    clear p0 p1 p2 p3 p4 pf q0 q1 q2 q3 q4 qf hW5 hK5 hR5 hQ5
    have B1 := HL5.out
    have B2 := HK5.out
    have p0 := B1.cell 0 _ rfl; have p1 := B1.cell 1 _ rfl; have p2 := B1.cell 2 _ rfl; have p3 := B1.cell 3 _ rfl; have p4 := B1.cell 4 _ rfl; have pf := B1.frozen
    have q0 := B2.cell 0 _ rfl; have q1 := B2.cell 1 _ rfl; have q2 := B2.cell 2 _ rfl; have q3 := B2.cell 3 _ rfl; have q4 := B2.cell 4 _ rfl; have qf := B2.frozen
    clear B1 B2
    go_wp2_with fail
    refine bodyPost_ret (v := .tuple #[.agg tokZ, .int .i64 1]) (by simp only [results, Try.results8]; go_simp) rfl ⟨_, by unfold freshE; rw [HF.out]; rfl, by unfold freshT; rw [HF.out]; exact tok0_r, ?_⟩
    repeat (with_reducible first | exact HB5.out | (refine Below.setCell ?_ (by simp) _))
  | true =>
    have HE := Lib.hid (show stampE (freshN gen m now) node now = 0 from by unfold stampE; rw [hq]; rfl)
    go_upto_region 5 with ((go_at_call 46; refine HST.out.mono ?_; rintro e w2 ⟨v2, rfl, ⟨sv2, rv2, rfl, j1, j2, j3, hs2, hr2⟩, hb2⟩; obtain ⟨Ax, cx, rfl⟩ := Sl.shape hs2; obtain ⟨Ay, cy, rfl⟩ := Sl.shape hr2; rw [HE.out]; have B1 := HL2.out.below hb2; have B2 := HK2.out.below hb2; have p0 := B1.cell 0 _ rfl; have p1 := B1.cell 1 _ rfl; have p2 := B1.cell 2 _ rfl; have p3 := B1.cell 3 _ rfl; have p4 := B1.cell 4 _ rfl; have pf := B1.frozen; have q0 := B2.cell 0 _ rfl; have q1 := B2.cell 1 _ rfl; have q2 := B2.cell 2 _ rfl; have q3 := B2.cell 3 _ rfl; have q4 := B2.cell 4 _ rfl; have qf := B2.frozen; have hz2 := hb2.size; simp only [World.size_alloc] at hz2; have HB3 := Lib.hid (bel_trans HB2.out hb2); have HL3 := Lib.hid B1; have HK3 := Lib.hid B2; have HS2 := Lib.hid hs2; have HR2 := Lib.hid hr2; clear hs2 hr2 hb2 B1 B2))
    obtain ⟨W5, hW5, hK5, hR5, hQ5, hZ5⟩ := five HK3.out (Value.int .i64 (stampT (freshN gen m now) node now).gen) (Value.int .i64 (stampT (freshN gen m now) node now).hop) (Value.slice Ax (stampT (freshN gen m now) node now).stamps.length cx) (Value.int .i64 (stampT (freshN gen m now) node now).table.start) (Value.slice Ay (stampT (freshN gen m now) node now).table.rows.length cy)
    rw [← hW5]
    have HL5 := Lib.hid (HL3.out.keep (hR5 w.heap.size (by omega)))
    have HB5 := Lib.hid (hQ5 w.heap.size w (by omega) HB3.out)
    have HK5 := Lib.hid hK5
    have HR5 := Lib.hid hR5
    have HQ5 := Lib.hid hQ5
    clear p0 p1 p2 p3 p4 pf q0 q1 q2 q3 q4 qf hW5 hK5 hR5 hQ5
    have B1 := HL5.out
    have B2 := HK5.out
    have p0 := B1.cell 0 _ rfl; have p1 := B1.cell 1 _ rfl; have p2 := B1.cell 2 _ rfl; have p3 := B1.cell 3 _ rfl; have p4 := B1.cell 4 _ rfl; have pf := B1.frozen
    have q0 := B2.cell 0 _ rfl; have q1 := B2.cell 1 _ rfl; have q2 := B2.cell 2 _ rfl; have q3 := B2.cell 3 _ rfl; have q4 := B2.cell 4 _ rfl; have qf := B2.frozen
    clear B1 B2
    have HS5 := Lib.hid (show ∀ b, plus (fun b => w.heap.size + 1 + 1 ≤ b ∧ b < w1.heap.size) (w1.alloc (.cells #[Value.int .i64 gen, Value.int .i64 0, Value.slice A1 m c1, Value.int .i64 now, Value.slice none 0 0] 29)) w2 b → w.heap.size + 1 + 1 ≤ b ∧ b ≠ w1.heap.size from by
      intro b hb
      rcases hb with ⟨h1, h2⟩ | ⟨h1, h2⟩
      · omega
      · simp only [World.size_alloc] at h1; omega)
    have HT5 := Lib.hid (TokR.mono (w' := W5) (fun b hb _ => HR5.out b (HS5.out b hb).2) ⟨_, _, rfl, j1, j2, j3, HS2.out, HR2.out⟩)
    have HTK := Lib.hid (token_c _ _ _ _ HT5.out)
    cases ht : tokenB (stampT (freshN gen m now) node now) with
    | false =>
      have HF := Lib.hid (show freshB gen m node now = false from by unfold freshB; rw [ht]; simp)
      rw [ht] at HTK
      go_upto_region 6 with ((go_at_call 47; refine HTK.out.mono ?_; rintro e w4 ⟨rfl, hb4⟩; have B1 := HL5.out.below hb4; have r0 := B1.cell 0 _ rfl; have r1 := B1.cell 1 _ rfl; have r2 := B1.cell 2 _ rfl; have r3 := B1.cell 3 _ rfl; have r4 := B1.cell 4 _ rfl; have rf := B1.frozen; have HB4 := Lib.hid (bel_trans HB5.out hb4); clear hb4 B1))
      go_wp2_with fail
      refine bodyPost_ret (v := .tuple #[.agg tokZ, .int .i64 1]) (by simp only [results, Try.results8]; go_simp) rfl ⟨_, by unfold freshE; rw [HF.out]; rfl, by unfold freshT; rw [HF.out]; exact tok0_r, ?_⟩
      repeat (with_reducible first | exact HB4.out | (refine Below.setCell ?_ (by simp) _))
    | true =>
      have HF := Lib.hid (show freshB gen m node now = true from by unfold freshB; rw [ht, hq, show inB (m : Int) 1 64 = true from by unfold inB; simp; omega]; rfl)
      rw [ht] at HTK
      go_upto_region 7 with ((go_at_call 47; refine HTK.out.mono ?_; rintro e w4 ⟨rfl, hb4⟩; have B1 := HL5.out.below hb4; have B2 := HK5.out.below hb4; have r0 := B1.cell 0 _ rfl; have r1 := B1.cell 1 _ rfl; have r2 := B1.cell 2 _ rfl; have r3 := B1.cell 3 _ rfl; have r4 := B1.cell 4 _ rfl; have rf := B1.frozen; have s0 := B2.cell 0 _ rfl; have s1 := B2.cell 1 _ rfl; have s2 := B2.cell 2 _ rfl; have s3 := B2.cell 3 _ rfl; have s4 := B2.cell 4 _ rfl; have sf := B2.frozen; have HB4 := Lib.hid (bel_trans HB5.out hb4); have HT4 := Lib.hid (HT5.out.below hb4); have HZ4 := Lib.hid hb4.size; clear hb4 B1 B2))
      go_wp2_with fail
      refine bodyPost_ret (v := .tuple #[.agg #[.int .i64 (stampT (freshN gen m now) node now).gen, .int .i64 (stampT (freshN gen m now) node now).hop, .slice Ax (stampT (freshN gen m now) node now).stamps.length cx, .int .i64 (stampT (freshN gen m now) node now).table.start, .slice Ay (stampT (freshN gen m now) node now).table.rows.length cy], .int .i64 0]) (by simp only [results, Try.results8]; go_simp) rfl ⟨_, by unfold freshE; rw [HF.out]; rfl, ?_, ?_⟩
      · unfold freshT
        rw [HF.out]
        refine ((TokR.mono (fun b hb _ => ?_) HT4.out).fit).sub fun b hb => Or.inr ⟨by have := (HS5.out b hb.1).1; omega, hb.2⟩
        have hne : b ≠ w.heap.size := by have := (HS5.out b hb).1; omega
        repeat rw [Below.heap_setCell _ _ _ _ hne]
      · repeat (with_reducible first | exact HB4.out | (refine Below.setCell ?_ (by simp) _))
end Go.Proofs.Ytpbicdbicikniaa
