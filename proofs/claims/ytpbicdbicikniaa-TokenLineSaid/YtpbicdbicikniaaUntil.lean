/- sat.Add, token.Until, Valid. -/
import Derived.Test.YtpbicdbicikniaaDel
import Derived.Test.YtpbicdbicikniaaStamp
namespace Go.Proofs.Ytpbicdbicikniaa
open Go.RowKit
set_option linter.unusedVariables false

def add2 (s x : Int) : Int := min (s + fitZ x) 4611686018427387904
def addL (l : List Int) : Int := l.foldl add2 0
theorem addL_range (l : List Int) : 0 ≤ addL l ∧ addL l ≤ 4611686018427387904 := by
  unfold addL
  have key : ∀ (l : List Int) (s : Int), 0 ≤ s → s ≤ 4611686018427387904 → 0 ≤ l.foldl add2 s ∧ l.foldl add2 s ≤ 4611686018427387904 := by
    intro l
    induction l with
    | nil => intro s h1 h2; exact ⟨h1, h2⟩
    | cons x l ih => intro s h1 h2; exact ih _ (by unfold add2 fitZ; omega) (by unfold add2; omega)
  exact key l 0 (by omega) (by omega)
theorem addL_snoc (l : List Int) (x : Int) : addL (l ++ [x]) = add2 (addL l) x := by unfold addL; simp
theorem take_snoc_int (l : List Int) (k : Nat) (h : k < l.length) : l.take (k + 1) = l.take k ++ [intAt l k] := by
  rw [List.take_succ_eq_append_getElem h]; simp [intAt, h]

set_option maxHeartbeats 1000000 in
theorem add_c (S : Bs) (v : Value) (l : List Int) (w : World) (h : Sl intE S w v l) :
    Calls Try.prog 66 #[v] w fun e w' => e = .returned (.int .i64 (addL l)) ∧ Below w.heap.size w w' := by
  have h0 := h
  obtain ⟨A, c, rfl, hl, hc, _⟩ := h0
  go_enter Try.func66, Try.ntmps66
  go_wp2
  go_loop [3, 8] (fun sv i => ∃ k : Nat, k ≤ l.length ∧ i = .int .i64 k ∧ sv = .int .i64 (addL (l.take k))) (fun _ i => l.length - (intOf i).toNat)
  case atStart => exact ⟨0, Nat.zero_le _, rfl, rfl⟩
  case round =>
    obtain ⟨k, hk, rfl, rfl⟩ := hrel
    have hr := addL_range (l.take k)
    by_cases hlt : k < l.length
    · obtain ⟨b, off, rfl, hS, i1, c1⟩ := h.int_at k hlt
      have HF := Lib.hid (show addL (l.take (k + 1)) = min (addL (l.take k) + fitZ (intAt l k)) 4611686018427387904 from by rw [take_snoc_int l k hlt, addL_snoc]; rfl)
      have hf : 0 ≤ fitZ (intAt l k) ∧ fitZ (intAt l k) ≤ 4611686018427387904 := by unfold fitZ; omega
      go_wp2_with (go_at_call 54; refine (fit_c _ _).mono ?_; rintro e w' ⟨rfl, rfl⟩)
      all_goals
        go_round
        case rel => exact ⟨k + 1, by omega, by go_num, by rw [HF.out]; congr 1; unfold fitZ at *; omega⟩
        case measure => simp [intOf]; omega
    · go_wp2
      go_ret
      exact ⟨ret_int (by rw [List.take_of_length_le (by omega)]), Below.refl _ _⟩

theorem sl_of_ints {base : Nat} {v : Value} {xs : List Int} {w : World} (h : w.ownsRow base 3 1 v xs.length (xs.map (Value.int .i64))) (hI : ∀ x ∈ xs, I64 x) : Sl intE (fun b => v.ownBlock = some b) w v xs := by
  refine Sl.of_owned (E := intE) (by decide) h ?_ (fun k hk => hk)
  refine ⟨by simp [intE, flatE], fun j x hx => ⟨_, ⟨rfl, hI x (List.mem_of_getElem? hx)⟩, fun t u hu => ?_⟩⟩
  match t, hu with
  | 0, hu =>
    simp only [intE, flatE, Nat.mul_one, Nat.add_zero]
    rw [List.getElem?_map, hx]; exact hu
  | t + 1, hu => simp at hu

theorem sl_lit2 {W : World} {b t : Nat} {x y : Int} (h : Blk W b #[.int .i64 x, .int .i64 y] t) (hx : I64 x) (hy : I64 y) : Sl intE (fun b' => b' = b) W (.slice (some ⟨b, 0, none⟩) 2 2) [x, y] := by
  refine ⟨_, 2, rfl, Nat.le_refl _, by omega, fun j z hz => ?_⟩
  match j, hz with
  | 0, hz =>
    simp at hz; subst hz
    refine ⟨b, 0, _, rfl, rfl, ⟨rfl, hx⟩, fun i u hu => ?_⟩
    match i, hu with
    | 0, hu => simpa [intE, flatE] using h.cell 0 u (by simpa using hu)
    | i + 1, hu => simp at hu
  | 1, hz =>
    simp at hz; subst hz
    refine ⟨b, 0, _, rfl, rfl, ⟨rfl, hy⟩, fun i u hu => ?_⟩
    match i, hu with
    | 0, hu => simpa [intE, flatE] using h.cell 1 u (by simpa using hu)
    | i + 1, hu => simp at hu
  | j + 2, hz => simp at hz
theorem nthV_i64 {l : List Int} {m : Int} (h : ∀ x ∈ l, I64 x) : I64 (nthV l m) := by
  unfold nthV
  split
  · unfold nthZ
    rw [List.getD_eq_getElem?_getD]
    cases hg : (sortZ l)[l.length - m.toNat]? with
    | none => unfold I64; simp
    | some x => exact h x (by have := List.mem_of_getElem? hg; unfold sortZ at this; exact List.mem_mergeSort.1 this)
  · unfold I64; omega

/-- The reading till which a token is valid. -/
def untilZ (stamps : List Int) (span : Int) : Int :=
  if nthB (stamps.filter fun x => !decide (x < 0)) (majZ stamps.length) then addL [nthV (stamps.filter fun x => !decide (x < 0)) (majZ stamps.length), span] else -1

theorem neg1_c (x : Int) (W : World) : Calls Try.prog 92 #[.int .i64 x] W fun e w' => e = .returned (.bool (decide (x < 0))) ∧ Below W.heap.size W w' := by
  go_enter Try.func92, Try.ntmps92
  go_wp2
  go_ret
  exact ⟨rfl, Below.refl _ _⟩
theorem neg1_ent : Ent Try.prog 92 := enters_of Try.func92 (by kernel_rfl) rfl

set_option maxHeartbeats 2000000 in
set_option maxRecDepth 100000 in
theorem until_c (S : Bs) (v : Value) (t : TokenV) (span : Int) (w : World) (h : TokR S w v t) (hspan : I64 span) (hbig : t.stamps.length ≤ 1048576) :
    Calls Try.prog 50 #[v, .int .i64 span] w fun e w' => e = .returned (.int .i64 (untilZ t.stamps span)) ∧ Below w.heap.size w w' := by
  obtain ⟨sv, rv, rfl, i1, i2, i3, hs, hr⟩ := h
  obtain ⟨A, c, rfl, hl, hc, _⟩ := id hs
  obtain ⟨A2, c2, rfl, hl2, hc2, _⟩ := id hr
  have HS := Lib.hid hs
  have HI := Lib.hid hs.ints
  have hfl : (t.stamps.filter fun x => !decide (x < 0)).length ≤ t.stamps.length := List.length_filter_le _ _
  have hmaj : I64 (t.stamps.length : Int) := by unfold I64; omega
  have HFL := Lib.hid hfl
  clear hs hr hfl
  cases hb : nthB (t.stamps.filter fun x => !decide (x < 0)) (majZ t.stamps.length)
  · have HF := Lib.hid (show untilZ t.stamps span = -1 from by unfold untilZ; rw [hb]; rfl)
    go_enter Try.func50, Try.ntmps50
    go_wp2_with (first | (go_at_call 91; refine (clone_int S _ t.stamps _ (HS.out.below (by repeat (with_reducible first | assumption | exact Below.refl _ _ | apply bel_alloc | apply bel_drew | apply bel_drewN | (refine bel_set ?_ (by simp; try omega) _)))) (by omega)).mono ?_; rintro e w1 ⟨sv1, news1, rfl, hown1, hch1, hb1⟩; rw [chunks_int hch1] at hown1; have hbs1 := bcell hb1; have HO1 := Lib.hid hown1; have HB1 := Lib.hid hb1; have HK1 := Lib.hid ((blk_new w #[.int .i64 t.gen, .int .i64 t.hop, .slice A t.stamps.length c, .int .i64 t.table.start, .slice A2 t.table.rows.length c2] 29).below hb1); clear hown1 hch1 hb1) | (go_at_call 90; refine (deleteFunc_int 92 #[] neg1_ent (fun x => decide (x < 0)) _ HO1.out HI.out (fun x W _ _ => neg1_c x W) HB1.out.size).mono ?_; rintro e w2 ⟨v2, rfl, hown2, hg2, hob2⟩; have HK2 := Lib.hid (HK1.out.keep (hg2.block _ HK1.out.lt (fun e => (by have := (HO1.out.lt _ e.symm).1; simp at this; omega)))); have hq2 := HK2.out.cell 2 _ rfl; have HO2 := Lib.hid hown2; have HG2 := Lib.hid hg2; clear hown2 hg2 hob2) | (go_at_call 20; refine (maj_c _ hmaj _).mono ?_; rintro e w' ⟨rfl, rfl⟩) | (go_at_call 93; refine (nth_c _ _ _ _ _ (sl_of_ints HO2.out (fun x hx => HI.out x ((List.mem_filter.1 hx).1))) (Nat.le_trans HFL.out hbig)).mono ?_; rintro e w3 ⟨rfl, hb3⟩; have HB3 := Lib.hid hb3; have HZ3 : w.heap.size ≤ w2.heap.size := (by have h1 := HB1.out.size; have h2 := HG2.out.size; simp at h1; omega); clear hb3))
    go_ret
    exact ⟨ret_int HF.out.symm, ((((bel_trans (bel_alloc (Below.refl _ _)) HB1.out).grown HG2.out (by have := HB1.out.size; simp at this; omega) (fun k e => by have := (HO1.out.lt k e).1; simp at this; omega))).trans (HB3.out.mono HZ3))⟩
  · have HF := Lib.hid (show untilZ t.stamps span = addL [nthV (t.stamps.filter fun x => !decide (x < 0)) (majZ t.stamps.length), span] from by unfold untilZ; rw [hb]; rfl)
    go_enter Try.func50, Try.ntmps50
    go_wp2_with (first | (go_at_call 91; refine (clone_int S _ t.stamps _ (HS.out.below (by repeat (with_reducible first | assumption | exact Below.refl _ _ | apply bel_alloc | apply bel_drew | apply bel_drewN | (refine bel_set ?_ (by simp; try omega) _)))) (by omega)).mono ?_; rintro e w1 ⟨sv1, news1, rfl, hown1, hch1, hb1⟩; rw [chunks_int hch1] at hown1; have hbs1 := bcell hb1; have HO1 := Lib.hid hown1; have HB1 := Lib.hid hb1; have HK1 := Lib.hid ((blk_new w #[.int .i64 t.gen, .int .i64 t.hop, .slice A t.stamps.length c, .int .i64 t.table.start, .slice A2 t.table.rows.length c2] 29).below hb1); clear hown1 hch1 hb1) | (go_at_call 90; refine (deleteFunc_int 92 #[] neg1_ent (fun x => decide (x < 0)) _ HO1.out HI.out (fun x W _ _ => neg1_c x W) HB1.out.size).mono ?_; rintro e w2 ⟨v2, rfl, hown2, hg2, hob2⟩; have HK2 := Lib.hid (HK1.out.keep (hg2.block _ HK1.out.lt (fun e => (by have := (HO1.out.lt _ e.symm).1; simp at this; omega)))); have hq2 := HK2.out.cell 2 _ rfl; have HO2 := Lib.hid hown2; have HG2 := Lib.hid hg2; clear hown2 hg2 hob2) | (go_at_call 20; refine (maj_c _ hmaj _).mono ?_; rintro e w' ⟨rfl, rfl⟩) | (go_at_call 93; refine (nth_c _ _ _ _ _ (sl_of_ints HO2.out (fun x hx => HI.out x ((List.mem_filter.1 hx).1))) (Nat.le_trans HFL.out hbig)).mono ?_; rintro e w3 ⟨rfl, hb3⟩; have HB3 := Lib.hid hb3; have HZ3 : w.heap.size ≤ w2.heap.size := (by have h1 := HB1.out.size; have h2 := HG2.out.size; simp at h1; omega); clear hb3))
    refine (add_c _ _ [nthV (t.stamps.filter fun x => !decide (x < 0)) (majZ t.stamps.length), span] _ (sl_lit2 (blk_new _ _ _) (nthV_i64 (fun x hx => HI.out x (List.mem_filter.1 hx).1)) hspan)).mono ?_
    rintro e w4 ⟨rfl, hb4⟩
    have HB4 := Lib.hid hb4
    clear hb4
    go_wp2
    go_ret
    exact ⟨ret_int HF.out.symm, bel_trans (bel_alloc ((((bel_trans (bel_alloc (Below.refl _ _)) HB1.out).grown HG2.out (by have := HB1.out.size; simp at this; omega) (fun k e => by have := (HO1.out.lt k e).1; simp at this; omega))).trans (HB3.out.mono HZ3))) HB4.out⟩

end Go.Proofs.Ytpbicdbicikniaa
