/- Tokens: whether one may be. -/
import Derived.Test.YtpbicdbicikniaaFun
namespace Go.Proofs.Ytpbicdbicikniaa
open Go.RowKit
set_option linter.unusedVariables false

set_option maxHeartbeats 1000000 in
theorem containsFunc_int (S : Bs) (v : Value) (xs : List Int) (g : Nat) (lb : Array Value) (p : Int → Bool) (w : World) (h : Sl intE S w v xs) (eg : Ent Try.prog g)
    (hp : ∀ x W, I64 x → Below w.heap.size w W → Calls Try.prog g (#[.int .i64 x] ++ lb) W fun e w' => e = .returned (.bool (p x)) ∧ Below W.heap.size W w') :
    Calls Try.prog 83 #[v, .func (.func g) #[] lb] w fun e w' => e = .returned (.bool (xs.any p)) ∧ Below w.heap.size w w' := by
  have HC := Lib.hid (indexFunc_int S v xs g lb p w h eg hp)
  have h0 := h
  obtain ⟨A, c, rfl, hl, hc, _⟩ := h0
  clear eg hp
  go_enter Try.func83, Try.ntmps83
  go_wp2_with (go_at_call 121; refine HC.out.mono ?_; rintro e w' ⟨rfl, hb'⟩)
  go_ret
  exact ⟨ret_bool idxB_nonneg, hb'⟩

theorem stamp1_c (x : Int) (W : World) : Calls Try.prog 84 #[.int .i64 x] W fun e w' => e = .returned (.bool (!inB x (-1) 4611686018427387903)) ∧ Below W.heap.size W w' := by
  go_enter Try.func84, Try.ntmps84
  go_wp2_with (go_at_call 85; refine (in_c _ _ _ _).mono ?_; rintro e w' ⟨rfl, rfl⟩)
  go_ret
  exact ⟨rfl, Below.refl _ _⟩

theorem stamp1_ent : Ent Try.prog 84 := enters_of Try.func84 (by kernel_rfl) rfl

/-- A token, as it is handed over. -/
def TokR (S : Bs) (w : World) (v : Value) (t : TokenV) : Prop :=
  ∃ sv rv, v = .agg #[.int .i64 t.gen, .int .i64 t.hop, sv, .int .i64 t.table.start, rv] ∧ I64 t.gen ∧ I64 t.hop ∧ I64 t.table.start ∧ Sl intE S w sv t.stamps ∧ Sl rowE S w rv t.table.rows
theorem TokR.mono {S : Bs} {w w' : World} {v : Value} {t : TokenV} (hw : ∀ b, S b → b < w.heap.size → w'.heap[b]? = w.heap[b]?) (h : TokR S w v t) : TokR S w' v t := by
  obtain ⟨sv, rv, e, h1, h2, h3, h4, h5⟩ := h
  exact ⟨sv, rv, e, h1, h2, h3, h4.mono hw, h5.mono hw⟩
theorem TokR.below {S : Bs} {w w' : World} {v : Value} {t : TokenV} (hb : Below w.heap.size w w') (h : TokR S w v t) : TokR S w' v t :=
  h.mono fun b _ hlt => hb.block b hlt
theorem TokR.fit {S : Bs} {w : World} {v : Value} {t : TokenV} (h : TokR S w v t) : TokR (fun b => S b ∧ b < w.heap.size) w v t := by
  obtain ⟨sv, rv, e, h1, h2, h3, h4, h5⟩ := h
  exact ⟨sv, rv, e, h1, h2, h3, h4.fit (by decide), h5.fit (by decide)⟩
theorem TokR.sub {S T : Bs} {w : World} {v : Value} {t : TokenV} (hST : ∀ b, S b → T b) (h : TokR S w v t) : TokR T w v t := by
  obtain ⟨sv, rv, e, h1, h2, h3, h4, h5⟩ := h
  exact ⟨sv, rv, e, h1, h2, h3, h4.sub hST, h5.sub hST⟩

def tokenB (t : TokenV) : Bool :=
  inB t.gen 1 1099511627776 && inB t.hop 0 1099511627776 && inB (t.stamps.length : Int) 1 64 && !(t.stamps.any fun x => !inB x (-1) 4611686018427387903) && tableB t.table

theorem Sl.ints {S : Bs} {w : World} {v : Value} {xs : List Int} (h : Sl intE S w v xs) : ∀ x ∈ xs, I64 x := by
  obtain ⟨A, c, rfl, _, _, h3⟩ := h
  intro x hx
  obtain ⟨j, hj, rfl⟩ := List.getElem_of_mem hx
  obtain ⟨b, off, cs, _, _, ⟨_, hI⟩, _⟩ := h3 j _ (List.getElem?_eq_getElem hj)
  exact hI

set_option maxHeartbeats 4000000 in
theorem token_c (S : Bs) (v : Value) (t : TokenV) (w : World) (h : TokR S w v t) :
    Calls Try.prog 47 #[v] w fun e w' => e = .returned (.bool (tokenB t)) ∧ Below w.heap.size w w' := by
  obtain ⟨sv, rv, rfl, i1, i2, i3, hs, hr⟩ := h
  have hs0 := hs
  have hr0 := hr
  obtain ⟨A, c, rfl, hl, hc, _⟩ := hs0
  obtain ⟨A2, c2, rfl, hl2, hc2, _⟩ := hr0
  have HS := Lib.hid hs
  have HR := Lib.hid hr
  cases h1 : inB t.gen 1 1099511627776
  · have HF := Lib.hid (show tokenB t = false from by unfold tokenB; rw [h1]; rfl)
    go_enter Try.func47, Try.ntmps47
    go_wp2_with (first | (go_at_call 83; refine (containsFunc_int S _ t.stamps _ #[] (fun x => !inB x (-1) 4611686018427387903) _ (HS.out.below (bel_alloc (Below.refl _ _))) stamp1_ent (fun x W _ _ => stamp1_c x W)).mono ?_; rintro e w1 ⟨rfl, hb1⟩; have hc1 := bcell hb1; have hz1 := hb1.size; simp only [World.size_alloc] at hz1) | (go_at_call 85; refine (in_c _ _ _ _).mono ?_; rintro e w' ⟨rfl, rfl⟩) | (go_at_call 86; refine (table_c S _ t.table _ ((HR.out.below (bel_alloc (Below.refl _ _))).below hb1)).mono ?_; rintro e w2 ⟨rfl, hb2⟩))
    go_ret
    exact ⟨ret_bool HF.out.symm, bel_trans (bel_alloc (Below.refl _ _)) hb1⟩
  cases h2 : inB t.hop 0 1099511627776
  · have HF := Lib.hid (show tokenB t = false from by unfold tokenB; rw [h1, h2]; rfl)
    go_enter Try.func47, Try.ntmps47
    go_wp2_with (first | (go_at_call 83; refine (containsFunc_int S _ t.stamps _ #[] (fun x => !inB x (-1) 4611686018427387903) _ (HS.out.below (bel_alloc (Below.refl _ _))) stamp1_ent (fun x W _ _ => stamp1_c x W)).mono ?_; rintro e w1 ⟨rfl, hb1⟩; have hc1 := bcell hb1; have hz1 := hb1.size; simp only [World.size_alloc] at hz1) | (go_at_call 85; refine (in_c _ _ _ _).mono ?_; rintro e w' ⟨rfl, rfl⟩) | (go_at_call 86; refine (table_c S _ t.table _ ((HR.out.below (bel_alloc (Below.refl _ _))).below hb1)).mono ?_; rintro e w2 ⟨rfl, hb2⟩))
    go_ret
    exact ⟨ret_bool HF.out.symm, bel_trans (bel_alloc (Below.refl _ _)) hb1⟩
  cases h3 : inB (t.stamps.length : Int) 1 64
  · have HF := Lib.hid (show tokenB t = false from by unfold tokenB; rw [h1, h2, h3]; rfl)
    go_enter Try.func47, Try.ntmps47
    go_wp2_with (first | (go_at_call 83; refine (containsFunc_int S _ t.stamps _ #[] (fun x => !inB x (-1) 4611686018427387903) _ (HS.out.below (bel_alloc (Below.refl _ _))) stamp1_ent (fun x W _ _ => stamp1_c x W)).mono ?_; rintro e w1 ⟨rfl, hb1⟩; have hc1 := bcell hb1; have hz1 := hb1.size; simp only [World.size_alloc] at hz1) | (go_at_call 85; refine (in_c _ _ _ _).mono ?_; rintro e w' ⟨rfl, rfl⟩) | (go_at_call 86; refine (table_c S _ t.table _ ((HR.out.below (bel_alloc (Below.refl _ _))).below hb1)).mono ?_; rintro e w2 ⟨rfl, hb2⟩))
    go_ret
    exact ⟨ret_bool HF.out.symm, bel_trans (bel_alloc (Below.refl _ _)) hb1⟩
  cases h4 : t.stamps.any fun x => !inB x (-1) 4611686018427387903
  · have HF := Lib.hid (show tokenB t = tableB t.table from by unfold tokenB; rw [h1, h2, h3, h4]; rfl)
    go_enter Try.func47, Try.ntmps47
    go_wp2_with (first | (go_at_call 83; refine (containsFunc_int S _ t.stamps _ #[] (fun x => !inB x (-1) 4611686018427387903) _ (HS.out.below (bel_alloc (Below.refl _ _))) stamp1_ent (fun x W _ _ => stamp1_c x W)).mono ?_; rintro e w1 ⟨rfl, hb1⟩; have hc1 := bcell hb1; have hz1 := hb1.size; simp only [World.size_alloc] at hz1) | (go_at_call 85; refine (in_c _ _ _ _).mono ?_; rintro e w' ⟨rfl, rfl⟩) | (go_at_call 86; refine (table_c S _ t.table _ ((HR.out.below (bel_alloc (Below.refl _ _))).below hb1)).mono ?_; rintro e w2 ⟨rfl, hb2⟩))
    go_ret
    exact ⟨ret_bool HF.out.symm, bel_trans (bel_trans (bel_alloc (Below.refl _ _)) hb1) hb2⟩
  · have HF := Lib.hid (show tokenB t = false from by unfold tokenB; rw [h1, h2, h3, h4]; rfl)
    go_enter Try.func47, Try.ntmps47
    go_wp2_with (first | (go_at_call 83; refine (containsFunc_int S _ t.stamps _ #[] (fun x => !inB x (-1) 4611686018427387903) _ (HS.out.below (bel_alloc (Below.refl _ _))) stamp1_ent (fun x W _ _ => stamp1_c x W)).mono ?_; rintro e w1 ⟨rfl, hb1⟩; have hc1 := bcell hb1; have hz1 := hb1.size; simp only [World.size_alloc] at hz1) | (go_at_call 85; refine (in_c _ _ _ _).mono ?_; rintro e w' ⟨rfl, rfl⟩) | (go_at_call 86; refine (table_c S _ t.table _ ((HR.out.below (bel_alloc (Below.refl _ _))).below hb1)).mono ?_; rintro e w2 ⟨rfl, hb2⟩))
    go_ret
    exact ⟨ret_bool HF.out.symm, bel_trans (bel_alloc (Below.refl _ _)) hb1⟩

end Go.Proofs.Ytpbicdbicikniaa
