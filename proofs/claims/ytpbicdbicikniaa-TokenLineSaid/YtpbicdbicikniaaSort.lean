/- slices.Sort, AppendSeq, Collect and Sorted at whole numbers. -/
import Derived.Sort.OwnSortedInts
import Derived.Test.YtpbicdbicikniaaIter
namespace Go.Proofs.Ytpbicdbicikniaa
open Go.RowKit Go.Shelf Go.Sort
set_option linter.unusedVariables false
attribute [local go_sem] Oper.semAt_some

def sortZ (xs : List Int) : List Int := xs.mergeSort fun x y => decide (x ≤ y)
theorem sortZ_length (xs : List Int) : (sortZ xs).length = xs.length := by unfold sortZ; exact List.length_mergeSort xs

theorem sort_c {base : Nat} {v : Value} {xs : List Int} {w : World} (h : w.ownsRow base 3 1 v xs.length (xs.map (Value.int .i64))) (hsz : xs.length < 4611686018427387904) :
    Calls Try.prog 64 #[v] w fun e w' => e = .returned (.tuple #[]) ∧ w'.ownsRow base 3 1 v xs.length ((sortZ xs).map (Value.int .i64)) ∧ w.grownBy w' v.ownBlock := by
  rcases h.2 with ⟨rfl, hz⟩ | ⟨g, cap, cur, rfl, hbase, hgb, r1, r2, r3, r4⟩
  · have hx : xs = [] := List.eq_nil_of_length_eq_zero hz
    subst hx
    refine (show Calls Try.prog 64 #[.slice none 0 0] w _ from AnyM.slices_Sort_int_none Try.sortA none 0 w).mono fun e w' ⟨he, hw⟩ => ?_
    subst hw
    exact ⟨he, (by simpa [sortZ] using h), World.grownBy.refl _ _⟩
  · have hH : Holds (Value.int .i64) w g 0 xs.toArray := holds_of_blockI hgb (by simpa using r4)
    have hgl : g < w.heap.size := (Array.getElem?_eq_some_iff.1 hgb).1
    refine (show Calls Try.prog 64 #[.slice (some ⟨g, 0, none⟩) xs.length cap] w _ from AnyM.slices_Sort_int Try.sortA g 0 cap xs w hH hgl hsz).mono fun e w' ⟨he, n, os, hw⟩ => ?_
    subst hw
    exact ⟨he, ownsRow_sortedI (sortZ_length xs) hbase hgb r1 r2 r3, grownBy_sortedI _⟩

set_option maxRecDepth 100000 in
set_option maxHeartbeats 2000000 in
theorem appendSeq_c (g : Nat) (lb : Array Value) (eg : Ent Try.prog g) (zs : List Int) (hbig : zs.length * 8 ≤ 140737488351232) (w : World)
    (hseq : ∀ n, 1 ≤ n → SeqStopsK Fence.wide n Try.prog g lb (fun x : Int => #[Value.int .i64 x]) (Below w.heap.size) (fun ys => ys = zs) (fun pre => pre <+: zs) zs.length w) :
    Calls Try.prog 160 #[.slice none 0 0, .func (.func g) #[] lb] w fun e w' => ∃ v, e = .returned v ∧ w'.ownsRow w.heap.size 3 1 v zs.length (zs.map (Value.int .i64)) ∧ Below w.heap.size w w' := by
  refine (callsIn_wide (n := 5)).1 ?_
  have hne : 24 ≠ 3 := by decide
  obtain ⟨i0, hi, hz0, hz1, hz2⟩ := info_parts info_int
  refine callsIn_of_wp_marks Try.func160 rfl trivial ?_ rfl
  simp only [Try.ntmps160, List.size_toArray, List.length_cons, List.length_nil, Nat.reduceAdd, Nat.reduceSub, Array.replicate_succ, Array.replicate_zero, List.push_toArray, List.append_toArray, List.nil_append, List.cons_append]
  gi_wp2
  have hb0 : Below w.heap.size w (w.alloc (.cells #[.slice none 0 0] 24)) := bel_alloc (Below.refl _ _)
  have hbx : Boxed (w.alloc (.cells #[.slice none 0 0] 24)) w.heap.size 24 (.slice none 0 0) := Boxed.new w _ _
  refine wpIn_rangeFunc_ownF rfl (by decide) (gf := g) (lb := lb) rfl trivial eg (hseq _ (by decide)) belowK_t (belowK_b (by simp)) hb0 (fun _ => rfl)
    (fun pre W => (∃ v, Boxed W w.heap.size 24 v ∧ W.ownsRow w.heap.size 3 1 v pre.length (pre.map (Value.int .i64)) ∧ True) ∧ Below w.heap.size w W)
    (fun _ _ _ => False)
    (OwnFrom.and (Own.from (holdsRow_own w.heap.size w.heap.size 24 3 1 (fun pre : List Int => pre.length) (fun pre => pre.map (Value.int .i64)) (fun _ _ => True)) _) (ownFrom_below (Nat.le_refl _) (by simp)))
    (fun _ _ _ _ _ hs _ _ => hs)
    ⟨⟨_, hbx, World.ownsRow_nil _ _ _ _, trivial⟩, hb0⟩
    (fun x => { tmps := #[.slice none 0 0, .func (.func g) #[] lb, .pointer (some ⟨w.heap.size, 0, none⟩), undef, .slice none 0 0, .int .i64 x, .func (.func g) #[] lb, .int .i64 x, undef, undef, undef, undef, undef], defers := [] }) ?assign ?body ?done ?stop
  case assign =>
    intro l x W K hK
    gi_wp2
    exact hK
  case body =>
    rintro l pre x W ⟨⟨v, hv, hrow, _⟩, hB⟩ hlen
    have hc := hv.cell
    have hf := hv.frozen
    have hle : w.heap.size ≤ w.heap.size := Nat.le_refl _
    gi_wp2_with (gi_at_builtin; refine wpListIn_append_own _ rfl _ _ 24 rfl w.heap.size 3 i0 (.int .i64 0) 1 8 Try.underlying24 hi hz0 hz1 hz2 rfl (by decide) _ _ _ rfl (hrow.alloc _) ⟨W.heap.size, 0, none⟩ 1 1 [.int .i64 x] rfl rfl (cell_one_new _ _ _) (by simp [Value.oneCell']) (by simp only [maxLen]; omega) (by omega) (by have := hB.size; simp; omega) ?_; intro v' w1 hown' hgrow _; obtain ⟨g', cap', rfl⟩ := ownsRow_succ hown'; obtain ⟨hv1, hv2, hr2, hk2, hb2⟩ := hv.appended (by decide) hrow hB.size hle hown' hgrow; have hc1 := hv1.cell; have hf1 := hv1.frozen)
    exact ⟨hk2, hb2, ⟨⟨_, hv2, by simpa using hr2, trivial⟩, hB.trans hb2⟩⟩
  case done =>
    rintro D ys W hD rfl ⟨⟨v, hv, hrow, _⟩, hB⟩ hK
    have hc := hv.cell
    gi_wp2
    refine ⟨by simp, .inl ⟨_, _, rfl, run_takeDeferred hK, ?_⟩⟩
    refine ⟨_, results_tmp rfl _ _ _, _, rfl, ?_, ?_⟩
    · have hDc : ∀ k, v.ownBlock = some k → k ≠ D := fun k hk e => by
        subst e
        rcases hrow.2 with ⟨rfl, _⟩ | ⟨g', cap', cur', rfl, _, hg', _⟩
        · simp [Value.ownBlock] at hk
        · simp [Value.ownBlock] at hk; subst hk; rw [hg'] at hK; cases hK
      exact owned_keep hrow fun k hk => World.putObj_heap_other (hDc k hk)
    · exact hB.trans (belowK_b (w := w) (Nat.le_refl _) W D _ _ (by simp at hD; omega) hK rfl rfl)
  case stop =>
    rintro D c pre W _ _ h _
    exact h.elim

set_option maxHeartbeats 1000000 in
theorem collect_c (g : Nat) (lb : Array Value) (eg : Ent Try.prog g) (zs : List Int) (hbig : zs.length * 8 ≤ 140737488351232) (w : World)
    (hseq : ∀ n, 1 ≤ n → SeqStopsK Fence.wide n Try.prog g lb (fun x : Int => #[Value.int .i64 x]) (Below w.heap.size) (fun ys => ys = zs) (fun pre => pre <+: zs) zs.length w) :
    Calls Try.prog 150 #[.func (.func g) #[] lb] w fun e w' => ∃ v, e = .returned v ∧ w'.ownsRow w.heap.size 3 1 v zs.length (zs.map (Value.int .i64)) ∧ Below w.heap.size w w' := by
  have HC := Lib.hid (appendSeq_c g lb eg zs hbig w hseq)
  clear hseq eg
  go_enter Try.func150, Try.ntmps150
  go_wp2_with (go_at_call 160; refine HC.out.mono ?_; rintro e w1 ⟨v1, rfl, hown1, hb1⟩; have HO := Lib.hid hown1; have HB := Lib.hid hb1; clear hown1 hb1)
  go_ret
  exact ⟨v1, rfl, HO.out, HB.out⟩

set_option maxHeartbeats 1000000 in
theorem sorted_c (g : Nat) (lb : Array Value) (eg : Ent Try.prog g) (zs : List Int) (hbig : zs.length * 8 ≤ 140737488351232) (w : World)
    (hseq : ∀ n, 1 ≤ n → SeqStopsK Fence.wide n Try.prog g lb (fun x : Int => #[Value.int .i64 x]) (Below w.heap.size) (fun ys => ys = zs) (fun pre => pre <+: zs) zs.length w) :
    Calls Try.prog 125 #[.func (.func g) #[] lb] w fun e w' => ∃ v, e = .returned v ∧ w'.ownsRow w.heap.size 3 1 v zs.length ((sortZ zs).map (Value.int .i64)) ∧ Below w.heap.size w w' := by
  have HC := Lib.hid (collect_c g lb eg zs hbig w hseq)
  clear hseq eg
  go_enter Try.func125, Try.ntmps125
  go_wp2_with (first | (go_at_call 150; refine HC.out.mono ?_; rintro e w1 ⟨v1, rfl, hown1, hb1⟩; have HO := Lib.hid hown1; have HB := Lib.hid hb1; clear hown1 hb1) | (go_at_call 64; refine (sort_c HO.out (by omega)).mono ?_; rintro e w2 ⟨rfl, hown2, hg2⟩; have HO2 := Lib.hid hown2; have HG2 := Lib.hid hg2; clear hown2 hg2))
  go_ret
  exact ⟨v1, rfl, HO2.out, HB.out.grown HG2.out HB.out.size (fun k e => (HO.out.lt k e).1)⟩

/-- The m-th greatest. -/
def nthZ (l : List Int) (m : Int) : Int := (sortZ l).getD (l.length - m.toNat) 0
def nthB (l : List Int) (m : Int) : Bool := decide (1 ≤ m) && decide (m ≤ l.length)
def nthV (l : List Int) (m : Int) : Int := if nthB l m then nthZ l m else 0
theorem ret_ib {a b : Int} {c d : Bool} (h : a = b) (h' : c = d) : Ending.returned (.tuple #[.int .i64 a, .bool c]) = .returned (.tuple #[.int .i64 b, .bool d]) := by rw [h, h']

theorem values_ent : Ent Try.prog 151 := enters_of Try.func151 (by kernel_rfl) rfl
theorem values_c (a : Option Addr) (len cap : Nat) (w : World) :
    Calls Try.prog 126 #[.slice a len cap] w fun e w' => e = .returned (.func (.func 151) #[] #[.pointer (some ⟨w.heap.size, 0, none⟩)]) ∧ w.alloc (.cells #[.slice a len cap] 24) = w' :=
  ((callsIn_wide (n := 3)).1 (values_in Fence.wide 3 trivial rfl a len cap w)).mono fun e w' ⟨he, hw⟩ => ⟨he, hw.symm⟩

set_option maxHeartbeats 2000000 in
theorem nth_c (S : Bs) (v : Value) (l : List Int) (m : Int) (w : World) (h : Sl intE S w v l) (hbig : l.length ≤ 1048576) :
    Calls Try.prog 93 #[v, .int .i64 m] w fun e w' => e = .returned (.tuple #[.int .i64 (nthV l m), .bool (nthB l m)]) ∧ Below w.heap.size w w' := by
  have h' := h
  obtain ⟨A, c, rfl, hl, hc, _⟩ := h'
  by_cases h1 : m < 1
  · have HF := Lib.hid (show nthB l m = false from by unfold nthB; simp; omega)
    go_enter Try.func93, Try.ntmps93
    go_wp2
    go_ret2
    exact ⟨ret_ib (by unfold nthV; rw [HF.out]; rfl) HF.out.symm, Below.refl _ _⟩
  by_cases h2 : (l.length : Int) < m
  · have HF := Lib.hid (show nthB l m = false from by unfold nthB; simp; omega)
    go_enter Try.func93, Try.ntmps93
    go_wp2
    go_ret2
    exact ⟨ret_ib (by unfold nthV; rw [HF.out]; rfl) HF.out.symm, Below.refl _ _⟩
  obtain ⟨k, rfl⟩ := Int.eq_ofNat_of_zero_le (show 0 ≤ m by omega)
  have hk0 : 0 < l.length := by omega
  have hkl : k ≤ l.length := by omega
  have HF := Lib.hid (show nthB l k = true from by unfold nthB; simp; omega)
  have hW := h.fit (by decide)
  have HC := Lib.hid (sorted_c 151 #[.pointer (some ⟨w.heap.size, 0, none⟩)] values_ent l (by omega) (w.alloc (.cells #[.slice A l.length c] 24)) (fun n hn =>
    values_stops Fence.wide n trivial rfl hn w.heap.size _ (fun b => S b ∧ b < w.heap.size) (.slice A l.length c) l (by omega) _ (by simp) (Nat.le_refl _) (new_cell _ _ _ _ _ rfl) (hW.below (bel_alloc (Below.refl _ _))) (fun b hb => by have := hb.2; simp; omega)))
  clear h hW
  go_enter Try.func93, Try.ntmps93
  go_wp2_with (first | (go_at_call 126; refine (values_c _ _ _ _).mono ?_; rintro e w1 ⟨rfl, rfl⟩) | (go_at_call 125; refine HC.out.mono ?_; rintro e w1 ⟨v1, rfl, hown1, hb1⟩; obtain ⟨g, cx, rfl, hg1, hg2⟩ := hown1.form hk0; have hgc := (hown1.cellAt (l.length - k) (by omega)).trans (List.getElem?_map ..); have hgl : l.length - k < (sortZ l).length := (by rw [sortZ_length]; omega); rw [List.getElem?_eq_getElem hgl] at hgc; have HB := Lib.hid hb1; clear hb1 hown1))
  go_ret2
  exact ⟨ret_ib (by unfold nthV nthZ; rw [HF.out]; simp only [if_true, Int.toNat_natCast]; rw [List.getD_eq_getElem?_getD, List.getElem?_eq_getElem hgl]; rfl) HF.out.symm, bel_trans (bel_alloc (Below.refl _ _)) HB.out⟩

end Go.Proofs.Ytpbicdbicikniaa
