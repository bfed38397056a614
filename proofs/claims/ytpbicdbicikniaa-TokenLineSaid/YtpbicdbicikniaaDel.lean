/- slices.DeleteFunc. -/
import Derived.Lib.SliceRun
import Derived.Test.YtpbicdbicikniaaSort
import Derived.Test.YtpbicdbicikniaaFun
namespace Go.Proofs.Ytpbicdbicikniaa
open Go.RowKit
set_option linter.unusedVariables false

/-- How far the deletion has come: the first i of cur are those of the first j that stay; from j on it is as it was. -/
def Del {α : Type} (p : α → Bool) (xs : List α) (i j : Nat) (cur : List α) : Prop :=
  cur.length = xs.length ∧ i < j ∧ j ≤ xs.length ∧ cur.take i = (xs.take j).filter (fun x => !p x) ∧ cur.drop j = xs.drop j

theorem Del.start {α : Type} {p : α → Bool} {xs : List α} {k : Nat} (hk : k < xs.length) (h0 : ∀ j (h : j < xs.length), j < k → p xs[j] = false) (h : p xs[k] = true) : Del p xs k (k + 1) xs := by
  refine ⟨rfl, by omega, by omega, ?_, rfl⟩
  rw [List.take_succ_eq_append_getElem hk, List.filter_append, List.filter_cons]
  simp only [h, Bool.not_true, List.filter_nil, List.append_nil, Bool.false_eq_true, if_false]
  symm
  rw [List.filter_eq_self]
  intro x hx
  obtain ⟨j, hj, rfl⟩ := List.getElem_of_mem hx
  simp only [List.length_take] at hj
  rw [List.getElem_take, h0 j (by omega) (by omega)]; rfl
theorem Del.at {α : Type} {p : α → Bool} {xs cur : List α} {i j : Nat} (h : Del p xs i j cur) (hj : j < xs.length) : cur[j]? = some xs[j] := by
  have := congrArg (fun l : List α => l[0]?) h.2.2.2.2
  simp only [List.getElem?_drop, Nat.add_zero] at this
  rw [this, List.getElem?_eq_getElem hj]
theorem Del.skip {α : Type} {p : α → Bool} {xs cur : List α} {i j : Nat} (h : Del p xs i j cur) (hj : j < xs.length) (hp : p xs[j] = true) : Del p xs i (j + 1) cur := by
  obtain ⟨h1, h2, h3, h4, h5⟩ := h
  refine ⟨h1, by omega, by omega, ?_, ?_⟩
  · rw [List.take_succ_eq_append_getElem hj, List.filter_append, h4]; simp [hp]
  · rw [← List.drop_drop, h5, List.drop_drop]
theorem Del.keep {α : Type} {p : α → Bool} {xs cur : List α} {i j : Nat} (h : Del p xs i j cur) (hj : j < xs.length) (hp : p xs[j] = false) : Del p xs (i + 1) (j + 1) (cur.set i xs[j]) := by
  obtain ⟨h1, h2, h3, h4, h5⟩ := h
  refine ⟨by rw [List.length_set, h1], by omega, by omega, ?_, ?_⟩
  · rw [List.take_succ_eq_append_getElem hj, List.filter_append, ← h4]
    have hi : i < (cur.set i xs[j]).length := by rw [List.length_set]; omega
    rw [List.take_succ_eq_append_getElem hi]
    congr 1
    · rw [List.take_set_of_le (by omega)]
    · simp [hp]
  · rw [List.drop_set_of_lt (by omega), ← List.drop_drop, h5, List.drop_drop]
theorem Del.done {α : Type} {p : α → Bool} {xs cur : List α} {i : Nat} (h : Del p xs i xs.length cur) : cur.take i = xs.filter fun x => !p x := by
  have := h.2.2.2.1
  rwa [List.take_length] at this

/-- One element of a row is stored anew. -/
theorem Chunks.set {α : Type} {E : Ek α} {S : Bs} {w : World} {news news' : List Value} {cur : List α} {i : Nat} {x : α} {cs : List Value} (h : Chunks E S w news cur) (hi : i < cur.length) (hR : E.R S w cs x)
    (hl : news'.length = news.length) (h1 : ∀ t u, cs[t]? = some u → news'[i * E.sz + t]? = some u) (h2 : ∀ q, q < i * E.sz ∨ i * E.sz + E.sz ≤ q → news'[q]? = news[q]?) : Chunks E S w news' (cur.set i x) := by
  refine ⟨by rw [hl, h.1, List.length_set], fun j y hy => ?_⟩
  by_cases e : j = i
  · subst e
    rw [List.getElem?_set_self hi] at hy
    injection hy with hy
    subst hy
    exact ⟨cs, hR, h1⟩
  · rw [List.getElem?_set_ne (fun h => e h.symm)] at hy
    obtain ⟨ds, hD, hd⟩ := h.2 j y hy
    refine ⟨ds, hD, fun t u hu => ?_⟩
    have ht : t < E.sz := by rw [← E.len hD]; exact (List.getElem?_eq_some_iff.1 hu).1
    rw [h2 _ ?_]
    · exact hd t u hu
    · rcases Nat.lt_or_gt_of_ne e with hlt | hlt
      · left
        have : (j + 1) * E.sz ≤ i * E.sz := Nat.mul_le_mul_right _ hlt
        rw [Nat.succ_mul] at this; omega
      · right
        have : (i + 1) * E.sz ≤ j * E.sz := Nat.mul_le_mul_right _ hlt
        rw [Nat.succ_mul] at this; omega

/-- A row cut short. -/
theorem owned_cut {w : World} {base g n cap i e size : Nat} {xs : List Value} (h : w.ownsRow base e size (.slice (some ⟨g, 0, none⟩) n cap) n xs) (hi : i ≤ n) : w.ownsRow base e size (.slice (some ⟨g, 0, none⟩) i cap) i (xs.take (i * size)) := by
  have hm : i * size ≤ n * size := Nat.mul_le_mul_right _ hi
  rcases h with ⟨h0, ⟨h', _⟩ | ⟨g', cap', cur, h', hb, hh, h1, h2, h3, h4⟩⟩
  · cases h'
  · simp only [Value.slice.injEq, Option.some.injEq, Addr.mk.injEq, and_true, true_and] at h'
    obtain ⟨rfl, rfl⟩ := h'
    refine ⟨by rw [List.length_take]; omega, .inr ⟨g, cap, cur, rfl, hb, hh, by omega, h2, h3, ?_⟩⟩
    rw [← h4, List.take_take]; congr 1; omega
theorem Chunks.take {α : Type} {E : Ek α} {S : Bs} {w : World} {news : List Value} {cur : List α} (h : Chunks E S w news cur) (i : Nat) (hi : i ≤ cur.length) : Chunks E S w (news.take (i * E.sz)) (cur.take i) := by
  have hm : i * E.sz ≤ cur.length * E.sz := Nat.mul_le_mul_right _ hi
  refine ⟨by rw [List.length_take, List.length_take, h.1]; rw [show min i cur.length = i from by omega]; omega, fun j x hx => ?_⟩
  rw [List.getElem?_take] at hx
  split at hx
  · rename_i hj
    obtain ⟨cs, hR, hc⟩ := h.2 j x hx
    refine ⟨cs, hR, fun t u hu => ?_⟩
    have ht : t < E.sz := by rw [← E.len hR]; exact (List.getElem?_eq_some_iff.1 hu).1
    have : (j + 1) * E.sz ≤ i * E.sz := Nat.mul_le_mul_right _ hj
    rw [Nat.succ_mul] at this
    rw [List.getElem?_take_of_lt (by omega)]
    exact hc t u hu
  · cases hx

/-- Cells from a place on are stored anew: the row's beginning stays. -/
theorem owned_setCells {base g n cap e size : Nat} : ∀ (vs : List Value) (o : Nat) (w : World) (xs : List Value), w.ownsRow base e size (.slice (some ⟨g, 0, none⟩) n cap) n xs → ∃ ys, (w.setCells g o vs).ownsRow base e size (.slice (some ⟨g, 0, none⟩) n cap) n ys ∧ ys.take o = xs.take o ∧ w.grownBy (w.setCells g o vs) (some g)
  | [], o, w, xs, h => ⟨xs, h, rfl, World.grownBy.refl _ _⟩
  | v :: vs, o, w, xs, h => by
    have h1 := h.stored o v
    obtain ⟨ys, h2, h3, h4⟩ := owned_setCells vs (o + 1) _ _ h1.1
    refine ⟨ys, h2, ?_, World.grownBy.trans h1.2 h4⟩
    have := congrArg (List.take o) h3
    rw [List.take_take, List.take_take, show min o (o + 1) = o from by omega, List.take_set_of_le (Nat.le_refl _)] at this
    exact this

/-- A function value answers whether an element is one of p's, in whatever world is as w was but for one block; it makes nothing but new memory. -/
def PredOk {α : Type} (P : Program) (g : Nat) (lb : Array Value) (arg : α → Value) (ok : α → Prop) (p : α → Bool) (w : World) (own : Option Nat) : Prop :=
  ∀ x W, ok x → w.grownBy W own → Calls P g (#[arg x] ++ lb) W fun e w' => e = .returned (.bool (p x)) ∧ Below W.heap.size W w'

set_option maxHeartbeats 2000000 in
set_option maxRecDepth 100000 in
theorem deleteFunc_int {base : Nat} {v : Value} {xs : List Int} (g : Nat) (lb : Array Value) (eg : Ent Try.prog g) (p : Int → Bool) (w : World) (h : w.ownsRow base 3 1 v xs.length (xs.map (Value.int .i64))) (hI : ∀ x ∈ xs, I64 x)
    (hp : PredOk Try.prog g lb (Value.int .i64) I64 p w v.ownBlock) (hbase : base ≤ w.heap.size) :
    Calls Try.prog 90 #[v, .func (.func g) #[] lb] w fun e w' => ∃ v', e = .returned v' ∧ w'.ownsRow base 3 1 v' (xs.filter fun x => !p x).length ((xs.filter fun x => !p x).map (Value.int .i64)) ∧ w.grownBy w' v.ownBlock ∧ (v'.ownBlock = v.ownBlock) := by
  have hch : Chunks intE (fun _ => False) w (xs.map (Value.int .i64)) xs := by
    refine ⟨by simp [intE, flatE], fun j x hx => ⟨_, ⟨rfl, hI x (List.mem_of_getElem? hx)⟩, fun t u hu => ?_⟩⟩
    match t, hu with
    | 0, hu =>
      simp only [intE, flatE, Nat.mul_one, Nat.add_zero]
      rw [List.getElem?_map, hx]; exact hu
    | t + 1, hu => simp at hu
  have hsl : Sl intE (fun b => v.ownBlock = some b) w v xs := Sl.of_owned (E := intE) (by decide) h (hch.sub fun _ hf => hf.elim) (fun k hk => hk)
  have HX := Lib.hid (indexFunc_int _ v xs g lb p w hsl eg (fun x W hx hb => hp x W hx (⟨hb.os, hb.tape, hb.output, hb.size, fun k hk _ => hb.block k hk⟩)))
  have EG : ∀ args w, (callFunc g args).run Try.prog w = .ok (.enter g args) w := eg
  have HP := Lib.hid hp
  have HO := Lib.hid h
  have HC := Lib.hid hch
  obtain ⟨A, c, rfl⟩ := owned_slice h
  have hcap := hsl.len_eq
  clear hp h hch eg
  cases hfi : xs.findIdx? p with
  | none =>
    have hx : idxB p xs = -1 := by unfold idxB; rw [hfi]
    have hnone : xs.filter (fun x => !p x) = xs := by
      rw [List.filter_eq_self]; intro x hx'; rw [List.findIdx?_eq_none_iff] at hfi; simp [hfi x hx']
    rw [hx] at HX
    have HN := Lib.hid hnone
    clear hx hnone hfi
    go_enter Try.func90, Try.ntmps90
    go_wp2_with (go_at_call 121; refine HX.out.mono ?_; rintro e w1 ⟨rfl, hb1⟩; have HB := Lib.hid hb1; clear hb1)
    go_ret
    refine ⟨_, rfl, ?_, ⟨HB.out.os, HB.out.tape, HB.out.output, HB.out.size, fun k hk _ => HB.out.block k hk⟩, rfl⟩
    rw [HN.out]
    exact owned_below HO.out HB.out
  | some k =>
    rw [List.findIdx?_eq_some_iff_getElem] at hfi
    obtain ⟨hk, hpk, hpj⟩ := hfi
    have hx : idxB p xs = k := idxB_at hk (fun j h hj => by have := hpj j hj; simpa using this) hpk
    have HD := Lib.hid (Del.start hk (fun j h hj => by have := hpj j hj; simpa using this) hpk)
    rw [hx] at HX
    obtain ⟨g', cap, e, hg1, hg2⟩ := HO.out.form (by omega)
    simp only [Value.slice.injEq] at e
    obtain ⟨rfl, _, rfl⟩ := e
    obtain ⟨hc1, hc2, hc3⟩ := hcap
    clear hx hpk hpj hsl
    go_enter Try.func90, Try.ntmps90
    have hne : ((k : Int) == -1) = false := by simp
    go_wp2_with (go_at_call 121; refine HX.out.mono ?_; rintro e w1 ⟨rfl, hb1⟩; have HB := Lib.hid hb1; have hz1 := hb1.size; clear hb1)
    have HU1 := Lib.hid (show w.grownBy w1 (some g') from ⟨HB.out.os, HB.out.tape, HB.out.output, HB.out.size, fun k hk _ => HB.out.block k hk⟩)
    have HO1 := Lib.hid (owned_below HO.out HB.out)
    have HC1 := Lib.hid (HC.out.mono (w' := w1) (fun b hf => hf.elim))
    clear hne
    go_loopw [5, 6] (fun si sj wr => ∃ (i j : Nat) (cur : List Int), si = .int .i64 i ∧ sj = .int .i64 j ∧ i < j ∧ j ≤ xs.length ∧ As (Del p xs i j cur) ∧ As (wr.ownsRow base 3 1 (.slice (some ⟨g', 0, none⟩) xs.length c) xs.length (cur.map (Value.int .i64))) ∧
      As (w.grownBy wr (some g'))) (fun _ sj _ => xs.length - (intOf sj).toNat)
    case atStart => exact ⟨k, k + 1, xs, rfl, by go_num, by omega, by omega, ⟨HD.out⟩, ⟨HO1.out⟩, ⟨HU1.out⟩⟩
    case round =>
      obtain ⟨i, j, cur, rfl, rfl, hij, hjn, ⟨hD⟩, ⟨hown⟩, ⟨hU⟩⟩ := hrel
      have hzr := hU.size
      by_cases hlt : j < xs.length
      · have hcj := hD.at hlt
        have hgc := (hown.cellAt j (by omega)).trans (List.getElem?_map ..)
        rw [hcj] at hgc
        have hgc' : wr.cell? ⟨g', j, none⟩ = some (.int .i64 xs[j]) := hgc
        have hgf := hown.frozenAt i
        have hgi := (hown.cellAt i (by omega)).trans (List.getElem?_map ..)
        have hil : i < cur.length := by rw [hD.1]; omega
        rw [List.getElem?_eq_getElem hil] at hgi
        have hcall := HP.out xs[j] wr (hI _ (List.getElem_mem hlt)) hU
        have HDD := Lib.hid hD
        have HOO := Lib.hid hown
        have HUU := Lib.hid hU
        clear hgc hcj hD hown hU
        cases hq : p xs[j]
        · rw [hq] at hcall
          have HK := Lib.hid (HDD.out.keep hlt hq)
          go_wp2_with (go_at_fn g; refine hcall.mono ?_; rintro e w3 ⟨rfl, hb3⟩; have hc3' := bcell hb3; have hf3' := bfroz hb3; have hg3 : g' < wr.heap.size := Nat.lt_of_lt_of_le hg2 hzr; have HB3 := Lib.hid hb3; clear hb3)
          go_roundw
          case rel =>
            have hst := (owned_below HOO.out HB3.out).stored i (.int .i64 xs[j])
            rw [← List.map_set] at hst
            exact ⟨i + 1, j + 1, _, by go_num, by go_num, by omega, by omega, ⟨HK.out⟩, ⟨hst.1⟩, ⟨(World.grownBy.trans HUU.out ⟨HB3.out.os, HB3.out.tape, HB3.out.output, HB3.out.size, fun k hk _ => HB3.out.block k hk⟩).trans hst.2⟩⟩
          case measure => simp [intOf]; omega
        · rw [hq] at hcall
          have HK := Lib.hid (HDD.out.skip hlt hq)
          go_wp2_with (go_at_fn g; refine hcall.mono ?_; rintro e w3 ⟨rfl, hb3⟩; have HB3 := Lib.hid hb3; clear hb3)
          go_roundw
          case rel =>
            exact ⟨i, j + 1, cur, by first | rfl | go_num, by go_num, by omega, by omega, ⟨HK.out⟩, ⟨owned_below HOO.out HB3.out⟩, ⟨World.grownBy.trans HUU.out ⟨HB3.out.os, HB3.out.tape, HB3.out.output, HB3.out.size, fun k hk _ => HB3.out.block k hk⟩⟩⟩
          case measure => simp [intOf]; omega
      · obtain rfl : j = xs.length := by omega
        have hil : i < xs.length := hij
        have hcl : ∀ ty, (Builtin.clear_ #[24] ty #[.slice (some ⟨g', i, none⟩) (xs.length - i) (c - i)]).run Try.prog wr = .ok (.tuple #[]) (wr.setCells g' i (List.replicate (xs.length - i) (.int .i64 0))) := fun ty =>
          Lib.run_clear_slice wr _ _ ty _ Try.underlying24 (fun w => by kernel_rfl) rfl rfl g' i _ _ (by omega)
            (fun t ht => by
              have := (hown.cellAt (i + t) (by omega)).trans (List.getElem?_map ..)
              rw [List.getElem?_eq_getElem (by rw [hD.1]; omega)] at this
              rw [this]; rfl) (fun t ht => hown.frozenAt (i + t))
        have HDD := Lib.hid hD
        have HOO := Lib.hid hown
        have HUU := Lib.hid hU
        clear hD hown hU
        go_wp2
        go_ret
        obtain ⟨ys, y1, y2, y3⟩ := owned_setCells (List.replicate (xs.length - i) (.int .i64 0)) i wr _ HOO.out
        have y4 := owned_cut (i := i) y1 (by omega)
        have hfl : (xs.filter fun x => !p x).length = i := by rw [← HDD.out.done, List.length_take, HDD.out.1]; omega
        refine ⟨_, rfl, ?_, World.grownBy.trans HUU.out y3, rfl⟩
        rw [hfl, ← HDD.out.done, List.map_take, ← y2]
        simpa using y4

end Go.Proofs.Ytpbicdbicikniaa
