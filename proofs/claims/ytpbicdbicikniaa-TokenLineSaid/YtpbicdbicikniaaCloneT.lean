/- frame.Clone. -/
import Derived.Test.YtpbicdbicikniaaClone
import Derived.Test.YtpbicdbicikniaaToken
namespace Go.Proofs.Ytpbicdbicikniaa
open Go.RowKit
set_option linter.unusedVariables false

theorem chunks_int {S : Bs} {w : World} {news : List Value} {xs : List Int} (h : Chunks intE S w news xs) : news = xs.map (Value.int .i64) := by
  apply List.ext_getElem?
  intro j
  by_cases hj : j < xs.length
  · obtain ⟨cs, ⟨rfl, _⟩, hc⟩ := h.2 j _ (List.getElem?_eq_getElem hj)
    have := hc 0 _ rfl
    simp only [intE, flatE, Nat.mul_one, Nat.add_zero] at this
    rw [this, List.getElem?_map, List.getElem?_eq_getElem hj]; rfl
  · rw [List.getElem?_eq_none (by rw [h.1]; simp [intE, flatE]; omega), List.getElem?_eq_none (by simp; omega)]

theorem cloneT_step {S : Bs} {wr w3 : World} {B e e2 g n cap k : Nat} {news news3 : List Value} {rows : List RowV} {r : RowV} {v3 : Value}
    (hown : wr.ownsRow B e 4 (.slice (some ⟨g, 0, none⟩) n cap) n news) (hch : Chunks rowE S wr news rows) (hk : rows[k]? = some r)
    (hb : Below wr.heap.size wr w3) (hv : w3.ownsRow wr.heap.size e2 2 v3 r.out.length news3) (hch3 : Chunks leaseE S wr news3 r.out) (hg : ∀ b, S b → b ≠ g) (hS : ∀ b, wr.heap.size ≤ b → S b) :
    (w3.setCell ⟨g, k * 4 + 3, none⟩ v3).ownsRow B e 4 (.slice (some ⟨g, 0, none⟩) n cap) n (news.set (k * 4 + 3) v3) ∧ Chunks rowE S (w3.setCell ⟨g, k * 4 + 3, none⟩ v3) (news.set (k * 4 + 3) v3) rows := by
  have hown3 := owned_below hown hb
  refine ⟨(hown3.stored (k * 4 + 3) v3).1, ?_⟩
  have hmono : ∀ b, S b → b < wr.heap.size → (w3.setCell ⟨g, k * 4 + 3, none⟩ v3).heap[b]? = wr.heap[b]? := fun b hSb hlt => by
    rw [Below.heap_setCell _ _ _ _ (hg b hSb)]; exact hb.block b hlt
  have hkl := (List.getElem?_eq_some_iff.1 hk).1
  refine ⟨by rw [List.length_set]; exact hch.1, fun j x hx => ?_⟩
  obtain ⟨cs, hR, hc⟩ := (hch.mono hmono).2 j x hx
  by_cases e : j = k
  · subst e
    rw [hk] at hx
    injection hx with hx
    subst hx
    obtain ⟨ov, rfl, i1, i2, i3, _⟩ := hR
    have hl : j * 4 + 3 < news.length := by rw [hch.1]; show j * 4 + 3 < rows.length * 4; omega
    refine ⟨[.int .i64 r.key, .int .i64 r.avail, .int .i64 r.mark, v3], ⟨v3, rfl, i1, i2, i3, ?_⟩, fun i u hu => ?_⟩
    · have hv' : (w3.setCell ⟨g, j * 4 + 3, none⟩ v3).ownsRow wr.heap.size e2 2 v3 r.out.length news3 := owned_keep hv fun g' hg' => by
        have := (hv.lt g' hg').1
        exact Below.heap_setCell _ _ _ _ (hg g' (hS g' this))
      exact Sl.of_owned (E := leaseE) (by decide) hv' (hch3.mono hmono) (fun g' hg' => hS g' (hv.lt g' hg').1)
    · show (news.set (j * 4 + 3) v3)[j * 4 + i]? = some u
      match i, hu with
      | 0, hu => rw [List.getElem?_set_ne (by omega)]; exact hc 0 u hu
      | 1, hu => rw [List.getElem?_set_ne (by omega)]; exact hc 1 u hu
      | 2, hu => rw [List.getElem?_set_ne (by omega)]; exact hc 2 u hu
      | 3, hu => rw [List.getElem?_set_self hl]; exact hu
      | i + 4, hu => simp at hu
  · refine ⟨cs, hR, fun i u hu => ?_⟩
    have hi : i < 4 := by have := rowE.len hR; have := (List.getElem?_eq_some_iff.1 hu).1; simp only [rowE] at *; omega
    rw [List.getElem?_set_ne (by show k * 4 + 3 ≠ j * 4 + i; omega)]
    exact hc i u hu

set_option maxHeartbeats 4000000 in
set_option maxRecDepth 100000 in
theorem cloneT_c (S : Bs) (v : Value) (t : TokenV) (w : World) (h : TokR S w v t) (b1 : t.stamps.length ≤ 1048576) (b2 : t.table.rows.length ≤ 1048576) (b3 : ∀ r ∈ t.table.rows, r.out.length ≤ 1048576) :
    Calls Try.prog 51 #[v] w fun e w' => ∃ sv rv, e = .returned (.agg #[.int .i64 t.gen, .int .i64 t.hop, sv, .int .i64 t.table.start, rv]) ∧
      w'.ownsRow w.heap.size 3 1 sv t.stamps.length (t.stamps.map (Value.int .i64)) ∧ Sl rowE (fun b => plus S w w' b ∧ sv.ownBlock ≠ some b) w' rv t.table.rows ∧ Below w.heap.size w w' := by
  obtain ⟨sv, rv, rfl, i1, i2, i3, hs, hr⟩ := h
  have hs0 := hs
  have hr0 := hr
  obtain ⟨A, c, rfl, hl, hc, _⟩ := hs0
  obtain ⟨A2, c2, rfl, hl2, hc2, _⟩ := hr0
  have HS := Lib.hid hs
  have HR := Lib.hid hr
  go_enter Try.func51, Try.ntmps51
  go_wp2_with (first | (go_at_call 91; refine (clone_int S _ t.stamps _ (HS.out.below (by repeat (with_reducible first | assumption | exact Below.refl _ _ | apply bel_alloc | apply bel_drew | apply bel_drewN | (refine bel_set ?_ (by simp; try omega) _)))) (by omega)).mono ?_; rintro e w1 ⟨sv1, news1, rfl, hown1, hch1, hb1⟩; obtain ⟨Ax, cx, rfl⟩ := owned_slice hown1; have hB1 : Below w.heap.size w w1 := bel_trans (by repeat (with_reducible first | assumption | exact Below.refl _ _ | apply bel_alloc | apply bel_drew | apply bel_drewN | (refine bel_set ?_ (by simp; try omega) _))) hb1; have hc1 := bcell hb1; have hf1 := bfroz hb1; have hz1 := hb1.size; simp only [World.size_alloc] at hz1 hown1) | (go_at_call 94; refine (clone_row (fun b => S b ∧ b < w.heap.size) _ t.table.rows _ ((HR.out.fit (by decide)).below (by repeat (with_reducible first | assumption | exact Below.refl _ _ | apply bel_alloc | apply bel_drew | apply bel_drewN | (refine bel_set ?_ (by simp; try omega) _)))) (by omega)).mono ?_; rintro e w2 ⟨rv2, news2, rfl, hown2, hch2, hb2⟩; obtain ⟨Ay, cy, rfl⟩ := owned_slice hown2; have hB2 : Below w.heap.size w w2 := bel_trans (by repeat (with_reducible first | assumption | exact Below.refl _ _ | apply bel_alloc | apply bel_drew | apply bel_drewN | (refine bel_set ?_ (by simp; try omega) _))) hb2; have hc2 := bcell hb2; have hf2 := bfroz hb2; have hz2 := hb2.size; simp only [World.size_setCell] at hz2 hown2))
  have B1 := ((((blk_new w #[.int .i64 t.gen, .int .i64 t.hop, .slice A t.stamps.length c, .int .i64 t.table.start, .slice A2 t.table.rows.length c2] 29).alloc _).below hb1).set 2 (.slice Ax t.stamps.length cx)).below hb2
  have B2 := (((blk_new (w.alloc (.cells #[.int .i64 t.gen, .int .i64 t.hop, .slice A t.stamps.length c, .int .i64 t.table.start, .slice A2 t.table.rows.length c2] 29)) #[.int .i64 0, .int .i64 0, .slice none 0 0, .int .i64 0, .slice none 0 0] 29).below hb1).set_other (a := ⟨w.heap.size, 2, none⟩) (by simp) (.slice Ax t.stamps.length cx)).below hb2
  simp at B1 B2
  have hown1' := (owned_below (owned_keep (owned_base (base' := w.heap.size) hown1 (by omega)) (w' := w1.setCell ⟨w.heap.size, 2, none⟩ (.slice Ax t.stamps.length cx)) (fun g hg => Below.heap_setCell _ _ _ _ (by have := (hown1.lt g hg).1; show g ≠ w.heap.size; omega))) hb2)
  rw [chunks_int hch1] at hown1'
  have hch2' : Chunks rowE (fun b => (S b ∧ b < w.heap.size) ∨ w2.heap.size ≤ b) w2 news2 t.table.rows := (hch2.mono (fun b _ hlt => hb2.block b hlt)).sub (fun b h => .inl h)
  have hlt1 := hown1.lt
  clear hc1 hf1 hc2 hf2 hb1 hb2 hch1 hch2 hown1 HS HR hs hr
  have HB2 := Lib.hid hB2
  clear hB2 hB1
  have HC := Lib.hid hch2'
  have HO := Lib.hid hown2
  have HO1 := Lib.hid hown1'
  clear hch2' hown2 hown1'
  go_loopw [15] (fun i wr => ∃ (k : Nat) (news : List Value), k ≤ t.table.rows.length ∧ i = .int .i64 k ∧ As (Below w1.heap.size w2 wr) ∧
      As (wr.ownsRow w1.heap.size 106 4 (.slice Ay t.table.rows.length cy) t.table.rows.length news) ∧ As (Chunks rowE (fun b => (S b ∧ b < w.heap.size) ∨ w2.heap.size ≤ b) wr news t.table.rows)) (fun i _ => t.table.rows.length - (intOf i).toNat)
  case atStart => exact ⟨0, news2, Nat.zero_le _, rfl, ⟨Below.refl _ _⟩, ⟨HO.out⟩, ⟨HC.out⟩⟩
  case round =>
    obtain ⟨k, news, hk, rfl, ⟨hbw⟩, ⟨hown⟩, ⟨hch⟩⟩ := hrel
    have D1 := B1.keep (hbw.block _ (by omega))
    have d0 := D1.cell 0 _ rfl
    have d1 := D1.cell 1 _ rfl
    have d2 := D1.cell 2 _ rfl
    have d3 := D1.cell 3 _ rfl
    have d4 := D1.cell 4 _ rfl
    have df := D1.frozen
    have hzr := hbw.size
    by_cases hlt : k < t.table.rows.length
    · obtain ⟨g, cap, e, hg1, hg2⟩ := hown.form (by omega)
      simp only [Value.slice.injEq] at e
      obtain ⟨rfl, _, rfl⟩ := e
      have HG2 := Lib.hid (show g < w2.heap.size from (HO.out.lt g rfl).2)
      obtain ⟨cs, hR, hcs⟩ := hch.2 k _ (List.getElem?_eq_getElem hlt)
      obtain ⟨ov, rfl, j1, j2, j3, ho⟩ := hR
      have ho' := ho
      obtain ⟨Ao, co, rfl, _, _, _⟩ := ho'
      have c3 := (hown.cellAt (k * 4 + 3) (by omega)).trans (hcs 3 _ rfl)
      have cf := hown.frozenAt (k * 4 + 3)
      have HO2 := Lib.hid hown
      have HC2 := Lib.hid hch
      have HW := Lib.hid hbw
      clear hown hch hbw
      have hbd := b3 _ (List.getElem_mem hlt)
      go_wp2_with (go_at_call 95; refine (clone_lease (fun b => (S b ∧ b < w.heap.size) ∨ w2.heap.size ≤ b) _ _ _ ho (by omega)).mono ?_; rintro e w3 ⟨v3, news3, rfl, hown3, hch3, hb3⟩; obtain ⟨Az, cz, rfl⟩ := owned_slice hown3; have hc3 := bcell hb3; have hf3 := bfroz hb3; have hgl := Nat.lt_of_lt_of_le hg2 hb3.size)
      go_roundw
      case rel =>
        have hg3 : w1.heap.size ≤ g := hg1
        have hgT : ∀ b, (S b ∧ b < w.heap.size) ∨ w2.heap.size ≤ b → b ≠ g := fun b hb e => by
          subst e
          rcases hb with ⟨_, hb⟩ | hb
          · omega
          · have := HG2.out; omega
        have hst := cloneT_step HO2.out HC2.out (List.getElem?_eq_getElem hlt) hb3 hown3 hch3 hgT (fun b hb => .inr (by omega))
        exact ⟨k + 1, _, by omega, by go_num, ⟨((HW.out).trans (hb3.mono (by omega))).setCell hg3 _⟩, ⟨hst.1⟩, ⟨hst.2⟩⟩
      case measure => simp [intOf]; omega
    · have D2 := B2.keep (hbw.block _ (by omega))
      have m0 := D2.cell 0 _ rfl
      have m1 := D2.cell 1 _ rfl
      have m2 := D2.cell 2 _ rfl
      have m3 := D2.cell 3 _ rfl
      have m4 := D2.cell 4 _ rfl
      have mf := D2.frozen
      have HO2 := Lib.hid hown
      have HC2 := Lib.hid hch
      have HW := Lib.hid hbw
      clear hown hch hbw
      go_wp2_with fail
      have fin : ∀ W : World, (∀ b, b ≠ w.heap.size → b ≠ w.heap.size + 1 → W.heap[b]? = wr.heap[b]?) → Below w.heap.size wr W → ∃ sv rv,
          Ending.returned (.agg #[.int .i64 t.gen, .int .i64 t.hop, .slice Ax t.stamps.length cx, .int .i64 t.table.start, .slice Ay t.table.rows.length cy]) = .returned (.agg #[.int .i64 t.gen, .int .i64 t.hop, sv, .int .i64 t.table.start, rv]) ∧
          W.ownsRow w.heap.size 3 1 sv t.stamps.length (t.stamps.map (Value.int .i64)) ∧ Sl rowE (fun b => plus S w W b ∧ sv.ownBlock ≠ some b) W rv t.table.rows ∧ Below w.heap.size w W := by
        intro W hW1 hW2
        refine ⟨_, _, rfl, ?_, ?_, (HB2.out.trans (HW.out.mono (by omega))).trans hW2⟩
        · refine owned_keep HO1.out fun g hg => ?_
          have := hlt1 g hg
          rw [hW1 g (by omega) (by omega), HW.out.block g (by omega)]
        · have hown' := owned_keep HO2.out (w' := W) fun g hg => hW1 g (by have := (HO2.out.lt g hg).1; omega) (by have := (HO2.out.lt g hg).1; omega)
          have hch' := HC2.out.mono (w' := W) fun b hb _ => hW1 b (by rcases hb with ⟨_, hb⟩ | hb <;> omega) (by rcases hb with ⟨_, hb⟩ | hb <;> omega)
          have hsl := (Sl.of_owned (S := fun b => (S b ∧ b < w.heap.size) ∨ w1.heap.size ≤ b) (E := rowE) (by decide) hown' (hch'.sub fun b hb => by rcases hb with hb | hb; exact .inl hb; exact .inr (by omega)) (fun g hg => .inr (HO2.out.lt g hg).1)).fit (by decide)
          exact hsl.sub fun b ⟨hb, hlt⟩ => ⟨by rcases hb with ⟨hb, _⟩ | hb; exact .inl hb; exact .inr ⟨by omega, hlt⟩, fun e => by have := hlt1 b e; rcases hb with ⟨_, hb⟩ | hb <;> omega⟩
      refine bodyPost_ret (v := .agg #[.int .i64 t.gen, .int .i64 t.hop, .slice Ax t.stamps.length cx, .int .i64 t.table.start, .slice Ay t.table.rows.length cy]) (by simp only [results, Try.results51]; go_simp) rfl (fin _ ?_ ?_)
      · intro b h1 h2
        repeat rw [Below.heap_setCell _ _ _ _ (by first | exact h1 | exact h2)]
      · repeat (with_reducible first | exact Below.refl _ _ | (refine Below.setCell ?_ (by simp) _))

end Go.Proofs.Ytpbicdbicikniaa
