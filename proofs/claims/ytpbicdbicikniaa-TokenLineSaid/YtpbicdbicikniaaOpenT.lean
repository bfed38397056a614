/- Tokens that came in read as plain data. -/
import Derived.Test.YtpbicdbicikniaaOpen
import Derived.Lib.SmallJoins
namespace Go.Proofs.Ytpbicdbicikniaa
open Go.RowKit Go.ChangeShapes Go.WideShapes Go.ChangeAt
set_option linter.unusedVariables false
set_option maxRecDepth 100000

theorem list_of_each {α : Type} {P : Nat → α → Prop} : ∀ n, (∀ i, i < n → ∃ y, P i y) → ∃ xs : List α, xs.length = n ∧ ∀ i y, xs[i]? = some y → P i y := by
  intro n
  induction n with
  | zero => intro _; exact ⟨[], rfl, fun i y h => by simp at h⟩
  | succ n ih =>
    intro h
    obtain ⟨xs, hl, hx⟩ := ih fun i hi => h i (by omega)
    obtain ⟨y, hy⟩ := h n (by omega)
    refine ⟨xs ++ [y], by simp [hl], fun i z hz => ?_⟩
    rcases Nat.lt_or_ge i xs.length with hi | hi
    · rw [List.getElem?_append_left hi] at hz; exact hx i z hz
    · rw [List.getElem?_append_right hi] at hz
      have : i - xs.length = 0 := by
        rcases Nat.eq_zero_or_pos (i - xs.length) with e | e
        · exact e
        · rw [List.getElem?_eq_none (by rw [List.length_singleton]; exact e)] at hz; cases hz
      rw [this] at hz
      simp at hz
      subst hz
      have : i = n := by omega
      subst this
      exact hy

/-- A slice that came in reads as a list, where each element reads. -/
theorem sl_of_trod {α : Type} (E : Ek α) {P : Program} {H : Type} {enc : TypeId × Value → H} {W : World} {t e : TypeId} {fuel : Nat} {cs0 : List Value} {x : DataW H × List MemPlace}
    (ht : P.underlying t = some (.slice e)) (hsz : P.cellsOf e = E.sz) (hpos : 0 < E.sz)
    (el : ∀ n cs y, cs.length = E.sz → DataW.trod enc P W 0 (fun _ => true) true n e cs = some y → ∃ z, E.R (fun _ => True) W cs z)
    (h : DataW.trod enc P W 0 (fun _ => true) true fuel t cs0 = some x) : ∃ v xs, cs0 = [v] ∧ Sl E (fun _ => True) W v xs := by
  rcases DataW.trod_slice ht h with ⟨rfl, _⟩ | ⟨a, len, cap, elems, rest, n, _, rfl, rfl, hb, hl, hm, hlen, hel, hsp, hns⟩
  · exact ⟨_, [], rfl, Sl.nil⟩
  · have each : ∀ i, i < len → ∃ z : α, ∃ cs, E.R (fun _ => True) W cs z ∧ (∀ j u, cs[j]? = some u → W.cell? ((a.add (i * E.sz)).add j) = some u) := by
      intro i hi
      have h1 := hel i hi
      rw [hsz, List.getElem?_eq_getElem (by omega)] at h1
      obtain ⟨cs, hcs, hy⟩ := Option.bind_eq_some_iff.1 h1
      have hc := World.cells?_some hcs
      obtain ⟨z, hz⟩ := el n cs _ hc.2.1 hy
      refine ⟨z, cs, hz, fun j u hu => ?_⟩
      have hj : j < E.sz := by
        rw [← hc.2.1]
        exact (List.getElem?_eq_some_iff.1 hu).1
      rw [hc.2.2 j hj, hu]
    obtain ⟨xs, hxl, hxs⟩ := list_of_each len each
    refine ⟨_, xs, rfl, some a, cap, by rw [hxl], by omega, by simpa [maxLen] using hm, fun j y hy => ?_⟩
    obtain ⟨cs, hR, hc⟩ := hxs j y hy
    have hj : j < len := by rw [← hxl]; exact (List.getElem?_eq_some_iff.1 hy).1
    obtain ⟨b, off, spot⟩ := a
    have hspot : spot = none := by
      obtain ⟨z0, cs0, hR0, hc0⟩ := each 0 (by omega)
      have hl0 := E.len hR0
      have h9 := World.cell?_spot (hc0 0 _ (List.getElem?_eq_getElem (by omega)))
      simpa [Addr.add] using h9
    subst hspot
    refine ⟨b, off, cs, rfl, trivial, hR, fun i u hu => ?_⟩
    have := hc i u hu
    rw [Addr.add_lit, Addr.add_lit] at this
    exact this

theorem lease_open {H : Type} {enc : TypeId × Value → H} {W : World} {n : Nat} {cs : List Value} {y : DataW H × List MemPlace}
    (h : DataW.trod enc Try.prog W 0 (fun _ => true) true n 156 cs = some y) : ∃ z, leaseE.R (fun _ => True) W cs z := by
  obtain ⟨y0, y1, m, _, hl, h0, h1⟩ := trod_struct2 Try.underlying156 h
  rw [show Try.prog.cellsOf 156 = 2 from by kernel_rfl] at hl
  obtain ⟨c0, c1, rfl⟩ := list2 cs (by simpa using hl)
  have one : Try.prog.cellsOf 3 = 1 := by kernel_rfl
  simp only [one] at h0 h1
  obtain ⟨a, e0, i0⟩ := trod_i64 (c := c0) h0
  obtain ⟨b, e1, i1⟩ := trod_i64 (c := c1) h1
  subst e0 e1
  exact ⟨⟨a, b⟩, rfl, i0, i1⟩
theorem row_open {H : Type} {enc : TypeId × Value → H} {W : World} {n : Nat} {cs : List Value} {y : DataW H × List MemPlace}
    (h : DataW.trod enc Try.prog W 0 (fun _ => true) true n 106 cs = some y) : ∃ z, rowE.R (fun _ => True) W cs z := by
  obtain ⟨y0, y1, y2, y3, m, _, hl, h0, h1, h2, h3⟩ := Joins.trod_struct4 Try.underlying106 h
  rw [show Try.prog.cellsOf 106 = 4 from by kernel_rfl] at hl
  obtain ⟨c0, c1, c2, c3, rfl⟩ := list4 cs (by simpa using hl)
  have one : Try.prog.cellsOf 3 = 1 := by kernel_rfl
  have ones : Try.prog.cellsOf 104 = 1 := by kernel_rfl
  simp only [one] at h0 h1 h2
  simp only [ones] at h3
  obtain ⟨a, e0, i0⟩ := trod_i64 (c := c0) h0
  obtain ⟨b, e1, i1⟩ := trod_i64 (c := c1) h1
  obtain ⟨d, e2, i2⟩ := trod_i64 (c := c2) h2
  subst e0 e1 e2
  obtain ⟨v, xs, e3, hs⟩ := sl_of_trod leaseE Try.underlying104 (by kernel_rfl) (by decide) (fun n cs y _ h => lease_open h) h3
  have e3 : c3 = v := by simpa using e3
  subst e3
  exact ⟨⟨a, b, d, xs⟩, c3, rfl, i0, i1, i2, hs⟩
theorem open_tok {H : Type} {enc : TypeId × Value → H} {W : World} {base : Nat} {v : Value} {d : DataW H} {p : List MemPlace}
    (hv : Value.okWide Try.prog W .any base 29 v) (h : DataW.Trod enc Try.prog W 0 (fun _ => true) true 29 v d p) : ∃ t, TokR (fun _ => True) W v t := by
  obtain ⟨cs, rfl, hsz⟩ := okWide_struct Try.underlying29 hv
  rw [show Try.prog.cellsOf 29 = 5 from by kernel_rfl] at hsz
  obtain ⟨l⟩ := cs
  obtain ⟨c0, c1, c2, c3, c4, rfl⟩ := list5 l hsz
  obtain ⟨fuel, hf⟩ := h
  obtain ⟨y0, y1, y2, y3, m, _, hl, h0, h1, h2, h3⟩ := Joins.trod_struct4 Try.underlying29 hf
  have one : Try.prog.cellsOf 3 = 1 := by kernel_rfl
  have ones : Try.prog.cellsOf 24 = 1 := by kernel_rfl
  have onet : Try.prog.cellsOf 27 = 2 := by kernel_rfl
  have oner : Try.prog.cellsOf 25 = 1 := by kernel_rfl
  simp only [one] at h0 h1
  simp only [ones] at h2
  simp only [onet] at h3
  obtain ⟨a, e0, i0⟩ := trod_i64 (c := c0) h0
  obtain ⟨b, e1, i1⟩ := trod_i64 (c := c1) h1
  subst e0 e1
  obtain ⟨sv, xs, e2, hs⟩ := sl_of_trod intE Try.underlying24 (by kernel_rfl) (by decide) (fun n cs y hl h => by
    obtain ⟨c, rfl⟩ : ∃ c, cs = [c] := by
      match cs, hl with
      | [c], _ => exact ⟨c, rfl⟩
    obtain ⟨x, rfl, ix⟩ := trod_i64 h
    exact ⟨x, rfl, ix⟩) h2
  have e2 : c2 = sv := by simpa [Value.cells] using e2
  subst e2
  obtain ⟨z0, z1, k, _, _, g0, g1⟩ := trod_struct2 Try.underlying27 h3
  simp only [one] at g0
  simp only [oner] at g1
  obtain ⟨s, e3, i3⟩ := trod_i64 (c := c3) g0
  subst e3
  obtain ⟨rv, ys, e4, hr⟩ := sl_of_trod rowE Try.underlying25 (by kernel_rfl) (by decide) (fun n cs y _ h => row_open h) g1
  have e4 : c4 = rv := by simpa [Value.cells] using e4
  subst e4
  exact ⟨⟨a, b, xs, ⟨s, ys⟩⟩, _, _, rfl, i0, i1, i3, hs, hr⟩
theorem list6 {α : Type} (l : List α) (h : (⟨l⟩ : Array α).size = 6) : ∃ a b c d e f, l = [a, b, c, d, e, f] := by
  match l, h with
  | [a, b, c, d, e, f], _ => exact ⟨a, b, c, d, e, f, rfl⟩
theorem place_open {H : Type} {enc : TypeId × Value → H} {W : World} {n : Nat} {c0 c1 : Value} {y : DataW H × List MemPlace}
    (h : DataW.trod enc Try.prog W 0 (fun _ => true) true n 36 [c0, c1] = some y) : ∃ a b : Int, c0 = .int .i64 a ∧ c1 = .int .i64 b ∧ I64 a ∧ I64 b := by
  obtain ⟨y0, y1, m, _, hl, h0, h1⟩ := trod_struct2 Try.underlying36 h
  have one : Try.prog.cellsOf 3 = 1 := by kernel_rfl
  simp only [one] at h0 h1
  obtain ⟨a, e0, i0⟩ := trod_i64 (c := c0) h0
  obtain ⟨b, e1, i1⟩ := trod_i64 (c := c1) h1
  exact ⟨a, b, e0, e1, i0, i1⟩
theorem open_p3 {H : Type} {enc : TypeId × Value → H} {W : World} {base : Nat} {v : Value} {d : DataW H} {p : List MemPlace}
    (hv : Value.okWide Try.prog W .any base 40 v) (h : DataW.Trod enc Try.prog W 0 (fun _ => true) true 40 v d p) : ∃ a b c d e f : Int, v = .agg #[.int .i64 a, .int .i64 b, .int .i64 c, .int .i64 d, .int .i64 e, .int .i64 f] ∧ I64 a ∧ I64 b ∧ I64 c ∧ I64 d ∧ I64 e ∧ I64 f := by
  obtain ⟨cs, rfl, hsz, _⟩ : ∃ cs, v = .agg cs ∧ cs.size = Try.prog.cellsOf 40 ∧ Row.okWide Try.prog W .any base 40 cs := by
    simpa [Value.okWide, Try.underlying40] using hv
  rw [show Try.prog.cellsOf 40 = 6 from by kernel_rfl] at hsz
  obtain ⟨l⟩ := cs
  obtain ⟨c0, c1, c2, c3, c4, c5, rfl⟩ := list6 l hsz
  obtain ⟨fuel, hf⟩ := h
  obtain ⟨xs, m, rfl, hx, hlen, hn, hel⟩ := DataW.trod_array Try.underlying40 hf
  have two : Try.prog.cellsOf 36 = 2 := by kernel_rfl
  have h0 := hel 0 (by omega)
  rw [two, List.getElem?_eq_getElem (by omega)] at h0
  obtain ⟨a, b, e0, e1, i0, i1⟩ := place_open (c0 := c0) (c1 := c1) h0
  have h1 := hel 1 (by omega)
  rw [two, List.getElem?_eq_getElem (by omega)] at h1
  obtain ⟨c, d, e2, e3, i2, i3⟩ := place_open (c0 := c2) (c1 := c3) h1
  have h2 := hel 2 (by omega)
  rw [two, List.getElem?_eq_getElem (by omega)] at h2
  obtain ⟨e, f, e4, e5, i4, i5⟩ := place_open (c0 := c4) (c1 := c5) h2
  subst e0 e1 e2 e3 e4 e5
  exact ⟨a, b, c, d, e, f, rfl, i0, i1, i2, i3, i4, i5⟩
end Go.Proofs.Ytpbicdbicikniaa
