/- What came in reads as plain data: the openings of the rows' proofs. -/
import Derived.Test.YtpbicdbicikniaaToken
import Derived.ProofKit
import Derived.OpenShut
import Derived.Laws.IdiomArrays
namespace Go.Proofs.Ytpbicdbicikniaa
open Go.RowKit Go.ChangeShapes Go.WideShapes Go.ChangeAt
set_option linter.unusedVariables false
set_option maxRecDepth 100000

theorem own : ownKnob Try.prog.godebug = none := by kernel_rfl
theorem laidOut : laidOutB Try.prog = true := by kernel_rfl

theorem open_sl {H : Type} {enc : TypeId × Value → H} {W : World} {base : Nat} {v : Value} {d : DataW H} {p : List MemPlace}
    (hv : Value.okWide Try.prog W .any base 24 v) (h : DataW.Trod enc Try.prog W 0 (fun _ => true) true 24 v d p) : ∃ xs : List Int, Sl intE (fun _ => True) W v xs := by
  obtain ⟨a0, len0, cap0, rfl⟩ := okWide_slice Try.underlying24 hv
  obtain ⟨fuel, hf⟩ := h
  rcases open_ints Try.underlying24 Try.underlying3 (by kernel_rfl) hf with ⟨hcs, _⟩ | ⟨x, l, c, zs, hcs, _, hl, hm, hz, _, hcell, hwz⟩
  · simp [Value.cells] at hcs
    obtain ⟨rfl, rfl, rfl⟩ := hcs
    exact ⟨[], Sl.nil⟩
  · simp [Value.cells] at hcs
    obtain ⟨rfl, rfl, rfl⟩ := hcs
    simp only [if_true] at hz
    refine ⟨zs.take len0, some x, cap0, ?_, ?_, by simpa [maxLen] using hm, fun j y hy => ?_⟩
    · rw [List.length_take, Nat.min_eq_left (by omega)]
    · rw [List.length_take, Nat.min_eq_left (by omega)]; exact hl
    · have hj : j < len0 := by
        rcases Nat.lt_or_ge j len0 with h | h
        · exact h
        · rw [List.getElem?_eq_none (by rw [List.length_take]; omega)] at hy; cases hy
      rw [List.getElem?_take_of_lt hj] at hy
      have hc := hcell j (by omega)
      obtain ⟨b, off, spot⟩ := x
      have hspot : spot = none := by
        have h9 := World.cell?_spot (hcell 0 (by omega))
        simpa [Addr.add] using h9
      subst hspot
      rw [Addr.add_lit] at hc
      have ey : zs.getD j 0 = y := by rw [List.getD_eq_getElem?_getD, hy]; rfl
      rw [ey] at hc
      refine ⟨b, off, _, rfl, trivial, ⟨rfl, bounds_i64 (hwz y (List.mem_of_getElem? hy))⟩, fun i u hu => ?_⟩
      match i, hu with
      | 0, hu =>
        simp at hu; subst hu
        simpa [intE, flatE] using hc
      | i + 1, hu => simp at hu

theorem list2 {α : Type} (l : List α) (h : (⟨l⟩ : Array α).size = 2) : ∃ a b, l = [a, b] := by
  match l, h with
  | [a, b], _ => exact ⟨a, b, rfl⟩
theorem list3 {α : Type} (l : List α) (h : (⟨l⟩ : Array α).size = 3) : ∃ a b c, l = [a, b, c] := by
  match l, h with
  | [a, b, c], _ => exact ⟨a, b, c, rfl⟩
theorem list4 {α : Type} (l : List α) (h : (⟨l⟩ : Array α).size = 4) : ∃ a b c d, l = [a, b, c, d] := by
  match l, h with
  | [a, b, c, d], _ => exact ⟨a, b, c, d, rfl⟩
theorem list5 {α : Type} (l : List α) (h : (⟨l⟩ : Array α).size = 5) : ∃ a b c d e, l = [a, b, c, d, e] := by
  match l, h with
  | [a, b, c, d, e], _ => exact ⟨a, b, c, d, e, rfl⟩
theorem trod_i64 {H : Type} {enc : TypeId × Value → H} {W : World} {m : Nat} {c : Value} {y : DataW H × List MemPlace}
    (h : DataW.trod enc Try.prog W 0 (fun _ => true) true m 3 [c] = some y) : ∃ x, c = .int .i64 x ∧ I64 x := by
  obtain ⟨x, e, rfl, w⟩ := DataW.trod_int Try.underlying3 h
  simp at e
  exact ⟨x, e, bounds_i64 w⟩

theorem open_a2 {H : Type} {enc : TypeId × Value → H} {W : World} {base : Nat} {v : Value} {d : DataW H} {p : List MemPlace}
    (hv : Value.okWide Try.prog W .any base 23 v) (h : DataW.Trod enc Try.prog W 0 (fun _ => true) true 23 v d p) : ∃ a b : Int, v = .agg #[.int .i64 a, .int .i64 b] ∧ I64 a ∧ I64 b := by
  obtain ⟨cs, rfl, hsz, _⟩ : ∃ cs, v = .agg cs ∧ cs.size = Try.prog.cellsOf 23 ∧ Row.okWide Try.prog W .any base 23 cs := by
    simpa [Value.okWide, Try.underlying23] using hv
  rw [show Try.prog.cellsOf 23 = 2 from by kernel_rfl] at hsz
  obtain ⟨l⟩ := cs
  obtain ⟨c0, c1, rfl⟩ := list2 l hsz
  obtain ⟨fuel, hf⟩ := h
  obtain ⟨xs, m, rfl, hx, hlen, hn, hel⟩ := DataW.trod_array Try.underlying23 hf
  have one : Try.prog.cellsOf 3 = 1 := by kernel_rfl
  have h0 := hel 0 (by omega)
  rw [one, List.getElem?_eq_getElem (by omega)] at h0
  obtain ⟨a, e0, i0⟩ := trod_i64 (c := c0) h0
  subst e0
  have h1 := hel 1 (by omega)
  rw [one, List.getElem?_eq_getElem (by omega)] at h1
  obtain ⟨b, e1, i1⟩ := trod_i64 (c := c1) h1
  subst e1
  exact ⟨a, b, rfl, i0, i1⟩
theorem open_a4 {H : Type} {enc : TypeId × Value → H} {W : World} {base : Nat} {v : Value} {d : DataW H} {p : List MemPlace}
    (hv : Value.okWide Try.prog W .any base 22 v) (h : DataW.Trod enc Try.prog W 0 (fun _ => true) true 22 v d p) : ∃ a b c d : Int, v = .agg #[.int .i64 a, .int .i64 b, .int .i64 c, .int .i64 d] ∧ I64 a ∧ I64 b ∧ I64 c ∧ I64 d := by
  obtain ⟨cs, rfl, hsz, _⟩ : ∃ cs, v = .agg cs ∧ cs.size = Try.prog.cellsOf 22 ∧ Row.okWide Try.prog W .any base 22 cs := by
    simpa [Value.okWide, Try.underlying22] using hv
  rw [show Try.prog.cellsOf 22 = 4 from by kernel_rfl] at hsz
  obtain ⟨l⟩ := cs
  obtain ⟨c0, c1, c2, c3, rfl⟩ := list4 l hsz
  obtain ⟨fuel, hf⟩ := h
  obtain ⟨xs, m, rfl, hx, hlen, hn, hel⟩ := DataW.trod_array Try.underlying22 hf
  have one : Try.prog.cellsOf 3 = 1 := by kernel_rfl
  have h0 := hel 0 (by omega)
  rw [one, List.getElem?_eq_getElem (by omega)] at h0
  obtain ⟨a, e0, i0⟩ := trod_i64 (c := c0) h0
  subst e0
  have h1 := hel 1 (by omega)
  rw [one, List.getElem?_eq_getElem (by omega)] at h1
  obtain ⟨b, e1, i1⟩ := trod_i64 (c := c1) h1
  subst e1
  have h2 := hel 2 (by omega)
  rw [one, List.getElem?_eq_getElem (by omega)] at h2
  obtain ⟨c, e2, i2⟩ := trod_i64 (c := c2) h2
  subst e2
  have h3 := hel 3 (by omega)
  rw [one, List.getElem?_eq_getElem (by omega)] at h3
  obtain ⟨d, e3, i3⟩ := trod_i64 (c := c3) h3
  subst e3
  exact ⟨a, b, c, d, rfl, i0, i1, i2, i3⟩
end Go.Proofs.Ytpbicdbicikniaa
