/- Slices of the call's own: rows that it owns, and how they read. -/
import Derived.Test.YtpbicdbicikniaaBase
import Derived.Maps.AppendAt
import Derived.Deep.AppendLies
namespace Go.Proofs.Ytpbicdbicikniaa
open Go.RowKit
set_option linter.unusedVariables false

def flatUp (f : Nat → List Value) : Nat → List Value
  | 0 => []
  | n + 1 => flatUp f n ++ f n
theorem flatUp_length {f : Nat → List Value} {sz : Nat} : ∀ {n : Nat}, (∀ j, j < n → (f j).length = sz) → (flatUp f n).length = n * sz
  | 0, _ => by simp [flatUp]
  | n + 1, h => by
    rw [flatUp, List.length_append, flatUp_length (fun j hj => h j (by omega)), h n (by omega), Nat.succ_mul]
theorem flatUp_get {f : Nat → List Value} {sz : Nat} : ∀ {n : Nat}, (∀ j, j < n → (f j).length = sz) → ∀ j i, j < n → i < sz → (flatUp f n)[j * sz + i]? = (f j)[i]?
  | 0, _, j, i, hj, hi => by omega
  | n + 1, h, j, i, hj, hi => by
    have hl : (flatUp f n).length = n * sz := flatUp_length (fun j hj => h j (by omega))
    by_cases e : j = n
    · subst e
      rw [flatUp, List.getElem?_append_right (by omega), hl]
      congr 1; omega
    · have hlt : j * sz + i < n * sz := by
        have : (j + 1) * sz ≤ n * sz := Nat.mul_le_mul_right _ (by omega)
        rw [Nat.succ_mul] at this; omega
      rw [flatUp, List.getElem?_append_left (by omega)]
      exact flatUp_get (fun j hj => h j (by omega)) j i (by omega) hi

/-- Cells in a row that read as a list. -/
def Chunks {α : Type} (E : Ek α) (S : Bs) (w : World) (news : List Value) (xs : List α) : Prop :=
  news.length = xs.length * E.sz ∧ ∀ j x, xs[j]? = some x → ∃ cs, E.R S w cs x ∧ ∀ i u, cs[i]? = some u → news[j * E.sz + i]? = some u

theorem Chunks.mono {α : Type} {E : Ek α} {S : Bs} {w w' : World} {news : List Value} {xs : List α} (hw : ∀ b, S b → b < w.heap.size → w'.heap[b]? = w.heap[b]?) (h : Chunks E S w news xs) : Chunks E S w' news xs :=
  ⟨h.1, fun j x hx => by obtain ⟨cs, hR, hc⟩ := h.2 j x hx; exact ⟨cs, E.mono hw hR, hc⟩⟩
theorem Chunks.sub {α : Type} {E : Ek α} {S T : Bs} {w : World} {news : List Value} {xs : List α} (hST : ∀ b, S b → T b) (h : Chunks E S w news xs) : Chunks E T w news xs :=
  ⟨h.1, fun j x hx => by obtain ⟨cs, hR, hc⟩ := h.2 j x hx; exact ⟨cs, E.sub hST hR, hc⟩⟩
theorem Chunks.nil {α : Type} {E : Ek α} {S : Bs} {w : World} : Chunks E S w [] [] := ⟨by simp, fun j x h => by simp at h⟩

theorem Chunks.append {α : Type} {E : Ek α} {S : Bs} {w : World} {n1 n2 : List Value} {x1 x2 : List α} (h1 : Chunks E S w n1 x1) (h2 : Chunks E S w n2 x2) : Chunks E S w (n1 ++ n2) (x1 ++ x2) := by
  refine ⟨by rw [List.length_append, List.length_append, h1.1, h2.1, Nat.add_mul], fun j x hx => ?_⟩
  by_cases hj : j < x1.length
  · rw [List.getElem?_append_left hj] at hx
    obtain ⟨cs, hR, hc⟩ := h1.2 j x hx
    refine ⟨cs, hR, fun i u hu => ?_⟩
    have := hc i u hu
    rw [List.getElem?_append_left]
    · exact this
    · exact (List.getElem?_eq_some_iff.1 this).1
  · rw [List.getElem?_append_right (by omega)] at hx
    obtain ⟨cs, hR, hc⟩ := h2.2 _ x hx
    refine ⟨cs, hR, fun i u hu => ?_⟩
    have := hc i u hu
    have e : j * E.sz + i = n1.length + ((j - x1.length) * E.sz + i) := by
      rw [h1.1]
      have : (x1.length + (j - x1.length)) * E.sz = x1.length * E.sz + (j - x1.length) * E.sz := Nat.add_mul _ _ _
      rw [show x1.length + (j - x1.length) = j from by omega] at this
      omega
    rw [e, List.getElem?_append_right (by omega)]
    rw [Nat.add_sub_cancel_left]; exact this

theorem Chunks.one {α : Type} {E : Ek α} {S : Bs} {w : World} {cs : List Value} {x : α} (h : E.R S w cs x) : Chunks E S w cs [x] := by
  refine ⟨by rw [E.len h]; simp, fun j y hy => ?_⟩
  cases j with
  | zero => simp at hy; subst hy; exact ⟨cs, h, fun i u hu => by simpa using hu⟩
  | succ j => simp at hy

/-- A slice that reads as a list, as cells in a row. -/
theorem Sl.flat {α : Type} {E : Ek α} {S : Bs} {w : World} {A : Option Addr} {n c : Nat} {xs : List α} (hpos : 0 < E.sz) (h : Sl E S w (.slice A n c) xs) :
    ∃ news, Chunks E S w news xs ∧ (xs ≠ [] → ∃ b off, A = some ⟨b, off, none⟩ ∧ S b ∧ ∀ j u, news[j]? = some u → w.cell? ⟨b, off + j, none⟩ = some u) := by
  obtain ⟨A', c', e, _, _, h3⟩ := h
  obtain ⟨rfl, _, _⟩ : A = A' ∧ n = xs.length ∧ c = c' := by injection e with e1 e2 e3; exact ⟨e1, e2, e3⟩
  have key : ∀ j, ∃ cs, ∀ x, xs[j]? = some x → ∃ b off, A = some ⟨b, off, none⟩ ∧ S b ∧ E.R S w cs x ∧ ∀ i u, cs[i]? = some u → w.cell? ⟨b, off + j * E.sz + i, none⟩ = some u := by
    intro j
    cases hx : xs[j]? with
    | none => exact ⟨[], fun x h => by simp at h⟩
    | some x =>
      obtain ⟨b, off, cs, e1, e2, e3, e4⟩ := h3 j x hx
      exact ⟨cs, fun y hy => by injection hy with hy; subst hy; exact ⟨b, off, e1, e2, e3, e4⟩⟩
  let f : Nat → List Value := fun j => Classical.choose (key j)
  have hf : ∀ j x, xs[j]? = some x → ∃ b off, A = some ⟨b, off, none⟩ ∧ S b ∧ E.R S w (f j) x ∧ ∀ i u, (f j)[i]? = some u → w.cell? ⟨b, off + j * E.sz + i, none⟩ = some u := fun j => Classical.choose_spec (key j)
  have hl : ∀ j, j < xs.length → (f j).length = E.sz := fun j hj => by
    obtain ⟨_, _, _, _, hR, _⟩ := hf j xs[j] (List.getElem?_eq_getElem hj)
    exact E.len hR
  refine ⟨flatUp f xs.length, ⟨flatUp_length hl, fun j x hx => ?_⟩, fun hne => ?_⟩
  · obtain ⟨b, off, _, _, hR, _⟩ := hf j x hx
    have hj := (List.getElem?_eq_some_iff.1 hx).1
    refine ⟨f j, hR, fun i u hu => ?_⟩
    rw [flatUp_get hl j i hj (by rw [← hl j hj]; exact (List.getElem?_eq_some_iff.1 hu).1), hu]
  · have h0 : 0 < xs.length := List.length_pos_iff.2 hne
    obtain ⟨b, off, hA, hS, _, _⟩ := hf 0 xs[0] (List.getElem?_eq_getElem h0)
    refine ⟨b, off, hA, hS, fun k u hk => ?_⟩
    have hkl := (List.getElem?_eq_some_iff.1 hk).1
    rw [flatUp_length hl] at hkl
    have hj : k / E.sz < xs.length := Nat.div_lt_of_lt_mul (by rw [Nat.mul_comm]; exact hkl)
    have hi : k % E.sz < E.sz := Nat.mod_lt _ hpos
    have ek : k = k / E.sz * E.sz + k % E.sz := by rw [Nat.mul_comm]; exact (Nat.div_add_mod k E.sz).symm
    rw [ek, flatUp_get hl _ _ hj hi] at hk
    obtain ⟨b', off', hA', _, _, hc⟩ := hf _ xs[k / E.sz] (List.getElem?_eq_getElem hj)
    rw [hA] at hA'
    injection hA' with e1
    injection e1 with e2 e3
    subst e2; subst e3
    have := hc _ _ hk
    rw [ek, ← Nat.add_assoc]; exact this

/-- A row that is owned reads as a list. -/
theorem Sl.of_owned {α : Type} {E : Ek α} {S : Bs} {w : World} {base e : Nat} {v : Value} {news : List Value} {xs : List α} (hpos : 0 < E.sz)
    (h : w.ownsRow base e E.sz v xs.length news) (hc : Chunks E S w news xs) (hS : ∀ k, v.ownBlock = some k → S k) : Sl E S w v xs := by
  rcases h.2 with ⟨rfl, hn⟩ | ⟨g, cap, cur, rfl, hb, hh, h1, h2, h3, h4⟩
  · have : xs = [] := List.eq_nil_of_length_eq_zero hn
    subst this
    exact Sl.nil
  · refine ⟨some ⟨g, 0, none⟩, cap, rfl, h1, by simpa [maxLen] using h2, fun j x hx => ?_⟩
    obtain ⟨cs, hR, hcs⟩ := hc.2 j x hx
    refine ⟨g, 0, cs, rfl, hS g rfl, hR, fun i u hu => ?_⟩
    have := h.cells (g := g) rfl _ u (hcs i u hu)
    have e : (⟨g, 0, none⟩ : Addr).add (j * E.sz + i) = ⟨g, 0 + (j * E.sz + i), none⟩ := by unfold Addr.add; split <;> simp_all
    rw [e] at this
    rw [Nat.add_assoc]; exact this

theorem Sl.shape {α : Type} {E : Ek α} {S : Bs} {w : World} {v : Value} {xs : List α} (h : Sl E S w v xs) : ∃ A c, v = .slice A xs.length c := by
  obtain ⟨A, c, e, _⟩ := h
  exact ⟨A, c, e⟩
theorem owned_slice {w : World} {base n : Nat} {e : TypeId} {size : Nat} {v : Value} {xs : List Value} (h : w.ownsRow base e size v n xs) : ∃ A c, v = .slice A n c := by
  rcases h.2 with ⟨rfl, rfl⟩ | ⟨g, cap, cur, rfl, _⟩
  · exact ⟨none, 0, rfl⟩
  · exact ⟨_, cap, rfl⟩
/-- What is owned stays, where its own block is not written. -/
theorem owned_keep {w w' : World} {base n : Nat} {e : TypeId} {size : Nat} {v : Value} {xs : List Value} (h : w.ownsRow base e size v n xs) (hw : ∀ g, v.ownBlock = some g → w'.heap[g]? = w.heap[g]?) : w'.ownsRow base e size v n xs := by
  rcases h with ⟨h1, ⟨rfl, h2⟩ | ⟨g, cap, cur, rfl, hb, hh, r⟩⟩
  · exact ⟨h1, .inl ⟨rfl, h2⟩⟩
  · exact ⟨h1, .inr ⟨g, cap, cur, rfl, hb, (hw g rfl).trans hh, r⟩⟩
theorem owned_below {w w' : World} {base n : Nat} {e : TypeId} {size : Nat} {v : Value} {xs : List Value} (h : w.ownsRow base e size v n xs) (hb : Below w.heap.size w w') : w'.ownsRow base e size v n xs :=
  owned_keep h fun g hg => hb.block g (h.lt g hg).2
theorem owned_base {w : World} {base base' n : Nat} {e : TypeId} {size : Nat} {v : Value} {xs : List Value} (h : w.ownsRow base e size v n xs) (hb : base' ≤ base) : w.ownsRow base' e size v n xs := by
  rcases h with ⟨h1, ⟨rfl, h2⟩ | ⟨g, cap, cur, rfl, hg, r⟩⟩
  · exact ⟨h1, .inl ⟨rfl, h2⟩⟩
  · exact ⟨h1, .inr ⟨g, cap, cur, rfl, Nat.le_trans hb hg, r⟩⟩

end Go.Proofs.Ytpbicdbicikniaa
