/- slices.IndexFunc and its kin. -/
import Derived.Test.YtpbicdbicikniaaTabs
namespace Go.Proofs.Ytpbicdbicikniaa
open Go.RowKit
set_option linter.unusedVariables false


/-- The first place at which p holds; -1. -/
def idxB {α : Type} (p : α → Bool) (xs : List α) : Int := match xs.findIdx? p with | some i => (i : Int) | none => -1

theorem idxB_at {α : Type} {p : α → Bool} {xs : List α} {k : Nat} (hk : k < xs.length) (h0 : ∀ j (h : j < xs.length), j < k → p xs[j] = false) (h : p xs[k] = true) : idxB p xs = k := by
  have : xs.findIdx? p = some k := by
    rw [List.findIdx?_eq_some_iff_getElem]
    exact ⟨hk, h, fun j hj => by simp [h0 j (by omega) hj]⟩
  unfold idxB; rw [this]
theorem idxB_none {α : Type} {p : α → Bool} {xs : List α} (h0 : ∀ j (h : j < xs.length), p xs[j] = false) : idxB p xs = -1 := by
  have : xs.findIdx? p = none := by
    rw [List.findIdx?_eq_none_iff]
    intro x hx
    obtain ⟨j, hj, rfl⟩ := List.getElem_of_mem hx
    exact h0 j hj
  unfold idxB; rw [this]
theorem idxB_nonneg {α : Type} {p : α → Bool} {xs : List α} : (decide (0 ≤ idxB p xs)) = xs.any p := by
  unfold idxB
  cases h : xs.findIdx? p with
  | none =>
    rw [List.findIdx?_eq_none_iff] at h
    have : xs.any p = false := by rw [List.any_eq_false]; intro x hx; simp [h x hx]
    rw [this]; rfl
  | some i =>
    rw [List.findIdx?_eq_some_iff_getElem] at h
    obtain ⟨hi, hp, _⟩ := h
    have : xs.any p = true := by rw [List.any_eq_true]; exact ⟨_, List.getElem_mem hi, hp⟩
    rw [this]; simp


set_option maxHeartbeats 1000000 in
theorem indexFunc_int (S : Bs) (v : Value) (xs : List Int) (g : Nat) (lb : Array Value) (p : Int → Bool) (w : World) (h : Sl intE S w v xs) (eg : Ent Try.prog g)
    (hp : ∀ x W, I64 x → Below w.heap.size w W → Calls Try.prog g (#[.int .i64 x] ++ lb) W fun e w' => e = .returned (.bool (p x)) ∧ Below W.heap.size W w') :
    Calls Try.prog 121 #[v, .func (.func g) #[] lb] w fun e w' => e = .returned (.int .i64 (idxB p xs)) ∧ Below w.heap.size w w' := by
  have h0 := h
  obtain ⟨A, c, rfl, hl, hc, _⟩ := h0
  have EG : ∀ args w, (callFunc g args).run Try.prog w = .ok (.enter g args) w := eg
  have HP := Lib.hid hp
  clear hp
  go_enter Try.func121, Try.ntmps121
  go_wp2
  go_loopw [8] (fun i wr => ∃ k : Nat, k ≤ xs.length ∧ i = .int .i64 k ∧ (∀ j, j < k → p (intAt xs j) = false) ∧ Below w.heap.size w wr) (fun i _ => xs.length - (intOf i).toNat)
  case atStart => exact ⟨0, Nat.zero_le _, rfl, fun j hj => by omega, Below.refl _ _⟩
  case round =>
    obtain ⟨k, hk, rfl, hup, hb⟩ := hrel
    have HU := Lib.hid hup; clear hup
    have HB := Lib.hid hb
    by_cases hlt : k < xs.length
    · obtain ⟨b, off, rfl, hS, i1, c1⟩ := (h.below hb).int_at k hlt
      have hcall := HP.out _ _ i1 hb
      cases hq : p (intAt xs k)
      · rw [hq] at hcall
        go_wp2_with (go_at_fn g; refine hcall.mono ?_; rintro e w' ⟨rfl, hb'⟩)
        go_roundw
        case rel => exact ⟨k + 1, by omega, by go_num, fun j hj => by
          by_cases e : j = k
          · rw [e]; exact hq
          · exact HU.out j (by omega), bel_trans hb hb'⟩
        case measure => simp [intOf]; omega
      · rw [hq] at hcall
        go_wp2_with (go_at_fn g; refine hcall.mono ?_; rintro e w' ⟨rfl, hb'⟩)
        go_ret
        exact ⟨ret_int (idxB_at hlt (fun j h hj => by have := HU.out j hj; simpa [intAt, h] using this) (by simpa [intAt, hlt] using hq)).symm, bel_trans hb hb'⟩
    · go_wp2
      go_ret
      exact ⟨ret_int (idxB_none (fun j h => by have := HU.out j (by omega); simpa [intAt, h] using this)).symm, HB.out⟩
end Go.Proofs.Ytpbicdbicikniaa
