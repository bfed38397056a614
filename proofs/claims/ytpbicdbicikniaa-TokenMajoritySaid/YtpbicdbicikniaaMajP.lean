/- The plain law behind TokenMajority: a token is valid exactly where a majority saw it of late. -/
import Derived.Test.YtpbicdbicikniaaPass
namespace Go.Proofs.Ytpbicdbicikniaa
set_option linter.unusedVariables false

theorem sorted_filter {s : List Int} (hs : s.Pairwise (· ≤ ·)) (j : Nat) (hj : j < s.length) (c : Int) : (c ≤ s[j]) ↔ s.length - j ≤ (s.filter fun x => decide (c ≤ x)).length := by
  have hp := List.pairwise_iff_getElem.1 hs
  constructor
  · intro h
    have e : (s.filter fun x => decide (c ≤ x)).length = ((s.take j).filter fun x => decide (c ≤ x)).length + ((s.drop j).filter fun x => decide (c ≤ x)).length := by
      rw [← List.length_append, ← List.filter_append, List.take_append_drop]
    have e2 : ((s.drop j).filter fun x => decide (c ≤ x)) = s.drop j := by
      rw [List.filter_eq_self]
      intro x hx
      obtain ⟨i, hi, rfl⟩ := List.getElem_of_mem hx
      rw [List.getElem_drop]
      rw [List.length_drop] at hi
      simp only [decide_eq_true_eq]
      rcases Nat.eq_zero_or_pos i with e | e
      · subst e; exact h
      · exact Int.le_trans h (hp j (j + i) hj (by omega) (by omega))
    rw [e, e2, List.length_drop]; omega
  · intro h
    apply Classical.byContradiction
    intro hc
    have e : (s.filter fun x => decide (c ≤ x)).length = ((s.take (j + 1)).filter fun x => decide (c ≤ x)).length + ((s.drop (j + 1)).filter fun x => decide (c ≤ x)).length := by
      rw [← List.length_append, ← List.filter_append, List.take_append_drop]
    have e2 : ((s.take (j + 1)).filter fun x => decide (c ≤ x)) = [] := by
      rw [List.filter_eq_nil_iff]
      intro x hx
      obtain ⟨i, hi, rfl⟩ := List.getElem_of_mem hx
      rw [List.getElem_take]
      rw [List.length_take] at hi
      simp only [decide_eq_true_eq]
      rcases Nat.lt_or_ge i j with e | e
      · have := hp i j (by omega) hj e; omega
      · obtain rfl : i = j := by omega
        exact hc
    have e3 := List.length_filter_le (fun x => decide (c ≤ x)) (s.drop (j + 1))
    rw [e, e2, List.length_nil] at h
    rw [List.length_drop] at e3
    omega

def late (now span : Int) (x : Int) : Bool := decide (0 ≤ x) && decide (now - span ≤ x)
theorem valid_cnt (xs : List Int) (now span : Int) (hn : 1 ≤ xs.length) (h1 : 0 ≤ now) (h2 : now ≤ 1099511627776) (h3 : 0 ≤ span) (h4 : span ≤ 1099511627776) (hx : ∀ x ∈ xs, -1 ≤ x ∧ x ≤ 1099511627776) :
    validB xs now span = decide (majZ xs.length ≤ ((xs.filter (late now span)).length : Int)) := by
  have hm : majZ xs.length = (xs.length : Int) / 2 + 1 := by unfold majZ; rw [if_neg (by omega)]
  have hfl : xs.filter (late now span) = (xs.filter fun x => !decide (x < 0)).filter fun x => decide (now - span ≤ x) := by
    rw [List.filter_filter]
    congr 1
    funext x
    unfold late
    rw [Bool.and_comm]
    congr 1
    rw [Bool.eq_iff_iff]; simp
  have hfit : fitZ now = now := by unfold fitZ; omega
  have hl : ∀ x ∈ xs.filter (fun x => !decide (x < 0)), 0 ≤ x ∧ x ≤ 1099511627776 := by
    intro x hx'
    rw [List.mem_filter] at hx'
    have := hx x hx'.1
    have h := hx'.2
    simp at h
    omega
  have hlen := List.length_filter_le (fun x : Int => !decide (x < 0)) xs
  unfold validB untilZ
  rw [hfl, hfit]
  generalize hL : xs.filter (fun x => !decide (x < 0)) = l at *
  by_cases hb : nthB l (majZ xs.length) = true
  · rw [if_pos hb]
    have hb' := hb
    unfold nthB at hb'
    simp only [Bool.and_eq_true, decide_eq_true_eq] at hb'
    have hnth : nthV l (majZ xs.length) = nthZ l (majZ xs.length) := by unfold nthV; rw [if_pos hb]
    rw [hnth]
    have hsl := sortZ_length l
    have hj : l.length - (majZ xs.length).toNat < (sortZ l).length := by omega
    have hz : nthZ l (majZ xs.length) = (sortZ l)[l.length - (majZ xs.length).toNat] := by
      unfold nthZ
      rw [List.getD_eq_getElem?_getD, List.getElem?_eq_getElem hj]; rfl
    have hmem : nthZ l (majZ xs.length) ∈ l := by
      rw [hz]
      have := List.getElem_mem hj
      unfold sortZ at this ⊢
      exact List.mem_mergeSort.1 this
    have ht := hl _ hmem
    have hadd : addL [nthZ l (majZ xs.length), span] = nthZ l (majZ xs.length) + span := by
      generalize nthZ l (majZ xs.length) = t at *
      show add2 (add2 0 t) span = _
      unfold add2 fitZ
      omega
    rw [hadd]
    have hsorted : (sortZ l).Pairwise (· ≤ ·) := by
      unfold sortZ
      have := List.pairwise_mergeSort (le := fun x y : Int => decide (x ≤ y)) (by intro a b c h1 h2; simp at *; omega) (by intro a b; simp; omega) l
      exact this.imp (by intro a b h; simpa using h)
    have hcount : (l.filter fun x => decide (now - span ≤ x)).length = ((sortZ l).filter fun x => decide (now - span ≤ x)).length := by
      unfold sortZ
      exact ((List.mergeSort_perm l _).filter _).length_eq.symm
    have key := sorted_filter hsorted _ hj (now - span)
    rw [← hz] at key
    rw [hcount]
    rw [decide_eq_decide]
    constructor
    · intro h
      have := key.1 (by omega)
      omega
    · intro h
      have := key.2 (by omega)
      omega
  · rw [if_neg hb]
    have hb' : ¬ (1 ≤ majZ xs.length ∧ majZ xs.length ≤ (l.length : Int)) := by
      intro h
      apply hb
      unfold nthB
      simp only [Bool.and_eq_true, decide_eq_true_eq]
      exact h
    have hc := List.length_filter_le (fun x => decide (now - span ≤ x)) l
    rw [decide_eq_decide]
    constructor
    · intro h; omega
    · intro h; exfalso; apply hb'; omega
end Go.Proofs.Ytpbicdbicikniaa
