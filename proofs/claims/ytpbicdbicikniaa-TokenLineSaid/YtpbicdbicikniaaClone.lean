/- slices.Clone at whole numbers, leases, rows. -/
import Derived.Test.YtpbicdbicikniaaOwn
import Derived.Test.YtpbicdbicikniaaTabs
namespace Go.Proofs.Ytpbicdbicikniaa
open Go.RowKit
set_option linter.unusedVariables false

theorem chunks_one {α : Type} {E : Ek α} {S : Bs} {w : World} {news : List Value} {xs : List α} (h1 : ∀ {S w cs x}, E.R S w cs x → ∀ u ∈ cs, u.oneCell' = true) (h : Chunks E S w news xs) : ∀ u ∈ news, u.oneCell' = true := by
  intro u hu
  obtain ⟨k, hk, rfl⟩ := List.getElem_of_mem hu
  have hl := h.1
  have hpos : 0 < E.sz := by
    rcases Nat.eq_zero_or_pos E.sz with e | e
    · rw [e] at hl; omega
    · exact e
  have hj : k / E.sz < xs.length := Nat.div_lt_of_lt_mul (by rw [Nat.mul_comm]; omega)
  obtain ⟨cs, hR, hc⟩ := h.2 (k / E.sz) _ (List.getElem?_eq_getElem hj)
  have hi : k % E.sz < cs.length := by rw [E.len hR]; exact Nat.mod_lt _ hpos
  have := hc (k % E.sz) _ (List.getElem?_eq_getElem hi)
  have ek : k / E.sz * E.sz + k % E.sz = k := by rw [Nat.mul_comm]; exact Nat.div_add_mod k E.sz
  rw [ek, List.getElem?_eq_getElem hk] at this
  injection this with this
  rw [this]
  exact h1 hR _ (List.getElem_mem hi)

theorem info_int : (Try.prog.info? 3).map (fun i => (i.zero, i.size, i.bytes)) = some (some (.int .i64 0), 1, 8) := by kernel_rfl
theorem one_int {S : Bs} {w : World} {cs : List Value} {x : Int} (h : intE.R S w cs x) : ∀ u ∈ cs, u.oneCell' = true := by
  obtain ⟨rfl, _⟩ := h
  simp [Value.oneCell']

theorem info_lease : (Try.prog.info? 156).map (fun i => (i.zero, i.size, i.bytes)) = some (some (.agg #[.int .i64 0, .int .i64 0]), 2, 16) := by kernel_rfl
theorem one_lease {S : Bs} {w : World} {cs : List Value} {x : LeaseV} (h : leaseE.R S w cs x) : ∀ u ∈ cs, u.oneCell' = true := by
  obtain ⟨rfl, _⟩ := h
  simp [Value.oneCell']

theorem info_row : (Try.prog.info? 106).map (fun i => (i.zero, i.size, i.bytes)) = some (some (.agg #[.int .i64 0, .int .i64 0, .int .i64 0, .slice none 0 0]), 4, 48) := by kernel_rfl
theorem one_row {S : Bs} {w : World} {cs : List Value} {x : RowV} (h : rowE.R S w cs x) : ∀ u ∈ cs, u.oneCell' = true := by
  obtain ⟨ov, rfl, _, _, _, h⟩ := h
  obtain ⟨A, c, rfl, _⟩ := h
  simp [Value.oneCell']

set_option maxHeartbeats 1000000 in
theorem clone_int (S : Bs) (v : Value) (xs : List Int) (w : World) (h : Sl intE S w v xs) (hbig : xs.length * 8 ≤ 140737488355328) :
    Calls Try.prog 91 #[v] w fun e w' => ∃ v' news, e = .returned v' ∧ w'.ownsRow w.heap.size 3 1 v' xs.length news ∧ Chunks intE S w news xs ∧ Below w.heap.size w w' := by
  have h0 := h
  obtain ⟨A, c, rfl, hl, hc, _⟩ := h0
  obtain ⟨news, hch, hcell⟩ := h.flat (by decide)
  have hone : ∀ u ∈ news, u.oneCell' = true := chunks_one (fun h => one_int h) hch
  obtain ⟨i0, hi, hz0, hz1, hz2⟩ := info_parts info_int
  have q22 : ∀ (w : World) (a : Option Addr) (n c n' c' : Nat), (binOp .eql 24 (.slice a n c) (.slice none n' c')).run Try.prog w = .ok (.bool a.isNone) w := fun w a n c n' c' => Lib.run_eql_slice_nil w _ _ a n c n' c' Try.underlying24
  cases A with
  | none =>
    have hx : xs = [] := by
      apply Classical.byContradiction; intro hne
      obtain ⟨b, off, e, _⟩ := hcell hne
      cases e
    subst hx
    have hn : news = [] := List.eq_nil_of_length_eq_zero (by rw [hch.1]; simp)
    subst hn
    clear hone hch hcell h hbig hl hc hi hz0 hz1 hz2
    go_enter Try.func91, Try.ntmps91
    go_wp2
    go_ret
    exact ⟨.slice none 0 0, [], rfl, World.ownsRow_nil _ _ _ _, Chunks.nil, Below.refl _ _⟩
  | some ad =>
    obtain ⟨b, off, sp⟩ := ad
    have hcell2 : ∀ j u, news[j]? = some u → w.cell? ((⟨b, off, sp⟩ : Addr).add j) = some u := by
      intro j u hu
      by_cases hx : xs = []
      · subst hx
        have hn : news = [] := List.eq_nil_of_length_eq_zero (by rw [hch.1]; simp)
        subst hn
        simp at hu
      · obtain ⟨b', off', e, _, hcc⟩ := hcell hx
        simp only [Option.some.injEq, Addr.mk.injEq] at e
        obtain ⟨rfl, rfl, rfl⟩ := e
        rw [Addr.add_lit]
        exact hcc j u hu
    have HC := Lib.hid hcell2
    have HN := Lib.hid hone
    have HH := Lib.hid hch
    have hbl := hbig
    clear hcell2 hcell hone hch h hl
    go_enter Try.func91, Try.ntmps91
    go_wp2_with (at_builtin; refine wpList_append_own _ rfl _ _ 24 rfl w.heap.size 3 i0 (.int .i64 0) 1 8 Try.underlying24 hi hz0 hz1 hz2 rfl (by decide) _ _ _ rfl (World.ownsRow_made w #[] 0 (Nat.le_refl _) (Nat.zero_le _) (by simp)) ⟨b, off, sp⟩ xs.length c news rfl ?qc1 ?qc2 ?qc3 ?qc4 ?qc5 ?qc6 ?_)
    case qc1 => exact HH.out.1
    case qc2 => exact fun j u hu => Lib.cell?_alloc_some _ (HC.out j u hu)
    case qc3 => exact HN.out
    case qc4 => simp only [maxLen]; omega
    case qc5 => rw [Nat.zero_add]; exact hbig
    case qc6 => simp
    intro v' w1 hown hgrow hnil
    go_wp2
    go_ret
    exact ⟨v', news, rfl, by simpa using hown, HH.out, ((Below.refl _ w).alloc (Nat.le_refl _) _).grown hgrow (by simp) (by intro k hk; simp [Value.ownBlock] at hk; omega)⟩


set_option maxHeartbeats 1000000 in
theorem clone_lease (S : Bs) (v : Value) (xs : List LeaseV) (w : World) (h : Sl leaseE S w v xs) (hbig : xs.length * 16 ≤ 140737488355328) :
    Calls Try.prog 95 #[v] w fun e w' => ∃ v' news, e = .returned v' ∧ w'.ownsRow w.heap.size 156 2 v' xs.length news ∧ Chunks leaseE S w news xs ∧ Below w.heap.size w w' := by
  have h0 := h
  obtain ⟨A, c, rfl, hl, hc, _⟩ := h0
  obtain ⟨news, hch, hcell⟩ := h.flat (by decide)
  have hone : ∀ u ∈ news, u.oneCell' = true := chunks_one (fun h => one_lease h) hch
  obtain ⟨i0, hi, hz0, hz1, hz2⟩ := info_parts info_lease
  have q22 : ∀ (w : World) (a : Option Addr) (n c n' c' : Nat), (binOp .eql 104 (.slice a n c) (.slice none n' c')).run Try.prog w = .ok (.bool a.isNone) w := fun w a n c n' c' => Lib.run_eql_slice_nil w _ _ a n c n' c' Try.underlying104
  cases A with
  | none =>
    have hx : xs = [] := by
      apply Classical.byContradiction; intro hne
      obtain ⟨b, off, e, _⟩ := hcell hne
      cases e
    subst hx
    have hn : news = [] := List.eq_nil_of_length_eq_zero (by rw [hch.1]; simp)
    subst hn
    clear hone hch hcell h hbig hl hc hi hz0 hz1 hz2
    go_enter Try.func95, Try.ntmps95
    go_wp2
    go_ret
    exact ⟨.slice none 0 0, [], rfl, World.ownsRow_nil _ _ _ _, Chunks.nil, Below.refl _ _⟩
  | some ad =>
    obtain ⟨b, off, sp⟩ := ad
    have hcell2 : ∀ j u, news[j]? = some u → w.cell? ((⟨b, off, sp⟩ : Addr).add j) = some u := by
      intro j u hu
      by_cases hx : xs = []
      · subst hx
        have hn : news = [] := List.eq_nil_of_length_eq_zero (by rw [hch.1]; simp)
        subst hn
        simp at hu
      · obtain ⟨b', off', e, _, hcc⟩ := hcell hx
        simp only [Option.some.injEq, Addr.mk.injEq] at e
        obtain ⟨rfl, rfl, rfl⟩ := e
        rw [Addr.add_lit]
        exact hcc j u hu
    have HC := Lib.hid hcell2
    have HN := Lib.hid hone
    have HH := Lib.hid hch
    have hbl := hbig
    clear hcell2 hcell hone hch h hl
    go_enter Try.func95, Try.ntmps95
    go_wp2_with (at_builtin; refine wpList_append_own _ rfl _ _ 104 rfl w.heap.size 156 i0 (.agg #[.int .i64 0, .int .i64 0]) 2 16 Try.underlying104 hi hz0 hz1 hz2 rfl (by decide) _ _ _ rfl (World.ownsRow_made w #[] 0 (Nat.le_refl _) (Nat.zero_le _) (by simp)) ⟨b, off, sp⟩ xs.length c news rfl ?qc1 ?qc2 ?qc3 ?qc4 ?qc5 ?qc6 ?_)
    case qc1 => exact HH.out.1
    case qc2 => exact fun j u hu => Lib.cell?_alloc_some _ (HC.out j u hu)
    case qc3 => exact HN.out
    case qc4 => simp only [maxLen]; omega
    case qc5 => rw [Nat.zero_add]; exact hbig
    case qc6 => simp
    intro v' w1 hown hgrow hnil
    go_wp2
    go_ret
    exact ⟨v', news, rfl, by simpa using hown, HH.out, ((Below.refl _ w).alloc (Nat.le_refl _) _).grown hgrow (by simp) (by intro k hk; simp [Value.ownBlock] at hk; omega)⟩


set_option maxHeartbeats 1000000 in
theorem clone_row (S : Bs) (v : Value) (xs : List RowV) (w : World) (h : Sl rowE S w v xs) (hbig : xs.length * 48 ≤ 140737488355328) :
    Calls Try.prog 94 #[v] w fun e w' => ∃ v' news, e = .returned v' ∧ w'.ownsRow w.heap.size 106 4 v' xs.length news ∧ Chunks rowE S w news xs ∧ Below w.heap.size w w' := by
  have h0 := h
  obtain ⟨A, c, rfl, hl, hc, _⟩ := h0
  obtain ⟨news, hch, hcell⟩ := h.flat (by decide)
  have hone : ∀ u ∈ news, u.oneCell' = true := chunks_one (fun h => one_row h) hch
  obtain ⟨i0, hi, hz0, hz1, hz2⟩ := info_parts info_row
  have q22 : ∀ (w : World) (a : Option Addr) (n c n' c' : Nat), (binOp .eql 25 (.slice a n c) (.slice none n' c')).run Try.prog w = .ok (.bool a.isNone) w := fun w a n c n' c' => Lib.run_eql_slice_nil w _ _ a n c n' c' Try.underlying25
  cases A with
  | none =>
    have hx : xs = [] := by
      apply Classical.byContradiction; intro hne
      obtain ⟨b, off, e, _⟩ := hcell hne
      cases e
    subst hx
    have hn : news = [] := List.eq_nil_of_length_eq_zero (by rw [hch.1]; simp)
    subst hn
    clear hone hch hcell h hbig hl hc hi hz0 hz1 hz2
    go_enter Try.func94, Try.ntmps94
    go_wp2
    go_ret
    exact ⟨.slice none 0 0, [], rfl, World.ownsRow_nil _ _ _ _, Chunks.nil, Below.refl _ _⟩
  | some ad =>
    obtain ⟨b, off, sp⟩ := ad
    have hcell2 : ∀ j u, news[j]? = some u → w.cell? ((⟨b, off, sp⟩ : Addr).add j) = some u := by
      intro j u hu
      by_cases hx : xs = []
      · subst hx
        have hn : news = [] := List.eq_nil_of_length_eq_zero (by rw [hch.1]; simp)
        subst hn
        simp at hu
      · obtain ⟨b', off', e, _, hcc⟩ := hcell hx
        simp only [Option.some.injEq, Addr.mk.injEq] at e
        obtain ⟨rfl, rfl, rfl⟩ := e
        rw [Addr.add_lit]
        exact hcc j u hu
    have HC := Lib.hid hcell2
    have HN := Lib.hid hone
    have HH := Lib.hid hch
    have hbl := hbig
    clear hcell2 hcell hone hch h hl
    go_enter Try.func94, Try.ntmps94
    go_wp2_with (at_builtin; refine wpList_append_own _ rfl _ _ 25 rfl w.heap.size 106 i0 (.agg #[.int .i64 0, .int .i64 0, .int .i64 0, .slice none 0 0]) 4 48 Try.underlying25 hi hz0 hz1 hz2 rfl (by decide) _ _ _ rfl (World.ownsRow_made w #[] 0 (Nat.le_refl _) (Nat.zero_le _) (by simp)) ⟨b, off, sp⟩ xs.length c news rfl ?qc1 ?qc2 ?qc3 ?qc4 ?qc5 ?qc6 ?_)
    case qc1 => exact HH.out.1
    case qc2 => exact fun j u hu => Lib.cell?_alloc_some _ (HC.out j u hu)
    case qc3 => exact HN.out
    case qc4 => simp only [maxLen]; omega
    case qc5 => rw [Nat.zero_add]; exact hbig
    case qc6 => simp
    intro v' w1 hown hgrow hnil
    go_wp2
    go_ret
    exact ⟨v', news, rfl, by simpa using hown, HH.out, ((Below.refl _ w).alloc (Nat.le_refl _) _).grown hgrow (by simp) (by intro k hk; simp [Value.ownBlock] at hk; omega)⟩


end Go.Proofs.Ytpbicdbicikniaa
