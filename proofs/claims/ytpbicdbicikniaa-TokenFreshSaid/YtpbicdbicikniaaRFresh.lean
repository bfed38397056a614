/- The reference's Fresh. -/
import Derived.Test.YtpbicdbicikniaaFresh
import Derived.Test.YtpbicdbicikniaaRef5
import Derived.Deep.AppendLies
namespace Go.Proofs.Ytpbicdbicikniaa
open Go.RowKit
set_option linter.unusedVariables false
set_option maxRecDepth 100000

/-- The stamps, one after the other. -/
def rst (node now : Int) (k : Nat) : List Int := (List.range k).map fun (i : Nat) => if (i : Int) = node then now else -1
theorem rst_length (node now : Int) (k : Nat) : (rst node now k).length = k := by simp [rst]
theorem rst_succ (node now : Int) (k : Nat) : rst node now (k + 1) = rst node now k ++ [if (k : Int) = node then now else -1] := by simp [rst, List.range_succ]
theorem rst_i64 (node now : Int) (k : Nat) (h : I64 now) : ∀ x ∈ rst node now k, I64 x := by
  intro x hx
  simp only [rst, List.mem_map, List.mem_range] at hx
  obtain ⟨i, _, rfl⟩ := hx
  split
  · exact h
  · unfold I64; omega
def rT (gen : Int) (n : Nat) (node now : Int) : TokenV := ⟨gen, 0, rst node now n, ⟨now, []⟩⟩
theorem rst_set (n m : Nat) (now : Int) : rst (m : Int) now n = (List.replicate n (-1)).set m now := by
  apply List.ext_getElem (by simp [rst])
  intro i h1 h2
  simp only [rst, List.getElem_map, List.getElem_range, List.getElem_set, List.getElem_replicate]
  by_cases e : m = i
  · subst e; simp
  · rw [if_neg e, if_neg (by omega)]
theorem freshB_r (gen : Int) (n : Nat) (node now : Int) (h1 : 1 ≤ n) (h2 : n ≤ 64) (h3 : 0 ≤ node) (h4 : node < n) : freshB gen n node now = (tokenB (rT gen n node now) && decide (0 ≤ now)) := by
  obtain ⟨m, rfl⟩ := Int.eq_ofNat_of_zero_le h3
  have hn : inB (n : Int) 1 64 = true := by unfold inB; simp; omega
  have hsl : (freshN gen n now).stamps.length = n := by simp [freshN]
  unfold freshB
  rw [hn, Bool.true_and]
  by_cases c1 : now < 0
  · have e1 : stampB (freshN gen n now) m now = false := by unfold stampB; simp; omega
    have e2 : decide (0 ≤ now) = false := by simp; omega
    rw [e1, e2]; simp
  by_cases c2 : 4611686018427387904 ≤ now
  · have e1 : stampB (freshN gen n now) m now = false := by unfold stampB; simp; omega
    have e2 : tokenB (rT gen n m now) = false := by
      unfold tokenB
      have : ((rT gen n m now).stamps.any fun x => !inB x (-1) 4611686018427387903) = true := by
        rw [List.any_eq_true]
        refine ⟨now, ?_, ?_⟩
        · show now ∈ rst (m : Int) now n
          simp only [rst, List.mem_map, List.mem_range]
          exact ⟨m, by omega, by simp⟩
        · unfold inB; simp; omega
      rw [this]; simp
    rw [e1, e2]; simp
  · have e1 : stampB (freshN gen n now) m now = true := by unfold stampB; rw [hsl]; simp; omega
    have e2 : decide (0 ≤ now) = true := by simp; omega
    rw [e1, e2, Bool.true_and, Bool.and_true]
    congr 1
    unfold stampT
    rw [e1, if_pos rfl]
    unfold rT freshN
    rw [rst_set]
    simp
theorem freshT_r (gen : Int) (n : Nat) (node now : Int) (h1 : 1 ≤ n) (h2 : n ≤ 64) (h3 : 0 ≤ node) (h4 : node < n) (h : freshB gen n node now = true) : freshT gen n node now = rT gen n node now := by
  obtain ⟨m, rfl⟩ := Int.eq_ofNat_of_zero_le h3
  have hb := h
  unfold freshT
  rw [h, if_pos rfl]
  unfold freshB at hb
  simp only [Bool.and_eq_true] at hb
  unfold stampT
  rw [hb.2.1, if_pos rfl]
  unfold rT freshN
  rw [rst_set]
  simp

set_option maxHeartbeats 2000000 in
theorem rfresh_c (gen n node now : Int) (w : World) (hg : I64 gen) (hn : I64 n) (hd : I64 node) (ht : I64 now) :
    Calls Try.prog 9 #[.int .i64 gen, .int .i64 n, .int .i64 node, .int .i64 now] w fun e w' => ∃ v', e = .returned (.tuple #[v', .int .i64 (freshE gen n node now)]) ∧ TokR (plus (fun _ => False) w w') w' v' (freshT gen n node now) ∧ Below w.heap.size w w' := by
  by_cases h1 : n < 1
  · have HF := Lib.hid (show freshB gen n node now = false from by unfold freshB; rw [show inB n 1 64 = false from by unfold inB; simp; omega]; rfl)
    go_enter Try.func9, Try.ntmps9
    go_wp2_with fail
    refine bodyPost_ret (v := .tuple #[.agg tokZ, .int .i64 1]) (by simp only [results, Try.results9]; go_simp) rfl ⟨_, by unfold freshE; rw [HF.out]; rfl, by unfold freshT; rw [HF.out]; exact tok0_r, (by repeat (with_reducible first | assumption | exact Below.refl _ _ | apply bel_alloc | apply bel_drew | apply bel_drewN | (refine bel_set ?_ (by simp; try omega) _)))⟩
  by_cases h2 : 64 < n
  · have HF := Lib.hid (show freshB gen n node now = false from by unfold freshB; rw [show inB n 1 64 = false from by unfold inB; simp; omega]; rfl)
    go_enter Try.func9, Try.ntmps9
    go_wp2_with fail
    refine bodyPost_ret (v := .tuple #[.agg tokZ, .int .i64 1]) (by simp only [results, Try.results9]; go_simp) rfl ⟨_, by unfold freshE; rw [HF.out]; rfl, by unfold freshT; rw [HF.out]; exact tok0_r, (by repeat (with_reducible first | assumption | exact Below.refl _ _ | apply bel_alloc | apply bel_drew | apply bel_drewN | (refine bel_set ?_ (by simp; try omega) _)))⟩
  by_cases h3 : node < 0
  · have HF := Lib.hid (show freshB gen n node now = false from by unfold freshB; rw [show stampB (freshN gen n now) node now = false from by unfold stampB; simp; omega]; simp)
    go_enter Try.func9, Try.ntmps9
    go_wp2_with fail
    refine bodyPost_ret (v := .tuple #[.agg tokZ, .int .i64 1]) (by simp only [results, Try.results9]; go_simp) rfl ⟨_, by unfold freshE; rw [HF.out]; rfl, by unfold freshT; rw [HF.out]; exact tok0_r, (by repeat (with_reducible first | assumption | exact Below.refl _ _ | apply bel_alloc | apply bel_drew | apply bel_drewN | (refine bel_set ?_ (by simp; try omega) _)))⟩
  obtain ⟨m, rfl⟩ := Int.eq_ofNat_of_zero_le (show 0 ≤ n by omega)
  by_cases h4 : (m : Int) ≤ node
  · have HF := Lib.hid (show freshB gen m node now = false from by unfold freshB; rw [show stampB (freshN gen m now) node now = false from by unfold stampB freshN; simp; omega]; simp)
    go_enter Try.func9, Try.ntmps9
    go_wp2_with fail
    refine bodyPost_ret (v := .tuple #[.agg tokZ, .int .i64 1]) (by simp only [results, Try.results9]; go_simp) rfl ⟨_, by unfold freshE; rw [HF.out]; rfl, by unfold freshT; rw [HF.out]; exact tok0_r, (by repeat (with_reducible first | assumption | exact Below.refl _ _ | apply bel_alloc | apply bel_drew | apply bel_drewN | (refine bel_set ?_ (by simp; try omega) _)))⟩
  obtain ⟨i0, hi, hz0, hz1, hz2⟩ := info_parts info_int
  have HFB := Lib.hid (freshB_r gen m node now (by omega) (by omega) (by omega) (by omega))
  have HFT := Lib.hid (freshT_r gen m node now (by omega) (by omega) (by omega) (by omega))
  obtain ⟨X, hX⟩ : ∃ X, X = #[Value.int .i64 gen, Value.int .i64 0, Value.slice none 0 0, Value.int .i64 now, Value.slice none 0 0] := ⟨_, rfl⟩
  have HK0 := Lib.hid ((blk_new w tokZ 29).alloc (.cells X 29))
  have HL0 := Lib.hid (show Blk ((w.alloc (.cells tokZ 29)).alloc (.cells X 29)) (w.heap.size + 1) X 29 from by have := blk_new (w.alloc (.cells tokZ 29)) X 29; rw [World.size_alloc] at this; exact this)
  have HB0 := Lib.hid (bel_alloc (o := .cells X 29) (bel_alloc (o := .cells tokZ 29) (Below.refl w.heap.size w)))
  have HO0 := Lib.hid (World.ownsRow_nil ((w.alloc (.cells tokZ 29)).alloc (.cells X 29)) (w.heap.size + 2) 3 1)
  subst hX
  go_enter Try.func9, Try.ntmps9
  go_wp2_with fail
  go_loopw [11] (fun iv wr => ∃ (k : Nat) (Ax : Option Addr) (cx : Nat), k ≤ m ∧ iv = .int .i64 k ∧ As (wr.ownsRow (w.heap.size + 2) 3 1 (.slice Ax k cx) k ((rst node now k).map (Value.int .i64))) ∧
      As (Blk wr w.heap.size tokZ 29) ∧ As (Blk wr (w.heap.size + 1) #[.int .i64 gen, .int .i64 0, .slice Ax k cx, .int .i64 now, .slice none 0 0] 29) ∧ As (Below w.heap.size w wr)) (fun iv _ => m - (intOf iv).toNat)
  case atStart => exact ⟨0, none, 0, Nat.zero_le _, rfl, ⟨HO0.out⟩, ⟨HK0.out⟩, ⟨HL0.out⟩, ⟨HB0.out⟩⟩
  case round =>
    obtain ⟨k, Ax, cx, hk, rfl, ⟨ho⟩, ⟨hb8⟩, ⟨hb10⟩, ⟨hbl⟩⟩ := hrel
    have HM1 := Lib.hid (show k + 1 ≤ maxLen from by simp only [maxLen]; omega)
    have HM2 := Lib.hid (show (k + 1) * 8 ≤ 140737488355328 from by omega)
    have hlow := ho.lt
    have HN10 := Lib.hid (show some (w.heap.size + 1) ≠ (Value.slice Ax k cx).ownBlock from fun e => by have := (hlow _ e.symm).1; omega)
    have HN8 := Lib.hid (show some w.heap.size ≠ (Value.slice Ax k cx).ownBlock from fun e => by have := (hlow _ e.symm).1; omega)
    have HNB := Lib.hid (show ∀ b, b < w.heap.size → some b ≠ (Value.slice Ax k cx).ownBlock from fun b hb e => by have := (hlow _ e.symm).1; omega)
    have HS2 := Lib.hid (show w.heap.size + 2 ≤ wr.heap.size from by have := hb10.lt; omega)
    have HO := Lib.hid ho
    have HK8 := Lib.hid hb8
    have HK10 := Lib.hid hb10
    have HBL := Lib.hid hbl
    have q0 := hb10.cell 0 _ rfl; have q1 := hb10.cell 1 _ rfl; have q2 := hb10.cell 2 _ rfl; have q3 := hb10.cell 3 _ rfl; have q4 := hb10.cell 4 _ rfl; have qf := hb10.frozen
    clear hlow ho hb8 hb10 hbl
    by_cases hlt : k < m
    · by_cases he : (k : Int) = node
      · have q9 : ((k : Int) == node) = true := by simpa using he
        have HY := Lib.hid (show rst node now (k + 1) = rst node now k ++ [now] from by rw [rst_succ, if_pos he])
        clear he
        go_wp2_with (at_builtin; refine wpList_append_lies _ rfl _ _ 24 rfl (w.heap.size + 2) 3 i0 (.int .i64 0) 1 8 Try.underlying24 hi hz0 hz1 hz2 rfl (by decide) _ k _ rfl (HO.out.alloc _) ⟨_, 0, none⟩ 1 1 [.int .i64 (now)] rfl rfl (cell_one_new _ _ _) (by simp [Value.oneCell']) Nat.one_pos HM1.out HM2.out (by have := HS2.out; rw [World.size_alloc]; omega) _ rfl ?_; intro g cap w1 hown hgrow hat hlt1; have HO1 := Lib.hid hown; have HG1 := Lib.hid hgrow; have HK1 := Lib.hid ((HK10.out.alloc (.cells #[.int .i64 (now)] 3)).keep (hgrow.block _ (by have := HS2.out; rw [World.size_alloc]; omega) HN10.out)); have HK8' := Lib.hid ((HK8.out.alloc (.cells #[.int .i64 (now)] 3)).keep (hgrow.block _ (by have := HS2.out; rw [World.size_alloc]; omega) HN8.out)); have HB1 := Lib.hid (show Below w.heap.size w w1 from (bel_alloc HBL.out).trans ⟨hgrow.os, hgrow.tape, hgrow.output, hgrow.size, fun b hb => hgrow.block b (by have := HS2.out; rw [World.size_alloc]; omega) (HNB.out b hb)⟩); have B1 := HK1.out; clear q0 q1 q2 q3 q4 qf; have q0 := B1.cell 0 _ rfl; have q1 := B1.cell 1 _ rfl; have q2 := B1.cell 2 _ rfl; have q3 := B1.cell 3 _ rfl; have q4 := B1.cell 4 _ rfl; have qf := B1.frozen; clear B1 hown hgrow hat)
        go_roundw
        case rel =>
          have hne : ∀ b, b ≠ w.heap.size + 1 → (w1.setCell ⟨w.heap.size + 1, 2, none⟩ (.slice (some ⟨g, 0, none⟩) (k + 1) cap)).heap[b]? = w1.heap[b]? := fun b hb => Below.heap_setCell _ _ _ _ hb
          refine ⟨k + 1, some ⟨g, 0, none⟩, cap, by omega, by go_num, ⟨?_⟩, ⟨HK8'.out.keep (hne _ (by omega))⟩, ⟨HK1.out.set 2 _⟩, ⟨bel_set HB1.out (by simp) _⟩⟩
          rw [HY.out, List.map_append]
          exact owned_keep HO1.out fun g' hg' => hne _ (by have := (HO1.out.lt g' hg').1; omega)
        case measure => simp [intOf]; omega
      · have q9 : ((k : Int) == node) = false := by simpa using he
        have HY := Lib.hid (show rst node now (k + 1) = rst node now k ++ [-1] from by rw [rst_succ, if_neg he])
        clear he
        go_wp2_with (at_builtin; refine wpList_append_lies _ rfl _ _ 24 rfl (w.heap.size + 2) 3 i0 (.int .i64 0) 1 8 Try.underlying24 hi hz0 hz1 hz2 rfl (by decide) _ k _ rfl (HO.out.alloc _) ⟨_, 0, none⟩ 1 1 [.int .i64 (-1)] rfl rfl (cell_one_new _ _ _) (by simp [Value.oneCell']) Nat.one_pos HM1.out HM2.out (by have := HS2.out; rw [World.size_alloc]; omega) _ rfl ?_; intro g cap w1 hown hgrow hat hlt1; have HO1 := Lib.hid hown; have HG1 := Lib.hid hgrow; have HK1 := Lib.hid ((HK10.out.alloc (.cells #[.int .i64 (-1)] 3)).keep (hgrow.block _ (by have := HS2.out; rw [World.size_alloc]; omega) HN10.out)); have HK8' := Lib.hid ((HK8.out.alloc (.cells #[.int .i64 (-1)] 3)).keep (hgrow.block _ (by have := HS2.out; rw [World.size_alloc]; omega) HN8.out)); have HB1 := Lib.hid (show Below w.heap.size w w1 from (bel_alloc HBL.out).trans ⟨hgrow.os, hgrow.tape, hgrow.output, hgrow.size, fun b hb => hgrow.block b (by have := HS2.out; rw [World.size_alloc]; omega) (HNB.out b hb)⟩); have B1 := HK1.out; clear q0 q1 q2 q3 q4 qf; have q0 := B1.cell 0 _ rfl; have q1 := B1.cell 1 _ rfl; have q2 := B1.cell 2 _ rfl; have q3 := B1.cell 3 _ rfl; have q4 := B1.cell 4 _ rfl; have qf := B1.frozen; clear B1 hown hgrow hat)
        go_roundw
        case rel =>
          have hne : ∀ b, b ≠ w.heap.size + 1 → (w1.setCell ⟨w.heap.size + 1, 2, none⟩ (.slice (some ⟨g, 0, none⟩) (k + 1) cap)).heap[b]? = w1.heap[b]? := fun b hb => Below.heap_setCell _ _ _ _ hb
          refine ⟨k + 1, some ⟨g, 0, none⟩, cap, by omega, by go_num, ⟨?_⟩, ⟨HK8'.out.keep (hne _ (by omega))⟩, ⟨HK1.out.set 2 _⟩, ⟨bel_set HB1.out (by simp) _⟩⟩
          rw [HY.out, List.map_append]
          exact owned_keep HO1.out fun g' hg' => hne _ (by have := (HO1.out.lt g' hg').1; omega)
        case measure => simp [intOf]; omega
    · obtain rfl : k = m := by omega
      have HT := Lib.hid (show TokR (fun b => w.heap.size + 2 ≤ b ∧ b < wr.heap.size) wr (.agg #[.int .i64 gen, .int .i64 0, .slice Ax k cx, .int .i64 now, .slice none 0 0]) (rT gen k node now) from by
        refine ⟨_, _, rfl, hg, by unfold I64 rT; simp, ht, ?_, Sl.nil⟩
        have hl := rst_length node now k
        have h2 := sl_of_ints (xs := rst node now k) (by rw [hl]; exact HO.out) (rst_i64 node now k ht)
        exact (h2.sub (T := fun b => w.heap.size + 2 ≤ b) (fun b hb => (HO.out.lt b hb).1)).fit (by decide))
      have HTK := Lib.hid (rtoken0_c _ _ _ _ HT.out rfl)
      have hq8 := HK8.out
      have r0 := hq8.cell 0 _ rfl; have r1 := hq8.cell 1 _ rfl; have r2 := hq8.cell 2 _ rfl; have r3 := hq8.cell 3 _ rfl; have r4 := hq8.cell 4 _ rfl; have rf := hq8.frozen
      clear hq8
      cases hq : tokenB (rT gen k node now)
      · have HF := Lib.hid (show freshB gen k node now = false from by rw [HFB.out, hq]; rfl)
        rw [hq] at HTK
        go_upto_region 11 with ((go_at_call 48; refine HTK.out.mono ?_; rintro e w4 ⟨rfl, hb4⟩; have B1 := HK8.out.below hb4; clear r0 r1 r2 r3 r4 rf; have r0 := B1.cell 0 _ rfl; have r1 := B1.cell 1 _ rfl; have r2 := B1.cell 2 _ rfl; have r3 := B1.cell 3 _ rfl; have r4 := B1.cell 4 _ rfl; have rf := B1.frozen; have HB4 := Lib.hid (bel_trans HBL.out hb4); clear hb4 B1))
        go_wp2_with fail
        refine bodyPost_ret (v := .tuple #[.agg tokZ, .int .i64 1]) (by simp only [results, Try.results9]; go_simp) rfl ⟨_, by unfold freshE; rw [HF.out]; rfl, by unfold freshT; rw [HF.out]; exact tok0_r, ?_⟩
        repeat (with_reducible first | exact HB4.out | (refine Below.setCell ?_ (by simp) _))
      rw [hq] at HTK
      by_cases hw : now < 0
      · have HF := Lib.hid (show freshB gen k node now = false from by rw [HFB.out, hq]; simp; omega)
        go_upto_region 11 with ((go_at_call 48; refine HTK.out.mono ?_; rintro e w4 ⟨rfl, hb4⟩; have B1 := HK8.out.below hb4; clear r0 r1 r2 r3 r4 rf; have r0 := B1.cell 0 _ rfl; have r1 := B1.cell 1 _ rfl; have r2 := B1.cell 2 _ rfl; have r3 := B1.cell 3 _ rfl; have r4 := B1.cell 4 _ rfl; have rf := B1.frozen; have HB4 := Lib.hid (bel_trans HBL.out hb4); clear hb4 B1))
        go_wp2_with fail
        refine bodyPost_ret (v := .tuple #[.agg tokZ, .int .i64 1]) (by simp only [results, Try.results9]; go_simp) rfl ⟨_, by unfold freshE; rw [HF.out]; rfl, by unfold freshT; rw [HF.out]; exact tok0_r, ?_⟩
        repeat (with_reducible first | exact HB4.out | (refine Below.setCell ?_ (by simp) _))
      · have HF := Lib.hid (show freshB gen k node now = true from by rw [HFB.out, hq]; simp; omega)
        have HG := Lib.hid (HFT.out HF.out)
        go_upto_region 11 with ((go_at_call 48; refine HTK.out.mono ?_; rintro e w4 ⟨rfl, hb4⟩; have B1 := HK8.out.below hb4; have B2 := HK10.out.below hb4; clear r0 r1 r2 r3 r4 rf q0 q1 q2 q3 q4 qf; have r0 := B1.cell 0 _ rfl; have r1 := B1.cell 1 _ rfl; have r2 := B1.cell 2 _ rfl; have r3 := B1.cell 3 _ rfl; have r4 := B1.cell 4 _ rfl; have rf := B1.frozen; have q0 := B2.cell 0 _ rfl; have q1 := B2.cell 1 _ rfl; have q2 := B2.cell 2 _ rfl; have q3 := B2.cell 3 _ rfl; have q4 := B2.cell 4 _ rfl; have qf := B2.frozen; have HB4 := Lib.hid (bel_trans HBL.out hb4); have HT4 := Lib.hid (HT.out.below hb4); clear hb4 B1 B2))
        go_wp2_with fail
        refine bodyPost_ret (v := .tuple #[.agg #[.int .i64 gen, .int .i64 0, .slice Ax k cx, .int .i64 now, .slice none 0 0], .int .i64 0]) (by simp only [results, Try.results9]; go_simp) rfl ⟨_, by unfold freshE; rw [HF.out]; rfl, ?_, ?_⟩
        · rw [HG.out]
          refine ((TokR.mono (fun b hb _ => ?_) HT4.out).fit).sub fun b hb => Or.inr ⟨by have := hb.1.1; omega, hb.2⟩
          have hne : b ≠ w.heap.size := by have := hb.1; omega
          repeat rw [Below.heap_setCell _ _ _ _ hne]
        · repeat (with_reducible first | exact HB4.out | (refine Below.setCell ?_ (by simp) _))
end Go.Proofs.Ytpbicdbicikniaa
