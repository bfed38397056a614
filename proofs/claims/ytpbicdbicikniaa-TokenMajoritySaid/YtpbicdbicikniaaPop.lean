/- The bits of a word, counted as math/bits does it. Plain Lean. -/
import Derived.Test.YtpbicdbicikniaaNum
namespace Go.Proofs.Ytpbicdbicikniaa
set_option linter.unusedVariables false

/-- How many of the first k bits are set. -/
def pcN : Nat → Nat → Nat
  | 0, _ => 0
  | k + 1, x => x % 2 + pcN k (x / 2)
theorem pcN_add (a b : Nat) : ∀ x, pcN (a + b) x = pcN a x + pcN b (x / 2 ^ a) := by
  induction a with
  | zero => intro x; simp [pcN]
  | succ a ih =>
    intro x
    rw [show a + 1 + b = (a + b) + 1 by omega]
    simp only [pcN]
    rw [ih (x / 2), Nat.div_div_eq_div_mul, Nat.pow_succ, Nat.mul_comm 2]
    omega
theorem pcN_mod (a : Nat) : ∀ x, pcN a x = pcN a (x % 2 ^ a) := by
  induction a with
  | zero => intro x; rfl
  | succ a ih =>
    intro x
    simp only [pcN]
    rw [ih (x / 2), Nat.pow_succ, Nat.mul_comm]
    rw [show x % (2 * 2 ^ a) / 2 = x / 2 % 2 ^ a from Nat.mod_mul_right_div_self ..]
    rw [Nat.mod_mul_right_mod]

def rep (k : Nat) : Nat → Nat
  | 0 => 0
  | n + 1 => k + 256 * rep k n
theorem rep_succ (k n : Nat) : rep k (n + 1) = k + 256 * rep k n := rfl
theorem and_split (a m M : Nat) (hm : m < 256) : a &&& (m + 256 * M) = ((a % 256) &&& m) + 256 * ((a / 256) &&& M) := by
  have h1 : (a &&& (m + 256 * M)) % 2 ^ 8 = (a % 256) &&& m := by
    rw [Nat.and_mod_two_pow]
    congr 1
    show (m + 256 * M) % 256 = m
    omega
  have h2 : (a &&& (m + 256 * M)) / 2 ^ 8 = (a / 256) &&& M := by
    rw [Nat.and_div_two_pow]
    congr 1
    show (m + 256 * M) / 256 = M
    omega
  omega

def step1 (n x : Nat) : Nat := ((x / 2) &&& rep 0x55 n) + (x &&& rep 0x55 n)
def step2 (n x : Nat) : Nat := ((x / 4) &&& rep 0x33 n) + (x &&& rep 0x33 n)
def step3 (n x : Nat) : Nat := (x / 16 + x) &&& rep 0x0f n
def s1 (b : Nat) : Nat := ((b / 2) &&& 0x55) + (b &&& 0x55)
def s2 (b : Nat) : Nat := ((b / 4) &&& 0x33) + (b &&& 0x33)
theorem msk1 : ∀ (c : Fin 128) (t : Fin 2), (c.val + 128 * t.val) &&& 0x55 = c.val &&& 0x55 := by decide +kernel
theorem msk2 : ∀ (c : Fin 64) (t : Fin 4), (c.val + 64 * t.val) &&& 0x33 = c.val &&& 0x33 := by decide +kernel
theorem step1_succ (n x : Nat) : step1 (n + 1) x = s1 (x % 256) + 256 * step1 n (x / 256) := by
  unfold step1 s1
  rw [rep_succ, and_split _ _ _ (by decide), and_split _ _ _ (by decide)]
  have e1 : x / 2 % 256 = x % 256 / 2 + 128 * (x / 256 % 2) := by omega
  have e2 : x / 2 / 256 = x / 256 / 2 := by omega
  rw [e1, e2]
  have := msk1 ⟨x % 256 / 2, by omega⟩ ⟨x / 256 % 2, by omega⟩
  simp only at this
  rw [this]
  omega
theorem step2_succ (n x : Nat) : step2 (n + 1) x = s2 (x % 256) + 256 * step2 n (x / 256) := by
  unfold step2 s2
  rw [rep_succ, and_split _ _ _ (by decide), and_split _ _ _ (by decide)]
  have e1 : x / 4 % 256 = x % 256 / 4 + 64 * (x / 256 % 4) := by omega
  have e2 : x / 4 / 256 = x / 256 / 4 := by omega
  rw [e1, e2]
  have := msk2 ⟨x % 256 / 4, by omega⟩ ⟨x / 256 % 4, by omega⟩
  simp only at this
  rw [this]
  omega
theorem and15 (a : Nat) : a &&& 0x0f = a % 16 := Nat.and_two_pow_sub_one_eq_mod a 4
theorem step3_succ (n x : Nat) (h1 : x % 256 ≤ 68) (h2 : x / 256 % 16 ≤ 4) : step3 (n + 1) x = (x % 256 / 16 + x % 256) % 16 + 256 * step3 n (x / 256) := by
  unfold step3
  rw [rep_succ, and_split _ _ _ (by decide), and15]
  have e2 : (x / 16 + x) / 256 = x / 256 / 16 + x / 256 := by omega
  rw [e2]
  have e1 : (x / 16 + x) % 256 % 16 = (x % 256 / 16 + x % 256) % 16 := by omega
  rw [e1]
theorem byte1 : ∀ b : Fin 256, s1 b.val < 256 ∧ s2 (s1 b.val) ≤ 68 ∧ s2 (s1 b.val) % 16 ≤ 4 ∧ (s2 (s1 b.val) / 16 + s2 (s1 b.val)) % 16 = pcN 8 b.val := by decide +kernel
theorem byte2 (x : Nat) : s1 (x % 256) < 256 ∧ s2 (s1 (x % 256)) ≤ 68 ∧ s2 (s1 (x % 256)) % 16 ≤ 4 ∧ (s2 (s1 (x % 256)) / 16 + s2 (s1 (x % 256))) % 16 = pcN 8 x := by
  have := byte1 ⟨x % 256, by omega⟩
  rw [pcN_mod 8 x]
  exact this
/-- The bytes' counts, one beside the other. -/
def cnts : Nat → Nat → Nat
  | 0, _ => 0
  | n + 1, x => pcN 8 x + 256 * cnts n (x / 256)
theorem step12 (n x : Nat) : step2 (n + 1) (step1 (n + 1) x) = s2 (s1 (x % 256)) + 256 * step2 n (step1 n (x / 256)) := by
  have hb := byte2 x
  rw [step2_succ, step1_succ]
  have e1 : (s1 (x % 256) + 256 * step1 n (x / 256)) % 256 = s1 (x % 256) := by omega
  have e2 : (s1 (x % 256) + 256 * step1 n (x / 256)) / 256 = step1 n (x / 256) := by omega
  rw [e1, e2]
theorem step12_mod (n x : Nat) : step2 n (step1 n x) % 16 ≤ 4 := by
  cases n with
  | zero => simp [step2, rep]
  | succ n =>
    rw [step12]
    have hb := byte2 x
    omega
theorem step_cnts (n : Nat) : ∀ x, step3 n (step2 n (step1 n x)) = cnts n x := by
  induction n with
  | zero => intro x; simp [step3, rep, cnts]
  | succ n ih =>
    intro x
    have hb := byte2 x
    have hm := step12_mod n (x / 256)
    rw [step12]
    have e1 : (s2 (s1 (x % 256)) + 256 * step2 n (step1 n (x / 256))) % 256 = s2 (s1 (x % 256)) := by omega
    have e2 : (s2 (s1 (x % 256)) + 256 * step2 n (step1 n (x / 256))) / 256 = step2 n (step1 n (x / 256)) := by omega
    rw [step3_succ _ _ (by rw [e1]; exact hb.2.1) (by rw [e2]; exact hm), e1, e2, ih, hb.2.2.2]
    rfl
theorem step1_le (n x : Nat) : step1 n x ≤ 2 * rep 0x55 n := by
  unfold step1
  have h1 : (x / 2) &&& rep 0x55 n ≤ rep 0x55 n := Nat.and_le_right
  have h2 : x &&& rep 0x55 n ≤ rep 0x55 n := Nat.and_le_right
  omega
theorem step2_le (n x : Nat) : step2 n x ≤ 2 * rep 0x33 n := by
  unfold step2
  have h1 : (x / 4) &&& rep 0x33 n ≤ rep 0x33 n := Nat.and_le_right
  have h2 : x &&& rep 0x33 n ≤ rep 0x33 n := Nat.and_le_right
  omega
theorem pcN_le (k : Nat) : ∀ x, pcN k x ≤ k := by
  induction k with
  | zero => intro x; exact Nat.le_refl _
  | succ k ih => intro x; simp only [pcN]; have := ih (x / 2); omega
theorem cnts8 (x : Nat) : cnts 8 x = pcN 8 x + 256 * (pcN 8 (x / 256) + 256 * (pcN 8 (x / 256 / 256) + 256 * (pcN 8 (x / 256 / 256 / 256) + 256 * (pcN 8 (x / 256 / 256 / 256 / 256) + 256 * (pcN 8 (x / 256 / 256 / 256 / 256 / 256) + 256 * (pcN 8 (x / 256 / 256 / 256 / 256 / 256 / 256) + 256 * (pcN 8 (x / 256 / 256 / 256 / 256 / 256 / 256 / 256) + 256 * 0))))))) := rfl
theorem sum_bytes {a0 a1 a2 a3 a4 a5 a6 a7 : Nat} (h0 : a0 ≤ 8) (h1 : a1 ≤ 8) (h2 : a2 ≤ 8) (h3 : a3 ≤ 8) (h4 : a4 ≤ 8) (h5 : a5 ≤ 8) (h6 : a6 ≤ 8) (h7 : a7 ≤ 8) (u : Nat)
    (hu : u = a0 + 256 * (a1 + 256 * (a2 + 256 * (a3 + 256 * (a4 + 256 * (a5 + 256 * (a6 + 256 * (a7 + 256 * 0)))))))) :
    u + u / 256 < 18446744073709551616 ∧ (u + u / 256) + (u + u / 256) / 65536 < 18446744073709551616 ∧
    ((u + u / 256) + (u + u / 256) / 65536) + ((u + u / 256) + (u + u / 256) / 65536) / 4294967296 < 9223372036854775808 ∧
    (((u + u / 256) + (u + u / 256) / 65536) + ((u + u / 256) + (u + u / 256) / 65536) / 4294967296) % 128 = a0 + a1 + a2 + a3 + a4 + a5 + a6 + a7 := by
  have hle : u ≤ 578721382704613384 := by omega
  have e1 : u / 256 = a1 + 256 * (a2 + 256 * (a3 + 256 * (a4 + 256 * (a5 + 256 * (a6 + 256 * a7))))) := by omega
  have e1' : u + u / 256 = (a0 + a1) + 256 * ((a1 + a2) + 256 * ((a2 + a3) + 256 * ((a3 + a4) + 256 * ((a4 + a5) + 256 * ((a5 + a6) + 256 * ((a6 + a7) + 256 * a7)))))) := by omega
  have hv : u + u / 256 ≤ 1157442765409226768 := by clear e1 e1' hu; omega
  clear e1 hu hle
  generalize u + u / 256 = v at *
  have e2 : v / 65536 = (a2 + a3) + 256 * ((a3 + a4) + 256 * ((a4 + a5) + 256 * ((a5 + a6) + 256 * ((a6 + a7) + 256 * a7)))) := by omega
  have e2' : v + v / 65536 = (a0 + a1 + a2 + a3) + 256 * ((a1 + a2 + a3 + a4) + 256 * ((a2 + a3 + a4 + a5) + 256 * ((a3 + a4 + a5 + a6) + 256 * ((a4 + a5 + a6 + a7) + 256 * ((a5 + a6 + a7) + 256 * ((a6 + a7) + 256 * a7)))))) := by omega
  have hz : v + v / 65536 ≤ 2314885530818453536 := by clear e2 e2' e1'; omega
  clear e2 e1'
  refine ⟨by clear e2' hz; omega, ?_⟩
  clear hv
  generalize v + v / 65536 = z at *
  have e3 : z / 4294967296 = (a4 + a5 + a6 + a7) + 256 * ((a5 + a6 + a7) + 256 * ((a6 + a7) + 256 * a7)) := by omega
  refine ⟨by clear e2' e3; omega, by clear e2' e3; omega, ?_⟩
  rw [e3]
  generalize ((a1 + a2 + a3 + a4) + 256 * ((a2 + a3 + a4 + a5) + 256 * ((a3 + a4 + a5 + a6) + 256 * ((a4 + a5 + a6 + a7) + 256 * ((a5 + a6 + a7) + 256 * ((a6 + a7) + 256 * a7)))))) = Z1 at e2'
  generalize ((a5 + a6 + a7) + 256 * ((a6 + a7) + 256 * a7)) = Z5
  clear e3 hz
  omega
theorem pc64 (x : Nat) : pcN 64 x = pcN 8 x + pcN 8 (x / 256) + pcN 8 (x / 256 / 256) + pcN 8 (x / 256 / 256 / 256) + pcN 8 (x / 256 / 256 / 256 / 256) + pcN 8 (x / 256 / 256 / 256 / 256 / 256) + pcN 8 (x / 256 / 256 / 256 / 256 / 256 / 256) + pcN 8 (x / 256 / 256 / 256 / 256 / 256 / 256 / 256) := by
  rw [show (64 : Nat) = 8 + (8 + (8 + (8 + (8 + (8 + (8 + 8)))))) from rfl]
  simp only [pcN_add 8, show (2 : Nat) ^ 8 = 256 from rfl]
  omega
theorem pc_bit (k x : Nat) : pcN k x = ((List.range k).filter fun i => x.testBit i).length := by
  induction k with
  | zero => rfl
  | succ k ih =>
    rw [pcN_add k 1, List.range_succ, List.filter_append, List.length_append, ih]
    congr 1
    simp only [pcN]
    cases h : x.testBit k
    · simp [h]
      rw [Nat.testBit_eq_decide_div_mod_eq] at h
      simp at h; omega
    · simp [h]
      rw [Nat.testBit_eq_decide_div_mod_eq] at h
      simpa using h
theorem disjoint_le {p q : Nat → Bool} : ∀ (n : Nat), (∀ i, i < n → ¬ (p i = true ∧ q i = true)) → ((List.range n).filter p).length + ((List.range n).filter q).length ≤ n := by
  intro n
  induction n with
  | zero => intro _; simp
  | succ n ih =>
    intro h
    have := ih (fun i hi => h i (by omega))
    have hn := h n (by omega)
    rw [List.range_succ, List.filter_append, List.filter_append, List.length_append, List.length_append]
    cases hp : p n <;> cases hq : q n <;> simp [hp, hq] at hn ⊢ <;> omega
end Go.Proofs.Ytpbicdbicikniaa
