/- Plain facts on the sum of 32 bits: bit by bit and by a table it is one; one turned byte turns it. -/
namespace Fr

/-- One bit of the sum. -/
def s1 (n : Nat) : Nat := if n % 2 = 1 then (n / 2) ^^^ 3988292384 else n / 2
/-- So many bits. -/
def sk : Nat → Nat → Nat
  | 0, n => n
  | k + 1, n => sk k (s1 n)
/-- One byte, bit by bit. -/
def stepB (n c : Nat) : Nat := sk 8 (n ^^^ c)
/-- One byte, by the table. -/
def stepT (n c : Nat) : Nat := (n / 256) ^^^ sk 8 ((n % 256) ^^^ c)

theorem s1_xor (a b : Nat) : s1 (a ^^^ b) = s1 a ^^^ s1 b := by
  have h1 : (a ^^^ b) % 2 = (a + b) % 2 := by
    have e : ∀ n : Nat, n % 2 = (n.testBit 0).toNat := fun n => by rw [Nat.testBit_zero]; rcases Nat.mod_two_eq_zero_or_one n with h | h <;> simp [h]
    rw [e, Nat.testBit_xor, Nat.add_mod, e a, e b]
    cases a.testBit 0 <;> cases b.testBit 0 <;> rfl
  have h2 : (a ^^^ b) / 2 = a / 2 ^^^ b / 2 := Nat.xor_div_two
  unfold s1
  rw [h1, h2]
  rcases Nat.mod_two_eq_zero_or_one a with ha | ha <;> rcases Nat.mod_two_eq_zero_or_one b with hb | hb
  · rw [if_neg (by omega), if_neg (by omega), if_neg (by omega)]
  · rw [if_pos (by omega), if_neg (by omega), if_pos (by omega), Nat.xor_assoc]
  · rw [if_pos (by omega), if_pos (by omega), if_neg (by omega)]
    rw [Nat.xor_assoc, Nat.xor_assoc, Nat.xor_comm (b / 2)]
  · rw [if_neg (by omega), if_pos (by omega), if_pos (by omega)]
    rw [Nat.xor_assoc, ← Nat.xor_assoc 3988292384, Nat.xor_comm 3988292384, Nat.xor_assoc, Nat.xor_self, Nat.xor_zero]

theorem sk_xor (k : Nat) : ∀ a b, sk k (a ^^^ b) = sk k a ^^^ sk k b := by
  induction k with
  | zero => intro a b; rfl
  | succ k ih => intro a b; simp only [sk]; rw [s1_xor, ih]

theorem s1_two (m : Nat) : s1 (2 * m) = m := by unfold s1; rw [if_neg (by omega)]; omega

theorem sk8_256 (h : Nat) : sk 8 (256 * h) = h := by
  have e : 256 * h = 2 * (2 * (2 * (2 * (2 * (2 * (2 * (2 * h))))))) := by omega
  rw [e]; simp only [sk, s1_two]

theorem split256 (n : Nat) : n = 256 * (n / 256) ^^^ n % 256 := by
  apply Nat.eq_of_testBit_eq
  intro j
  have hm : n % 256 < 2 ^ 8 := Nat.mod_lt _ (by decide)
  have h0 := Nat.testBit_two_pow_mul_add (i := 8) (n / 256) hm j
  have h1 := Nat.testBit_two_pow_mul_add (i := 8) (b := 0) (n / 256) (by decide) j
  simp only [Nat.add_zero, Nat.zero_testBit] at h1
  have e : 2 ^ 8 * (n / 256) + n % 256 = n := by omega
  rw [e] at h0
  rw [Nat.testBit_xor, h0, show (256 : Nat) = 2 ^ 8 from rfl, h1]
  by_cases hj : j < 8
  · simp [hj]
  · have : (n % 2 ^ 8).testBit j = false := Nat.testBit_lt_two_pow (Nat.lt_of_lt_of_le hm (Nat.pow_le_pow_right (by decide) (by omega)))
    simp [hj, this]

theorem stepT_eq (n c : Nat) : stepT n c = stepB n c := by
  unfold stepT stepB
  have h : n ^^^ c = 256 * (n / 256) ^^^ (n % 256 ^^^ c) := by
    rw [← Nat.xor_assoc, ← split256]
  rw [h, sk_xor 8 (256 * (n / 256)), sk8_256]

theorem s1_lt {n : Nat} (h : n < 2 ^ 32) : s1 n < 2 ^ 32 := by
  unfold s1; split
  · exact Nat.xor_lt_two_pow (by omega) (by decide)
  · omega
theorem sk_lt (k : Nat) : ∀ {n : Nat}, n < 2 ^ 32 → sk k n < 2 ^ 32 := by
  induction k with
  | zero => intro n h; exact h
  | succ k ih => intro n h; exact ih (s1_lt h)

theorem xor_right_inj {a b c : Nat} (h : c ^^^ a = c ^^^ b) : a = b := by
  have := congrArg (c ^^^ ·) h
  simpa [← Nat.xor_assoc] using this
theorem xor_left_inj {a b c : Nat} (h : a ^^^ c = b ^^^ c) : a = b := xor_right_inj (c := c) (by rw [Nat.xor_comm c, Nat.xor_comm c]; exact h)
theorem s1_inj {a b : Nat} (ha : a < 2 ^ 32) (hb : b < 2 ^ 32) (h : s1 a = s1 b) : a = b := by
  have top : ∀ m, m < 2 ^ 31 → (m ^^^ 3988292384).testBit 31 = true := fun m hm => by
    rw [Nat.testBit_xor, Nat.testBit_lt_two_pow hm]; decide
  have low : ∀ m, m < 2 ^ 31 → m.testBit 31 = false := fun m hm => Nat.testBit_lt_two_pow hm
  unfold s1 at h
  split at h <;> split at h
  · have : a / 2 = b / 2 := xor_left_inj h
    omega
  · have t := top (a / 2) (by omega); rw [h, low _ (by omega)] at t; cases t
  · have t := top (b / 2) (by omega); rw [← h, low _ (by omega)] at t; cases t
  · omega
theorem sk_inj (k : Nat) : ∀ {a b : Nat}, a < 2 ^ 32 → b < 2 ^ 32 → sk k a = sk k b → a = b := by
  induction k with
  | zero => intro a b _ _ h; exact h
  | succ k ih => intro a b ha hb h; exact s1_inj ha hb (ih (s1_lt ha) (s1_lt hb) h)

/-- All bytes. -/
def run (n : Nat) (l : List UInt8) : Nat := l.foldl (fun n c => stepB n c.toNat) n
/-- The sum of bytes. -/
def crc (l : List UInt8) : Nat := 4294967295 - run 4294967295 l

theorem u8_lt32 (c : UInt8) : c.toNat < 2 ^ 32 := Nat.lt_of_lt_of_le c.toNat_lt (by decide)
theorem stepB_lt {n : Nat} (h : n < 2 ^ 32) (c : UInt8) : stepB n c.toNat < 2 ^ 32 := sk_lt 8 (Nat.xor_lt_two_pow h (u8_lt32 c))
theorem run_lt (l : List UInt8) : ∀ {n}, n < 2 ^ 32 → run n l < 2 ^ 32 := by
  induction l with
  | nil => intro n h; exact h
  | cons c l ih => intro n h; exact ih (stepB_lt h c)
theorem crc_lt (l : List UInt8) : crc l < 2 ^ 32 := by unfold crc; omega
theorem run_snoc (n : Nat) (l : List UInt8) (c : UInt8) : run n (l ++ [c]) = stepB (run n l) c.toNat := by simp [run]
theorem run_append (n : Nat) (l m : List UInt8) : run n (l ++ m) = run (run n l) m := by simp [run]
theorem run_inj (l : List UInt8) : ∀ {a b}, a < 2 ^ 32 → b < 2 ^ 32 → run a l = run b l → a = b := by
  induction l with
  | nil => intro a b _ _ h; exact h
  | cons c l ih =>
    intro a b ha hb h
    have := ih (stepB_lt ha c) (stepB_lt hb c) h
    have := sk_inj 8 (Nat.xor_lt_two_pow ha (u8_lt32 c)) (Nat.xor_lt_two_pow hb (u8_lt32 c)) this
    exact xor_left_inj this
theorem crc_turned (l m : List UInt8) (c d : UInt8) (h : crc (l ++ c :: m) = crc (l ++ d :: m)) : c = d := by
  have n0 : (4294967295 : Nat) < 2 ^ 32 := by decide
  have ha := run_lt (l ++ c :: m) n0
  have hb := run_lt (l ++ d :: m) n0
  unfold crc at h
  have h' : run 4294967295 (l ++ c :: m) = run 4294967295 (l ++ d :: m) := by omega
  rw [run_append, run_append] at h'
  have hl := run_lt l n0
  have := run_inj m (stepB_lt hl c) (stepB_lt hl d) h'
  have := sk_inj 8 (Nat.xor_lt_two_pow hl (u8_lt32 c)) (Nat.xor_lt_two_pow hl (u8_lt32 d)) this
  exact UInt8.toNat_inj.1 (xor_right_inj this)
end Fr
