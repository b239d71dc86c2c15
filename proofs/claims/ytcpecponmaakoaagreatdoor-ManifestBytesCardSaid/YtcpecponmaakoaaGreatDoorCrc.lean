/- The plain law of the sum: a step is linear and loses nothing; four steps are a table's entry beside the rest. -/
namespace Go.Wm
def poly : Nat := 3988292384
def ones : Nat := 4294967295
def cstep (v : Nat) : Nat := if v % 2 = 1 then v / 2 ^^^ poly else v / 2
def csteps : Nat → Nat → Nat
  | 0, v => v
  | n + 1, v => csteps n (cstep v)
def cbyte (v : Nat) (c : UInt8) : Nat := csteps 8 (v ^^^ c.toNat)
def crcFrom (v : Nat) (l : List UInt8) : Nat := l.foldl cbyte v
theorem crcFrom_cons (v : Nat) (c : UInt8) (l : List UInt8) : crcFrom v (c :: l) = crcFrom (cbyte v c) l := rfl
def crcOf (l : List UInt8) : Nat := crcFrom ones l ^^^ ones
theorem xor_zero {a b : Nat} (h : a ^^^ b = 0) : a = b := by
  have : (a ^^^ b) ^^^ b = 0 ^^^ b := by rw [h]
  simpa [Nat.xor_assoc] using this
theorem cstep_xor (a b : Nat) : cstep (a ^^^ b) = cstep a ^^^ cstep b := by
  unfold cstep
  have hd : (a ^^^ b) / 2 = a / 2 ^^^ b / 2 := Nat.xor_div_two
  have hm := @Nat.xor_mod_two_eq_one a b
  rw [hd]
  by_cases ha : a % 2 = 1 <;> by_cases hb : b % 2 = 1 <;> simp only [ha, hb, hm, if_true, if_false, not_true_eq_false, iff_self, iff_false, not_false_eq_true, iff_true]
  · rw [Nat.xor_assoc, Nat.xor_comm poly, Nat.xor_assoc (b / 2), Nat.xor_self, Nat.xor_zero]
  · rw [Nat.xor_assoc, Nat.xor_assoc, Nat.xor_comm (b / 2)]
  · rw [Nat.xor_assoc]
theorem csteps_xor : ∀ n a b, csteps n (a ^^^ b) = csteps n a ^^^ csteps n b
  | 0, _, _ => rfl
  | n + 1, a, b => by simp only [csteps]; rw [cstep_xor, csteps_xor n]
theorem cstep_even (m : Nat) : cstep (2 * m) = m := by
  unfold cstep
  rw [if_neg (by omega)]; omega
theorem cstep_lt {v : Nat} (h : v < 4294967296) : cstep v < 4294967296 := by
  unfold cstep
  split
  · have h1 : v / 2 < 2 ^ 32 := by omega
    have h2 : poly < 2 ^ 32 := by decide
    exact Nat.xor_lt_two_pow h1 h2
  · omega
theorem csteps_lt : ∀ n v, v < 4294967296 → csteps n v < 4294967296
  | 0, _, h => h
  | n + 1, _, h => csteps_lt n _ (cstep_lt h)
theorem xor_lt32 {a b : Nat} (h1 : a < 4294967296) (h2 : b < 4294967296) : a ^^^ b < 4294967296 :=
  Nat.xor_lt_two_pow (n := 32) h1 h2
theorem cstep_zero {v : Nat} (h : v < 4294967296) (h0 : cstep v = 0) : v = 0 := by
  unfold cstep at h0
  split at h0
  · have : v / 2 = poly := xor_zero h0
    unfold poly at this
    omega
  · omega
theorem csteps_zero : ∀ n v, v < 4294967296 → csteps n v = 0 → v = 0
  | 0, _, _, h => h
  | n + 1, _, h, h0 => cstep_zero h (csteps_zero n _ (cstep_lt h) h0)
theorem csteps_inj {n a b : Nat} (ha : a < 4294967296) (hb : b < 4294967296) (h : csteps n a = csteps n b) : a = b := by
  have : csteps n (a ^^^ b) = 0 := by rw [csteps_xor, h, Nat.xor_self]
  exact xor_zero (csteps_zero n _ (xor_lt32 ha hb) this)
/-- A number's lower four bits and the rest. -/
theorem split16 (v : Nat) : v = 16 * (v / 16) ^^^ v % 16 := by
  apply Nat.eq_of_testBit_eq
  intro i
  rw [Nat.testBit_xor]
  have h1 : (16 * (v / 16)).testBit i = (decide (4 ≤ i) && v.testBit i) := by
    rw [show (16 : Nat) = 2 ^ 4 from rfl, Nat.testBit_two_pow_mul, Nat.testBit_div_two_pow]
    by_cases h : 4 ≤ i
    · simp [h]
    · simp [h]
  have h2 : (v % 16).testBit i = (decide (i < 4) && v.testBit i) := by
    rw [show (16 : Nat) = 2 ^ 4 from rfl, Nat.testBit_mod_two_pow]
  rw [h1, h2]
  by_cases h : 4 ≤ i
  · have : ¬ i < 4 := by omega
    simp [h, this]
  · have : i < 4 := by omega
    simp [h, this]
theorem csteps4 (v : Nat) : csteps 4 v = csteps 4 (v % 16) ^^^ v / 16 := by
  have e : csteps 4 (16 * (v / 16)) = v / 16 := by
    generalize v / 16 = q
    simp only [csteps]
    rw [show 16 * q = 2 * (2 * (2 * (2 * q))) by omega, cstep_even, cstep_even, cstep_even, cstep_even]
  calc csteps 4 v = csteps 4 (16 * (v / 16) ^^^ v % 16) := by rw [← split16]
    _ = _ := by rw [csteps_xor, e, Nat.xor_comm]
theorem csteps_add : ∀ m n v, csteps (m + n) v = csteps n (csteps m v)
  | 0, n, v => by simp [csteps]
  | m + 1, n, v => by rw [show m + 1 + n = (m + n) + 1 by omega]; simp only [csteps]; exact csteps_add m n _
theorem csteps_succ (n v : Nat) : csteps (n + 1) v = cstep (csteps n v) := by rw [csteps_add]; rfl
theorem byte_lt32 (c : UInt8) : c.toNat < 4294967296 := by have := c.toNat_lt; omega
theorem cbyte_lt {v : Nat} (h : v < 4294967296) (c : UInt8) : cbyte v c < 4294967296 := csteps_lt _ _ (xor_lt32 h (byte_lt32 c))
theorem cbyte_inj {a b : Nat} (ha : a < 4294967296) (hb : b < 4294967296) {x y : UInt8} (h : cbyte a x = cbyte b y) : a ^^^ x.toNat = b ^^^ y.toNat :=
  csteps_inj (xor_lt32 ha (byte_lt32 x)) (xor_lt32 hb (byte_lt32 y)) h
theorem crcFrom_lt : ∀ (l : List UInt8) v, v < 4294967296 → crcFrom v l < 4294967296
  | [], _, h => h
  | c :: l, _, h => crcFrom_lt l _ (cbyte_lt h c)
theorem crcFrom_inj : ∀ (l : List UInt8) {a b : Nat}, a < 4294967296 → b < 4294967296 → crcFrom a l = crcFrom b l → a = b
  | [], _, _, _, _, h => h
  | c :: l, a, b, ha, hb, h => by
    have h2 := cbyte_inj ha hb (crcFrom_inj l (cbyte_lt ha c) (cbyte_lt hb c) h)
    have h3 : (a ^^^ c.toNat) ^^^ c.toNat = (b ^^^ c.toNat) ^^^ c.toNat := by rw [h2]
    simpa [Nat.xor_assoc] using h3
theorem crcFrom_append (l m : List UInt8) (v : Nat) : crcFrom v (l ++ m) = crcFrom (crcFrom v l) m := List.foldl_append
theorem ones_lt : ones < 4294967296 := by unfold ones; omega
theorem crcOf_lt (l : List UInt8) : crcOf l < 4294967296 := xor_lt32 (crcFrom_lt l _ ones_lt) ones_lt
/-- One byte another one: another sum. -/
theorem crcOf_other (l m : List UInt8) {x y : UInt8} (h : x ≠ y) : crcOf (l ++ x :: m) ≠ crcOf (l ++ y :: m) := by
  intro e
  have e1 : (crcOf (l ++ x :: m)) ^^^ ones = (crcOf (l ++ y :: m)) ^^^ ones := by rw [e]
  simp only [crcOf, Nat.xor_assoc, Nat.xor_self, Nat.xor_zero] at e1
  rw [crcFrom_append, crcFrom_append] at e1
  rw [crcFrom_cons, crcFrom_cons] at e1
  have hv := crcFrom_lt l ones ones_lt
  have h2 := cbyte_inj hv hv (crcFrom_inj m (cbyte_lt hv x) (cbyte_lt hv y) e1)
  have h3 : crcFrom ones l ^^^ (crcFrom ones l ^^^ x.toNat) = crcFrom ones l ^^^ (crcFrom ones l ^^^ y.toNat) := by rw [h2]
  rw [← Nat.xor_assoc, ← Nat.xor_assoc, Nat.xor_self, Nat.zero_xor, Nat.zero_xor] at h3
  exact h (UInt8.toNat_inj.1 h3)
end Go.Wm
