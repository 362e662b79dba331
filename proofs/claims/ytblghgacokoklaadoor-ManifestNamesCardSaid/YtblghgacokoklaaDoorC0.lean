/-
  SUMS: a table of sixteen numbers, four bits at a time, comes to what eight steps of one bit come to. Plain law, in no program.
-/
import Derived.Test.YtblghgacokoklaaDoorE0
set_option linter.unusedSimpArgs false
set_option linter.unusedVariables false
namespace Go.Eng
/-- One bit. -/
def bs1 (x : Nat) : Nat := x / 2 ^^^ (if x % 2 = 1 then 2197175160 else 0)
def nib (i : Nat) : Nat := bs1 (bs1 (bs1 (bs1 i)))
def nibL : List Nat := [0, 274646895, 549293790, 820201905, 1098587580, 1361435347, 1640403810, 1905808397, 2197175160, 2460548119, 2722870694, 2987750089, 3280807620, 3553878443, 3811616794, 4084100981]
theorem bs1_zero : bs1 0 = 0 := by decide
theorem bs1_xor (a b : Nat) : bs1 (a ^^^ b) = bs1 a ^^^ bs1 b := by
  unfold bs1
  have e1 : (a ^^^ b) / 2 = a / 2 ^^^ b / 2 := Nat.xor_div_two
  have e2 : (a ^^^ b) % 2 = 1 ↔ ¬ ((a % 2 = 1) ↔ (b % 2 = 1)) := by
    rw [Nat.xor_mod_two_eq_one]
  rw [e1]
  rcases Nat.mod_two_eq_zero_or_one a with ha | ha <;> rcases Nat.mod_two_eq_zero_or_one b with hb | hb
  · have : ¬ (a ^^^ b) % 2 = 1 := by rw [e2]; simp [ha, hb]
    simp [this, ha, hb]
  · have : (a ^^^ b) % 2 = 1 := by rw [e2]; simp [ha, hb]
    simp [this, ha, hb, Nat.xor_assoc]
  · have : (a ^^^ b) % 2 = 1 := by rw [e2]; simp [ha, hb]
    simp only [this, ha, hb, if_pos, if_neg, Nat.zero_ne_one, if_true, if_false, Nat.xor_zero]
    rw [Nat.xor_assoc, Nat.xor_assoc, Nat.xor_comm (b / 2)]
  · have : ¬ (a ^^^ b) % 2 = 1 := by rw [e2]; simp [ha, hb]
    simp only [this, ha, hb, if_pos, if_neg, if_true, if_false, Nat.xor_zero]
    rw [Nat.xor_assoc, Nat.xor_comm (b / 2), ← Nat.xor_assoc 2197175160, Nat.xor_self, Nat.zero_xor]
theorem nib_xor (a b : Nat) : nib (a ^^^ b) = nib a ^^^ nib b := by unfold nib; rw [bs1_xor, bs1_xor, bs1_xor, bs1_xor]
theorem bs1_two (a : Nat) : bs1 (2 * a) = a := by
  unfold bs1
  have h1 : 2 * a / 2 = a := by omega
  have h2 : ¬ (2 * a) % 2 = 1 := by omega
  rw [h1, if_neg h2, Nat.xor_zero]
theorem nib_up (q : Nat) : nib (16 * q) = q := by
  have e : 16 * q = 2 * (2 * (2 * (2 * q))) := by omega
  rw [e]; unfold nib
  rw [bs1_two, bs1_two, bs1_two, bs1_two]
theorem split16 (x : Nat) : x = 16 * (x / 16) ^^^ x % 16 := by
  apply Nat.eq_of_testBit_eq
  intro i
  rw [Nat.testBit_xor, show (16 : Nat) = 2 ^ 4 from rfl, Nat.testBit_two_pow_mul, Nat.testBit_div_two_pow, Nat.testBit_mod_two_pow]
  by_cases h : i < 4
  · have : ¬ 4 ≤ i := by omega
    simp [h, this]
  · have h2 : 4 ≤ i := by omega
    have e : 4 + (i - 4) = i := by omega
    simp [h, h2, e]
/-- Four bits at once. -/
theorem nib_eq (x : Nat) : nib x = nib (x % 16) ^^^ x / 16 := by
  have h : nib x = nib (16 * (x / 16) ^^^ x % 16) := congrArg nib (split16 x)
  rw [h, nib_xor, nib_up, Nat.xor_comm]
theorem nib_tab : ∀ i, i < 16 → nibL[i]? = some (nib i) := by decide
theorem bs1_lt {x : Nat} (h : x < 4294967296) : bs1 x < 4294967296 := by
  unfold bs1
  exact Nat.xor_lt_two_pow (n := 32) (by omega) (by split <;> omega)
theorem nib_lt {x : Nat} (h : x < 4294967296) : nib x < 4294967296 := bs1_lt (bs1_lt (bs1_lt (bs1_lt h)))
/-- One byte. -/
def by1 (x c : Nat) : Nat := nib (nib (x ^^^ c))
def sumN (x : Nat) : List Nat → Nat
  | [] => x
  | c :: l => sumN (by1 x c) l
/-- The sum of bytes. -/
def crc (l : List Nat) : Nat := sumN 4294967295 l ^^^ 4294967295
theorem by1_lt {x c : Nat} (h : x < 4294967296) (hc : c < 256) : by1 x c < 4294967296 := nib_lt (nib_lt (Nat.xor_lt_two_pow (n := 32) h (by omega)))
theorem sumN_lt : ∀ (l : List Nat) (x : Nat), x < 4294967296 → (∀ c ∈ l, c < 256) → sumN x l < 4294967296
  | [], x, h, _ => h
  | c :: l, x, h, hc => sumN_lt l _ (by1_lt h (hc c (List.mem_cons_self ..))) fun d hd => hc d (List.mem_cons_of_mem _ hd)
/-! On cells. -/
theorem ofInt32 (a : Nat) (h : a < 4294967296) : (BitVec.ofInt 32 (a : Int)).toNat = a := by
  rw [BitVec.ofInt_natCast, BitVec.toNat_ofNat]; exact Nat.mod_eq_of_lt h
theorem wrap32 (a : Nat) (h : a < 4294967296) : IntKind.wrap .u32 (a : Int) = (a : Int) := by
  rw [IntKind.wrap_u32]; omega
theorem xor32 (a b : Nat) (ha : a < 4294967296) (hb : b < 4294967296) : bitsI .xor .u32 (a : Int) (b : Int) = ((a ^^^ b : Nat) : Int) := by
  show IntKind.wrap .u32 ((BitVec.ofInt 32 (a : Int) ^^^ BitVec.ofInt 32 (b : Int)).toNat : Int) = _
  rw [BitVec.toNat_xor, ofInt32 a ha, ofInt32 b hb]
  exact wrap32 _ (Nat.xor_lt_two_pow (n := 32) ha hb)
theorem and15 (a : Nat) (ha : a < 4294967296) : bitsI .and .u32 (a : Int) 15 = ((a % 16 : Nat) : Int) := by
  show IntKind.wrap .u32 ((BitVec.ofInt 32 (a : Int) &&& BitVec.ofInt 32 (15 : Int)).toNat : Int) = _
  rw [BitVec.toNat_and, ofInt32 a ha, show (BitVec.ofInt 32 (15 : Int)).toNat = 2 ^ 4 - 1 from rfl, Nat.and_two_pow_sub_one_eq_mod]
  exact wrap32 _ (by omega)
theorem shr4 (a : Nat) : shrI .u32 (a : Int) 4 = ((a / 16 : Nat) : Int) := by
  unfold shrI
  have : (2 : Int) ^ (min (4 : Int).toNat (IntKind.bits .u32)) = 16 := by decide
  rw [this, Int.fdiv_eq_ediv_of_nonneg _ (by decide)]
  omega
end Go.Eng
