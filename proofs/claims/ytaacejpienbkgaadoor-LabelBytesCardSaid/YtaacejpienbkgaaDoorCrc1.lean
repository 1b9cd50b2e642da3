/- CRC-32C by nibbles and bit by bit are one. -/
import Derived.Test.YtaacejpienbkgaaDoorCheck0
namespace Go.Proofs.YtaacejpienbkgaaDoor
open Go.RowKit

/-- One bit, without input. -/
def bit1 (x : Nat) : Nat := if x % 2 = 1 then (x / 2) ^^^ 2197175160 else x / 2
theorem xor_mod2 (x y : Nat) : (x ^^^ (2 * y)) % 2 = x % 2 := by
  have h := Nat.xor_mod_two_pow (a := x) (b := 2 * y) (n := 1)
  simpa using h
theorem xor_div2 (x y : Nat) : (x ^^^ (2 * y)) / 2 = x / 2 ^^^ y := by
  have h := Nat.shiftRight_xor_distrib (a := x) (b := 2 * y) (i := 1)
  simpa [Nat.shiftRight_eq_div_pow] using h
theorem bit1_xor (x y : Nat) : bit1 (x ^^^ (2 * y)) = bit1 x ^^^ y := by
  unfold bit1
  rw [xor_mod2, xor_div2]
  split
  · rw [Nat.xor_assoc, Nat.xor_comm y, ← Nat.xor_assoc]
  · rfl
def bit4 (x : Nat) : Nat := bit1 (bit1 (bit1 (bit1 x)))
theorem bit4_xor (x y : Nat) : bit4 (x ^^^ (16 * y)) = bit4 x ^^^ y := by
  unfold bit4
  rw [show 16 * y = 2 * (2 * (2 * (2 * y))) by omega, bit1_xor, bit1_xor, bit1_xor, bit1_xor]
theorem split_pow (k x : Nat) : x = (x % 2 ^ k) ^^^ (2 ^ k * (x / 2 ^ k)) := by
  apply Nat.eq_of_testBit_eq
  intro i
  rw [Nat.testBit_xor, Nat.testBit_two_pow_mul, Nat.testBit_mod_two_pow]
  by_cases h : i < k
  · simp [h, show ¬ (k ≤ i) by omega]
  · have e : x / 2 ^ k = x >>> k := (Nat.shiftRight_eq_div_pow x k).symm
    rw [e, Nat.testBit_shiftRight]
    simp [h, show k ≤ i by omega, show k + (i - k) = i by omega]
theorem split16 (x : Nat) : x = (x % 16) ^^^ (16 * (x / 16)) := split_pow 4 x
theorem split2 (x : Nat) : x = (x % 2) ^^^ (2 * (x / 2)) := split_pow 1 x
theorem bit4_tab (x : Nat) : bit4 x = lineAt (x % 16) ^^^ (x / 16) := by
  conv => lhs; rw [split16 x, bit4_xor]
  congr 1
  have h1 : x % 16 < 16 := Nat.mod_lt _ (by decide)
  generalize x % 16 = r at h1
  have h : ∀ r : Fin 16, bit4 r.val = lineAt r.val := by decide
  exact h ⟨r, h1⟩

/-- One bit of input, as the law's own sum takes it. -/
def sumBit (r one : Nat) : Nat := if r % 2 ≠ one then (r / 2) ^^^ 2197175160 else r / 2
theorem sumBit_eq (r b : Nat) (hb : b < 2) : sumBit r b = bit1 (r ^^^ b) := by
  have h1 : (r ^^^ b) % 2 = (r % 2) ^^^ b := by
    have h := Nat.xor_mod_two_pow (a := r) (b := b) (n := 1)
    simp only [Nat.pow_one] at h
    rw [h, Nat.mod_eq_of_lt hb]
  have h2 : (r ^^^ b) / 2 = r / 2 := by
    have h := Nat.shiftRight_xor_distrib (a := r) (b := b) (i := 1)
    simp only [Nat.shiftRight_eq_div_pow, Nat.pow_one] at h
    rw [h, Nat.div_eq_of_lt hb, Nat.xor_zero]
  unfold sumBit bit1
  rw [h1, h2]
  have h3 : r % 2 < 2 := Nat.mod_lt _ (by decide)
  generalize r % 2 = q at h3
  have hq : q = 0 ∨ q = 1 := by omega
  have hb' : b = 0 ∨ b = 1 := by omega
  rcases hq with rfl | rfl <;> rcases hb' with rfl | rfl <;> simp
/-- Four bits of input. -/
theorem sum4 (r n : Nat) : sumBit (sumBit (sumBit (sumBit r (n % 2)) (n / 2 % 2)) (n / 4 % 2)) (n / 8 % 2) = bit4 (r ^^^ (n % 16)) := by
  have m : ∀ x : Nat, x % 2 < 2 := fun x => Nat.mod_lt _ (by decide)
  rw [sumBit_eq _ _ (m _), sumBit_eq _ _ (m _), sumBit_eq _ _ (m _), sumBit_eq _ _ (m _)]
  unfold bit4
  have e : n % 16 = (n % 2) ^^^ (2 * ((n / 2 % 2) ^^^ (2 * ((n / 4 % 2) ^^^ (2 * (n / 8 % 2)))))) := by
    have a1 := split2 (n % 16)
    have a2 := split2 (n % 16 / 2)
    have a3 := split2 (n % 16 / 2 / 2)
    rw [show n % 16 % 2 = n % 2 by omega] at a1
    rw [show n % 16 / 2 % 2 = n / 2 % 2 by omega] at a2
    rw [show n % 16 / 2 / 2 % 2 = n / 4 % 2 by omega, show n % 16 / 2 / 2 / 2 = n / 8 % 2 by omega] at a3
    rw [← a3, ← a2, ← a1]
  rw [e, ← Nat.xor_assoc, bit1_xor, ← Nat.xor_assoc, bit1_xor, ← Nat.xor_assoc, bit1_xor]
theorem nib_eq (r n : Nat) : nib r n = bit4 (r ^^^ (n % 16)) := by
  have hm : n % 16 < 16 := Nat.mod_lt _ (by decide)
  rw [bit4_tab]
  unfold nib
  have h1 : (r ^^^ n) % 16 = (r ^^^ (n % 16)) % 16 := by
    have a := Nat.xor_mod_two_pow (a := r) (b := n) (n := 4)
    have b := Nat.xor_mod_two_pow (a := r) (b := n % 16) (n := 4)
    simp only [show (2 : Nat) ^ 4 = 16 from rfl] at a b
    rw [a, b, Nat.mod_mod]
  have h2 : (r ^^^ (n % 16)) / 16 = r / 16 := by
    have h := Nat.shiftRight_xor_distrib (a := r) (b := n % 16) (i := 4)
    simp only [Nat.shiftRight_eq_div_pow, show (2 : Nat) ^ 4 = 16 from rfl] at h
    rw [h, Nat.div_eq_of_lt hm, Nat.xor_zero]
  rw [h1, h2]

/-- A byte's bit i. -/
def pbit (p : Bytes) (i : Nat) : Nat := (p.getD (i / 8) 0).toNat / 2 ^ (i % 8) % 2
def sumTo (p : Bytes) : Nat → Nat
  | 0 => 4294967295
  | k + 1 => sumBit (sumTo p k) (pbit p k)
theorem sumTo_byte (p : Bytes) (k : Nat) (hk : k < p.length) : sumTo p (8 * (k + 1)) = crcB (sumTo p (8 * k)) p[k] := by
  have hb : ∀ j, j < 8 → pbit p (8 * k + j) = p[k].toNat / 2 ^ j % 2 := fun j hj => by
    unfold pbit
    rw [show (8 * k + j) / 8 = k by omega, show (8 * k + j) % 8 = j by omega, List.getD_eq_getElem?_getD, List.getElem?_eq_getElem hk]
    rfl
  rw [show 8 * (k + 1) = 8 * k + 7 + 1 by omega]
  simp only [sumTo, show 8 * k + 7 = 8 * k + 6 + 1 by omega, show 8 * k + 6 = 8 * k + 5 + 1 by omega, show 8 * k + 5 = 8 * k + 4 + 1 by omega, show 8 * k + 4 = 8 * k + 3 + 1 by omega, show 8 * k + 3 = 8 * k + 2 + 1 by omega, show 8 * k + 2 = 8 * k + 1 + 1 by omega]
  rw [hb 7 (by decide), hb 6 (by decide), hb 5 (by decide), hb 4 (by decide), hb 3 (by decide), hb 2 (by decide), hb 1 (by decide)]
  have h0 := hb 0 (by decide)
  rw [Nat.add_zero] at h0
  rw [h0]
  unfold crcB
  generalize p[k].toNat = n
  generalize sumTo p (8 * k) = r
  rw [nib_eq, nib_eq, ← sum4, ← sum4]
  simp only [show (2 : Nat) ^ 0 = 1 from rfl, show (2 : Nat) ^ 1 = 2 from rfl, show (2 : Nat) ^ 2 = 4 from rfl, show (2 : Nat) ^ 3 = 8 from rfl, show (2 : Nat) ^ 4 = 16 from rfl, show (2 : Nat) ^ 5 = 32 from rfl, show (2 : Nat) ^ 6 = 64 from rfl, show (2 : Nat) ^ 7 = 128 from rfl, Nat.div_one]
  rw [show n / 16 / 2 = n / 32 by omega, show n / 16 / 4 = n / 64 by omega, show n / 16 / 8 = n / 128 by omega]
theorem sumTo_all (p : Bytes) : ∀ k, k ≤ p.length → sumTo p (8 * k) = crcR (p.take k)
  | 0, _ => by simp [sumTo, crcR]
  | k + 1, h => by
    rw [sumTo_byte p k (by omega), sumTo_all p k (by omega), List.take_succ_eq_append_getElem (by omega), crcR_snoc]
theorem sum_eq (p : Bytes) : 4294967295 - sumTo p (8 * p.length) = crcN p := by
  rw [sumTo_all p p.length (Nat.le_refl _), List.take_length]
  unfold crcN
  have h := crcR_lt p
  have e : 4294967295 ^^^ crcR p = 4294967295 - crcR p := by
    apply Nat.eq_of_testBit_eq
    intro i
    have h2 := Nat.testBit_two_pow_sub_succ (x := crcR p) (n := 32) h i
    rw [show (4294967295 : Nat) - crcR p = 2 ^ 32 - (crcR p + 1) by omega, h2, Nat.testBit_xor, show (4294967295 : Nat) = 2 ^ 32 - 1 from rfl, Nat.testBit_two_pow_sub_one]
    by_cases hi : i < 32
    · simp [hi]
    · have h3 : (crcR p).testBit i = false := Nat.testBit_lt_two_pow (Nat.lt_of_lt_of_le h (Nat.pow_le_pow_right (by decide) (by omega) : 2 ^ 32 ≤ 2 ^ i))
      simp [hi, h3]
  rw [e]
theorem sumTo_lt (p : Bytes) : ∀ k, sumTo p k < 4294967296
  | 0 => by simp [sumTo]
  | k + 1 => by
    have h := sumTo_lt p k
    rw [sumTo]
    unfold sumBit
    split
    · exact xor_lt32 (by omega) (by decide)
    · omega

end Go.Proofs.YtaacejpienbkgaaDoor
