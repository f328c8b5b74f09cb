/-
  Words of bits, and a cube's words by its text. No program in sight.
-/
import Derived.Test.YtbklijcdmiffaaaGreatDoorBase
import Derived.Laws.BitsAllLaws
namespace Go.Proofs.YtbklijcdmiffaaaGreatDoor
open Go.RowKit

/-- the number whose first n bits are f -/
def bitsN (f : Nat → Bool) : Nat → Nat
  | 0 => 0
  | n + 1 => bitsN f n ||| (if f n then 2 ^ n else 0)
theorem bitsN_testBit (f : Nat → Bool) (n : Nat) (r : Nat) : (bitsN f n).testBit r = (decide (r < n) && f r) := by
  induction n with
  | zero => simp [bitsN]
  | succ n ih =>
    unfold bitsN
    rw [Nat.testBit_or, ih]
    by_cases e : n = r
    · subst e
      by_cases hf : f n = true <;> simp [hf]
    · have h1 : decide (r < n + 1) = decide (r < n) := by
        simp only [decide_eq_decide]
        omega
      rw [h1]
      by_cases hf : f n = true <;> simp [hf, e]
theorem bitsN_lt (f : Nat → Bool) (n : Nat) : bitsN f n < 2 ^ n := Nat.lt_pow_two_of_testBit _ fun i hi => by
  rw [bitsN_testBit]
  simp
  omega
theorem bitsN_congr {f g : Nat → Bool} {n : Nat} (h : ∀ r, r < n → f r = g r) : bitsN f n = bitsN g n := Nat.eq_of_testBit_eq fun i => by
  rw [bitsN_testBit, bitsN_testBit]
  by_cases hi : i < n
  · rw [h i hi]
  · simp [hi]
theorem bitsN_lt64 (f : Nat → Bool) : bitsN f 64 < 18446744073709551616 := bitsN_lt f 64

def bitP (s : ByteArray) (p : UInt8 → Bool) (i : Nat) : Bool := match s.data[i]? with | some c => p c | none => false
def careP (c : UInt8) : Bool := c == 48 || c == 49
def oneP (c : UInt8) : Bool := c == 49
/-- word q of the bits of the first k bytes -/
def wordK (s : ByteArray) (p : UInt8 → Bool) (k q : Nat) : Nat := bitsN (fun r => decide (64 * q + r < k) && bitP s p (64 * q + r)) 64
def wordS (s : ByteArray) (p : UInt8 → Bool) (q : Nat) : Nat := bitsN (fun r => bitP s p (64 * q + r)) 64
theorem wordK_zero (s : ByteArray) (p : UInt8 → Bool) (q : Nat) : wordK s p 0 q = 0 := Nat.eq_of_testBit_eq fun i => by
  unfold wordK
  rw [bitsN_testBit]
  simp
theorem wordK_all (s : ByteArray) (p : UInt8 → Bool) (q : Nat) : wordK s p s.size q = wordS s p q := bitsN_congr fun r _ => by
  by_cases h : 64 * q + r < s.size
  · simp [h]
  · simp [h, bitP]
theorem wordK_lt (s : ByteArray) (p : UInt8 → Bool) (k q : Nat) : wordK s p k q < 18446744073709551616 := bitsN_lt64 _
theorem wordK_other {s : ByteArray} {p : UInt8 → Bool} {k q : Nat} (h : k / 64 ≠ q) : wordK s p (k + 1) q = wordK s p k q := bitsN_congr fun r hr => by
  have : decide (64 * q + r < k + 1) = decide (64 * q + r < k) := by
    simp only [decide_eq_decide]
    omega
  rw [this]
theorem wordK_no {s : ByteArray} {p : UInt8 → Bool} {k : Nat} (h : bitP s p k = false) (q : Nat) : wordK s p (k + 1) q = wordK s p k q := bitsN_congr fun r hr => by
  by_cases e : 64 * q + r = k
  · simp [e, h]
  · have : decide (64 * q + r < k + 1) = decide (64 * q + r < k) := by
      simp only [decide_eq_decide]
      omega
    rw [this]
theorem wordK_yes {s : ByteArray} {p : UInt8 → Bool} {k : Nat} (h : bitP s p k = true) : wordK s p (k + 1) (k / 64) = wordK s p k (k / 64) ||| 2 ^ (k % 64) := Nat.eq_of_testBit_eq fun i => by
  unfold wordK
  rw [Nat.testBit_or, bitsN_testBit, bitsN_testBit, Nat.testBit_two_pow]
  by_cases hi : i < 64
  · by_cases e : 64 * (k / 64) + i = k
    · have e2 : k % 64 = i := by omega
      rw [e]
      simp [hi, h, e2]
    · have e2 : ¬ k % 64 = i := by omega
      have : decide (64 * (k / 64) + i < k + 1) = decide (64 * (k / 64) + i < k) := by
        simp only [decide_eq_decide]
        omega
      rw [this]
      simp [e2]
  · have e2 : ¬ k % 64 = i := by omega
    simp [hi, e2]
theorem orBit_i (W r : Nat) (hW : W < 18446744073709551616) (hr : r < 64) : bits .or .u64 (W : Int) (IntKind.u64.wrap (2 ^ r)) = ((W ||| 2 ^ r : Nat) : Int) := by
  have h2 : 2 ^ r < 18446744073709551616 := Nat.pow_lt_pow_right (show 1 < 2 by omega) hr
  have h3 : (2 : Int) ^ r = ((2 ^ r : Nat) : Int) := by simp
  rw [h3]
  generalize 2 ^ r = x at *
  have h4 : IntKind.u64.wrap (x : Int) = (x : Int) := by
    rw [IntKind.wrap_u64]
    omega
  rw [h4]
  exact u64_or_nat W x hW h2

/-- the words of a cube's text, as the struct holds them -/
def cubeCells (s : ByteArray) : List Value :=
  [.int .i64 s.size, .int .u64 (wordS s careP 0), .int .u64 (wordS s careP 1), .int .u64 (wordS s careP 2), .int .u64 (wordS s careP 3),
    .int .u64 (wordS s oneP 0), .int .u64 (wordS s oneP 1), .int .u64 (wordS s oneP 2), .int .u64 (wordS s oneP 3)]
def zeroCube : List Value := [.int .i64 0, .int .u64 0, .int .u64 0, .int .u64 0, .int .u64 0, .int .u64 0, .int .u64 0, .int .u64 0, .int .u64 0]
/-- what Parse of a cube answers -/
def ParseRes (s : ByteArray) (e : Ending) : Prop :=
  (cubeOk s ∧ e = .returned (.tuple #[.agg (cubeCells s).toArray, .int .i64 0])) ∨
  (¬ cubeOk s ∧ ∃ c, (c = 2 ∨ c = 10) ∧ (c = 2 ↔ 256 < s.size) ∧ e = .returned (.tuple #[.agg zeroCube.toArray, .int .i64 c]))
end Go.Proofs.YtbklijcdmiffaaaGreatDoor
