/-
  The plain law of a record's bytes.
-/
import Derived.Test.YtnlfnjadadfhkaaMem
namespace Go.Proofs.Ytnlfnjadadfhkaa

/-- a number's digits, the lowest seven bits first (k: how many may follow the first) -/
def Wire.numF : Nat → Nat → List UInt8
  | 0, n => [UInt8.ofNat n]
  | k + 1, n => if n < 128 then [UInt8.ofNat n] else UInt8.ofNat (n % 128 + 128) :: Wire.numF k (n / 128)
def Wire.num (n : Nat) : List UInt8 := Wire.numF 9 n
theorem Wire.numF_length (k n : Nat) : (Wire.numF k n).length ≤ k + 1 := by
  induction k generalizing n with
  | zero => simp [numF]
  | succ k ih =>
    unfold numF
    split
    · simp
    · have := ih (n / 128); simp; omega
theorem Wire.num_length (n : Nat) : (Wire.num n).length ≤ 10 := Wire.numF_length 9 n
theorem Wire.numF_pos (k n : Nat) : 1 ≤ (Wire.numF k n).length := by
  cases k with
  | zero => simp [numF]
  | succ k => unfold numF; split <;> simp
theorem Wire.numF_low {k n : Nat} (h : n < 128) : Wire.numF k n = [UInt8.ofNat n] := by
  cases k with
  | zero => rfl
  | succ k => unfold numF; rw [if_pos h]
theorem Wire.numF_high {k n : Nat} (h : 128 ≤ n) : Wire.numF (k + 1) n = UInt8.ofNat (n % 128 + 128) :: Wire.numF k (n / 128) := by
  rw [numF, if_neg (by omega)]
/-- an int as a number: the sign is the lowest bit -/
def Wire.zig (n : Int) : Nat := if n < 0 then 2 * (-(n + 1)).toNat + 1 else 2 * n.toNat
/-- a text's bytes, at most 65536 of it -/
def Wire.text (s : List UInt8) : List UInt8 := Wire.num s.length ++ s.take 65536
/-- four bytes of a number, the highest first -/
def Wire.four (n : Nat) : List UInt8 := [UInt8.ofNat (n / 16777216 % 256), UInt8.ofNat (n / 65536 % 256), UInt8.ofNat (n / 256 % 256), UInt8.ofNat (n % 256)]
end Go.Proofs.Ytnlfnjadadfhkaa
