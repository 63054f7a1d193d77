/-
  The plain law of verifiers and challenges.
-/
import Derived.Test.YtnjpgcfkplchkaaOctMore
import Derived.Test.YtnjpgcfkplchkaaShaMath
import Derived.Lib.Bytealg
namespace Go.Proofs.Ytnjpgcfkplchkaa

/-- a sign of a verifier -/
def Pk.ok (c : UInt8) : Bool := (decide (97 ≤ c.toNat) && decide (c.toNat ≤ 122)) || (decide (65 ≤ c.toNat) && decide (c.toNat ≤ 90)) || (decide (48 ≤ c.toNat) && decide (c.toNat ≤ 57)) || decide (c.toNat = 45) || decide (c.toNat = 46) || decide (c.toNat = 95) || decide (c.toNat = 126)
/-- a verifier -/
def Pk.ver (s : List UInt8) : Bool := s.all Pk.ok && decide (43 ≤ s.length) && decide (s.length ≤ 128)
def Pk.plain : List UInt8 := [112, 108, 97, 105, 110]
def Pk.s256 : List UInt8 := [83, 50, 53, 54]
/-- may it be a challenge? -/
def Pk.may (s method : List UInt8) : Bool := if method = Pk.plain then Pk.ver s else decide (method = Pk.s256) && decide ((Oct.unwebL Oct.webS s).map List.length = some 32)
/-- the challenge, or the error's number -/
def Pk.chal (s method : List UInt8) : List UInt8 × Nat := if method = Pk.plain then (if Pk.ver s then (s, 0) else ([], 3)) else if method = Pk.s256 then (if Pk.ver s then (Oct.webL Oct.webS (Sha.sum s), 0) else ([], 3)) else ([], 1)
def Pk.check (c method v : List UInt8) : Bool := decide ((Pk.chal v method).2 = 0) && decide ((Pk.chal v method).1 = c)
theorem Pk.ok_iff (c : UInt8) : Pk.ok c = true ↔ (97 ≤ c.toNat ∧ c.toNat ≤ 122) ∨ (65 ≤ c.toNat ∧ c.toNat ≤ 90) ∨ (48 ≤ c.toNat ∧ c.toNat ≤ 57) ∨ c.toNat = 45 ∨ c.toNat = 46 ∨ c.toNat = 95 ∨ c.toNat = 126 := by
  unfold Pk.ok
  simp only [Bool.or_eq_true, Bool.and_eq_true, decide_eq_true_eq, or_assoc]
theorem Pk.all_step {s : List UInt8} {i : Nat} {c : UInt8} (h : s[i]? = some c) : (s.take (i + 1)).all Pk.ok = ((s.take i).all Pk.ok && Pk.ok c) := by
  rw [List.take_add_one, h]; simp
theorem Pk.all_false {s : List UInt8} {i : Nat} {c : UInt8} (h : s[i]? = some c) (hc : Pk.ok c = false) : s.all Pk.ok = false := by
  rw [List.all_eq_false]
  exact ⟨c, List.mem_of_getElem? h, by rw [hc]; simp⟩
theorem Pk.ver_all {s : List UInt8} (h : s.all Pk.ok = false) : Pk.ver s = false := by unfold Pk.ver; rw [h]; rfl
end Go.Proofs.Ytnjpgcfkplchkaa
