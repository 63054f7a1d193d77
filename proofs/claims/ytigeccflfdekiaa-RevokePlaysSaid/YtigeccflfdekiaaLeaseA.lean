/-
  Lease: the keys, the maps.
-/
import Derived.Test.YtigeccflfdekiaaPMap
import Derived.Test.YtigeccflfdekiaaRows
import Derived.Test.YtigeccflfdekiaaExt
import Derived.DeepKeys4
namespace Go.Proofs.Ytigeccflfdekiaa
open Go.RowKit Go.Maps
set_option linter.unusedVariables false

theorem lease_laid : laidOutB Try.prog = true := by kernel_rfl
theorem pair_law : Keyed Try.prog 79 := Keyed.of_law (deep_law_laid lease_laid (m := 2) (by omega) (of_decide_eq_true (by kernel_rfl)) (by kernel_rfl) (by rw [Try.underlying79]))
theorem int_law : Keyed Try.prog 3 := int_keyed Try.underlying3
def pairV (s : ByteArray) (e : Int) : Value := .agg #[.string s, .int .i64 e]
def noteV (a : Int) : Value := .agg #[.int .i64 a]
def plit (s : ByteArray) (e : Int) : Lit := .string (keyBytes [.string s.data.toList, .int .i64 e])
/-- a text and a number that a key may be made of -/
def KOk (s : ByteArray) (e : Int) : Prop := s.size ≤ maxLen ∧ -9223372036854775808 ≤ e ∧ e ≤ 9223372036854775807
theorem pair_key {s : ByteArray} {e : Int} (h : KOk s e) : keyOf Try.prog 79 (pairV s e) = some (plit s e) := by
  have hk : Try.prog.keyType 79 = true := by kernel_rfl
  have hc : Try.prog.cellsOf 79 = 2 := by kernel_rfl
  have hw : (Lit.int .i64 e).wf = true := by
    have h1 := h.2
    simp only [Lit.wf, IntKind.min, IntKind.max, IntKind.signed, IntKind.bits]
    simp; omega
  have hf : (pairV s e).formed Try.prog 79 = true := by
    simp [pairV, Value.formed, Try.underlying79, hc]
  unfold keyOf
  rw [Try.underlying79]
  simp only [hk, hf, Bool.and_self, if_true]
  obtain ⟨m, hm⟩ : ∃ m, Try.prog.types.size = m + 1 := ⟨_, (by kernel_rfl : Try.prog.types.size = (Try.prog.types.size - 1) + 1)⟩
  rw [hm]
  have hcs : (pairV s e).cells.toList = [.string s, .int .i64 e] := rfl
  rw [hcs]
  have h9 : Try.prog.cellsOf 9 = 1 := by kernel_rfl
  have h3 : Try.prog.cellsOf 3 = 1 := by kernel_rfl
  have k1 : Try.prog.keyLits (m + 1) 9 [.string s] = some [.string s.data.toList] := by
    unfold Program.keyLits
    rw [Try.underlying9]
    simp only [h.1, if_true]
  have k2 : Try.prog.keyLits (m + 1) 3 [.int .i64 e] = some [.int .i64 e] := by
    unfold Program.keyLits
    rw [Try.underlying3]
    simp only [hw, and_self, if_true]
  unfold Program.keyLits
  rw [Try.underlying79]
  simp only [hc, List.length_cons, List.length_nil, List.mapM_cons, List.mapM_nil, List.drop_zero, h9, h3, List.take_succ_cons, List.take_zero, k1]
  rw [if_pos ⟨trivial, by kernel_rfl⟩]
  rw [show List.take 1 (List.drop 1 [Value.string s, Value.int IntKind.i64 e]) = [.int .i64 e] from rfl, k2]
  rfl
theorem plit_inj {s s' : ByteArray} {e e' : Int} (h : KOk s e) (h' : KOk s' e') (he : plit s e = plit s' e') : s = s' ∧ e = e' := by
  have := pair_law.inj (pair_key h) (he ▸ pair_key h')
  unfold pairV at this
  injection this with this
  have := congrArg Array.toList this
  simp at this
  exact this
end Go.Proofs.Ytigeccflfdekiaa
