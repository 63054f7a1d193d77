/-
  What comes in, opened: bytes that are handed in read as a list; how many there are at the most.
-/
import Derived.Test.YtigeccflfdekiaaRows
import Derived.Test.YtigeccflfdekiaaMem
import Derived.ProofKit
import Derived.OpenShut
import Derived.ShutString
import Derived.SizedLaws
import Derived.JoinedCond
import Derived.Deep.CondSized
namespace Go.Proofs.Ytigeccflfdekiaa
open Go.RowKit Go.ChangeShapes Go.WideShapes Go.ChangeAt

theorem own : ownKnob Try.prog.godebug = none := by kernel_rfl
theorem laidOut : laidOutB Try.prog = true := by kernel_rfl

section
variable {H : Type} {enc : TypeId × Value → H} {W : World}

/-- a cell of a byte -/
theorem byte_cell {z : Int} (h : (Lit.int .u8 z).wf = true) : (Value.int .u8 z) = bv (UInt8.ofNat z.toNat) := by
  have hb : 0 ≤ z ∧ z ≤ 255 := by simpa [Lit.wf, IntKind.min, IntKind.max, IntKind.signed, IntKind.bits] using h
  unfold bv
  congr 1
  rw [UInt8.toNat_ofNat']
  omega

theorem array4_ {α : Type} {cs : Array α} (h : cs.size = 4) : ∃ c0 c1 c2 c3, cs = #[c0, c1, c2, c3] := by
  obtain ⟨l⟩ := cs
  match l, h with
  | [c0, c1, c2, c3], _ => exact ⟨c0, c1, c2, c3, rfl⟩

/-- of what is of small bulk -/
theorem one_bulk (d : DataW H) : 1 ≤ Rows.uptoBulk d := by
  cases d with
  | lit l => cases l <;> simp [Rows.uptoBulk]
  | nil => simp [Rows.uptoBulk]
  | ptr d => simp [Rows.uptoBulk]
  | slice elems spare => simp [Rows.uptoBulk]
  | agg parts => simp [Rows.uptoBulk]
  | iface t d => simp [Rows.uptoBulk]
  | map entries => simp [Rows.uptoBulk]
  | held h => simp [Rows.uptoBulk]
theorem length_bulk (l : List (DataW H)) : l.length ≤ Rows.uptoBulkAll l := by
  induction l with
  | nil => simp [Rows.uptoBulkAll]
  | cons x r ih => have := one_bulk x; simp only [Rows.uptoBulkAll, List.length_cons]; omega
theorem bytes_bulk {len cap : Nat} {d : DataW H} (hs : (d = .nil ∧ cap = 0) ∨ ∃ zs : List Int, d = .slice (lits .u8 (zs.take len)) (lits .u8 (zs.drop len)) ∧ zs.length = cap) : cap ≤ Rows.uptoBulk d := by
  rcases hs with ⟨_, rfl⟩ | ⟨zs, rfl, hz⟩
  · omega
  · have h1 := length_bulk (H := H) (lits .u8 (zs.take len))
    have h2 := length_bulk (H := H) (lits .u8 (zs.drop len))
    simp only [Rows.uptoBulk]
    simp only [lits, List.length_map, List.length_take, List.length_drop] at h1 h2
    simp only [lits]
    omega
theorem string_bulk (bytes : List UInt8) : Rows.uptoBulk (DataW.lit (H := H) (.string bytes)) = bytes.length + 1 := by simp [Rows.uptoBulk]
end
end Go.Proofs.Ytigeccflfdekiaa
