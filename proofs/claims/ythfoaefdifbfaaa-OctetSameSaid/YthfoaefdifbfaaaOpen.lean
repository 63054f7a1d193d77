/-
  What comes in, opened: bytes that are handed in read as a list; how many there are at the most.
-/
import Derived.Test.YthfoaefdifbfaaaRows
import Derived.Test.YthfoaefdifbfaaaMem
import Derived.ProofKit
import Derived.OpenShut
import Derived.ShutString
import Derived.SizedLaws
import Derived.JoinedCond
import Derived.Deep.CondSized
namespace Go.Proofs.Ythfoaefdifbfaaa
open Go.RowKit Go.ChangeShapes Go.WideShapes Go.ChangeAt

theorem own : ownKnob Try.prog.godebug = none := by kernel_rfl
theorem laidOut : laidOutB Try.prog = true := by kernel_rfl

section
variable {H : Type} {enc : TypeId × Value → H} {W : World}

/-- a cell of a byte -/
theorem byte_cell {z : Int} (h : (Lit.int .u8 z).wf = true) : (Value.int .u8 z) = bv (UInt8.ofNat z.toNat) := by
  have hb : 0 ≤ z ∧ z ≤ 255 := by simpa [Lit.wf, IntKind.min, IntKind.max, IntKind.signed, IntKind.bits] using h
  unfold bv
  congr 1
  rw [UInt8.toNat_ofNat']
  omega

theorem array4_ {α : Type} {cs : Array α} (h : cs.size = 4) : ∃ c0 c1 c2 c3, cs = #[c0, c1, c2, c3] := by
  obtain ⟨l⟩ := cs
  match l, h with
  | [c0, c1, c2, c3], _ => exact ⟨c0, c1, c2, c3, rfl⟩

theorem open_bytes {base : Nat} {v : Value} {d : DataW H} {p : List MemPlace} (hv : Value.okWide Try.prog W .any base 22 v) (h : DataW.Trod enc Try.prog W 0 (fun _ => true) true 22 v d p) :
    ∃ a len cap bs, v = .slice a len cap ∧ SlB W W.heap.size a len bs ∧ len ≤ cap ∧ cap ≤ maxLen ∧ ((d = .nil ∧ cap = 0) ∨ ∃ zs : List Int, d = .slice (lits .u8 (zs.take len)) (lits .u8 (zs.drop len)) ∧ zs.length = cap) := by
  obtain ⟨a, len, cap, rfl⟩ := okWide_slice Try.underlying22 hv
  obtain ⟨fuel, hf⟩ := h
  rcases open_ints Try.underlying22 Try.underlying5 (by kernel_rfl) hf with ⟨hcs, hx⟩ | ⟨x, l, c, zs, hcs, _, hl, hm, hz, hx, hcell, hwz⟩
  · simp [Value.cells] at hcs
    obtain ⟨rfl, rfl, rfl⟩ := hcs
    exact ⟨_, _, _, [], rfl, SlB.nil_, Nat.le_refl _, Nat.zero_le _, .inl ⟨congrArg Prod.fst hx, rfl⟩⟩
  · simp [Value.cells] at hcs
    obtain ⟨rfl, rfl, rfl⟩ := hcs
    have hzl : zs.length = cap := by simpa using hz
    refine ⟨_, _, _, (zs.take len).map (fun z => UInt8.ofNat z.toNat), rfl, ⟨by simp; omega, fun hn => ?_⟩, hl, hm, .inr ⟨zs, congrArg Prod.fst hx, hzl⟩⟩
    obtain ⟨b, off, spot⟩ := x
    have hc0 := hcell 0 (by omega)
    have hspot : spot = none := by simpa [Addr.add] using World.cell?_spot hc0
    subst hspot
    refine ⟨b, off, rfl, by have := World.block_lt_of_cell? W _ hc0; simpa [Addr.add] using this, fun k u hu => ?_⟩
    have hk : k < len := by have := (List.getElem?_eq_some_iff.1 hu).1; simp at this; omega
    have hc := hcell k (by omega)
    have hadd : (⟨b, off, none⟩ : Addr).add k = ⟨b, off + k, none⟩ := by unfold Addr.add; split <;> simp_all
    rw [hadd] at hc
    rw [hc]
    have hzk : zs[k]? = some zs[k] := List.getElem?_eq_getElem (by omega)
    have hg : zs.getD k 0 = zs[k] := by rw [List.getD_eq_getElem?_getD, hzk]; rfl
    rw [hg, byte_cell (hwz _ (List.getElem_mem _)), ← hu]
    simp [hk, hzk]
theorem bytesOf_u8 : Try.prog.bytesOf 5 = 1 := by kernel_rfl
/-- at most so many -/
theorem bytes_reach {ts : List TypeId} {ds : List (DataW H)} (h : (DataW.weightsEach Try.prog ts ds).all (· ≤ reachBytes) = true) {j len cap : Nat} {d : DataW H} (ht : ts[j]? = some 22) (hd : ds[j]? = some d)
    (hs : (d = .nil ∧ cap = 0) ∨ ∃ zs : List Int, d = .slice (lits .u8 (zs.take len)) (lits .u8 (zs.drop len)) ∧ zs.length = cap) : cap ≤ 140737488351232 := by
  rcases hs with ⟨_, rfl⟩ | ⟨zs, rfl, hz⟩
  · omega
  · have := sized_slice h ht hd Try.underlying22
    rw [bytesOf_u8] at this
    simp only [lits, List.length_map, List.length_take, List.length_drop, reachBytes] at this
    omega
/-- of what is of small bulk -/
theorem one_bulk (d : DataW H) : 1 ≤ Rows.uptoBulk d := by
  cases d with
  | lit l => cases l <;> simp [Rows.uptoBulk]
  | nil => simp [Rows.uptoBulk]
  | ptr d => simp [Rows.uptoBulk]
  | slice elems spare => simp [Rows.uptoBulk]
  | agg parts => simp [Rows.uptoBulk]
  | iface t d => simp [Rows.uptoBulk]
  | map entries => simp [Rows.uptoBulk]
  | held h => simp [Rows.uptoBulk]
theorem length_bulk (l : List (DataW H)) : l.length ≤ Rows.uptoBulkAll l := by
  induction l with
  | nil => simp [Rows.uptoBulkAll]
  | cons x r ih => have := one_bulk x; simp only [Rows.uptoBulkAll, List.length_cons]; omega
theorem bytes_bulk {len cap : Nat} {d : DataW H} (hs : (d = .nil ∧ cap = 0) ∨ ∃ zs : List Int, d = .slice (lits .u8 (zs.take len)) (lits .u8 (zs.drop len)) ∧ zs.length = cap) : cap ≤ Rows.uptoBulk d := by
  rcases hs with ⟨_, rfl⟩ | ⟨zs, rfl, hz⟩
  · omega
  · have h1 := length_bulk (H := H) (lits .u8 (zs.take len))
    have h2 := length_bulk (H := H) (lits .u8 (zs.drop len))
    simp only [Rows.uptoBulk]
    simp only [lits, List.length_map, List.length_take, List.length_drop] at h1 h2
    simp only [lits]
    omega
theorem string_bulk (bytes : List UInt8) : Rows.uptoBulk (DataW.lit (H := H) (.string bytes)) = bytes.length + 1 := by simp [Rows.uptoBulk]
end
end Go.Proofs.Ythfoaefdifbfaaa
