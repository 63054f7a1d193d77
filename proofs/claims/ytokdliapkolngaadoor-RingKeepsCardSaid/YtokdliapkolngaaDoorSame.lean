/-
  The walks of signetref01.Same and signetref01.Copy.
-/
import Derived.Test.YtokdliapkolngaaDoorProg
import Derived.Test.YtokdliapkolngaaDoorMem
import Derived.Deep.QuietTactic
import Derived.BigQuiet
import Derived.Laws.CopyOwn
namespace Go.Proofs.YtokdliapkolngaaDoor
open Go.RowKit

theorem take_same {xs ys : List UInt8} {k : Nat} {x : UInt8} (hx : xs[k]? = some x) (hy : ys[k]? = some x) (h : xs.take k = ys.take k) : xs.take (k + 1) = ys.take (k + 1) := by
  rw [take_snoc hx, take_snoc hy, h]
theorem ret_bool {a b : Bool} (h : a = b) : Ending.returned (.bool a) = .returned (.bool b) := by rw [h]
theorem below_drewN {B : Nat} {a w : World} (h : Below B a w) (n : Nat) : Below B a (w.drewN n) := ⟨h.os, h.tape, h.output, h.size, h.block⟩
theorem u8_int_eq {a b : UInt8} (h : ((a.toNat : Int) == (b.toNat : Int)) = true) : a = b := by
  rw [beq_iff_eq] at h; exact UInt8.toNat_inj.1 (by omega)

theorem copy_src {w : World} {B : Nat} {A : Option Addr} {n : Nat} {bs : List UInt8} (h : SlB w B A n bs) (D : Option Addr) :
    0 < (bs.map bv).length → D = D ∧ ∃ ad, A = some ad ∧ ∀ j v, (bs.map bv)[j]? = some v → w.cell? (ad.add j) = some v := by
  intro h0
  obtain ⟨b, off, rfl, _, hc⟩ := h.2 (by have := h.len; simpa [this] using h0)
  exact ⟨rfl, _, rfl, fun j v hv => by
    have := hc j v hv
    unfold Addr.add
    split
    · rename_i hj; subst hj; simpa using this
    · exact this⟩
theorem made_block (w : World) (n t : Nat) : (w.alloc (.cells (Array.replicate n (Value.int .u8 0)) t)).heap[w.heap.size]? = some (.cells (List.replicate n (Value.int .u8 0)).toArray t (0, 0)) := by
  rw [heap_alloc_new]; simp
theorem bytes_oneCell (bs : List UInt8) : ∀ v ∈ bs.map bv, v.oneCell' = true := by
  intro v hv; obtain ⟨x, _, rfl⟩ := List.mem_map.1 hv; rfl

theorem info_u8 : (Tryd.prog.info? 5).map (fun i => (i.zero, i.size, i.bytes)) = some (some (.int .u8 0), 1, 1) := by kernel_rfl
theorem size_u8 : (Tryd.prog.info? 5).map (·.size) = some 1 := by kernel_rfl
set_option maxRecDepth 100000 in
theorem make_bytes (kl kc : IntKind) (n : Nat) (hn : n ≤ 281474976710656) (W : World) :
    (Instr.makeSlice 40 (.int kl (n : Int)) (.int kc (n : Int))).run Tryd.prog W = .ok (.slice (some ⟨W.heap.size, 0, none⟩) n n) (W.alloc (.cells (Array.replicate n (Value.int .u8 0)) 5)) := by
  obtain ⟨i0, hi, hz0, hz1, hz2⟩ := info_parts info_u8
  have h := run_make (P := Tryd.prog) (w := W) 40 5 i0 (.int .u8 0) Tryd.underlying40 hi hz0 kl kc (n : Int) (n : Int) (by omega) (by omega) (by rw [hz2]; omega) (by omega)
  rw [h, hz1]
  simp only [Int.toNat_natCast, Nat.mul_one]
  congr 3
  apply Array.ext
  · simp [size_madeCells]
  · intro i h1 h2
    simp [madeCells, Value.cells, Nat.mod_one]

end Go.Proofs.YtokdliapkolngaaDoor
