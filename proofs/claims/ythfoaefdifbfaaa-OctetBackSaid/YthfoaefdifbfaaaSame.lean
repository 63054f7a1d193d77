/-
  The walks of signetref01.Same and signetref01.Copy.
-/
import Derived.Test.YthfoaefdifbfaaaProg
import Derived.Test.YthfoaefdifbfaaaMem
import Derived.Deep.QuietTactic
import Derived.BigQuiet
import Derived.Laws.CopyOwn
namespace Go.Proofs.Ythfoaefdifbfaaa
open Go.RowKit

theorem take_same {xs ys : List UInt8} {k : Nat} {x : UInt8} (hx : xs[k]? = some x) (hy : ys[k]? = some x) (h : xs.take k = ys.take k) : xs.take (k + 1) = ys.take (k + 1) := by
  rw [take_snoc hx, take_snoc hy, h]
theorem ret_bool {a b : Bool} (h : a = b) : Ending.returned (.bool a) = .returned (.bool b) := by rw [h]
theorem below_drewN {B : Nat} {a w : World} (h : Below B a w) (n : Nat) : Below B a (w.drewN n) := ⟨h.os, h.tape, h.output, h.size, h.block⟩
theorem u8_int_eq {a b : UInt8} (h : ((a.toNat : Int) == (b.toNat : Int)) = true) : a = b := by
  rw [beq_iff_eq] at h; exact UInt8.toNat_inj.1 (by omega)

set_option maxHeartbeats 400000 in
theorem same_any (A B : Option Addr) (n m c d : Nat) (xs ys : List UInt8) (w : World) (ha : SlB w w.heap.size A n xs) (hb : SlB w w.heap.size B m ys) (hn : n ≤ 9223372036854775807) (hm : m ≤ 9223372036854775807) :
    Calls Try.prog 24 #[.slice A n c, .slice B m d] w fun e w' => e = .returned (.bool (decide (xs = ys))) ∧ Below w.heap.size w w' := by
  have HA := hide ha; have HB := hide hb; clear ha hb
  by_cases hnm : n = m
  · subst hnm
    have hz : ((n : Int) != (n : Int)) = false := by simp
    go_enter Try.func24, Try.ntmps24
    go_wp2_with fail
    go_loopw [5] (fun v5 wr => ∃ k p : Nat, k ≤ n ∧ v5 = .int .i64 k ∧ wr = w.drewN p ∧ Hid (xs.take k = ys.take k)) (fun i _ => n - (intOf i).toNat)
    case atStart => exact ⟨0, 0, by omega, rfl, rfl, hide (by simp)⟩
    case round =>
      obtain ⟨k, p, hk, rfl, rfl, HT⟩ := hrel
      by_cases hlt : k < n
      · obtain ⟨b, off, x, rfl, hbb, c1, HX⟩ := HA.out.byte hlt
        obtain ⟨b', off', y, rfl, hbb', c2, HY⟩ := HB.out.byte hlt
        have hk0 : (0 : Int) ≤ (k : Int) := by omega
        have hkn : (k : Int) < (n : Int) := by omega
        by_cases hxy : x = y
        · subst hxy
          go_wp2_with fail
          go_quiet (fail)
          go_wp2_with fail
          go_roundw
          case rel => exact ⟨k + 1, _, by omega, by go_num, rfl, hide (take_same HX.out HY.out HT.out)⟩
          case measure => simp [intOf]; omega
        · have hne : ((x.toNat : Int) != (y.toNat : Int)) = true := by
            rw [bne_iff_ne]; intro h; exact hxy (UInt8.toNat_inj.1 (by omega))
          have HN : Hid (xs ≠ ys) := hide (by
            intro h; subst h; have := HX.out.symm.trans HY.out; injection this with this; exact hxy this)
          clear hxy
          go_wp2_with fail
          go_quiet (fail)
          go_wp2_with fail
          go_ret
          exact ⟨ret_bool (by simp [HN.out]), ⟨rfl, rfl, rfl, Nat.le_refl _, fun _ _ => rfl⟩⟩
      · have HE : Hid (xs = ys) := hide (by
          have := HT.out
          rwa [List.take_of_length_le (by have := HA.out.len; omega), List.take_of_length_le (by have := HB.out.len; omega)] at this)
        go_wp2_with fail
        go_ret
        exact ⟨ret_bool (by simp [HE.out]), below_drewN (Below.refl _ _) _⟩
  · have hz : ((n : Int) != (m : Int)) = true := by rw [bne_iff_ne]; omega
    have HN : Hid (xs ≠ ys) := hide (by
      intro h; subst h; exact hnm (HA.out.len.symm.trans HB.out.len))
    clear hnm
    go_enter Try.func24, Try.ntmps24
    go_wp2_with fail
    go_ret
    exact ⟨ret_bool (by simp [HN.out]), Below.refl _ _⟩

theorem copy_src {w : World} {B : Nat} {A : Option Addr} {n : Nat} {bs : List UInt8} (h : SlB w B A n bs) (D : Option Addr) :
    0 < (bs.map bv).length → D = D ∧ ∃ ad, A = some ad ∧ ∀ j v, (bs.map bv)[j]? = some v → w.cell? (ad.add j) = some v := by
  intro h0
  obtain ⟨b, off, rfl, _, hc⟩ := h.2 (by have := h.len; simpa [this] using h0)
  exact ⟨rfl, _, rfl, fun j v hv => by
    have := hc j v hv
    unfold Addr.add
    split
    · rename_i hj; subst hj; simpa using this
    · exact this⟩
theorem made_block (w : World) (n t : Nat) : (w.alloc (.cells (Array.replicate n (Value.int .u8 0)) t)).heap[w.heap.size]? = some (.cells (List.replicate n (Value.int .u8 0)).toArray t (0, 0)) := by
  rw [heap_alloc_new]; simp
theorem bytes_oneCell (bs : List UInt8) : ∀ v ∈ bs.map bv, v.oneCell' = true := by
  intro v hv; obtain ⟨x, _, rfl⟩ := List.mem_map.1 hv; rfl

theorem info_u8 : (Try.prog.info? 5).map (fun i => (i.zero, i.size, i.bytes)) = some (some (.int .u8 0), 1, 1) := by kernel_rfl
theorem size_u8 : (Try.prog.info? 5).map (·.size) = some 1 := by kernel_rfl
set_option maxRecDepth 100000 in
theorem make_bytes (kl kc : IntKind) (n : Nat) (hn : n ≤ 281474976710656) (W : World) :
    (Instr.makeSlice 22 (.int kl (n : Int)) (.int kc (n : Int))).run Try.prog W = .ok (.slice (some ⟨W.heap.size, 0, none⟩) n n) (W.alloc (.cells (Array.replicate n (Value.int .u8 0)) 5)) := by
  obtain ⟨i0, hi, hz0, hz1, hz2⟩ := info_parts info_u8
  have h := run_make (P := Try.prog) (w := W) 22 5 i0 (.int .u8 0) Try.underlying22 hi hz0 kl kc (n : Int) (n : Int) (by omega) (by omega) (by rw [hz2]; omega) (by omega)
  rw [h, hz1]
  simp only [Int.toNat_natCast, Nat.mul_one]
  congr 3
  apply Array.ext
  · simp [size_madeCells]
  · intro i h1 h2
    simp [madeCells, Value.cells, Nat.mod_one]

set_option maxHeartbeats 400000 in
theorem copy_any (A : Option Addr) (n c : Nat) (bs : List UInt8) (w : World) (hb : SlB w w.heap.size A n bs) (hn : n ≤ 281474976710656) :
    Calls Try.prog 25 #[.slice A n c] w fun e w' => e = .returned (.slice (some ⟨w.heap.size, 0, none⟩) n n) ∧ Below w.heap.size w w' ∧ w'.heap[w.heap.size]? = some (.cells (bs.map bv).toArray 5 (0, 0)) := by
  have hl := hide hb.len
  have hmk := make_bytes .i64 .i64 n hn
  have hpos := hide (copy_src (hb.keep (w' := w.alloc (.cells (Array.replicate n (Value.int .u8 0)) 5)) fun b off hlt => World.cell?_alloc_lt w _ _ hlt) (some (⟨w.heap.size, 0, none⟩ : Addr)))
  have hg := hide (made_block w n 5)
  have HB := hide hb; clear hb
  go_enter Try.func25, Try.ntmps25
  go_wp2_with (with_reducible refine wpList_copy_splice rfl (.tmp 7) (.tmp 8) 22 22 rfl 5 Try.underlying22 size_u8 (some ⟨w.heap.size, 0, none⟩) A n n n c rfl rfl w.heap.size 0 (List.replicate n (Value.int .u8 0)) 5 hg.out (bs.map bv) (by simp [hl.out]) hpos.out (by simp [hl.out]) (bytes_oneCell bs) w.heap.size w ((Below.refl _ _).alloc (Nat.le_refl _) _) (Nat.le_refl _) ?_)
  intro w1 h1 h2
  go_wp2_with fail
  go_ret
  refine ⟨rfl, h2, ?_⟩
  have := h1.out
  rwa [show splice (List.replicate n (Value.int .u8 0)) 0 (bs.map bv) = bs.map bv by simp [splice, hl.out]] at this
end Go.Proofs.Ythfoaefdifbfaaa
