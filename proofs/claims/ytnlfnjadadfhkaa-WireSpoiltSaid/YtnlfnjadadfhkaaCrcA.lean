/-
  The walks of the sum's functions (crc.halves, crc.More, crc.Sum) and of the document's (shift, More, Sum).
-/
import Derived.Test.YtnlfnjadadfhkaaProg
import Derived.Test.YtnlfnjadadfhkaaMem
import Derived.Test.YtnlfnjadadfhkaaCrcMath
namespace Go.Proofs.Ytnlfnjadadfhkaa
open Go.RowKit

/-- the table as the call hands it back -/
theorem halves_any (w : World) : Calls Try.prog 58 #[] w fun e w' => e = .returned (.agg #[.int .u32 0, .int .u32 274646895, .int .u32 549293790, .int .u32 820201905, .int .u32 1098587580, .int .u32 1361435347, .int .u32 1640403810, .int .u32 1905808397, .int .u32 2197175160, .int .u32 2460548119, .int .u32 2722870694, .int .u32 2987750089, .int .u32 3280807620, .int .u32 3553878443, .int .u32 3811616794, .int .u32 4084100981]) ∧ Below w.heap.size w w' := by
  go_enter Try.func58, Try.ntmps58
  go_wp2
  go_returns
  exact ⟨rfl, (Below.refl _ _).alloc (Nat.le_refl _) _⟩

theorem ret_u32 {a b : Int} (h : a = b) : Ending.returned (.int .u32 a) = .returned (.int .u32 b) := by rw [h]
theorem shift_any (c : Nat) (hc : c < 4294967296) (w : World) : Calls Try.prog 59 #[.int .u32 (c : Int)] w fun e w' => e = .returned (.int .u32 (Crc.sh c : Int)) ∧ w = w' := by
  have e1 : bits .xor .u32 ((c : Int) / 2) 2197175160 = ((c / 2 ^^^ 2197175160 : Nat) : Int) := by
    have := u32_xor_nat (c / 2) 2197175160 (by omega) (by omega)
    simpa using this
  rcases Nat.mod_two_eq_zero_or_one c with hp | hp
  · have ht : (((c : Int) % 2) == 1) = false := by rw [beq_eq_false_iff_ne]; omega
    have hs : Crc.sh c = c / 2 := by unfold Crc.sh; rw [if_neg (by omega)]; simp
    have HS := hide hs; clear hs hp
    go_enter Try.func59, Try.ntmps59
    go_wp2
    go_ret
    exact ⟨ret_u32 (by rw [HS.out]; omega), rfl⟩
  · have ht : (((c : Int) % 2) == 1) = true := by rw [beq_iff_eq]; omega
    have hs : Crc.sh c = c / 2 ^^^ 2197175160 := by unfold Crc.sh; rw [if_pos hp]
    have HS := hide hs; clear hs hp
    go_enter Try.func59, Try.ntmps59
    go_wp2
    go_ret
    exact ⟨ret_u32 (by rw [HS.out]; try exact e1), rfl⟩

/-- one half of a round, in the walk's own terms -/
theorem half_terms (d : Nat) (hd : d < 4294967296) : ∃ j d', j < 16 ∧ j = d % 16 ∧ d' = Crc.sh4 d ∧ d' < 4294967296 ∧ bits .and .u32 (d : Int) 15 = (j : Int) ∧ bits .xor .u32 ((d : Int) / 16) (Crc.tab j : Int) = (d' : Int) := by
  refine ⟨d % 16, Crc.sh4 d, Nat.mod_lt _ (by omega), rfl, rfl, Crc.sh4_lt hd, ?_, ?_⟩
  · have := u32_and_nat d 15 hd (by omega)
    rw [nat_mask4] at this
    exact this
  · have := u32_xor_nat (d / 16) (Crc.tab (d % 16)) (by omega) (Crc.tab_lt _)
    rw [Crc.half_step] at this
    exact this

set_option maxHeartbeats 400000 in
theorem cmore_walk (s : Nat) (hs : s < 4294967296) (A : Option Addr) (n c : Nat) (bs : List UInt8) (w : World) (hb : SlB w w.heap.size A n bs) (hm : n ≤ 9223372036854775807) :
    Calls Try.prog 53 #[.int .u32 (s : Int), .slice A n c] w fun e w' => e = .returned (.int .u32 (Crc.more s bs : Int)) ∧ Below w.heap.size w w' := by
  obtain ⟨u, hu, hul, e0⟩ : ∃ u : Nat, u = 4294967295 - s ∧ u < 4294967296 ∧ bits BinOp.xor IntKind.u32 IntKind.u32.max (s : Int) = (u : Int) := by
    refine ⟨_, rfl, by omega, ?_⟩
    have := u32_xor_nat 4294967295 s (by omega) hs
    rw [← Crc.turned hs] at this
    exact this
  have HB := hide hb; have HU := hide hu; clear hb hu hs
  go_enter Try.func53, Try.ntmps53
  go_wp2_with fail
  refine (halves_any _).mono ?_
  rintro e w1 ⟨rfl, hb1⟩
  go_wp2_with fail
  have hz : w.heap.size ≤ w1.heap.size := hb1.size
  go_loopw [0, 13] (fun v0 v13 wr => ∃ k d : Nat, k ≤ n ∧ d < 4294967296 ∧ v13 = .int .i64 k ∧ v0 = .int .u32 d ∧ d = Crc.runB u (bs.take k) ∧ Below w.heap.size w wr ∧ ∀ j, j < 16 → wr.cell? ⟨w1.heap.size, j, none⟩ = some (.int .u32 (Crc.tab j : Int)))
    (fun _ i _ => n - (intOf i).toNat)
  case atStart =>
    refine ⟨0, u, by omega, hul, rfl, rfl, by simp [Crc.runB], hb1.alloc hz _, ?_⟩
    intro j hj
    rw [World.cell?_alloc_at _ _ _ _ rfl]
    have : ∀ j, j < 16 → Crc.tab j = ([0, 274646895, 549293790, 820201905, 1098587580, 1361435347, 1640403810, 1905808397, 2197175160, 2460548119, 2722870694, 2987750089, 3280807620, 3553878443, 3811616794, 4084100981] : List Nat).getD j 0 := by decide +kernel
    rw [this j hj]
    clear this
    match j, hj with
    | 0, _ | 1, _ | 2, _ | 3, _ | 4, _ | 5, _ | 6, _ | 7, _ | 8, _ | 9, _ | 10, _ | 11, _ | 12, _ | 13, _ | 14, _ | 15, _ => rfl
    | j + 16, hj => exact absurd hj (by omega)
  case round =>
    obtain ⟨k, d, hk, hd, rfl, rfl, hdk, hbr, hT⟩ := hrel
    have HT := hide hT; have HD := hide hdk; have HW := hide hbr; clear hT hdk hbr e0
    by_cases hlt : k < n
    · obtain ⟨b, off, rfl, hbb, hc⟩ := (HB.out.below HW.out (Nat.le_refl _)).spot (by omega)
      have hl := HB.out.len
      have hck := hc k (by omega)
      obtain ⟨x, hx⟩ : ∃ x, x = bs[k]'(by omega) := ⟨_, rfl⟩
      rw [← hx] at hck
      have hx256 := x.toNat_lt
      obtain ⟨d1, hd1, hd1l, e1⟩ : ∃ d1 : Nat, d1 = d ^^^ x.toNat ∧ d1 < 4294967296 ∧ bits .xor .u32 (d : Int) (x.toNat : Int) = (d1 : Int) :=
        ⟨_, rfl, Crc.xor_lt hd (by omega), u32_xor_nat _ _ hd (by omega)⟩
      obtain ⟨j, d2, hj, hjm, hd2, hd2l, e2, e3⟩ := half_terms d1 hd1l
      obtain ⟨j', d3, hj', hjm', hd3, hd3l, e4, e5⟩ := half_terms d2 hd2l
      have c1 := HT.out j hj
      have c2 := HT.out j' hj'
      have HR : Hid (d3 = Crc.runB u (bs.take (k + 1))) := hide (by
        rw [List.take_succ_eq_append_getElem (by omega), Crc.runB_snoc, ← HD.out, ← hx, hd3, hd2, hd1]; rfl)
      clear hl hx hd1 hjm hd2 hjm' hd3 hc
      go_wp2
      go_roundw
      case rel => exact ⟨k + 1, d3, by omega, by assumption, by go_num, rfl, HR.out, HW.out, HT.out⟩
      case measure => simp [intOf]; omega
    · have hkn : k = n := by omega
      have HL := hide HB.out.len
      have hlast : bits BinOp.xor IntKind.u32 IntKind.u32.max (d : Int) = (Crc.more s bs : Int) := by
        have h1 := u32_xor_nat 4294967295 d (by omega) hd
        rw [← Crc.turned hd] at h1
        rw [show IntKind.u32.max = ((4294967295 : Nat) : Int) from rfl, h1]
        unfold Crc.more
        rw [← HU.out, HD.out, List.take_of_length_le (by have := HL.out; omega)]
      clear hkn
      go_wp2
      go_ret
      exact ⟨rfl, HW.out⟩
/-- crc.More, of every sum and bytes -/
theorem cmore_any (s : Int) (h0 : 0 ≤ s) (hs : s < 4294967296) (A : Option Addr) (n c : Nat) (bs : List UInt8) (w : World) (hb : SlB w w.heap.size A n bs) (hm : n ≤ 9223372036854775807) :
    Calls Try.prog 53 #[.int .u32 s, .slice A n c] w fun e w' => e = .returned (.int .u32 (Crc.more s.toNat bs : Int)) ∧ Below w.heap.size w w' := by
  obtain ⟨m, rfl⟩ := Int.eq_ofNat_of_zero_le h0
  rw [Int.toNat_natCast]
  exact cmore_walk m (by omega) A n c bs w hb hm

theorem csum_any (A : Option Addr) (n c : Nat) (bs : List UInt8) (w : World) (hb : SlB w w.heap.size A n bs) (hm : n ≤ 9223372036854775807) :
    Calls Try.prog 33 #[.slice A n c] w fun e w' => e = .returned (.int .u32 (Crc.more 0 bs : Int)) ∧ Below w.heap.size w w' := by
  have HB := hide hb; clear hb
  go_enter Try.func33, Try.ntmps33
  go_wp2_with fail
  refine (cmore_any 0 (by omega) (by omega) A n c bs _ HB.out hm).mono ?_
  rintro e w1 ⟨rfl, hb1⟩
  go_wp2_with fail
  go_ret
  exact ⟨rfl, hb1⟩
end Go.Proofs.Ytnlfnjadadfhkaa
