/-
  The walk of octet.sixes.
-/
import Derived.Test.YthfoaefdifbfaaaProg
import Derived.Test.YthfoaefdifbfaaaOwn
import Derived.Test.YthfoaefdifbfaaaOctA
import Derived.Test.YthfoaefdifbfaaaOctMore
import Derived.Test.YthfoaefdifbfaaaWide
import Derived.WalkMore
import Derived.IntWalk
import Derived.Deep.QuietTactic
import Derived.BigQuiet
import Derived.WalkLawsBesides
import Derived.Deep.LoopGhost
import Derived.Deep.DeepMust
import Derived.Laws.BitsAllLaws
namespace Go.Proofs.Ythfoaefdifbfaaa
open Go.RowKit

theorem ofInt_i64 (a : Nat) (ha : a < 9223372036854775808) : (BitVec.ofInt 64 (a : Int)).toNat = a := by
  rw [BitVec.ofInt_natCast, BitVec.toNat_ofNat]; exact Nat.mod_eq_of_lt (by omega)
theorem i64_or_nat (a b : Nat) (ha : a < 9223372036854775808) (hb : b < 9223372036854775808) : bits .or .i64 (a : Int) (b : Int) = ((a ||| b : Nat) : Int) := by
  have hx : a ||| b < 2 ^ 63 := Nat.or_lt_two_pow (by omega) (by omega)
  show IntKind.i64.wrap ((BitVec.ofInt 64 (a : Int) ||| BitVec.ofInt 64 (b : Int)).toNat : Int) = _
  rw [BitVec.toNat_or, ofInt_i64 a ha, ofInt_i64 b hb, IntKind.wrap_i64]
  omega
theorem i64_and_nat (a b : Nat) (ha : a < 9223372036854775808) (hb : b < 9223372036854775808) : bits .and .i64 (a : Int) (b : Int) = ((a &&& b : Nat) : Int) := by
  have hx : a &&& b < 2 ^ 63 := Nat.and_lt_two_pow _ (by omega)
  show IntKind.i64.wrap ((BitVec.ofInt 64 (a : Int) &&& BitVec.ofInt 64 (b : Int)).toNat : Int) = _
  rw [BitVec.toNat_and, ofInt_i64 a ha, ofInt_i64 b hb, IntKind.wrap_i64]
  omega
theorem i64_low (a k : Nat) (hk : k < 63) (ha : a < 9223372036854775808) : bits .and .i64 (a : Int) ((2 ^ k : Nat) - 1 : Int) = ((a % 2 ^ k : Nat) : Int) := by
  have h1 : 1 ≤ 2 ^ k := Nat.one_le_two_pow
  have h2 : 2 ^ k ≤ 2 ^ 62 := Nat.pow_le_pow_right (by omega) (by omega)
  have := i64_and_nat a (2 ^ k - 1) ha (by omega)
  rw [Nat.and_two_pow_sub_one_eq_mod] at this
  rw [← this]
  congr 1
  omega

theorem low_wrap : ∀ k, k ≤ 7 → wrap64 (wrap64 (2 ^ k) - 1) = ((2 ^ k : Nat) : Int) - 1 := by decide +kernel
theorem ret_val {k : IntKind} {a b : Int} (h : a = b) : Value.int k a = .int k b := by rw [h]
theorem string_getD {s : ByteArray} {v : Nat} (h : v < s.size) {y : UInt8} (hy : y = s[v]) : s.data.toList.getD v 0 = y := by
  rw [List.getD_eq_getElem?_getD, List.getElem?_eq_getElem (by simpa using h), hy]; rfl
theorem shl_le (h k : Nat) (h1 : h < 2 ^ k) (hk : k < 6) : h * 2 ^ (6 - k) < 64 := by
  have : h * 2 ^ (6 - k) < 2 ^ k * 2 ^ (6 - k) := Nat.mul_lt_mul_of_pos_right h1 (Nat.two_pow_pos _)
  rwa [← Nat.pow_add, show k + (6 - k) = 6 by omega] at this
/-- the signs of the first g groups -/
def outS (signs : List UInt8) (L : List Bool) (g : Nat) : List Value := ((Oct.grps 6 L g).map (signs.getD · 0)).map bv
theorem outS_succ (signs : List UInt8) (L : List Bool) (g : Nat) : outS signs L (g + 1) = outS signs L g ++ [bv (signs.getD (Oct.grp 6 L g) 0)] := by simp [outS, Oct.grps_succ]
theorem outS_length (signs : List UInt8) (L : List Bool) (g : Nat) : (outS signs L g).length = g := by simp [outS, Oct.grps_length]

set_option maxHeartbeats 1000000 in
theorem sixes_any (s : ByteArray) (A : Option Addr) (n c : Nat) (bs : List UInt8) (w : World) (hs : s.size = 64) (hb : SlB w w.heap.size A n bs) (hn : n ≤ 140737488351232) :
    Calls Try.prog 35 #[.string s, .slice A n c] w fun e w' => ∃ A2 m c2, e = .returned (.slice A2 m c2) ∧ m = (4 * n + 2) / 3 ∧ Own w' w.heap.size 5 A2 m c2 ((Oct.webL s.data.toList bs).map bv) ∧ Below w.heap.size w w' := by
  have hlen := hb.len
  have HB := hide hb; clear hb
  go_enter Try.func35, Try.ntmps35
  go_wp2_with fail
  go_loopw [5, 6, 7, 12] (fun v5 v6 v7 v12 wr => ∃ (i g nb : Nat) (h : Nat) (A2 : Option Addr) (c2 : Nat), i ≤ n ∧ v12 = .int .i64 i ∧ v7 = .int .i64 nb ∧ v6 = .int .i64 h ∧ v5 = .slice A2 g c2 ∧ nb < 6 ∧ 8 * i = 6 * g + nb ∧ h < 32 ∧ Hid (h = Oct.num ((Oct.bitsL (bs.take i)).drop (6 * g))) ∧ Hid (Own wr w.heap.size 5 A2 g c2 (outS s.data.toList (Oct.bitsL (bs.take i)) g)) ∧ Hid (Below w.heap.size w wr)) (fun _ _ _ y _ => n - (intOf y).toNat)
  case atStart => exact ⟨0, 0, 0, 0, none, 0, by omega, rfl, rfl, rfl, rfl, by omega, by omega, by omega, hide rfl, hide Own.nil_, hide (Below.refl _ _)⟩
  case round =>
    obtain ⟨i, g, nb, h, A2, c2, hi, rfl, rfl, rfl, rfl, hnb, h8, h32, HH, HO, HR⟩ := hrel
    by_cases hlt : i < n
    · obtain ⟨b, off, x, rfl, hbb, e1, X1⟩ := (HB.out.below HR.out (Nat.le_refl _)).byte (show i < n by omega)
      have hx256 := x.toNat_lt
      obtain ⟨h2, hh2⟩ : ∃ h2, h2 = h * 256 + x.toNat := ⟨_, rfl⟩
      have eor : bits .or .i64 ((h : Int) * 256) (x.toNat : Int) = (h2 : Int) := by
        have := i64_or_nat (h * 256) x.toNat (by omega) (by omega)
        rw [show h * 256 = h * 2 ^ 8 from rfl, Oct.or_low (by omega)] at this
        rw [hh2]
        simpa using this
      have w8 : IntKind.i64.wrap ((nb : Int) + 8) = ((nb + 8 : Nat) : Int) := IntWalk.i64_in _ (by omega) |>.trans (by omega)
      have w9 : IntKind.i64.wrap ((h : Int) * 256) = (h : Int) * 256 := IntWalk.i64_in _ (by omega)
      have HQ := hide hh2; clear hh2
      go_wp2_with fail
      go_step3
      go_wp2_with fail
      go_step3
      go_wp2_with fail
      have HH2 : Hid (h2 = Oct.num ((Oct.bitsL (bs.take (i + 1))).drop (6 * g))) := hide (by rw [HQ.out, HH.out, take_snoc X1.out, Oct.bitsL_snoc, List.drop_append_of_le_length (by rw [Oct.bitsL_length]; simp; omega), Oct.num_more8])
      have HO2 : Hid (Own wr w.heap.size 5 A2 g c2 (outS s.data.toList (Oct.bitsL (bs.take (i + 1))) g)) := hide (by
        have := HO.out
        unfold outS at this ⊢
        rwa [take_snoc X1.out, Oct.bitsL_snoc, Oct.grps_append (by rw [Oct.bitsL_length]; simp; omega)])
      have HL2 : Hid ((Oct.bitsL (bs.take (i + 1))).length = 8 * (i + 1)) := hide (by rw [Oct.bitsL_length]; simp; omega)
      go_loopw [5, 6, 7] (fun v5 v6 v7 wr2 => ∃ (g2 nb2 h3 : Nat) (A3 : Option Addr) (c3 : Nat), v7 = .int .i64 nb2 ∧ v6 = .int .i64 h3 ∧ v5 = .slice A3 g2 c3 ∧ nb2 ≤ 13 ∧ 8 * (i + 1) = 6 * g2 + nb2 ∧ Hid (h3 = Oct.num ((Oct.bitsL (bs.take (i + 1))).drop (6 * g2))) ∧ Hid (Own wr2 w.heap.size 5 A3 g2 c3 (outS s.data.toList (Oct.bitsL (bs.take (i + 1))) g2)) ∧ Hid (Below w.heap.size w wr2)) (fun _ _ y _ => (intOf y).toNat)
      case atStart => exact ⟨g, nb + 8, h2, A2, c2, by go_num, rfl, rfl, by omega, by omega, HH2, HO2, HR⟩
      case round =>
        obtain ⟨g2, nb2, h3, A3, c3, rfl, rfl, rfl, hnb2, h82, HH3, HO3, HR3⟩ := hrel
        have hh3 := Oct.inner_lt (HL2.out.trans h82) HH3.out
        by_cases hlt2 : nb2 < 6
        · have hh4 : h3 < 2 ^ 5 := Nat.lt_of_lt_of_le hh3 (Nat.pow_le_pow_right (by omega) (by omega))
          clear hh3
          go_wp2
          rw [Exit.noGoto_normal]
          go_wp2
          go_roundw
          case rel => exact ⟨i + 1, g2, nb2, h3, A3, c3, by omega, by go_num, rfl, rfl, rfl, by omega, by omega, by omega, HH3, HO3, HR3⟩
          case measure => simp [intOf]; omega
        · obtain ⟨k, rfl⟩ : ∃ k, nb2 = k + 6 := ⟨nb2 - 6, by omega⟩
          obtain ⟨q1, q2, q3⟩ := Oct.inner_step (HL2.out.trans h82) HH3.out
          obtain ⟨v, hv⟩ : ∃ v, v = Oct.grp 6 (Oct.bitsL (bs.take (i + 1))) g2 := ⟨_, rfl⟩
          obtain ⟨h4, hh4⟩ : ∃ h4, h4 = Oct.num ((Oct.bitsL (bs.take (i + 1))).drop (6 * (g2 + 1))) := ⟨_, rfl⟩
          rw [← hv] at q1 q3
          rw [← hh4] at q2
          have hvs : v < s.size := by omega
          obtain ⟨y, hy⟩ : ∃ y, y = s[v] := ⟨_, rfl⟩
          have hyx : s[v] = y := hy.symm
          have hp1 : 1 ≤ 2 ^ k := Nat.one_le_two_pow
          have hp2 : 2 ^ k ≤ 2 ^ 7 := Nat.pow_le_pow_right (by omega) (by omega)
          have hh5 : h3 < 2 ^ 13 := Nat.lt_of_lt_of_le hh3 (Nat.pow_le_pow_right (by omega) (by omega))
          have eshr : (h3 : Int) / 2 ^ k = (v : Int) := by rw [← q1]; simp
          have eand := i64_low h3 k (by omega) (by omega)
          rw [q2, ← low_wrap k (by omega)] at eand
          have EA := hide eand; clear eand
          have HV := hide hv; have H4 := hide hh4; have HY := hide hy
          clear hv hh4 hy q1 q2 hp1 hh5 hh3
          have hq1 : g2 + 1 ≤ maxLen := by unfold maxLen; omega
          have hq2 : ((g2 + 1) + (g2 + 1) / 4 + 192) * 1 ≤ 281474976710656 := by omega
          have HSZ := hide HR3.out.size
          go_wp2_with (at_builtin; go_must (with_reducible refine wpList_appW rfl (.tmp 27) (.tmp 33) 22 rfl (.int .u8 0) 1 Try.underlying22 info_u8 (cells_int _ _) rfl (HO3.out.alloc _) rfl Sl.one (one_int _ _) hq1 hq2 (by have := HSZ.out; rw [World.size_alloc]; omega) ?_))
          intro A4 c4 w4 hown hgr
          have HR4 : Hid (Below w.heap.size w w4) := hide (below_of_grown (HR3.out.alloc HR3.out.size _) hgr (by have := HSZ.out; rw [World.size_alloc]; omega) HO3.out.row_ge)
          have HO4 : Hid (Own w4 w.heap.size 5 A4 (g2 + 1) c4 (outS s.data.toList (Oct.bitsL (bs.take (i + 1))) (g2 + 1))) := hide (by
            rw [outS_succ, ← HV.out, string_getD hvs HY.out]; exact hown)
          clear hown hgr
          go_wp2
          go_roundw
          case rel => exact ⟨g2 + 1, k, h4, A4, c4, by go_num, ret_val EA.out, rfl, by omega, by omega, H4, HO4, HR4⟩
          case measure => simp [intOf]; omega
    · obtain rfl : i = n := by omega
      have hbl : (Oct.bitsL bs).length = 6 * g + nb := by rw [Oct.bitsL_length]; omega
      have etake : bs.take i = bs := List.take_of_length_le (by omega)
      have eg : (Oct.bitsL bs).length / 6 = g := by omega
      have em : (Oct.bitsL bs).length % 6 = nb := by omega
      rw [etake] at HH HO
      by_cases hnb0 : nb = 0
      · subst hnb0
        have HE : Hid ((Oct.webL s.data.toList bs).map bv = outS s.data.toList (Oct.bitsL bs) g) := hide (by
          unfold Oct.webL; rw [Oct.six_fill_even _ em, eg]; rfl)
        clear hbl etake eg em
        go_wp2
        go_ret
        exact ⟨_, _, _, rfl, by omega, by rw [HE.out]; exact HO.out, HR.out⟩
      · obtain ⟨v, hv⟩ : ∃ v, v = h * 2 ^ (6 - nb) := ⟨_, rfl⟩
        have hlt6 := Oct.inner_lt hbl HH.out
        have hv64 : v < 64 := by rw [hv]; exact shl_le h nb hlt6 hnb
        have hvs : v < s.size := by omega
        obtain ⟨y, hy⟩ : ∃ y, y = s[v] := ⟨_, rfl⟩
        have hyx : s[v] = y := hy.symm
        have HE : Hid ((Oct.webL s.data.toList bs).map bv = outS s.data.toList (Oct.bitsL bs) g ++ [bv y]) := hide (by
          unfold Oct.webL; rw [Oct.six_fill_odd _ (by omega), eg, em, ← HH.out, ← hv, string_getD hvs hy]; simp [outS])
        have hw : wrap64 ((h : Int) * 2 ^ (6 - nb)) = (v : Int) := by
          have e : (h : Int) * 2 ^ (6 - nb) = (v : Int) := by rw [hv]; simp
          rw [e]; unfold wrap64; omega
        clear hlt6
        have HQ := hide hv; have HY := hide hy
        clear hv hy hbl etake eg em
        have hq1 : g + 1 ≤ maxLen := by unfold maxLen; omega
        have hq2 : ((g + 1) + (g + 1) / 4 + 192) * 1 ≤ 281474976710656 := by omega
        have HSZ := hide HR.out.size
        go_wp2_with (at_builtin; go_must (with_reducible refine wpList_appW rfl (.tmp 43) (.tmp 50) 22 rfl (.int .u8 0) 1 Try.underlying22 info_u8 (cells_int _ _) rfl (HO.out.alloc _) rfl Sl.one (one_int _ _) hq1 hq2 (by have := HSZ.out; rw [World.size_alloc]; omega) ?_))
        intro A4 c4 w4 hown hgr
        have HR4 : Hid (Below w.heap.size w w4) := hide (below_of_grown (HR.out.alloc HR.out.size _) hgr (by have := HSZ.out; rw [World.size_alloc]; omega) HO.out.row_ge)
        have HO4 : Hid (Own w4 w.heap.size 5 A4 (g + 1) c4 ((Oct.webL s.data.toList bs).map bv)) := hide (by
          rw [HE.out]; exact hown)
        clear hown hgr
        go_wp2
        go_ret
        exact ⟨_, _, _, rfl, by omega, HO4.out, HR4.out⟩
end Go.Proofs.Ythfoaefdifbfaaa
