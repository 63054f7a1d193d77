/-
  The walk of CrcTogether.
-/
import Derived.Test.YtgldpaedpijhfaaCrcLaws
import Derived.Test.YtgldpaedpijhfaaOwn
import Derived.Test.YtgldpaedpijhfaaExt
import Derived.WalkLawsBesides
import Derived.Deep.RegionHeld3
import Derived.Deep.DrawnRows
import Derived.Deep.DeepMust
namespace Go.Proofs.Ytgldpaedpijhfaa
open Go.RowKit

/-- three rows, byte by byte -/
def xor3 (xs ys zs : List UInt8) : List UInt8 := (xs.zipWith (· ^^^ ·) ys).zipWith (· ^^^ ·) zs
theorem xor3_snoc {xs ys zs : List UInt8} {k : Nat} {x y z : UInt8} (hx : xs[k]? = some x) (hy : ys[k]? = some y) (hz : zs[k]? = some z) :
    xor3 (xs.take (k + 1)) (ys.take (k + 1)) (zs.take (k + 1)) = xor3 (xs.take k) (ys.take k) (zs.take k) ++ [x ^^^ y ^^^ z] := by
  have l1 := (List.getElem?_eq_some_iff.1 hx).1
  have l2 := (List.getElem?_eq_some_iff.1 hy).1
  have l3 := (List.getElem?_eq_some_iff.1 hz).1
  rw [take_snoc hx, take_snoc hy, take_snoc hz]
  unfold xor3
  rw [List.zipWith_append (by simp; omega), List.zipWith_append (by simp; omega)]
  rfl
theorem xor3_length {xs ys zs : List UInt8} {k : Nat} (h1 : k ≤ xs.length) (h2 : k ≤ ys.length) (h3 : k ≤ zs.length) : (xor3 (xs.take k) (ys.take k) (zs.take k)).length = k := by simp [xor3]; omega
theorem SlB.take {w : World} {B n : Nat} {A : Option Addr} {bs : List UInt8} (h : SlB w B A n bs) {k : Nat} (hk : k ≤ n) : SlB w B A k (bs.take k) := by
  have hl := h.len
  refine ⟨by simp; omega, fun hn => ?_⟩
  obtain ⟨b, off, e, hb, hc⟩ := h.2 (by omega)
  refine ⟨b, off, e, hb, fun j u hu => hc j u ?_⟩
  rw [← hu, List.map_take, List.getElem?_take]
  split
  · rfl
  · rename_i hj
    rw [List.map_take, List.getElem?_take, if_neg hj] at hu
    cases hu

theorem int_le_of {N q : Nat} (h : N ≤ q) : (N : Int) ≤ (q : Int) := by omega
theorem int_lt_of {k N q : Nat} (h : k < N) (hq : N ≤ q) : (k : Int) < (q : Int) := by omega
set_option maxHeartbeats 1000000 in
theorem together_walk (A : Option Addr) (n c : Nat) (xs : List UInt8) (A' : Option Addr) (m c' : Nat) (ys : List UInt8) (A'' : Option Addr) (l c'' : Nat) (zs : List UInt8) (w : World)
    (hx : SlB w w.heap.size A n xs) (hy : SlB w w.heap.size A' m ys) (hz : SlB w w.heap.size A'' l zs) (hn : n ≤ 140737488351232) (hm : m ≤ 140737488351232) (hl : l ≤ 140737488351232) (hnc : n ≤ c) (hmc : m ≤ c') (hlc : l ≤ c'') :
    Calls Try.prog 6 #[.slice A n c, .slice A' m c', .slice A'' l c''] w fun e w' => e = .returned (.bool true) ∧ Below w.heap.size w w' := by
  have key : ∃ N : Nat, N ≤ n ∧ N ≤ m ∧ N ≤ l ∧ ((m < n ∧ l < m ∧ N = l) ∨ (m < n ∧ m ≤ l ∧ N = m) ∨ (n ≤ m ∧ l < n ∧ N = l) ∨ (n ≤ m ∧ n ≤ l ∧ N = n)) := by
    by_cases h1 : m < n <;> by_cases h2 : l < m <;> by_cases h3 : l < n
    all_goals first | exact ⟨l, by omega⟩ | exact ⟨m, by omega⟩ | exact ⟨n, by omega⟩
  have HX := hide hx; have HY := hide hy; have HZ := hide hz; clear hx hy hz
  obtain ⟨N, hNn, hNm, hNl, ⟨q1, q2, rfl⟩ | ⟨q1, q2, rfl⟩ | ⟨q1, q2, rfl⟩ | ⟨q1, q2, rfl⟩⟩ := key
  all_goals
    go_enter Try.func6, Try.ntmps6
    go_wp2_with fail
    go_loopw [8, 9] (fun v8 v9 wr => ∃ (k : Nat) (A2 : Option Addr) (c2 : Nat), k ≤ N ∧ v9 = .int .i64 k ∧ v8 = .slice A2 k c2 ∧ Hid (Own wr w.heap.size 5 A2 k c2 ((xor3 (xs.take k) (ys.take k) (zs.take k)).map bv)) ∧ Hid (Below w.heap.size w wr)) (fun _ i _ => N - (intOf i).toNat)
    case atStart => exact ⟨0, none, 0, by omega, rfl, rfl, hide (by simpa [xor3] using Own.nil_), hide (Below.refl _ _)⟩
    case round =>
      obtain ⟨k, A2, c2, hk, rfl, rfl, HO, HR⟩ := hrel
      by_cases hlt : k < N
      · obtain ⟨b, off, x, rfl, hbb, e1, X1⟩ := (HX.out.below HR.out (Nat.le_refl _)).byte (show k < _ by omega)
        obtain ⟨b', off', y, rfl, hbb', e2, X2⟩ := (HY.out.below HR.out (Nat.le_refl _)).byte (show k < _ by omega)
        obtain ⟨b'', off'', z, rfl, hbb'', e3, X3⟩ := (HZ.out.below HR.out (Nat.le_refl _)).byte (show k < _ by omega)
        have hx256 := x.toNat_lt
        have hy256 := y.toNat_lt
        have hz256 := z.toNat_lt
        have f1 := u8_xor_nat x.toNat y.toNat hx256 hy256
        have f2 := u8_xor_nat (x.toNat ^^^ y.toNat) z.toNat (Nat.xor_lt_two_pow (n := 8) hx256 hy256) hz256
        rw [← UInt8.toNat_xor] at f1 f2
        rw [← UInt8.toNat_xor] at f2
        obtain ⟨u, hu⟩ : ∃ u, u = x ^^^ y := ⟨_, rfl⟩
        obtain ⟨v, hv⟩ : ∃ v, v = u ^^^ z := ⟨_, rfl⟩
        rw [← hu] at f1 f2
        rw [← hv] at f2
        have HV := hide (show v = x ^^^ y ^^^ z by rw [hv, hu])
        clear hu hv
        go_wp2_with fail
        have hk0 : (0 : Int) ≤ (k : Int) := by omega
        have hk1 := int_lt_of hlt hNn
        have hk2 := int_lt_of hlt hNm
        have hk3 := int_lt_of hlt hNl
        have hq1 : k + 1 ≤ maxLen := by unfold maxLen; omega
        have hq2 : (k + 1) * 1 ≤ 140737488355328 := by omega
        have HqB : Hid (w.heap.size ≤ ((wr.alloc (.cells #[.int .u8 (v.toNat : Int)] 5)).drew).heap.size) := hide (by have := HR.out.size; rw [World.size_drew, World.size_alloc]; omega)
        have HOa := hide (HO.out.alloc (.cells #[.int .u8 (v.toNat : Int)] 5)).drew
        have HSa := hide (Sl.one (w := wr) (v := .int .u8 (v.toNat : Int)) (t := 5)).drew
        go_region_held3 (fun w' => w'.cell? ⟨b, off + k, none⟩ = some (.int .u8 (x.toNat : Int)) ∧ w'.cell? ⟨b', off' + k, none⟩ = some (.int .u8 (y.toNat : Int)) ∧ w'.cell? ⟨b'', off'' + k, none⟩ = some (.int .u8 (z.toNat : Int)))
          (go_keep)
          ((
            refine step_app (c' := 1) ?_ (.tmp 22) (.tmp 37) 23 ?_ (.int .u8 0) 1 Try.underlying23 info_u8 (cells_int _ _) ?_ HOa.out ?_ HSa.out (one_int _ _) hq1 hq2 HqB.out ?_
            · rfl
            · rfl
            · rfl
            · rfl
            intro A3 c3 w3 hown hgr hat
            have g1 := HO.out.far hgr hbb (cell_more e1 _)
            have g2 := HO.out.far hgr hbb' (cell_more e2 _)
            have g3 := HO.out.far hgr hbb'' (cell_more e3 _)))
        have HR3 : Hid (Below w.heap.size w w3) := hide (below_of_grown (((HR.out.alloc HR.out.size _).drew)) hgr (by have := HR.out.size; rw [World.size_drew, World.size_alloc]; omega) HO.out.row_ge)
        have HO3 : Hid (Own w3 w.heap.size 5 A3 (k + 1) c3 ((xor3 (xs.take (k + 1)) (ys.take (k + 1)) (zs.take (k + 1))).map bv)) := hide (by
          rw [xor3_snoc X1.out X2.out X3.out, ← HV.out, List.map_append]; exact hown)
        clear hgr hat hown g1 g2 g3
        go_wp2_with fail
        go_roundw
        case rel => exact ⟨k + 1, A3, c3, by omega, by go_num, rfl, HO3, HR3⟩
        case measure => simp [intOf]; omega
      · have HE : Hid (k = N) := hide (by omega)
        have HS : Hid (SlB wr wr.heap.size A2 k (xor3 (xs.take N) (ys.take N) (zs.take N))) := hide (by have := HO.out.sl; rwa [HE.out] at this ⊢)
        have HX' := hide (((HX.out.below HR.out (Nat.le_refl _)).more HR.out.size).take hNn)
        have HY' := hide (((HY.out.below HR.out (Nat.le_refl _)).more HR.out.size).take hNm)
        have HZ' := hide (((HZ.out.below HR.out (Nat.le_refl _)).more HR.out.size).take hNl)
        have h3 := Crc.more_three (xs.take N) (ys.take N) (zs.take N) (by have := HX'.out.len; have := HY'.out.len; omega) (by have := HZ'.out.len; have := HY'.out.len; omega)
        have hN0 : (0 : Int) ≤ (N : Int) := by omega
        have hb1 := int_le_of (Nat.le_trans hNn hnc)
        have hb2 := int_le_of (Nat.le_trans hNm hmc)
        have hb3 := int_le_of (Nat.le_trans hNl hlc)
        have hk9 : k ≤ 9223372036854775807 := by omega
        have hN9 : N ≤ 9223372036854775807 := by omega
        obtain ⟨s0, hs0⟩ : ∃ s0, s0 = Crc.more 0 (xor3 (xs.take N) (ys.take N) (zs.take N)) := ⟨_, rfl⟩
        obtain ⟨s1, hs1⟩ : ∃ s1, s1 = Crc.more 0 (xs.take N) := ⟨_, rfl⟩
        obtain ⟨s2, hs2⟩ : ∃ s2, s2 = Crc.more 0 (ys.take N) := ⟨_, rfl⟩
        obtain ⟨s3, hs3⟩ : ∃ s3, s3 = Crc.more 0 (zs.take N) := ⟨_, rfl⟩
        have f1 := u32_xor_nat s1 s2 (by rw [hs1]; exact Crc.more_lt _ _) (by rw [hs2]; exact Crc.more_lt _ _)
        have f2 := u32_xor_nat (s1 ^^^ s2) s3 (Crc.xor_lt (by rw [hs1]; exact Crc.more_lt _ _) (by rw [hs2]; exact Crc.more_lt _ _)) (by rw [hs3]; exact Crc.more_lt _ _)
        have h3' : s1 ^^^ s2 ^^^ s3 = s0 := by rw [hs0, hs1, hs2, hs3]; exact h3.symm
        rw [h3'] at f2
        have K0 := hide (fun p : Ext wr => hs0 ▸ csum_any A2 k c2 _ _ (HS.out.ext p) hk9)
        have K1 := hide (fun p : Ext wr => hs1 ▸ csum_any A N c _ _ (HX'.out.ext p) hN9)
        have K2 := hide (fun p : Ext wr => hs2 ▸ csum_any A' N c' _ _ (HY'.out.ext p) hN9)
        have K3 := hide (fun p : Ext wr => hs3 ▸ csum_any A'' N c'' _ _ (HZ'.out.ext p) hN9)
        clear hs0 hs1 hs2 hs3 h3 h3'
        go_wp2_with fail
        refine wp_region_ext (by kernel_rfl) (by kernel_rfl) ?_
        repeat (go_big_quiet_step (with_reducible first
          | (go_at_call 8; exact ext_call _ (known_any _))
          | exact ext_call _ (K0.out _)
          | exact ext_call _ (K1.out _)
          | exact ext_call _ (K2.out _)
          | exact ext_call _ (K3.out _)))
        refine wpQuiet_nil ?_
        intro _ hw'
        obtain ⟨p, hw''⟩ := hw'
        subst hw''
        go_wp2_with fail
        go_ret
        exact ⟨rfl, HR.out.trans ((extW_below wr p).mono HR.out.size)⟩
end Go.Proofs.Ytgldpaedpijhfaa
