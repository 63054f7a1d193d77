/-
  The walks of octet.Web, Basic, Hex, Same.
-/
import Derived.Test.YthfoaefdifbfaaaProg
import Derived.Test.YthfoaefdifbfaaaOwn
import Derived.Test.YthfoaefdifbfaaaStr
import Derived.Test.YthfoaefdifbfaaaOctB
import Derived.Deep.QuietTactic
import Derived.BigQuiet
import Derived.Deep.DeepMust
import Derived.Laws.BitsAllLaws
namespace Go.Proofs.Ythfoaefdifbfaaa
open Go.RowKit

def slLen : Value → Nat | .slice _ q _ => q | _ => 0
theorem slLen_slice (A : Option Addr) (q c : Nat) : slLen (.slice A q c) = q := rfl
theorem ret_str {a b : List UInt8} (h : a = b) : Ending.returned (.string (strB a)) = .returned (.string (strB b)) := by rw [h]
theorem Own.slb {w : World} {base e n c : Nat} {A : Option Addr} {bs : List UInt8} (h : Own w base e A n c (bs.map bv)) : SlB w w.heap.size A n bs := h.sl

theorem web_any (A : Option Addr) (n c : Nat) (bs : List UInt8) (w : World) (hb : SlB w w.heap.size A n bs) (hn : n ≤ 140737488351232) :
    Calls Try.prog 18 #[.slice A n c] w fun e w' => e = .returned (.string (strB (Oct.webL Oct.webS bs))) ∧ Below w.heap.size w w' := by
  have HB := hide hb; clear hb
  go_enter Try.func18, Try.ntmps18
  go_wp2_with fail
  refine (sixes_any (strB Oct.webS) _ _ _ _ _ rfl HB.out hn).mono ?_
  rintro e w1 ⟨A2, m, c2, rfl, hm, ho, hb⟩
  rw [strB_data] at ho
  clear hm
  have HW := hide hb; clear hb
  have kc := fun dst hd => conv_any (P := Try.prog) 22 dst 5 Try.underlying22 Try.underlying5 hd ho.slb c2
  have kd := kc 9 Try.underlying9
  clear ho kc
  go_wp2_with fail
  go_ret
  exact ⟨rfl, HW.out⟩

set_option maxHeartbeats 400000 in
theorem basic_any (A : Option Addr) (n c : Nat) (bs : List UInt8) (w : World) (hb : SlB w w.heap.size A n bs) (hn : n ≤ 140737488351232) :
    Calls Try.prog 20 #[.slice A n c] w fun e w' => e = .returned (.string (strB (Oct.basicL bs))) ∧ Below w.heap.size w w' := by
  have HB := hide hb
  have hlen := hb.len
  clear hb
  go_enter Try.func20, Try.ntmps20
  go_wp2_with fail
  refine (sixes_any (strB Oct.basicS) _ _ _ _ _ rfl HB.out hn).mono ?_
  rintro e w1 ⟨A1, m, c1, rfl, hm, ho, hb⟩
  rw [strB_data] at ho
  have HW := hide hb
  have HO := hide ho
  have hml := hide (show (Oct.webL Oct.basicS bs).length = m by rw [Oct.webL_length]; omega)
  have hm4 : m ≤ (4 * n + 2) / 3 := by omega
  clear hm
  have hsz1 := hb.size
  clear hb ho
  go_wp2_with fail
  go_loopw [3] (fun v3 wr => ∃ (k : Nat) (A2 : Option Addr) (c2 : Nat), v3 = .slice A2 (m + k) c2 ∧ k ≤ (4 - m % 4) % 4 ∧ Hid (Own wr w.heap.size 5 A2 (m + k) c2 ((Oct.webL Oct.basicS bs ++ List.replicate k 61).map bv)) ∧ Hid (Below w.heap.size w wr)) (fun v _ => m + 4 - slLen v)
  case atStart => exact ⟨0, A1, c1, rfl, by omega, by simpa using HO, HW⟩
  case round =>
    obtain ⟨k, A2, c2, rfl, hk, HO2, HW2⟩ := hrel
    by_cases hlt : k < (4 - m % 4) % 4
    · have ht : ((((m : Int) + (k : Int)) % 4) != 0) = true := by rw [bne_iff_ne]; omega
      have hq1 : m + k + 1 ≤ maxLen := by unfold maxLen; omega
      have hq2 : ((m + k + 1) + (m + k + 1) / 4 + 192) * 1 ≤ 281474976710656 := by omega
      have HSZ := hide HW2.out.size
      go_wp2_with (at_builtin; go_must (with_reducible refine wpList_appW rfl (.tmp 10) (.tmp 11) 22 rfl (.int .u8 0) 1 Try.underlying22 info_u8 (cells_int _ _) rfl (HO2.out.alloc _) rfl Sl.one (one_int _ _) hq1 hq2 (by have := HSZ.out; rw [World.size_alloc]; omega) ?_))
      intro A4 c4 w4 hown hgr
      have HR4 : Hid (Below w.heap.size w w4) := hide (below_of_grown (HW2.out.alloc HW2.out.size _) hgr (by have := HSZ.out; rw [World.size_alloc]; omega) HO2.out.row_ge)
      have HO4 : Hid (Own w4 w.heap.size 5 A4 (m + (k + 1)) c4 ((Oct.webL Oct.basicS bs ++ List.replicate (k + 1) 61).map bv)) := hide (by
        have := hown
        rw [List.replicate_succ', List.map_append, List.map_append, List.map_replicate]; exact this)
      clear hown hgr
      go_wp2
      go_roundw
      case rel => exact ⟨k + 1, A4, c4, rfl, by omega, HO4, HR4⟩
      case measure => simp only [slLen_slice]; omega
    · have he : k = (4 - m % 4) % 4 := by omega
      have HE : Hid (Oct.basicL bs = Oct.webL Oct.basicS bs ++ List.replicate k 61) := hide (by unfold Oct.basicL; rw [hml.out, he])
      have ht : ((((m : Int) + (k : Int)) % 4) != 0) = false := by rw [bne_eq_false_iff_eq]; omega
      have kd := conv_any (P := Try.prog) 22 9 5 Try.underlying22 Try.underlying5 Try.underlying9 HO2.out.slb c2
      clear he
      go_wp2
      go_ret
      exact ⟨ret_str HE.out.symm, HW2.out⟩

/-- a sign by sixteen, as a string's part -/
theorem hex_part : ∀ d, d < 16 → (strB Oct.hexS).extract d (d + 1) = strB [Oct.hexS.getD d 0] := by
  intro d hd
  apply strB_ext
  have : ∀ d, d < 16 → ((strB Oct.hexS).extract d (d + 1)).data.toList = [Oct.hexS.getD d 0] := by decide +kernel
  exact this d hd

theorem hex_slice (d : Nat) (hd : d < 16) : ∀ W : World, (Instr.slice 9 (.string { data := #[48, 49, 50, 51, 52, 53, 54, 55, 56, 57, 97, 98, 99, 100, 101, 102] }) (some (.int .u8 (d : Int))) (some (.int .u8 ((d : Int) + 1))) none).run Try.prog W = .ok (.string ((strB Oct.hexS).extract d (d + 1))) W := by
  intro W
  have := run_slice_string (P := Try.prog) W 9 (strB Oct.hexS) .u8 .u8 (d : Int) ((d + 1 : Nat) : Int) Try.underlying9 (by omega) (by omega) (by rw [strB_size, Oct.hexS_len]; omega)
  have e : ((d + 1 : Nat) : Int) = (d : Int) + 1 := by omega
  rw [e, show ((d : Int) + 1).toNat = d + 1 by omega, Int.toNat_natCast] at this
  exact this
theorem make_cap (kl kc : IntKind) (l n : Nat) (hl : l ≤ n) (hn : n ≤ 281474976710656) (W : World) :
    (Instr.makeSlice 22 (.int kl (l : Int)) (.int kc (n : Int))).run Try.prog W = .ok (.slice (some ⟨W.heap.size, 0, none⟩) l n) (W.alloc (.cells (Array.replicate n (Value.int .u8 0)) 5)) := by
  obtain ⟨i0, hi, hz0, hz1, hz2⟩ := info_parts info_u8
  have h := run_make (P := Try.prog) (w := W) 22 5 i0 (.int .u8 0) Try.underlying22 hi hz0 kl kc (l : Int) (n : Int) (by omega) (by omega) (by rw [hz2]; omega) (by omega)
  rw [h, hz1]
  simp only [Int.toNat_natCast, Nat.mul_one]
  congr 3
  apply Array.ext
  · simp [size_madeCells]
  · intro i h1 h2
    simp [madeCells, Value.cells, Nat.mod_one]

set_option maxHeartbeats 800000 in
theorem hex_any (A : Option Addr) (n c : Nat) (bs : List UInt8) (w : World) (hb : SlB w w.heap.size A n bs) (hn : n ≤ 140737488351232) :
    Calls Try.prog 16 #[.slice A n c] w fun e w' => e = .returned (.string (strB (Oct.hexL bs))) ∧ Below w.heap.size w w' := by
  have HB := hide hb
  have hlen := hide hb.len
  clear hb
  have hmk : (Instr.makeSlice 22 (.int .i64 0) (.int .i64 (2 * (n : Int)))).run Try.prog w = .ok (.slice (some ⟨w.heap.size, 0, none⟩) 0 (2 * n)) (w.alloc (.cells (Array.replicate (2 * n) (Value.int .u8 0)) 5)) := by
    have := make_cap .i64 .i64 0 (2 * n) (by omega) (by omega) w
    simpa using this
  have HO : Hid (Own (w.alloc (.cells (Array.replicate (2 * n) (Value.int .u8 0)) 5)) w.heap.size 5 (some ⟨w.heap.size, 0, none⟩) 0 (2 * n) []) := hide (by
    have := Own.of_made (made_block w (2 * n) 5) (Nat.le_refl _) (base := w.heap.size) (k := 0) (c := 2 * n) (by simp) (by unfold maxLen; omega) (by omega)
    simpa using this)
  go_enter Try.func16, Try.ntmps16
  go_wp2_with fail
  clear hmk
  go_loopw [3, 12] (fun v3 v12 wr => ∃ (i : Nat), i ≤ n ∧ v12 = .int .i64 i ∧ v3 = .slice (some ⟨w.heap.size, 0, none⟩) (2 * i) (2 * n) ∧ Hid (Own wr w.heap.size 5 (some ⟨w.heap.size, 0, none⟩) (2 * i) (2 * n) ((Oct.hexL (bs.take i)).map bv)) ∧ Hid (Below w.heap.size w wr)) (fun _ y _ => n - (intOf y).toNat)
  case atStart => exact ⟨0, by omega, rfl, rfl, HO, hide ((Below.refl _ _).alloc (Nat.le_refl _) _)⟩
  case round =>
    clear HO
    obtain ⟨i, hi, rfl, rfl, HO, HR⟩ := hrel
    by_cases hlt : i < n
    · obtain ⟨b, off, x, rfl, hbb, e1, X1⟩ := (HB.out.below HR.out (Nat.le_refl _)).byte (show i < n by omega)
      have hx256 := x.toNat_lt
      obtain ⟨d, hd⟩ : ∃ d, d = x.toNat / 16 := ⟨_, rfl⟩
      obtain ⟨r, hr⟩ : ∃ r, r = x.toNat % 16 := ⟨_, rfl⟩
      have hd16 : d < 16 := by omega
      have hr16 : r < 16 := by omega
      have ed : (x.toNat : Int) / 16 = (d : Int) := by omega
      have er : bits .and .u8 (x.toNat : Int) 15 = (r : Int) := by
        have := u8_and_nat x.toNat 15 (by omega) (by omega)
        rw [Nat.and_two_pow_sub_one_eq_mod x.toNat 4] at this
        rw [hr]; exact this
      have HS : Hid (Oct.hexL (bs.take (i + 1)) = Oct.hexL (bs.take i) ++ [Oct.hexS.getD d 0, Oct.hexS.getD r 0]) := hide (by rw [take_snoc X1.out, Oct.hexL_snoc, hd, hr])
      obtain ⟨y, hy⟩ : ∃ y, y = Oct.hexS.getD d 0 := ⟨_, rfl⟩
      obtain ⟨z, hz⟩ : ∃ z, z = Oct.hexS.getD r 0 := ⟨_, rfl⟩
      have p1 := hex_part d hd16
      have p2 := hex_part r hr16
      rw [← hy] at p1 HS
      rw [← hz] at p2 HS
      clear hd hr hy hz
      have q1 := hex_slice d hd16
      have q2 := hex_slice r hr16
      rw [p1] at q1
      rw [p2] at q2
      clear p1 p2
      have hq1 : 2 * i + [y].length ≤ 2 * n := by simp; omega
      have hq3 : 2 * i + 1 + [z].length ≤ 2 * n := by simp; omega
      have HSZ := hide HR.out.size
      go_wp2_with (at_builtin; go_must (with_reducible refine wpList_appSroom rfl (.tmp 16) (.tmp 22) 22 9 rfl Try.underlying22 Try.underlying9 info_u8 rfl HO.out [y] rfl hq1 ?_))
      intro w3 hown hgr
      have HR3 : Hid (Below w.heap.size w w3) := hide (below_of_grown HR.out hgr HSZ.out (fun k hk => by injection hk with hk; omega))
      have HO3 := hide hown
      have HSZ3 := hide HR3.out.size
      clear hown hgr
      go_wp2_with (at_builtin; go_must (with_reducible refine wpList_appSroom rfl (.tmp 24) (.tmp 30) 22 9 rfl Try.underlying22 Try.underlying9 info_u8 rfl HO3.out [z] rfl hq3 ?_))
      intro w4 hown hgr
      have HR4 : Hid (Below w.heap.size w w4) := hide (below_of_grown HR3.out hgr HSZ3.out (fun k hk => by injection hk with hk; omega))
      have HO4 : Hid (Own w4 w.heap.size 5 (some ⟨w.heap.size, 0, none⟩) (2 * (i + 1)) (2 * n) ((Oct.hexL (bs.take (i + 1))).map bv)) := hide (by
        rw [HS.out, List.map_append]
        first | exact hown | simpa [Nat.mul_add] using hown)
      clear hown hgr
      go_wp2
      go_roundw
      case rel => exact ⟨i + 1, by omega, by go_num, rfl, HO4, HR4⟩
      case measure => simp [intOf]; omega
    · obtain rfl : i = n := by omega
      have HE : Hid (bs.take i = bs) := hide (List.take_of_length_le (by have := hlen.out; omega))
      have HO5 : Hid (Own wr w.heap.size 5 (some ⟨w.heap.size, 0, none⟩) (2 * i) (2 * i) ((Oct.hexL bs).map bv)) := hide (by have := HO.out; rwa [HE.out] at this)
      have kd := conv_any (P := Try.prog) 22 9 5 Try.underlying22 Try.underlying5 Try.underlying9 HO5.out.slb (2 * i)
      go_wp2
      go_ret
      exact ⟨rfl, HR.out⟩

/-- what the two rows differ by, all told -/
def orx (xs ys : List UInt8) : UInt8 := (xs.zipWith (· ^^^ ·) ys).foldl (· ||| ·) 0
theorem orx_snoc {xs ys : List UInt8} {k : Nat} {x y : UInt8} (hx : xs[k]? = some x) (hy : ys[k]? = some y) : orx (xs.take (k + 1)) (ys.take (k + 1)) = orx (xs.take k) (ys.take k) ||| (x ^^^ y) := by
  have l1 := (List.getElem?_eq_some_iff.1 hx).1
  have l2 := (List.getElem?_eq_some_iff.1 hy).1
  rw [take_snoc hx, take_snoc hy]
  unfold orx
  rw [List.zipWith_append (by simp; omega), List.foldl_append]
  rfl
theorem or_zero {a b : UInt8} : a ||| b = 0 ↔ a = 0 ∧ b = 0 := by
  constructor
  · intro h
    have h1 := congrArg UInt8.toNat h
    rw [UInt8.toNat_or] at h1
    have h2 : a.toNat = 0 ∧ b.toNat = 0 := by
      constructor
      · have := @Nat.left_le_or a.toNat b.toNat; simp at h1; omega
      · have := @Nat.right_le_or a.toNat b.toNat; simp at h1; omega
    exact ⟨UInt8.toNat_inj.1 h2.1, UInt8.toNat_inj.1 h2.2⟩
  · rintro ⟨rfl, rfl⟩; rfl
theorem xor_zero {a b : UInt8} : a ^^^ b = 0 ↔ a = b := UInt8.xor_eq_zero_iff
theorem orx_zero {xs ys : List UInt8} : ∀ k, k ≤ xs.length → k ≤ ys.length → (orx (xs.take k) (ys.take k) = 0 ↔ xs.take k = ys.take k) := by
  intro k
  induction k with
  | zero => intro _ _; simp [orx]
  | succ k ih =>
    intro h1 h2
    have e1 := List.getElem?_eq_getElem (show k < xs.length by omega)
    have e2 := List.getElem?_eq_getElem (show k < ys.length by omega)
    rw [orx_snoc e1 e2, or_zero, ih (by omega) (by omega), xor_zero, take_snoc e1, take_snoc e2]
    constructor
    · rintro ⟨a, b⟩; rw [a, b]
    · intro h
      have := List.append_inj h (by simp; omega)
      exact ⟨this.1, by simpa using this.2⟩

set_option maxHeartbeats 400000 in
theorem osame_any (A B : Option Addr) (n m c d : Nat) (xs ys : List UInt8) (w : World) (ha : SlB w w.heap.size A n xs) (hb : SlB w w.heap.size B m ys) (hn : n ≤ 9223372036854775807) (hm : m ≤ 9223372036854775807) :
    Calls Try.prog 26 #[.slice A n c, .slice B m d] w fun e w' => e = .returned (.bool (decide (xs = ys))) ∧ Below w.heap.size w w' := by
  have HA := hide ha; have HB := hide hb; clear ha hb
  by_cases hnm : n = m
  · subst hnm
    have hz : ((n : Int) != (n : Int)) = false := by simp
    go_enter Try.func26, Try.ntmps26
    go_wp2_with fail
    go_loopw [5, 14] (fun v5 v14 wr => ∃ (k p : Nat) (o : UInt8), k ≤ n ∧ v14 = .int .i64 k ∧ v5 = .int .u8 (o.toNat : Int) ∧ wr = w.drewN p ∧ Hid (o = orx (xs.take k) (ys.take k))) (fun _ i _ => n - (intOf i).toNat)
    case atStart => exact ⟨0, 0, 0, by omega, rfl, rfl, rfl, hide (by simp [orx])⟩
    case round =>
      obtain ⟨k, p, o, hk, rfl, rfl, rfl, HT⟩ := hrel
      by_cases hlt : k < n
      · obtain ⟨b, off, x, rfl, hbb, c1, HX⟩ := HA.out.byte hlt
        obtain ⟨b', off', y, rfl, hbb', c2, HY⟩ := HB.out.byte hlt
        have hk0 : (0 : Int) ≤ (k : Int) := by omega
        have hkn : (k : Int) < (n : Int) := by omega
        have hx256 := x.toNat_lt
        have hy256 := y.toNat_lt
        have ho256 := o.toNat_lt
        obtain ⟨u, hu⟩ : ∃ u, u = x ^^^ y := ⟨_, rfl⟩
        obtain ⟨v, hv⟩ : ∃ v, v = o ||| u := ⟨_, rfl⟩
        have f1 := u8_xor_nat x.toNat y.toNat hx256 hy256
        rw [← UInt8.toNat_xor, ← hu] at f1
        have f2 := u8_or_nat o.toNat u.toNat ho256 u.toNat_lt
        rw [← UInt8.toNat_or, ← hv] at f2
        have HV : Hid (v = orx (xs.take (k + 1)) (ys.take (k + 1))) := hide (by rw [hv, hu, HT.out, orx_snoc HX.out HY.out])
        clear hu hv
        go_wp2_with fail
        go_quiet (fail)
        go_wp2_with fail
        go_roundw
        case rel => exact ⟨k + 1, _, v, by omega, by go_num, rfl, rfl, HV⟩
        case measure => simp [intOf]; omega
      · have hz2 : ((o.toNat : Int) == 0) = decide (xs = ys) := by
          have h1 := orx_zero (xs := xs) (ys := ys) k (by have := HA.out.len; omega) (by have := HB.out.len; omega)
          have e1 : xs.take k = xs := List.take_of_length_le (by have := HA.out.len; omega)
          have e2 : ys.take k = ys := List.take_of_length_le (by have := HB.out.len; omega)
          rw [← HT.out, e1, e2] at h1
          by_cases h : xs = ys
          · rw [decide_eq_true h, beq_iff_eq, h1.2 h]; rfl
          · rw [decide_eq_false h, beq_eq_false_iff_ne]
            intro h0
            apply h
            apply h1.1
            apply UInt8.toNat_inj.1
            simpa using h0
        have HZ := hide hz2
        clear hz2
        go_wp2_with fail
        go_ret
        exact ⟨ret_bool HZ.out, below_drewN (Below.refl _ _) _⟩
  · have hz : ((n : Int) != (m : Int)) = true := by rw [bne_iff_ne]; omega
    have hne : Hid (xs ≠ ys) := hide (by intro h; subst h; have := HA.out.len; have := HB.out.len; omega)
    clear hnm
    go_enter Try.func26, Try.ntmps26
    go_wp2_with fail
    go_ret
    exact ⟨ret_bool (by simp [hne.out]), Below.refl _ _⟩
end Go.Proofs.Ythfoaefdifbfaaa
