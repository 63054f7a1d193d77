/-
  The walks of the document's Number, integer, text, four, Frame.
-/
import Derived.Test.YtnlfnjadadfhkaaWireD
import Derived.Outline
namespace Go.Proofs.Ytnlfnjadadfhkaa
open Go.RowKit
set_option linter.unusedVariables false

/-- a row of bytes of the call's own -/
def GivesB (bs : List UInt8) (w : World) (e : Ending) (w' : World) : Prop :=
  ∃ A c, e = .returned (.slice A bs.length c) ∧ Own w' w.heap.size 5 A bs.length c (bs.map bv) ∧ Below w.heap.size w w'

set_option maxHeartbeats 1000000 in
theorem rnumber_any (n : Nat) (w : World) (hn : n < 18446744073709551616) :
    Calls Try.prog 52 #[.int .u64 (n : Int)] w (GivesB (Wire.num n) w) := by
  go_enter Try.func52, Try.ntmps52
  go_wp2_with fail
  go_loopw [0, 3] (fun v0 v3 wq => ∃ (k m q : Nat) (ds : List UInt8) (A : Option Addr) (c : Nat), k ≤ 9 ∧ v0 = .int .u64 (m : Int) ∧ v3 = .slice A q c ∧ m < 128 ^ (k + 1) ∧ m < 18446744073709551616 ∧ q + k = 9 ∧ Hid (ds.length = q) ∧ Hid (ds ++ Wire.numF k m = Wire.num n) ∧ Hid (Own wq w.heap.size 5 A q c (ds.map bv)) ∧ Hid (Below w.heap.size w wq)) (fun v _ _ => (intOf v).toNat)
  case atStart => exact ⟨9, n, 0, [], none, 0, by omega, rfl, rfl, by omega, hn, rfl, hide rfl, hide rfl, hide Own.nil_, hide (Below.refl _ _)⟩
  case round =>
    obtain ⟨k, m, q, ds, A, c, hk, rfl, rfl, hm, hm64, hds, HL, HE, HO, HB⟩ := hrel
    by_cases hlow : m < 128
    · have hcmp : ¬ ((0 : Int) < (m : Int) / 128) := by omega
      have hmm : ((m : Int) % 256) = (m : Int) := by omega
      have HF : Hid ((Wire.num n).length = q + 1 ∧ (Wire.num n).map bv = ds.map bv ++ [Value.int .u8 (m : Int)]) := hide (by
        rw [← HE.out, Wire.numF_low hlow]
        exact ⟨by simp [HL.out], by rw [List.map_append, List.map_cons, List.map_nil, u8_of m (by omega)]⟩)
      go_wp2_with (at_builtin; go_must (with_reducible refine wpList_app rfl (.tmp 16) (.tmp 19) 24 rfl (.int .u8 0) 1 Try.underlying24 info_u8 (cells_int _ _) rfl (HO.out.alloc _) rfl Sl.one (one_int _ _) (by unfold maxLen; omega) (by omega) (by have := HB.out.size; rw [World.size_alloc]; omega) ?_))
      intro A4 c4 w4 ho hgr hor
      have B4 : Hid (Below w.heap.size w w4) := hide (below_of_grown (HB.out.alloc HB.out.size _) hgr (by have := HB.out.size; rw [World.size_alloc]; omega) HO.out.row_ge)
      have O4 := hide ho
      clear ho hgr hor
      go_wp2_with fail
      go_ret
      exact ⟨A4, c4, by rw [HF.out.1]; rfl, by rw [HF.out.1, HF.out.2]; exact O4.out, B4.out⟩
    · have hcmp : (0 : Int) < (m : Int) / 128 := by omega
      go_wp2_with (at_builtin; go_must (with_reducible refine wpList_app rfl (.tmp 7) (.tmp 12) 24 rfl (.int .u8 0) 1 Try.underlying24 info_u8 (cells_int _ _) rfl (HO.out.alloc _) rfl Sl.one (one_int _ _) (by unfold maxLen; omega) (by omega) (by have := HB.out.size; rw [World.size_alloc]; omega) ?_))
      intro A4 c4 w4 ho hgr hor
      have B4 : Hid (Below w.heap.size w w4) := hide (below_of_grown (HB.out.alloc HB.out.size _) hgr (by have := HB.out.size; rw [World.size_alloc]; omega) HO.out.row_ge)
      have O4 := hide ho
      clear ho hgr hor
      obtain ⟨k', rfl⟩ : ∃ k', k = k' + 1 := ⟨k - 1, by
        rcases k with _ | k
        · simp at hm; omega
        · rfl⟩
      have HE2 : Hid ((ds ++ [UInt8.ofNat (m % 128 + 128)]) ++ Wire.numF k' (m / 128) = Wire.num n) := hide (by rw [← HE.out, Wire.numF_high (by omega), List.append_assoc]; rfl)
      have HM2 : Hid (m / 128 < 128 ^ (k' + 1)) := hide (by
        rw [Nat.div_lt_iff_lt_mul (by omega)]
        rwa [Nat.pow_succ] at hm)
      have HV : Hid (List.map bv ds ++ [Value.int .u8 (128 + (m : Int) % 128)] = List.map bv (ds ++ [UInt8.ofNat (m % 128 + 128)])) := hide (by
        rw [List.map_append, List.map_cons, List.map_nil, u8_of _ (by omega), show (((m % 128 + 128 : Nat) : Int)) = 128 + (m : Int) % 128 by omega])
      have HL2 : Hid ((ds ++ [UInt8.ofNat (m % 128 + 128)]).length = q + 1) := hide (by rw [List.length_append, HL.out]; rfl)
      clear hm HE
      go_wp2_with fail
      go_roundw
      case rel => exact ⟨k', m / 128, q + 1, ds ++ [UInt8.ofNat (m % 128 + 128)], A4, c4, by omega, by go_num, rfl, HM2.out, by omega, by omega, HL2, HE2, hide (by rw [← HV.out]; exact O4.out), B4⟩
      case measure => simp [intOf]; omega
/-- 'append' onto a slice that is full, whatever array it lies in -/
theorem wpList_appG {P : Program} {w : World} {e n c : Nat} {A : Option Addr} {xs : List Value} {ops : Array Oper} {rest : List Oper} {o : Oper} {a : Act} {Q : Exit → Act → World → Prop} (hgd : o.guard = none) (s x : Operand) (t : TypeId)
    (ho : o.op = .call { callee := .builtin .append, args := #[s, x], argTypes := #[t, t] })
    (z : Value) (bytes : Nat) (ht : P.underlying t = some (.slice e)) (hi : (P.info? e).map (fun i => (i.zero, i.size, i.bytes)) = some (some z, 1, bytes)) (hz1 : z.cells.size = 1)
    (hs : a.eval s = .slice A n c) {B0 : Nat} (hown : Sl w B0 A n xs) (h0 : 0 < n) {B : Nat} {A' : Option Addr} {m c' : Nat} {news : List Value} (hx : a.eval x = .slice A' m c') (hr : Sl w B A' m news) (hm : 0 < m) (h1 : ∀ u ∈ news, u.oneCell' = true)
    (hfull : c < n + m) (h63 : n + m ≤ maxLen) (hbytes : (n + m) * bytes ≤ 140737488355328)
    (h : ∀ A2 c2 w', Own w' w.heap.size e A2 (n + m) c2 (xs ++ news) → Below w.heap.size w w' → wpList P ops Q rest (a.put o.dst (.slice A2 (n + m) c2)) w') :
    wpList P ops Q (o :: rest) a w := by
  obtain ⟨i, hi0, hz, hsz, hb⟩ := info_parts hi
  obtain ⟨b, off, rfl, hbB, hc⟩ := hown.2 h0
  obtain ⟨b', off', rfl, hbB', hc'⟩ := hr.2 hm
  refine wpList_append_grows w hgd s x t ho e i z 1 bytes ht hi0 hz hsz hb hz1 (by omega) (some ⟨b, off, none⟩) n c xs hs (fun h => by cases h) (by have := hown.1; omega) (fun b2 hb2 j u hj => by injection hb2 with hb2; subst hb2; rw [Addr.add_lit]; exact hc j u hj) ⟨b', off', none⟩ m c' news hx (by have := hr.1; omega) (fun j u hj => by rw [Addr.add_lit]; exact hc' j u hj) h1 hfull h63 hbytes ?_
  intro v' w' h1 h2
  have shape : ∃ A2 c2, v' = .slice A2 (n + m) c2 := by
    rcases h1.2 with ⟨h, h0⟩ | ⟨g, cap, cur, h, _⟩
    · exact ⟨none, 0, by rw [h]; congr 1; exact h0.symm⟩
    · exact ⟨_, _, h⟩
  obtain ⟨A2, c2, rfl⟩ := shape
  exact h A2 c2 w' h1 (below_of_grown (Below.refl _ _) h2 (Nat.le_refl _) (fun k hk => by cases hk))

set_option maxHeartbeats 1000000 in
theorem rfour_any (v : Nat) (w : World) (hv : v < 4294967296) :
    Calls Try.prog 49 #[.int .u32 (v : Int)] w fun e w' => e = .returned (.slice (some ⟨w.heap.size, 0, none⟩) 4 4) ∧ SlB w' w'.heap.size (some ⟨w.heap.size, 0, none⟩) 4 (Wire.four v) ∧ Below w.heap.size w w' := by
  go_enter Try.func49, Try.ntmps49
  go_wp2_with fail
  go_rounds 5
  go_ret
  have e : #[Value.int .u8 ((v : Int) / 256 / 256 / 256 % 256), Value.int .u8 ((v : Int) / 256 / 256 % 256), Value.int .u8 ((v : Int) / 256 % 256), Value.int .u8 ((v : Int) % 256)] = ((Wire.four v).map bv).toArray := by
    rw [four_cells, show ((v / 16777216 % 256 : Nat) : Int) = (v : Int) / 256 / 256 / 256 % 256 by omega, show ((v / 65536 % 256 : Nat) : Int) = (v : Int) / 256 / 256 % 256 by omega, show ((v / 256 % 256 : Nat) : Int) = (v : Int) / 256 % 256 by omega, show ((v % 256 : Nat) : Int) = (v : Int) % 256 by omega]
  exact ⟨rfl, SlB.lit (Wire.four v) e rfl, (Below.refl _ _).alloc (Nat.le_refl _) _⟩
theorem GivesB.of {bs : List UInt8} {w w' : World} {e : Ending} (h : GivesB bs w e w') {w0 : World} (hb : Below w0.heap.size w0 w) : ∃ A c, e = .returned (.slice A bs.length c) ∧ Own w' w.heap.size 5 A bs.length c (bs.map bv) ∧ Below w0.heap.size w0 w' := by
  obtain ⟨A, c, h1, h2, h3⟩ := h
  exact ⟨A, c, h1, h2, hb.trans (h3.mono hb.size)⟩
theorem Own.base {w : World} {b b' e n c : Nat} {A : Option Addr} {xs : List Value} (h : Own w b e A n c xs) (hb : b' ≤ b) : Own w b' e A n c xs := by
  refine ⟨h.1, ?_⟩
  rcases h.2 with h | ⟨g, cap, cur, h1, h2, h3⟩
  · exact .inl h
  · exact .inr ⟨g, cap, cur, h1, by omega, h3⟩
theorem zig_neg (n : Int) (hn : -9223372036854775808 ≤ n) (h : n < 0) : ((Wire.zig n : Nat) : Int) = 2 * (-(n + 1)) + 1 := by unfold Wire.zig; rw [if_pos h]; omega
theorem zig_pos (n : Int) (h : 0 ≤ n) : ((Wire.zig n : Nat) : Int) = 2 * n := by unfold Wire.zig; rw [if_neg (by omega)]; omega
theorem rinteger_any (n : Int) (w : World) (hn : -9223372036854775808 ≤ n ∧ n ≤ 9223372036854775807) :
    Calls Try.prog 50 #[.int .i64 n] w (GivesB (Wire.num (Wire.zig n)) w) := by
  obtain ⟨n1, n2⟩ := hn
  have hzl := zig_lt n ⟨n1, n2⟩
  by_cases h : n < 0
  · have HZ := hide (zig_neg n n1 h)
    have HN := hide (rnumber_any (Wire.zig n) w hzl)
    clear hzl
    go_enter Try.func50, Try.ntmps50
    go_wp2_with fail
    rw [← HZ.out]
    refine HN.out.mono ?_
    rintro e w1 ⟨A, c, rfl, ho, hb⟩
    have O1 := hide ho; have B1 := hide hb; clear ho hb HN HZ
    go_wp2_with fail
    go_ret
    exact ⟨A, c, rfl, O1.out, B1.out⟩
  · have HZ := hide (zig_pos n (by omega))
    have HN := hide (rnumber_any (Wire.zig n) w hzl)
    clear hzl
    go_enter Try.func50, Try.ntmps50
    go_wp2_with fail
    rw [← HZ.out]
    refine HN.out.mono ?_
    rintro e w1 ⟨A, c, rfl, ho, hb⟩
    have O1 := hide ho; have B1 := hide hb; clear ho hb HN HZ
    go_wp2_with fail
    go_ret
    exact ⟨A, c, rfl, O1.out, B1.out⟩
theorem rframe_any (A : Option Addr) (n c : Nat) (bs : List UInt8) (w : World) (hb : SlB w w.heap.size A n bs) (hn : n ≤ 70000) :
    Calls Try.prog 26 #[.slice A n c] w (GivesB (Wire.frame bs) w) := by
  have HB := hide hb; have HL := hide hb.len; clear hb
  go_enter Try.func26, Try.ntmps26
  go_wp2_with fail
  refine (rfour_any n _ (by omega)).mono ?_
  rintro e w1 ⟨rfl, h1, hb⟩
  have S1 := hide h1; have B1 := hide hb; clear h1 hb
  go_wp2_with fail
  refine (rsum_any A n c bs _ (HB.out.up B1.out) (by omega)).mono ?_
  rintro e w2 ⟨rfl, rfl⟩
  go_wp2_with fail
  refine (rfour_any (Crc.more 0 bs) _ (Crc.more_lt _ _)).mono ?_
  rintro e w3 ⟨rfl, h1, hb⟩
  have S3 := hide h1; have T3 := hide (S1.out.up hb); have B3 := hide (B1.out.trans (hb.mono B1.out.size)); clear h1 hb S1 B1
  go_wp2_with (at_builtin; go_must (with_reducible refine wpList_appG rfl (.tmp 6) (.tmp 9) 24 rfl (.int .u8 0) 1 Try.underlying24 info_u8 (cells_int _ _) rfl T3.out.sl (by omega) rfl S3.out.sl (by omega) (bytes_oneCell _) (by omega) (by unfold maxLen; omega) (by omega) ?_))
  intro A4 c4 w4 ho hb
  have O4 := hide (ho.base (b' := w.heap.size) B3.out.size); have T4 := hide ((HB.out.up B3.out).up hb); have B4 := hide (B3.out.trans (hb.mono B3.out.size)); clear ho hb S3 T3 B3
  go_wp2_with (at_builtin; go_must (with_reducible refine wpList_app rfl (.tmp 10) (.tmp 11) 24 rfl (.int .u8 0) 1 Try.underlying24 info_u8 (cells_int _ _) rfl O4.out rfl T4.out.sl (bytes_oneCell bs) (by unfold maxLen; omega) (by omega) B4.out.size ?_))
  intro A5 c5 w5 ho hgr _
  have B5 : Hid (Below w.heap.size w w5) := hide (below_of_grown B4.out hgr B4.out.size O4.out.row_ge)
  have O5 := hide ho; clear ho hgr
  go_wp2_with fail
  go_ret
  have hfl : (Wire.frame bs).length = 8 + n := by rw [frame_length, HL.out]; omega
  exact ⟨A5, c5, by rw [hfl]; rfl, by rw [hfl]; unfold Wire.frame; rw [List.map_append, List.map_append, HL.out, List.append_assoc]; exact O5.out, B5.out⟩
/-- a text's bytes, at most 65537 of it -/
def Wire.rtext (s : List UInt8) : List UInt8 := Wire.num s.length ++ s.take 65537
theorem rtext_any (s : ByteArray) (w : World) (hs : s.size ≤ 9223372036854775807) :
    Calls Try.prog 51 #[.string s] w (GivesB (Wire.rtext s.data.toList) w) := by
  have HN := hide (rnumber_any s.size w (by omega))
  obtain ⟨k, hk⟩ : ∃ k, k = min s.size 65537 := ⟨_, rfl⟩
  obtain ⟨ts, hts⟩ : ∃ ts, ts = s.data.toList.take k := ⟨_, rfl⟩
  obtain ⟨nb, hnb⟩ : ∃ nb, nb = Wire.num s.size := ⟨_, rfl⟩
  have hss : s.data.toList.length = s.size := rfl
  have HT : Hid (Wire.rtext s.data.toList = nb ++ ts) := hide (by
    unfold Wire.rtext; rw [hts, hnb]
    congr 1
    by_cases h : s.size ≤ 65537
    · rw [List.take_of_length_le (by omega), List.take_of_length_le (by omega)]
    · rw [show k = 65537 by omega])
  have HTL : Hid (ts.length ≤ 65537 ∧ nb.length ≤ 10) := hide ⟨by rw [hts]; simp; omega, by rw [hnb]; exact Wire.num_length _⟩
  by_cases h : s.size ≤ 65536
  · have HS : Hid (s = strB ts) := hide (by rw [hts, List.take_of_length_le (by omega)]; rfl)
    have hi : ¬ ((65536 : Int) < (s.size : Int)) := by omega
    rw [← hnb] at HN
    clear hts hk hss hnb h
    go_enter Try.func51, Try.ntmps51
    go_wp2_with fail
    refine HN.out.mono ?_
    rintro e w1 ⟨A, c, rfl, ho, hb⟩
    have O1 := hide ho; have B1 := hide hb; clear ho hb HN
    go_wp2_with (at_builtin; go_must (with_reducible refine wpList_appS rfl (.tmp 13) (.tmp 14) 24 9 rfl Try.underlying24 Try.underlying9 info_u8 rfl O1.out ts ?e1 (by unfold maxLen; have := HTL.out; omega) (by have := HTL.out; omega) B1.out.size ?_))
    case e1 => rw [← HS.out]; rfl
    intro A2 c2 w2 ho hgr
    have B2 : Hid (Below w.heap.size w w2) := hide (below_of_grown B1.out hgr B1.out.size O1.out.row_ge)
    have O2 := hide ho; clear ho hgr
    go_wp2_with fail
    go_ret
    rw [HT.out]
    exact ⟨A2, c2, by rw [List.length_append]; rfl, by rw [List.length_append, List.map_append]; exact O2.out, B2.out⟩
  · have hex : s.extract 0 65537 = strB ts := by rw [hts, show k = 65537 by omega]; exact str_take s 65537
    have hi : (65536 : Int) < (s.size : Int) := by omega
    have hj : (65537 : Int) ≤ (s.size : Int) := by omega
    rw [← hnb] at HN
    clear hts hk hss hnb h
    go_enter Try.func51, Try.ntmps51
    go_wp2_with fail
    refine HN.out.mono ?_
    rintro e w1 ⟨A, c, rfl, ho, hb⟩
    have O1 := hide ho; have B1 := hide hb; clear ho hb HN
    go_wp2_with (at_builtin; go_must (with_reducible refine wpList_appS rfl (.tmp 13) (.tmp 14) 24 9 rfl Try.underlying24 Try.underlying9 info_u8 rfl O1.out ts rfl (by unfold maxLen; have := HTL.out; omega) (by have := HTL.out; omega) B1.out.size ?_))
    intro A2 c2 w2 ho hgr
    have B2 : Hid (Below w.heap.size w w2) := hide (below_of_grown B1.out hgr B1.out.size O1.out.row_ge)
    have O2 := hide ho; clear ho hgr
    go_wp2_with fail
    go_ret
    rw [HT.out]
    exact ⟨A2, c2, by rw [List.length_append]; rfl, by rw [List.length_append, List.map_append]; exact O2.out, B2.out⟩
end Go.Proofs.Ytnlfnjadadfhkaa
