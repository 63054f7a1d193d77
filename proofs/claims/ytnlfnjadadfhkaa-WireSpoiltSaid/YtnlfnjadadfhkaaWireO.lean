/-
  The walks of word, NewReader.
-/
import Derived.Test.YtnlfnjadadfhkaaWireN
import Derived.Test.YtnlfnjadadfhkaaCrcB
import Derived.Test.YtnlfnjadadfhkaaExt
import Derived.Test.YtnlfnjadadfhkaaWireD
namespace Go.Proofs.Ytnlfnjadadfhkaa
open Go.RowKit
set_option linter.unusedVariables false

theorem Sl.cell_at {w : World} {B b off n : Nat} {xs : List Value} (h : Sl w B (some ⟨b, off, none⟩) n xs) {k : Nat} {u : Value} (hu : xs[k]? = some u) : w.cell? ⟨b, off + k, none⟩ = some u := by
  have hk : k < n := by have := (List.getElem?_eq_some_iff.1 hu).1; have := h.1; omega
  obtain ⟨b', off', e, _, hc⟩ := h.2 (by omega)
  injection e with e; injection e with e1 e2; subst e1; subst e2
  exact hc k u hu
/-- the number of four bytes -/
def Rd.said (l : List UInt8) : Nat := match l with
  | a :: b :: c :: d :: _ => a.toNat * 16777216 + b.toNat * 65536 + c.toNat * 256 + d.toNat
  | _ => 0
theorem Rd.said_lt (l : List UInt8) : Rd.said l < 4294967296 := by
  unfold Rd.said
  split
  · rename_i a b c d _
    have := a.toNat_lt; have := b.toNat_lt; have := c.toNat_lt; have := d.toNat_lt
    omega
  · omega
theorem four_of {l : List UInt8} (h : 4 ≤ l.length) : ∃ a b c d t, l = a :: b :: c :: d :: t := by
  match l, h with
  | a :: b :: c :: d :: t, _ => exact ⟨a, b, c, d, t, rfl⟩
theorem or32 (hi i lo : Nat) (hl : lo < 2 ^ i) (h : hi * 2 ^ i + lo < 4294967296) : bits BinOp.or IntKind.u32 ((hi * 2 ^ i : Nat) : Int) (lo : Int) = ((hi * 2 ^ i + lo : Nat) : Int) := by
  show IntKind.u32.wrap ((BitVec.ofInt 32 ((hi * 2 ^ i : Nat) : Int) ||| BitVec.ofInt 32 (lo : Int)).toNat : Int) = _
  rw [BitVec.ofInt_natCast, BitVec.ofInt_natCast, BitVec.toNat_or, BitVec.toNat_ofNat, BitVec.toNat_ofNat, Nat.mod_eq_of_lt (by omega), Nat.mod_eq_of_lt (by omega), ← Nat.shiftLeft_eq, ← Nat.shiftLeft_add_eq_or_of_lt hl, Nat.shiftLeft_eq]
  show ((hi * 2 ^ i + lo : Nat) : Int) % 4294967296 = _
  omega
theorem said_bits (x0 x1 x2 x3 : UInt8) (t : List UInt8) : bits BinOp.or IntKind.u32 (bits BinOp.or IntKind.u32 (bits BinOp.or IntKind.u32 ((x0.toNat : Int) * 16777216) ((x1.toNat : Int) * 65536)) ((x2.toNat : Int) * 256)) (x3.toNat : Int) = ((Rd.said (x0 :: x1 :: x2 :: x3 :: t) : Nat) : Int) := by
  have l0 := x0.toNat_lt; have l1 := x1.toNat_lt; have l2 := x2.toNat_lt; have l3 := x3.toNat_lt
  have h1 := or32 x0.toNat 24 (x1.toNat * 65536) (by omega) (by omega)
  have h2 := or32 (x0.toNat * 256 + x1.toNat) 16 (x2.toNat * 256) (by omega) (by omega)
  have h3 := or32 (x0.toNat * 65536 + x1.toNat * 256 + x2.toNat) 8 x3.toNat (by omega) (by omega)
  have e1 : ((x0.toNat : Int) * 16777216) = ((x0.toNat * 2 ^ 24 : Nat) : Int) := by omega
  have e2 : ((x1.toNat : Int) * 65536) = ((x1.toNat * 65536 : Nat) : Int) := by omega
  have e3 : ((x2.toNat : Int) * 256) = ((x2.toNat * 256 : Nat) : Int) := by omega
  rw [e1, e2, e3, h1, show x0.toNat * 2 ^ 24 + x1.toNat * 65536 = (x0.toNat * 256 + x1.toNat) * 2 ^ 16 by omega, h2, show (x0.toNat * 256 + x1.toNat) * 2 ^ 16 + x2.toNat * 256 = (x0.toNat * 65536 + x1.toNat * 256 + x2.toNat) * 2 ^ 8 by omega, h3]
  show _ = ((x0.toNat * 16777216 + x1.toNat * 65536 + x2.toNat * 256 + x3.toNat : Nat) : Int)
  omega
set_option maxHeartbeats 2000000 in
theorem word4_any (A : Option Addr) (n c : Nat) (bs : List UInt8) (w : World) (hb : SlB w w.heap.size A n bs) (h4 : 4 ≤ n) :
    Calls Try.prog 32 #[.slice A n c] w fun e w' => e = .returned (.int .u32 (Rd.said bs : Int)) ∧ Below w.heap.size w w' := by
  obtain ⟨x0, x1, x2, x3, t, rfl⟩ := four_of (l := bs) (by rw [hb.len]; exact h4)
  obtain ⟨b, off, _, rfl, hbb, _, _⟩ := hb.sl.at_ (k := 0) (by omega)
  have HB := hide hb; clear hb
  have c0 : ∀ p : Ext w, (extW w p).cell? ⟨b, off, none⟩ = some (.int .u8 (x0.toNat : Int)) := fun p => (HB.out.ext p).sl.cell_at (k := 0) rfl
  have c1 : ∀ p : Ext w, (extW w p).cell? ⟨b, off + 1, none⟩ = some (.int .u8 (x1.toNat : Int)) := fun p => (HB.out.ext p).sl.cell_at (k := 1) rfl
  have c2 : ∀ p : Ext w, (extW w p).cell? ⟨b, off + 2, none⟩ = some (.int .u8 (x2.toNat : Int)) := fun p => (HB.out.ext p).sl.cell_at (k := 2) rfl
  have c3 : ∀ p : Ext w, (extW w p).cell? ⟨b, off + 3, none⟩ = some (.int .u8 (x3.toNat : Int)) := fun p => (HB.out.ext p).sl.cell_at (k := 3) rfl
  have l0 := x0.toNat_lt; have l1 := x1.toNat_lt; have l2 := x2.toNat_lt; have l3 := x3.toNat_lt
  have n0 : (0 : Int) < (n : Int) := by omega
  have n1 : (1 : Int) < (n : Int) := by omega
  have n2 : (2 : Int) < (n : Int) := by omega
  have n3 : (3 : Int) < (n : Int) := by omega
  go_enter Try.func32, Try.ntmps32
  go_wp2_with fail
  refine wp_region_ext (by kernel_rfl) (by kernel_rfl) ?_
  repeat (go_big_quiet_step (fail))
  refine wpQuiet_nil ?_
  intro _ hw'
  obtain ⟨p, hw''⟩ := hw'
  subst hw''
  go_wp2_with fail
  go_ret
  rw [← said_bits]
  exact ⟨rfl, extW_below w p⟩
/-- what is said of a frame: 0, it is right -/
def Rd.open (f : List UInt8) : Int := if f.length < 8 then 4 else if 65536 < Rd.said f then 2 else if f.length - 8 < Rd.said f then 4 else if Rd.said f < f.length - 8 then 3 else if Crc.more 0 (f.drop 8) ≠ Rd.said (f.drop 4) then 5 else 0
theorem SlB.drop {w : World} {B b off n : Nat} {bs : List UInt8} (h : SlB w B (some ⟨b, off, none⟩) n bs) (k : Nat) : SlB w B (some ⟨b, off + k, none⟩) (n - k) (bs.drop k) := by
  refine ⟨by rw [List.length_map, List.length_drop, h.len], fun hn => ?_⟩
  obtain ⟨b', off', e, hb, hc⟩ := h.2 (by omega)
  injection e with e; injection e with e1 e2; subst e1; subst e2
  refine ⟨b, off + k, rfl, hb, fun j u hj => ?_⟩
  rw [List.map_drop, List.getElem?_drop] at hj
  rw [show off + k + j = off + (k + j) by omega]
  exact hc _ _ hj
theorem RSt.new {w : World} {base T n c : Nat} {A : Option Addr} {bs : List UInt8} (h : Own w base 5 A n c (bs.map bv)) (hl : bs.length = n) : RSt (w.alloc (.cells #[.slice A n c, .int .i64 0] T)) w.heap.size T bs 0 := by
  subst hl
  refine ⟨A, c, heap_alloc_new w _, ?_, (SlT.of_own h).below ((Below.refl _ _).alloc (Nat.le_refl _) _), ?_⟩
  · rcases h.2 with ⟨h1, h2⟩ | ⟨g, cap, cur, h1, h2, h3, h4, _⟩
    · injection h1 with _ h1; omega
    · injection h1 with a1 a2 a3; omega
  · rcases h.2 with ⟨h1, h2⟩ | ⟨g, cap, cur, h1, h2, h3, h4, _⟩
    · injection h1 with a1 a2 a3; exact .inl ⟨a1, a3⟩
    · injection h1 with a1 a2 a3; exact .inr ⟨g, 0, a1⟩
/-- a reader, or none -/
def GivesR (r : Int) (bs : List UInt8) (w : World) (e : Ending) (w' : World) : Prop :=
  ∃ P, e = .returned (.tuple #[.pointer P, .int .i64 r]) ∧ Below w.heap.size w w' ∧ ((r ≠ 0 ∧ P = none) ∨ (r = 0 ∧ ∃ G, P = some ⟨G, 0, none⟩ ∧ w.heap.size ≤ G ∧ RSt w' G 71 bs 0))
/-- where a reader's bytes lie: in blocks from B on -/
def RFar (w : World) (G T B : Nat) : Prop := ∃ A n c bad, RowV w G T [.slice A n c, .int .i64 bad] ∧ ∀ b off, A = some ⟨b, off, none⟩ → B ≤ b
theorem RFar.new {w : World} {base T n c : Nat} {A : Option Addr} {xs : List Value} (h : Own w base 5 A n c xs) : RFar (w.alloc (.cells #[.slice A n c, .int .i64 0] T)) w.heap.size T base := by
  refine ⟨A, n, c, 0, heap_alloc_new w _, fun b off e => ?_⟩
  rcases h.2 with ⟨h1, h2⟩ | ⟨g, cap, cur, h1, h2, h3, h4, _⟩
  · injection h1 with a1 a2 a3; rw [a1] at e; cases e
  · injection h1 with a1 a2 a3; rw [a1] at e; injection e with e; injection e with e _; omega
/-- a reader whose bytes are its own, or none -/
def GivesF (r : Int) (bs : List UInt8) (w : World) (e : Ending) (w' : World) : Prop :=
  ∃ P, e = .returned (.tuple #[.pointer P, .int .i64 r]) ∧ Below w.heap.size w w' ∧ ((r ≠ 0 ∧ P = none) ∨ (r = 0 ∧ ∃ G, P = some ⟨G, 0, none⟩ ∧ w.heap.size ≤ G ∧ RSt w' G 71 bs 0 ∧ RFar w' G 71 w.heap.size))
theorem GivesF.gives {r : Int} {bs : List UInt8} {w w' : World} {e : Ending} (h : GivesF r bs w e w') : GivesR r bs w e w' := by
  obtain ⟨P, h1, h2, h3⟩ := h
  refine ⟨P, h1, h2, ?_⟩
  rcases h3 with h | ⟨h0, G, hP, hG, hS, _⟩
  · exact .inl h
  · exact .inr ⟨h0, G, hP, hG, hS⟩
set_option maxHeartbeats 4000000 in
set_option maxRecDepth 100000 in
theorem newreader_far (A : Option Addr) (n c : Nat) (f : List UInt8) (w : World) (hb : SlB w w.heap.size A n f) (hn : n ≤ c) (hc : c ≤ 9223372036854775807) :
    Calls Try.prog 17 #[.slice A n c] w (GivesF (Rd.open f) (f.drop 8) w) := by
  have hl := hb.len
  have HB := hide hb; clear hb
  by_cases h8 : n < 8
  · have g8 : (n : Int) < 8 := by omega
    have HE : Hid (Rd.open f = 4) := hide (by unfold Rd.open; rw [if_pos (by omega)])
    clear hl
    go_enter Try.func17, Try.ntmps17
    go_wp2_with fail
    go_ret2
    rw [HE.out]
    exact ⟨none, rfl, Below.refl _ _, .inl ⟨by decide, rfl⟩⟩
  · obtain ⟨m, rfl⟩ : ∃ m, n = m + 8 := ⟨n - 8, by omega⟩
    have g8 : ¬ (((m + 8 : Nat) : Int) < 8) := by omega
    have HOP : Hid (Rd.open f = if 65536 < Rd.said f then 2 else if m < Rd.said f then 4 else if Rd.said f < m then 3 else if Crc.more 0 (f.drop 8) ≠ Rd.said (f.drop 4) then 5 else 0) := hide (by
      unfold Rd.open; rw [if_neg (by omega), show f.length - 8 = m by omega])
    obtain ⟨b, off, _, rfl, hbb, _, _⟩ := HB.out.sl.at_ (k := 0) (by omega)
    have D8 : Hid (SlB w w.heap.size (some ⟨b, off + 8, none⟩) m (f.drop 8)) := hide (by have := HB.out.drop 8; rwa [Nat.add_sub_cancel] at this)
    have D4 : Hid (SlB w w.heap.size (some ⟨b, off + 4, none⟩) (m + 4) (f.drop 4)) := hide (by have := HB.out.drop 4; rwa [show m + 8 - 4 = m + 4 by omega] at this)
    have K := hide (fun p : Ext w => word4_any _ _ c _ _ (HB.out.ext p) (by omega))
    have HS := hide (Rd.said_lt f)
    obtain ⟨sd, hsd⟩ : ∃ sd, sd = Rd.said f := ⟨_, rfl⟩
    rw [← hsd] at K HOP HS
    have HSD := hide hsd
    clear hsd hl h8
    have c8 : (8 : Int) ≤ (c : Int) := by omega
    have m0 : (0 : Int) ≤ (m : Int) := by omega
    have hsl := HS.out
    go_enter Try.func17, Try.ntmps17
    go_upto_region 3 with (fail)
    go_cut [4, 5] (fun v4 v5 wx => ∃ (A8 : Option Addr) (c8 : Nat), v4 = .int .u64 (sd : Int) ∧ v5 = .slice A8 m c8 ∧ m ≤ c8 ∧ Hid (SlB wx wx.heap.size A8 m (f.drop 8)) ∧ Hid (Below w.heap.size w wx))
    case first =>
      by_cases hc8 : c = 8
      · have hm0 : m = 0 := by omega
        subst hm0
        subst hc8
        clear hn c8 m0 g8
        refine wp_region_ext (by kernel_rfl) (by kernel_rfl) ?_
        repeat (go_big_quiet_step (with_reducible first | exact ext_call _ (K.out _)))
        refine wpQuiet_nil ?_
        intro _ hw'
        obtain ⟨p, hw''⟩ := hw'
        subst hw''
        have DD := hide (D8.out.ext p)
        go_wp2_with fail
        go_meet
        case rel => exact ⟨_, _, rfl, rfl, by omega, hide (show SlB _ _ _ 0 _ from ⟨DD.out.1, fun h => absurd h (by omega)⟩), hide (extW_below w p)⟩
      · refine wp_region_ext (by kernel_rfl) (by kernel_rfl) ?_
        repeat (go_big_quiet_step (with_reducible first | exact ext_call _ (K.out _)))
        refine wpQuiet_nil ?_
        intro _ hw'
        obtain ⟨p, hw''⟩ := hw'
        subst hw''
        have DD := hide (D8.out.ext p)
        go_wp2_with fail
        go_meet
        case rel => exact ⟨_, _, rfl, rfl, by omega, DD, hide (extW_below w p)⟩
    case rest =>
      obtain ⟨A8, k8, rfl, rfl, hk8, H8, HW⟩ := hcut
      clear K g8
      by_cases h1 : 65536 < sd
      · have i1 : (65536 : Int) < (sd : Int) := by omega
        have HE : Hid (Rd.open f = 2) := hide (by rw [HOP.out, if_pos h1])
        clear h1 hsl
        go_wp2_with fail
        go_ret2
        rw [HE.out]
        exact ⟨none, rfl, HW.out, .inl ⟨by decide, rfl⟩⟩
      by_cases h2 : m < sd
      · have i1 : ¬ ((65536 : Int) < (sd : Int)) := by omega
        have i2 : (m : Int) < (sd : Int) := by omega
        have HE : Hid (Rd.open f = 4) := hide (by rw [HOP.out, if_neg h1, if_pos h2])
        clear h1 h2 hsl
        go_wp2_with fail
        go_ret2
        rw [HE.out]
        exact ⟨none, rfl, HW.out, .inl ⟨by decide, rfl⟩⟩
      by_cases h3 : sd < m
      · have i1 : ¬ ((65536 : Int) < (sd : Int)) := by omega
        have i2 : ¬ ((m : Int) < (sd : Int)) := by omega
        have i3 : (sd : Int) < (m : Int) := by omega
        have HE : Hid (Rd.open f = 3) := hide (by rw [HOP.out, if_neg h1, if_neg h2, if_pos h3])
        clear h1 h2 h3 hsl
        go_wp2_with fail
        go_ret2
        rw [HE.out]
        exact ⟨none, rfl, HW.out, .inl ⟨by decide, rfl⟩⟩
      have i1 : ¬ ((65536 : Int) < (sd : Int)) := by omega
      have i2 : ¬ ((m : Int) < (sd : Int)) := by omega
      have i3 : ¬ ((sd : Int) < (m : Int)) := by omega
      have HOP2 : Hid (Rd.open f = if Crc.more 0 (f.drop 8) ≠ Rd.said (f.drop 4) then 5 else 0) := hide (by rw [HOP.out, if_neg h1, if_neg h2, if_neg h3])
      have hmb : m ≤ 65536 := by omega
      have HX := HW.out.size
      have K1 := hide (fun p : Ext wc => csum_any A8 m k8 _ _ (H8.out.ext p) (by omega))
      have D4' : Hid (SlB wc wc.heap.size (some ⟨b, off + 4, none⟩) (m + 4) (f.drop 4)) := hide (D4.out.up HW.out)
      have K2 := hide (fun p : Ext wc => word4_any (some ⟨b, off + 4, none⟩) (m + 4) (c - 4) _ _ (D4'.out.ext p) (by omega))
      obtain ⟨cs, hcs⟩ : ∃ cs, cs = Crc.more 0 (f.drop 8) := ⟨_, rfl⟩
      obtain ⟨s4, hs4⟩ : ∃ s4, s4 = Rd.said (f.drop 4) := ⟨_, rfl⟩
      rw [← hcs, ← hs4] at HOP2
      rw [← hcs] at K1
      rw [← hs4] at K2
      clear hcs hs4 HOP h1 h2 h3 hsl HS HSD
      have c4 : (4 : Int) ≤ (c : Int) := by omega
      have c4' : (4 : Int) ≤ ((m + 8 : Nat) : Int) := by omega
      go_upto_region 10 with (fail)
      by_cases hne : cs = s4
      · have hnb : ((cs : Int) != (s4 : Int)) = false := by simp [hne]
        have HE : Hid (Rd.open f = 0) := hide (by rw [HOP2.out, if_neg (by omega)])
        clear hne HOP2
        refine wp_region_ext (by kernel_rfl) (by kernel_rfl) ?_
        repeat (go_big_quiet_step (with_reducible first | exact ext_call _ (K1.out _) | exact ext_call _ (K2.out _)))
        refine wpQuiet_nil ?_
        intro _ hw'
        obtain ⟨p, hw''⟩ := hw'
        subst hw''
        have H9 := hide (H8.out.ext p)
        have W9 := hide (HW.out.trans ((extW_below wc p).mono HW.out.size))
        generalize extW wc p = Y at H9 W9 ⊢
        have HN : Hid (Own Y w.heap.size 5 none 0 0 []) := hide Own.nil_
        go_wp2_with (at_builtin; go_must (with_reducible refine wpList_app rfl (.const (.slice none 0 0)) (.tmp 36) 24 rfl (.int .u8 0) 1 Try.underlying24 info_u8 (cells_int _ _) rfl HN.out rfl H9.out.sl (bytes_oneCell _) (by unfold maxLen; omega) (by omega) W9.out.size ?_))
        intro A5 c5 w5 ho hgr _
        rw [← List.map_drop] at ho
        have B5 : Hid (Below w.heap.size w w5) := hide (below_of_grown W9.out hgr W9.out.size (fun k hk => by simp [Value.ownBlock] at hk))
        have O5 := hide ho
        clear ho hgr
        have HL9 := hide H9.out.len
        go_wp2_with fail
        go_ret2
        rw [HE.out]
        exact ⟨_, rfl, B5.out.alloc B5.out.size _, .inr ⟨rfl, _, rfl, B5.out.size, RSt.new O5.out HL9.out, RFar.new O5.out⟩⟩
      · have hnb : ((cs : Int) != (s4 : Int)) = true := by rw [bne_iff_ne]; omega
        have HE : Hid (Rd.open f = 5) := hide (by rw [HOP2.out, if_pos hne])
        clear hne HOP2
        refine wp_region_ext (by kernel_rfl) (by kernel_rfl) ?_
        repeat (go_big_quiet_step (with_reducible first | exact ext_call _ (K1.out _) | exact ext_call _ (K2.out _)))
        refine wpQuiet_nil ?_
        intro _ hw'
        obtain ⟨p, hw''⟩ := hw'
        subst hw''
        go_wp2_with fail
        go_ret2
        rw [HE.out]
        exact ⟨none, rfl, HW.out.trans ((extW_below wc p).mono HW.out.size), .inl ⟨by decide, rfl⟩⟩
theorem newreader_any (A : Option Addr) (n c : Nat) (f : List UInt8) (w : World) (hb : SlB w w.heap.size A n f) (hn : n ≤ c) (hc : c ≤ 9223372036854775807) :
    Calls Try.prog 17 #[.slice A n c] w (GivesR (Rd.open f) (f.drop 8) w) := (newreader_far A n c f w hb hn hc).mono fun _ _ h => h.gives
end Go.Proofs.Ytnlfnjadadfhkaa
