/-
  The walks of the document's Bytes, Write.
-/
import Derived.Test.YtnlfnjadadfhkaaWireG
import Derived.Deep.DeepCutAuto
namespace Go.Proofs.Ytnlfnjadadfhkaa
open Go.RowKit
set_option linter.unusedVariables false

/-- the bytes at the head of a put: at most somewhat more than a frame -/
def Wire.cut (b : List UInt8) : List UInt8 := if 65536 < b.length then b.take 65537 else b
/-- texts, while a frame is not full -/
def Wire.rtexts : List ByteArray → List UInt8 → List UInt8
  | [], b => b
  | s :: t, b => if b.length ≤ 65536 then Wire.rtexts t (b ++ Wire.rtext s.data.toList) else b
def Wire.rstep (b : List UInt8) (p : Put) : List UInt8 :=
  if p.kind = 0 then Wire.cut b ++ Wire.num (Wire.zig p.n) else if p.kind = 1 then Wire.cut b ++ Wire.rtext p.s.data.toList else if p.kind = 2 then Wire.cut b ++ [if p.n = 1 then 1 else 0] else if p.kind = 3 then Wire.cut b ++ Wire.cnt p.n
  else if p.kind = 4 then (if p.l.length ≤ 4096 then Wire.rtexts p.l (Wire.cut b ++ Wire.num p.l.length) else Wire.cut b) else Wire.cut b
def Wire.rbad (s : Bool) (p : Put) : Bool := s || decide (p.kind = 3 ∧ (p.n < 0 ∨ 4096 < p.n)) || decide (p.kind = 4 ∧ 4096 < p.l.length)
def Wire.rbytesOf (ps : List Put) : List UInt8 := ps.foldl Wire.rstep []
def Wire.rbadOf (ps : List Put) : Bool := ps.foldl Wire.rbad false
theorem Wire.rbytesOf_step {ps : List Put} {i : Nat} {p : Put} (h : ps[i]? = some p) : Wire.rbytesOf (ps.take (i + 1)) = Wire.rstep (Wire.rbytesOf (ps.take i)) p := by
  unfold Wire.rbytesOf
  rw [List.take_add_one, h]; simp
theorem Wire.rbadOf_step {ps : List Put} {i : Nat} {p : Put} (h : ps[i]? = some p) : Wire.rbadOf (ps.take (i + 1)) = Wire.rbad (Wire.rbadOf (ps.take i)) p := by
  unfold Wire.rbadOf
  rw [List.take_add_one, h]; simp
theorem Wire.rtext_length (s : List UInt8) : (Wire.rtext s).length ≤ 65547 := by
  unfold Wire.rtext
  have := Wire.num_length s.length
  simp; omega
theorem Wire.cut_length (b : List UInt8) : (Wire.cut b).length ≤ 65537 := by
  unfold Wire.cut; split
  · simp; omega
  · omega
theorem Own.take {w : World} {base e n c : Nat} {A : Option Addr} {xs : List Value} (h : Own w base e A n c xs) {k : Nat} (hk : k ≤ n) (h0 : 0 < k) : Own w base e A k c (xs.take k) := by
  have hl := h.len
  refine ⟨by simp; omega, ?_⟩
  rcases h.2 with ⟨h1, h2⟩ | ⟨g, cap, cur, h1, h2, h3, h4, h5, h6, h7⟩
  · injection h1 with _ h1; omega
  · injection h1 with a1 a2 a3
    refine .inr ⟨g, cap, cur, by rw [a1, a3], h2, h3, by omega, h5, h6, ?_⟩
    rw [← h7, List.take_take, Nat.mul_one, Nat.mul_one, Nat.min_eq_left hk]

set_option maxHeartbeats 8000000 in
set_option maxRecDepth 100000 in
theorem rbytes_any (A0 : Option Addr) (n c0 : Nat) (ps : List Put) (w : World) (hp : SlPut w w.heap.size A0 n ps) (hn : n ≤ 9223372036854775807) :
    Calls Try.prog 31 #[.slice A0 n c0] w fun e w' => ∃ A c, e = .returned (.tuple #[.slice A (Wire.rbytesOf ps).length c, .bool (Wire.rbadOf ps)]) ∧ Own w' w.heap.size 5 A (Wire.rbytesOf ps).length c ((Wire.rbytesOf ps).map bv) ∧ (Wire.rbytesOf ps).length ≤ 131100 ∧ Below w.heap.size w w' := by
  have HP := hide hp; have HN := hide hp.1; clear hp
  go_enter Try.func31, Try.ntmps31
  go_wp2_with fail
  go_loopw [4, 5, 6] (fun v4 v5 v6 wq => ∃ (i q c : Nat) (A : Option Addr) (s : Bool), i ≤ n ∧ q ≤ 131100 ∧ v6 = .int .i64 i ∧ v5 = .bool s ∧ v4 = .slice A q c ∧ Hid ((Wire.rbytesOf (ps.take i)).length = q) ∧ Hid (Wire.rbadOf (ps.take i) = s) ∧ Hid (Own wq w.heap.size 5 A q c ((Wire.rbytesOf (ps.take i)).map bv)) ∧ Hid (Below w.heap.size w wq)) (fun _ _ v _ => n - (intOf v).toNat)
  case atStart => exact ⟨0, 0, 0, none, false, by omega, by omega, rfl, rfl, rfl, hide rfl, hide rfl, hide Own.nil_, hide (Below.refl _ _)⟩
  case round =>
    obtain ⟨i, q, c, A, s, hi2, hq, rfl, rfl, rfl, HQ, HBAD, HO, HB⟩ := hrel
    by_cases hlt : i < n
    · obtain ⟨b, off, p, rfl, hbb, hpi, hok, e0, e1, e2, A2, d2, e3, hl2⟩ := HP.out.at_ hlt
      have c0 := (HB.out.cell (p := ⟨b, _, none⟩) hbb).trans e0
      have c1 := (HB.out.cell (p := ⟨b, _, none⟩) hbb).trans e1
      have c2 := (HB.out.cell (p := ⟨b, _, none⟩) hbb).trans e2
      have c3 := (HB.out.cell (p := ⟨b, _, none⟩) hbb).trans e3
      clear e0 e1 e2 e3
      have HPI := hide hpi; have HL2 := hide hl2; have HOK := hide hok
      have b1 : (0 : Int) ≤ (i : Int) := by omega
      have b2 : (i : Int) < (n : Int) := by omega
      clear hpi hl2 hok
      go_upto_if 17 with (fail)
      go_cut [4] (fun v4 wx => ∃ q2 : Nat, q2 ≤ 65537 ∧ v4 = .slice A q2 c ∧ wx = wr ∧ Hid ((Wire.cut (Wire.rbytesOf (ps.take i))).length = q2) ∧ Hid (Own wr w.heap.size 5 A q2 c ((Wire.cut (Wire.rbytesOf (ps.take i))).map bv)))
      case first =>
        by_cases hl : 65536 < q
        · have hc : q ≤ c := by
            rcases HO.out.2 with ⟨h1, h2⟩ | ⟨g, cap, cur, h1, h2, h3, h4, h5, h6, h7⟩
            · injection h1 with _ h1; omega
            · injection h1 with a1 a2 a3; omega
          have hi : (65536 : Int) < (q : Int) := by omega
          have hj : (65537 : Int) ≤ (c : Int) := by omega
          have HE : Hid (Wire.cut (Wire.rbytesOf (ps.take i)) = (Wire.rbytesOf (ps.take i)).take 65537) := hide (by unfold Wire.cut; rw [if_pos (by rw [HQ.out]; exact hl)])
          go_wp2_with fail
          go_meet
          case rel =>
            refine ⟨65537, by omega, rfl, rfl, hide ?_, hide ?_⟩
            · rw [HE.out, List.length_take, HQ.out]; omega
            · rw [HE.out, List.map_take]; exact HO.out.take (by omega) (by omega)
        · have hi : ¬ ((65536 : Int) < (q : Int)) := by omega
          have HE : Hid (Wire.cut (Wire.rbytesOf (ps.take i)) = Wire.rbytesOf (ps.take i)) := hide (by unfold Wire.cut; rw [if_neg (by rw [HQ.out]; exact hl)])
          go_wp2_with fail
          go_meet
          case rel => exact ⟨q, by omega, rfl, rfl, hide (by rw [HE.out]; exact HQ.out), hide (by rw [HE.out]; exact HO.out)⟩
      case rest =>
        obtain ⟨q2, hq2, rfl, rfl, HQ2, HO2⟩ := hcut
        clear HO HQ
        go_upto_region 9 with (fail)
        have hgw := Nat.le_refl wc.heap.size
        refine wp_world (fun X => Hid (RowV X wc.heap.size 43 [.int .i64 p.kind, .int .i64 p.n, .string p.s, .slice A2 p.l.length d2]) ∧ Hid (Below w.heap.size w X) ∧ Hid (Own X w.heap.size 5 A q2 c ((Wire.cut (Wire.rbytesOf (ps.take i))).map bv))) ⟨hide (RowV.new _ _ _), hide (HB.out.alloc HB.out.size _), hide (HO2.out.alloc _)⟩ ?_
        rintro X ⟨RX, BX, OX⟩
        clear c0 c1 c2 c3 HO2 HB hgw
        generalize wc.heap.size = g at RX ⊢
        have x0 := RX.out.cell (k := 0) rfl
        have x1 := RX.out.cell (k := 1) rfl
        have x2 := RX.out.cell (k := 2) rfl
        have x3 := RX.out.cell (k := 3) rfl
        -- ARMS
        by_cases h0 : p.kind = 0
        · have HK := hide h0
          have hkb := h0
          rw [h0] at x0
          clear h0 hkb
          have HYL : Hid ((Wire.num (Wire.zig p.n)).length ≤ 10) := hide (Wire.num_length _)
          have HST : Hid (Wire.rstep (Wire.rbytesOf (ps.take i)) p = Wire.cut (Wire.rbytesOf (ps.take i)) ++ Wire.num (Wire.zig p.n)) := hide (by unfold Wire.rstep; simp [HK.out])
          have HBA : Hid (Wire.rbad (Wire.rbadOf (ps.take i)) p = s) := hide (by unfold Wire.rbad; rw [HBAD.out]; simp [HK.out])
          go_wp2_with fail
          refine (rinteger_any p.n _ HOK.out.2.1).mono ?_
          rintro e w1 ⟨A1, d1, rfl, ho, hb⟩
          have O1 := hide ho; have OB := hide (OX.out.below hb); have B1 := hide (BX.out.trans (hb.mono BX.out.size)); clear ho hb
          go_wp2_with (at_builtin; go_must (with_reducible refine wpList_app rfl (.tmp 28) (.tmp 31) 24 rfl (.int .u8 0) 1 Try.underlying24 info_u8 (cells_int _ _) rfl OB.out rfl O1.out.sl (bytes_oneCell _) (by unfold maxLen; have := HYL.out; omega) (by have := HYL.out; omega) (B1.out.size) ?_))
          intro A5 c5 w5 ho hgr _
          have B5 : Hid (Below w.heap.size w w5) := hide (below_of_grown B1.out hgr B1.out.size OB.out.row_ge)
          have O5 := hide ho; clear ho hgr
          have HQ5 : Hid (q2 + (Wire.num (Wire.zig p.n)).length ≤ 131100) := hide (by have := HYL.out; omega)
          go_wp2_with fail
          go_roundw
          case rel => exact ⟨i + 1, _, _, _, s, by omega, HQ5.out, by go_num, rfl, rfl, hide (by rw [Wire.rbytesOf_step HPI.out, HST.out, List.length_append, HQ2.out]), hide (by rw [Wire.rbadOf_step HPI.out, HBA.out]), hide (by rw [Wire.rbytesOf_step HPI.out, HST.out, List.map_append]; exact O5.out), B5⟩
          case measure => simp [intOf]; omega
        have b0 : (p.kind == 0) = false := by simpa using h0
        by_cases h1 : p.kind = 1
        · have HK := hide h1
          rw [h1] at x0
          clear h0 h1 b0
          have HYL : Hid ((Wire.rtext p.s.data.toList).length ≤ 65547) := hide (Wire.rtext_length _)
          have HST : Hid (Wire.rstep (Wire.rbytesOf (ps.take i)) p = Wire.cut (Wire.rbytesOf (ps.take i)) ++ Wire.rtext p.s.data.toList) := hide (by unfold Wire.rstep; simp [HK.out])
          have HBA : Hid (Wire.rbad (Wire.rbadOf (ps.take i)) p = s) := hide (by unfold Wire.rbad; rw [HBAD.out]; simp [HK.out])
          go_wp2_with fail
          refine (rtext_any p.s _ HOK.out.2.2.1).mono ?_
          rintro e w1 ⟨A1, d1, rfl, ho, hb⟩
          have O1 := hide ho; have OB := hide (OX.out.below hb); have B1 := hide (BX.out.trans (hb.mono BX.out.size)); clear ho hb
          go_wp2_with (at_builtin; go_must (with_reducible refine wpList_app rfl (.tmp 35) (.tmp 38) 24 rfl (.int .u8 0) 1 Try.underlying24 info_u8 (cells_int _ _) rfl OB.out rfl O1.out.sl (bytes_oneCell _) (by unfold maxLen; have := HYL.out; omega) (by have := HYL.out; omega) (B1.out.size) ?_))
          intro A5 c5 w5 ho hgr _
          have B5 : Hid (Below w.heap.size w w5) := hide (below_of_grown B1.out hgr B1.out.size OB.out.row_ge)
          have O5 := hide ho; clear ho hgr
          have HQ5 : Hid (q2 + (Wire.rtext p.s.data.toList).length ≤ 131100) := hide (by have := HYL.out; omega)
          go_wp2_with fail
          go_roundw
          case rel => exact ⟨i + 1, _, _, _, s, by omega, HQ5.out, by go_num, rfl, rfl, hide (by rw [Wire.rbytesOf_step HPI.out, HST.out, List.length_append, HQ2.out]), hide (by rw [Wire.rbadOf_step HPI.out, HBA.out]), hide (by rw [Wire.rbytesOf_step HPI.out, HST.out, List.map_append]; exact O5.out), B5⟩
          case measure => simp [intOf]; omega
        have b1' : (p.kind == 1) = false := by simpa using h1
        by_cases h2 : p.kind = 2
        · have HK := hide h2
          rw [h2] at x0
          clear h0 h1 b0 b1' h2
          have HBA : Hid (Wire.rbad (Wire.rbadOf (ps.take i)) p = s) := hide (by unfold Wire.rbad; rw [HBAD.out]; simp [HK.out])
          by_cases hn1 : p.n = 1
          · have HST : Hid (Wire.rstep (Wire.rbytesOf (ps.take i)) p = Wire.cut (Wire.rbytesOf (ps.take i)) ++ [1]) := hide (by unfold Wire.rstep; simp [HK.out, hn1])
            rw [hn1] at x1
            clear hn1
            go_wp2_with (at_builtin; go_must (with_reducible refine wpList_app rfl (.tmp 45) (.tmp 46) 24 rfl (.int .u8 0) 1 Try.underlying24 info_u8 (cells_int _ _) rfl (OX.out.alloc _) rfl Sl.one (one_int _ _) (by unfold maxLen; have := hq2; omega) (by have := hq2; omega) (by have := BX.out.size; rw [World.size_alloc]; omega) ?_))
            intro A5 c5 w5 ho hgr _
            have B5 : Hid (Below w.heap.size w w5) := hide (below_of_grown (BX.out.alloc BX.out.size _) hgr (by have := BX.out.size; rw [World.size_alloc]; omega) OX.out.row_ge)
            have O5 := hide ho; clear ho hgr
            have HQ5 : Hid (q2 + ([1] : List UInt8).length ≤ 131100) := hide (by show q2 + 1 ≤ _; omega)
            go_wp2_with fail
            go_roundw
            case rel => exact ⟨i + 1, _, _, _, s, by omega, HQ5.out, by go_num, rfl, rfl, hide (by rw [Wire.rbytesOf_step HPI.out, HST.out, List.length_append, HQ2.out]), hide (by rw [Wire.rbadOf_step HPI.out, HBA.out]), hide (by rw [Wire.rbytesOf_step HPI.out, HST.out, List.map_append]; exact O5.out), B5⟩
            case measure => simp [intOf]; omega
          · have HST : Hid (Wire.rstep (Wire.rbytesOf (ps.take i)) p = Wire.cut (Wire.rbytesOf (ps.take i)) ++ [0]) := hide (by unfold Wire.rstep; simp [HK.out, hn1])
            have hnb : (p.n == 1) = false := by simpa using hn1
            clear hn1
            go_wp2_with (at_builtin; go_must (with_reducible refine wpList_app rfl (.tmp 48) (.tmp 49) 24 rfl (.int .u8 0) 1 Try.underlying24 info_u8 (cells_int _ _) rfl (OX.out.alloc _) rfl Sl.one (one_int _ _) (by unfold maxLen; have := hq2; omega) (by have := hq2; omega) (by have := BX.out.size; rw [World.size_alloc]; omega) ?_))
            intro A5 c5 w5 ho hgr _
            have B5 : Hid (Below w.heap.size w w5) := hide (below_of_grown (BX.out.alloc BX.out.size _) hgr (by have := BX.out.size; rw [World.size_alloc]; omega) OX.out.row_ge)
            have O5 := hide ho; clear ho hgr
            have HQ5 : Hid (q2 + ([0] : List UInt8).length ≤ 131100) := hide (by show q2 + 1 ≤ _; omega)
            go_wp2_with fail
            go_roundw
            case rel => exact ⟨i + 1, _, _, _, s, by omega, HQ5.out, by go_num, rfl, rfl, hide (by rw [Wire.rbytesOf_step HPI.out, HST.out, List.length_append, HQ2.out]), hide (by rw [Wire.rbadOf_step HPI.out, HBA.out]), hide (by rw [Wire.rbytesOf_step HPI.out, HST.out, List.map_append]; exact O5.out), B5⟩
            case measure => simp [intOf]; omega
        have b2' : (p.kind == 2) = false := by simpa using h2
        by_cases h3 : p.kind = 3
        · have HK := hide h3
          rw [h3] at x0
          clear h0 h1 b0 b1' h2 b2' h3
          by_cases hn3 : p.n < 0 ∨ 4096 < p.n
          · have HST : Hid (Wire.rstep (Wire.rbytesOf (ps.take i)) p = Wire.cut (Wire.rbytesOf (ps.take i)) ++ []) := hide (by unfold Wire.rstep Wire.cnt; simp [HK.out, hn3])
            have HBA : Hid (Wire.rbad (Wire.rbadOf (ps.take i)) p = true) := hide (by unfold Wire.rbad; simp [HK.out, hn3])
            have O5 : Hid (Own X w.heap.size 5 A (q2 + ([] : List UInt8).length) c ((Wire.cut (Wire.rbytesOf (ps.take i))).map bv ++ ([] : List UInt8).map bv)) := hide (by simpa using OX.out)
            have HQ5 : Hid (q2 + ([] : List UInt8).length ≤ 131100) := hide (by show q2 + 0 ≤ _; omega)
            have B5 := BX
            rcases hn3 with hn3 | hn3
            all_goals
              go_wp2_with fail
              go_roundw
              case rel => exact ⟨i + 1, _, _, _, true, by omega, HQ5.out, by go_num, rfl, rfl, hide (by rw [Wire.rbytesOf_step HPI.out, HST.out, List.length_append, HQ2.out]), hide (by rw [Wire.rbadOf_step HPI.out, HBA.out]), hide (by rw [Wire.rbytesOf_step HPI.out, HST.out, List.map_append]; exact O5.out), B5⟩
              case measure => simp [intOf]; omega
          · have HK3 := hide hn3
            have n0 : 0 ≤ p.n := by omega
            have n1 : p.n ≤ 4096 := by omega
            clear hn3
            have HYL : Hid ((Wire.cnt p.n).length ≤ 10) := hide (by unfold Wire.cnt; rw [if_neg HK3.out]; exact Wire.num_length _)
            have HNUM : Hid (Calls Try.prog 52 #[.int .u64 p.n] X (GivesB (Wire.cnt p.n) X)) := hide (by
              have h := rnumber_any p.n.toNat X (by omega)
              rw [show ((p.n.toNat : Nat) : Int) = p.n by omega] at h
              unfold Wire.cnt; rw [if_neg HK3.out]; exact h)
            have HST : Hid (Wire.rstep (Wire.rbytesOf (ps.take i)) p = Wire.cut (Wire.rbytesOf (ps.take i)) ++ Wire.cnt p.n) := hide (by unfold Wire.rstep; simp [HK.out])
            have HBA : Hid (Wire.rbad (Wire.rbadOf (ps.take i)) p = s) := hide (by unfold Wire.rbad; rw [HBAD.out, decide_eq_false (fun h => HK3.out h.2), decide_eq_false (fun h => by rw [HK.out] at h; exact absurd h.1 (by decide))]; simp)
            go_wp2_with fail
            refine (HNUM.out).mono ?_
            rintro e w1 ⟨A1, d1, rfl, ho, hb⟩
            have O1 := hide ho; have OB := hide (OX.out.below hb); have B1 := hide (BX.out.trans (hb.mono BX.out.size)); clear ho hb
            go_wp2_with (at_builtin; go_must (with_reducible refine wpList_app rfl (.tmp 61) (.tmp 65) 24 rfl (.int .u8 0) 1 Try.underlying24 info_u8 (cells_int _ _) rfl OB.out rfl O1.out.sl (bytes_oneCell _) (by unfold maxLen; have := HYL.out; omega) (by have := HYL.out; omega) (B1.out.size) ?_))
            intro A5 c5 w5 ho hgr _
            have B5 : Hid (Below w.heap.size w w5) := hide (below_of_grown B1.out hgr B1.out.size OB.out.row_ge)
            have O5 := hide ho; clear ho hgr
            have HQ5 : Hid (q2 + (Wire.cnt p.n).length ≤ 131100) := hide (by have := HYL.out; omega)
            go_wp2_with fail
            go_roundw
            case rel => exact ⟨i + 1, _, _, _, s, by omega, HQ5.out, by go_num, rfl, rfl, hide (by rw [Wire.rbytesOf_step HPI.out, HST.out, List.length_append, HQ2.out]), hide (by rw [Wire.rbadOf_step HPI.out, HBA.out]), hide (by rw [Wire.rbytesOf_step HPI.out, HST.out, List.map_append]; exact O5.out), B5⟩
            case measure => simp [intOf]; omega
        have b3' : (p.kind == 3) = false := by simpa using h3
        by_cases h4 : p.kind = 4
        · have HK := hide h4
          rw [h4] at x0
          clear h0 h1 b0 b1' h2 b2' h3 b3' h4
          by_cases hl4 : 4096 < p.l.length
          · have hli : (4096 : Int) < (p.l.length : Int) := by omega
            have HST : Hid (Wire.rstep (Wire.rbytesOf (ps.take i)) p = Wire.cut (Wire.rbytesOf (ps.take i)) ++ []) := hide (by unfold Wire.rstep; rw [if_neg (by rw [HK.out]; decide), if_neg (by rw [HK.out]; decide), if_neg (by rw [HK.out]; decide), if_neg (by rw [HK.out]; decide), if_pos HK.out, if_neg (by omega), List.append_nil])
            have HBA : Hid (Wire.rbad (Wire.rbadOf (ps.take i)) p = true) := hide (by unfold Wire.rbad; simp [HK.out, hl4])
            have O5 : Hid (Own X w.heap.size 5 A (q2 + ([] : List UInt8).length) c ((Wire.cut (Wire.rbytesOf (ps.take i))).map bv ++ ([] : List UInt8).map bv)) := hide (by simpa using OX.out)
            have HQ5 : Hid (q2 + ([] : List UInt8).length ≤ 131100) := hide (by show q2 + 0 ≤ _; omega)
            have B5 := BX
            clear hl4
            go_wp2_with fail
            go_roundw
            case rel => exact ⟨i + 1, _, _, _, true, by omega, HQ5.out, by go_num, rfl, rfl, hide (by rw [Wire.rbytesOf_step HPI.out, HST.out, List.length_append, HQ2.out]), hide (by rw [Wire.rbadOf_step HPI.out, HBA.out]), hide (by rw [Wire.rbytesOf_step HPI.out, HST.out, List.map_append]; exact O5.out), B5⟩
            case measure => simp [intOf]; omega
          · have hli : ¬ ((4096 : Int) < (p.l.length : Int)) := by omega
            have HST : Hid (Wire.rstep (Wire.rbytesOf (ps.take i)) p = Wire.rtexts (p.l.drop 0) (Wire.cut (Wire.rbytesOf (ps.take i)) ++ Wire.num p.l.length)) := hide (by unfold Wire.rstep; rw [if_neg (by rw [HK.out]; decide), if_neg (by rw [HK.out]; decide), if_neg (by rw [HK.out]; decide), if_neg (by rw [HK.out]; decide), if_pos HK.out, if_pos (by omega), List.drop_zero])
            have HBA : Hid (Wire.rbad (Wire.rbadOf (ps.take i)) p = s) := hide (by unfold Wire.rbad; rw [HBAD.out]; simp [HK.out]; omega)
            have HYL : Hid ((Wire.num p.l.length).length ≤ 10) := hide (Wire.num_length _)
            obtain ⟨m, hm⟩ : ∃ m, m = p.l.length := ⟨_, rfl⟩
            have HM := hide hm
            have HNUM := hide (rnumber_any p.l.length X (by omega))
            rw [← hm] at x3 hli hl4 HNUM HYL HST RX
            rw [HK.out] at RX
            clear hm
            go_wp2_with fail
            refine (HNUM.out).mono ?_
            rintro e w1 ⟨A1, d1, rfl, ho, hb⟩
            have O1 := hide ho; have OB := hide (OX.out.below hb); have B1 := hide (BX.out.trans (hb.mono BX.out.size)); have R1 := hide (RX.out.below' hb); clear ho hb HNUM
            have y3 := R1.out.cell (k := 3) rfl
            go_wp2_with (at_builtin; go_must (with_reducible refine wpList_app rfl (.tmp 73) (.tmp 78) 24 rfl (.int .u8 0) 1 Try.underlying24 info_u8 (cells_int _ _) rfl OB.out rfl O1.out.sl (bytes_oneCell _) (by unfold maxLen; have := HYL.out; omega) (by have := HYL.out; omega) (B1.out.size) ?_))
            intro A5 c5 w5 ho hgr _
            have B5 : Hid (Below w.heap.size w w5) := hide (below_of_grown B1.out hgr B1.out.size OB.out.row_ge)
            have R5 : Hid (RowV w5 g 43 [.int .i64 4, .int .i64 p.n, .string p.s, .slice A2 m d2]) := hide ((hgr.block g R1.out.lt (fun h => own_ne OB.out R1.out (by decide) h.symm)).trans R1.out)
            have O5 := hide ho; clear ho hgr
            obtain ⟨q5, hq5⟩ : ∃ q5, q5 = q2 + (Wire.num m).length := ⟨_, rfl⟩
            have hq5b : q5 ≤ 131100 := by have := HYL.out; omega
            rw [← hq5, ← List.map_append] at O5
            have HQ5 : Hid ((Wire.cut (Wire.rbytesOf (ps.take i)) ++ Wire.num m).length = q5) := hide (by rw [List.length_append, HQ2.out, hq5])
            rw [← hq5]
            clear hq5 B1 OB O1 y3 R1
            go_wp2_with fail
            obtain ⟨wo, hwo⟩ : ∃ wo : World, wo = X := ⟨_, rfl⟩
            go_loopw [4, 8] (fun v4 v8 wq => ∃ (k q A c : _) (cur : List UInt8), k ≤ m ∧ q ≤ 131100 ∧ v8 = .int .i64 (k : Nat) ∧ v4 = .slice A q c ∧ Hid (cur.length = q) ∧ Hid (Wire.rstep (Wire.rbytesOf (ps.take i)) p = Wire.rtexts (p.l.drop k) cur) ∧ Hid (Own wq w.heap.size 5 A q c (cur.map bv)) ∧ Hid (RowV wq g 43 [.int .i64 4, .int .i64 p.n, .string p.s, .slice A2 m d2]) ∧ Hid (Below w.heap.size w wq)) (fun _ v _ => m - (intOf v).toNat)
            case atStart => exact ⟨0, q5, A5, c5, _, by omega, hq5b, rfl, rfl, HQ5, HST, O5, R5, B5⟩
            case round =>
              clear O5 R5 B5 HQ5 HST hq5b
              obtain ⟨k, q6, A6, c6, cur, hk, hq6, rfl, rfl, HC, HST, O6, R6, B6⟩ := hrel
              have y3 := R6.out.cell (k := 3) rfl
              by_cases hkm : k < m
              · have k1 : (k : Int) < (m : Int) := by omega
                have k0 : (0 : Int) ≤ (k : Int) := by omega
                by_cases hq65 : q6 ≤ 65536
                · have hq65i : (q6 : Int) ≤ 65536 := by omega
                  have hs2 := (HL2.out.below B6.out (Nat.le_refl _))
                  obtain ⟨tb, to_, u, rfl, htb, hu, tc⟩ := hs2.at_ (k := k) (by rw [← HM.out]; exact hkm)
                  obtain ⟨t, ht⟩ : ∃ t, p.l[k]? = some t := ⟨p.l[k]'(by rw [← HM.out]; exact hkm), List.getElem?_eq_getElem _⟩
                  rw [List.getElem?_map, ht] at hu
                  injection hu with hu; subst hu
                  have hsz := HOK.out.2.2.2.1 t (List.mem_of_getElem? ht)
                  have HST2 : Hid (Wire.rstep (Wire.rbytesOf (ps.take i)) p = Wire.rtexts (p.l.drop (k + 1)) (cur ++ Wire.rtext t.data.toList)) := hide (by
                    rw [HST.out, List.drop_eq_getElem_cons (by rw [← HM.out]; exact hkm), Wire.rtexts, if_pos (by rw [HC.out]; exact hq65)]
                    rw [List.getElem?_eq_getElem (by rw [← HM.out]; exact hkm)] at ht
                    injection ht with ht; rw [ht])
                  have HYT : Hid ((Wire.rtext t.data.toList).length ≤ 65547) := hide (Wire.rtext_length _)
                  clear ht hs2
                  go_wp2_with fail
                  refine (rtext_any t _ hsz).mono ?_
                  rintro e w7 ⟨A7, d7, rfl, ho, hb⟩
                  have O7 := hide ho; have OB := hide (O6.out.below hb); have B7 := hide (B6.out.trans (hb.mono B6.out.size)); have R7 := hide (R6.out.below' hb); clear ho hb
                  have y3' := R7.out.cell (k := 3) rfl
                  go_wp2_with (at_builtin; go_must (with_reducible refine wpList_app rfl (.tmp 92) (.tmp 98) 24 rfl (.int .u8 0) 1 Try.underlying24 info_u8 (cells_int _ _) rfl OB.out rfl O7.out.sl (bytes_oneCell _) (by unfold maxLen; have := HYT.out; omega) (by have := HYT.out; omega) (B7.out.size) ?_))
                  intro A8 c8 w8 ho hgr _
                  have B8 : Hid (Below w.heap.size w w8) := hide (below_of_grown B7.out hgr B7.out.size OB.out.row_ge)
                  have R8 : Hid (RowV w8 g 43 [.int .i64 4, .int .i64 p.n, .string p.s, .slice (some ⟨tb, to_, none⟩) m d2]) := hide ((hgr.block g R7.out.lt (fun h => own_ne OB.out R7.out (by decide) h.symm)).trans R7.out)
                  have O8 := hide ho; clear ho hgr
                  obtain ⟨q8, hq8⟩ : ∃ q8, q8 = q6 + (Wire.rtext t.data.toList).length := ⟨_, rfl⟩
                  have hq8b : q8 ≤ 131100 := by have := HYT.out; omega
                  have HC8 : Hid ((cur ++ Wire.rtext t.data.toList).length = q8) := hide (by rw [List.length_append, HC.out, hq8])
                  rw [← hq8, ← List.map_append] at O8
                  rw [← hq8]
                  clear hq8 O7 OB B7 R7 y3' y3 tc
                  go_wp2_with fail
                  go_roundw
                  case rel => exact ⟨k + 1, q8, A8, c8, _, by omega, hq8b, by go_num, rfl, HC8, HST2, O8, R8, B8⟩
                  case measure => simp [intOf]; omega
                · have hq65i : ¬ ((q6 : Int) ≤ 65536) := by omega
                  have HFIN : Hid (Wire.rstep (Wire.rbytesOf (ps.take i)) p = cur) := hide (by rw [HST.out, List.drop_eq_getElem_cons (by rw [← HM.out]; exact hkm), Wire.rtexts, if_neg (by rw [HC.out]; exact hq65)])
                  clear HST
                  go_wp2_with fail
                  go_roundw
                  case rel => exact ⟨i + 1, q6, c6, A6, s, by omega, hq6, by go_num, rfl, rfl, hide (by rw [Wire.rbytesOf_step HPI.out, HFIN.out, HC.out]), hide (by rw [Wire.rbadOf_step HPI.out, HBA.out]), hide (by rw [Wire.rbytesOf_step HPI.out, HFIN.out]; exact O6.out), B6⟩
                  case measure => simp [intOf]; omega
              · have k1 : ¬ ((k : Int) < (m : Int)) := by omega
                have HFIN : Hid (Wire.rstep (Wire.rbytesOf (ps.take i)) p = cur) := hide (by rw [HST.out, List.drop_of_length_le (by rw [← HM.out]; omega), Wire.rtexts])
                clear HST
                go_wp2_with fail
                go_roundw
                case rel => exact ⟨i + 1, q6, c6, A6, s, by omega, hq6, by go_num, rfl, rfl, hide (by rw [Wire.rbytesOf_step HPI.out, HFIN.out, HC.out]), hide (by rw [Wire.rbadOf_step HPI.out, HBA.out]), hide (by rw [Wire.rbytesOf_step HPI.out, HFIN.out]; exact O6.out), B6⟩
                case measure => simp [intOf]; omega
        · have b4' : (p.kind == 4) = false := by simpa using h4
          have HST : Hid (Wire.rstep (Wire.rbytesOf (ps.take i)) p = Wire.cut (Wire.rbytesOf (ps.take i)) ++ []) := hide (by unfold Wire.rstep; simp [h0, h1, h2, h3, h4])
          have HBA : Hid (Wire.rbad (Wire.rbadOf (ps.take i)) p = s) := hide (by unfold Wire.rbad; rw [HBAD.out]; simp [h3, h4])
          have O5 : Hid (Own X w.heap.size 5 A (q2 + ([] : List UInt8).length) c ((Wire.cut (Wire.rbytesOf (ps.take i))).map bv ++ ([] : List UInt8).map bv)) := hide (by simpa using OX.out)
          have HQ5 : Hid (q2 + ([] : List UInt8).length ≤ 131100) := hide (by show q2 + 0 ≤ _; omega)
          have B5 := BX
          clear h0 h1 h2 h3 h4
          go_wp2_with fail
          go_roundw
          case rel => exact ⟨i + 1, _, _, _, s, by omega, HQ5.out, by go_num, rfl, rfl, hide (by rw [Wire.rbytesOf_step HPI.out, HST.out, List.length_append, HQ2.out]), hide (by rw [Wire.rbadOf_step HPI.out, HBA.out]), hide (by rw [Wire.rbytesOf_step HPI.out, HST.out, List.map_append]; exact O5.out), B5⟩
          case measure => simp [intOf]; omega
        -- END
    · have HF : Hid (ps.take i = ps) := hide (List.take_of_length_le (by rw [HN.out]; omega))
      have hge : ¬ ((i : Int) < (n : Int)) := by omega
      rw [HF.out] at HQ HBAD HO
      go_wp2_with fail
      go_ret2
      exact ⟨A, c, by rw [HQ.out, HBAD.out]; rfl, by rw [HQ.out]; exact HO.out, by rw [HQ.out]; exact hq, HB.out⟩
end Go.Proofs.Ytnlfnjadadfhkaa
