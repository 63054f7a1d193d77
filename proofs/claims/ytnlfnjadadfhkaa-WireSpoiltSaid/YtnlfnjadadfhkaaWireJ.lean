/-
  The walks of the document's Write, of known, of the law WireWrites.
-/
import Derived.Test.YtnlfnjadadfhkaaWireI
namespace Go.Proofs.Ytnlfnjadadfhkaa
open Go.RowKit
set_option linter.unusedVariables false

theorem rwrite_any (A : Option Addr) (n c : Nat) (ps : List Put) (w : World) (hp : SlPut w w.heap.size A n ps) (hn : n ≤ 9223372036854775807) :
    Calls Try.prog 13 #[.slice A n c] w (GivesE (Wire.rout ps) w) := by
  have HB := hide (rbytes_any A n c ps w hp hn)
  clear hp
  cases hs : Wire.rbadOf ps
  all_goals
    rw [hs] at HB
    have HS := hide hs; clear hs
    go_enter Try.func13, Try.ntmps13
    go_wp2_with fail
    refine HB.out.mono ?_
    rintro e w1 ⟨A1, c1, rfl, ho, hl, hb⟩
    have O1 := hide ho; have B1 := hide hb; clear ho hb HB
  · by_cases hq : 65536 < (Wire.rbytesOf ps).length
    · have hi : (65536 : Int) < ((Wire.rbytesOf ps).length : Int) := by omega
      have HE : Hid (Wire.rout ps = ([], 2)) := hide (by unfold Wire.rout; rw [HS.out, if_neg (by decide), if_pos hq])
      clear hq
      go_wp2_with fail
      go_ret2
      rw [HE.out]
      exact ⟨none, 0, rfl, Own.nil_, B1.out⟩
    · have hi : ¬ ((65536 : Int) < ((Wire.rbytesOf ps).length : Int)) := by omega
      have HE : Hid (Wire.rout ps = (Wire.frame (Wire.rbytesOf ps), 0)) := hide (by unfold Wire.rout; rw [HS.out, if_neg (by decide), if_neg hq])
      have HQ := hide hq
      clear hq
      go_wp2_with fail
      refine (rframe_any A1 _ c1 (Wire.rbytesOf ps) _ O1.out.sl (by have := HQ.out; omega)).mono ?_
      rintro e w2 ⟨A2, c2, rfl, ho, hb⟩
      have O2 := hide (ho.base B1.out.size); have B2 := hide (B1.out.trans (hb.mono B1.out.size)); clear ho hb
      go_wp2_with fail
      go_ret2
      rw [HE.out]
      exact ⟨A2, c2, rfl, O2.out, B2.out⟩
  · have HE : Hid (Wire.rout ps = ([], 3)) := hide (by unfold Wire.rout; rw [HS.out, if_pos rfl])
    go_wp2_with fail
    go_ret2
    rw [HE.out]
    exact ⟨none, 0, rfl, Own.nil_, B1.out⟩
theorem Sl.drop {w : World} {B b off n : Nat} {xs : List Value} (h : Sl w B (some ⟨b, off, none⟩) n xs) (k : Nat) : Sl w B (some ⟨b, off + k, none⟩) (n - k) (xs.drop k) := by
  refine ⟨by rw [List.length_drop, h.1], fun hn => ?_⟩
  obtain ⟨b', off', e, hb, hc⟩ := h.2 (by omega)
  injection e with e; injection e with e1 e2; subst e1; subst e2
  refine ⟨b, off + k, rfl, hb, fun j u hj => ?_⟩
  rw [List.getElem?_drop] at hj
  rw [show off + k + j = off + (k + j) by omega]
  exact hc _ _ hj
def knownPuts : List Put := [⟨0, 5, ByteArray.empty, []⟩, ⟨0, -1, ByteArray.empty, []⟩, ⟨1, 0, strB [97], []⟩, ⟨2, 1, ByteArray.empty, []⟩, ⟨3, 128, ByteArray.empty, []⟩]
theorem known_out : Wire.out knownPuts = (Wire.frame [10, 1, 1, 97, 1, 128, 1], 0) := by decide +kernel
def knownCells : List Value := [.int .i64 0, .int .i64 5, .string ByteArray.empty, .slice none 0 0, .int .i64 0, .int .i64 (-1), .string ByteArray.empty, .slice none 0 0, .int .i64 1, .int .i64 0, .string (strB [97]), .slice none 0 0, .int .i64 2, .int .i64 1, .string ByteArray.empty, .slice none 0 0, .int .i64 3, .int .i64 128, .string ByteArray.empty, .slice none 0 0]
theorem putAt_nil {w : World} {B g o : Nat} {p : Put} (hl : p.l = []) (hk : -9223372036854775808 ≤ p.kind ∧ p.kind ≤ 9223372036854775807) (hn : -9223372036854775808 ≤ p.n ∧ p.n ≤ 9223372036854775807) (hs : p.s.size ≤ 9223372036854775807)
    (h0 : w.cell? ⟨g, o, none⟩ = some (.int .i64 p.kind)) (h1 : w.cell? ⟨g, o + 1, none⟩ = some (.int .i64 p.n)) (h2 : w.cell? ⟨g, o + 2, none⟩ = some (.string p.s)) (h3 : w.cell? ⟨g, o + 3, none⟩ = some (.slice none 0 0)) : PutAt w B g o p := by
  obtain ⟨kind, n, s, l⟩ := p
  subst hl
  exact ⟨⟨hk, hn, hs, by simp, by simp⟩, h0, h1, h2, none, 0, h3, Sl.nil_⟩
theorem known_sl {w : World} {g : Nat} (h : RowV w g 43 knownCells) : SlPut w w.heap.size (some ⟨g, 0, none⟩) 5 knownPuts := by
  refine ⟨rfl, fun _ => ⟨g, 0, rfl, h.lt, fun k p hp => ?_⟩⟩
  match k, hp with
  | 0, hp => injection hp with hp; subst hp; exact putAt_nil rfl (by decide) (by decide) (by decide) (h.cell (k := 0) rfl) (h.cell (k := 1) rfl) (h.cell (k := 2) rfl) (h.cell (k := 3) rfl)
  | 1, hp => injection hp with hp; subst hp; exact putAt_nil rfl (by decide) (by decide) (by decide) (h.cell (k := 4) rfl) (h.cell (k := 5) rfl) (h.cell (k := 6) rfl) (h.cell (k := 7) rfl)
  | 2, hp => injection hp with hp; subst hp; exact putAt_nil rfl (by decide) (by decide) (by decide) (h.cell (k := 8) rfl) (h.cell (k := 9) rfl) (h.cell (k := 10) rfl) (h.cell (k := 11) rfl)
  | 3, hp => injection hp with hp; subst hp; exact putAt_nil rfl (by decide) (by decide) (by decide) (h.cell (k := 12) rfl) (h.cell (k := 13) rfl) (h.cell (k := 14) rfl) (h.cell (k := 15) rfl)
  | 4, hp => injection hp with hp; subst hp; exact putAt_nil rfl (by decide) (by decide) (by decide) (h.cell (k := 16) rfl) (h.cell (k := 17) rfl) (h.cell (k := 18) rfl) (h.cell (k := 19) rfl)
  | k + 5, hp => simp [knownPuts] at hp
set_option maxHeartbeats 2000000 in
theorem known_any (w : World) : Calls Try.prog 14 #[] w fun e w' => e = .returned (.bool true) ∧ Below w.heap.size w w' := by
  go_enter Try.func14, Try.ntmps14
  go_wp2_with fail
  refine (write_any _ 5 5 knownPuts _ (known_sl (RowV.new w 43 knownCells)) (by omega)).mono ?_
  rintro e w1 ⟨A, c, rfl, ho, hb⟩
  rw [known_out] at ho ⊢
  have hc : 15 ≤ c := by
    rcases ho.2 with ⟨h1, h2⟩ | ⟨g, cap, cur, h1, h2, h3, h4, h5, h6, h7⟩
    · injection h1 with _ h1; cases h1
    · injection h1 with a1 a2 a3; rw [a3]; exact h4
  have hsl := ho.sl
  have B1 : Hid (Below w.heap.size w w1) := hide (((Below.refl w.heap.size w).alloc (Nat.le_refl _) _).trans (hb.mono (by rw [World.size_alloc]; omega)))
  obtain ⟨b, off, u, rfl, hbb, _, _⟩ := hsl.at_ (k := 0) (by decide)
  have hd : SlB w1 w1.heap.size (some ⟨b, off + 8, none⟩) 7 [10, 1, 1, 97, 1, 128, 1] := hsl.drop 8
  have hcv := conv_any (P := Try.prog) 24 9 5 Try.underlying24 Try.underlying5 Try.underlying9 hd (c - 8)
  have hl15 : (Wire.frame [10, 1, 1, 97, 1, 128, 1]).length = 15 := by decide +kernel
  have c8 : (8 : Int) ≤ (c : Int) := by omega
  have c8' : ¬ (c = 8) := by omega
  clear ho hsl hd hb
  simp only [hl15]
  go_wp2_with fail
  go_ret
  exact ⟨ret_bool (by decide +kernel), B1.out⟩
/-- .. of bytes that are the same -/
theorem same_refl (A B : Option Addr) (n m c d : Nat) (xs : List UInt8) (w : World) (ha : SlB w w.heap.size A n xs) (hb : SlB w w.heap.size B m xs) (hn : n ≤ 9223372036854775807) :
    Calls Try.prog 15 #[.slice A n c, .slice B m d] w fun e w' => e = .returned (.bool true) ∧ Below w.heap.size w w' := by
  have h := same_any A B n m c d xs xs w ha hb hn (by have := ha.len; have := hb.len; omega)
  rw [decide_eq_true rfl] at h
  exact h
set_option maxHeartbeats 1000000 in
theorem writes_walk (A : Option Addr) (n c : Nat) (ps : List Put) (w : World) (hp : SlPut w w.heap.size A n ps) (hn : n ≤ 9223372036854775807) (hc : n ≤ c) :
    Calls Try.prog 3 #[.slice A n c] w fun e w' => e = .returned (.bool true) ∧ Below w.heap.size w w' := by
  have HP := hide (hp.take (min n 400) (Nat.min_le_left _ _)); clear hp
  have hm : min n 400 ≤ 400 := Nat.min_le_right _ _
  have HF := hide (few_any A n c w hn hc)
  go_enter Try.func3, Try.ntmps3
  go_wp2_with fail
  refine HF.out.mono ?_
  rintro e w' ⟨rfl, rfl⟩
  obtain ⟨m, hmm⟩ : ∃ m, m = min n 400 := ⟨_, rfl⟩
  obtain ⟨qs, hqs⟩ : ∃ qs, qs = ps.take (min n 400) := ⟨_, rfl⟩
  rw [← hqs] at HP
  rw [← hmm] at HP hm ⊢
  clear hmm hqs HF
  go_wp2_with fail
  refine (write_any A m c qs _ HP.out hm).mono ?_
  rintro e w1 ⟨A1, c1, rfl, ho, hb⟩
  have O1 := hide ho; have B1 := hide hb; clear ho hb
  go_wp2_with fail
  refine (rwrite_any A m c qs _ (HP.out.up B1.out) (by omega)).mono ?_
  rintro e w2 ⟨A2, c2, rfl, ho, hb⟩
  rw [← Wire.out_eq] at ho ⊢
  have O2 := hide ho; have P1 := hide (O1.out.below hb); have B2 := hide (B1.out.trans (hb.mono B1.out.size)); clear ho hb O1 B1
  have HL := hide (Wire.out_length qs)
  obtain ⟨r, hr⟩ : ∃ r, r = Wire.out qs := ⟨_, rfl⟩
  rw [← hr] at O2 P1 HL ⊢
  clear hr
  obtain ⟨ys, x⟩ := r
  have hxx : ((x : Int) == x) = true := by simp
  simp only at O2 P1 HL ⊢
  go_wp2_with fail
  refine (known_any _).mono ?_
  rintro e w3 ⟨rfl, hb⟩
  have O3 := hide (O2.out.below hb); have P3 := hide (P1.out.below hb); have B3 := hide (B2.out.trans (hb.mono B2.out.size)); clear hb O2 P1 B2
  go_wp2_with fail
  refine (same_refl A1 A2 _ _ c1 c2 ys _ P3.out.sl O3.out.sl (by have := HL.out; omega)).mono ?_
  rintro e w4 ⟨rfl, hb⟩
  have B4 := hide (B3.out.trans (hb.mono B3.out.size)); clear hb
  go_wp2_with fail
  go_ret
  exact ⟨rfl, B4.out⟩
end Go.Proofs.Ytnlfnjadadfhkaa
