/-
  The walks of the document's End, said, Open, Same; of the law's read.
-/
import Derived.Test.YtnlfnjadadfhkaaWireR
namespace Go.Proofs.Ytnlfnjadadfhkaa
open Go.RowKit
set_option linter.unusedVariables false

theorem dend_any (A : Option Addr) (n c a : Nat) (b : Int) (bs : List UInt8) (w : World) (hl : bs.length = n) (ha : a ≤ n) :
    Calls Try.prog 25 #[RdVal A n c a b] w fun e w' => e = .returned (.int .i64 (Rd.ends b (bs.drop a))) ∧ Below w.heap.size w w' := by
  have HB : Hid (Below w.heap.size w (w.alloc (.cells #[.slice A n c, .int .i64 (a : Int), .int .i64 b] 53))) := hide ((Below.refl _ _).alloc (Nat.le_refl _) _)
  unfold RdVal
  by_cases hb : b = 0
  · subst hb
    by_cases hlt : a < n
    · have hli : (a : Int) < (n : Int) := by omega
      have HE : Hid (Rd.ends 0 (bs.drop a) = 3) := hide (by unfold Rd.ends; rw [if_pos ⟨rfl, by rw [List.length_drop]; omega⟩])
      clear hlt
      go_enter Try.func25, Try.ntmps25
      go_wp2_with fail
      go_ret
      rw [HE.out]
      exact ⟨rfl, HB.out⟩
    · have hli : ¬ ((a : Int) < (n : Int)) := by omega
      have HE : Hid (Rd.ends 0 (bs.drop a) = 0) := hide (by unfold Rd.ends; rw [if_neg (fun h => by have := h.2; rw [List.length_drop] at this; omega)])
      clear hlt
      go_enter Try.func25, Try.ntmps25
      go_wp2_with fail
      go_ret
      rw [HE.out]
      exact ⟨rfl, HB.out⟩
  · have hbb : (b == 0) = false := by simpa using hb
    have HE : Hid (Rd.ends b (bs.drop a) = b) := hide (by unfold Rd.ends; rw [if_neg (fun h => hb h.1)])
    clear hb
    go_enter Try.func25, Try.ntmps25
    go_wp2_with fail
    go_ret
    rw [HE.out]
    exact ⟨rfl, HB.out⟩
set_option maxHeartbeats 2000000 in
theorem dsaid_any (A : Option Addr) (n c : Nat) (bs : List UInt8) (w : World) (hb : SlB w w.heap.size A n bs) (h4 : 4 ≤ n) :
    Calls Try.prog 45 #[.slice A n c] w fun e w' => e = .returned (.int .i64 (Rd.said bs : Int)) ∧ w = w' := by
  obtain ⟨x0, x1, x2, x3, t, rfl⟩ := four_of (l := bs) (by rw [hb.len]; exact h4)
  obtain ⟨b, off, _, rfl, hbb, _, _⟩ := hb.sl.at_ (k := 0) (by omega)
  have c0 : w.cell? ⟨b, off, none⟩ = some (.int .u8 (x0.toNat : Int)) := hb.sl.cell_at (k := 0) rfl
  have c1 : w.cell? ⟨b, off + 1, none⟩ = some (.int .u8 (x1.toNat : Int)) := hb.sl.cell_at (k := 1) rfl
  have c2 : w.cell? ⟨b, off + 2, none⟩ = some (.int .u8 (x2.toNat : Int)) := hb.sl.cell_at (k := 2) rfl
  have c3 : w.cell? ⟨b, off + 3, none⟩ = some (.int .u8 (x3.toNat : Int)) := hb.sl.cell_at (k := 3) rfl
  have l0 := x0.toNat_lt; have l1 := x1.toNat_lt; have l2 := x2.toNat_lt; have l3 := x3.toNat_lt
  have n0 : (0 : Int) < (n : Int) := by omega
  have n1 : (1 : Int) < (n : Int) := by omega
  have n2 : (2 : Int) < (n : Int) := by omega
  have n3 : (3 : Int) < (n : Int) := by omega
  clear hb
  go_enter Try.func45, Try.ntmps45
  go_wp2_with fail
  go_rounds 5
  go_ret
  have e : ((Rd.said (x0 :: x1 :: x2 :: x3 :: t) : Nat) : Int) = 256 * (256 * (256 * (x0.toNat : Int) + (x1.toNat : Int)) + (x2.toNat : Int)) + (x3.toNat : Int) := by
    show ((x0.toNat * 16777216 + x1.toNat * 65536 + x2.toNat * 256 + x3.toNat : Nat) : Int) = _
    omega
  rw [e]
  exact ⟨rfl, rfl⟩
theorem results_row_tmp' {P : Program} {fn : Func} {p u : Tmp} {ty : TypeId} (h : fn.results = #[.cell p ty, .tmp u]) (tmps : Array Value) (w : World) (g : Nat) (t : TypeId) (cs : List Value) (fr : Nat × Nat) (d : TypeDesc)
    (hp : tmps.getD p undef = .pointer (some ⟨g, 0, none⟩)) (hg : w.heap[g]? = some (.cells cs.toArray t fr))
    (hu : P.underlying ty = some d) (hd : (match d with | .struct _ | .array _ _ => true | _ => false) = true) (hi : (P.info? ty).map (·.size) = some cs.length) (x : Value) (hx : tmps.getD u undef = x) :
    (results fn tmps).run P w = .ok (.tuple #[.agg cs.toArray, x]) w := by
  have hp' : tmps[p]?.getD undef = .pointer (some ⟨g, 0, none⟩) := by simpa using hp
  have hx' : tmps[u]?.getD undef = x := by simpa using hx
  simp [results, h, hp', hx', asAddr, run_loadVar_row w g t ty cs.toArray fr d hg hu hd (by simpa using hi), Result.andThen]
/-- the document's reader of a frame, or an empty one -/
def GivesD (B : Nat) (r : Int) (bs : List UInt8) (w : World) (e : Ending) (w' : World) : Prop :=
  ∃ A m c, e = .returned (.tuple #[RdVal A m c 0 0, .int .i64 r]) ∧ Below w.heap.size w w' ∧ (r ≠ 0 → A = none ∧ m = 0 ∧ c = 0) ∧ (r = 0 → SlB w B A m bs) ∧ Spot A m c ∧ m ≤ c ∧ c ≤ 9223372036854775807
set_option maxHeartbeats 4000000 in
set_option maxRecDepth 100000 in
theorem dopen_any (B : Nat) (A : Option Addr) (n c : Nat) (f : List UInt8) (w : World) (hb : SlB w B A n f) (hB : B ≤ w.heap.size) (hn : n ≤ c) (hc : c ≤ 9223372036854775807) :
    Calls Try.prog 23 #[.slice A n c] w (GivesD B (Rd.open f) (f.drop 8) w) := by
  have hl := hb.len
  have HB0 := hide hb; have HB := hide (hb.more hB); clear hb
  have HA : Hid (Below w.heap.size w (w.alloc (.cells #[.slice none 0 0, .int .i64 0, .int .i64 0] 53))) := hide ((Below.refl _ _).alloc (Nat.le_refl _) _)
  have HNEW := hide (RowV.new w 53 [.slice none 0 0, .int .i64 0, .int .i64 0])
  by_cases h8 : n < 8
  · have g8 : (n : Int) < 8 := by omega
    have HE : Hid (Rd.open f = 4) := hide (by unfold Rd.open; rw [if_pos (by omega)])
    clear hl
    go_enter Try.func23, Try.ntmps23
    go_wp2_with fail
    refine bodyPost_ret (results_row_tmp' rfl _ _ w.heap.size 53 _ (0, 0) _ rfl HNEW.out Try.underlying53 rfl (by kernel_rfl) _ rfl) rfl ?_
    rw [HE.out]
    exact ⟨none, 0, 0, rfl, HA.out, fun _ => ⟨rfl, rfl, rfl⟩, (fun h => by cases h), .inl ⟨rfl, rfl, rfl⟩, Nat.le_refl _, by omega⟩
  · obtain ⟨m, rfl⟩ : ∃ m, n = m + 8 := ⟨n - 8, by omega⟩
    have g8 : ¬ (((m + 8 : Nat) : Int) < 8) := by omega
    have HOP : Hid (Rd.open f = if 65536 < Rd.said f then 2 else if m < Rd.said f then 4 else if Rd.said f < m then 3 else if Crc.more 0 (f.drop 8) ≠ Rd.said (f.drop 4) then 5 else 0) := hide (by
      unfold Rd.open; rw [if_neg (by omega), show f.length - 8 = m by omega])
    obtain ⟨b, off, _, rfl, hbb, _, _⟩ := HB0.out.sl.at_ (k := 0) (by omega)
    obtain ⟨X, hX⟩ : ∃ X, X = w.alloc (.cells #[.slice none 0 0, .int .i64 0, .int .i64 0] 53) := ⟨_, rfl⟩
    have BX := HB.out.up HA.out
    have D8 := BX.drop 8
    rw [Nat.add_sub_cancel] at D8
    have D4 := BX.drop 4
    rw [show m + 8 - 4 = m + 4 by omega] at D4
    have K0 := hide (dsaid_any _ _ c _ _ BX (by omega))
    have K4 := hide (dsaid_any _ _ (c - 4) _ _ D4 (by omega))
    obtain ⟨sd, hsd⟩ : ∃ sd, sd = Rd.said f := ⟨_, rfl⟩
    rw [← hsd] at K0 HOP
    have hlt : sd < 4294967296 := by rw [hsd]; exact Rd.said_lt f
    clear hsd hX
    have D80 := HB0.out.drop 8
    rw [Nat.add_sub_cancel] at D80
    have HD8 : Hid (∀ A8, A8 = some ⟨b, off + 8, none⟩ ∨ (m = 0 ∧ A8 = some ⟨b, off, none⟩) → SlB w B A8 m (f.drop 8)) := hide (by
      intro A8 h
      rcases h with rfl | ⟨h, _⟩
      · exact D80
      · have h0 : f.drop 8 = [] := List.drop_of_length_le (by omega)
        rw [h, h0]; exact SlB.nil_)
    clear D80
    clear D8 D4 BX
    have c8 : (8 : Int) ≤ (c : Int) := by omega
    have c4 : (4 : Int) ≤ (c : Int) := by omega
    have c4' : (4 : Int) ≤ ((m + 8 : Nat) : Int) := by omega
    -- the slice frame[8:], by its capacity
    have key : ∀ (A8 : Option Addr) (k8 : Nat), (c = 8 ∧ A8 = some ⟨b, off, none⟩ ∧ k8 = 0 ∧ m = 0) ∨ (c ≠ 8 ∧ A8 = some ⟨b, off + 8, none⟩ ∧ k8 = c - 8) → Calls Try.prog 23 #[.slice (some ⟨b, off, none⟩) (m + 8) c] w (GivesD B (Rd.open f) (f.drop 8) w) := by
      intro A8 k8 hcase
      have HS0 : Hid (SlB w B A8 m (f.drop 8)) := hide (HD8.out A8 (by rcases hcase with ⟨_, h, _, h2⟩ | ⟨_, h, _⟩; exact .inr ⟨h2, h⟩; exact .inl h))
      have HS8 := hide ((HS0.out.more hB).up HA.out)
      have KS := hide (fun h => rsum_any A8 m k8 _ _ HS8.out h)
      obtain ⟨cs, hcs⟩ : ∃ cs, cs = Crc.more 0 (f.drop 8) := ⟨_, rfl⟩
      obtain ⟨s4, hs4⟩ : ∃ s4, s4 = Rd.said (f.drop 4) := ⟨_, rfl⟩
      rw [← hcs, ← hs4] at HOP
      rw [← hcs] at KS
      rw [← hs4] at K4
      have HKC : Hid (m ≤ k8 ∧ k8 ≤ 9223372036854775807 ∧ Spot A8 m k8) := hide (by
        rcases hcase with ⟨h1, h2, h3, h4⟩ | ⟨h1, h2, h3⟩
        · subst h2; exact ⟨by omega, by omega, .inr ⟨b, off, rfl⟩⟩
        · subst h2; exact ⟨by omega, by omega, .inr ⟨b, off + 8, rfl⟩⟩)
      have hcsl : cs < 4294967296 := by rw [hcs]; exact Crc.more_lt _ _
      clear hcs hs4
      go_enter Try.func23, Try.ntmps23
      go_wp2_with fail
      refine K0.out.mono ?_
      rintro e w1 ⟨rfl, rfl⟩
      go_upto_region 4 with (fail)
      go_cut [5] (fun v5 wx => v5 = .slice A8 m k8 ∧ wx = w.alloc (.cells #[.slice none 0 0, .int .i64 0, .int .i64 0] 53))
      case first =>
        rcases hcase with ⟨h1, h2, h3, h4⟩ | ⟨h1, h2, h3⟩
        · subst h1; subst h2; subst h3; subst h4
          clear g8 c8
          go_wp2_with fail
          go_meet
          case rel => exact ⟨rfl, rfl⟩
        · subst h2; subst h3
          go_wp2_with fail
          go_meet
          case rel => exact ⟨rfl, rfl⟩
      case rest =>
        obtain ⟨rfl, rfl⟩ := hcut
        clear hcase K0 HD8 g8
        by_cases h1 : 65536 < sd
        · have i1 : (65536 : Int) < (sd : Int) := by omega
          have HE : Hid (Rd.open f = 2) := hide (by rw [HOP.out, if_pos h1])
          clear h1 hlt
          go_wp2_with fail
          refine bodyPost_ret (results_row_tmp' rfl _ _ w.heap.size 53 _ (0, 0) _ rfl HNEW.out Try.underlying53 rfl (by kernel_rfl) _ rfl) rfl ?_
          rw [HE.out]
          exact ⟨none, 0, 0, rfl, HA.out, fun _ => ⟨rfl, rfl, rfl⟩, (fun h => by cases h), .inl ⟨rfl, rfl, rfl⟩, Nat.le_refl _, by omega⟩
        by_cases h2 : m < sd
        · have i1 : ¬ ((65536 : Int) < (sd : Int)) := by omega
          have i2 : (m : Int) < (sd : Int) := by omega
          have HE : Hid (Rd.open f = 4) := hide (by rw [HOP.out, if_neg h1, if_pos h2])
          clear h1 h2 hlt
          go_wp2_with fail
          refine bodyPost_ret (results_row_tmp' rfl _ _ w.heap.size 53 _ (0, 0) _ rfl HNEW.out Try.underlying53 rfl (by kernel_rfl) _ rfl) rfl ?_
          rw [HE.out]
          exact ⟨none, 0, 0, rfl, HA.out, fun _ => ⟨rfl, rfl, rfl⟩, (fun h => by cases h), .inl ⟨rfl, rfl, rfl⟩, Nat.le_refl _, by omega⟩
        by_cases h3 : sd < m
        · have i1 : ¬ ((65536 : Int) < (sd : Int)) := by omega
          have i2 : ¬ ((m : Int) < (sd : Int)) := by omega
          have i3 : (sd : Int) < (m : Int) := by omega
          have HE : Hid (Rd.open f = 3) := hide (by rw [HOP.out, if_neg h1, if_neg h2, if_pos h3])
          clear h1 h2 h3 hlt
          go_wp2_with fail
          refine bodyPost_ret (results_row_tmp' rfl _ _ w.heap.size 53 _ (0, 0) _ rfl HNEW.out Try.underlying53 rfl (by kernel_rfl) _ rfl) rfl ?_
          rw [HE.out]
          exact ⟨none, 0, 0, rfl, HA.out, fun _ => ⟨rfl, rfl, rfl⟩, (fun h => by cases h), .inl ⟨rfl, rfl, rfl⟩, Nat.le_refl _, by omega⟩
        have i1 : ¬ ((65536 : Int) < (sd : Int)) := by omega
        have i2 : ¬ ((m : Int) < (sd : Int)) := by omega
        have i3 : ¬ ((sd : Int) < (m : Int)) := by omega
        have HOP2 : Hid (Rd.open f = if cs ≠ s4 then 5 else 0) := hide (by rw [HOP.out, if_neg h1, if_neg h2, if_neg h3])
        have KS2 := hide (KS.out (by omega))
        clear HOP h1 h2 h3 hlt KS
        by_cases hne : cs = s4
        · have hnb : ((s4 : Int) != (cs : Int)) = false := by simp [hne]
          have HE : Hid (Rd.open f = 0) := hide (by rw [HOP2.out, if_neg (by omega)])
          clear hne HOP2
          have HF := hide (((HNEW.out.set 0 (.slice A8 m k8)).set 1 (.int .i64 0)).set 2 (.int .i64 0))
          go_wp2_with fail
          refine K4.out.mono ?_
          rintro e w1 ⟨rfl, rfl⟩
          go_wp2_with fail
          refine KS2.out.mono ?_
          rintro e w1 ⟨rfl, rfl⟩
          go_wp2_with fail
          refine bodyPost_ret (results_row_tmp' rfl _ _ w.heap.size 53 _ (0, 0) _ rfl (RowV.new w 53 [.slice A8 m k8, .int .i64 0, .int .i64 0]) Try.underlying53 rfl (by kernel_rfl) _ rfl) rfl ?_
          rw [HE.out]
          have HB2 : Below w.heap.size w (w.alloc (.cells #[.slice A8 m k8, .int .i64 0, .int .i64 0] 53)) := (Below.refl _ _).alloc (Nat.le_refl _) _
          refine ⟨A8, m, k8, rfl, HB2, fun h => absurd rfl h, fun _ => ?_, HKC.out.2.2, HKC.out.1, HKC.out.2.1⟩
          exact HS0.out
        · have hnb : ((s4 : Int) != (cs : Int)) = true := by rw [bne_iff_ne]; omega
          have HE : Hid (Rd.open f = 5) := hide (by rw [HOP2.out, if_pos hne])
          clear hne HOP2
          go_wp2_with fail
          refine K4.out.mono ?_
          rintro e w1 ⟨rfl, rfl⟩
          go_wp2_with fail
          refine KS2.out.mono ?_
          rintro e w1 ⟨rfl, rfl⟩
          go_wp2_with fail
          refine bodyPost_ret (results_row_tmp' rfl _ _ w.heap.size 53 _ (0, 0) _ rfl HNEW.out Try.underlying53 rfl (by kernel_rfl) _ rfl) rfl ?_
          rw [HE.out]
          exact ⟨none, 0, 0, rfl, HA.out, fun _ => ⟨rfl, rfl, rfl⟩, (fun h => by cases h), .inl ⟨rfl, rfl, rfl⟩, Nat.le_refl _, by omega⟩
    by_cases hc8 : c = 8
    · exact key (some ⟨b, off, none⟩) 0 (.inl ⟨hc8, rfl, rfl, by omega⟩)
    · exact key (some ⟨b, off + 8, none⟩) (c - 8) (.inr ⟨hc8, rfl, rfl⟩)
end Go.Proofs.Ytnlfnjadadfhkaa
