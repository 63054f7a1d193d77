/-
  The walk of signetref01.unsixes. (Written by oct_w.py.)
-/
import Derived.Test.YtnjpgcfkplchkaaOctV
namespace Go.Proofs.Ytnjpgcfkplchkaa
open Go.RowKit

theorem textBits_one (signs s : List UInt8) (c : UInt8) : Oct.textBits signs (s ++ [c]) = Oct.textBits signs s ++ Oct.bits6 ((Oct.place signs c).getD 0) := by
  unfold Oct.textBits Oct.vals
  simp
theorem signsOf_ok (web : Bool) : Oct.Signs (signsOf web) := by cases web; exact Oct.basicS_ok; exact Oct.webS_ok
/-- the sign's place as the loop finds it -/
structure Found (signs : List UInt8) (y : UInt8) (n v : Nat) : Prop where
  hit : ∀ (j : Nat), j < n → signs[j]? = some y → v = j
  miss : (∀ (j : Nat), j < n → signs[j]? ≠ some y) → v = 0
theorem Found.zero (signs : List UInt8) (y : UInt8) : Found signs y 0 0 := ⟨fun j h => absurd h (by omega), fun _ => rfl⟩
theorem Found.yes {signs : List UInt8} {y : UInt8} {n : Nat} (hS : Oct.Signs signs) (h : signs[n]? = some y) : Found signs y (n + 1) n :=
  ⟨fun j hj hh => by
    have h1 := Oct.place_of hS.nodup h
    have h2 := Oct.place_of hS.nodup hh
    rw [h1] at h2; injection h2, fun hno => absurd h (hno n (by omega))⟩
theorem Found.no {signs : List UInt8} {y : UInt8} {n v : Nat} (h : Found signs y n v) (hn : signs[n]? ≠ some y) : Found signs y (n + 1) v :=
  ⟨fun j hj hh => by
    rcases Nat.lt_or_ge j n with h1 | h1
    · exact h.hit j h1 hh
    · obtain rfl : j = n := by omega
      exact absurd hh hn, fun hno => h.miss fun j hj => hno j (by omega)⟩
theorem Found.end_ {signs : List UInt8} {y : UInt8} {v : Nat} (hS : Oct.Signs signs) (h : Found signs y 64 v) : v = (Oct.place signs y).getD 0 := by
  cases hp : Oct.place signs y with
  | none => exact h.miss fun j _ he => Oct.place_none.1 hp (List.mem_of_getElem? he)
  | some i =>
    have h1 := Oct.place_some hp
    exact h.hit i (by have := h1.2; rw [hS.len] at this; exact this) h1.1
theorem Own.lower {w : World} {B B' e n c : Nat} {A : Option Addr} {xs : List Value} (h : Own w B e A n c xs) (hb : B' ≤ B) : Own w B' e A n c xs := by
  refine ⟨h.1, ?_⟩
  rcases h.2 with h0 | ⟨g, cap, cur, h1, h2, h3⟩
  · exact .inl h0
  · exact .inr ⟨g, cap, cur, h1, Nat.le_trans hb h2, h3⟩
def wt6 (k : Nat) : Int := [32, 16, 8, 4, 2, 1].getD k 0

set_option maxHeartbeats 2000000 in
theorem runsixes_any (u : ByteArray) (web : Bool) (w : World) (hn : u.size ≤ 1073741824) :
    Calls Try.prog 29 #[.string u, .bool web] w fun e w' => ∃ A m c, e = .returned (.slice A m c) ∧ Own w' w.heap.size 5 A m c ((Oct.bytesOf (Oct.textBits (signsOf web) u.data.toList)).map bv) ∧ Below w.heap.size w w' := by
  obtain ⟨ts, hts⟩ : ∃ ts, ts = u.data.toList := ⟨_, rfl⟩
  have hl : ts.length = u.size := by rw [hts]; rfl
  rw [← hts]
  have HL := hide hl; have HT := hide hts
  have HOK := hide (signsOf_ok web)
  obtain ⟨S, hS⟩ : ∃ S, S = signsOf web := ⟨_, rfl⟩
  rw [← hS] at HOK ⊢
  have HSS := hide hS
  clear hl hts hS
  go_enter Try.func29, Try.ntmps29
  go_wp2_with fail
  go_loopw [5, 6] (fun v5 v6 wr => ∃ (i g : Nat) (A2 : Option Addr) (c2 : Nat), i ≤ u.size ∧ v6 = .int .i64 i ∧ v5 = .slice A2 g c2 ∧ Hid (g = 6 * i) ∧ Hid (Own wr w.heap.size 4 A2 g c2 ((Oct.textBits S (ts.take i)).map tv)) ∧ Hid (Below w.heap.size w wr)) (fun _ y _ => u.size - (intOf y).toNat)
  case atStart => exact ⟨0, 0, none, 0, by omega, rfl, rfl, hide rfl, hide Own.nil_, hide (Below.refl _ _)⟩
  case round =>
    obtain ⟨i, g, A2, c2, hi, rfl, rfl, HG, HO, HR⟩ := hrel
    by_cases hlt : i < u.size
    · obtain ⟨y, hy⟩ : ∃ y, y = u[i] := ⟨_, rfl⟩
      have hyx : u[i] = y := hy.symm
      have HY : Hid (ts[i]? = some y) := hide (by rw [HT.out, hy, List.getElem?_eq_getElem (by simpa using hlt)]; rfl)
      clear hy
      have hi0 : (0 : Int) ≤ (i : Int) := by omega
      have hiu : (i : Int) < (u.size : Int) := by omega
      go_wp2_with fail
      go_loopw [7, 8] (fun v7 v8 wq => ∃ (k v : Nat), k ≤ 64 ∧ v8 = .int .i64 k ∧ v7 = .int .i64 v ∧ v < 64 ∧ Hid (∃ p, wq = wr.drewN p) ∧ Hid (Found S y k v)) (fun _ y _ => 64 - (intOf y).toNat)
      case atStart => exact ⟨0, 0, by omega, rfl, rfl, by omega, hide ⟨0, rfl⟩, hide (Found.zero _ _)⟩
      case round =>
        obtain ⟨k, v, hk, rfl, rfl, hv, HP, HF⟩ := hrel
        by_cases hlt2 : k < 64
        · obtain ⟨z, hz⟩ : ∃ z, z = S.getD k 0 := ⟨_, rfl⟩
          have HZ : Hid (S[k]? = some z) := hide (by rw [hz, List.getD_eq_getElem?_getD, List.getElem?_eq_getElem (show k < S.length by rw [HOK.out.len]; exact hlt2)]; rfl)
          have K : Hid (∀ wx, Calls Try.prog 38 #[.int .i64 (k : Int), .bool web] wx fun e w' => e = .returned (.int .u8 (z.toNat : Int)) ∧ w' = wx) := hide (fun wx => by
            have := sign_any k hlt2 web wx
            rwa [← HSS.out, ← hz] at this)
          clear hz
          by_cases he : z = y
          · have hb : ((z.toNat : Int) == (y.toNat : Int)) = true := by rw [he]; simp
            have HE := hide he; clear he
            go_wp2_with fail
            go_quiet ((with_reducible exact Calls.quiet_of_same (K.out _)))
            go_wp2_with fail
            go_roundw
            case rel => exact ⟨k + 1, k, by omega, by go_num, rfl, by omega, hide (by obtain ⟨p, hp⟩ := HP.out; exact ⟨_, by rw [hp, World.drewN_drewN]⟩), hide (Found.yes HOK.out (by rw [HZ.out, HE.out]))⟩
            case measure => simp [intOf]; omega
          · have hb : ((z.toNat : Int) == (y.toNat : Int)) = false := by rw [beq_eq_false_iff_ne]; intro h; exact he (UInt8.toNat_inj.1 (by omega))
            have HF2 : Hid (Found S y (k + 1) v) := hide (HF.out.no (by rw [HZ.out]; intro h; injection h with h; exact he h))
            clear he
            go_wp2_with fail
            go_quiet ((with_reducible exact Calls.quiet_of_same (K.out _)))
            go_wp2_with fail
            go_roundw
            case rel => exact ⟨k + 1, v, by omega, by go_num, rfl, hv, hide (by obtain ⟨p, hp⟩ := HP.out; exact ⟨_, by rw [hp, World.drewN_drewN]⟩), HF2⟩
            case measure => simp [intOf]; omega
        · have HV : Hid (v = (Oct.place S y).getD 0) := hide (by
            obtain rfl : k = 64 := by omega
            exact HF.out.end_ HOK.out)
          obtain ⟨L, hL⟩ : ∃ L, L = Oct.textBits S (ts.take i) := ⟨_, rfl⟩
          rw [← hL] at HO
          have HLS : Hid (Oct.textBits S (ts.take (i + 1)) = L ++ Oct.bits6 v) := hide (by rw [take_snoc HY.out, textBits_one, ← HV.out, hL])
          have HO0 : Hid (Own wr w.heap.size 4 A2 g c2 (L.map tv)) := hide (by obtain ⟨p, hp⟩ := HP.out; rw [hp]; exact HO.out.drewN p)
          have HR0 : Hid (Below w.heap.size w wr) := hide (by obtain ⟨p, hp⟩ := HP.out; rw [hp]; exact below_drewN HR.out p)
          clear hL HO HR HP
          go_wp2_with fail
          go_loopw [5, 9] (fun v5 v9 wq => ∃ (k g2 : Nat) (z : Int) (A3 : Option Addr) (c3 : Nat), k ≤ 6 ∧ v9 = .int .i64 z ∧ v5 = .slice A3 g2 c3 ∧ Hid (z = wt6 k) ∧ Hid (g2 = 6 * i + k) ∧ Hid (Own wq w.heap.size 4 A3 g2 c3 ((L ++ (Oct.bits6 v).take k).map tv)) ∧ Hid (Below w.heap.size w wq)) (fun _ y _ => (intOf y).toNat)
          case atStart => exact ⟨0, g, 32, A2, c2, by omega, rfl, rfl, hide rfl, hide (by have := HG.out; omega), hide (by simpa using HO0.out), HR0⟩
          case round =>
            clear HO0 HR0
            obtain ⟨k, g2, z, A3, c3, hk, rfl, rfl, HZ, HG2, HO, HR⟩ := hrel
            have h8 : k = 0 ∨ k = 1 ∨ k = 2 ∨ k = 3 ∨ k = 4 ∨ k = 5 ∨ k = 6 := by omega
            rcases h8 with rfl | rfl | rfl | rfl | rfl | rfl | rfl
            · obtain rfl : z = 32 := HZ.out
              obtain ⟨q, hq⟩ : ∃ q, q = (v / 32 % 2 == 1) := ⟨_, rfl⟩
              have hqi : (((v : Int) / 32 % 2) == 1) = q := by rw [hq, Bool.eq_iff_iff, beq_iff_eq, beq_iff_eq]; omega
              have HQ : Hid ((Oct.bits6 v).take (0 + 1) = (Oct.bits6 v).take 0 ++ [q]) := hide (by rw [hq]; rfl)
              clear hq
              have hq1 : g2 + 1 ≤ maxLen := by have := HG2.out; unfold maxLen; omega
              have hq2 : (g2 + 1) * 1 ≤ 140737488355328 := by have := HG2.out; omega
              have HSZ := hide HR.out.size
              go_wp2_with (at_builtin; go_must (with_reducible refine wpList_app rfl (.tmp 34) (.tmp 40) 60 rfl (.bool false) 1 Try.underlying60 info_bool (cells_bool _) rfl (HO.out.alloc _) rfl Sl.one (one_bool _) hq1 hq2 (by have := HSZ.out; rw [World.size_alloc]; omega) ?_))
              intro A4 c4 w4 hown hgr hat
              have HR4 : Hid (Below w.heap.size w w4) := hide (below_of_grown (HR.out.alloc HR.out.size _) hgr (by have := HSZ.out; rw [World.size_alloc]; omega) HO.out.row_ge)
              have HO4 : Hid (Own w4 w.heap.size 4 A4 (g2 + 1) c4 ((L ++ (Oct.bits6 v).take (0 + 1)).map tv)) := hide (by
                rw [HQ.out]; simpa [tv_bool, List.map_take] using hown)
              clear hown hgr hat
              go_wp2_with fail
              go_roundw
              case rel => exact ⟨1, g2 + 1, 16, A4, c4, by omega, rfl, rfl, hide rfl, hide (by have := HG2.out; omega), HO4, HR4⟩
              case measure => simp [intOf]
            · obtain rfl : z = 16 := HZ.out
              obtain ⟨q, hq⟩ : ∃ q, q = (v / 16 % 2 == 1) := ⟨_, rfl⟩
              have hqi : (((v : Int) / 16 % 2) == 1) = q := by rw [hq, Bool.eq_iff_iff, beq_iff_eq, beq_iff_eq]; omega
              have HQ : Hid ((Oct.bits6 v).take (1 + 1) = (Oct.bits6 v).take 1 ++ [q]) := hide (by rw [hq]; rfl)
              clear hq
              have hq1 : g2 + 1 ≤ maxLen := by have := HG2.out; unfold maxLen; omega
              have hq2 : (g2 + 1) * 1 ≤ 140737488355328 := by have := HG2.out; omega
              have HSZ := hide HR.out.size
              go_wp2_with (at_builtin; go_must (with_reducible refine wpList_app rfl (.tmp 34) (.tmp 40) 60 rfl (.bool false) 1 Try.underlying60 info_bool (cells_bool _) rfl (HO.out.alloc _) rfl Sl.one (one_bool _) hq1 hq2 (by have := HSZ.out; rw [World.size_alloc]; omega) ?_))
              intro A4 c4 w4 hown hgr hat
              have HR4 : Hid (Below w.heap.size w w4) := hide (below_of_grown (HR.out.alloc HR.out.size _) hgr (by have := HSZ.out; rw [World.size_alloc]; omega) HO.out.row_ge)
              have HO4 : Hid (Own w4 w.heap.size 4 A4 (g2 + 1) c4 ((L ++ (Oct.bits6 v).take (1 + 1)).map tv)) := hide (by
                rw [HQ.out]; simpa [tv_bool, List.map_take] using hown)
              clear hown hgr hat
              go_wp2_with fail
              go_roundw
              case rel => exact ⟨2, g2 + 1, 8, A4, c4, by omega, rfl, rfl, hide rfl, hide (by have := HG2.out; omega), HO4, HR4⟩
              case measure => simp [intOf]
            · obtain rfl : z = 8 := HZ.out
              obtain ⟨q, hq⟩ : ∃ q, q = (v / 8 % 2 == 1) := ⟨_, rfl⟩
              have hqi : (((v : Int) / 8 % 2) == 1) = q := by rw [hq, Bool.eq_iff_iff, beq_iff_eq, beq_iff_eq]; omega
              have HQ : Hid ((Oct.bits6 v).take (2 + 1) = (Oct.bits6 v).take 2 ++ [q]) := hide (by rw [hq]; rfl)
              clear hq
              have hq1 : g2 + 1 ≤ maxLen := by have := HG2.out; unfold maxLen; omega
              have hq2 : (g2 + 1) * 1 ≤ 140737488355328 := by have := HG2.out; omega
              have HSZ := hide HR.out.size
              go_wp2_with (at_builtin; go_must (with_reducible refine wpList_app rfl (.tmp 34) (.tmp 40) 60 rfl (.bool false) 1 Try.underlying60 info_bool (cells_bool _) rfl (HO.out.alloc _) rfl Sl.one (one_bool _) hq1 hq2 (by have := HSZ.out; rw [World.size_alloc]; omega) ?_))
              intro A4 c4 w4 hown hgr hat
              have HR4 : Hid (Below w.heap.size w w4) := hide (below_of_grown (HR.out.alloc HR.out.size _) hgr (by have := HSZ.out; rw [World.size_alloc]; omega) HO.out.row_ge)
              have HO4 : Hid (Own w4 w.heap.size 4 A4 (g2 + 1) c4 ((L ++ (Oct.bits6 v).take (2 + 1)).map tv)) := hide (by
                rw [HQ.out]; simpa [tv_bool, List.map_take] using hown)
              clear hown hgr hat
              go_wp2_with fail
              go_roundw
              case rel => exact ⟨3, g2 + 1, 4, A4, c4, by omega, rfl, rfl, hide rfl, hide (by have := HG2.out; omega), HO4, HR4⟩
              case measure => simp [intOf]
            · obtain rfl : z = 4 := HZ.out
              obtain ⟨q, hq⟩ : ∃ q, q = (v / 4 % 2 == 1) := ⟨_, rfl⟩
              have hqi : (((v : Int) / 4 % 2) == 1) = q := by rw [hq, Bool.eq_iff_iff, beq_iff_eq, beq_iff_eq]; omega
              have HQ : Hid ((Oct.bits6 v).take (3 + 1) = (Oct.bits6 v).take 3 ++ [q]) := hide (by rw [hq]; rfl)
              clear hq
              have hq1 : g2 + 1 ≤ maxLen := by have := HG2.out; unfold maxLen; omega
              have hq2 : (g2 + 1) * 1 ≤ 140737488355328 := by have := HG2.out; omega
              have HSZ := hide HR.out.size
              go_wp2_with (at_builtin; go_must (with_reducible refine wpList_app rfl (.tmp 34) (.tmp 40) 60 rfl (.bool false) 1 Try.underlying60 info_bool (cells_bool _) rfl (HO.out.alloc _) rfl Sl.one (one_bool _) hq1 hq2 (by have := HSZ.out; rw [World.size_alloc]; omega) ?_))
              intro A4 c4 w4 hown hgr hat
              have HR4 : Hid (Below w.heap.size w w4) := hide (below_of_grown (HR.out.alloc HR.out.size _) hgr (by have := HSZ.out; rw [World.size_alloc]; omega) HO.out.row_ge)
              have HO4 : Hid (Own w4 w.heap.size 4 A4 (g2 + 1) c4 ((L ++ (Oct.bits6 v).take (3 + 1)).map tv)) := hide (by
                rw [HQ.out]; simpa [tv_bool, List.map_take] using hown)
              clear hown hgr hat
              go_wp2_with fail
              go_roundw
              case rel => exact ⟨4, g2 + 1, 2, A4, c4, by omega, rfl, rfl, hide rfl, hide (by have := HG2.out; omega), HO4, HR4⟩
              case measure => simp [intOf]
            · obtain rfl : z = 2 := HZ.out
              obtain ⟨q, hq⟩ : ∃ q, q = (v / 2 % 2 == 1) := ⟨_, rfl⟩
              have hqi : (((v : Int) / 2 % 2) == 1) = q := by rw [hq, Bool.eq_iff_iff, beq_iff_eq, beq_iff_eq]; omega
              have HQ : Hid ((Oct.bits6 v).take (4 + 1) = (Oct.bits6 v).take 4 ++ [q]) := hide (by rw [hq]; rfl)
              clear hq
              have hq1 : g2 + 1 ≤ maxLen := by have := HG2.out; unfold maxLen; omega
              have hq2 : (g2 + 1) * 1 ≤ 140737488355328 := by have := HG2.out; omega
              have HSZ := hide HR.out.size
              go_wp2_with (at_builtin; go_must (with_reducible refine wpList_app rfl (.tmp 34) (.tmp 40) 60 rfl (.bool false) 1 Try.underlying60 info_bool (cells_bool _) rfl (HO.out.alloc _) rfl Sl.one (one_bool _) hq1 hq2 (by have := HSZ.out; rw [World.size_alloc]; omega) ?_))
              intro A4 c4 w4 hown hgr hat
              have HR4 : Hid (Below w.heap.size w w4) := hide (below_of_grown (HR.out.alloc HR.out.size _) hgr (by have := HSZ.out; rw [World.size_alloc]; omega) HO.out.row_ge)
              have HO4 : Hid (Own w4 w.heap.size 4 A4 (g2 + 1) c4 ((L ++ (Oct.bits6 v).take (4 + 1)).map tv)) := hide (by
                rw [HQ.out]; simpa [tv_bool, List.map_take] using hown)
              clear hown hgr hat
              go_wp2_with fail
              go_roundw
              case rel => exact ⟨5, g2 + 1, 1, A4, c4, by omega, rfl, rfl, hide rfl, hide (by have := HG2.out; omega), HO4, HR4⟩
              case measure => simp [intOf]
            · obtain rfl : z = 1 := HZ.out
              obtain ⟨q, hq⟩ : ∃ q, q = (v / 1 % 2 == 1) := ⟨_, rfl⟩
              have hqi : (((v : Int) % 2) == 1) = q := by rw [hq, Bool.eq_iff_iff, beq_iff_eq, beq_iff_eq]; omega
              have HQ : Hid ((Oct.bits6 v).take (5 + 1) = (Oct.bits6 v).take 5 ++ [q]) := hide (by rw [hq]; rfl)
              clear hq
              have hq1 : g2 + 1 ≤ maxLen := by have := HG2.out; unfold maxLen; omega
              have hq2 : (g2 + 1) * 1 ≤ 140737488355328 := by have := HG2.out; omega
              have HSZ := hide HR.out.size
              go_wp2_with (at_builtin; go_must (with_reducible refine wpList_app rfl (.tmp 34) (.tmp 40) 60 rfl (.bool false) 1 Try.underlying60 info_bool (cells_bool _) rfl (HO.out.alloc _) rfl Sl.one (one_bool _) hq1 hq2 (by have := HSZ.out; rw [World.size_alloc]; omega) ?_))
              intro A4 c4 w4 hown hgr hat
              have HR4 : Hid (Below w.heap.size w w4) := hide (below_of_grown (HR.out.alloc HR.out.size _) hgr (by have := HSZ.out; rw [World.size_alloc]; omega) HO.out.row_ge)
              have HO4 : Hid (Own w4 w.heap.size 4 A4 (g2 + 1) c4 ((L ++ (Oct.bits6 v).take (5 + 1)).map tv)) := hide (by
                rw [HQ.out]; simpa [tv_bool, List.map_take] using hown)
              clear hown hgr hat
              go_wp2_with fail
              go_roundw
              case rel => exact ⟨6, g2 + 1, 0, A4, c4, by omega, rfl, rfl, hide rfl, hide (by have := HG2.out; omega), HO4, HR4⟩
              case measure => simp [intOf]
            · obtain rfl : z = 0 := HZ.out
              have HO8 : Hid (Own wr w.heap.size 4 A3 g2 c3 ((Oct.textBits S (ts.take (i + 1))).map tv)) := hide (by rw [HLS.out]; exact HO.out)
              go_wp2_with fail
              go_roundw
              case rel => exact ⟨i + 1, g2, A3, c3, by omega, by go_num, rfl, hide (by have := HG2.out; omega), HO8, HR⟩
              case measure => simp [intOf]; omega
    · obtain ⟨L, hL⟩ : ∃ L, L = Oct.textBits S ts := ⟨_, rfl⟩
      have HO2 : Hid (Own wr w.heap.size 4 A2 g c2 (L.map tv)) := hide (by
        have := HO.out
        rwa [List.take_of_length_le (by have := HL.out; omega), ← hL] at this)
      have HLL : Hid (L.length = g) := hide (by have := HO2.out.len; simpa using this)
      have HE := hide hL
      have SL := hide HO2.out.sl
      have hgb : g ≤ 8589934592 := by have := HG.out; omega
      clear hL HO
      go_wp2_with fail
      go_loopw [10, 11] (fun v10 v11 wq => ∃ (m i : Nat) (A3 : Option Addr) (c3 : Nat), v11 = .int .i64 i ∧ v10 = .slice A3 m c3 ∧ i ≤ g ∧ Hid (i = 8 * m) ∧ Hid (Own wq wr.heap.size 5 A3 m c3 ((outB L m).map bv)) ∧ Hid (Below wr.heap.size wr wq)) (fun _ y _ => g - (intOf y).toNat)
      case atStart => exact ⟨0, 0, none, 0, rfl, rfl, by omega, hide rfl, hide Own.nil_, hide (Below.refl _ _)⟩
      case round =>
        obtain ⟨m, j, A3, c3, rfl, rfl, hig, HI, HS, HQ⟩ := hrel
        by_cases hlt2 : j + 8 ≤ g
        · obtain ⟨b, rfl, hcap⟩ := HO2.out.place (by omega)
          have SS : Hid (Sl wr wr.heap.size (some ⟨b, j, none⟩) 8 (((L.drop j).take 8).map tv)) := hide (by
            have := ((SL.out.below HQ.out (Nat.le_refl _)).more HQ.out.size).sub hlt2
            rwa [Nat.zero_add, ← List.map_drop, ← List.map_take] at this)
          have hsl := fun W : World => Lib.run_slice_window (P := Try.prog) W 60 4 Try.underlying60 size_bool b 0 g c2 j (j + 8) (by omega) (by omega)
          rw [Nat.zero_add, Nat.add_sub_cancel_left] at hsl
          obtain ⟨v, hv⟩ : ∃ v, v = Oct.grp 8 L m := ⟨_, rfl⟩
          have hv256 : v < 256 := by rw [hv]; exact Oct.grp_lt 8 L m
          have hvn : Oct.num ((L.drop j).take 8) = v := by rw [hv, HI.out]; rfl
          have K1 : Hid (∀ c, Calls Try.prog 39 #[.slice (some ⟨b, j, none⟩) 8 c] wr fun e w' => e = .returned (.int .i64 (v : Int)) ∧ w' = wr) := hide (fun c => by
            have := number_any _ 8 c _ wr SS.out (by omega)
            rwa [hvn] at this)
          have HV := hide hv
          have ez : (v : Int) % 256 = (v : Int) := by omega
          have hq1 : m + 1 ≤ maxLen := by have := HI.out; unfold maxLen; omega
          have hq2 : (m + 1) * 1 ≤ 140737488355328 := by have := HI.out; omega
          have HSZ := hide HQ.out.size
          clear hv hvn
          go_wp2_with (with_reducible first | (refine (K1.out _).mono ?_; rintro e w1 ⟨rfl, hw⟩; obtain rfl := hw.symm) | (at_builtin; go_must (with_reducible refine wpList_app rfl (.tmp 49) (.tmp 57) 37 rfl (.int .u8 0) 1 Try.underlying37 info_u8 (cells_int _ _) rfl (HS.out.alloc _) rfl Sl.one (one_int _ _) hq1 hq2 (by have := HSZ.out; rw [World.size_alloc]; omega) ?_)))
          intro A4 c4 w4 hown hgr hat
          have HR4 := hide (below_of_grown (HQ.out.alloc HQ.out.size _) hgr (by have := HSZ.out; rw [World.size_alloc]; omega) HS.out.row_ge)
          have HO4 := hide hown
          have e : (outB L m).map bv ++ [Value.int .u8 (v : Int)] = (outB L (m + 1)).map bv := by
            rw [outB_succ, ← HV.out, List.map_append, List.map_singleton]
            congr 2
            unfold bv; rw [UInt8.toNat_ofNat', show v % 2 ^ 8 = v by omega]
          rw [e] at HO4
          clear hown hgr hat e hsl
          go_wp2_with fail
          go_roundw
          case rel => exact ⟨m + 1, j + 8, A4, c4, by go_num, rfl, by omega, hide (by have := HI.out; omega), HO4, HR4⟩
          case measure => simp [intOf]; omega
        · have hme : L.length / 8 = m := by have := HI.out; have := HLL.out; omega
          have HW : Hid (outB L m = Oct.bytesOf (Oct.textBits S ts)) := hide (by rw [← HE.out]; unfold Oct.bytesOf; rw [hme]; rfl)
          have HS2 := hide HS.out
          rw [HW.out] at HS2
          have hcmp : ¬ ((j : Int) + 8 ≤ (g : Int)) := by omega
          have HBB := hide (HR.out.trans (HQ.out.mono HR.out.size))
          have HWZ := hide HR.out.size
          clear hme
          go_wp2_with fail
          go_ret
          exact ⟨_, _, _, rfl, HS2.out.lower HWZ.out, HBB.out⟩
end Go.Proofs.Ytnjpgcfkplchkaa
