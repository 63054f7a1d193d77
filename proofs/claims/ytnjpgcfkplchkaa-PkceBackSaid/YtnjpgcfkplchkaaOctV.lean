/-
  The walks of signetref01.sixes, Web, Basic; OctetWebs, OctetBasics.
-/
import Derived.Test.YtnjpgcfkplchkaaOctU
import Derived.Lib.SlBytesRow
namespace Go.Proofs.Ytnjpgcfkplchkaa
open Go.RowKit

theorem size_bool (w : World) : (Go.sizeOf 4).run Try.prog w = .ok 1 w := by
  obtain ⟨i, hi, _, hs, _⟩ := info_parts info_bool
  simp [Go.sizeOf, typeInfo, hi, hs]
theorem Sl.sub {w : World} {B g b off : Nat} {xs : List Value} (h : Sl w B (some ⟨b, off, none⟩) g xs) {i k : Nat} (hk : i + k ≤ g) : Sl w B (some ⟨b, off + i, none⟩) k ((xs.drop i).take k) := by
  refine ⟨by have := h.1; simp; omega, fun h0 => ?_⟩
  obtain ⟨b', off', e, hb, hc⟩ := h.2 (by omega)
  injection e with e; injection e with e1 e2; subst e1 e2
  refine ⟨b, off + i, rfl, hb, fun j u hu => ?_⟩
  rw [List.getElem?_take] at hu
  split at hu
  · rw [List.getElem?_drop] at hu
    rw [Nat.add_assoc]; exact hc _ _ hu
  · cases hu
theorem Own.place {w : World} {base e A n c} {xs : List Value} (h : Own w base e A n c xs) (hn : 0 < n) : ∃ b, A = some ⟨b, 0, none⟩ ∧ n ≤ c := by
  rcases h.2 with ⟨_, h0⟩ | ⟨g, cap, cur, hv, _, _, hnc, _⟩
  · omega
  · injection hv with h1 h2 h3; subst h1 h3; exact ⟨g, rfl, hnc⟩

set_option maxHeartbeats 1000000 in
theorem rsixes_any (A : Option Addr) (n c : Nat) (bs : List UInt8) (web : Bool) (w : World) (hb : SlB w w.heap.size A n bs) (hn : n ≤ 1073741824) :
    Calls Try.prog 33 #[.slice A n c, .bool web] w fun e w' => e = .returned (.string (strB (Oct.webL (signsOf web) bs))) ∧ Below w.heap.size w w' := by
  have hlen := hide hb.len
  have HB := hide hb; clear hb
  go_enter Try.func33, Try.ntmps33
  go_wp2_with fail
  refine (bits_any A n c bs _ HB.out hn).mono ?_
  rintro e w1 ⟨A1, c1, rfl, ho, hb⟩
  obtain ⟨g0, hg0⟩ : ∃ g0, g0 = 8 * n := ⟨_, rfl⟩
  rw [← hg0] at ho ⊢
  have G0 := hide hg0
  have hg0b : g0 ≤ 8589934592 := by omega
  clear hg0
  have O1 := hide ho
  have B1 := hide hb
  clear ho hb
  go_wp2_with fail
  go_loopw [5] (fun v5 wr => ∃ (k g : Nat) (A2 : Option Addr) (c2 : Nat), v5 = .slice A2 g c2 ∧ g ≤ g0 + 6 ∧ Hid (g = 8 * n + k ∧ k ≤ (6 - 8 * n % 6) % 6) ∧ Hid (Own wr w.heap.size 4 A2 g c2 ((Oct.bitsL bs ++ List.replicate k false).map tv)) ∧ Hid (Below w.heap.size w wr)) (fun v _ => g0 + 7 - slLen v)
  case atStart => exact ⟨0, g0, A1, c1, rfl, by omega, hide (by have := G0.out; omega), hide (by simpa using O1.out), B1⟩
  case round =>
    obtain ⟨k, g, A2, c2, rfl, hgb, HG, HO, HR⟩ := hrel
    by_cases hlt : k < (6 - 8 * n % 6) % 6
    · have ht : (((g : Int) % 6) != 0) = true := by rw [bne_iff_ne]; have := HG.out; omega
      have hg2 : g + 1 ≤ g0 + 6 := by have := HG.out; have := G0.out; omega
      have HG2 : Hid (g + 1 = 8 * n + (k + 1) ∧ k + 1 ≤ (6 - 8 * n % 6) % 6) := hide (by have := HG.out; omega)
      have hq1 : g + 1 ≤ maxLen := by unfold maxLen; omega
      have hq2 : (g + 1) * 1 ≤ 140737488355328 := by omega
      have HSZ := hide HR.out.size
      clear hlt
      go_wp2_with (at_builtin; go_must (with_reducible refine wpList_app rfl (.tmp 14) (.tmp 15) 60 rfl (.bool false) 1 Try.underlying60 info_bool (cells_bool _) rfl (HO.out.alloc _) rfl Sl.one (one_bool _) hq1 hq2 (by have := HSZ.out; rw [World.size_alloc]; omega) ?_))
      intro A4 c4 w4 hown hgr hat
      have HR4 : Hid (Below w.heap.size w w4) := hide (below_of_grown (HR.out.alloc HR.out.size _) hgr (by have := HSZ.out; rw [World.size_alloc]; omega) HO.out.row_ge)
      have HO4 : Hid (Own w4 w.heap.size 4 A4 (g + 1) c4 ((Oct.bitsL bs ++ List.replicate (k + 1) false).map tv)) := hide (by
        rw [List.replicate_succ']; simpa [tv_bool] using hown)
      clear hown hgr hat
      go_wp2_with fail
      go_roundw
      case rel => exact ⟨k + 1, g + 1, A4, c4, rfl, hg2, HG2, HO4, HR4⟩
      case measure => simp only [slLen_slice]; omega
    · have hk : k = (6 - 8 * n % 6) % 6 := by have := HG.out; omega
      have ht : (((g : Int) % 6) != 0) = false := by rw [bne_eq_false_iff_eq]; have := HG.out; omega
      obtain ⟨L, hL⟩ : ∃ L, L = Oct.fill6 (Oct.bitsL bs) := ⟨_, rfl⟩
      have hf : L = Oct.bitsL bs ++ List.replicate k false := by rw [hL]; unfold Oct.fill6; rw [Oct.bitsL_length, hlen.out, hk]
      have HO2 : Hid (Own wr w.heap.size 4 A2 g c2 (L.map tv)) := hide (by rw [hf]; exact HO.out)
      have HLL : Hid (L.length = g) := hide (by have := HO2.out.len; simpa using this)
      have HL6 : Hid (L.length % 6 = 0) := hide (by rw [hL]; exact Oct.fill6_length _)
      have HE := hide hL
      have SL := hide HO2.out.sl
      clear hL hf hk HO hlt
      go_wp2_with fail
      go_loopw [6, 7] (fun v6 v7 wq => ∃ (m i : Nat) (A3 : Option Addr) (c3 : Nat), v7 = .int .i64 i ∧ v6 = .slice A3 m c3 ∧ i ≤ g ∧ Hid (i = 6 * m) ∧ Hid (Own wq wr.heap.size 5 A3 m c3 (outS (signsOf web) L m)) ∧ Hid (Below wr.heap.size wr wq)) (fun _ y _ => g - (intOf y).toNat)
      case atStart => exact ⟨0, 0, none, 0, rfl, rfl, by omega, hide rfl, hide Own.nil_, hide (Below.refl _ _)⟩
      case round =>
        obtain ⟨m, i, A3, c3, rfl, rfl, hig, HI, HS, HQ⟩ := hrel
        by_cases hlt : i < g
        · have hb6 : i + 6 ≤ g := by have := HI.out; have := HLL.out; have := HL6.out; omega
          obtain ⟨b, rfl, hcap⟩ := HO2.out.place (by omega)
          have SS : Hid (Sl wr wr.heap.size (some ⟨b, i, none⟩) 6 (((L.drop i).take 6).map tv)) := hide (by
            have := ((SL.out.below HQ.out (Nat.le_refl _)).more HQ.out.size).sub hb6
            rwa [Nat.zero_add, ← List.map_drop, ← List.map_take] at this)
          have hsl := fun W : World => Lib.run_slice_window (P := Try.prog) W 60 4 Try.underlying60 size_bool b 0 g c2 i (i + 6) (by omega) (by omega)
          rw [Nat.zero_add, Nat.add_sub_cancel_left] at hsl
          obtain ⟨v, hv⟩ : ∃ v, v = Oct.grp 6 L m := ⟨_, rfl⟩
          have hv64 : v < 64 := by rw [hv]; exact Oct.grp_lt 6 L m
          have hvn : Oct.num ((L.drop i).take 6) = v := by rw [hv, HI.out]; rfl
          obtain ⟨y, hy⟩ : ∃ y, y = (signsOf web).getD v 0 := ⟨_, rfl⟩
          have K1 : Hid (∀ c, Calls Try.prog 39 #[.slice (some ⟨b, i, none⟩) 6 c] wr fun e w' => e = .returned (.int .i64 (v : Int)) ∧ w' = wr) := hide (fun c => by
            have := number_any _ 6 c _ wr SS.out (by omega)
            rwa [hvn] at this)
          have K2 : Hid (∀ wx, Calls Try.prog 38 #[.int .i64 (v : Int), .bool web] wx fun e w' => e = .returned (.int .u8 (y.toNat : Int)) ∧ w' = wx) := hide (fun wx => by
            have := sign_any v hv64 web wx
            rwa [← hy] at this)
          have HV := hide hv; have HY := hide hy
          have hq1 : m + 1 ≤ maxLen := by have := HI.out; unfold maxLen; omega
          have hq2 : (m + 1) * 1 ≤ 140737488355328 := by have := HI.out; omega
          have HSZ := hide HQ.out.size
          clear hv hy hvn
          go_wp2_with (with_reducible first | (refine (K1.out _).mono ?_; rintro e w1 ⟨rfl, hw⟩; obtain rfl := hw.symm) | (refine (K2.out _).mono ?_; rintro e w1 ⟨rfl, hw⟩; obtain rfl := hw.symm) | (at_builtin; go_must (with_reducible refine wpList_app rfl (.tmp 23) (.tmp 32) 37 rfl (.int .u8 0) 1 Try.underlying37 info_u8 (cells_int _ _) rfl (HS.out.alloc _) rfl Sl.one (one_int _ _) hq1 hq2 (by have := HSZ.out; rw [World.size_alloc]; omega) ?_)))
          intro A4 c4 w4 hown hgr hat
          have HR4 := hide (below_of_grown (HQ.out.alloc HQ.out.size _) hgr (by have := HSZ.out; rw [World.size_alloc]; omega) HS.out.row_ge)
          have HO4 := hide hown
          have e : outS (signsOf web) L m ++ [Value.int .u8 (y.toNat : Int)] = outS (signsOf web) L (m + 1) := by rw [outS_succ, ← HV.out, ← HY.out]; rfl
          rw [e] at HO4
          clear hown hgr hat e hsl
          go_wp2_with fail
          go_roundw
          case rel => exact ⟨m + 1, i + 6, A4, c4, by go_num, rfl, by omega, hide (by have := HI.out; omega), HO4, HR4⟩
          case measure => simp [intOf]; omega
        · have hme : m = L.length / 6 := by have := HI.out; have := HLL.out; have := HL6.out; omega
          have HW : Hid (outS (signsOf web) L m = (Oct.webL (signsOf web) bs).map bv) := hide (by rw [hme, HE.out]; rfl)
          have HS2 := hide HS.out
          rw [HW.out] at HS2
          have kd := conv_any (P := Try.prog) 37 9 5 Try.underlying37 Try.underlying5 Try.underlying9 HS2.out.slb c3
          clear hme
          go_wp2_with fail
          go_ret
          exact ⟨rfl, HR.out.trans (HQ.out.mono HR.out.size)⟩

theorem rweb_any (A : Option Addr) (n c : Nat) (bs : List UInt8) (w : World) (hb : SlB w w.heap.size A n bs) (hn : n ≤ 1073741824) :
    Calls Try.prog 20 #[.slice A n c] w fun e w' => e = .returned (.string (strB (Oct.webL Oct.webS bs))) ∧ Below w.heap.size w w' := by
  have HB := hide hb; clear hb
  go_enter Try.func20, Try.ntmps20
  go_wp2_with fail
  refine (rsixes_any A n c bs true _ HB.out hn).mono ?_
  rintro e w1 ⟨rfl, hb⟩
  have HW := hide hb; clear hb
  go_wp2_with fail
  go_ret
  exact ⟨rfl, HW.out⟩

end Go.Proofs.Ytnjpgcfkplchkaa
