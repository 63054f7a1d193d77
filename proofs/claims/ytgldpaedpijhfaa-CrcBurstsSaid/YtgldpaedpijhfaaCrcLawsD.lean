/-
  The walk of CrcBursts.
-/
import Derived.Test.YtgldpaedpijhfaaCrcLaws
import Derived.Test.YtgldpaedpijhfaaOwn
import Derived.RegionTactic
import Derived.BigRegion
namespace Go.Proofs.Ytgldpaedpijhfaa
open Go.RowKit

/-- bytes of which i are changed, from k on -/
def burstAt (bs : List UInt8) (k : Nat) (es : List UInt8) (i : Nat) : List UInt8 := bs.take k ++ ((bs.drop k).take i).zipWith (· ^^^ ·) (es.take i) ++ bs.drop (k + i)
theorem burstAt_zero (bs : List UInt8) (k : Nat) (es : List UInt8) : burstAt bs k es 0 = bs := by simp [burstAt]
theorem burstAt_length {bs : List UInt8} {k : Nat} {es : List UInt8} {i : Nat} (h1 : k + i ≤ bs.length) (h2 : i ≤ es.length) : (burstAt bs k es i).length = bs.length := by
  simp [burstAt]; omega
theorem burstAt_get {bs : List UInt8} {k : Nat} {es : List UInt8} {i : Nat} {x : UInt8} (h2 : i ≤ es.length) (hx : bs[k + i]? = some x) : (burstAt bs k es i)[k + i]? = some x := by
  have h1 := (List.getElem?_eq_some_iff.1 hx).1
  have hl : (bs.take k ++ ((bs.drop k).take i).zipWith (· ^^^ ·) (es.take i)).length = k + i := by simp; omega
  unfold burstAt
  rw [List.getElem?_append_right (by omega), hl, Nat.sub_self, List.getElem?_drop, Nat.add_zero, hx]
theorem burstAt_step {bs : List UInt8} {k : Nat} {es : List UInt8} {i : Nat} {x e : UInt8} (hx : bs[k + i]? = some x) (he : es[i]? = some e) :
    (burstAt bs k es i).set (k + i) (x ^^^ e) = burstAt bs k es (i + 1) := by
  have h1 := (List.getElem?_eq_some_iff.1 hx).1
  have h2 := (List.getElem?_eq_some_iff.1 he).1
  have hl : (bs.take k ++ ((bs.drop k).take i).zipWith (· ^^^ ·) (es.take i)).length = k + i := by simp; omega
  have hd : bs.drop (k + i) = x :: bs.drop (k + i + 1) := by
    rw [List.drop_eq_getElem_cons h1]
    congr 1
    rw [List.getElem?_eq_getElem h1] at hx
    injection hx
  have hm : (bs.drop k)[i]? = some x := by rw [List.getElem?_drop, hx]
  unfold burstAt
  rw [List.set_append_right _ _ (by omega), hl, Nat.sub_self, hd, take_snoc hm, take_snoc he, List.zipWith_append (by simp; omega)]
  simp [Nat.add_assoc]
theorem all_zero_snoc {es : List UInt8} {i : Nat} {e : UInt8} (he : es[i]? = some e) : (∀ x ∈ es.take (i + 1), x = 0) ↔ (∀ x ∈ es.take i, x = 0) ∧ e = 0 := by
  rw [take_snoc he]
  constructor
  · intro h
    exact ⟨fun x hx => h x (by simp [hx]), h e (by simp)⟩
  · intro ⟨h1, h2⟩ x hx
    rcases List.mem_append.1 hx with hx | hx
    · exact h1 x hx
    · simp at hx; rw [hx]; exact h2
def zeroB (es : List UInt8) : Bool := decide (∀ x ∈ es, x = 0)
theorem zeroB_snoc {es : List UInt8} {i : Nat} {e : UInt8} (he : es[i]? = some e) : zeroB (es.take (i + 1)) = (zeroB (es.take i) && decide (e = 0)) := by
  unfold zeroB
  rw [Bool.eq_iff_iff]
  simp only [decide_eq_true_eq, Bool.and_eq_true]
  exact all_zero_snoc he
/-- the sums are the same just if nothing was changed -/
theorem burst_sums {bs : List UInt8} {k : Nat} {es : List UInt8} {i : Nat} (h1 : k + i ≤ bs.length) (h2 : i ≤ es.length) (h4 : i ≤ 4) :
    (((Crc.more 0 (burstAt bs k es i) : Int) == (Crc.more 0 bs : Int)) == zeroB (es.take i)) = true := by
  have hb := Crc.bursts (bs.take k) ((bs.drop k).take i) (bs.drop (k + i)) (es.take i) (by simp; omega) (by simp; omega)
  have hw : bs.take k ++ (bs.drop k).take i ++ bs.drop (k + i) = bs := by
    rw [List.append_assoc, ← List.drop_drop, List.take_append_drop, List.take_append_drop]
  rw [hw] at hb
  rw [beq_iff_eq, Bool.eq_iff_iff]
  unfold zeroB
  rw [beq_iff_eq, decide_eq_true_eq, ← hb]
  unfold burstAt
  omega

theorem four_get (t0 t1 t2 t3 : UInt8) {i : Nat} (hi : i < 4) : ∃ e, ([t0, t1, t2, t3] : List UInt8)[i]? = some e ∧ (#[bv t0, bv t1, bv t2, bv t3] : Array Value)[i]? = some (bv e) := by
  match i, hi with
  | 0, _ => exact ⟨t0, rfl, rfl⟩
  | 1, _ => exact ⟨t1, rfl, rfl⟩
  | 2, _ => exact ⟨t2, rfl, rfl⟩
  | 3, _ => exact ⟨t3, rfl, rfl⟩
  | i + 4, h => exact absurd h (by omega)

set_option maxHeartbeats 1000000 in
theorem bursts_walk (A : Option Addr) (n c : Nat) (bs : List UInt8) (x : Int) (t0 t1 t2 t3 : UInt8) (w : World) (hb : SlB w w.heap.size A n bs) (hn : n ≤ 140737488351232) :
    Calls Try.prog 5 #[.slice A n c, .int .i64 x, .agg #[bv t0, bv t1, bv t2, bv t3]] w fun e w' => e = .returned (.bool true) ∧ Below w.heap.size w w' := by
  have HB := hide hb; clear hb
  have HL := hide HB.out.len
  by_cases hn0 : n = 0
  · subst hn0
    go_enter Try.func5, Try.ntmps5
    go_wp2_with fail
    refine (known_any _).mono ?_
    rintro e w1 ⟨rfl, hb1⟩
    have B1 := hide (((Below.refl w.heap.size w).alloc (Nat.le_refl _) (.cells #[bv t0, bv t1, bv t2, bv t3] 30)).trans (hb1.mono (by simp)))
    clear hb1
    go_wp2_with fail
    refine (known_any _).mono ?_
    rintro e w2 ⟨rfl, hb2⟩
    go_wp2_with fail
    go_ret
    exact ⟨rfl, B1.out.trans (hb2.mono B1.out.size)⟩
  · obtain ⟨kk, hkn, hkk⟩ : ∃ kk : Nat, kk < n ∧ (IntKind.u64.wrap x).tmod (n : Int) = (kk : Int) := by
      have h0 : 0 ≤ IntKind.u64.wrap x := wrap_u64_nonneg x
      obtain ⟨m, hm⟩ := Int.eq_ofNat_of_zero_le h0
      refine ⟨m % n, Nat.mod_lt _ (by omega), ?_⟩
      rw [hm]
      rfl
    obtain ⟨es, hes⟩ : ∃ es : List UInt8, es = [t0, t1, t2, t3] := ⟨_, rfl⟩
    have HE := hide hes
    have hel : es.length = 4 := by rw [hes]; rfl
    have HEL := hide hel
    clear hes hel
    have hne : ((n : Int) == 0) = false := by rw [beq_eq_false_iff_ne]; omega
    go_enter Try.func5, Try.ntmps5
    go_wp2_with fail
    refine (known_any _).mono ?_
    rintro e w1 ⟨rfl, hb1⟩
    have B1 := hide (((Below.refl w.heap.size w).alloc (Nat.le_refl _) (.cells #[bv t0, bv t1, bv t2, bv t3] 30)).trans (hb1.mono (by simp)))
    have T1 := hide ((hb1.block w.heap.size (by simp)).trans (heap_alloc_new w (.cells #[bv t0, bv t1, bv t2, bv t3] 30)))
    have hz1 : w.heap.size < w1.heap.size := by have := hb1.size; simp at this; omega
    clear hb1
    go_wp2_with fail
    have hb' := hide ((HB.out.below B1.out (Nat.le_refl _)).more B1.out.size)
    refine (copy_any A n c bs _ hb'.out (by omega)).mono ?_
    rintro e w2 ⟨rfl, hb2, hg2⟩
    have B2 := hide (B1.out.trans (hb2.mono B1.out.size))
    have T2 := hide ((hb2.block w.heap.size hz1).trans T1.out)
    have G2 := hide hg2
    clear hb2 hg2
    go_wp2_with fail
    go_loopw [9, 10] (fun v9 v10 wr => ∃ (i : Nat) (s : Bool), i ≤ 4 ∧ kk + i ≤ n ∧ v10 = .int .i64 i ∧ v9 = .bool s ∧ Hid (s = zeroB (es.take i)) ∧
        Hid (wr.heap[w1.heap.size]? = some (.cells ((burstAt bs kk es i).map bv).toArray 5 (0, 0))) ∧ Hid (wr.heap[w.heap.size]? = some (.cells #[bv t0, bv t1, bv t2, bv t3] 30)) ∧ Hid (Below w.heap.size w wr)) (fun _ y _ => 4 - (intOf y).toNat)
    case atStart => exact ⟨0, true, by omega, by omega, rfl, rfl, hide (by simp [zeroB]), hide (by rw [burstAt_zero]; exact G2.out), T2, B2⟩
    case round =>
      obtain ⟨i, s, hi4, hin, rfl, rfl, HS, HG, HT, HW⟩ := hrel
      by_cases hgo : i < 4 ∧ kk + i < n
      · obtain ⟨g1, g2⟩ := hgo
        obtain ⟨y, hy⟩ : ∃ y, bs[kk + i]? = some y := ⟨_, List.getElem?_eq_getElem (by have := HL.out; omega)⟩
        obtain ⟨e, he, he'⟩ := four_get t0 t1 t2 t3 g1
        have HY := hide hy
        have HEi := hide (show es[i]? = some e by rw [HE.out]; exact he)
        have c1 : wr.cell? ⟨w1.heap.size, kk + i, none⟩ = some (.int .u8 (y.toNat : Int)) := by
          rw [cell_of_row wr _ _ _ _ _ HG.out]
          simp only [List.getElem?_toArray, List.getElem?_map, burstAt_get (es := es) (by have := HEL.out; omega) hy]
          rfl
        have c2 : wr.cell? ⟨w.heap.size, i, none⟩ = some (.int .u8 (e.toNat : Int)) := by
          rw [cell_of_row wr _ _ _ _ _ HT.out]
          exact he'
        have hf : wr.frozen? ⟨w1.heap.size, kk + i, none⟩ = false := frozen_of_row wr _ _ _ _ HG.out
        have hy256 := y.toNat_lt
        have he256 := e.toNat_lt
        have hx := u8_xor_nat y.toNat e.toNat hy256 he256
        rw [← UInt8.toNat_xor] at hx
        have b1 : (0 : Int) ≤ (kk : Int) + (i : Int) := by omega
        have b2 : (kk : Int) + (i : Int) < (n : Int) := by omega
        have b3 : (0 : Int) ≤ (i : Int) := by omega
        have b4 : (i : Int) < 4 := by omega
        have HS2 := hide (zeroB_snoc (es := es) (i := i) HEi.out)
        have HG2 : Hid ((wr.setCell ⟨w1.heap.size, kk + i, none⟩ (.int .u8 ((y ^^^ e).toNat : Int))).heap[w1.heap.size]? = some (.cells ((burstAt bs kk es (i + 1)).map bv).toArray 5 (0, 0))) := hide (by
          rw [heap_setCell_same _ _ _ _ _ _ HG.out, ← burstAt_step HY.out HEi.out, List.map_set, List.setIfInBounds_toArray]
          rfl)
        have HT2 : Hid ((wr.setCell ⟨w1.heap.size, kk + i, none⟩ (.int .u8 ((y ^^^ e).toNat : Int))).heap[w.heap.size]? = some (.cells #[bv t0, bv t1, bv t2, bv t3] 30)) := hide (by
          rw [heap_setCell_other _ _ _ _ (by simp; omega)]; exact HT.out)
        have HW2 := hide (HW.out.setCell (p := ⟨w1.heap.size, kk + i, none⟩) (by simp; omega) (.int .u8 ((y ^^^ e).toNat : Int)))
        clear hy he he'
        by_cases hz : e = 0
        · have hz' : ((e.toNat : Int) == 0) = true := by rw [hz]; rfl
          have HZ := hide hz; clear hz
          cases s
          all_goals
            go_wp2_with fail
            go_region
            go_wp2_with fail
            go_roundw
            case rel => exact ⟨i + 1, _, by omega, by omega, by go_num, rfl, hide (by rw [HS2.out, ← HS.out, HZ.out]; rfl), HG2, HT2, hide HW2.out.drew⟩
            case measure => simp [intOf]; omega
        · have hz' : ((e.toNat : Int) == 0) = false := by
            rw [beq_eq_false_iff_ne]; intro h; exact hz (UInt8.toNat_inj.1 (by simpa using h))
          have HZ := hide hz; clear hz
          cases s
          all_goals
            go_wp2_with fail
            go_region
            go_wp2_with fail
            go_roundw
            case rel => exact ⟨i + 1, _, by omega, by omega, by go_num, rfl, hide (by rw [HS2.out, ← HS.out]; simp [HZ.out]), HG2, HT2, hide HW2.out.drew⟩
            case measure => simp [intOf]; omega
      · have HN : Hid (kk + i ≤ bs.length ∧ i ≤ es.length ∧ i ≤ 4) := hide (by have := HL.out; have := HEL.out; omega)
        have hbl := burstAt_length (bs := bs) (k := kk) (es := es) (i := i) HN.out.1 HN.out.2.1
        have hz9 : w1.heap.size < wr.heap.size := (Array.getElem?_eq_some_iff.1 HG.out).1
        have HSB := hide (SlB.of_block (B := wr.heap.size) (n := n) (rest := []) (bs := burstAt bs kk es i) (by rw [List.append_nil]; exact HG.out) hz9 (by rw [hbl]; exact HL.out))
        have hfin := burst_sums (bs := bs) (k := kk) (es := es) (i := i) HN.out.1 HN.out.2.1 HN.out.2.2
        rw [← HS.out] at hfin
        obtain ⟨a1, ha1⟩ : ∃ a1, a1 = Crc.more 0 (burstAt bs kk es i) := ⟨_, rfl⟩
        obtain ⟨a2, ha2⟩ : ∃ a2, a2 = Crc.more 0 bs := ⟨_, rfl⟩
        rw [← ha1, ← ha2] at hfin
        have hfin' : ((a1 : Int) == (a2 : Int)) = s := by simpa using hfin
        have HF := hide hfin'
        have K1 := hide (fun W h => ha1 ▸ csum_any (some ⟨w1.heap.size, 0, none⟩) n n (burstAt bs kk es i) W h (by omega))
        have K2 := hide (fun W h => ha2 ▸ csum_any A n c bs W h (by omega))
        clear hbl hfin hfin' ha1 ha2
        have hgo' : i = 4 ∨ (i < 4 ∧ n ≤ kk + i) := by omega
        rcases hgo' with h4 | ⟨g1, g2⟩
        · subst h4
          go_wp2_with fail
          refine (K1.out _ HSB.out).mono ?_
          rintro e w3 ⟨rfl, hb3⟩
          have B3 := hide (HW.out.trans (hb3.mono HW.out.size)); clear hb3
          go_wp2_with fail
          refine (K2.out _ ((HB.out.below B3.out (Nat.le_refl _)).more B3.out.size)).mono ?_
          rintro e w4 ⟨rfl, hb4⟩
          have B4 := hide (B3.out.trans (hb4.mono B3.out.size)); clear hb4
          go_wp2_with fail
          go_ret
          exact ⟨ret_bool (by simp [HF.out]), B4.out⟩
        · go_wp2_with fail
          refine (K1.out _ HSB.out).mono ?_
          rintro e w3 ⟨rfl, hb3⟩
          have B3 := hide (HW.out.trans (hb3.mono HW.out.size)); clear hb3
          go_wp2_with fail
          refine (K2.out _ ((HB.out.below B3.out (Nat.le_refl _)).more B3.out.size)).mono ?_
          rintro e w4 ⟨rfl, hb4⟩
          have B4 := hide (B3.out.trans (hb4.mono B3.out.size)); clear hb4
          go_wp2_with fail
          go_ret
          exact ⟨ret_bool (by simp [HF.out]), B4.out⟩
end Go.Proofs.Ytgldpaedpijhfaa
