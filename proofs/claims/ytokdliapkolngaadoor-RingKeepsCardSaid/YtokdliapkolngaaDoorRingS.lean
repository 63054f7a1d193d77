/-
  Ring: the document's Place, Digits, Right; Same of texts, walked.
-/
import Derived.Test.YtokdliapkolngaaDoorRingG
import Derived.Test.YtokdliapkolngaaDoorOwn
import Derived.Test.YtokdliapkolngaaDoorShaE
import Derived.Deep.RegionHeld3
import Derived.IntWalk
namespace Go.Proofs.YtokdliapkolngaaDoor
open Go.RowKit Go.Great
set_option linter.unusedVariables false

set_option maxHeartbeats 4000000 in
theorem rplace_any (s : ByteArray) (w : World) (hs : s.size ≤ 140737488355000) : Calls Tryd.prog 22 #[.string s] w fun e w' => e = .returned (.int .u64 (placeN s : Int)) ∧ Below w.heap.size w w' := by
  obtain ⟨c, X, h1, h2, kc, hsl, hb⟩ := conv_sbR s w (by omega)
  have HS := hide hsl; have HB := hide hb; clear hsl hb
  unfold placeN
  go_enter Tryd.func22, Tryd.ntmps22
  go_wp2_with fail
  refine (rdig_any _ s.size c s.data.toList _ HS.out (by omega)).mono ?_
  rintro e w1 ⟨rfl, hb⟩
  have B1 := hide (HB.out.trans (hb.mono HB.out.size)); clear hb HS HB kc
  obtain ⟨bs, hbs⟩ : ∃ bs, bs = Sha.sum s.data.toList := ⟨_, rfl⟩
  have hbl : bs.length = 32 := by rw [hbs]; exact Sha.sum_length _
  rw [← hbs]
  have HBL := hide hbl; have HBS := hide hbs
  clear hbs hbl
  obtain ⟨C, hC⟩ : ∃ C, C = (bs.map bv).toArray := ⟨_, rfl⟩
  have h1 : C.all (·.oneCell') = true := by rw [hC]; exact bytes_one _
  have hs : C.size = 32 := by rw [hC]; simp [HBL.out]
  rw [← hC]
  have HC := hide hC; have HSC := hide hs; have H1 := hide h1
  clear hC hs h1
  go_upto_region 2 with ((with_reducible refine wpList_store_row rfl 64 (.tmp 3) (.tmp 8) rfl w1.heap.size C rfl rfl 64 _ (heap_alloc_new w1 _) ?r1 ?r2 H1.out ?_))
  case r1 => rw [HSC.out]; kernel_rfl
  case r2 => rw [HSC.out]; rfl
  refine wp_world (fun Y => SlB Y Y.heap.size (some ⟨w1.heap.size, 0, none⟩) 32 bs ∧ Below w.heap.size w Y)
    ⟨SlB.of_block (rest := []) (by rw [List.append_nil, ← HC.out]; exact row_set (heap_alloc_new w1 _)) (by simp) HBL.out, below_setRow (B1.out.alloc B1.out.size _) B1.out.size _⟩ ?_
  rintro Y ⟨y1, y2⟩
  have Y1 := hide y1; have Y2 := hide y2
  clear y1 y2
  go_wp2_with fail
  go_loopw [4, 5] (fun v4 v5 wq => ∃ i : Nat, i ≤ 8 ∧ v4 = .int .u64 ((beN (bs.take i) : Nat) : Int) ∧ v5 = .int .i64 i ∧ Y = wq) (fun _ v _ => 8 - (intOf v).toNat)
  case atStart => exact ⟨0, by omega, rfl, rfl, rfl⟩
  case round =>
    obtain ⟨i, hi, rfl, rfl, rfl⟩ := hrel
    by_cases hlt : i < 8
    · obtain ⟨b0, o0, x, hA, hb0, cx, hx⟩ := Y1.out.byte (k := i) (by omega)
      injection hA with hA; injection hA with e1 e2 _
      subst e1; subst e2
      rw [Nat.zero_add] at cx
      have HX : Hid (beN (bs.take (i + 1)) = beN (bs.take i) * 256 + x.toNat) := hide (by rw [take_snoc hx.out, beN_snoc])
      have hb := beN_take (l := bs) hlt
      have hx2 := x.toNat_lt
      have hi1 : (i : Int) < 8 := by omega
      have hi0 : (0 : Int) ≤ (i : Int) := by omega
      obtain ⟨m, hm⟩ : ∃ m, m = beN (bs.take i) := ⟨_, rfl⟩
      have HM := hide hm
      rw [← hm] at hb HX ⊢
      clear hx hm
      go_wp2_with fail
      exact ⟨⟨i + 1, by omega, by rw [HX.out]; exact ret_val' (by omega), by go_num, trivial⟩, by simp [intOf]; omega⟩
    · obtain rfl : i = 8 := by omega
      go_wp2_with fail
      go_ret
      exact ⟨by rw [← HBS.out]; rfl, Y2.out⟩
theorem info_u8S : (Tryd.prog.info? 5).map (fun i => (i.zero, i.size, i.bytes)) = some (some (.int .u8 0), 1, 1) := by kernel_rfl
set_option maxHeartbeats 4000000 in
theorem rdigits_any (k : Nat) (hk : k < 6) (w : World) : Calls Tryd.prog 35 #[.int .i64 k] w fun e w' => e = .returned (.string (strB [UInt8.ofNat (48 + k)])) ∧ Below w.heap.size w w' := by
  obtain ⟨K, hK⟩ : ∃ K : Int, K = (k : Int) := ⟨_, rfl⟩
  have hbv : Hid (Value.int .u8 (48 + K) = bv (UInt8.ofNat (48 + k))) := hide (by
    unfold bv
    rw [hK, UInt8.toNat_ofNat']
    congr 1
    omega)
  obtain ⟨S, hS⟩ : ∃ S, S = strB [UInt8.ofNat (48 + k)] := ⟨_, rfl⟩
  rw [← hK, ← hS]
  have HS := hide hS
  have h0 : 0 ≤ K := by omega
  have h5 : K < 6 := by omega
  have hm : K % 10 = K := by omega
  have hd : K / 10 = 0 := by omega
  clear hK hS
  go_enter Tryd.func35, Tryd.ntmps35
  go_wp2_with fail
  go_loopw [3, 4] (fun v3 v4 wq => v3 = .slice none 0 0 ∧ v4 = .int .u64 K ∧ w = wq) (fun _ _ _ => 0)
  case atStart => exact ⟨rfl, rfl, rfl⟩
  case round =>
    obtain ⟨rfl, rfl, rfl⟩ := hrel
    go_wp2_with (at_builtin; go_must (with_reducible refine wpList_app rfl (.tmp 21) (.tmp 26) 40 rfl (.int .u8 0) 1 Tryd.underlying40 info_u8S (cells_int _ _) rfl (Own.nil_ (base := w.heap.size)) rfl Sl.one (one_int _ _) (by unfold maxLen; omega) (by omega) (by simp) ?_))
    intro A7 c7 w7 hown hgr hat
    have HO := hide hown
    have HB7 : Hid (Below w.heap.size w w7) := hide (below_of_grown ((Below.refl _ _).alloc (Nat.le_refl _) _) hgr (by simp) (fun k hk => by cases hk))
    clear hown hgr hat
    go_wp2_with fail
    have kc := conv_any (P := Tryd.prog) 40 9 5 Tryd.underlying40 Tryd.underlying5 Tryd.underlying9 (show SlB w7 w7.heap.size A7 1 [UInt8.ofNat (48 + k)] from by
      have := HO.out.sl
      rw [hbv.out] at this
      exact this) c7
    rw [← HS.out] at kc
    clear HO hm hd
    go_loopw [5] (fun v5 wq => v5 = .int .i64 0 ∧ w7 = wq) (fun _ _ => 0)
    case atStart => exact ⟨rfl, rfl⟩
    case round =>
      obtain ⟨rfl, rfl⟩ := hrel
      go_wp2_with fail
      go_ret
      exact ⟨rfl, HB7.out⟩
theorem text_eqR (s f : ByteArray) : (s.toList == f.toList) = decide (s = f) := by
  rw [Bool.eq_iff_iff, beq_iff_eq, decide_eq_true_iff, ByteArray.toList_eq, ByteArray.toList_eq]
  constructor
  · intro h
    rw [← strB_eq s, ← strB_eq f, h]
  · intro h; rw [h]
theorem takeS_same {xs ys : List ByteArray} {k : Nat} {x : ByteArray} (hx : xs[k]? = some x) (hy : ys[k]? = some x) (h : xs.take k = ys.take k) : xs.take (k + 1) = ys.take (k + 1) := by
  rw [take_snoc hx, take_snoc hy, h]
theorem Sl.text {w : World} {B n k : Nat} {A : Option Addr} {l : List ByteArray} (h : Sl w B A n (l.map Value.string)) (hk : k < n) : ∃ b off s, A = some ⟨b, off, none⟩ ∧ b < B ∧ w.cell? ⟨b, off + k, none⟩ = some (.string s) ∧ Hid (l[k]? = some s) := by
  obtain ⟨b, off, u, h1, h2, h3, h4⟩ := h.at_ hk
  rw [List.getElem?_map] at h3
  cases hx : l[k]? with
  | none => rw [hx] at h3; cases h3
  | some s => rw [hx] at h3; injection h3 with h3; subst h3; exact ⟨b, off, s, h1, h2, h4, hide rfl⟩
set_option maxHeartbeats 1000000 in
theorem sameS_any (A B : Option Addr) (n m c d : Nat) (xs ys : List ByteArray) (w : World) (ha : Sl w w.heap.size A n (xs.map Value.string)) (hb : Sl w w.heap.size B m (ys.map Value.string)) (hn : n ≤ 9223372036854775807) (hm : m ≤ 9223372036854775807) :
    Calls Tryd.prog 14 #[.slice A n c, .slice B m d] w fun e w' => e = .returned (.bool (decide (xs = ys))) ∧ Below w.heap.size w w' := by
  have HA := hide ha; have HB := hide hb
  have hla : xs.length = n := by have := ha.1; simpa using this
  have hlb : ys.length = m := by have := hb.1; simpa using this
  have HLA := hide hla; have HLB := hide hlb
  clear ha hb hla hlb
  by_cases hnm : n = m
  · subst hnm
    have hz : ((n : Int) != (n : Int)) = false := by simp
    go_enter Tryd.func14, Tryd.ntmps14
    go_wp2_with fail
    go_loopw [5] (fun v5 wr => ∃ k p : Nat, k ≤ n ∧ v5 = .int .i64 k ∧ wr = w.drewN p ∧ Hid (xs.take k = ys.take k)) (fun i _ => n - (intOf i).toNat)
    case atStart => exact ⟨0, 0, by omega, rfl, rfl, hide (by simp)⟩
    case round =>
      obtain ⟨k, p, hk, rfl, rfl, HT⟩ := hrel
      by_cases hlt : k < n
      · obtain ⟨b, off, x, rfl, hbb, c1, HX⟩ := HA.out.text hlt
        obtain ⟨b', off', y, rfl, hbb', c2, HY⟩ := HB.out.text hlt
        have hk0 : (0 : Int) ≤ (k : Int) := by omega
        have hkn : (k : Int) < (n : Int) := by omega
        by_cases hxy : x = y
        · subst hxy
          have heq : (x.toList == x.toList) = true := by simp
          go_wp2_with fail
          go_quiet (fail)
          go_wp2_with fail
          go_roundw
          case rel => exact ⟨k + 1, _, by omega, by go_num, rfl, hide (takeS_same HX.out HY.out HT.out)⟩
          case measure => simp [intOf]; omega
        · have hne : (x.toList == y.toList) = false := by rw [text_eqR]; exact decide_eq_false hxy
          have hne2 : (x.toList != y.toList) = true := by rw [bne, hne]; rfl
          have HN : Hid (xs ≠ ys) := hide (by
            intro h; subst h; have := HX.out.symm.trans HY.out; injection this with this; exact hxy this)
          clear hxy
          go_wp2_with fail
          go_quiet (fail)
          go_wp2_with fail
          go_ret
          exact ⟨by rw [decide_eq_false HN.out]; rfl, ⟨rfl, rfl, rfl, Nat.le_refl _, fun _ _ => rfl⟩⟩
      · have HE : Hid (xs = ys) := hide (by
          have := HT.out
          rwa [List.take_of_length_le (by have := HLA.out; omega), List.take_of_length_le (by have := HLB.out; omega)] at this)
        go_wp2_with fail
        go_ret
        exact ⟨by rw [decide_eq_true HE.out]; rfl, below_drewN (Below.refl _ _) _⟩
  · have hz : ((n : Int) != (m : Int)) = true := by rw [bne_iff_ne]; omega
    have HN : Hid (xs ≠ ys) := hide (by
      intro h; subst h; exact hnm (HLA.out.symm.trans HLB.out))
    clear hnm
    go_enter Tryd.func14, Tryd.ntmps14
    go_wp2_with fail
    go_ret
    exact ⟨by rw [decide_eq_false HN.out]; rfl, Below.refl _ _⟩
end Go.Proofs.YtokdliapkolngaaDoor
