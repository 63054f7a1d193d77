/-
  Ring: a text's place, walked.
-/
import Derived.Test.YtokdliapkolngaaDoorShaJ
import Derived.Test.YtokdliapkolngaaDoorStr
import Derived.Laws.IdiomStrings
namespace Go.Proofs.YtokdliapkolngaaDoor
open Go.RowKit Go.Great
set_option linter.unusedVariables false

/-- '[]byte(s)' -/
theorem conv_sbR (s : ByteArray) (w : World) (hs : s.size ≤ 9223372036854775807) : ∃ c X, s.size ≤ c ∧ c ≤ 9223372036854775807 ∧ (convert 9 40 (.string s)).run Tryd.prog w = .ok (.slice (some ⟨w.heap.size, 0, none⟩) s.size c) X ∧
    SlB X X.heap.size (some ⟨w.heap.size, 0, none⟩) s.size s.data.toList ∧ Below w.heap.size w X := by
  refine ⟨grownCap w s.size 0 5, _, grownCap_ge _ _ _ _, by have := grownCap_le_maxLen w s.size 0 5 (by unfold maxLen; exact hs); unfold maxLen at this; exact this,
    run_bytes_of_string w 9 40 5 s Tryd.underlying9 Tryd.underlying40 Tryd.underlying5, ?_, ((Below.refl _ _).drew).alloc (Nat.le_refl _) _⟩
  have hb : bytesRow s (grownCap w s.size 0 5) = (s.data.toList.map bv ++ List.replicate (grownCap w s.size 0 5 - s.size) (Value.int .u8 0)).toArray := by
    apply Array.toList_inj.1
    unfold bytesRow
    simp
    intro a _; rfl
  rw [hb]
  exact SlB.of_block (heap_alloc_new w.drew _) (by simp) rfl
/-- the number that bytes are, the greatest first -/
def beN (l : List UInt8) : Nat := l.foldl (fun n b => n * 256 + b.toNat) 0
theorem beN_snoc (l : List UInt8) (x : UInt8) : beN (l ++ [x]) = beN l * 256 + x.toNat := by unfold beN; rw [List.foldl_append]; rfl
theorem beN_lt (l : List UInt8) : beN l < 256 ^ l.length := by
  suffices h : ∀ m : List UInt8, beN m.reverse < 256 ^ m.length by have := h l.reverse; rwa [List.reverse_reverse, List.length_reverse] at this
  intro m
  induction m with
  | nil => simp [beN]
  | cons x m ih =>
    rw [List.reverse_cons, beN_snoc, List.length_cons, Nat.pow_succ]
    have := x.toNat_lt
    omega
theorem beN_take {l : List UInt8} {i : Nat} (hi : i < 8) : beN (l.take i) < 72057594037927936 := by
  refine Nat.lt_of_lt_of_le (beN_lt _) ?_
  refine Nat.le_trans (Nat.pow_le_pow_right (by omega) (show (l.take i).length ≤ 7 by rw [List.length_take]; omega)) (by decide)
/-- a text's place -/
def placeN (s : ByteArray) : Nat := beN ((Sha.sum s.data.toList).take 8)
theorem placeN_lt (s : ByteArray) : placeN s < 18446744073709551616 := by
  refine Nat.lt_of_lt_of_le (beN_lt _) ?_
  refine Nat.le_trans (Nat.pow_le_pow_right (by omega) (show ((Sha.sum s.data.toList).take 8).length ≤ 8 by rw [List.length_take]; omega)) (by decide)
theorem or256 (m b : Nat) (hm : m < 72057594037927936) (hb : b < 256) : bits .or .u64 ((m : Int) * 256) (b : Int) = ((m * 256 + b : Nat) : Int) := by
  have e1 : (m : Int) * 256 = ((m * 2 ^ 8 : Nat) : Int) := by omega
  rw [e1, u64_or_nat _ _ (by omega) (by omega), or_part (by omega)]
set_option maxHeartbeats 4000000 in
theorem place_any (s : ByteArray) (w : World) (hs : s.size ≤ 900000000000000000) : Calls Tryd.prog 25 #[.string s] w fun e w' => e = .returned (.int .u64 (placeN s : Int)) ∧ Below w.heap.size w w' := by
  obtain ⟨c, X, h1, h2, kc, hsl, hb⟩ := conv_sbR s w (by omega)
  have HS := hide hsl; have HB := hide hb; clear hsl hb
  unfold placeN
  go_enter Tryd.func25, Tryd.ntmps25
  go_wp2_with fail
  refine (psumf_any _ s.size c s.data.toList _ HS.out h1 h2 (by omega)).mono ?_
  rintro e w1 ⟨rfl, hb⟩
  have B1 := hide (HB.out.trans (hb.mono HB.out.size)); clear hb HS HB kc
  obtain ⟨bs, hbs⟩ : ∃ bs, bs = Sha.sum s.data.toList := ⟨_, rfl⟩
  have hbl : bs.length = 32 := by rw [hbs]; exact Sha.sum_length _
  rw [← hbs]
  have HBL := hide hbl; have HBS := hide hbs
  clear hbs hbl
  obtain ⟨C, hC⟩ : ∃ C, C = (bs.map bv).toArray := ⟨_, rfl⟩
  have h1 : C.all (·.oneCell') = true := by rw [hC]; exact bytes_one _
  have hs : C.size = 32 := by rw [hC]; simp [HBL.out]
  rw [← hC]
  have HC := hide hC; have HSC := hide hs; have H1 := hide h1
  clear hC hs h1
  go_upto_region 2 with ((with_reducible refine wpList_store_row rfl 66 (.tmp 3) (.tmp 9) rfl w1.heap.size C rfl rfl 66 _ (heap_alloc_new w1 _) ?r1 ?r2 H1.out ?_))
  case r1 => rw [HSC.out]; kernel_rfl
  case r2 => rw [HSC.out]; rfl
  refine wp_world (fun Y => SlB Y Y.heap.size (some ⟨w1.heap.size, 0, none⟩) 32 bs ∧ Below w.heap.size w Y)
    ⟨SlB.of_block (rest := []) (by rw [List.append_nil, ← HC.out]; exact row_set (heap_alloc_new w1 _)) (by simp) HBL.out, below_setRow (B1.out.alloc B1.out.size _) B1.out.size _⟩ ?_
  rintro Y ⟨y1, y2⟩
  have Y1 := hide y1; have Y2 := hide y2
  clear y1 y2
  go_wp2_with fail
  go_loopw [4, 12] (fun v4 v12 wq => ∃ i : Nat, i ≤ 8 ∧ v4 = .int .u64 ((beN (bs.take i) : Nat) : Int) ∧ v12 = .int .i64 i ∧ Y = wq) (fun _ v _ => 8 - (intOf v).toNat)
  case atStart => exact ⟨0, by omega, rfl, rfl, rfl⟩
  case round =>
    obtain ⟨i, hi, rfl, rfl, rfl⟩ := hrel
    by_cases hlt : i < 8
    · obtain ⟨b0, o0, x, hA, hb0, cx, hx⟩ := Y1.out.byte (k := i) (by omega)
      injection hA with hA; injection hA with e1 e2 _
      subst e1; subst e2
      rw [Nat.zero_add] at cx
      have HX : Hid (beN (bs.take (i + 1)) = beN (bs.take i) * 256 + x.toNat) := hide (by rw [take_snoc hx.out, beN_snoc])
      have hb := beN_take (l := bs) hlt
      have hx2 := x.toNat_lt
      have hi1 : (i : Int) < 8 := by omega
      have hi0 : (0 : Int) ≤ (i : Int) := by omega
      clear hx
      go_wp2_with fail
      exact ⟨⟨i + 1, by omega, by rw [HX.out, or256 _ _ hb (by omega)], by go_num, trivial⟩, by simp [intOf]; omega⟩
    · obtain rfl : i = 8 := by omega
      go_wp2_with fail
      go_ret
      exact ⟨by rw [← HBS.out]; rfl, Y2.out⟩
end Go.Proofs.YtokdliapkolngaaDoor
