/-
  Ring: the document's Right; the law's few, ints, walked.
-/
import Derived.Test.YtokdliapkolngaaDoorRingI
import Derived.Test.YtokdliapkolngaaDoorRingS
namespace Go.Proofs.YtokdliapkolngaaDoor
open Go.RowKit Go.Great
set_option linter.unusedVariables false
--BODY
def fewZ (p : Int) : Int := if 6 < p ∧ p ≤ 64 then 6 else p
theorem few_any (p : Int) (w : World) : Calls Tryd.prog 18 #[.int .i64 p] w fun e w' => e = .returned (.int .i64 (fewZ p)) ∧ w' = w := by
  rcases (by omega : ¬ 6 < p ∨ (6 < p ∧ p ≤ 64) ∨ (6 < p ∧ ¬ p ≤ 64)) with h | ⟨h, h2⟩ | ⟨h, h2⟩
  · have e : fewZ p = p := by unfold fewZ; rw [if_neg (by omega)]
    have E := hide e; clear e
    rw [E.out]
    go_enter Tryd.func18, Tryd.ntmps18
    go_wp2_with fail
    go_ret
    exact ⟨rfl, rfl⟩
  · have e : fewZ p = 6 := by unfold fewZ; rw [if_pos (by omega)]
    have E := hide e; clear e
    rw [E.out]
    go_enter Tryd.func18, Tryd.ntmps18
    go_wp2_with fail
    go_ret
    exact ⟨rfl, rfl⟩
  · have e : fewZ p = p := by unfold fewZ; rw [if_neg (by omega)]
    have E := hide e; clear e
    rw [E.out]
    go_enter Tryd.func18, Tryd.ntmps18
    go_wp2_with fail
    go_ret
    exact ⟨rfl, rfl⟩
theorem Sl.num {w : World} {B n k : Nat} {A : Option Addr} {l : List Int} (h : Sl w B A n (l.map (Value.int .i64))) (hk : k < n) : ∃ b off s, A = some ⟨b, off, none⟩ ∧ b < B ∧ w.cell? ⟨b, off + k, none⟩ = some (.int .i64 s) ∧ Hid (l[k]? = some s) := by
  obtain ⟨b, off, u, h1, h2, h3, h4⟩ := h.at_ hk
  rw [List.getElem?_map] at h3
  cases hx : l[k]? with
  | none => rw [hx] at h3; cases h3
  | some s => rw [hx] at h3; injection h3 with h3; subst h3; exact ⟨b, off, s, h1, h2, h4, hide rfl⟩
set_option maxHeartbeats 1000000 in
theorem ints_any (A B : Option Addr) (n m c d : Nat) (xs ys : List Int) (w : World) (ha : Sl w w.heap.size A n (xs.map (Value.int .i64))) (hb : Sl w w.heap.size B m (ys.map (Value.int .i64))) (hn : n ≤ 9223372036854775807) (hm : m ≤ 9223372036854775807) :
    Calls Tryd.prog 17 #[.slice A n c, .slice B m d] w fun e w' => e = .returned (.bool (decide (xs = ys))) ∧ Below w.heap.size w w' := by
  have HA := hide ha; have HB := hide hb
  have hla : xs.length = n := by have := ha.1; simpa using this
  have hlb : ys.length = m := by have := hb.1; simpa using this
  have HLA := hide hla; have HLB := hide hlb
  clear ha hb hla hlb
  by_cases hnm : n = m
  · subst hnm
    have hz : ((n : Int) != (n : Int)) = false := by simp
    go_enter Tryd.func17, Tryd.ntmps17
    go_wp2_with fail
    go_loopw [5] (fun v5 wr => ∃ k p : Nat, k ≤ n ∧ v5 = .int .i64 k ∧ wr = w.drewN p ∧ Hid (xs.take k = ys.take k)) (fun i _ => n - (intOf i).toNat)
    case atStart => exact ⟨0, 0, by omega, rfl, rfl, hide (by simp)⟩
    case round =>
      obtain ⟨k, p, hk, rfl, rfl, HT⟩ := hrel
      by_cases hlt : k < n
      · obtain ⟨b, off, x, rfl, hbb, c1, HX⟩ := HA.out.num hlt
        obtain ⟨b', off', y, rfl, hbb', c2, HY⟩ := HB.out.num hlt
        have hk0 : (0 : Int) ≤ (k : Int) := by omega
        have hkn : (k : Int) < (n : Int) := by omega
        by_cases hxy : x = y
        · subst hxy
          have heq : (x != x) = false := by simp
          go_wp2_with fail
          go_quiet (fail)
          go_wp2_with fail
          go_roundw
          case rel => exact ⟨k + 1, _, by omega, by go_num, rfl, hide (by rw [take_snoc HX.out, take_snoc HY.out, HT.out])⟩
          case measure => simp [intOf]; omega
        · have hne : (x != y) = true := by rw [bne_iff_ne]; exact hxy
          have HN : Hid (xs ≠ ys) := hide (by
            intro h; subst h; have := HX.out.symm.trans HY.out; injection this with this; exact hxy this)
          clear hxy
          go_wp2_with fail
          go_quiet (fail)
          go_wp2_with fail
          go_ret
          exact ⟨by rw [decide_eq_false HN.out]; rfl, ⟨rfl, rfl, rfl, Nat.le_refl _, fun _ _ => rfl⟩⟩
      · have HE : Hid (xs = ys) := hide (by
          have := HT.out
          rwa [List.take_of_length_le (by have := HLA.out; omega), List.take_of_length_le (by have := HLB.out; omega)] at this)
        go_wp2_with fail
        go_ret
        exact ⟨by rw [decide_eq_true HE.out]; rfl, below_drewN (Below.refl _ _) _⟩
  · have hz : ((n : Int) != (m : Int)) = true := by rw [bne_iff_ne]; omega
    have HN : Hid (xs ≠ ys) := hide (by
      intro h; subst h; exact hnm (HLA.out.symm.trans HLB.out))
    clear hnm
    go_enter Tryd.func17, Tryd.ntmps17
    go_wp2_with fail
    go_ret
    exact ⟨by rw [decide_eq_false HN.out]; rfl, Below.refl _ _⟩
/-- what Right tells -/
def RightP (points : Int) (names : List ByteArray) (w : World) (e : Ending) (w' : World) : Prop := (∃ b : Bool, e = .returned (.bool b) ∧ (b = true ↔ GoodR points names)) ∧ Below w.heap.size w w'
set_option maxHeartbeats 4000000 in
set_option maxRecDepth 100000 in
theorem right_any (points : Int) (A : Option Addr) (n c : Nat) (names : List ByteArray) (w : World) (h : Sl w w.heap.size A n (names.map Value.string)) (hn : n ≤ 9223372036854775807) :
    Calls Tryd.prog 19 #[.int .i64 points, .slice A n c] w (RightP points names w) := by
  have HSL := hide h
  have hl : names.length = n := by have := h.1; simpa using this
  have HLN := hide hl
  by_cases hg : 1 ≤ points ∧ points ≤ 64 ∧ 1 ≤ n ∧ n ≤ 8
  · obtain ⟨g1, g2, g3, g4⟩ := hg
    have y1 : ¬ (points < 1) := by omega
    have y2 : ¬ (64 < points) := by omega
    have y3 : ¬ ((n : Int) < 1) := by omega
    have y4 : ¬ ((8 : Int) < (n : Int)) := by omega
    clear h hl
    go_enter Tryd.func19, Tryd.ntmps19
    go_wp2_with fail
    go_loopw [5, 6] (fun v5 v6 wr => ∃ i p : Nat, i ≤ n ∧ v5 = .int .i64 i ∧ wr = w.drewN p ∧ Hid ((∀ s ∈ names.take i, 1 ≤ s.size ∧ s.size ≤ 64) ∧ (names.take i).Nodup)) (fun v _ _ => n - (intOf v).toNat)
    case atStart => exact ⟨0, 0, by omega, rfl, rfl, hide (by simp)⟩
    case round => as_aux_lemma =>
      obtain ⟨i, p, hi, rfl, rfl, HG⟩ := hrel
      by_cases hlt : i < n
      · obtain ⟨b, off, s, rfl, hbb, c1, HS⟩ := HSL.out.text hlt
        have hk0 : (0 : Int) ≤ (i : Int) := by omega
        have hkn : (i : Int) < (n : Int) := by omega
        have HMEM : Hid (s ∈ names) := hide (List.mem_of_getElem? HS.out)
        have HTK : Hid (names.take (i + 1) = names.take i ++ [s]) := hide (take_snoc HS.out)
        by_cases hz1 : s.size < 1
        · have x1 : (s.size : Int) < 1 := by omega
          have HBAD : Hid (¬ GoodR points names) := hide (fun h => by have := (h.2.2.2.2.1 s HMEM.out).1; omega)
          go_wp2_with fail
          go_ret
          exact ⟨⟨false, rfl, by simp [HBAD.out]⟩, below_drewN (Below.refl _ _) _⟩
        · have x1 : ¬ ((s.size : Int) < 1) := by omega
          by_cases hz2 : 64 < s.size
          · have x2 : (64 : Int) < (s.size : Int) := by omega
            have HBAD : Hid (¬ GoodR points names) := hide (fun h => by have := (h.2.2.2.2.1 s HMEM.out).2; omega)
            go_wp2_with fail
            go_ret
            exact ⟨⟨false, rfl, by simp [HBAD.out]⟩, below_drewN (Below.refl _ _) _⟩
          · have x2 : ¬ ((64 : Int) < (s.size : Int)) := by omega
            have HZ : Hid (1 ≤ s.size ∧ s.size ≤ 64) := hide (by omega)
            go_wp2_with fail
            go_loopw [6] (fun v6 wr => ∃ k q : Nat, k ≤ i ∧ v6 = .int .i64 k ∧ wr = w.drewN q ∧ Hid (s ∉ names.take k)) (fun v _ => i - (intOf v).toNat)
            case atStart => exact ⟨0, _, by omega, rfl, rfl, hide (by simp)⟩
            case round => as_aux_lemma =>
              obtain ⟨k, q, hk, rfl, rfl, HK⟩ := hrel
              by_cases hkl : k < i
              · obtain ⟨b', off', t, hA, hbb', c2, HT⟩ := HSL.out.text (k := k) (by omega)
                injection hA with hA; injection hA with e1 e2 _
                subst e1; subst e2
                have q0 : (0 : Int) ≤ (k : Int) := by omega
                have q1 : (k : Int) < (i : Int) := by omega
                have q2 : (k : Int) < (n : Int) := by omega
                by_cases hts : t = s
                · subst hts
                  have heq : (t.toList == t.toList) = true := by simp
                  have HBAD : Hid (¬ GoodR points names) := hide (fun h => by
                    have hnd := h.2.2.2.2.2
                    have hil := (List.getElem?_eq_some_iff.1 HS.out).1
                    have h2 : k = i := (List.getElem?_inj (by omega) hnd).1 (HT.out.trans HS.out.symm)
                    omega)
                  go_wp2_with fail
                  go_quiet (fail)
                  go_wp2_with fail
                  go_ret
                  exact ⟨⟨false, rfl, by simp [HBAD.out]⟩, below_drewN (below_drewN (Below.refl _ _) _) _⟩
                · have hne : (t.toList == s.toList) = false := by rw [text_eqR]; exact decide_eq_false hts
                  have HK2 : Hid (s ∉ names.take (k + 1)) := hide (by
                    rw [take_snoc HT.out, List.mem_append, List.mem_singleton]
                    rintro (h | h)
                    · exact HK.out h
                    · exact hts h.symm)
                  clear hts
                  go_wp2_with fail
                  go_quiet (fail)
                  go_wp2_with fail
                  go_roundw
                  case rel => exact ⟨k + 1, _, by omega, by go_num, rfl, HK2⟩
                  case measure => simp [intOf]; omega
              · obtain rfl : k = i := by omega
                have q1 : ¬ ((k : Int) < (k : Int)) := by omega
                go_wp2_with fail
                go_roundw
                case rel => exact ⟨k + 1, _, by omega, by go_num, rfl, hide (by
                  rw [HTK.out]
                  refine ⟨fun s' hs' => ?_, List.nodup_append.2 ⟨HG.out.2, by simp, fun a ha b hb => by simp at hb; subst hb; exact fun e => HK.out (e ▸ ha)⟩⟩
                  rcases List.mem_append.1 hs' with h | h
                  · exact HG.out.1 s' h
                  · simp at h; subst h; exact HZ.out)⟩
                case measure => simp [intOf]; omega
      · obtain rfl : i = n := by omega
        have hi1 : ¬ ((i : Int) < (i : Int)) := by omega
        have HGD : Hid (GoodR points names) := hide (by
          have hg := HG.out
          rw [List.take_of_length_le (by have := HLN.out; omega)] at hg
          exact ⟨by omega, by omega, by have := HLN.out; omega, by have := HLN.out; omega, hg.1, hg.2⟩)
        go_wp2_with fail
        go_ret
        exact ⟨⟨true, rfl, by simp [HGD.out]⟩, below_drewN (Below.refl _ _) _⟩
  · have HBAD : Hid (¬ GoodR points names) := hide (fun h => hg ⟨h.1, h.2.1, by have := h.2.2.1; omega, by have := h.2.2.2.1; omega⟩)
    clear h hl
    go_enter Tryd.func19, Tryd.ntmps19
    by_cases h1 : points < 1
    · go_wp2_with fail
      go_ret
      exact ⟨⟨false, rfl, by simp [HBAD.out]⟩, Below.refl _ _⟩
    · by_cases h2 : 64 < points
      · go_wp2_with fail
        go_ret
        exact ⟨⟨false, rfl, by simp [HBAD.out]⟩, Below.refl _ _⟩
      · by_cases h3 : (n : Int) < 1
        · go_wp2_with fail
          go_ret
          exact ⟨⟨false, rfl, by simp [HBAD.out]⟩, Below.refl _ _⟩
        · have h4 : (8 : Int) < (n : Int) := by omega
          go_wp2_with fail
          go_ret
          exact ⟨⟨false, rfl, by simp [HBAD.out]⟩, Below.refl _ _⟩
end Go.Proofs.YtokdliapkolngaaDoor
