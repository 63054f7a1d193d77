/-
  Ring: the document's Order, walked.
-/
import Derived.Test.YtokdliapkolngaaDoorRingN
import Derived.Test.YtokdliapkolngaaDoorRingT
namespace Go.Proofs.YtokdliapkolngaaDoor
open Go.RowKit Go.Great
set_option linter.unusedVariables false
--BODY
/-- those of a turn: from the place on, or ahead of it -/
def turnP {n : Nat} (t : Nat) (a : Int) (x : PtN n) : Bool := decide (a ≤ x.pl) == decide (t = 0)
def turnL {n : Nat} (t : Nat) (a : Int) (l : List (PtN n)) : List Int := (l.filter (turnP t a)).map (fun x => (x.rg : Int))
def turnsL {n : Nat} (t : Nat) (a : Int) (l : List (PtN n)) : List Int := (if 1 ≤ t then turnL 0 a l else []) ++ (if 2 ≤ t then turnL 1 a l else [])
theorem turnsL_snoc {n : Nat} (t : Nat) (a : Int) (l : List (PtN n)) (ht : t < 2) : turnsL (t + 1) a l = turnsL t a l ++ turnL t a l := by
  rcases (by omega : t = 0 ∨ t = 1) with rfl | rfl <;> simp [turnsL]
theorem turnL_take {n : Nat} {t i : Nat} {a : Int} {l : List (PtN n)} {x : PtN n} (hx : l[i]? = some x) : turnL t a (l.take (i + 1)) = turnL t a (l.take i) ++ if turnP t a x then [(x.rg : Int)] else [] := by
  unfold turnL
  rw [take_snoc hx, List.filter_append, List.map_append]
  by_cases h : turnP t a x = true
  · rw [List.filter_cons_of_pos h, if_pos h]; rfl
  · rw [List.filter_cons_of_neg h, if_neg h]; rfl
theorem turn_test {n : Nat} (t : Nat) (a : Int) (x : PtN n) : (!decide (a ≤ x.pl) == ((t : Int) == 0)) = !turnP t a x := by
  unfold turnP
  have e : ((t : Int) == 0) = decide (t = 0) := by
    by_cases h : t = 0
    · subst h; rfl
    · rw [decide_eq_false h, beq_eq_false_iff_ne]; omega
  rw [e]
set_option maxHeartbeats 8000000 in
set_option maxRecDepth 100000 in
theorem rorder_any {n : Nat} (base : Nat) (Ap : Option Addr) (cp : Nat) (pts : List (PtN n)) (at_ : Int) (w : World) (h3 : OwnS 2 w base 39 Ap pts.length cp (pts.flatMap encP)) (h8 : pts.length ≤ 1000000) :
    Calls Tryd.prog 21 #[.slice Ap pts.length cp, .int .u64 at_] w fun e w' => ∃ A c, e = .returned (.slice A ((turnsL 2 at_ pts).foldl addNew []).length c) ∧
      Own w' w.heap.size 3 A ((turnsL 2 at_ pts).foldl addNew []).length c (((turnsL 2 at_ pts).foldl addNew []).map (Value.int .i64)) ∧ Below w.heap.size w w' := by
  obtain ⟨L, hL⟩ : ∃ L, L = pts.length := ⟨_, rfl⟩
  have HC : Hid (∀ m (x : PtN n), pts[m]? = some x → ∃ blk, Ap = some ⟨blk, 0, none⟩ ∧ blk < w.heap.size ∧ w.cell? ⟨blk, m * 2, none⟩ = some (.int .u64 x.pl) ∧ w.cell? ⟨blk, m * 2 + 1, none⟩ = some (.int .i64 (x.rg : Int))) := hide (fun m x hx => by
    have hm := (List.getElem?_eq_some_iff.1 hx).1
    obtain ⟨blk, rfl, hob, hc, _⟩ := h3.spot (by omega)
    refine ⟨blk, rfl, h3.row_lt blk hob, hc (m * 2) _ ?_, hc (m * 2 + 1) _ ?_⟩
    · have := flat_get (enc := encP) (sz := 2) (fun _ => rfl) hx (j := 0) (v := .int .u64 x.pl) rfl
      rwa [Nat.add_zero] at this
    · exact flat_get (enc := encP) (sz := 2) (fun _ => rfl) hx (j := 1) (v := .int .i64 (x.rg : Int)) rfl)
  have HL := hide hL
  have HL8 : L ≤ 1000000 := by omega
  rw [← hL]
  clear h3 h8 hL
  go_enter Tryd.func21, Tryd.ntmps21
  go_wp2_with fail
  go_loopw [5, 6, 7, 8, 9] (fun v5 v6 v7 v8 v9 wr => ∃ (t : Nat) (out : List Int) (A : Option Addr) (c : Nat), t ≤ 2 ∧ v6 = .int .i64 t ∧ v5 = .slice A out.length c ∧ out.length ≤ t * L ∧ Hid (out = (turnsL t at_ pts).foldl addNew []) ∧ Hid (Own wr w.heap.size 3 A out.length c (out.map (Value.int .i64))) ∧ Hid (Below w.heap.size w wr)) (fun _ v _ _ _ _ => 2 - (intOf v).toNat)
  case atStart => exact ⟨0, [], none, 0, by omega, rfl, rfl, by simp, hide rfl, hide OwnS.nil_, hide (Below.refl _ _)⟩
  case round => as_aux_lemma =>
    obtain ⟨t, out, A, c, ht, rfl, rfl, hol, HO, HW, HB⟩ := hrel
    by_cases htl : t < 2
    · have z1 : (t : Int) < 2 := by omega
      go_wp2_with fail
      go_loopw [5, 7, 8, 9] (fun v5 v7 v8 v9 wr => ∃ (i : Nat) (out : List Int) (A : Option Addr) (c : Nat), i ≤ L ∧ v7 = .int .i64 i ∧ v5 = .slice A out.length c ∧ out.length ≤ t * L + i ∧ Hid (out = (turnsL t at_ pts ++ turnL t at_ (pts.take i)).foldl addNew []) ∧ Hid (Own wr w.heap.size 3 A out.length c (out.map (Value.int .i64))) ∧ Hid (Below w.heap.size w wr)) (fun _ v _ _ _ => L - (intOf v).toNat)
      case atStart => exact ⟨0, out, A, c, by omega, rfl, rfl, by omega, hide (by rw [HO.out]; simp [turnL]), HW, HB⟩
      case round => as_aux_lemma =>
        clear HW HB HO hol
        obtain ⟨i, out, A, c, hi, rfl, rfl, hol, HO, HW, HB⟩ := hrel
        by_cases hlt : i < L
        · have z2 : (i : Int) < (L : Int) := by omega
          have z3 : (0 : Int) ≤ (i : Int) := by omega
          obtain ⟨x, hx⟩ : ∃ x, pts[i]? = some x := ⟨_, List.getElem?_eq_getElem (by have := HL.out; omega)⟩
          obtain ⟨blk, rfl, hbl, q0, q1⟩ := HC.out i x hx
          have p0 := (HB.out.cell (p := ⟨blk, i * 2, none⟩) hbl).trans q0
          have p1 := (HB.out.cell (p := ⟨blk, i * 2 + 1, none⟩) hbl).trans q1
          have HTK := hide (turnL_take (t := t) (a := at_) hx)
          clear q0 q1
          have htest := turn_test t at_ x
          cases htp : turnP t at_ x with
          | false =>
            rw [htp] at htest
            have htest : (!decide (at_ ≤ x.pl) == ((t : Int) == 0)) = true := htest
            have HT2 : Hid (out = (turnsL t at_ pts ++ turnL t at_ (pts.take (i + 1))).foldl addNew []) := hide (by rw [HTK.out, htp]; simpa using HO.out)
            clear htp
            go_wp2_with fail
            go_roundw
            case rel => exact ⟨i + 1, out, A, c, by omega, by go_num, rfl, by omega, HT2, HW, HB⟩
            case measure => simp [intOf]; omega
          | true =>
            rw [htp] at htest
            have htest : (!decide (at_ ≤ x.pl) == ((t : Int) == 0)) = false := htest
            obtain ⟨r, hr⟩ : ∃ r : Int, r = (x.rg : Int) := ⟨_, rfl⟩
            have HT2 : Hid ((turnsL t at_ pts ++ turnL t at_ (pts.take (i + 1))).foldl addNew [] = addNew out r) := hide (by rw [HTK.out, htp, if_pos rfl, ← List.append_assoc, List.foldl_append, ← HO.out, ← hr]; rfl)
            rw [← hr] at p1
            have HP1 : Hid (∀ wq, Below wr.heap.size wr wq → wq.cell? ⟨blk, i * 2 + 1, none⟩ = some (.int .i64 r)) := hide (fun wq hb => (hb.cell (p := ⟨blk, i * 2 + 1, none⟩) (Nat.lt_of_lt_of_le hbl HB.out.size)).trans p1)
            have hol3 : out.length ≤ 3000000 := by
              have : t * L ≤ 1 * L := Nat.mul_le_mul_right L (by omega)
              omega
            clear htp hr p1
            go_wp2_with fail
            go_loopw [8, 9] (fun v8 v9 wq => ∃ (k : Nat) (b : Bool), k ≤ out.length ∧ v9 = .int .i64 k ∧ v8 = .bool b ∧ Hid (b = decide (r ∈ out.take k)) ∧ Hid (Below wr.heap.size wr wq)) (fun _ v _ => out.length - (intOf v).toNat)
            case atStart => exact ⟨0, false, by omega, rfl, rfl, hide (by simp), hide (Below.refl _ _)⟩
            case round => as_aux_lemma =>
              obtain ⟨k, b, hk, rfl, rfl, HBK, HB9⟩ := hrel
              have HW9 := hide (HW.out.below HB9.out)
              have p1 := HP1.out _ HB9.out
              have n0 : (0 : Int) ≤ (k : Int) := by omega
              by_cases hkl : k < out.length
              · have n1 : (k : Int) < (out.length : Int) := by omega
                obtain ⟨b', off', y, rfl, hbb', c2, HY⟩ := HW9.out.sl.num hkl
                cases b with
                | true =>
                  have HN : Hid (true = decide (r ∈ out.take (k + 1))) := hide (by
                    rw [take_snoc HY.out]
                    have := HBK.out.symm
                    rw [decide_eq_true_iff] at this
                    simp [this])
                  go_wp2_with fail
                  go_quiet (fail)
                  go_wp2_with fail
                  go_roundw
                  case rel => exact ⟨k + 1, true, by omega, by go_num, rfl, HN, hide (below_drewN HB9.out _)⟩
                  case measure => simp [intOf]; omega
                | false =>
                  obtain ⟨bb, hbb⟩ : ∃ bb, bb = (y == r) := ⟨_, rfl⟩
                  have HN : Hid (bb = decide (r ∈ out.take (k + 1))) := hide (by
                    rw [take_snoc HY.out, hbb]
                    have := HBK.out.symm
                    rw [decide_eq_false_iff_not] at this
                    by_cases hy : y = r
                    · simp [this, hy]
                    · simp [this, hy, Ne.symm hy])
                  have hbb2 : (y == r) = bb := hbb.symm
                  clear hbb
                  go_wp2_with fail
                  go_quiet (fail)
                  go_wp2_with fail
                  go_roundw
                  case rel => exact ⟨k + 1, bb, by omega, by go_num, rfl, HN, hide (below_drewN HB9.out _)⟩
                  case measure => simp [intOf]; omega
              · obtain rfl : k = out.length := by omega
                have n1 : ¬ ((out.length : Int) < (out.length : Int)) := by omega
                have HBO : Hid (b = decide (r ∈ out)) := hide (by have := HBK.out; rwa [List.take_length] at this)
                have HB10 : Hid (Below w.heap.size w wr) := hide (HB.out.trans (HB9.out.mono HB.out.size))
                cases b with
                | true =>
                  have HN : Hid (out = (turnsL t at_ pts ++ turnL t at_ (pts.take (i + 1))).foldl addNew []) := hide (by
                    rw [HT2.out]; unfold addNew
                    have := HBO.out.symm
                    rw [decide_eq_true_iff] at this
                    rw [if_pos this])
                  go_wp2_with fail
                  go_roundw
                  case rel => exact ⟨i + 1, out, A, c, by omega, by go_num, rfl, by omega, HN, HW9, HB10⟩
                  case measure => simp [intOf]; omega
                | false =>
                  have hlen : (out ++ [r]).length = out.length + 1 := by simp
                  have HN : Hid (out ++ [r] = (turnsL t at_ pts ++ turnL t at_ (pts.take (i + 1))).foldl addNew []) := hide (by
                    rw [HT2.out]; unfold addNew
                    have := HBO.out.symm
                    rw [decide_eq_false_iff_not] at this
                    rw [if_neg this])
                  have HLN := hide hlen
                  have HLT : Hid (out.length ≤ 3000000) := hide hol3
                  have HSZ : Hid (w.heap.size ≤ (wr.alloc (.cells #[.int .i64 r] 3)).heap.size) := hide (by rw [World.size_alloc]; have := HB10.out.size; omega)
                  clear hlen
                  go_wp2_with (at_builtin; go_must (with_reducible refine wpList_app rfl (.tmp 51) (.tmp 57) 30 rfl (.int .i64 0) 8 Tryd.underlying30 info_int (cells_int _ _) rfl (HW9.out.below ((Below.refl _ _).alloc (Nat.le_refl _) _)) rfl Sl.one (one_int _ _) (by have := HLT.out; unfold maxLen; omega) (by have := HLT.out; omega) HSZ.out ?_))
                  intro A7 c7 w7 hown hgr hat
                  have HOW : Hid (Own w7 w.heap.size 3 A7 (out ++ [r]).length c7 ((out ++ [r]).map (Value.int .i64))) := hide (by rw [HLN.out]; simpa using hown)
                  have HB7 : Hid (Below w.heap.size w w7) := hide (below_of_grown (HB10.out.alloc HB10.out.size _) hgr HSZ.out HW9.out.row_ge)
                  clear hown hgr hat
                  go_wp2_with fail
                  go_roundw
                  case rel => exact ⟨i + 1, out ++ [r], A7, c7, by omega, by go_num, by rw [HLN.out], by rw [HLN.out]; omega, HN, HOW, HB7⟩
                  case measure => simp [intOf]; omega
        · obtain rfl : i = L := by omega
          have hi1 : ¬ ((i : Int) < (i : Int)) := by omega
          have HN : Hid (out = (turnsL (t + 1) at_ pts).foldl addNew []) := hide (by
            rw [turnsL_snoc t at_ pts htl, HO.out, List.take_of_length_le (by have := HL.out; omega)])
          have hmul : (t + 1) * i = t * i + i := Nat.succ_mul t i
          have HM : Hid (out.length ≤ (t + 1) * i) := hide (by omega)
          clear hmul
          go_wp2_with fail
          go_roundw
          case rel => exact ⟨t + 1, out, A, c, by omega, by go_num, rfl, HM.out, HN, HW, HB⟩
          case measure => simp [intOf]; omega
    · obtain rfl : t = 2 := by omega
      go_wp2_with fail
      go_ret
      exact ⟨A, c, by rw [← HO.out]; rfl, by rw [← HO.out]; exact HW.out, HB.out⟩
end Go.Proofs.YtokdliapkolngaaDoor
