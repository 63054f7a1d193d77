/-
  Revoke: the law RevokeAnswers, walked.
-/
import Derived.Test.YtigeccflfdekiaaRevM
import Derived.Test.YtigeccflfdekiaaRevD
import Derived.Test.YtigeccflfdekiaaRevE
import Derived.BigQuiet
import Derived.StillTailTactics
namespace Go.Proofs.Ytigeccflfdekiaa
open Go.RowKit Go.Maps
set_option linter.unusedVariables false

/-- a step's cells, in a later world -/
theorem SlRst.step {w0 w : World} {A : Option Addr} {m : Nat} {ws : List Rst} (h : SlRst w0 w0.heap.size A m ws) (hb : Below w0.heap.size w0 w) {i : Nat} (hi : i < m) :
    ∃ b o p, A = some ⟨b, o, none⟩ ∧ ws[i]? = some p ∧ p.Ok ∧ w.cell? ⟨b, o + i * 6 + 1, none⟩ = some (.string p.fam) ∧ w.cell? ⟨b, o + i * 6 + 2, none⟩ = some (.int .i64 p.edge) ∧ w.cell? ⟨b, o + i * 6 + 3, none⟩ = some (.int .i64 p.seq) := by
  obtain ⟨b, o, p, rfl, hlt, hp, hok, A2, c2, hc, _⟩ := h.at_ hi
  exact ⟨b, o, p, rfl, hp, hok, (hb.cell (p := ⟨b, o + i * 6 + 1, none⟩) hlt).trans (hc 1 _ rfl), (hb.cell (p := ⟨b, o + i * 6 + 2, none⟩) hlt).trans (hc 2 _ rfl), (hb.cell (p := ⟨b, o + i * 6 + 3, none⟩) hlt).trans (hc 3 _ rfl)⟩
/-- it is not to be counted -/
def Tw (s : ByteArray) (p : Rst) (l : List Rst) : Prop := p.fam ≠ s ∨ ∃ q ∈ l, q.fam = s ∧ wx q = wx p
theorem Tw.snoc {s : ByteArray} {p : Rst} {l : List Rst} (q : Rst) : Tw s p (l ++ [q]) ↔ (Tw s p l ∨ (q.fam = s ∧ q.edge = p.edge ∧ q.seq = p.seq)) := by
  unfold Tw wx
  simp only [List.mem_append, List.mem_singleton, Prod.mk.injEq]
  constructor
  · rintro (h | ⟨x, hx | rfl, h1, h2⟩)
    · exact .inl (.inl h)
    · exact .inl (.inr ⟨x, hx, h1, h2⟩)
    · exact .inr ⟨h1, h2.1, h2.2⟩
  · rintro ((h | ⟨x, hx, h1, h2⟩) | ⟨h1, h2, h3⟩)
    · exact .inl h
    · exact .inr ⟨x, .inl hx, h1, h2⟩
    · exact .inr ⟨q, .inr rfl, h1, h2, h3⟩
theorem Tw.count {s : ByteArray} {p : Rst} {l : List Rst} : (Tw s p l → freshI s (l ++ [p]) = freshI s l) ∧ (¬ Tw s p l → freshI s (l ++ [p]) = freshI s l ++ [wx p]) := by
  rw [freshI_snoc]
  have h2 := (freshI_spec s l).2 (wx p)
  unfold Tw
  constructor
  · rintro (h | h)
    · rw [if_neg (fun hh => h hh.1)]
    · rw [if_neg (fun hh => hh.2 (h2.2 h))]
  · intro h
    rw [if_pos]
    exact ⟨Classical.byContradiction fun hh => h (.inl hh), fun hm => h (.inr (h2.1 hm))⟩
theorem take_snocR {α : Type} {l : List α} {i : Nat} {x : α} (h : l[i]? = some x) : l.take (i + 1) = l.take i ++ [x] := by rw [List.take_add_one, h]; rfl
theorem blist_eq {a b : ByteArray} : (a.data.toList = b.data.toList) ↔ a = b := ⟨fun h => by cases a; cases b; congr; exact Array.toList_inj.1 h, fun h => by rw [h]⟩
set_option maxHeartbeats 8000000 in
set_option maxRecDepth 100000 in
theorem answers_walk (A : Option Addr) (m c : Nat) (ws : List Rst) (s : ByteArray) (w : World) (hsl : SlRst w w.heap.size A m ws) (hm : m ≤ 9223372036854775807) (hs : s.size ≤ maxLen) :
    Calls Try.prog 4 #[.slice A m c, .string s] w fun e w' => e = .returned (.bool true) ∧ Below w.heap.size w w' := by
  have hml : ws.length = m := hsl.1
  have HSL := hide hsl; have HML := hide hml
  have HOKS : Hid (∀ p ∈ ws, p.Ok) := hide (fun p hp => by
    obtain ⟨k, hk⟩ := List.getElem?_of_mem hp
    obtain ⟨_, _, q, _, _, hq, h, _⟩ := hsl.at_ (k := k) (by have := (List.getElem?_eq_some_iff.1 hk).1; omega)
    rw [hk] at hq; injection hq with hq; subst hq; exact h)
  have KC := hide (newc_any 1 w)
  clear hsl hml
  go_enter Try.func4, Try.ntmps4
  go_wp2_with fail
  refine KC.out.mono ?_
  rintro e w1 (⟨hp1, hp2, cg, bt, bw, rfl, hcg, hbt, hbw, hc, hnw, hne1, hne2, hb⟩ | ⟨hnp, _, _⟩)
  rotate_left
  · exact absurd (by omega) hnp
  have A1 : Hid (AnsSt w w1 cg bt bw 0 1 (QL [])) := hide (by rw [QL_nil]; exact ⟨hc.row, ⟨fun _ => none, WaitSt.of_none hnw, fun _ _ h => by cases h⟩, hne1, ⟨hcg, hbw⟩, hb⟩)
  have HBT : Hid (bt ≠ bw ∧ bt < w1.heap.size) := hide ⟨hne2, hc.turns.lt⟩
  clear hc hnw hb KC hp1 hp2 hcg hbt hbw hne1 hne2
  go_wp2_with fail
  go_loopw [7, 8] (fun v7 v8 wq => ∃ i N : Nat, i ≤ m ∧ i ≤ 60 ∧ v8 = .int .i64 i ∧ v7 = .int .i64 N ∧ N ≤ i ∧ Hid (N = (freshI s (ws.take i)).length) ∧ Hid (AnsSt w wq cg bt bw (2 * i) 1 (QL (ws.take i))) ∧ Hid (w1.heap.size ≤ wq.heap.size)) (fun _ v _ => m - (intOf v).toNat)
  case atStart => exact ⟨0, 0, by omega, by omega, rfl, rfl, by omega, hide rfl, A1, hide (Nat.le_refl _)⟩
  case round =>
    clear A1
    obtain ⟨i, N, hi, hi6, rfl, rfl, hN, HN, A1, SZ⟩ := hrel
    by_cases hlt : i < m ∧ i < 60
    · obtain ⟨hlt, hlt6⟩ := hlt
      obtain ⟨pb, po, p, rfl, hp, hok, c1, c2, c3⟩ := HSL.out.step A1.out.b hlt
      have HP := hide hp; have HOK := hide hok
      have hi1 : (i : Int) < (m : Int) := by omega
      have hi2 : (i : Int) < 60 := by omega
      have hi0 : (0 : Int) ≤ (i : Int) := by omega
      have KW := hide ((A1.out.below ((Below.refl _ wr).drew)).wait ⟨HBT.out.1, Nat.lt_of_lt_of_le HBT.out.2 SZ.out⟩ hok.fam (wx_ok hok) (by omega))
      unfold wx at KW
      clear hp hok
      go_upto_region 6 with (fail)
      refine wp_region_still_tail 16 (by kernel_rfl) (by kernel_rfl) ?_
      change wpStill _ _ wr.drew _ _ _
      simp only [List.take_succ_cons, List.take_zero, List.drop_succ_cons, List.drop_zero]
      repeat still_step
      refine wpStill_nil ?_
      change wpList _ _ _ _ _ wr.drew
      go_wp2_with fail
      refine KW.out.mono ?_
      rintro e w3 ⟨rfl, A3, B3⟩
      have A4 : Hid (AnsSt w w3 cg bt bw (2 * (i + 1)) 1 (QL (ws.take (i + 1)))) := hide (by rw [take_snocR HP.out, ← QL_snoc]; exact A3.out.mono (by omega))
      have SZ3 : Hid (w1.heap.size ≤ w3.heap.size) := hide (Nat.le_trans SZ.out B3.out.size)
      have d1 := (HSL.out.step A4.out.b hlt)
      obtain ⟨_, _, p', ee, hp', _, d1, d2, d3⟩ := d1
      injection ee with ee; injection ee with e1 e2 _
      subst e1; subst e2
      rw [HP.out] at hp'
      injection hp' with hp'; subst hp'
      have HW3 := hide A4.out.b
      clear A3 B3 A1 KW SZ c1 c2 c3
      obtain ⟨t0, ht0⟩ : ∃ t, t = !(p.fam.toList == s.toList) := ⟨_, rfl⟩
      have HT0 : Hid (t0 = true ↔ Tw s p (ws.take 0)) := hide (by rw [ht0, text_eq]; unfold Tw; simp)
      go_upto_region 8 with (fail)
      rw [← ht0]
      clear ht0
      go_wp2_with fail
      go_loopw [9, 10] (fun v9 v10 wq => ∃ (k : Nat) (t : Bool), k ≤ i ∧ v10 = .int .i64 k ∧ v9 = .bool t ∧ Hid (t = true ↔ Tw s p (ws.take k)) ∧ Hid (AnsSt w wq cg bt bw (2 * (i + 1)) 1 (QL (ws.take (i + 1)))) ∧ Hid (w1.heap.size ≤ wq.heap.size)) (fun _ v _ => i - (intOf v).toNat)
      case atStart => exact ⟨0, t0, by omega, rfl, rfl, HT0, A4, SZ3⟩
      case round =>
        clear A4 SZ3 HT0 HW3 d1 d2 d3
        obtain ⟨k, t, hk, rfl, rfl, HT, A4, SZ3⟩ := hrel
        by_cases hki : k < i
        · obtain ⟨_, _, q, ee, hq, _, q1, q2, q3⟩ := HSL.out.step A4.out.b (show k < m by omega)
          injection ee with ee; injection ee with e1 e2 _
          subst e1; subst e2
          obtain ⟨_, _, p', ee, hp', _, d1, d2, d3⟩ := HSL.out.step A4.out.b hlt
          injection ee with ee; injection ee with e1 e2 _
          subst e1; subst e2
          rw [HP.out] at hp'
          injection hp' with hp'; subst hp'
          have HTS : Hid (∀ t' : Bool, (t' = true ↔ (t = true ∨ (q.fam = s ∧ q.edge = p.edge ∧ q.seq = p.seq))) → (t' = true ↔ Tw s p (ws.take (k + 1)))) := hide (fun t' ht' => by rw [take_snocR hq, Tw.snoc, ht', HT.out])
          have hk1 : (k : Int) < (i : Int) := by omega
          have hk2 : (0 : Int) ≤ (k : Int) := by omega
          have hk3 : (k : Int) < (m : Int) := by omega
          clear hq HT
          cases t with
          | true =>
            go_wp2_with fail
            go_quiet (fail)
            go_wp2_with fail
            go_roundw
            case rel => exact ⟨k + 1, true, by omega, by go_num, rfl, hide (HTS.out true (by simp)), hide (A4.out.below (below_drewN (Below.refl _ _) _)), SZ3⟩
            case measure => simp [intOf]; omega
          | false =>
            by_cases ha : q.fam = s
            · have hab : (q.fam.toList == s.toList) = true := by rw [text_eq]; exact decide_eq_true ha
              by_cases hb : q.edge = p.edge
              · have hbb : (q.edge == p.edge) = true := by rw [beq_iff_eq]; exact hb
                obtain ⟨cc, hcc⟩ : ∃ cc, (q.seq == p.seq) = cc := ⟨_, rfl⟩
                have HC : Hid (cc = true ↔ (q.fam = s ∧ q.edge = p.edge ∧ q.seq = p.seq)) := hide (by rw [← hcc, beq_iff_eq]; exact ⟨fun h => ⟨ha, hb, h⟩, fun h => h.2.2⟩)
                clear ha hb
                go_wp2_with fail
                go_quiet (fail)
                go_wp2_with fail
                go_roundw
                case rel => exact ⟨k + 1, cc, by omega, by go_num, by simp, hide (HTS.out cc (by simp [HC.out])), hide (A4.out.below (below_drewN (Below.refl _ _) _)), SZ3⟩
                case measure => simp [intOf]; omega
              · have hbb : (q.edge == p.edge) = false := by rw [beq_eq_false_iff_ne]; exact hb
                have HB := hide hb
                clear ha hb
                go_wp2_with fail
                go_quiet (fail)
                go_wp2_with fail
                go_roundw
                case rel => exact ⟨k + 1, false, by omega, by go_num, by simp, hide (HTS.out false (by simp [HB.out])), hide (A4.out.below (below_drewN (Below.refl _ _) _)), SZ3⟩
                case measure => simp [intOf]; omega
            · have hab : (q.fam.toList == s.toList) = false := by rw [text_eq]; exact decide_eq_false ha
              have HA := hide ha
              clear ha
              go_wp2_with fail
              go_quiet (fail)
              go_wp2_with fail
              go_roundw
              case rel => exact ⟨k + 1, false, by omega, by go_num, by simp, hide (HTS.out false (by simp [HA.out])), hide (A4.out.below (below_drewN (Below.refl _ _) _)), SZ3⟩
              case measure => simp [intOf]; omega
        · have hki2 : k = i := by omega
          subst hki2
          have hk1 : ¬ ((k : Int) < (k : Int)) := by omega
          have HCN := hide (Tw.count (s := s) (p := p) (l := ws.take k))
          cases t with
          | true =>
            have hT := HT.out.1 rfl
            have HN2 : Hid (N = (freshI s (ws.take (k + 1))).length) := hide (by rw [take_snocR HP.out, HCN.out.1 hT]; exact HN.out)
            clear HN hT HT HCN
            go_wp2_with fail
            exact ⟨⟨k + 1, N, by omega, by omega, by go_num, rfl, by omega, HN2, A4, SZ3⟩, by simp [intOf]; omega⟩
          | false =>
            have hT : ¬ Tw s p (ws.take k) := fun h => by have := HT.out.2 h; cases this
            have HN2 : Hid (N + 1 = (freshI s (ws.take (k + 1))).length) := hide (by rw [take_snocR HP.out, HCN.out.2 hT, List.length_append, HN.out]; rfl)
            clear HN hT HT HCN
            go_wp2_with fail
            exact ⟨⟨k + 1, N + 1, by omega, by omega, by go_num, by go_num, by omega, HN2, A4, SZ3⟩, by simp [intOf]; omega⟩
    · have hor : ¬ ((i : Int) < (m : Int)) ∨ ((i : Int) < (m : Int) ∧ ¬ ((i : Int) < 60)) := by omega
      have hend : m ≤ i ∨ 60 ≤ i := by omega
      clear hlt
      obtain ⟨F, hF⟩ : ∃ F, F = ws.take i := ⟨_, rfl⟩
      have HFM : Hid (∀ j p, j < m → j < 60 → ws[j]? = some p → p ∈ F) := hide (fun j p h1 h2 hp => by
        rw [hF]
        exact List.mem_of_getElem? (i := j) (by rw [List.getElem?_take, if_pos (by omega)]; exact hp))
      have HFO : Hid (∀ p ∈ F, p.Ok) := hide (fun p hp => HOKS.out p (List.mem_of_mem_take (hF ▸ hp)))
      rw [← hF] at HN A1
      clear hF hend
      have KG := hide (A1.out.gone HBT.out.1 hs (by omega))
      have HBW : Hid (bw < wr.heap.size) := hide (by obtain ⟨B, hB, _⟩ := A1.out.ex; exact hB.lt)
      rcases hor with h | ⟨h, h2⟩
      all_goals
        go_wp2_with fail
        refine KG.out.mono ?_
        rintro e w5 ⟨A5, c5, ls, rfl, HJ, OL, S5, B5⟩
        have hLN : ls.length = N := by rw [just_len HJ.out.1 HFO.out]; exact HN.out.symm
        have HLN := hide hLN
        have SZ5 : Hid (w1.heap.size ≤ w5.heap.size) := hide (Nat.le_trans SZ.out B5.out.size)
        rw [hLN] at OL ⊢
        clear KG A1 SZ B5 hLN HN
        go_wp2_with fail
        refine (rknown_any _).mono ?_
        rintro e w6 ⟨rfl, hb6⟩
        have S6 := hide (S5.out.below hb6)
        have OL6 := hide (OL.out.below hb6)
        have SZ6 : Hid (w1.heap.size ≤ w6.heap.size) := hide (Nat.le_trans SZ5.out hb6.size)
        have HOB := hide (OL.out.row_ge)
        have KG := hide (S6.out.gone HBT.out.1 hs (by omega))
        clear S5 OL SZ5 hb6
        have hnn : ((N : Int) != (N : Int)) = false := by simp
        go_wp2_with fail
        refine KG.out.mono ?_
        rintro e w7 ⟨A7, c7, ls7, rfl, HJ7, O7, S7, B7⟩
        rw [setQ_same] at HJ7
        obtain rfl : ls7 = [] := just_nil HJ7.out.1
        have OL7 := hide (OL6.out.but_row B7.out (fun k hk hk' => by have := HOB.out k hk; have := HBW.out; have hk' : k = bw := hk'; omega))
        have S8 : Hid (AnsSt w w7 cg bt bw (2 * i) 1 (QG s F (ws.take 0))) := hide (by
          have h := S7.out
          rw [setQ_idem, QG_nil] at h
          exact h)
        have SZ7 : Hid (w1.heap.size ≤ w7.heap.size) := hide (Nat.le_trans SZ6.out B7.out.size)
        have h00 : ((([] : List (Int × Int)).length : Int) != 0) = false := rfl
        clear HJ7 O7 S7 B7 KG S6 OL6 SZ6 hnn HBW
        obtain ⟨i2, hi2⟩ : ∃ i2, i2 = 2 * i := ⟨_, rfl⟩
        have hi2l : i2 ≤ 1000000 := by omega
        rw [← hi2] at S8
        clear hi2
        go_wp2_with fail
        go_loopw [12] (fun v12 wq => ∃ j : Nat, j ≤ N ∧ v12 = .int .i64 ((j : Int) + 1) ∧ Hid (AnsSt w wq cg bt bw i2 1 (QG s F (ws.take 0))) ∧ Hid (OwnS 2 wq wr.heap.size 50 A5 N c5 (ls.flatMap waitC)) ∧ Hid (w1.heap.size ≤ wq.heap.size)) (fun v _ => N + 1 - (intOf v).toNat)
        case atStart => exact ⟨0, by omega, rfl, S8, OL7, SZ7⟩
        case round =>
          clear S8 OL7 SZ7 h00
          obtain ⟨j, hj, rfl, S8, OL7, SZ7⟩ := hrel
          by_cases hjn : j + 1 < N
          · obtain ⟨g, rfl, _, hcell, _⟩ := OL7.out.spot (by omega)
            obtain ⟨a, ha⟩ : ∃ a, ls[j]? = some a := ⟨_, List.getElem?_eq_getElem (by rw [HLN.out]; omega)⟩
            obtain ⟨b, hb⟩ : ∃ b, ls[j + 1]? = some b := ⟨_, List.getElem?_eq_getElem (by rw [HLN.out]; omega)⟩
            have hlt : wLt a b := by
              obtain ⟨l1, e1⟩ := List.getElem?_eq_some_iff.1 ha
              obtain ⟨l2, e2⟩ := List.getElem?_eq_some_iff.1 hb
              have := List.pairwise_iff_getElem.1 HJ.out.1.1 j (j + 1) l1 l2 (by omega)
              rw [e1, e2] at this; exact this
            have ca0 := hcell _ _ (flat_get (enc := waitC) (sz := 2) (fun _ => rfl) ha (j := 0) rfl)
            have ca1 := hcell _ _ (flat_get (enc := waitC) (sz := 2) (fun _ => rfl) ha (j := 1) rfl)
            have cb0 := hcell _ _ (flat_get (enc := waitC) (sz := 2) (fun _ => rfl) hb (j := 0) rfl)
            have cb1 := hcell _ _ (flat_get (enc := waitC) (sz := 2) (fun _ => rfl) hb (j := 1) rfl)
            have hj1 : (j : Int) + 1 < (N : Int) := by omega
            have hj0 : (0 : Int) ≤ (j : Int) := by omega
            have hj3 : (0 : Int) ≤ (j : Int) + 1 := by omega
            have hj2 : (j : Int) < (N : Int) := by omega
            clear ha hb hcell
            simp only [Nat.add_zero] at ca0 cb0
            have hgt : decide (b.1 < a.1) = false := by unfold wLt at hlt; exact decide_eq_false (by omega)
            by_cases hq : a.1 = b.1
            · have hqb : (a.1 == b.1) = true := by rw [beq_iff_eq]; exact hq
              have hge : decide (b.2 ≤ a.2) = false := by unfold wLt at hlt; exact decide_eq_false (by omega)
              clear hq hlt
              go_wp2_with fail
              go_quiet (fail)
              go_wp2_with fail
              go_roundw
              case rel => exact ⟨j + 1, by omega, by go_num, hide (S8.out.below (below_drewN (Below.refl _ _) _)), hide (OL7.out.below (below_drewN (Below.refl _ _) _)), SZ7⟩
              case measure => simp [intOf]; omega
            · have hqb : (a.1 == b.1) = false := by rw [beq_eq_false_iff_ne]; exact hq
              clear hq hlt
              go_wp2_with fail
              go_quiet (fail)
              go_wp2_with fail
              go_roundw
              case rel => exact ⟨j + 1, by omega, by go_num, hide (S8.out.below (below_drewN (Below.refl _ _) _)), hide (OL7.out.below (below_drewN (Below.refl _ _) _)), SZ7⟩
              case measure => simp [intOf]; omega
          · have hj1 : ¬ ((j : Int) + 1 < (N : Int)) := by omega
            clear OL7
            go_wp2_with fail
            go_loopw [13] (fun v13 wq => ∃ j2 : Nat, j2 ≤ m ∧ j2 ≤ 60 ∧ v13 = .int .i64 j2 ∧ Hid (AnsSt w wq cg bt bw i2 1 (QG s F (ws.take j2))) ∧ Hid (w1.heap.size ≤ wq.heap.size)) (fun v _ => m - (intOf v).toNat)
            case atStart => exact ⟨0, by omega, by omega, rfl, S8, SZ7⟩
            case round =>
              clear S8 SZ7
              obtain ⟨j2, hj2, hj6, rfl, S8, SZ8⟩ := hrel
              by_cases hlt : j2 < m ∧ j2 < 60
              · obtain ⟨hlt, hlt6⟩ := hlt
                obtain ⟨pb, po, p, rfl, hp, hok, d1, _, _⟩ := HSL.out.step S8.out.b hlt
                have HPF := hide (HFM.out j2 p hlt hlt6 hp)
                have HP := hide hp; have HOK := hide hok
                have k1 : (j2 : Int) < (m : Int) := by omega
                have k2 : (j2 : Int) < 60 := by omega
                have k0 : (0 : Int) ≤ (j2 : Int) := by omega
                clear hp hok
                by_cases hf : p.fam = s
                · have hfb : (p.fam.toList == s.toList) = true := by rw [text_eq]; exact decide_eq_true hf
                  have S9 : Hid (AnsSt w wr cg bt bw i2 1 (QG s F (ws.take (j2 + 1)))) := hide (by rw [take_snocR HP.out, QG_same _ _ _ _ hf]; exact S8.out)
                  clear hf S8
                  go_wp2_with fail
                  exact ⟨⟨j2 + 1, by omega, by omega, by go_num, S9, SZ8⟩, by simp [intOf]; omega⟩
                · have hfb : (p.fam.toList == s.toList) = false := by rw [text_eq]; exact decide_eq_false hf
                  have KG := hide (S8.out.gone (s := p.fam) HBT.out.1 HOK.out.fam hi2l)
                  have HF := hide hf
                  clear hf
                  go_wp2_with fail
                  refine KG.out.mono ?_
                  rintro e w9 ⟨A9, c9, ls9, rfl, HJ9, O9, S9, B9⟩
                  have S10 : Hid (AnsSt w w9 cg bt bw i2 1 (QG s F (ws.take (j2 + 1)))) := hide (by rw [take_snocR HP.out, ← QG_snoc]; exact S9.out)
                  have SZ9 : Hid (w1.heap.size ≤ w9.heap.size) := hide (Nat.le_trans SZ8.out B9.out.size)
                  clear KG S8 S9 O9 B9 SZ8
                  by_cases hg : ∃ q ∈ ws.take j2, q.fam = p.fam
                  · obtain rfl : ls9 = [] := just_nil (by
                      have h := HJ9.out.1
                      rw [show QG s F (ws.take j2) p.fam = fun _ => false from funext fun x => by unfold QG; rw [if_pos (.inr hg)]] at h
                      exact h)
                    have HG := hide hg
                    have h00 : ((([] : List (Int × Int)).length : Int) == 0) = true := rfl
                    clear HJ9 hg
                    go_wp2_with fail
                    go_loopw [14, 15] (fun v14 v15 wq => ∃ (k : Nat) (t : Bool), k ≤ j2 ∧ v15 = .int .i64 k ∧ v14 = .bool t ∧ Hid (t = true ↔ ∃ q ∈ ws.take k, q.fam = p.fam) ∧ Hid (AnsSt w wq cg bt bw i2 1 (QG s F (ws.take (j2 + 1)))) ∧ Hid (w1.heap.size ≤ wq.heap.size)) (fun _ v _ => j2 - (intOf v).toNat)
                    case atStart => exact ⟨0, false, by omega, rfl, rfl, hide (by simp), S10, SZ9⟩
                    case round =>
                      clear S10 SZ9 d1
                      obtain ⟨k, t, hk, rfl, rfl, HT, S10, SZ9⟩ := hrel
                      by_cases hkj : k < j2
                      · obtain ⟨_, _, q, ee, hq, _, q1, _, _⟩ := HSL.out.step S10.out.b (show k < m by omega)
                        injection ee with ee; injection ee with e1 e2 _
                        subst e1; subst e2
                        obtain ⟨_, _, p', ee, hp', _, d1, _, _⟩ := HSL.out.step S10.out.b hlt
                        injection ee with ee; injection ee with e1 e2 _
                        subst e1; subst e2
                        rw [HP.out] at hp'
                        injection hp' with hp'; subst hp'
                        have HTS : Hid (∀ t' : Bool, (t' = true ↔ (t = true ∨ q.fam = p.fam)) → (t' = true ↔ ∃ q ∈ ws.take (k + 1), q.fam = p.fam)) := hide (fun t' ht' => by
                          rw [ht', HT.out, take_snocR hq]
                          simp only [List.mem_append, List.mem_singleton]
                          constructor
                          · rintro (⟨x, hx, h1⟩ | h1)
                            · exact ⟨x, .inl hx, h1⟩
                            · exact ⟨q, .inr rfl, h1⟩
                          · rintro ⟨x, hx | rfl, h1⟩
                            · exact .inl ⟨x, hx, h1⟩
                            · exact .inr h1)
                        have n1 : (k : Int) < (j2 : Int) := by omega
                        have n2 : (0 : Int) ≤ (k : Int) := by omega
                        have n3 : (k : Int) < (m : Int) := by omega
                        clear hq HT
                        cases t with
                        | true =>
                          go_wp2_with fail
                          go_quiet (fail)
                          go_wp2_with fail
                          go_roundw
                          case rel => exact ⟨k + 1, true, by omega, by go_num, rfl, hide (HTS.out true (by simp)), hide (S10.out.below (below_drewN (Below.refl _ _) _)), SZ9⟩
                          case measure => simp [intOf]; omega
                        | false =>
                          obtain ⟨cc, hcc⟩ : ∃ cc, (q.fam.toList == p.fam.toList) = cc := ⟨_, rfl⟩
                          have HC : Hid (cc = true ↔ q.fam = p.fam) := hide (by rw [← hcc, text_eq]; simp)
                          go_wp2_with fail
                          go_quiet (fail)
                          go_wp2_with fail
                          go_roundw
                          case rel => exact ⟨k + 1, cc, by omega, by go_num, by simp, hide (HTS.out cc (by simp [HC.out])), hide (S10.out.below (below_drewN (Below.refl _ _) _)), SZ9⟩
                          case measure => simp [intOf]; omega
                      · have hkj2 : k = j2 := by omega
                        subst hkj2
                        have n1 : ¬ ((k : Int) < (k : Int)) := by omega
                        obtain rfl : t = true := HT.out.2 HG.out
                        clear HT HG
                        go_wp2_with fail
                        exact ⟨⟨k + 1, by omega, by omega, by go_num, S10, SZ9⟩, by simp [intOf]; omega⟩
                  · have hne : ls9.length ≠ 0 := by
                      intro h0
                      have hm9 : wx p ∈ ls9 := (HJ9.out.1.2 (wx p)).2 ⟨wx_ok HOK.out, by
                        unfold QG
                        rw [if_neg (by rintro (h' | h'); exact HF.out h'; exact hg h'), QL_iff]
                        exact ⟨p, HPF.out, rfl, rfl⟩⟩
                      rw [List.eq_nil_of_length_eq_zero h0] at hm9
                      cases hm9
                    obtain ⟨L9, hL9⟩ : ∃ L9, L9 = ls9.length := ⟨_, rfl⟩
                    rw [← hL9] at hne ⊢
                    have hnb : ((L9 : Int) == 0) = false := by rw [beq_eq_false_iff_ne]; omega
                    clear hL9 HJ9 hg hne
                    go_wp2_with fail
                    exact ⟨⟨j2 + 1, by omega, by omega, by go_num, S10, SZ9⟩, by simp [intOf]; omega⟩
              · have hor2 : ¬ ((j2 : Int) < (m : Int)) ∨ ((j2 : Int) < (m : Int) ∧ ¬ ((j2 : Int) < 60)) := by omega
                have B8 := hide S8.out.b
                clear hlt S8 SZ8 HFM HFO
                rcases hor2 with h | ⟨h, h2⟩
                all_goals
                  go_wp2_with fail
                  refine (wait_nil _ _ _ _).mono ?_
                  rintro e w10 ⟨rfl, rfl⟩
                  go_wp2_with fail
                  refine (reset_nil _).mono ?_
                  rintro e w11 ⟨rfl, rfl⟩
                  go_wp2_with fail
                  refine (turn_nil _ _ _).mono ?_
                  rintro e w12 ⟨rfl, rfl⟩
                  go_wp2_with fail
                  refine (gone_nil _ _).mono ?_
                  rintro e w13 ⟨rfl, rfl⟩
                  go_wp2_with fail
                  go_ret
                  exact ⟨rfl, B8.out⟩
end Go.Proofs.Ytigeccflfdekiaa
