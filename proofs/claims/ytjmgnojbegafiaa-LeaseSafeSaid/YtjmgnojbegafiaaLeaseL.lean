/-
  Lease: the law LeaseHolds.
-/
import Derived.Test.YtjmgnojbegafiaaLeaseK
namespace Go.Proofs.Ytjmgnojbegafiaa
open Go.RowKit Go.Maps
set_option linter.unusedVariables false

def mineB : ByteArray := ⟨#[109, 105, 110, 101]⟩
/-- New, of a wrong term -/
theorem new_bad {term rho x y : Int} (h : shortI term rho = (x, y)) (hy : y ≠ 0) (w : World) : Calls Try.prog 7 #[.int .i64 term, .int .i64 rho] w fun e w' => e = .returned (.tuple #[.pointer none, .int .i64 y]) ∧ Hid (Below w.heap.size w w') := by
  refine (new_any term rho w).mono ?_
  rintro e w' ⟨P, rfl, hb, hc⟩
  rw [h] at hc ⊢
  rcases hc with ⟨_, rfl⟩ | ⟨h0, _⟩
  · exact ⟨rfl, hide hb⟩
  · exact absurd h0 hy
theorem mine_list : mineB.toList = [109, 105, 110, 101] := by decide +kernel
theorem fb_eq (s : ByteArray) : (s.toList == [109, 105, 110, 101]) = decide (s = mineB) := by rw [← mine_list]; exact text_eq s mineB
theorem fb_t {s : ByteArray} (h : s = mineB) : (s.toList == [109, 105, 110, 101]) = true ∧ (s.toList != [109, 105, 110, 101]) = false := by
  have := fb_eq s; rw [decide_eq_true h] at this; unfold bne; rw [this]; exact ⟨rfl, rfl⟩
theorem fb_f {s : ByteArray} (h : s ≠ mineB) : (s.toList == [109, 105, 110, 101]) = false ∧ (s.toList != [109, 105, 110, 101]) = true := by
  have := fb_eq s; rw [decide_eq_false h] at this; unfold bne; rw [this]; exact ⟨rfl, rfl⟩
/-- what is known of the noted edge -/
structure Mine (t : Int) (N : ByteArray → Int → Option Int) (G : ByteArray → Int → Bool) : Prop where
  note : N mineB 3 = some t
  gone : G mineB 3 = false
  i64 : ∀ s e a, N s e = some a → I64 a
theorem noteN_other {N : ByteArray → Int → Option Int} {s s' : ByteArray} {e e' now : Int} (h : ¬ (s' = s ∧ e' = e)) : noteN N s e now s' e' = N s' e' := by
  have hs : setN N s e now s' e' = N s' e' := by unfold setN; rw [if_neg h]
  unfold noteN
  cases N s e with
  | none => exact hs
  | some a =>
    simp only
    split
    · exact hs
    · rfl
theorem Mine.noted {t : Int} {N : ByteArray → Int → Option Int} {G : ByteArray → Int → Bool} (h : Mine t N G) {s : ByteArray} {e now : Int} (hse : ¬ (s = mineB ∧ e = 3)) (hn : I64 now) : Mine t (noteN N s e now) G :=
  ⟨(noteN_other (fun hh => hse ⟨hh.1.symm, hh.2.symm⟩)).trans h.note, h.gone, note_i64 h.i64 hn⟩
theorem Mine.acked {t : Int} {N : ByteArray → Int → Option Int} {G : ByteArray → Int → Bool} (h : Mine t N G) {s : ByteArray} {e : Int} (hse : ¬ (s = mineB ∧ e = 3)) : Mine t N (setG G s e) :=
  ⟨h.note, by unfold setG; rw [h.gone, decide_eq_false (fun hh => hse ⟨hh.1.symm, hh.2.symm⟩)]; rfl, h.i64⟩
theorem Mine.forgot {t : Int} {N : ByteArray → Int → Option Int} {G : ByteArray → Int → Bool} (h : Mine t N G) {s : ByteArray} (hs : s ≠ mineB) : Mine t (fun s' e => if s' = s then none else N s' e) (fun s' e => !decide (s' = s) && G s' e) :=
  ⟨by rw [if_neg (fun e => hs e.symm)]; exact h.note, by rw [h.gone]; simp, fun s' e a ha => by
    split at ha
    · cases ha
    · exact h.i64 _ _ _ ha⟩
/-- twice the same lease: looked at once -/
theorem hold_two {G : ByteArray → Int → Bool} {N : ByteArray → Int → Option Int} {now term t : Int} (hN : N mineB 3 = some t) (hG : G mineB 3 = false) : holdI G mineB now term N [3, 3] = ⟨N, fun e' => decide (e' = 3) || false, if overB t now term = true then [] else [3]⟩ := by
  have hl : lookN N mineB 3 now = N := by unfold lookN; rw [hN]
  simp [holdI, holdStep, hl, hN, hG]
theorem hold_gone {G : ByteArray → Int → Bool} {N : ByteArray → Int → Option Int} {now term : Int} (hG : G mineB 3 = true) : holdI G mineB now term N [3] = ⟨N, fun _ => false, []⟩ := by
  simp [holdI, holdStep, hG]
theorem hold_new {G : ByteArray → Int → Bool} {N : ByteArray → Int → Option Int} {now term : Int} (hN : N mineB 3 = none) (hG : G mineB 3 = false) (ht : 0 ≤ term) : (holdI G mineB now term N [3]).out = [3] := by
  have hl : lookN N mineB 3 now = setN N mineB 3 now := by unfold lookN; rw [hN]
  have hs : setN N mineB 3 now mineB 3 = some now := by unfold setN; rw [if_pos ⟨rfl, rfl⟩]
  have ho : overB now now term = false := by unfold overB; rw [decide_eq_false (by omega)]
  simp [holdI, holdStep, hl, hs, hG, ho]
set_option maxHeartbeats 8000000 in
set_option maxRecDepth 100000 in
theorem holds_walk (term t now : Int) (A : Option Addr) (n c : Nat) (ps : List Stp) (w : World) (hterm : I64 term) (ht : I64 t) (hnow : I64 now) (hp : SlStep w w.heap.size A n ps) (hn : n ≤ 9223372036854775807) :
    Calls Try.prog 3 #[.int .i64 term, .int .i64 t, .int .i64 now, .slice A n c] w fun e w' => e = .returned (.bool true) ∧ Below w.heap.size w w' := by
  have HP := hide hp; have HT := hide ht; have HNOW := hide hnow; have HTERM := hide hterm
  clear hp
  obtain ⟨x, y, hs⟩ : ∃ x y, shortI term 0 = (x, y) := ⟨_, _, rfl⟩
  by_cases hy : y = 0
  · subst hy
    have h0 : 0 ≤ term := by
      unfold shortI rightB at hs
      split at hs
      · rename_i h; simp [timeB] at h; omega
      · injection hs with _ h; cases h
    have KN := hide (new_ok hs)
    clear hs
    go_enter Try.func3, Try.ntmps3
    go_wp2_with fail
    refine (KN.out _).mono ?_
    rintro e w1 ⟨g, b1, b2, rfl, B1, Z, D1⟩
    go_wp2_with fail
    refine (known_any _).mono ?_
    rintro e w2 ⟨rfl, hb⟩
    have D2 := hide (D1.out.below hb)
    have B2 := hide (B1.out.trans (hb.mono B1.out.size))
    clear hb D1 B1
    go_wp2_with fail
    refine (note_any g b1 b2 0 _ _ term x mineB 3 t _ D2.out (KOk.small (by decide) (by omega)) (by decide)).mono ?_
    rintro e w3 ⟨rfl, hd, hb⟩
    have D3 := hide hd
    have B3 := hide (below_desk B2.out hb Z.out.2.1 Z.out.2.2)
    have M3 : Hid (Mine t (noteN (fun _ _ => none) mineB 3 t) (fun _ _ => false)) := hide ⟨by unfold noteN setN; simp, rfl, note_i64 (fun _ _ _ h => by cases h) ht⟩
    clear hd hb D2 B2
    go_wp2_with fail
    go_loopw [11] (fun v11 wq => ∃ (i k : Nat) (N : ByteArray → Int → Option Int) (G : ByteArray → Int → Bool), i ≤ n ∧ i ≤ 60 ∧ v11 = .int .i64 i ∧ k ≤ i + 1 ∧ Hid (DeskSt wq g b1 b2 k N G term x) ∧ Hid (Mine t N G) ∧ Hid (Below w.heap.size w wq)) (fun v _ => n - (intOf v).toNat)
    case atStart => exact ⟨0, 1, _, _, by omega, by omega, rfl, by omega, D3, M3, B3⟩
    case round =>
      clear D3 M3 B3
      obtain ⟨i, k, N, G, hi, hi6, rfl, hk, D, M, B⟩ := hrel
      by_cases hlt : i < n ∧ i < 60
      · obtain ⟨hlt, hlt6⟩ := hlt
        obtain ⟨pb, po, p, rfl, hpb, hpi, hok, k0, k1, k2, k3, A4, ca, k4, _, _⟩ := HP.out.at_ hlt
        have HOK := hide hok
        have c0 := (B.out.cell (p := ⟨pb, po + i * 5, none⟩) hpb).trans k0
        have c1 := (B.out.cell (p := ⟨pb, po + i * 5 + 1, none⟩) hpb).trans k1
        have c2 := (B.out.cell (p := ⟨pb, po + i * 5 + 2, none⟩) hpb).trans k2
        have c3 := (B.out.cell (p := ⟨pb, po + i * 5 + 3, none⟩) hpb).trans k3
        have c4 := (B.out.cell (p := ⟨pb, po + i * 5 + 4, none⟩) hpb).trans k4
        clear k0 k1 k2 k3 k4 hpi hok
        obtain ⟨pk, pf, pe, pn, pl⟩ := p
        simp only at c0 c1 c2 c3 c4
        have hi1 : (i : Int) < (n : Int) := by omega
        have hi2 : (i : Int) < 60 := by omega
        have hi0 : (0 : Int) ≤ (i : Int) := by omega
        go_upto_region 9 with (fail)
        refine wp_world (fun X => Hid (DeskSt X g b1 b2 k N G term x) ∧ Hid (Below w.heap.size w X) ∧ Hid (RowV X wr.heap.size 31 [.int .i64 pk, .string pf, .int .i64 pe, .int .i64 pn, .slice A4 pl.length ca])) ⟨hide (D.out.but (But.of_alloc (S := fun _ => False) wr _) id id id), hide (B.out.alloc B.out.size _), hide (RowV.new wr _ _)⟩ ?_
        clear D B c0 c1 c2 c3 c4
        rintro X ⟨D, B, R⟩
        have p0 := R.out.cell (k := 0) rfl
        have p1 := R.out.cell (k := 1) rfl
        have p2 := R.out.cell (k := 2) rfl
        have p3 := R.out.cell (k := 3) rfl
        by_cases hskip : pf = mineB ∧ pe = 3
        · obtain ⟨hsf, rfl⟩ := hskip
          obtain ⟨hfb, hfn⟩ := fb_t hsf
          clear hsf HOK
          go_wp2_with fail
          go_roundw
          case rel => exact ⟨i + 1, k, N, G, by omega, by omega, by go_num, by omega, D, M, B⟩
          case measure => simp [intOf]; omega
        · have MN : Hid (Mine t (noteN N pf pe pn) G) := hide (M.out.noted hskip HOK.out.now)
          have MA : Hid (Mine t N (setG G pf pe)) := hide (M.out.acked hskip)
          have KK : Hid (KOk pf pe) := hide HOK.out.key
          by_cases hfm : pf = mineB
          · obtain ⟨hfb, hfn⟩ := fb_t hfm
            have heb : (pe == 3) = false := by
              rw [beq_eq_false_iff_ne]; exact fun h => hskip ⟨hfm, h⟩
            clear hskip hfm HOK
            rcases (by omega : pk = 0 ∨ pk = 1 ∨ pk = 3 ∨ (pk ≠ 0 ∧ pk ≠ 1 ∧ pk ≠ 3)) with rfl | rfl | rfl | ⟨q0, q1, q3⟩
            · go_wp2_with fail
              refine (note_any g b1 b2 k N G term x pf pe pn _ D.out KK.out (by unfold maxLen; omega)).mono ?_
              rintro e w4 ⟨rfl, hd, hb⟩
              have D4 := hide hd
              have B4 := hide (below_desk B.out hb Z.out.2.1 Z.out.2.2)
              clear hd hb D B R p0 p1 p2 p3
              go_wp2_with fail
              go_roundw
              case rel => exact ⟨i + 1, k + 1, _, _, by omega, by omega, by go_num, by omega, D4, MN, B4⟩
              case measure => simp [intOf]; omega
            · go_wp2_with fail
              refine (ack_any g b1 b2 k N G term x pf pe _ D.out KK.out (by unfold maxLen; omega)).mono ?_
              rintro e w4 ⟨rfl, hd, hb⟩
              have D4 := hide hd
              have B4 := hide (below_desk B.out hb Z.out.2.1 Z.out.2.2)
              clear hd hb D B R p0 p1 p2 p3
              go_wp2_with fail
              go_roundw
              case rel => exact ⟨i + 1, k + 1, _, _, by omega, by omega, by go_num, by omega, D4, MA, B4⟩
              case measure => simp [intOf]; omega
            · go_wp2_with fail
              go_roundw
              case rel => exact ⟨i + 1, k, N, G, by omega, by omega, by go_num, by omega, D, M, B⟩
              case measure => simp [intOf]; omega
            · have q0b : (pk == 0) = false := by simpa using q0
              have q1b : (pk == 1) = false := by simpa using q1
              have q3b : (pk == 3) = false := by simpa using q3
              clear q0 q1 q3
              go_wp2_with fail
              go_roundw
              case rel => exact ⟨i + 1, k, N, G, by omega, by omega, by go_num, by omega, D, M, B⟩
              case measure => simp [intOf]; omega
          · obtain ⟨hfb, hfn⟩ := fb_f hfm
            have MF : Hid (Mine t (fun s' e => if s' = pf then none else N s' e) (fun s' e => !decide (s' = pf) && G s' e)) := hide (M.out.forgot hfm)
            clear hskip hfm HOK
            rcases (by omega : pk = 0 ∨ pk = 1 ∨ pk = 3 ∨ (pk ≠ 0 ∧ pk ≠ 1 ∧ pk ≠ 3)) with rfl | rfl | rfl | ⟨q0, q1, q3⟩
            · go_wp2_with fail
              refine (note_any g b1 b2 k N G term x pf pe pn _ D.out KK.out (by unfold maxLen; omega)).mono ?_
              rintro e w4 ⟨rfl, hd, hb⟩
              have D4 := hide hd
              have B4 := hide (below_desk B.out hb Z.out.2.1 Z.out.2.2)
              clear hd hb D B R p0 p1 p2 p3
              go_wp2_with fail
              go_roundw
              case rel => exact ⟨i + 1, k + 1, _, _, by omega, by omega, by go_num, by omega, D4, MN, B4⟩
              case measure => simp [intOf]; omega
            · go_wp2_with fail
              refine (ack_any g b1 b2 k N G term x pf pe _ D.out KK.out (by unfold maxLen; omega)).mono ?_
              rintro e w4 ⟨rfl, hd, hb⟩
              have D4 := hide hd
              have B4 := hide (below_desk B.out hb Z.out.2.1 Z.out.2.2)
              clear hd hb D B R p0 p1 p2 p3
              go_wp2_with fail
              go_roundw
              case rel => exact ⟨i + 1, k + 1, _, _, by omega, by omega, by go_num, by omega, D4, MA, B4⟩
              case measure => simp [intOf]; omega
            · go_wp2_with fail
              refine (forget_any g b1 b2 k N G term x pf _ D.out).mono ?_
              rintro e w4 ⟨rfl, hd, hb⟩
              have D4 := hide hd
              have B4 := hide (below_desk B.out hb Z.out.2.1 Z.out.2.2)
              clear hd hb D B R p0 p1 p2 p3
              go_wp2_with fail
              go_roundw
              case rel => exact ⟨i + 1, k, _, _, by omega, by omega, by go_num, by omega, D4, MF, B4⟩
              case measure => simp [intOf]; omega
            · have q0b : (pk == 0) = false := by simpa using q0
              have q1b : (pk == 1) = false := by simpa using q1
              have q3b : (pk == 3) = false := by simpa using q3
              clear q0 q1 q3
              go_wp2_with fail
              go_roundw
              case rel => exact ⟨i + 1, k, N, G, by omega, by omega, by go_num, by omega, D, M, B⟩
              case measure => simp [intOf]; omega
      · have hk2 : k ≤ 61 := by omega
        have hlt2 : ¬ ((i : Int) < (n : Int)) ∨ (((i : Int) < (n : Int)) ∧ ¬ ((i : Int) < 60)) := by omega
        clear hlt hk HP
        have H3 : Hid (∀ z ∈ ([3, 3] : List Int), I64 z) := hide (by intro z hz; simp at hz; unfold I64; omega)
        have H1 : Hid (∀ z ∈ ([3] : List Int), I64 z) := hide (by intro z hz; simp at hz; unfold I64; omega)
        have E1 : Hid (holdI G mineB now term N [3, 3] = ⟨N, fun e' => decide (e' = 3) || false, if overB t now term = true then [] else [3]⟩) := hide (hold_two M.out.note M.out.gone)
        have E2 : Hid (holdI (setG G mineB 3) mineB now term N [3] = ⟨N, fun _ => false, []⟩) := hide (hold_gone (by unfold setG; simp))
        have E3 : Hid ((holdI (fun s' e => !decide (s' = mineB) && setG G mineB 3 s' e) mineB now term (fun s' e => if s' = mineB then none else N s' e) [3]).out = [3]) := hide (hold_new (by simp) (by simp) h0)
        have N3 : Hid (∀ s e a, (fun s' e => if s' = mineB then none else N s' e) s e = some a → I64 a) := hide (fun s' e a ha => by
          simp only at ha
          split at ha
          · cases ha
          · exact M.out.i64 _ _ _ ha)
        have HOV := hide (over_any t now term ht hnow hterm)
        rcases hlt2 with hge | ⟨hlt, hge⟩
        all_goals
          go_wp2_with fail
          refine (holders_lit [3, 3] 2 rfl (by omega) H3.out g b1 b2 k N G term x mineB now _ D.out (by omega) (by decide) hnow hterm M.out.i64).mono ?_
          rintro e w4 ⟨A4, c4, rfl, O4, D4, hb⟩
          have B4 := hide (below_desk B.out hb.out Z.out.2.1 Z.out.2.2)
          rw [E1.out] at D4 O4 ⊢
          clear hb D B E1 O4
          obtain ⟨ov, hov⟩ : ∃ ov, ov = overB t now term := ⟨_, rfl⟩
          rw [← hov] at HOV ⊢
          clear hov
          cases ov
          all_goals
            simp only [reduceIte, List.length_nil, List.length_cons, Bool.false_eq_true] at D4 ⊢
            go_wp2_with (refine (HOV.out _).mono ?_; rintro e w' ⟨rfl, rfl⟩)
            refine (ack_any g b1 b2 (k + 2) N G term x mineB 3 _ D4.out (KOk.small (by decide) (by omega)) (by unfold maxLen; omega)).mono ?_
            rintro e w5 ⟨rfl, hd, hb⟩
            have D5 := hide hd
            have B5 := hide (below_desk B4.out hb Z.out.2.1 Z.out.2.2)
            clear hd hb D4 B4
            go_wp2_with fail
            refine (holders_lit [3] 1 rfl (by omega) H1.out g b1 b2 (k + 2 + 1) N (setG G mineB 3) term x mineB now _ D5.out (by omega) (by decide) hnow hterm M.out.i64).mono ?_
            rintro e w6 ⟨A6, c6, rfl, O6, D6, hb⟩
            have B6 := hide (below_desk B5.out hb.out Z.out.2.1 Z.out.2.2)
            rw [E2.out] at D6 O6 ⊢
            clear hb D5 B5 E2 O6
            go_wp2_with fail
            refine (forget_any g b1 b2 _ N (setG G mineB 3) term x mineB _ D6.out).mono ?_
            rintro e w7 ⟨rfl, hd, hb⟩
            have D7 := hide hd
            have B7 := hide (below_desk B6.out hb Z.out.2.1 Z.out.2.2)
            clear hd hb D6 B6
            go_wp2_with fail
            refine (holders_lit [3] 1 rfl (by omega) H1.out g b1 b2 _ _ _ term x mineB now _ D7.out (by omega) (by decide) hnow hterm N3.out).mono ?_
            rintro e w8 ⟨A8, c8, rfl, O8, D8, hb⟩
            have B8 := hide (below_desk B7.out hb.out Z.out.2.1 Z.out.2.2)
            rw [E3.out] at O8 ⊢
            clear hb D7 B7 D8 O8 E3
            go_wp2_with fail
            go_ret
            exact ⟨rfl, B8.out⟩
  · have hyb : (y != 0) = true := by simpa using hy
    have KN := hide (fun w => new_bad hs hy w)
    clear hs hy HP HT HNOW HTERM
    go_enter Try.func3, Try.ntmps3
    go_wp2_with fail
    refine (KN.out _).mono ?_
    rintro e w1 ⟨rfl, B1⟩
    go_wp2_with fail
    refine (known_any _).mono ?_
    rintro e w2 ⟨rfl, hb⟩
    have B2 := hide (B1.out.trans (hb.mono B1.out.size))
    clear hb B1
    go_wp2_with fail
    refine (known_any _).mono ?_
    rintro e w3 ⟨rfl, hb⟩
    have B3 := hide (B2.out.trans (hb.mono B2.out.size))
    clear hb B2
    go_wp2_with fail
    go_ret
    exact ⟨rfl, B3.out⟩
end Go.Proofs.Ytjmgnojbegafiaa
