/-
  Lease: the law LeasePlays, walked.
-/
import Derived.Test.YtjmgnojbegafiaaLeaseT
import Derived.Test.YtjmgnojbegafiaaLeaseK
import Derived.Deep.RegionHeld3
namespace Go.Proofs.Ytjmgnojbegafiaa
open Go.RowKit Go.Maps
set_option linter.unusedVariables false

/-- New, of a wrong term -/
theorem new_badP {term rho x y : Int} (h : shortI term rho = (x, y)) (hy : y ≠ 0) (w : World) : Calls Try.prog 7 #[.int .i64 term, .int .i64 rho] w fun e w' => e = .returned (.tuple #[.pointer none, .int .i64 y]) ∧ Hid (Below w.heap.size w w') := by
  refine (new_any term rho w).mono ?_
  rintro e w' ⟨P, rfl, hb, hc⟩
  rw [h] at hc ⊢
  rcases hc with ⟨_, rfl⟩ | ⟨h0, _⟩
  · exact ⟨rfl, hide hb⟩
  · exact absurd h0 hy
/-- both desks, that hold the same -/
structure Both (w : World) (P g b1 b2 k : Nat) (A1 : Option Addr) (n1 c1 : Nat) (L1 : List RN) (N : ByteArray → Int → Option Int) (G : ByteArray → Int → Bool) (term x : Int) : Prop where
  d : DeskSt w g b1 b2 k N G term x
  r : RDesk w P A1 n1 c1 L1 term
  eN : ∀ s e, getN L1 s e = N s e
  eG : ∀ s e, getG L1 s e = G s e
  far : ∀ j, RB P A1 n1 c1 j → P ≤ j
  i64 : ∀ s e a, N s e = some a → I64 a
theorem Both.below {w w' : World} {P g b1 b2 k : Nat} {A1 : Option Addr} {n1 c1 : Nat} {L1 : List RN} {N : ByteArray → Int → Option Int} {G : ByteArray → Int → Bool} {term x : Int} (h : Both w P g b1 b2 k A1 n1 c1 L1 N G term x) (hb : Below w.heap.size w w') : Both w' P g b1 b2 k A1 n1 c1 L1 N G term x :=
  ⟨h.d.below hb, h.r.below hb, h.eN, h.eG, h.far, h.i64⟩
/-- the document's desk behind the program's call -/
theorem Both.r2 {w w' : World} {P g b1 b2 k : Nat} {A1 : Option Addr} {n1 c1 : Nat} {L1 : List RN} {N : ByteArray → Int → Option Int} {G : ByteArray → Int → Bool} {term x : Int} (h : Both w P g b1 b2 k A1 n1 c1 L1 N G term x) (hb : But (DB b1 b2) w w') (h1 : b1 < P) (h2 : b2 < P) : RDesk w' P A1 n1 c1 L1 term :=
  h.r.but hb (fun j hj hd => by have := h.far j hj; rcases hd with hd | hd <;> omega)
theorem Both.mk2 {w w' w'' : World} {P g b1 b2 k : Nat} {A1 A2 : Option Addr} {n1 c1 n2 c2 : Nat} {L1 L2 : List RN} {N N' : ByteArray → Int → Option Int} {G G' : ByteArray → Int → Bool} {term x : Int} {k' : Nat}
    (h : Both w P g b1 b2 k A1 n1 c1 L1 N G term x) (hP : P ≤ w.heap.size) (hd : DeskSt w' g b1 b2 k' N' G' term x) (hsz : w.heap.size ≤ w'.heap.size) (hr : RTurn w' w'' P A1 n1 c1 A2 n2 c2 L2 term N' G') (hg : g < P) (h1 : b1 < P) (h2 : b2 < P) (hi : ∀ s e a, N' s e = some a → I64 a) : Both w'' P g b1 b2 k' A2 n2 c2 L2 N' G' term x :=
  ⟨hd.but hr.but (fun hh => by have := h.far g hh; omega) (fun hh => by have := h.far b1 hh; omega) (fun hh => by have := h.far b2 hh; omega), hr.desk, hr.N, hr.G, fun j hj => (hr.new j hj).elim (h.far j) (fun hle => by omega), hi⟩
theorem rturn_below {w0 w w' : World} {P : Nat} {A1 A2 : Option Addr} {n1 c1 n2 c2 : Nat} {L2 : List RN} {N' : ByteArray → Int → Option Int} {G' : ByteArray → Int → Bool} {term : Int} (hb : Below w0.heap.size w0 w) (hr : RTurn w w' P A1 n1 c1 A2 n2 c2 L2 term N' G') (hf : ∀ j, RB P A1 n1 c1 j → P ≤ j) (hP : w0.heap.size ≤ P) : Below w0.heap.size w0 w' :=
  hb.trans (hr.but.below (fun j hj => Nat.le_trans hP (hf j hj)) hb.size)
theorem box_desk (w : World) (term : Int) : RDesk (w.alloc (.cells #[.slice none 0 0, .int .i64 term] 52)) w.heap.size none 0 0 [] term :=
  ⟨RowV.new w _ [.slice none 0 0, .int .i64 term], OwnS.nil_, rfl, fun _ h => by cases h⟩
theorem ints_sameP {A A' : Option Addr} {n m c c' : Nat} {xs ys : List Int} {w : World} (ha : Sl w w.heap.size A n (xs.map (Value.int .i64))) (hb : Sl w w.heap.size A' m (ys.map (Value.int .i64))) (hn : n ≤ 1000000) (he : xs = ys) :
    Calls Try.prog 23 #[.slice A n c, .slice A' m c'] w fun e w' => e = .returned (.bool true) ∧ Hid (Below w.heap.size w w') := by
  refine (ints_any A A' n m c c' xs ys w ha hb (by omega)).mono ?_
  rintro e w' ⟨rfl, hb⟩
  exact ⟨by rw [decide_eq_true he], hide hb⟩
theorem Sl.take_ {w : World} {B n : Nat} {A : Option Addr} {xs : List Value} (h : Sl w B A n xs) (k : Nat) (hk : k ≤ n) : Sl w B A k (xs.take k) :=
  ⟨by rw [List.length_take, h.1]; omega, fun hn => by
    obtain ⟨b, off, e, hlt, hc⟩ := h.2 (by omega)
    exact ⟨b, off, e, hlt, fun j p hp => hc j p (by
      rw [List.getElem?_take] at hp
      split at hp
      · exact hp
      · cases hp)⟩⟩
theorem holders_hP (g b1 b2 n : Nat) (N : ByteArray → Int → Option Int) (G : ByteArray → Int → Bool) (term short : Int) (fam : ByteArray) (A : Option Addr) (m c B : Nat) (ls : List Int) (now : Int) (w : World)
    (hd : DeskSt w g b1 b2 n N G term short) (hsl : Sl w B A m (ls.map (Value.int .i64))) (hB : B ≤ w.heap.size) (hls : ∀ z ∈ ls, I64 z) (hmm : m ≤ 1000000) (hn : n ≤ 1000000) (hf : fam.size ≤ maxLen) (hnow : I64 now) (hterm : I64 term) (hN : ∀ s e a, N s e = some a → I64 a)
    (r : Hold) (hr : holdI G fam now term N ls = r) :
    Calls Try.prog 12 #[.pointer (some ⟨g, 0, none⟩), .string fam, .slice A m c, .int .i64 now] w fun en w' => ∃ A2 c2, en = .returned (.slice A2 r.out.length c2) ∧ Hid (Own w' w.heap.size 3 A2 r.out.length c2 (r.out.map (Value.int .i64))) ∧ Hid (DeskSt w' g b1 b2 (n + m) r.N G term short) ∧ Hid (But (DB b1 b2) w w') := by
  refine (holders_any g b1 b2 n N G term short fam A m c ls now w hd (hsl.more hB) hls hmm hn hf hnow hterm hN).mono ?_
  rintro e w' ⟨A2, c2, he, ho, hd', hb⟩
  rw [hr] at he ho hd'
  exact ⟨A2, c2, he, hide ho, hide hd', hide hb⟩
theorem short_zero {t r x y : Int} (h : shortI t r = (x, y)) (hy : y ≠ 0) : x = 0 := by
  unfold shortI at h
  split at h
  · injection h with _ h; exact absurd h.symm hy
  · injection h with h _; exact h.symm
set_option maxHeartbeats 8000000 in
set_option maxRecDepth 100000 in
theorem plays_walk (term rho : Int) (A : Option Addr) (n c : Nat) (ps : List Stp) (w : World) (hterm : I64 term) (hrho : I64 rho) (hp : SlStep w w.heap.size A n ps) (hn : n ≤ 9223372036854775807) :
    Calls Try.prog 5 #[.int .i64 term, .int .i64 rho, .slice A n c] w fun e w' => e = .returned (.bool true) ∧ Below w.heap.size w w' := by
  have HP := hide hp
  clear hp
  obtain ⟨x, y, hs⟩ : ∃ x y, shortI term rho = (x, y) := ⟨_, _, rfl⟩
  have KS := hide (fun w => rshort_any term rho hrho w)
  rw [hs] at KS
  by_cases hy : y = 0
  · subst hy
    have KN := hide (new_ok hs)
    clear hs
    go_enter Try.func5, Try.ntmps5
    go_wp2_with fail
    refine (KN.out _).mono ?_
    rintro e w1 ⟨g, b1, b2, rfl, B1, Z, D1⟩
    go_wp2_with fail
    refine (KS.out _).mono ?_
    rintro e w' ⟨rfl, rfl⟩
    go_wp2_with fail
    refine (known_any _).mono ?_
    rintro e w2 ⟨rfl, hb⟩
    have D2 := hide (D1.out.below hb)
    have B2 := hide (B1.out.trans (hb.mono B1.out.size))
    clear hb D1 B1 KN KS
    go_wp2_with fail
    refine (term_any g b1 b2 0 _ _ term x _ D2.out).mono ?_
    rintro e w' ⟨rfl, rfl⟩
    go_wp2_with fail
    refine (dshort_any g b1 b2 0 _ _ term x _ D2.out).mono ?_
    rintro e w' ⟨rfl, rfl⟩
    go_wp2_with fail
    have HZ : Hid (w.heap.size ≤ w2.heap.size ∧ g < w2.heap.size ∧ b1 < w2.heap.size ∧ b2 < w2.heap.size) := hide ⟨B2.out.size, D2.out.row.lt, D2.out.notes.lt, D2.out.gone.lt⟩
    have BO : Hid (Both (w2.alloc (.cells #[.slice none 0 0, .int .i64 term] 52)) w2.heap.size g b1 b2 0 none 0 0 [] (fun _ _ => none) (fun _ _ => false) term x) := hide ⟨D2.out.below ((Below.refl _ _).alloc (Nat.le_refl _) _), box_desk w2 term, fun _ _ => rfl, fun _ _ => rfl, fun j hj => hj.elim (fun e => by omega) (fun e => by cases e), fun _ _ _ h => by cases h⟩
    have B3 := hide (B2.out.alloc B2.out.size (.cells #[.slice none 0 0, .int .i64 term] 52))
    obtain ⟨P, hP⟩ : ∃ P, P = w2.heap.size := ⟨_, rfl⟩
    have HPS : Hid (P ≤ (w2.alloc (.cells #[.slice none 0 0, .int .i64 term] 52)).heap.size) := hide (by rw [World.size_alloc]; omega)
    rw [← hP] at BO HZ ⊢
    clear D2 B2 hP
    go_loopw [12] (fun v12 wq => ∃ (i k : Nat) (A1 : Option Addr) (n1 c1 : Nat) (L1 : List RN) (N : ByteArray → Int → Option Int) (G : ByteArray → Int → Bool), i ≤ n ∧ i ≤ 60 ∧ v12 = .int .i64 i ∧ k ≤ 41 * i ∧ n1 ≤ 41 * i ∧ Hid (Both wq P g b1 b2 k A1 n1 c1 L1 N G term x) ∧ Hid (Below w.heap.size w wq) ∧ Hid (P ≤ wq.heap.size)) (fun v _ => n - (intOf v).toNat)
    case atStart => exact ⟨0, 0, none, 0, 0, [], _, _, by omega, by omega, rfl, by omega, by omega, BO, B3, HPS⟩
    case round =>
      clear BO B3 HPS
      obtain ⟨i, k, A1, n1, c1, L1, N, G, hi, hi6, rfl, hk, hn1, BO, B, HPS⟩ := hrel
      by_cases hlt : i < n ∧ i < 60
      · obtain ⟨hlt, hlt6⟩ := hlt
        obtain ⟨pb, po, p, rfl, hpb, hpi, hok, k0, k1, k2, k3, A4, ca, k4, hca, hsl⟩ := HP.out.at_ hlt
        have HOK := hide hok
        have HSL := hide hsl
        have c0 := (B.out.cell (p := ⟨pb, po + i * 5, none⟩) hpb).trans k0
        have c1' := (B.out.cell (p := ⟨pb, po + i * 5 + 1, none⟩) hpb).trans k1
        have c2 := (B.out.cell (p := ⟨pb, po + i * 5 + 2, none⟩) hpb).trans k2
        have c3 := (B.out.cell (p := ⟨pb, po + i * 5 + 3, none⟩) hpb).trans k3
        have c4 := (B.out.cell (p := ⟨pb, po + i * 5 + 4, none⟩) hpb).trans k4
        clear k0 k1 k2 k3 k4 hpi hok hsl
        obtain ⟨pk, pf, pe, pn, pl⟩ := p
        simp only at c0 c1' c2 c3 c4 hca HSL
        have hi1 : (i : Int) < (n : Int) := by omega
        have hi2 : (i : Int) < 60 := by omega
        have hi0 : (0 : Int) ≤ (i : Int) := by omega
        obtain ⟨T, hT⟩ : ∃ T, T = wr.heap.size := ⟨_, rfl⟩
        have HPT : Hid (P ≤ T) := hide (hT ▸ HPS.out)
        have HRB : Hid (∀ j, RB P A1 n1 c1 j → j < T) := hide (fun j hj => hT ▸ BO.out.r.lt j hj)
        go_upto_region 12 with (fail)
        rw [← hT]
        refine wp_world (fun X => Hid (Both X P g b1 b2 k A1 n1 c1 L1 N G term x) ∧ Hid (Below w.heap.size w X) ∧ Hid (RowV X T 31 [.int .i64 pk, .string pf, .int .i64 pe, .int .i64 pn, .slice A4 pl.length ca]) ∧ Hid (P ≤ X.heap.size)) ⟨hide (BO.out.below ((Below.refl wr.heap.size wr).alloc (Nat.le_refl _) _)), hide (B.out.alloc B.out.size _), hide (hT ▸ RowV.new wr _ _), hide (by have := HPS.out; rw [World.size_alloc]; omega)⟩ ?_
        clear BO B c0 c1' c2 c3 c4 hT HPS
        rintro X ⟨BO, B, R, HPX⟩
        have p0 := R.out.cell (k := 0) rfl
        have p1 := R.out.cell (k := 1) rfl
        have p2 := R.out.cell (k := 2) rfl
        have p3 := R.out.cell (k := 3) rfl
        have p4 := R.out.cell (k := 4) rfl
        rcases (by omega : pk = 0 ∨ pk = 1 ∨ pk = 2 ∨ pk = 3 ∨ (pk ≠ 0 ∧ pk ≠ 1 ∧ pk ≠ 2 ∧ pk ≠ 3)) with rfl | rfl | rfl | rfl | ⟨q0, q1, q2, q3⟩
        · go_wp2_with fail
          refine (note_any g b1 b2 k N G term x pf pe pn _ BO.out.d HOK.out.key (by unfold maxLen; omega)).mono ?_
          rintro e w4 ⟨rfl, hd, hb⟩
          have D4 := hide hd
          have R4 := hide (BO.out.r2 hb HZ.out.2.2.1 HZ.out.2.2.2)
          have T4 := hide (hb.row R.out (fun h => by have := HZ.out; have := HPT.out; rcases h with h | h <;> omega))
          have B4 := hide (below_desk B.out hb Z.out.2.1 Z.out.2.2)
          have S4 : Hid (X.heap.size ≤ w4.heap.size) := hide hb.size
          clear hd hb p0 p1 p2 p3 p4
          have p1 := T4.out.cell (k := 1) rfl
          have p2 := T4.out.cell (k := 2) rfl
          have p3 := T4.out.cell (k := 3) rfl
          go_wp2_with fail
          refine (rnote_any P n1 c1 A1 L1 term pf pe pn _ R4.out (by omega) HOK.out.now N G BO.out.eN BO.out.eG).mono ?_
          rintro e w5 ⟨rfl, A5, n5, c5, L5, hn5, hT⟩
          have B5 := hide (rturn_below B4.out hT BO.out.far (HZ.out.1))
          have BO5 := hide (BO.out.mk2 HPX.out D4.out S4.out hT HZ.out.2.1 HZ.out.2.2.1 HZ.out.2.2.2 (note_i64 BO.out.i64 HOK.out.now))
          have HP5 : Hid (P ≤ w5.heap.size) := hide (by have := hT.but.size; have := S4.out; have := HPX.out; omega)
          clear hT D4 R4 T4 B4 BO B R p1 p2 p3
          go_wp2_with fail
          go_roundw
          case rel => exact ⟨i + 1, k + 1, A5, n5, c5, L5, _, _, by omega, by omega, by go_num, by omega, by omega, BO5, B5, HP5⟩
          case measure => simp [intOf]; omega
        · go_wp2_with fail
          refine (ack_any g b1 b2 k N G term x pf pe _ BO.out.d HOK.out.key (by unfold maxLen; omega)).mono ?_
          rintro e w4 ⟨rfl, hd, hb⟩
          have D4 := hide hd
          have R4 := hide (BO.out.r2 hb HZ.out.2.2.1 HZ.out.2.2.2)
          have T4 := hide (hb.row R.out (fun h => by have := HZ.out; have := HPT.out; rcases h with h | h <;> omega))
          have B4 := hide (below_desk B.out hb Z.out.2.1 Z.out.2.2)
          have S4 : Hid (X.heap.size ≤ w4.heap.size) := hide hb.size
          clear hd hb p0 p1 p2 p3 p4
          have p1 := T4.out.cell (k := 1) rfl
          have p2 := T4.out.cell (k := 2) rfl
          go_wp2_with fail
          refine (rack_any P n1 c1 A1 L1 term pf pe _ R4.out (by omega) N G BO.out.eN BO.out.eG).mono ?_
          rintro e w5 ⟨rfl, A5, n5, c5, L5, hn5, hT⟩
          have B5 := hide (rturn_below B4.out hT BO.out.far (HZ.out.1))
          have BO5 := hide (BO.out.mk2 HPX.out D4.out S4.out hT HZ.out.2.1 HZ.out.2.2.1 HZ.out.2.2.2 BO.out.i64)
          have HP5 : Hid (P ≤ w5.heap.size) := hide (by have := hT.but.size; have := S4.out; have := HPX.out; omega)
          clear hT D4 R4 T4 B4 BO B R p1 p2
          go_wp2_with fail
          go_roundw
          case rel => exact ⟨i + 1, k + 1, A5, n5, c5, L5, _, _, by omega, by omega, by go_num, by omega, by omega, BO5, B5, HP5⟩
          case measure => simp [intOf]; omega
        · obtain ⟨pm, hpm⟩ : ∃ pm, pm = min pl.length 40 := ⟨_, rfl⟩
          obtain ⟨pls, hpls⟩ : ∃ pls, pls = pl.take pm := ⟨_, rfl⟩
          have HSL2 : Hid (Sl w w.heap.size A4 pm (pls.map (Value.int .i64))) := hide (by rw [hpls, List.map_take]; exact HSL.out.take_ pm (by omega))
          have HLS : Hid (∀ z ∈ pls, I64 z) := hide (fun z hz => HOK.out.ls z (List.mem_of_mem_take (hpls ▸ hz)))
          have hpm4 : pm ≤ 40 := by omega
          have HPM := hide hpm
          clear hpm hpls
          go_upto_if 116 with (fail)
          go_cut [14] (fun v14 wx => v14 = .slice A4 pm ca ∧ X = wx)
          case first =>
            by_cases h40 : 40 < pl.length
            · have h1 : (40 : Int) < (pl.length : Int) := by omega
              have h2 : (40 : Int) ≤ (ca : Int) := by omega
              have h3 : Hid (pm = 40) := hide (by have := HPM.out; omega)
              clear h40
              go_wp2_with fail
              go_meet
              rw [h3.out]
              exact ⟨rfl, rfl⟩
            · have h1 : ¬ ((40 : Int) < (pl.length : Int)) := by omega
              have h3 : Hid (pm = pl.length) := hide (by have := HPM.out; omega)
              clear h40
              go_wp2_with fail
              go_meet
              rw [h3.out]
              exact ⟨rfl, rfl⟩
          case rest =>
            obtain ⟨rfl, rfl⟩ := hcut
            obtain ⟨r, hr⟩ : ∃ r, holdI G pf pn term N pls = r := ⟨_, rfl⟩
            have HR := hide hr
            have HRI : Hid (∀ s e a, r.N s e = some a → I64 a) := hide (hr ▸ hold_i64 HOK.out.now BO.out.i64)
            have HRL : Hid (r.out.length ≤ 40) := hide (by
              have := holdI_len G pf pn term N pls
              rw [hr] at this
              have h2 : pls.length = pm := by simpa using HSL2.out.1
              omega)
            clear hr
            have hS0 : X.drew.cell? ⟨T, 1, none⟩ = some (.string pf) ∧ X.drew.cell? ⟨T, 3, none⟩ = some (.int .i64 pn) := ⟨p1, p3⟩
            have HTX : Hid (T < X.heap.size) := hide R.out.lt
            have K1 := hide (holders_hP g b1 b2 k N G term x pf A4 pm ca w.heap.size pls pn X.drew BO.out.d.drew (HSL2.out.below B.out (Nat.le_refl _)).drew B.out.size HLS.out (by omega) (by omega) HOK.out.fam HOK.out.now hterm BO.out.i64 r HR.out)
            have K2 := hide (fun (w5 : World) (hr5 : RDesk w5 P A1 n1 c1 L1 term) (hb5 : Below w.heap.size w w5) => rholders_any P n1 c1 A1 L1 term pf A4 pm ca pls pn w5 hr5 ((HSL2.out.below hb5 (Nat.le_refl _)).more hb5.size) (fun b o hb0 hA hrb => by
                     obtain ⟨b', o', h1, h2, _⟩ := HSL2.out.2 hb0
                     rw [hA] at h1; injection h1 with h1; injection h1 with h1 _ _
                     have := BO.out.far b hrb; have := HZ.out; omega) HLS.out (by omega) (by omega) HOK.out.now hterm N G BO.out.eN BO.out.eG)
            simp only [HR.out] at K2
            have K3 := hide (fun (w6 : World) (A5 A6 : Option Addr) (c5 c6 : Nat) (h1 : Sl w6 w6.heap.size A5 r.out.length (r.out.map (Value.int .i64))) (h2 : Sl w6 w6.heap.size A6 r.out.length (r.out.map (Value.int .i64))) => ints_sameP (c := c5) (c' := c6) h1 h2 (by have := HRL.out; omega) rfl)
            clear p0 p2 p4
            go_upto_region 23 with (fail)
            go_region_held3 (fun W => W.cell? ⟨T, 1, none⟩ = some (.string pf) ∧ W.cell? ⟨T, 3, none⟩ = some (.int .i64 pn))
              (first | with_reducible assumption | exact KS.out)
              (first
                | (go_at_call 12; with_reducible refine K1.out.mono ?_
                   rintro e5 w5 ⟨A5, c5, rfl, O5, D5, hb5⟩
                   have R5 := hide ((show Both X.drew P g b1 b2 k A1 n1 c1 L1 N G term x from ⟨BO.out.d.drew, ⟨BO.out.r.row, BO.out.r.own, BO.out.r.len, BO.out.r.at64⟩, BO.out.eN, BO.out.eG, BO.out.far, BO.out.i64⟩).r2 hb5.out HZ.out.2.2.1 HZ.out.2.2.2)
                   have B5 := hide (below_desk B.out.drew hb5.out Z.out.2.1 Z.out.2.2)
                   have T5 := hide (hb5.out.row R.out.drew (fun h => by have := HZ.out; have := HPT.out; rcases h with h | h <;> omega))
                   have S5 : Hid (X.heap.size ≤ w5.heap.size) := hide hb5.out.size
                   have KS : Hid (w5.cell? ⟨T, 1, none⟩ = some (.string pf) ∧ w5.cell? ⟨T, 3, none⟩ = some (.int .i64 pn)) := hide ⟨T5.out.cell (k := 1) rfl, T5.out.cell (k := 3) rfl⟩)
                | (go_at_call 24; with_reducible refine (K2.out w5 R5.out B5.out).mono ?_
                   rintro e6 w6 ⟨A6, c6, rfl, O6, A7, n7, c7, L7, hn7, T6⟩
                   have R6 := hide (T6.out.but.row T5.out (fun h => by have := HRB.out T h; omega))
                   have KS : Hid (w6.cell? ⟨T, 1, none⟩ = some (.string pf) ∧ w6.cell? ⟨T, 3, none⟩ = some (.int .i64 pn)) := hide ⟨R6.out.cell (k := 1) rfl, R6.out.cell (k := 3) rfl⟩
                   have O56 : Hid (Own w6 X.heap.size 3 A5 r.out.length c5 (r.out.map (Value.int .i64))) := hide (OwnS.but_row (OwnS.of_own O5.out) T6.out.but (fun j hj h => by have := HRB.out j h; have := O5.out.row_ge j hj; have := HTX.out; have e0 : X.drew.heap.size = X.heap.size := rfl; omega)))
                | (go_at_call 23; with_reducible refine (K3.out w6 A5 A6 c5 c6 O56.out.sl O6.out.sl).mono ?_
                   rintro e7 w7 ⟨rfl, hb7⟩
                   have R7 := hide (R6.out.below' hb7.out)
                   have KS : Hid (w7.cell? ⟨T, 1, none⟩ = some (.string pf) ∧ w7.cell? ⟨T, 3, none⟩ = some (.int .i64 pn)) := hide ⟨R7.out.cell (k := 1) rfl, R7.out.cell (k := 3) rfl⟩))
            all_goals
              have B7 := hide ((rturn_below B5.out T6.out BO.out.far HZ.out.1).trans (hb7.out.mono (rturn_below B5.out T6.out BO.out.far HZ.out.1).size))
              have BO7 := hide ((BO.out.mk2 HPX.out D5.out S5.out T6.out HZ.out.2.1 HZ.out.2.2.1 HZ.out.2.2.2 HRI.out).below hb7.out)
              have HP7 : Hid (P ≤ w7.heap.size) := hide (by have := hb7.out.size; have := T6.out.but.size; have := S5.out; have := HPX.out; omega)
              clear hS0 KS R7 R6 O56 T6 O6 T5 B5 R5 hb5 D5 O5 K1 K2 K3 BO B R p1 p3 hb7
              go_wp2_with fail
              go_roundw
              case rel => exact ⟨i + 1, k + pm, A7, n7, c7, L7, _, _, by omega, by omega, by go_num, by omega, by omega, BO7, B7, HP7⟩
              case measure => simp [intOf]; omega
        · go_wp2_with fail
          refine (forget_any g b1 b2 k N G term x pf _ BO.out.d).mono ?_
          rintro e w4 ⟨rfl, hd, hb⟩
          have D4 := hide hd
          have R4 := hide (BO.out.r2 hb HZ.out.2.2.1 HZ.out.2.2.2)
          have T4 := hide (hb.row R.out (fun h => by have := HZ.out; have := HPT.out; rcases h with h | h <;> omega))
          have B4 := hide (below_desk B.out hb Z.out.2.1 Z.out.2.2)
          have S4 : Hid (X.heap.size ≤ w4.heap.size) := hide hb.size
          clear hd hb p0 p1 p2 p3 p4
          have p1 := T4.out.cell (k := 1) rfl
          go_wp2_with fail
          refine (rforget_any P n1 c1 A1 L1 term pf _ R4.out (by omega) N G BO.out.eN BO.out.eG).mono ?_
          rintro e w5 ⟨rfl, A5, n5, c5, L5, hn5, hT⟩
          have B5 := hide (rturn_below B4.out hT BO.out.far (HZ.out.1))
          have BO5 := hide (BO.out.mk2 HPX.out D4.out S4.out hT HZ.out.2.1 HZ.out.2.2.1 HZ.out.2.2.2 (fun s' e a ha => by
            split at ha
            · cases ha
            · exact BO.out.i64 _ _ _ ha))
          have HP5 : Hid (P ≤ w5.heap.size) := hide (by have := hT.but.size; have := S4.out; have := HPX.out; omega)
          clear hT D4 R4 T4 B4 BO B R p1
          go_wp2_with fail
          go_roundw
          case rel => exact ⟨i + 1, k, A5, n5, c5, L5, _, _, by omega, by omega, by go_num, by omega, by omega, BO5, B5, HP5⟩
          case measure => simp [intOf]; omega
        · have q0b : (pk == 0) = false := by simpa using q0
          have q1b : (pk == 1) = false := by simpa using q1
          have q2b : (pk == 2) = false := by simpa using q2
          have q3b : (pk == 3) = false := by simpa using q3
          clear q0 q1 q2 q3
          go_wp2_with fail
          go_roundw
          case rel => exact ⟨i + 1, k, A1, n1, c1, L1, N, G, by omega, by omega, by go_num, by omega, by omega, BO, B, HPX⟩
          case measure => simp [intOf]; omega
      · have hor : ¬ ((i : Int) < (n : Int)) ∨ ((i : Int) < (n : Int) ∧ ¬ ((i : Int) < 60)) := by omega
        clear hlt
        rcases hor with h | ⟨h, h2⟩
        all_goals
          go_wp2_with fail
          go_ret
          exact ⟨rfl, B.out⟩
  · have hyb : (y != 0) = true := by simpa using hy
    have hyy : (y != y) = false := by simp
    have hx := short_zero hs hy
    subst hx
    have KN := hide (fun w => new_badP hs hy w)
    clear hs HP
    have ht : (0 = term) ∨ ((0 != term) = true) := by
      by_cases h : (0 : Int) = term
      · exact .inl h
      · exact .inr (by simpa using h)
    have hyf : (y == 0) = false := by simpa using hy
    have HW : Hid (Calls Try.prog 5 #[.int .i64 term, .int .i64 rho, .slice A n c] w fun e w' => e = .returned (.bool true) ∧ Below w.heap.size w w') := by
      rcases ht with rfl | ht
      all_goals
        clear hy
        refine hide ?_
        go_enter Try.func5, Try.ntmps5
        go_wp2_with fail
        refine (KN.out _).mono ?_
        rintro e w1 ⟨rfl, B1⟩
        go_wp2_with fail
        refine (KS.out _).mono ?_
        rintro e w' ⟨rfl, rfl⟩
        go_wp2_with fail
        refine (known_any _).mono ?_
        rintro e w2 ⟨rfl, hb⟩
        have B2 := hide (B1.out.trans (hb.mono B1.out.size))
        clear hb B1
        go_wp2_with fail
        refine (term_nil _).mono ?_
        rintro e w' ⟨rfl, rfl⟩
        go_wp2_with fail
        refine (dshort_nil _).mono ?_
        rintro e w' ⟨rfl, rfl⟩
        go_wp2_with fail
        go_ret
        exact ⟨rfl, B2.out⟩
    exact HW.out
end Go.Proofs.Ytjmgnojbegafiaa
