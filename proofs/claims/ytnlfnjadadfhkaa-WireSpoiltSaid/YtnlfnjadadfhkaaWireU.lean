/-
  The walks of the laws WireReads, WireInner.
-/
import Derived.Test.YtnlfnjadadfhkaaWireT
import Derived.Test.YtnlfnjadadfhkaaWireJ
import Derived.Deep.RegionHeld3
namespace Go.Proofs.Ytnlfnjadadfhkaa
open Go.RowKit
set_option linter.unusedVariables false

theorem Rd.wordsB_length (k : Nat) (rest : List UInt8) : (Rd.wordsB k rest).1.length ≤ k := by
  induction k generalizing rest with
  | zero => simp [Rd.wordsB]
  | succ k ih =>
    rw [Rd.wordsB]
    generalize Rd.wordB 0 rest = r
    obtain ⟨s, e, rs⟩ := r
    simp only
    split
    · simp
    · have := ih rs
      generalize Rd.wordsB k rs = x at this ⊢
      obtain ⟨l, e', r'⟩ := x
      simp only at this ⊢
      split
      · simp
      · simp; omega
theorem Rd.textsB_length (b : Int) (rest : List UInt8) : (Rd.textsB b rest).1.length ≤ 4096 := by
  have := Rd.numB_le b 4096 rest
  unfold Rd.textsB
  generalize Rd.numB b 4096 rest = r at this ⊢
  obtain ⟨n, e, rs⟩ := r
  simp only at this ⊢
  split
  · simp
  · have h := Rd.wordsB_length n rs; omega
theorem Rd.read_l (kind b : Int) (rest : List UInt8) : (Rd.read kind b rest).1.l.length ≤ 4096 := by
  have := Rd.textsB_length b rest
  unfold Rd.read
  split
  · simp
  split
  · simp
  split
  · simp
  split
  · simp
  split
  · exact this
  · simp
/-- the document's open refuses, or not -/
theorem Rd.open_range (f : List UInt8) : 0 ≤ Rd.open f ∧ Rd.open f ≤ 5 := by
  unfold Rd.open
  split
  · omega
  split
  · omega
  split
  · omega
  split
  · omega
  split <;> omega
theorem heldr_sl {w Y W : World} {A : Option Addr} {n : Nat} {bs : List UInt8} {R : Prop} (hD : Hid (SlB Y w.heap.size A n bs)) (hB : Hid (Below w.heap.size w Y)) (h : Below Y.heap.size Y W ∧ R) : SlB W W.heap.size A n bs :=
  ((hD.out.below (h.1.mono hB.out.size) (Nat.le_refl _)).more (Nat.le_trans hB.out.size h.1.size))
theorem bcell {W w1 : World} (hb : Below W.heap.size W w1) : (∀ b o, b < W.heap.size → w1.cell? ⟨b, o, none⟩ = W.cell? ⟨b, o, none⟩) ∧ (∀ b o, b < W.heap.size → w1.frozen? ⟨b, o, none⟩ = W.frozen? ⟨b, o, none⟩) :=
  ⟨fun b o h => hb.cell (p := ⟨b, o, none⟩) h, fun b o h => hb.frozen (p := ⟨b, o, none⟩) h⟩
theorem heldr_keep {Y X : World} {g kb o : Nat} {v0 v1 v2 v3 : Value} (q0 : Y.cell? ⟨g, 0, none⟩ = some v0) (q1 : Y.cell? ⟨g, 1, none⟩ = some v1) (q2 : Y.cell? ⟨g, 2, none⟩ = some v2) (kc : Y.cell? ⟨kb, o, none⟩ = some v3) (hg : g < Y.heap.size) (hk : kb < Y.heap.size) (hb : Below Y.heap.size Y X) :
    Below Y.heap.size Y X ∧ X.cell? ⟨g, 0, none⟩ = some v0 ∧ X.cell? ⟨g, 1, none⟩ = some v1 ∧ X.cell? ⟨g, 2, none⟩ = some v2 ∧ X.cell? ⟨kb, o, none⟩ = some v3 :=
  ⟨hb, (hb.cell (p := ⟨g, 0, none⟩) hg).trans q0, (hb.cell (p := ⟨g, 1, none⟩) hg).trans q1, (hb.cell (p := ⟨g, 2, none⟩) hg).trans q2, (hb.cell (p := ⟨kb, o, none⟩) hk).trans kc⟩
theorem heldr_call {Y W X : World} {R : Prop} (h : Below Y.heap.size Y W ∧ R) (hb : Below W.heap.size W X) : Below Y.heap.size Y X := h.1.trans (hb.mono h.1.size)
theorem heldr_alloc {Y W : World} {R : Prop} {o : Obj} (h : Below Y.heap.size Y W ∧ R) : Below Y.heap.size Y (W.alloc o) := h.1.alloc h.1.size _
theorem heldr_two {Y : World} {o o' : Obj} : Below Y.heap.size Y ((Y.alloc o).alloc o').drew := (((Below.refl _ _).alloc (Nat.le_refl _) _).alloc (by simp) _).drew
theorem heldr_alloc1 {Y W : World} {o : Obj} (h : Below Y.heap.size Y W) : Below Y.heap.size Y (W.alloc o) := h.alloc h.size _
theorem heldr_alloc2' {Y W : World} {o o' : Obj} (h : Below Y.heap.size Y W) : Below Y.heap.size Y ((W.alloc o).alloc o') := (h.alloc h.size _).alloc (by have := h.size; rw [World.size_alloc]; omega) _
/-- four cells are written -/
theorem put_rows {X : World} {g : Nat} {xs : List Value} (h : RowV X g 43 xs) (v0 v1 v2 v3 : Value) :
    RowV ((((X.setCell ⟨g, 0, none⟩ v0).setCell ⟨g, 1, none⟩ v1).setCell ⟨g, 2, none⟩ v2).setCell ⟨g, 3, none⟩ v3) g 43 ((((xs.set 0 v0).set 1 v1).set 2 v2).set 3 v3)
    ∧ (∀ g' T ys, g' ≠ g → RowV X g' T ys → RowV ((((X.setCell ⟨g, 0, none⟩ v0).setCell ⟨g, 1, none⟩ v1).setCell ⟨g, 2, none⟩ v2).setCell ⟨g, 3, none⟩ v3) g' T ys)
    ∧ (∀ A n zs, SlT X 9 A n zs → SlT ((((X.setCell ⟨g, 0, none⟩ v0).setCell ⟨g, 1, none⟩ v1).setCell ⟨g, 2, none⟩ v2).setCell ⟨g, 3, none⟩ v3) 9 A n zs)
    ∧ (∀ B Z, B ≤ g → Below B Z X → Below B Z ((((X.setCell ⟨g, 0, none⟩ v0).setCell ⟨g, 1, none⟩ v1).setCell ⟨g, 2, none⟩ v2).setCell ⟨g, 3, none⟩ v3)) :=
  ⟨(((h.set 0 v0).set 1 v1).set 2 v2).set 3 v3, fun g' T ys hne hr => (((hr.set_other hne).set_other hne).set_other hne).set_other hne,
    fun A n zs hs => (((hs.set h (by decide)).set (h.set 0 v0) (by decide)).set ((h.set 0 v0).set 1 v1) (by decide)).set (((h.set 0 v0).set 1 v1).set 2 v2) (by decide),
    fun B Z hB hb => (((hb.setCell (p := ⟨g, 0, none⟩) hB _).setCell (p := ⟨g, 1, none⟩) hB _).setCell (p := ⟨g, 2, none⟩) hB _).setCell (p := ⟨g, 3, none⟩) hB _⟩
/-- three cells are written -/
theorem rd_rows {X : World} {g : Nat} {xs : List Value} (h : RowV X g 53 xs) (v0 v1 v2 : Value) :
    RowV (((X.setCell ⟨g, 0, none⟩ v0).setCell ⟨g, 1, none⟩ v1).setCell ⟨g, 2, none⟩ v2) g 53 (((xs.set 0 v0).set 1 v1).set 2 v2)
    ∧ (∀ g' T ys, g' ≠ g → RowV X g' T ys → RowV (((X.setCell ⟨g, 0, none⟩ v0).setCell ⟨g, 1, none⟩ v1).setCell ⟨g, 2, none⟩ v2) g' T ys)
    ∧ (∀ A n zs, SlT X 9 A n zs → SlT (((X.setCell ⟨g, 0, none⟩ v0).setCell ⟨g, 1, none⟩ v1).setCell ⟨g, 2, none⟩ v2) 9 A n zs)
    ∧ (∀ B Z, B ≤ g → Below B Z X → Below B Z (((X.setCell ⟨g, 0, none⟩ v0).setCell ⟨g, 1, none⟩ v1).setCell ⟨g, 2, none⟩ v2)) :=
  ⟨((h.set 0 v0).set 1 v1).set 2 v2, fun g' T ys hne hr => ((hr.set_other hne).set_other hne).set_other hne,
    fun A n zs hs => ((hs.set h (by decide)).set (h.set 0 v0) (by decide)).set ((h.set 0 v0).set 1 v1) (by decide),
    fun B Z hB hb => ((hb.setCell (p := ⟨g, 0, none⟩) hB _).setCell (p := ⟨g, 1, none⟩) hB _).setCell (p := ⟨g, 2, none⟩) hB _⟩
set_option maxHeartbeats 4000000 in
set_option maxRecDepth 100000 in
theorem reads_walk (A : Option Addr) (n c : Nat) (f : List UInt8) (K : Option Addr) (m cK : Nat) (ks : List Int) (w : World) (hb : SlB w w.heap.size A n f) (hk : Sl w w.heap.size K m (ks.map (Value.int .i64))) (hnc : n ≤ c) (hn : n ≤ 9223372036854600000) (hc : c ≤ 9223372036854775807) (hm : m ≤ 9223372036854775807) :
    Calls Try.prog 6 #[.slice A n c, .slice K m cK] w fun e w' => e = .returned (.bool true) ∧ Below w.heap.size w w' := by
  have HB := hide hb; have HK := hide hk
  clear hb hk
  obtain ⟨o, ho⟩ : ∃ o, o = Rd.open f := ⟨_, rfl⟩
  obtain ⟨bs, hbs⟩ : ∃ bs, bs = f.drop 8 := ⟨_, rfl⟩
  have HR := hide (fun (X : World) (h : SlB X X.heap.size A n f) => ho ▸ hbs ▸ newreader_any A n c f X h hnc (by omega))
  have HD := hide (fun (X : World) (h : SlB X w.heap.size A n f) (hz : w.heap.size ≤ X.heap.size) => ho ▸ hbs ▸ dopen_any w.heap.size A n c f X h hz hnc (by omega))
  have HBSL : Hid (bs.length ≤ 9223372036854600000) := hide (by rw [hbs, List.length_drop, HB.out.len]; omega)
  clear ho hbs
  have HRPL := hide Rd.read_l
  go_enter Try.func6, Try.ntmps6
  go_wp2_with fail
  refine (HR.out _ HB.out).mono ?_
  rintro e w1 ⟨P, rfl, hb1, hcase⟩
  have B1 := hide hb1
  clear hb1 HR
  by_cases h0 : o = 0
  · obtain ⟨G, rfl, hG, hS⟩ : ∃ G, P = some ⟨G, 0, none⟩ ∧ w.heap.size ≤ G ∧ RSt w1 G 71 bs 0 := by
      rcases hcase with ⟨h, _⟩ | ⟨_, h⟩
      · exact absurd h0 h
      · exact h
    subst h0
    have S1 := hide hS
    clear hS hcase
    go_wp2_with fail
    refine (HD.out _ (HB.out.below B1.out (Nat.le_refl _)) B1.out.size).mono ?_
    rintro e w2 ⟨A8, m8, c8, rfl, hb2, hx0, hx1, hsp, hmc, hc8⟩
    have B2 := hide (B1.out.trans (hb2.mono B1.out.size))
    have S2 := hide (S1.out.below hb2)
    have D2 := hide ((hx1 rfl).below (hb2.mono B1.out.size) (Nat.le_refl _))
    have B1S : Hid (w.heap.size ≤ w2.heap.size) := hide B2.out.size
    have HSP := hide hsp
    clear hb2 hx0 hx1 S1 B1 HD hsp
    unfold RdVal
    go_wp2_with fail
    have hg := Nat.le_refl w2.heap.size
    refine calls_world (fun X => Hid (RowV X w2.heap.size 53 [.slice A8 m8 c8, .int .i64 0, .int .i64 0]) ∧ Hid (RSt X G 71 bs 0) ∧ Hid (Below w.heap.size w X) ∧ Hid (Below w2.heap.size w2 X)) ⟨hide (RowV.new w2 _ _), hide (S2.out.below ((Below.refl _ _).alloc (Nat.le_refl _) _)), hide (B2.out.alloc B2.out.size _), hide ((Below.refl _ _).alloc (Nat.le_refl _) _)⟩ ?_
    rintro X ⟨RX, SX, BX, BX2⟩
    refine (known_any X).mono ?_
    rintro e w3 ⟨rfl, hb3⟩
    have R3 := hide (RX.out.below' hb3); have S3 := hide (SX.out.below hb3); have B3 := hide (BX.out.trans (hb3.mono BX.out.size)); have D3 := hide (D2.out.below ((BX2.out.trans (hb3.mono BX2.out.size)).mono B1S.out) (Nat.le_refl _))
    have HGG : Hid (G ≠ w2.heap.size) := hide (by have := S2.out.lt; omega)
    clear RX SX BX BX2 hb3 B2 S2 D2
    have HGW : Hid (w.heap.size ≤ w2.heap.size) := B1S
    generalize w2.heap.size = g at R3 HGG HGW ⊢
    go_wp2_with fail
    go_loopw [9] (fun v9 wq => ∃ (i a : Nat) (b : Int), i ≤ m ∧ i ≤ 400 ∧ a ≤ m8 ∧ v9 = .int .i64 i ∧ Hid (RowV wq g 53 [.slice A8 m8 c8, .int .i64 (a : Int), .int .i64 b]) ∧ Hid (RSt wq G 71 (bs.drop a) b) ∧ Hid (Below w.heap.size w wq) ∧ Hid (SlB wq w.heap.size A8 m8 bs)) (fun v _ => 400 - (intOf v).toNat)
    case atStart => exact ⟨0, 0, 0, by omega, by omega, by omega, rfl, R3, S3, B3, D3⟩
    case round =>
      clear R3 S3 B3 D3
      obtain ⟨i, a, b, him, hi4, ham, rfl, R, S, B, D⟩ := hrel
      by_cases hgo : i < m ∧ i < 400
      · obtain ⟨hi1, hi2⟩ := hgo
        have g1 : (i : Int) < (m : Int) := by omega
        have g2 : (i : Int) < 400 := by omega
        have g0 : (0 : Int) ≤ (i : Int) := by omega
        obtain ⟨kb, ko, ku, rfl, hkb, hku, kc⟩ := (HK.out.below B.out (Nat.le_refl _)).at_ hi1
        obtain ⟨kk, hkk⟩ : ∃ kk, ks[i]? = some kk := by
          rw [List.getElem?_map] at hku
          cases h : ks[i]? with
          | none => rw [h] at hku; cases hku
          | some x => exact ⟨x, rfl⟩
        rw [List.getElem?_map, hkk] at hku
        injection hku with hku; subst hku
        clear hkk
        go_wp2_with fail
        refine (lread_any G kk (bs.drop a) b _ S.out (by rw [List.length_drop]; have := HBSL.out; omega)).mono ?_
        rintro e w4 ⟨cL, AL, rfl, ht, hs, hg4⟩
        have R4 := hide (R.out.only hg4 (fun h => HGG.out h.symm))
        have S4 := hide hs; have T4 := hide ht
        have D4 := hide (D.out.below (below_of_grown (B := w.heap.size) (Below.refl _ wr) hg4 B.out.size (fun k hk => by injection hk with hk; subst hk; exact hG)) (Nat.le_refl _))
        have B4 := hide (below_of_grown B.out hg4 B.out.size (fun k hk => by injection hk with hk; subst hk; exact hG))
        clear hs ht
        have kc4 := ((below_of_grown (B := w.heap.size) (Below.refl _ wr) hg4 B.out.size (fun k hk => by injection hk with hk; subst hk; exact hG)).cell (p := ⟨kb, ko + i, none⟩) hkb).trans kc
        have GL := hide S4.out.lt
        clear kc hg4 S R B D
        have HDR := hide (fun (X : World) (h : SlB X X.heap.size A8 m8 bs) => dread_any A8 m8 c8 a b kk bs X h HSP.out hmc ham (by have := HBSL.out; have := D4.out.len; omega) hc8)
        obtain ⟨res, hres⟩ : ∃ res, res = Rd.read kk b (bs.drop a) := ⟨_, rfl⟩
        rw [← hres] at S4 T4 HDR ⊢
        have HPL := hide (show res.1.l.length ≤ 9223372036854775807 by have := HRPL.out kk b (bs.drop a); rw [← hres] at this; omega)
        clear hres
        obtain ⟨⟨pk, pn, ps, pl⟩, e, rs⟩ := res
        simp only at S4 T4 HPL ⊢
        unfold Put.val
        go_upto_region 9 with (fail)
        unfold RdVal at HDR
        refine wp_world (fun Y => Hid (RowV Y g 53 [.slice A8 m8 c8, .int .i64 (a : Int), .int .i64 b]) ∧ Hid (RSt Y G 71 rs e) ∧ Hid (SlB Y w.heap.size A8 m8 bs) ∧ Hid (Below w.heap.size w Y) ∧ Hid (RowV Y w4.heap.size 43 [.int .i64 pk, .int .i64 pn, .string ps, .slice AL pl.length cL]) ∧ Hid (SlT Y 9 AL pl.length (pl.map Value.string)) ∧ Hid (Y.cell? ⟨kb, ko + i, none⟩ = some (.int .i64 kk)))
          ⟨hide (R4.out.alloc _), hide (S4.out.below ((Below.refl _ _).alloc (Nat.le_refl _) _)), hide (D4.out.below ((Below.refl _ _).alloc B4.out.size _) (Nat.le_refl _)), hide (B4.out.alloc B4.out.size _), hide (RowV.new w4 _ _), hide (T4.out.below ((Below.refl _ _).alloc (Nat.le_refl _) _)), hide ((World.cell?_alloc_lt w4 _ _ (Nat.lt_of_lt_of_le hkb B4.out.size)).trans kc4)⟩ ?_
        rintro Y ⟨R5, S5, D5, B5, P5, T5, K5⟩
        clear R4 S4 D4 B4 T4 kc4 GL
        generalize w4.heap.size = g10 at P5 ⊢
        go_cut [11, 12] (fun v11 v12 wx => ∃ (g11 g12 a' cL' : Nat) (AL' : Option Addr), v11 = .pointer (some ⟨g11, 0, none⟩) ∧ v12 = .pointer (some ⟨g12, 0, none⟩) ∧ a' ≤ m8 ∧ Hid (bs.drop a' = rs) ∧ Hid (RowV wx g11 43 [.int .i64 pk, .int .i64 pn, .string ps, .slice AL' pl.length cL']) ∧ Hid (RowV wx g12 53 [.slice A8 m8 c8, .int .i64 (a' : Int), .int .i64 e]) ∧ Hid (SlT wx 9 AL' pl.length (pl.map Value.string)) ∧ Hid (Below Y.heap.size Y wx))
        case first =>
          have q0 := R5.out.cell (k := 0) rfl
          have q1 := R5.out.cell (k := 1) rfl
          have q2 := R5.out.cell (k := 2) rfl
          have kc := K5.out
          have hg : g < Y.heap.size := R5.out.lt
          have hkY : kb < Y.heap.size := Nat.lt_of_lt_of_le hkb B5.out.size
          have hS0 : Below Y.heap.size Y Y.drew ∧ Y.drew.cell? ⟨g, 0, none⟩ = some (.slice A8 m8 c8) ∧ Y.drew.cell? ⟨g, 1, none⟩ = some (.int .i64 (a : Int)) ∧ Y.drew.cell? ⟨g, 2, none⟩ = some (.int .i64 b) ∧ Y.drew.cell? ⟨kb, ko + i, none⟩ = some (.int .i64 kk) := ⟨(Below.refl _ _).drew, q0, q1, q2, kc⟩
          go_region_held3 (fun W => Below Y.heap.size Y W ∧ W.cell? ⟨g, 0, none⟩ = some (.slice A8 m8 c8) ∧ W.cell? ⟨g, 1, none⟩ = some (.int .i64 (a : Int)) ∧ W.cell? ⟨g, 2, none⟩ = some (.int .i64 b) ∧ W.cell? ⟨kb, ko + i, none⟩ = some (.int .i64 kk))
            (first
              | with_reducible assumption
              | exact heldr_keep q0 q1 q2 kc hg hkY (by with_reducible exact ((Below.refl _ _).alloc (Nat.le_refl _) _).drew)
              | exact heldr_keep q0 q1 q2 kc hg hkY (by with_reducible exact heldr_two)
              | (with_reducible refine heldr_keep q0 q1 q2 kc hg hkY ?_
                 repeat (with_reducible refine Below.setCell ?_ ?_ _)
                 all_goals (first
                   | with_reducible exact heldr_call (by with_reducible assumption) hb
                   | with_reducible exact HW2.out
                   | with_reducible exact heldr_alloc1 HW2.out
                   | with_reducible exact heldr_alloc2' HW2.out
                   | with_reducible exact heldr_alloc (by with_reducible assumption)
                   | exact Nat.le_refl _
                   | exact Nat.le_succ _
                   | exact HZ2.out)))
            (first
              | (go_at_call 24; with_reducible refine (HDR.out _ ?h1).mono ?_
                 case h1 => exact heldr_sl D5 B5 (by assumption)
                 rintro e2 w2 ⟨a', cL', AL', ha', hd', rfl, hsl', hb⟩
                 have HW2 := hide (heldr_call (by assumption) hb)
                 have HZ2 := hide HW2.out.size
                 have nP : RowV w2 (Y.heap.size) 43 [.int .i64 0, .int .i64 0, .string ByteArray.empty, .slice none 0 0] := (hb.block _ (by simp only [World.size_drew, World.size_alloc]; omega)).trans (((RowV.new Y 43 [.int .i64 0, .int .i64 0, .string ByteArray.empty, .slice none 0 0]).alloc (.cells #[.slice none 0 0, .int .i64 0, .int .i64 0] 53)))
                 have nPc0 := nP.cell (k := 0) rfl
                 have nPf0 := nP.free 0
                 have nPk0 : ∀ o : Obj, (w2.alloc o).cell? _ = some _ := fun o => (nP.alloc o).cell (k := 0) rfl
                 have nPg0 : ∀ o : Obj, (w2.alloc o).frozen? _ = false := fun o => (nP.alloc o).free 0
                 have nPc1 := nP.cell (k := 1) rfl
                 have nPf1 := nP.free 1
                 have nPk1 : ∀ o : Obj, (w2.alloc o).cell? _ = some _ := fun o => (nP.alloc o).cell (k := 1) rfl
                 have nPg1 : ∀ o : Obj, (w2.alloc o).frozen? _ = false := fun o => (nP.alloc o).free 1
                 have nPc2 := nP.cell (k := 2) rfl
                 have nPf2 := nP.free 2
                 have nPk2 : ∀ o : Obj, (w2.alloc o).cell? _ = some _ := fun o => (nP.alloc o).cell (k := 2) rfl
                 have nPg2 : ∀ o : Obj, (w2.alloc o).frozen? _ = false := fun o => (nP.alloc o).free 2
                 have nPc3 := nP.cell (k := 3) rfl
                 have nPf3 := nP.free 3
                 have nPk3 : ∀ o : Obj, (w2.alloc o).cell? _ = some _ := fun o => (nP.alloc o).cell (k := 3) rfl
                 have nPg3 : ∀ o : Obj, (w2.alloc o).frozen? _ = false := fun o => (nP.alloc o).free 3
                 have nR : RowV w2 (Y.heap.size + 1) 53 [.slice none 0 0, .int .i64 0, .int .i64 0] := (hb.block _ (by simp only [World.size_drew, World.size_alloc]; omega)).trans (heap_alloc2_new Y (.cells #[.int .i64 0, .int .i64 0, .string ByteArray.empty, .slice none 0 0] 43) (.cells #[.slice none 0 0, .int .i64 0, .int .i64 0] 53))
                 have nRc0 := nR.cell (k := 0) rfl
                 have nRf0 := nR.free 0
                 have nRk0 : ∀ o : Obj, (w2.alloc o).cell? _ = some _ := fun o => (nR.alloc o).cell (k := 0) rfl
                 have nRg0 : ∀ o : Obj, (w2.alloc o).frozen? _ = false := fun o => (nR.alloc o).free 0
                 have nRc1 := nR.cell (k := 1) rfl
                 have nRf1 := nR.free 1
                 have nRk1 : ∀ o : Obj, (w2.alloc o).cell? _ = some _ := fun o => (nR.alloc o).cell (k := 1) rfl
                 have nRg1 : ∀ o : Obj, (w2.alloc o).frozen? _ = false := fun o => (nR.alloc o).free 1
                 have nRc2 := nR.cell (k := 2) rfl
                 have nRf2 := nR.free 2
                 have nRk2 : ∀ o : Obj, (w2.alloc o).cell? _ = some _ := fun o => (nR.alloc o).cell (k := 2) rfl
                 have nRg2 : ∀ o : Obj, (w2.alloc o).frozen? _ = false := fun o => (nR.alloc o).free 2
                 unfold RdVal Put.val)
              | (go_at_call 24; with_reducible refine (HDR.out _ ?h1).mono ?_
                 case h1 => exact heldr_sl D5 B5 (by assumption)
                 rintro e2 w2 ⟨a', cL', AL', ha', hd', rfl, hsl', hb⟩
                 have HW2 := hide (heldr_call (by assumption) hb)
                 have HZ2 := hide HW2.out.size
                 have nR : RowV w2 (Y.heap.size) 53 [.slice none 0 0, .int .i64 0, .int .i64 0] := (hb.block _ (by simp only [World.size_drew, World.size_alloc]; omega)).trans (((RowV.new Y 53 [.slice none 0 0, .int .i64 0, .int .i64 0]).alloc (.cells #[.int .i64 0, .int .i64 0, .string ByteArray.empty, .slice none 0 0] 43)))
                 have nRc0 := nR.cell (k := 0) rfl
                 have nRf0 := nR.free 0
                 have nRk0 : ∀ o : Obj, (w2.alloc o).cell? _ = some _ := fun o => (nR.alloc o).cell (k := 0) rfl
                 have nRg0 : ∀ o : Obj, (w2.alloc o).frozen? _ = false := fun o => (nR.alloc o).free 0
                 have nRc1 := nR.cell (k := 1) rfl
                 have nRf1 := nR.free 1
                 have nRk1 : ∀ o : Obj, (w2.alloc o).cell? _ = some _ := fun o => (nR.alloc o).cell (k := 1) rfl
                 have nRg1 : ∀ o : Obj, (w2.alloc o).frozen? _ = false := fun o => (nR.alloc o).free 1
                 have nRc2 := nR.cell (k := 2) rfl
                 have nRf2 := nR.free 2
                 have nRk2 : ∀ o : Obj, (w2.alloc o).cell? _ = some _ := fun o => (nR.alloc o).cell (k := 2) rfl
                 have nRg2 : ∀ o : Obj, (w2.alloc o).frozen? _ = false := fun o => (nR.alloc o).free 2
                 have nP : RowV w2 (Y.heap.size + 1) 43 [.int .i64 0, .int .i64 0, .string ByteArray.empty, .slice none 0 0] := (hb.block _ (by simp only [World.size_drew, World.size_alloc]; omega)).trans (heap_alloc2_new Y (.cells #[.slice none 0 0, .int .i64 0, .int .i64 0] 53) (.cells #[.int .i64 0, .int .i64 0, .string ByteArray.empty, .slice none 0 0] 43))
                 have nPc0 := nP.cell (k := 0) rfl
                 have nPf0 := nP.free 0
                 have nPk0 : ∀ o : Obj, (w2.alloc o).cell? _ = some _ := fun o => (nP.alloc o).cell (k := 0) rfl
                 have nPg0 : ∀ o : Obj, (w2.alloc o).frozen? _ = false := fun o => (nP.alloc o).free 0
                 have nPc1 := nP.cell (k := 1) rfl
                 have nPf1 := nP.free 1
                 have nPk1 : ∀ o : Obj, (w2.alloc o).cell? _ = some _ := fun o => (nP.alloc o).cell (k := 1) rfl
                 have nPg1 : ∀ o : Obj, (w2.alloc o).frozen? _ = false := fun o => (nP.alloc o).free 1
                 have nPc2 := nP.cell (k := 2) rfl
                 have nPf2 := nP.free 2
                 have nPk2 : ∀ o : Obj, (w2.alloc o).cell? _ = some _ := fun o => (nP.alloc o).cell (k := 2) rfl
                 have nPg2 : ∀ o : Obj, (w2.alloc o).frozen? _ = false := fun o => (nP.alloc o).free 2
                 have nPc3 := nP.cell (k := 3) rfl
                 have nPf3 := nP.free 3
                 have nPk3 : ∀ o : Obj, (w2.alloc o).cell? _ = some _ := fun o => (nP.alloc o).cell (k := 3) rfl
                 have nPg3 : ∀ o : Obj, (w2.alloc o).frozen? _ = false := fun o => (nP.alloc o).free 3
                 unfold RdVal Put.val)
              | (go_at_call 24; with_reducible refine (HDR.out _ ?h1).mono ?_
                 case h1 => exact heldr_sl D5 B5 (by assumption)
                 rintro e2 w2 ⟨a', cL', AL', ha', hd', rfl, hsl', hb⟩
                 have HW2 := hide (heldr_call (by assumption) hb)
                 have HZ2 := hide HW2.out.size
                 have hzz := hb.size
                 rw [World.size_drew, World.size_alloc] at hzz
                 have ne1 : Y.heap.size ≠ w2.heap.size := by omega
                 have ne2 : w2.heap.size ≠ Y.heap.size := by omega
                 clear hzz
                 have nP : RowV w2 (Y.heap.size) 43 [.int .i64 0, .int .i64 0, .string ByteArray.empty, .slice none 0 0] := (hb.block _ (by simp only [World.size_drew, World.size_alloc]; omega)).trans ((RowV.new Y 43 [.int .i64 0, .int .i64 0, .string ByteArray.empty, .slice none 0 0]))
                 have nPc0 := nP.cell (k := 0) rfl
                 have nPf0 := nP.free 0
                 have nPk0 : ∀ o : Obj, (w2.alloc o).cell? _ = some _ := fun o => (nP.alloc o).cell (k := 0) rfl
                 have nPg0 : ∀ o : Obj, (w2.alloc o).frozen? _ = false := fun o => (nP.alloc o).free 0
                 have nPc1 := nP.cell (k := 1) rfl
                 have nPf1 := nP.free 1
                 have nPk1 : ∀ o : Obj, (w2.alloc o).cell? _ = some _ := fun o => (nP.alloc o).cell (k := 1) rfl
                 have nPg1 : ∀ o : Obj, (w2.alloc o).frozen? _ = false := fun o => (nP.alloc o).free 1
                 have nPc2 := nP.cell (k := 2) rfl
                 have nPf2 := nP.free 2
                 have nPk2 : ∀ o : Obj, (w2.alloc o).cell? _ = some _ := fun o => (nP.alloc o).cell (k := 2) rfl
                 have nPg2 : ∀ o : Obj, (w2.alloc o).frozen? _ = false := fun o => (nP.alloc o).free 2
                 have nPc3 := nP.cell (k := 3) rfl
                 have nPf3 := nP.free 3
                 have nPk3 : ∀ o : Obj, (w2.alloc o).cell? _ = some _ := fun o => (nP.alloc o).cell (k := 3) rfl
                 have nPg3 : ∀ o : Obj, (w2.alloc o).frozen? _ = false := fun o => (nP.alloc o).free 3
                 unfold RdVal Put.val)
              | (go_at_call 24; with_reducible refine (HDR.out _ ?h1).mono ?_
                 case h1 => exact heldr_sl D5 B5 (by assumption)
                 rintro e2 w2 ⟨a', cL', AL', ha', hd', rfl, hsl', hb⟩
                 have HW2 := hide (heldr_call (by assumption) hb)
                 have HZ2 := hide HW2.out.size
                 have hzz := hb.size
                 rw [World.size_drew, World.size_alloc] at hzz
                 have ne1 : Y.heap.size ≠ w2.heap.size := by omega
                 have ne2 : w2.heap.size ≠ Y.heap.size := by omega
                 clear hzz
                 have nR : RowV w2 (Y.heap.size) 53 [.slice none 0 0, .int .i64 0, .int .i64 0] := (hb.block _ (by simp only [World.size_drew, World.size_alloc]; omega)).trans ((RowV.new Y 53 [.slice none 0 0, .int .i64 0, .int .i64 0]))
                 have nRc0 := nR.cell (k := 0) rfl
                 have nRf0 := nR.free 0
                 have nRk0 : ∀ o : Obj, (w2.alloc o).cell? _ = some _ := fun o => (nR.alloc o).cell (k := 0) rfl
                 have nRg0 : ∀ o : Obj, (w2.alloc o).frozen? _ = false := fun o => (nR.alloc o).free 0
                 have nRc1 := nR.cell (k := 1) rfl
                 have nRf1 := nR.free 1
                 have nRk1 : ∀ o : Obj, (w2.alloc o).cell? _ = some _ := fun o => (nR.alloc o).cell (k := 1) rfl
                 have nRg1 : ∀ o : Obj, (w2.alloc o).frozen? _ = false := fun o => (nR.alloc o).free 1
                 have nRc2 := nR.cell (k := 2) rfl
                 have nRf2 := nR.free 2
                 have nRk2 : ∀ o : Obj, (w2.alloc o).cell? _ = some _ := fun o => (nR.alloc o).cell (k := 2) rfl
                 have nRg2 : ∀ o : Obj, (w2.alloc o).frozen? _ = false := fun o => (nR.alloc o).free 2
                 unfold RdVal Put.val)
              | (go_at_call 24; with_reducible refine (HDR.out _ ?h1).mono ?_
                 case h1 => exact heldr_sl D5 B5 (by assumption)
                 rintro e2 w2 ⟨a', cL', AL', ha', hd', rfl, hsl', hb⟩
                 have HW2 := hide (heldr_call (by assumption) hb)
                 have HZ2 := hide HW2.out.size
                 unfold RdVal Put.val))
          · go_wp2_with fail
            go_meet
            case rel => exact ⟨_, _, a', cL', AL', rfl, rfl, ha', hide hd', hide ((RowV.new w2 _ _).alloc _), hide (heap_alloc2_new w2 _ _), hide (hsl'.below (((Below.refl _ _).alloc (Nat.le_refl _) _).alloc (by simp) _)), hide (heldr_alloc2' HW2.out)⟩
          · go_wp2_with fail
            go_meet
            case rel => exact ⟨_, _, a', cL', AL', rfl, rfl, ha', hide hd', hide (heap_alloc2_new w2 _ _), hide ((RowV.new w2 _ _).alloc _), hide (hsl'.below (((Below.refl _ _).alloc (Nat.le_refl _) _).alloc (by simp) _)), hide (heldr_alloc2' HW2.out)⟩
          · have hP := put_rows (nP.alloc (.cells #[.slice none 0 0, .int .i64 0, .int .i64 0] 53)) (.int .i64 pk) (.int .i64 pn) (.string ps) (.slice AL' pl.length cL')
            have hR := rd_rows (hP.2.1 _ _ _ ne2 (RowV.new w2 53 [.slice none 0 0, .int .i64 0, .int .i64 0])) (.slice A8 m8 c8) (.int .i64 (a' : Int)) (.int .i64 e)
            have HP := hide (hR.2.1 _ _ _ ne1 hP.1); have HRr := hide hR.1; have HT := hide (hR.2.2.1 _ _ _ (hP.2.2.1 _ _ _ (hsl'.below ((Below.refl _ _).alloc (Nat.le_refl _) _)))); have HBB := hide (hR.2.2.2 _ _ HZ2.out (hP.2.2.2 _ _ (Nat.le_refl _) (heldr_alloc1 HW2.out)))
            clear hP hR
            go_wp2_with fail
            go_meet
            case rel => exact ⟨_, _, a', cL', AL', rfl, rfl, ha', hide hd', HP, HRr, HT, HBB⟩
          · have hP := put_rows nP (.int .i64 pk) (.int .i64 pn) (.string ps) (.slice AL' pl.length cL')
            have hR := rd_rows (hP.2.1 _ _ _ (by omega) nR) (.slice A8 m8 c8) (.int .i64 (a' : Int)) (.int .i64 e)
            have HP := hide (hR.2.1 _ _ _ (by omega) hP.1); have HRr := hide hR.1; have HT := hide (hR.2.2.1 _ _ _ (hP.2.2.1 _ _ _ hsl')); have HBB := hide (hR.2.2.2 _ _ (Nat.le_succ _) (hP.2.2.2 _ _ (Nat.le_refl _) HW2.out))
            clear hP hR
            go_wp2_with fail
            go_meet
            case rel => exact ⟨_, _, a', cL', AL', rfl, rfl, ha', hide hd', HP, HRr, HT, HBB⟩
          · have hR := rd_rows (nR.alloc (.cells #[.int .i64 pk, .int .i64 pn, .string ps, .slice AL' pl.length cL'] 43)) (.slice A8 m8 c8) (.int .i64 (a' : Int)) (.int .i64 e)
            have HP := hide (hR.2.1 _ _ _ ne2 (RowV.new w2 43 [.int .i64 pk, .int .i64 pn, .string ps, .slice AL' pl.length cL'])); have HRr := hide hR.1; have HT := hide (hR.2.2.1 _ _ _ (hsl'.below ((Below.refl _ _).alloc (Nat.le_refl _) _))); have HBB := hide (hR.2.2.2 _ _ (Nat.le_refl _) (heldr_alloc1 HW2.out))
            clear hR
            go_wp2_with fail
            go_meet
            case rel => exact ⟨_, _, a', cL', AL', rfl, rfl, ha', hide hd', HP, HRr, HT, HBB⟩
          · have hP := put_rows nP (.int .i64 pk) (.int .i64 pn) (.string ps) (.slice AL' pl.length cL')
            have hR := rd_rows (hP.2.1 _ _ _ (by omega) nR) (.slice A8 m8 c8) (.int .i64 (a' : Int)) (.int .i64 e)
            have HP := hide (hR.2.1 _ _ _ (by omega) hP.1); have HRr := hide hR.1; have HT := hide (hR.2.2.1 _ _ _ (hP.2.2.1 _ _ _ hsl')); have HBB := hide (hR.2.2.2 _ _ (Nat.le_refl _) (hP.2.2.2 _ _ (Nat.le_succ _) HW2.out))
            clear hP hR
            go_wp2_with fail
            go_meet
            case rel => exact ⟨_, _, a', cL', AL', rfl, rfl, ha', hide hd', HP, HRr, HT, HBB⟩
        case rest =>
          obtain ⟨g11, g12, a', cL', AL', rfl, rfl, ha', HDD, H11, H12, HT', HBY⟩ := hcut
          have R6 := hide (R5.out.below' HBY.out); have S6 := hide (S5.out.below HBY.out); have B6 := hide (B5.out.trans (HBY.out.mono B5.out.size)); have D6 := hide (D5.out.below (HBY.out.mono B5.out.size) (Nat.le_refl _)); have P6 := hide (P5.out.below' HBY.out); have T6 := hide (T5.out.below HBY.out)
          have hg10 : Hid (g ≠ g10) := hide (by
            intro h; subst h
            have h1 := R5.out; have h2 := P5.out
            unfold RowV at h1 h2
            rw [h1] at h2; injection h2 with h2; injection h2 with _ h2 _; exact absurd h2 (by decide))
          have hg11 : Hid (g11 ≠ g) := hide (by
            intro h; subst h
            have h1 := R6.out; have h2 := H11.out
            unfold RowV at h1 h2
            rw [h1] at h2; injection h2 with h2; injection h2 with _ h2 _; exact absurd h2 (by decide))
          clear R5 S5 B5 D5 P5 T5 HBY HDR K5
          have x0 := H12.out.cell (k := 0) rfl
          have x1 := H12.out.cell (k := 1) rfl
          have x2 := H12.out.cell (k := 2) rfl
          have q0 := R6.out.cell (k := 0) rfl
          have q1 := R6.out.cell (k := 1) rfl
          have q2 := R6.out.cell (k := 2) rfl
          have f0 := R6.out.free 0
          have f1 := R6.out.free 1
          have f2 := R6.out.free 2
          have hR := rd_rows R6.out (.slice A8 m8 c8) (.int .i64 (a' : Int)) (.int .i64 e)
          have HGL := S6.out.lt
          have R7 := hide hR.1
          have S7 := hide (((S6.out.set_other R6.out HGG.out (by decide) (k := 0) (v := .slice A8 m8 c8)).set_other (R6.out.set 0 (.slice A8 m8 c8)) HGG.out (by decide) (k := 1) (v := .int .i64 (a' : Int))).set_other ((R6.out.set 0 (.slice A8 m8 c8)).set 1 (.int .i64 (a' : Int))) HGG.out (by decide) (k := 2) (v := .int .i64 e))
          have P7 := hide (hR.2.1 _ _ _ hg10.out.symm P6.out)
          have Q7 := hide (hR.2.1 _ _ _ hg11.out H11.out)
          have T7 := hide (hR.2.2.1 _ _ _ T6.out); have U7 := hide (hR.2.2.1 _ _ _ HT'.out)
          have hBg : w.heap.size ≤ g := HGW.out
          have B7 := hide (hR.2.2.2 _ _ hBg B6.out)
          have D7 := hide (D6.out.below (hR.2.2.2 _ _ hBg (Below.refl w.heap.size wc)) (Nat.le_refl _))
          clear hR hBg HGL
          go_upto_region 11 with (fail)
          refine wp_world (fun Z => Hid (RowV Z g 53 [.slice A8 m8 c8, .int .i64 (a' : Int), .int .i64 e]) ∧ Hid (RSt Z G 71 rs e) ∧ Hid (RowV Z g10 43 [.int .i64 pk, .int .i64 pn, .string ps, .slice AL pl.length cL]) ∧ Hid (RowV Z g11 43 [.int .i64 pk, .int .i64 pn, .string ps, .slice AL' pl.length cL']) ∧ Hid (SlT Z 9 AL pl.length (pl.map Value.string)) ∧ Hid (SlT Z 9 AL' pl.length (pl.map Value.string)) ∧ Hid (Below w.heap.size w Z) ∧ Hid (SlB Z w.heap.size A8 m8 bs)) ⟨R7, S7, P7, Q7, T7, U7, B7, D7⟩ ?_
          clear R7 S7 P7 Q7 T7 U7 B7 D7 R6 S6 P6 H11 H12 T6 HT' B6 D6 x0 x1 x2 q0 q1 q2 f0 f1 f2
          rintro Z ⟨R8, S8, P8, Q8, T8, U8, B8, D8⟩
          have x0 := P8.out.cell (k := 0) rfl
          have x1 := P8.out.cell (k := 1) rfl
          have x2 := P8.out.cell (k := 2) rfl
          have x3 := P8.out.cell (k := 3) rfl
          have y0 := Q8.out.cell (k := 0) rfl
          have y1 := Q8.out.cell (k := 1) rfl
          have y2 := Q8.out.cell (k := 2) rfl
          have y3 := Q8.out.cell (k := 3) rfl
          have HSM := hide (psame_any ⟨pk, pn, ps, pl⟩ AL AL' cL cL' Z T8.out.sl U8.out.sl HPL.out)
          unfold Put.val at HSM
          go_wp2_with fail
          refine HSM.out.mono ?_
          rintro e9 w9 ⟨rfl, hb9⟩
          have R9 := hide (R8.out.below' hb9); have S9 := hide (S8.out.below hb9); have B9 := hide (B8.out.trans (hb9.mono B8.out.size)); have D9 := hide (D8.out.below (hb9.mono B8.out.size) (Nat.le_refl _))
          clear R8 S8 B8 D8 P8 Q8 T8 U8 hb9 HSM x0 x1 x2 x3 y0 y1 y2 y3
          go_wp2_with fail
          go_roundw
          case rel => exact ⟨i + 1, a', e, by omega, by omega, ha', by go_num, R9, by rw [HDD.out]; exact S9, B9, D9⟩
          case measure => simp [intOf]; omega
      · have HEND := hide (fun p : Ext wr => dend_any A8 m8 c8 a b bs (extW wr p) D.out.len ham)
        have HREN := hide (fun p : Ext wr => rend_any G (bs.drop a) b (extW wr p) (S.out.below (extW_below wr p)))
        unfold RdVal at HEND
        have q0 : ∀ p : Ext wr, (extW wr p).cell? ⟨g, 0, none⟩ = some (.slice A8 m8 c8) := fun p => (R.out.below' (extW_below wr p)).cell (k := 0) rfl
        have q1 : ∀ p : Ext wr, (extW wr p).cell? ⟨g, 1, none⟩ = some (.int .i64 (a : Int)) := fun p => (R.out.below' (extW_below wr p)).cell (k := 1) rfl
        have q2 : ∀ p : Ext wr, (extW wr p).cell? ⟨g, 2, none⟩ = some (.int .i64 b) := fun p => (R.out.below' (extW_below wr p)).cell (k := 2) rfl
        obtain ⟨en, hen⟩ : ∃ en, en = Rd.ends b (bs.drop a) := ⟨_, rfl⟩
        rw [← hen] at HEND HREN
        clear hen
        have hee : ((en : Int) == en) = true := by simp
        have hcase : ¬ ((i : Int) < (m : Int)) ∨ ((i : Int) < (m : Int) ∧ ¬ ((i : Int) < 400)) := by omega
        clear hgo
        rcases hcase with g1 | ⟨g1, g2⟩
        all_goals
          go_wp2_with fail
          refine wp_region_ext (by kernel_rfl) (by kernel_rfl) ?_
          repeat (go_big_quiet_step (with_reducible first | exact ext_call_same _ (HREN.out _) | exact ext_call _ (HEND.out _)))
          refine wpQuiet_nil ?_
          intro _ hw'
          obtain ⟨p, hw''⟩ := hw'
          subst hw''
          go_wp2_with fail
          go_ret
          exact ⟨rfl, B.out.trans ((extW_below wr p).mono B.out.size)⟩
  · obtain ⟨_, rfl⟩ : o ≠ 0 ∧ P = none := by
      rcases hcase with h | ⟨h, _⟩
      · exact h
      · exact absurd h h0
    clear hcase
    have HO := hide h0
    have ho1 : (o == o) = true := by simp
    have ho2 : (o != 0) = true := by simpa using h0
    have ho3 : (o == 0) = false := by simpa using h0
    have ho4 : (o != o) = false := by simp
    clear h0
    go_wp2_with fail
    refine (HD.out _ (HB.out.below B1.out (Nat.le_refl _)) B1.out.size).mono ?_
    rintro e w2 ⟨A8, m8, c8, rfl, hb2, hx0, hx1, hsp, hmc, hc8⟩
    have B2 := hide (B1.out.trans (hb2.mono B1.out.size))
    clear hb2 hx0 hx1 B1 HD hsp
    unfold RdVal
    go_wp2_with fail
    have B3 := hide (B2.out.alloc B2.out.size (.cells #[.slice A8 m8 c8, .int .i64 0, .int .i64 0] 53))
    refine (known_any _).mono ?_
    rintro e w3 ⟨rfl, hb3⟩
    have B4 := hide (B3.out.trans (hb3.mono B3.out.size))
    clear hb3 B3 B2
    have hcase : ¬ ((0 : Int) < (m : Int)) ∨ ((0 : Int) < (m : Int)) := by omega
    rcases hcase with g1 | g1
    all_goals
      go_wp2_with fail
      refine wp_loop_rounds 1 ?_
      rw [rounds_succ]
      go_wp2_with fail
      refine wp_region_ext (by kernel_rfl) (by kernel_rfl) ?_
      repeat (go_big_quiet_step (fail))
      refine wpQuiet_nil ?_
      intro _ hw'
      obtain ⟨p, hw''⟩ := hw'
      subst hw''
      go_wp2_with fail
      go_ret
      exact ⟨rfl, B4.out.trans ((extW_below w3 p).mono B4.out.size)⟩
theorem inner_walk (A : Option Addr) (n c : Nat) (bs : List UInt8) (K : Option Addr) (m cK : Nat) (ks : List Int) (w : World) (hb : SlB w w.heap.size A n bs) (hk : Sl w w.heap.size K m (ks.map (Value.int .i64))) (hn : n ≤ 9223372036854775807) (hm : m ≤ 9223372036854775807) :
    Calls Try.prog 7 #[.slice A n c, .slice K m cK] w fun e w' => e = .returned (.bool true) ∧ Below w.heap.size w w' := by
  have HB := hide hb; have HK := hide hk
  clear hb hk
  by_cases hl : 65536 < n
  · have hi : (65536 : Int) < (n : Int) := by omega
    clear hl
    go_enter Try.func7, Try.ntmps7
    go_wp2_with fail
    refine (known_any _).mono ?_
    rintro e w1 ⟨rfl, hb1⟩
    have B1 := hide hb1; clear hb1
    go_wp2_with fail
    go_ret
    exact ⟨rfl, B1.out⟩
  · have hi : ¬ ((65536 : Int) < (n : Int)) := by omega
    have HF := hide (rframe_any A n c bs w HB.out (by omega))
    have HFL : Hid ((Wire.frame bs).length ≤ 65544) := hide (by rw [frame_length, HB.out.len]; omega)
    clear hl
    go_enter Try.func7, Try.ntmps7
    go_wp2_with fail
    refine HF.out.mono ?_
    rintro e w1 ⟨A1, c1, rfl, ho, hb1⟩
    have hc1 : (Wire.frame bs).length ≤ c1 ∧ c1 ≤ 9223372036854775807 := by
      rcases ho.2 with ⟨h1, h2⟩ | ⟨g, cap, cur, h1, h2, h3, h4, h5, h6, h7⟩
      · injection h1 with a1 a2 a3; omega
      · injection h1 with a1 a2 a3; unfold maxLen at h5; omega
    have HR := hide (reads_walk A1 _ c1 (Wire.frame bs) K m cK ks w1 ho.sl ((HK.out.below hb1 (Nat.le_refl _)).more hb1.size) hc1.1 (by have := HFL.out; omega) hc1.2 hm)
    have B1 := hide hb1; clear hb1 ho hc1 HF
    go_wp2_with fail
    refine HR.out.mono ?_
    rintro e w2 ⟨rfl, hb2⟩
    have B2 := hide (B1.out.trans (hb2.mono B1.out.size)); clear hb2 HR
    go_wp2_with fail
    go_ret
    exact ⟨rfl, B2.out⟩
end Go.Proofs.Ytnlfnjadadfhkaa
