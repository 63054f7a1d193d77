/-
  Revoke: known, walked.
-/
import Derived.Test.YtigeccflfdekiaaRevD
namespace Go.Proofs.Ytigeccflfdekiaa
open Go.RowKit Go.Maps
set_option linter.unusedVariables false

/-- a crew and a desk -/
structure CD (w0 w : World) (cg bt bw nt : Nat) (T : ByteArray → Option Int) (pace : Int) (g b1 b2 n : Nat) (N : ByteArray → Int → Option Int) (G : ByteArray → Int → Bool) (term x : Int) : Prop where
  c : CrewSt w cg bt bw nt T pace
  d : DeskSt w g b1 b2 n N G term x
  ne : cg ≠ g ∧ cg ≠ b1 ∧ cg ≠ b2 ∧ bt ≠ b1 ∧ bt ≠ b2
  ge : w0.heap.size ≤ cg ∧ w0.heap.size ≤ b1 ∧ w0.heap.size ≤ b2
  b : Below w0.heap.size w0 w
theorem CD.below {w0 w w' : World} {cg bt bw nt : Nat} {T : ByteArray → Option Int} {pace : Int} {g b1 b2 n : Nat} {N : ByteArray → Int → Option Int} {G : ByteArray → Int → Bool} {term x : Int} (h : CD w0 w cg bt bw nt T pace g b1 b2 n N G term x) (hb : Below w.heap.size w w') : CD w0 w' cg bt bw nt T pace g b1 b2 n N G term x :=
  ⟨h.c.below hb, h.d.below hb, h.ne, h.ge, h.b.trans (hb.mono h.b.size)⟩
/-- what a turn leaves -/
theorem CD.turned {w0 w w' : World} {cg bt bw nt m : Nat} {T T' : ByteArray → Option Int} {pace : Int} {g b1 b2 n n' : Nat} {N N' : ByteArray → Int → Option Int} {G : ByteArray → Int → Bool} {term x : Int} (h : CD w0 w cg bt bw nt T pace g b1 b2 n N G term x)
    (hc : CrewSt w' cg w.heap.size bw m T' pace) (hd : DeskSt w' g b1 b2 n' N' G term x) (hb : But (fun k => k = cg ∨ DB b1 b2 k) w w') : CD w0 w' cg w.heap.size bw m T' pace g b1 b2 n' N' G term x := by
  have l1 := h.d.notes.lt; have l2 := h.d.gone.lt
  have hge := h.ge
  exact ⟨hc, hd, ⟨h.ne.1, h.ne.2.1, h.ne.2.2.1, by omega, by omega⟩, h.ge, h.b.trans (hb.below (fun k hk => by rcases hk with hk | hk | hk <;> omega) h.b.size)⟩
theorem CD.turn {w0 w : World} {cg bt bw nt : Nat} {T : ByteArray → Option Int} {pace : Int} {g b1 b2 n : Nat} {N : ByteArray → Int → Option Int} {G : ByteArray → Int → Bool} {term x : Int} (h : CD w0 w cg bt bw nt T pace g b1 b2 n N G term x) (A : Option Addr) (m c : Nat) (Q : Nat → Prop) (fs : List Fam) (now : Int)
    (hsl : SlFam w Q A m fs) (hQ : ∀ k, Q k → k < w.heap.size ∧ ¬ (k = cg ∨ DB b1 b2 k)) (hfl : ∀ f ∈ fs, f.ls.length ≤ 100) (hm : m ≤ 100) (hn : n ≤ 800000) (hnow : I64 now) (hterm : I64 term) (hN : ∀ s e a, N s e = some a → I64 a) (hpace : 1 ≤ pace ∧ pace ≤ 4096) (hT : Few 1000000 T) (r : TS) (hr : tellI G now term pace T N fs = r) :
    Calls Try.prog 9 #[.pointer (some ⟨cg, 0, none⟩), .pointer (some ⟨g, 0, none⟩), .slice A m c, .int .i64 now] w fun e w' => ∃ A1 c1 A2 c2, e = .returned (.tuple #[.slice A1 r.tell.length c1, .slice A2 r.done.length c2]) ∧ Hid (OwnS 2 w' w.heap.size 41 A1 r.tell.length c1 (r.tell.flatMap Inv.cells)) ∧ Hid (Own w' w.heap.size 9 A2 r.done.length c2 (r.done.map Value.string)) ∧
      Hid (CD w0 w' cg w.heap.size bw m r.T pace g b1 b2 (n + 100 * m) r.N G term x) ∧ Hid (But (fun k => k = cg ∨ DB b1 b2 k) w w') ∧ Hid (SlFam w' Q A m fs) := by
  refine (turnc_any g b1 b2 n cg bt bw nt N G T term x pace A m c Q fs now w h.d h.c h.ne hsl (fun k hk => ⟨(hQ k hk).1, fun hh => (hQ k hk).2 (.inr hh)⟩) hfl hm hn hnow hterm hN hpace hT).mono ?_
  rintro e w' ⟨A1, c1, A2, c2, he, ho1, ho2, hc, hd, hb⟩
  rw [hr] at he ho1 ho2 hc hd
  exact ⟨A1, c1, A2, c2, he, ho1, ho2, hide (h.turned hc.out hd.out hb.out), hb, hide (hsl.but hb.out hQ)⟩
set_option maxHeartbeats 8000000 in
set_option maxRecDepth 100000 in
theorem rknown_any (w : World) : Calls Try.prog 8 #[] w fun e w' => e = .returned (.bool true) ∧ Below w.heap.size w w' := by
  have hS : shortI 10 0 = (10, 0) := by decide +kernel
  have KN := hide (new_ok hS)
  have I0 : Hid (∀ s e a, kN s e = some a → I64 a) := hide (note_i64 (fun _ _ _ h => by cases h) (by unfold I64; omega))
  have I1 : Hid (∀ s e a, kR1.N s e = some a → I64 a) := hide (tellI_i64 (by unfold I64; omega) _ I0.out)
  have I2 : Hid (∀ s e a, kR2.N s e = some a → I64 a) := hide (tellI_i64 (by unfold I64; omega) _ I1.out)
  have I3 : Hid (∀ s e a, kR3.N s e = some a → I64 a) := hide (tellI_i64 (by unfold I64; omega) _ I2.out)
  have F0 : Hid (Few 0 (fun _ => none)) := hide (fun _ _ h => by cases h)
  have F1 : Hid (Few 1 kR1.T) := hide (tellI_few (K := 0) F0.out (by omega) _ _)
  have F2 : Hid (Few 2 kR2.T) := hide (tellI_few (K := 1) F1.out (by omega) _ _)
  have F3 : Hid (Few 3 kR3.T) := hide (tellI_few (K := 2) F2.out (by omega) _ _)
  have HF : Hid (∀ f ∈ [kFam], f.ls.length ≤ 100) := hide (fun f hf => by simp at hf; subst hf; decide)
  have HI1 : Hid (∀ z ∈ kFam.ls, I64 z) := hide (fun z hz => by simp [kFam] at hz; subst hz; unfold I64; omega)
  clear hS
  go_enter Try.func8, Try.ntmps8
  go_wp2_with fail
  refine (newc_any 2 _).mono ?_
  rintro e w1 (⟨_, _, cg, bt, bw, rfl, hcg, hbt, hbw, hc, hnw, _, _, hb⟩ | ⟨hn, _⟩)
  rotate_left
  · exact absurd ⟨by omega, by omega⟩ hn
  have C1 := hide hc; have B1 := hide hb; have Z1 := hide (And.intro hcg (And.intro hbt hc.turns.lt))
  clear hc hb hcg hbt hbw hnw
  go_wp2_with fail
  refine (KN.out _).mono ?_
  rintro e w2 ⟨g, b1, b2, rfl, B2, Z, D2⟩
  clear KN
  go_wp2_with fail
  refine (note_any g b1 b2 0 _ _ 10 10 fB 1 0 _ D2.out (KOk.small (by decide) (by omega)) (by decide)).mono ?_
  rintro e w3 ⟨rfl, hd, hb⟩
  have hcgl := C1.out.row.lt
  have CD3 : Hid (CD w w3 cg bt bw 0 (fun _ => none) 2 g b1 b2 1 kN kNo 10 10) := hide ⟨(C1.out.below B2.out).but hb (fun h => by have := Z.out; rcases h with h | h <;> omega) (fun h => by have := Z.out; have := Z1.out; rcases h with h | h <;> omega), hd, by have := Z.out; have := Z1.out; omega, by have := Z.out; have := Z1.out; have := B1.out.size; omega, (B1.out.trans (B2.out.mono B1.out.size)).trans (hb.below (fun k hk => by have := Z.out; have := B1.out.size; rcases hk with hk | hk <;> omega) (by have := B1.out.size; have := B2.out.size; omega))⟩
  clear hd hb C1 B1 D2 B2 Z Z1 hcgl
  go_upto_region 7 with (fail)
  have A4 : Below w3.heap.size w3 ((w3.alloc (.cells ([1].map (Value.int .i64)).toArray 3)).alloc (.cells (kFam.cells (some ⟨w3.heap.size, 0, none⟩) 1 1).toArray 34)) := ((Below.refl _ _).alloc (Nat.le_refl _) _).alloc (by rw [World.size_alloc]; omega) _
  have HS4 := hide (SlFam.lit (Q := fun k => k = w3.heap.size) (w := w3.alloc (.cells ([1].map (Value.int .i64)).toArray 3)) (A := some ⟨w3.heap.size, 0, none⟩) (c := 1) kFam (by decide) HI1.out (by decide) ⟨rfl, fun _ => ⟨w3.heap.size, 0, rfl, rfl, fun k u hu => by rw [Nat.zero_add]; exact (RowV.new w3 3 ([1].map (Value.int .i64))).cell hu⟩⟩ (fun k hk => by rw [World.size_alloc]; omega))
  have hq4 : ∀ k, (k = w3.heap.size ∨ k = w3.heap.size + 1) → k < ((w3.alloc (.cells ([1].map (Value.int .i64)).toArray 3)).alloc (.cells (kFam.cells (some ⟨w3.heap.size, 0, none⟩) 1 1).toArray 34)).heap.size ∧ ¬ (k = cg ∨ DB b1 b2 k) := fun k hk => ⟨by rw [World.size_alloc, World.size_alloc]; omega, fun h => by have := CD3.out.c.row.lt; have := CD3.out.d.notes.lt; have := CD3.out.d.gone.lt; rcases h with h | h | h <;> omega⟩
  rw [World.size_alloc] at HS4
  obtain ⟨Q, hQd⟩ : ∃ Q : Nat → Prop, Q = fun k => k = w3.heap.size ∨ k = w3.heap.size + 1 := ⟨_, rfl⟩
  have HQ4 : Hid (∀ k, Q k → k < ((w3.alloc (.cells ([1].map (Value.int .i64)).toArray 3)).alloc (.cells (kFam.cells (some ⟨w3.heap.size, 0, none⟩) 1 1).toArray 34)).heap.size ∧ ¬ (k = cg ∨ DB b1 b2 k)) := hide (fun k hk => hq4 k (by rw [hQd] at hk; exact hk))
  rw [← hQd] at HS4
  clear hq4 hQd
  refine wp_world (fun X => Hid (CD w X cg bt bw 0 (fun _ => none) 2 g b1 b2 1 kN kNo 10 10) ∧ Hid (SlFam X Q (some ⟨w3.heap.size + 1, 0, none⟩) 1 [kFam]) ∧ Hid (∀ k, Q k → k < X.heap.size ∧ ¬ (k = cg ∨ DB b1 b2 k))) ⟨hide (CD3.out.below A4), HS4, HQ4⟩ ?_
  clear CD3 A4 HS4 HQ4
  rintro X ⟨CDX, FX, QX⟩
  have HX : Hid (∀ k, X.heap.size ≤ k → ¬ (k = cg ∨ DB b1 b2 k)) := hide (fun k hk h => by have := CDX.out.c.row.lt; have := CDX.out.d.notes.lt; have := CDX.out.d.gone.lt; rcases h with h | h | h <;> omega)
  obtain ⟨lf, hlf⟩ : ∃ lf, lf = w3.heap.size + 1 := ⟨_, rfl⟩
  rw [← hlf] at FX ⊢
  clear hlf
  go_wp2_with fail
  refine (CDX.out.turn (some ⟨lf, 0, none⟩) 1 1 Q [kFam] 5 FX.out QX.out HF.out (by omega) (by omega) (by unfold I64; omega) (by unfold I64; omega) I0.out (by omega) (fun s v h => by have := F0.out s v h; omega) kR1 rfl).mono ?_
  rintro e Y1 ⟨A10, c10, A20, c20, rfl, T0, D0, CDY1, BB0, FY1⟩
  have QY1 : Hid (∀ k, Q k → k < Y1.heap.size ∧ ¬ (k = cg ∨ DB b1 b2 k)) := hide (fun k hk => ⟨Nat.lt_of_lt_of_le (QX.out k hk).1 BB0.out.size, (QX.out k hk).2⟩)
  clear CDX FX QX
  go_wp2_with fail
  refine (CDY1.out.turn (some ⟨lf, 0, none⟩) 1 1 Q [kFam] 6 FY1.out QY1.out HF.out (by omega) (by omega) (by unfold I64; omega) (by unfold I64; omega) I1.out (by omega) (fun s v h => by have := F1.out s v h; omega) kR2 rfl).mono ?_
  rintro e Y2 ⟨A11, c11, A21, c21, rfl, T1, D1, CDY2, BB1, FY2⟩
  have QY2 : Hid (∀ k, Q k → k < Y2.heap.size ∧ ¬ (k = cg ∨ DB b1 b2 k)) := hide (fun k hk => ⟨Nat.lt_of_lt_of_le (QY1.out k hk).1 BB1.out.size, (QY1.out k hk).2⟩)
  clear CDY1 FY1 QY1
  go_wp2_with fail
  refine (CDY2.out.turn (some ⟨lf, 0, none⟩) 1 1 Q [kFam] 7 FY2.out QY2.out HF.out (by omega) (by omega) (by unfold I64; omega) (by unfold I64; omega) I2.out (by omega) (fun s v h => by have := F2.out s v h; omega) kR3 rfl).mono ?_
  rintro e Y3 ⟨A12, c12, A22, c22, rfl, T2, D2, CDY3, BB2, FY3⟩
  have QY3 : Hid (∀ k, Q k → k < Y3.heap.size ∧ ¬ (k = cg ∨ DB b1 b2 k)) := hide (fun k hk => ⟨Nat.lt_of_lt_of_le (QY2.out k hk).1 BB2.out.size, (QY2.out k hk).2⟩)
  clear CDY2 FY2 QY2
  go_wp2_with fail
  refine (CDY3.out.turn (some ⟨lf, 0, none⟩) 1 1 Q [kFam] 11 FY3.out QY3.out HF.out (by omega) (by omega) (by unfold I64; omega) (by unfold I64; omega) I3.out (by omega) (fun s v h => by have := F3.out s v h; omega) kR4 rfl).mono ?_
  rintro e Y4 ⟨A13, c13, A23, c23, rfl, T3, D3, CDY4, BB3, FY4⟩
  have QY4 : Hid (∀ k, Q k → k < Y4.heap.size ∧ ¬ (k = cg ∨ DB b1 b2 k)) := hide (fun k hk => ⟨Nat.lt_of_lt_of_le (QY3.out k hk).1 BB3.out.size, (QY3.out k hk).2⟩)
  clear CDY3 FY3 QY3
  rw [kR1_tell] at T0 ⊢
  rw [kR2_tell, kR3_tell]
  rw [kR4_done] at D3 ⊢
  simp only [List.length_cons, List.length_nil, Nat.zero_add] at T0 D3 ⊢
  have T4 : Hid (OwnS 2 Y4 X.heap.size 41 A10 1 c10 ([(⟨fB, 1⟩ : Inv)].flatMap Inv.cells)) := hide (((T0.out.but_row BB1.out (fun k hk => HX.out k (T0.out.row_ge k hk))).but_row BB2.out (fun k hk => HX.out k (T0.out.row_ge k hk))).but_row BB3.out (fun k hk => HX.out k (T0.out.row_ge k hk)))
  obtain ⟨ga, rfl, _, hca, _⟩ := T4.out.spot (by omega)
  have ca0 : Y4.cell? ⟨ga, 0, none⟩ = some (.string fB) := hca 0 _ rfl
  have ca1 : Y4.cell? ⟨ga, 1, none⟩ = some (.int .i64 1) := hca 1 _ rfl
  have hfb : (fB.toList == [102]) = true := by decide +kernel
  have BY := hide CDY4.out.b
  clear hca T0 T1 T2 T3 D0 D1 D2 BB0 BB1 BB2 BB3 CDY4 FY4 QY4 HX T4
  have HB5 := hide ((Below.refl Y4.heap.size Y4).alloc (Nat.le_refl _) (.cells #[.string fB] 9))
  have KS0 := (rsame_any A23 (some ⟨Y4.heap.size, 0, none⟩) 1 1 c23 1 [fB] [fB] _ ((D3.out.sl.below HB5.out (Nat.le_refl _)).more HB5.out.size) (Sl.litV Y4 9 [.string fB]) (by omega))
  rw [show decide ([fB] = [fB]) = true from decide_eq_true rfl] at KS0
  have KS := hide KS0
  clear KS0
  go_wp2_with fail
  refine KS.out.mono ?_
  rintro e Y5 ⟨rfl, hb⟩
  have B5 := hide ((BY.out.trans (HB5.out.mono BY.out.size)).trans (hb.mono (Nat.le_trans BY.out.size HB5.out.size)))
  clear hb KS HB5
  go_wp2_with fail
  go_ret
  exact ⟨rfl, B5.out⟩
end Go.Proofs.Ytigeccflfdekiaa
