/-
  Revoke: the law RevokePlays, walked.
-/
import Derived.Test.YtigeccflfdekiaaRevT
import Derived.Test.YtigeccflfdekiaaRevG
namespace Go.Proofs.Ytigeccflfdekiaa
open Go.RowKit Go.Maps
set_option linter.unusedVariables false

theorem fewI_len (fs : List Fam) : (fewI fs).length ≤ 10 ∧ ∀ f ∈ fewI fs, f.ls.length ≤ 100 := by
  constructor
  · unfold fewI; rw [List.length_map, List.length_take]; omega
  · intro f hf
    unfold fewI at hf
    obtain ⟨g, _, rfl⟩ := List.mem_map.1 hf
    simp [Fam.cut]; omega
/-- all stands, at the beginning -/
theorem all_start {w0 w : World} {cg bt bw g b1 b2 : Nat} {pace term x : Int} (hc : CrewSt w cg bt bw 0 (fun _ => none) pace) (hn : NoWait w bw) (hd : DeskSt w g b1 b2 0 (fun _ _ => none) (fun _ _ => false) term x) (hb : Below w0.heap.size w0 w)
    (h1 : cg ≠ bw ∧ bt ≠ bw) (h2 : (cg ≠ g ∧ cg ≠ b1 ∧ cg ≠ b2) ∧ (bt ≠ g ∧ bt ≠ b1 ∧ bt ≠ b2) ∧ (bw ≠ g ∧ bw ≠ b1 ∧ bw ≠ b2)) (hge : w0.heap.size ≤ cg ∧ w0.heap.size ≤ bt ∧ w0.heap.size ≤ bw ∧ w0.heap.size ≤ g ∧ w0.heap.size ≤ b1 ∧ w0.heap.size ≤ b2) :
    AllSt ((w.alloc (.cells #[.slice none 0 0, .slice none 0 0, .int .i64 pace] 56)).alloc (.cells #[.slice none 0 0, .int .i64 term] 60)) (fun k => k < w0.heap.size) cg g w.heap.size (w.heap.size + 1) 0 pace term x (fun _ _ => none) (fun _ _ => false) (fun _ => none) (fun _ _ => false) (fun _ _ => none) (fun _ _ => false) (fun _ => none) (fun _ _ => false) := by
  have B1 : Below w.heap.size w ((w.alloc (.cells #[.slice none 0 0, .slice none 0 0, .int .i64 pace] 56)).alloc (.cells #[.slice none 0 0, .int .i64 term] 60)) := ((Below.refl _ _).alloc (Nat.le_refl _) _).alloc (by rw [World.size_alloc]; omega) _
  have hB := But.of_below (S := fun _ => False) B1
  have l1 := hc.row.lt; have l2 := hc.turns.lt; have l3 := hd.row.lt; have l4 := hd.notes.lt; have l5 := hd.gone.lt
  have lw := (WaitSt.of_none hn).lt
  have hRC : ∀ k, RC w.heap.size none 0 0 none 0 0 k → k = w.heap.size := fun k hk => by
    rcases hk with h2 | h2 | h2
    · exact h2
    · cases h2
    · cases h2
  have hRB : ∀ k, RB (w.heap.size + 1) none 0 0 k → k = w.heap.size + 1 := fun k hk => by
    rcases hk with h2 | h2
    · exact h2
    · cases h2
  have hPB : ∀ k, PB cg bt bw (fun _ => none) g b1 b2 k → w0.heap.size ≤ k ∧ k < w.heap.size := fun k hk => by
    rcases hk with h2 | h2 | h2 | ⟨s, h2⟩ | h2 | h2 | h2
    · omega
    · omega
    · omega
    · cases h2
    · omega
    · omega
    · omega
  have hsz := hb.size
  refine ⟨⟨bt, bw, b1, b2, fun _ => none, none, 0, 0, [], none, 0, 0, [], none, 0, 0, [], ⟨hB.row hc.row id, hc.turns.but hB id, (WaitSt.of_none hn).but hB id (fun _ _ h => by cases h), hd.below B1, ⟨hc.ne, h1.1, h1.2⟩, fun _ _ h => (by cases h), h2, fun _ _ h => (by cases h), fun _ _ _ h => (by cases h)⟩, ⟨?_, (RCrew.made w pace).below ((Below.refl _ _).alloc (Nat.le_refl _) _), fun k hk hh => by have := hRC k hk; have := hRB k hh; omega, fun _ _ => rfl, fun _ _ => rfl, fun _ => rfl, fun s z => by simp, fun r hr => (by cases hr), fun y hy => (by cases hy), by omega⟩, fun k hk => ⟨fun hh => by have := hRB k hh; have := hPB k hk; omega, fun hh => by have := hRC k hh; have := hPB k hk; omega⟩, fun k hk => ⟨fun hh => by have := hPB k hh; omega, fun hh => by have := hRB k hh; omega, fun hh => by have := hRC k hh; omega⟩⟩, fun k hk => by rw [World.size_alloc, World.size_alloc]; omega⟩
  refine ⟨?_, OwnS.nil_, rfl, fun _ h => by cases h⟩
  have := RowV.new (w.alloc (.cells #[.slice none 0 0, .slice none 0 0, .int .i64 pace] 56)) 60 [.slice none 0 0, .int .i64 term]
  rwa [World.size_alloc] at this
theorem OwnS.at_wt {w : World} {base n c : Nat} {A : Option Addr} {l : List (Int × Int)} (h : OwnS 2 w base 50 A n c (l.flatMap waitC)) {k : Nat} {x : Int × Int} (hk : k < n) (hx : l[k]? = some x) : ∃ g o, A = some ⟨g, o, none⟩ ∧ g < w.heap.size ∧ w.cell? ⟨g, o + k * 2, none⟩ = some (.int .i64 x.1) ∧ w.cell? ⟨g, o + k * 2 + 1, none⟩ = some (.int .i64 x.2) := by
  obtain ⟨g, rfl, hg, hc, _⟩ := h.spot (by omega)
  have get : ∀ j v, (waitC x)[j]? = some v → w.cell? ⟨g, 0 + k * 2 + j, none⟩ = some v := fun j v hv => by
    rw [Nat.zero_add]
    exact hc _ _ (flat_get (enc := waitC) (sz := 2) (fun _ => rfl) hx hv)
  exact ⟨g, 0, rfl, h.row_lt g hg, get 0 _ rfl, get 1 _ rfl⟩
theorem AllSt.drew {X : Nat → Prop} {w : World} {cg g p q K : Nat} {pace term x : Int} {N N' : ByteArray → Int → Option Int} {G G' : ByteArray → Int → Bool} {T T' : ByteArray → Option Int} {Q Q' : ByteArray → Int × Int → Bool} (h : AllSt w X cg g p q K pace term x N G T Q N' G' T' Q') : AllSt w.drew X cg g p q K pace term x N G T Q N' G' T' Q' := (h.below ((Below.refl _ _).drew)).sub fun k hk => .inl hk
/-- what lies in X stays -/
theorem But.kept {X : Nat → Prop} {w w' : World} (h : But (fun k => ¬ X k) w w') : ∀ k, X k → ¬ (fun k => ¬ X k) k := fun k hk hn => hn hk
set_option maxHeartbeats 16000000 in
set_option maxRecDepth 100000 in
theorem rplays_walk (pace term : Int) (A : Option Addr) (n c : Nat) (ps : List Rst) (w : World) (hpace : I64 pace) (hterm : I64 term) (hsl : SlRst w w.heap.size A n ps) (hn : n ≤ 9223372036854775807) :
    Calls Try.prog 5 #[.int .i64 pace, .int .i64 term, .slice A n c] w fun e w' => e = .returned (.bool true) ∧ Below w.heap.size w w' := by
  have HSL := hide hsl
  clear hsl
  obtain ⟨x, y, hs⟩ : ∃ x y, shortI term 0 = (x, y) := ⟨_, _, rfl⟩
  have KC := hide (newc_any pace w)
  have KN : Hid (∀ w, Calls Try.prog 7 #[.int .i64 term, .int .i64 0] w fun e w' => (y ≠ 0 ∧ e = .returned (.tuple #[.pointer none, .int .i64 y]) ∧ Hid (Below w.heap.size w w')) ∨ (y = 0 ∧ ∃ g b1 b2, e = .returned (.tuple #[.pointer (some ⟨g, 0, none⟩), .int .i64 0]) ∧ Hid (Below w.heap.size w w') ∧ Hid (w.heap.size ≤ g ∧ w.heap.size ≤ b1 ∧ w.heap.size ≤ b2) ∧ Hid (DeskSt w' g b1 b2 0 (fun _ _ => none) (fun _ _ => false) term x))) := hide (fun w => by
    by_cases hy : y = 0
    · subst hy
      exact (new_ok hs w).mono fun e w' h => .inr ⟨rfl, h⟩
    · exact (new_badR hs hy w).mono fun e w' h => .inl ⟨hy, h⟩)
  clear hs
  go_enter Try.func5, Try.ntmps5
  go_wp2_with fail
  refine KC.out.mono ?_
  rintro e w1 (⟨hp1, hp2, cg, bt, bw, rfl, hcg, hbt, hbw, hc, hnw, hne1, hne2, hb⟩ | ⟨hnp, rfl, rfl⟩)
  rotate_left
  · have hp : pace < 1 ∨ (1 ≤ pace ∧ 4096 < pace) := by omega
    clear hnp KC
    have HW : ∀ P : Prop, (P → P) := fun _ h => h
    rcases hp with h1 | ⟨h1, h2⟩
    all_goals
      go_wp2_with fail
      refine (rknown_any _).mono ?_
      rintro e w2 ⟨rfl, hb⟩
      have B2 := hide hb
      clear hb
      go_wp2_with fail
      refine (KN.out _).mono ?_
      rintro e w3 (⟨hy, rfl, B3⟩ | ⟨hy, g, b1, b2, rfl, B3, _, _⟩)
      all_goals
        have B4 := hide (B2.out.trans (B3.out.mono B2.out.size))
        go_wp2_with fail
        go_ret
        exact ⟨rfl, B4.out⟩
  · have C1 := hide hc; have B1 := hide hb; have NW := hide hnw
    have Z1 : Hid ((w.heap.size ≤ cg ∧ w.heap.size ≤ bt ∧ w.heap.size ≤ bw) ∧ (cg < w1.heap.size ∧ bt < w1.heap.size ∧ bw < w1.heap.size) ∧ cg ≠ bw ∧ bt ≠ bw) := hide ⟨⟨hcg, hbt, hbw⟩, ⟨hc.row.lt, hc.turns.lt, (WaitSt.of_none hnw).lt⟩, hne1, hne2⟩
    clear hc hb hcg hbt hbw hnw KC hne1 hne2
    go_wp2_with fail
    refine (rknown_any _).mono ?_
    rintro e w2 ⟨rfl, hb⟩
    have C2 := hide (C1.out.below hb)
    have NW2 : Hid (NoWait w2 bw) := hide ((hb.block bw (Z1.out.2.1.2.2)).trans NW.out)
    have B2 := hide (B1.out.trans (hb.mono B1.out.size))
    have S2 := hide hb.size
    clear hb C1 B1 NW
    go_wp2_with fail
    refine (KN.out _).mono ?_
    rintro e w3 (⟨hy, rfl, B3⟩ | ⟨rfl, g, b1, b2, rfl, B3, Z, D3⟩)
    · have hyb : (y != 0) = true := by simpa using hy
      have B4 := hide (B2.out.trans (B3.out.mono B2.out.size))
      clear hy
      go_wp2_with fail
      go_ret
      exact ⟨rfl, B4.out⟩
    · have hse : Hid (NoWait w3 bw) := hide ((B3.out.block bw (Nat.lt_of_lt_of_le Z1.out.2.1.2.2 S2.out)).trans NW2.out)
      have S0 := hide (all_start (C2.out.below B3.out) hse.out D3.out (B2.out.trans (B3.out.mono B2.out.size)) Z1.out.2.2 (by have := Z1.out; have := S2.out; have := Z.out; omega) (by have := Z1.out; have := S2.out; have := Z.out; have := B2.out.size; omega))
      have B4 : Hid (Below w.heap.size w ((w3.alloc (.cells #[.slice none 0 0, .slice none 0 0, .int .i64 pace] 56)).alloc (.cells #[.slice none 0 0, .int .i64 term] 60))) := hide (((B2.out.trans (B3.out.mono B2.out.size)).alloc (by have := B2.out.size; have := B3.out.size; omega) _).alloc (by have := B2.out.size; have := B3.out.size; rw [World.size_alloc]; omega) _)
      clear C2 NW2 B2 S2 B3 Z D3 hse Z1 KN
      go_wp2_with fail
      obtain ⟨q, hq⟩ : ∃ q, q = w3.heap.size + 1 := ⟨_, rfl⟩
      obtain ⟨p0, hp0⟩ : ∃ p, p = w3.heap.size := ⟨_, rfl⟩
      rw [← hq, ← hp0] at S0
      try rw [← hq]
      try rw [← hp0]
      clear hq hp0
      go_loopw [12, 14] (fun v12 v14 wq => ∃ (i K p : Nat) (N : ByteArray → Int → Option Int) (G : ByteArray → Int → Bool) (T : ByteArray → Option Int) (Q : ByteArray → Int × Int → Bool), i ≤ n ∧ i ≤ 60 ∧ v14 = .int .i64 i ∧ v12 = .pointer (some ⟨p, 0, none⟩) ∧ K ≤ 3000 * i ∧ Hid (AllSt wq (fun k => k < w.heap.size) cg g p q K pace term x N G T Q N G T Q) ∧ Hid (Below w.heap.size w wq)) (fun _ v _ => n - (intOf v).toNat)
      case atStart => exact ⟨0, 0, p0, _, _, _, _, by omega, by omega, rfl, rfl, by omega, S0, B4⟩
      case round =>
        clear S0 B4
        obtain ⟨i, K, p, N, G, T, Q, hi, hi6, rfl, rfl, hK, S, B⟩ := hrel
        by_cases hlt : i < n ∧ i < 60
        · obtain ⟨hlt, hlt6⟩ := hlt
          obtain ⟨pb, po, pp, rfl, hpb, hpi, hok, A4, ca, k4, hca, hcm, hsf⟩ := HSL.out.at_ hlt
          have HOK := hide hok
          have HSF := hide hsf
          have kk : ∀ j v, (pp.cells A4 ca)[j]? = some v → wr.cell? ⟨pb, po + i * 6 + j, none⟩ = some v := fun j v hv => (B.out.cell (p := ⟨pb, po + i * 6 + j, none⟩) hpb).trans (k4 j v hv)
          have c0 : wr.cell? ⟨pb, po + i * 6, none⟩ = some (.int .i64 pp.kind) := kk 0 _ rfl
          have c1 := kk 1 _ rfl; have c2 := kk 2 _ rfl; have c3 := kk 3 _ rfl; have c4 := kk 4 _ rfl; have c5 := kk 5 _ rfl
          clear kk k4 hpi hok hsf
          obtain ⟨pk, pf, pe, pq, pn, pl⟩ := pp
          simp only at c0 c1 c2 c3 c4 c5 hca HSF
          have hi1 : (i : Int) < (n : Int) := by omega
          have hi2 : (i : Int) < 60 := by omega
          have hi0 : (0 : Int) ≤ (i : Int) := by omega
          obtain ⟨Tb, hT⟩ : ∃ Tb, Tb = wr.heap.size := ⟨_, rfl⟩
          go_upto_region 13 with (fail)
          rw [← hT]
          refine wp_world (fun Y => Hid (AllSt Y (fun k => k < w.heap.size ∨ k = Tb) cg g p q K pace term x N G T Q N G T Q) ∧ Hid (Below w.heap.size w Y) ∧ Hid (RowV Y Tb 46 [.int .i64 pk, .string pf, .int .i64 pe, .int .i64 pq, .int .i64 pn, .slice A4 pl.length ca])) ⟨hide ((S.out.below ((Below.refl wr.heap.size wr).alloc (Nat.le_refl _) _)).sub (fun k hk => hk.elim .inl (fun hk => .inr (by rw [World.size_alloc]; omega)))), hide (B.out.alloc B.out.size _), hide (hT ▸ RowV.new wr _ [.int .i64 pk, .string pf, .int .i64 pe, .int .i64 pq, .int .i64 pn, .slice A4 pl.length ca])⟩ ?_
          clear S B c0 c1 c2 c3 c4 c5 hT
          rintro Y ⟨S, B, R⟩
          have p0 := R.out.cell (k := 0) rfl
          have p1 := R.out.cell (k := 1) rfl
          have p2 := R.out.cell (k := 2) rfl
          have p3 := R.out.cell (k := 3) rfl
          have p4 := R.out.cell (k := 4) rfl
          have p5 := R.out.cell (k := 5) rfl
          have HKO : Hid (KOk pf pe) := hide ⟨HOK.out.fam, HOK.out.edge.1, HOK.out.edge.2⟩
          have HPN : Hid (I64 pn) := hide HOK.out.now
          have HXB : Hid (∀ k : Nat, ¬ (k < w.heap.size ∨ k = Tb) → w.heap.size ≤ k) := hide (fun k hk => by omega)
          rcases (by omega : pk = 0 ∨ pk = 1 ∨ pk = 2 ∨ pk = 3 ∨ pk = 4 ∨ pk = 5 ∨ (pk ≠ 0 ∧ pk ≠ 1 ∧ pk ≠ 2 ∧ pk ≠ 3 ∧ pk ≠ 4 ∧ pk ≠ 5)) with rfl | rfl | rfl | rfl | rfl | rfl | ⟨q0, q1, q2, q3, q4, q5⟩
          · have SF : Hid (SlFam Y (fun k => k < w.heap.size) A4 pl.length pl) := hide (HSF.out.but (S := fun k => w.heap.size ≤ k) ⟨B.out.os, B.out.tape, B.out.output, B.out.size, fun k hk hn => B.out.block k (by omega)⟩ (fun k hk => ⟨hk, fun h => by have h : w.heap.size ≤ k := h; have hk : k < w.heap.size := hk; omega⟩))
            have KF := hide (few_any A4 pl.length ca (fun k => k < w.heap.size) pl Y SF.out (fun k hk => Nat.lt_of_lt_of_le hk B.out.size) (by omega))
            clear p1 p2 p3
            go_wp2_with fail
            refine KF.out.mono ?_
            clear p0
            rintro e w3 ⟨A3, c3, rfl, F3, b3⟩
            have R3 := hide (R.out.below' b3.out)
            obtain ⟨fs, hfs⟩ : ∃ fs, fs = fewI pl := ⟨_, rfl⟩
            obtain ⟨m, hm⟩ : ∃ m, m = fs.length := ⟨_, rfl⟩
            have HFW := fewI_len pl
            rw [← hfs] at F3 HFW ⊢
            rw [← hm] at F3 HFW ⊢
            obtain ⟨hm10, HF0⟩ := HFW
            have HFL := hide HF0
            have S3 : Hid (AllSt w3 (fun k => (k < w.heap.size ∨ k = Tb) ∨ (Y.heap.size ≤ k ∧ k < w3.heap.size)) cg g p q K pace term x N G T Q N G T Q) := hide (S.out.below b3.out)
            have F3' := hide (F3.out.mono (Q' := fun k => (k < w.heap.size ∨ k = Tb) ∨ (Y.heap.size ≤ k ∧ k < w3.heap.size)) (fun k hk => hk.elim (fun h => .inl (.inl h)) .inr))
            have B3 := hide (B.out.trans (b3.out.mono B.out.size))
            obtain ⟨X3, hX3⟩ : ∃ X3 : Nat → Prop, X3 = fun k => (k < w.heap.size ∨ k = Tb) ∨ (Y.heap.size ≤ k ∧ k < w3.heap.size) := ⟨_, rfl⟩
            rw [← hX3] at S3 F3'
            have HX3 : Hid (∀ k, k < w.heap.size ∨ k = Tb → X3 k) := hide (fun k hk => by rw [hX3]; exact .inl hk)
            clear S B R p4 p5 F3 b3 SF KF hfs hm hX3 HF0
            have p4 := R3.out.cell (k := 4) rfl
            obtain ⟨r, hr⟩ : ∃ r, tellI G pn term pace T N fs = r := ⟨_, rfl⟩
            have HR := hide hr
            have KT := hide (S3.out.turn A3 m c3 fs pn F3'.out HFL.out hm10 (by omega) HPN.out hterm ⟨hp1, hp2⟩ r HR.out)
            clear hr
            go_wp2_with fail
            refine KT.out.mono ?_
            rintro e w4 ⟨At1, ct1, Ao1, co1, rfl, OT1, OD1, S4, b4⟩
            have R4 := hide (b4.out.row R3.out (fun h => h (HX3.out _ (.inr rfl))))
            have B4 := hide (B3.out.trans (b4.out.below (fun k hk => HXB.out k (fun h => hk (HX3.out k h))) B3.out.size))
            have F4 := hide (F3'.out.but b4.out (fun k hk => ⟨S3.out.xlt k hk, fun h => h hk⟩))
            have KT2 := hide (S4.out.rturn A3 m c3 fs pn (F4.out.mono fun k hk => .inl hk) HFL.out hm10 (by omega) HPN.out hterm ⟨hp1, hp2⟩ r HR.out)
            clear KT S3 F3' B3 R3 b4 p4
            have p4 := R4.out.cell (k := 4) rfl
            go_wp2_with fail
            refine KT2.out.mono ?_
            rintro e w5 ⟨At2, ct2, Ao2, co2, rfl, OT2, OD2, S5, b5⟩
            have B5 := hide (B4.out.trans (b5.out.below (fun k hk => HXB.out k (fun h => hk (.inl (HX3.out k h)))) B4.out.size))
            have OT1' := hide (OT1.out.but_row b5.out (fun k hk h => h (.inr (.inl hk))))
            have OD1' := hide ((OwnS.of_own OD1.out).but_row b5.out (fun k hk h => h (.inr (.inr hk))))
            have S5' := hide (S5.out.sub (Y := fun k => k < w.heap.size) (fun k hk => .inl (HX3.out k (.inl hk))))
            have HRL : Hid (r.tell.length ≤ 10000 ∧ r.done.length ≤ 100) := hide (by
              have := tellI_len (G := G) (now := pn) (term := term) (pace := pace) (T := T) (K := 100) fs HFL.out ⟨N, fun _ => none, [], []⟩
              have h2 := HR.out
              have hfm : fs.length = m := F4.out.1
              unfold tellI at h2
              rw [h2] at this
              simp only [List.length_nil] at this
              omega)
            have KS0 := rsame_any Ao1 Ao2 r.done.length r.done.length co1 co2 r.done r.done w5 (Own.sl OD1'.out) (Own.sl OD2.out) (by have := HRL.out; omega)
            rw [decide_eq_true rfl] at KS0
            have KS := hide KS0
            clear KS0 KT2 S4 F4 B4 R4 b5 p4 OT1 OD1 OD1' OD2 S5
            obtain ⟨L, hL⟩ : ∃ L, L = r.tell.length := ⟨_, rfl⟩
            obtain ⟨D, hD⟩ : ∃ D, D = r.done.length := ⟨_, rfl⟩
            have HLL := hide hL
            have hLb : L ≤ 10000 := by have := HRL.out; omega
            rw [← hL] at OT1' OT2 ⊢
            rw [← hD] at KS ⊢
            clear hL hD
            go_wp2_with fail
            refine KS.out.mono ?_
            rintro e w6 ⟨rfl, hb6⟩
            have B6 := hide hb6
            clear hb6 KS
            go_wp2_with fail
            go_loopw [21] (fun v21 wq => ∃ k : Nat, k ≤ L ∧ v21 = .int .i64 k ∧ Hid (Below w5.heap.size w5 wq)) (fun v _ => L - (intOf v).toNat)
            case atStart => exact ⟨0, by omega, rfl, B6⟩
            case round =>
              clear B6
              obtain ⟨k, hk, rfl, BI⟩ := hrel
              by_cases hkl : k < L
              · obtain ⟨z, hz⟩ : ∃ z, r.tell[k]? = some z := ⟨_, List.getElem?_eq_getElem (by have := HLL.out; omega)⟩
                obtain ⟨g1, o1, rfl, hg1, a1, a2⟩ := (OT1'.out.below BI.out).at_inv hkl hz
                obtain ⟨g2, o2, rfl, hg2, a3, a4⟩ := (OT2.out.below BI.out).at_inv hkl hz
                have hk1 : (k : Int) < (L : Int) := by omega
                have hk0 : (0 : Int) ≤ (k : Int) := by omega
                have e1 : (z.f.toList == z.f.toList) = true := by simp
                have e2 : (z.e == z.e) = true := by simp
                clear hz hg1 hg2
                go_wp2_with fail
                go_quiet (fail)
                go_wp2_with fail
                go_roundw
                case rel => exact ⟨k + 1, by omega, by go_num, hide (below_drewN BI.out _)⟩
                case measure => simp [intOf]; omega
              · have hkn : ¬ ((k : Int) < (L : Int)) := by omega
                have S7 := hide ((S5'.out.below BI.out).sub (Y := fun k => k < w.heap.size) (fun k hk => .inl hk))
                have B7 := hide (B5.out.trans (BI.out.mono B5.out.size))
                clear S5' B5 OT1' OT2 BI
                go_wp2_with fail
                refine ⟨⟨i + 1, K + 1000 + 1000, p, _, _, _, _, by omega, by omega, by go_num, rfl, by omega, S7, B7⟩, by simp [intOf]; omega⟩
          · go_wp2_with fail
            refine (S.out.note pf pe pn HKO.out HPN.out (by omega)).mono ?_
            rintro e w4 ⟨rfl, S4, b4⟩
            have R4 := hide (b4.out.row R.out (fun h => h (.inr rfl)))
            have B4 := hide (B.out.trans (b4.out.below HXB.out B.out.size))
            clear S B R p0 p1 p2 p3 p4 p5
            have p1 := R4.out.cell (k := 1) rfl
            have p2 := R4.out.cell (k := 2) rfl
            have p4 := R4.out.cell (k := 4) rfl
            go_wp2_with fail
            refine (S4.out.rnote pf pe pn HPN.out (by omega)).mono ?_
            rintro e w5 ⟨rfl, S5, b5⟩
            have B5 := hide (B4.out.trans (b5.out.below HXB.out B4.out.size))
            clear S4 B4 R4 p1 p2 p4
            go_wp2_with fail
            go_roundw
            case rel => exact ⟨i + 1, K + 2, p, _, _, _, _, by omega, by omega, by go_num, rfl, by omega, hide (S5.out.sub fun k hk => .inl hk), B5⟩
            case measure => simp [intOf]; omega
          · go_wp2_with fail
            refine (S.out.ack pf pe HKO.out (by omega)).mono ?_
            rintro e w4 ⟨rfl, S4, b4⟩
            have R4 := hide (b4.out.row R.out (fun h => h (.inr rfl)))
            have B4 := hide (B.out.trans (b4.out.below HXB.out B.out.size))
            clear S B R p0 p1 p2 p3 p4 p5
            have p1 := R4.out.cell (k := 1) rfl
            have p2 := R4.out.cell (k := 2) rfl
            go_wp2_with fail
            refine (S4.out.rack pf pe (by omega)).mono ?_
            rintro e w5 ⟨rfl, S5, b5⟩
            have B5 := hide (B4.out.trans (b5.out.below HXB.out B4.out.size))
            clear S4 B4 R4 p1 p2
            go_wp2_with fail
            go_roundw
            case rel => exact ⟨i + 1, K + 2, p, _, _, _, _, by omega, by omega, by go_num, rfl, by omega, hide (S5.out.sub fun k hk => .inl hk), B5⟩
            case measure => simp [intOf]; omega
          · go_wp2_with fail
            refine (S.out.wait pf (pe, pq) HOK.out.fam ⟨HOK.out.edge, HOK.out.seq⟩ (by omega)).mono ?_
            rintro e w4 ⟨rfl, S4, b4⟩
            have R4 := hide (b4.out.row R.out (fun h => h (.inr rfl)))
            have B4 := hide (B.out.trans (b4.out.below HXB.out B.out.size))
            clear S B R p0 p1 p2 p3 p4 p5
            have p1 := R4.out.cell (k := 1) rfl
            have p2 := R4.out.cell (k := 2) rfl
            have p3 := R4.out.cell (k := 3) rfl
            go_wp2_with fail
            refine (S4.out.rwait pf (pe, pq) ⟨HOK.out.edge, HOK.out.seq⟩ (by omega)).mono ?_
            rintro e w5 ⟨rfl, S5, b5⟩
            have B5 := hide (B4.out.trans (b5.out.below HXB.out B4.out.size))
            clear S4 B4 R4 p1 p2 p3
            go_wp2_with fail
            go_roundw
            case rel => exact ⟨i + 1, K + 4, p, _, _, _, _, by omega, by omega, by go_num, rfl, by omega, hide (S5.out.sub fun k hk => .inl hk), B5⟩
            case measure => simp [intOf]; omega
          · have hS0 : Y.drew.cell? ⟨Tb, 1, none⟩ = some (.string pf) := p1
            have K1 := hide (S.out.drew.gone pf HOK.out.fam (by omega))
            have HKB : Hid (K ≤ 600000) := hide (by omega)
            clear p2 p3 p4 p5
            go_upto_region 35 with (fail)
            clear p0
            go_region_held3 (fun W => W.cell? ⟨Tb, 1, none⟩ = some (.string pf))
              (first | with_reducible assumption | exact KS.out)
              (first
                | (go_at_call 12; with_reducible refine K1.out.mono ?_
                   rintro e5 w5 ⟨A5, c5, ls5, rfl, J5, O5, S5, b5⟩
                   have R5 := hide (b5.out.row R.out.drew (fun h => h (.inr rfl)))
                   have KS : Hid (w5.cell? ⟨Tb, 1, none⟩ = some (.string pf)) := hide (R5.out.cell (k := 1) rfl))
                | (go_at_call 22; with_reducible refine (S5.out.rgone pf HKB.out).mono ?_
                   rintro e6 w6 ⟨A6, c6, ls6, rfl, J6, O6, S6, b6⟩
                   have R6 := hide (b6.out.row R5.out (fun h => h (.inl (.inr rfl))))
                   have KS : Hid (w6.cell? ⟨Tb, 1, none⟩ = some (.string pf)) := hide (R6.out.cell (k := 1) rfl)))
            all_goals
              have B6 : Hid (Below w.heap.size w w6) := hide ((B.out.drew.trans (b5.out.below HXB.out B.out.size)).trans (b6.out.below (fun k hk => HXB.out k (fun h => hk (.inl h))) (by have := B.out.size; have := b5.out.size; have e : Y.drew.heap.size = Y.heap.size := rfl; omega)))
              have O56 := hide (O5.out.but_row b6.out (fun k hk h => h (.inr hk)))
              obtain rfl : ls5 = ls6 := J5.out.1.unique J6.out
              obtain ⟨L, hL⟩ : ∃ L, L = ls5.length := ⟨_, rfl⟩
              have HLL := hide hL
              rw [← hL] at O56 O6 ⊢
              have hLb : L ≤ 1000000 := by have := J5.out.2; omega
              clear hS0 KS R6 R5 O5 S5 b5 b6 K1 S B R p1 J6 J5 hL
              go_wp2_with fail
              go_loopw [24] (fun v24 wq => ∃ k : Nat, k ≤ L ∧ v24 = .int .i64 k ∧ Hid (Below w6.heap.size w6 wq)) (fun v _ => L - (intOf v).toNat)
              case atStart => exact ⟨0, by omega, rfl, hide (Below.refl _ _)⟩
              case round =>
                obtain ⟨k, hk, rfl, BI⟩ := hrel
                by_cases hkl : k < L
                · obtain ⟨z, hz⟩ : ∃ z, ls5[k]? = some z := ⟨_, List.getElem?_eq_getElem (by have := HLL.out; omega)⟩
                  obtain ⟨g1, o1, rfl, hg1, a1, a2⟩ := (O56.out.below BI.out).at_wt hkl hz
                  obtain ⟨g2, o2, rfl, hg2, a3, a4⟩ := (O6.out.below BI.out).at_wt hkl hz
                  have hk1 : (k : Int) < (L : Int) := by omega
                  have hk0 : (0 : Int) ≤ (k : Int) := by omega
                  have e1 : (z.1 == z.1) = true := by simp
                  have e2 : (z.2 == z.2) = true := by simp
                  clear hz hg1 hg2
                  go_wp2_with fail
                  go_quiet (fail)
                  go_wp2_with fail
                  go_roundw
                  case rel => exact ⟨k + 1, by omega, by go_num, hide (below_drewN BI.out _)⟩
                  case measure => simp [intOf]; omega
                · have hkn : ¬ ((k : Int) < (L : Int)) := by omega
                  have S7 := hide ((S6.out.below BI.out).sub (Y := fun k => k < w.heap.size) (fun k hk => .inl (.inl (.inl hk))))
                  have B7 := hide (B6.out.trans (BI.out.mono B6.out.size))
                  clear S6 B6 O6 O56 BI
                  go_wp2_with fail
                  refine ⟨⟨i + 1, K, p, _, _, _, _, by omega, by omega, by go_num, rfl, by omega, S7, B7⟩, by simp [intOf]; omega⟩
          · go_wp2_with fail
            refine (S.out.reset).mono ?_
            rintro e w4 ⟨rfl, S4, b4⟩
            have B4 := hide (B.out.trans (b4.out.below HXB.out B.out.size))
            have S5 := hide S4.out.rnew
            have B5 := hide (B4.out.alloc B4.out.size (.cells #[.slice none 0 0, .slice none 0 0, .int .i64 pace] 56))
            clear S B R p0 p1 p2 p3 p4 p5 S4 B4
            go_wp2_with fail
            go_roundw
            case rel => exact ⟨i + 1, K, w4.heap.size, _, _, _, _, by omega, by omega, by go_num, rfl, by omega, hide (S5.out.sub fun k hk => .inl hk), B5⟩
            case measure => simp [intOf]; omega
          · have q0b : (pk == 0) = false := by simpa using q0
            have q1b : (pk == 1) = false := by simpa using q1
            have q2b : (pk == 2) = false := by simpa using q2
            have q3b : (pk == 3) = false := by simpa using q3
            have q4b : (pk == 4) = false := by simpa using q4
            have q5b : (pk == 5) = false := by simpa using q5
            clear q0 q1 q2 q3 q4 q5
            go_wp2_with fail
            go_roundw
            case rel => exact ⟨i + 1, K, p, N, G, T, Q, by omega, by omega, by go_num, rfl, by omega, hide (S.out.sub fun k hk => .inl hk), B⟩
            case measure => simp [intOf]; omega
        · have hor : ¬ ((i : Int) < (n : Int)) ∨ ((i : Int) < (n : Int) ∧ ¬ ((i : Int) < 60)) := by omega
          clear hlt
          rcases hor with h | ⟨h, h2⟩
          all_goals
            go_wp2_with fail
            go_ret
            exact ⟨rfl, B.out⟩
end Go.Proofs.Ytigeccflfdekiaa
