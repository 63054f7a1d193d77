/-
  Revoke: one lemma a call, over all that stands side by side.
-/
import Derived.Test.YtigeccflfdekiaaRevS
namespace Go.Proofs.Ytigeccflfdekiaa
open Go.RowKit Go.Maps
set_option linter.unusedVariables false

section
variable {X : Nat → Prop} {w w' : World} {cg g p q K : Nat} {pace term x : Int} {N N' : ByteArray → Int → Option Int} {G G' : ByteArray → Int → Bool} {T T' : ByteArray → Option Int} {Q Q' : ByteArray → Int × Int → Bool}
theorem noY (P : Prop) : ∀ k : Nat, (fun _ : Nat => False) k → P := fun _ h => h.elim
theorem AllSt.note (h : AllSt w X cg g p q K pace term x N G T Q N' G' T' Q') (s : ByteArray) (e now : Int) (hk : KOk s e) (hn : I64 now) (hK : K ≤ 600000) :
    Calls Try.prog 17 #[.pointer (some ⟨g, 0, none⟩), .string s, .int .i64 e, .int .i64 now] w fun en w' => en = .returned (.tuple #[]) ∧ Hid (AllSt w' X cg g p q (K + 1) pace term x (noteN N s e now) G T Q N' G' T' Q') ∧ Hid (But (fun k => ¬ X k) w w') := by
  obtain ⟨bt, bw, b1, b2, B, A, n, c, L, A1, n1, c1, LB, A2, n2, c2, W, hP, hR, hd, hX⟩ := h.ex
  refine (note_any g b1 b2 K N G term x s e now w hP.desk hk (by unfold maxLen; omega)).mono ?_
  rintro en w' ⟨rfl, hD, hb⟩
  have a1 := hP.n3
  have hP' : PSt w' cg bt bw g b1 b2 (K + 1) B (noteN N s e now) G T Q pace term x := ⟨hb.row hP.row (fun hh => by rcases hh with hh | hh <;> omega), (hP.turns.but hb (fun hh => by rcases hh with hh | hh <;> omega)).mono (by omega), (hP.waits.but hb (fun hh => by rcases hh with hh | hh <;> omega) (fun s b hs hh => by have := hP.n2 s b hs; rcases hh with hh | hh <;> omega)).mono (by omega), hD, hP.n1, hP.n2, hP.n3, fun s v hv => by have := hP.few s v hv; omega, note_i64 hP.i64 hn⟩
  have hA := AllSt.prog (X := X) hP hR hd hX h.xlt hP' hb (fun k hk => by rcases hk with rfl | rfl; exact .inr (.inr (.inr (.inr (.inr (.inl rfl))))); exact .inr (.inr (.inr (.inr (.inr (.inr rfl)))))) (fun k hk => .inl hk) (by omega) (fun _ => False) (fun _ h => h.elim)
  exact ⟨rfl, hide (hA.1.sub fun k hk => .inl hk), hide hA.2⟩
theorem AllSt.ack (h : AllSt w X cg g p q K pace term x N G T Q N' G' T' Q') (s : ByteArray) (e : Int) (hk : KOk s e) (hK : K ≤ 600000) :
    Calls Try.prog 19 #[.pointer (some ⟨g, 0, none⟩), .string s, .int .i64 e] w fun en w' => en = .returned (.tuple #[]) ∧ Hid (AllSt w' X cg g p q (K + 1) pace term x N (setG G s e) T Q N' G' T' Q') ∧ Hid (But (fun k => ¬ X k) w w') := by
  obtain ⟨bt, bw, b1, b2, B, A, n, c, L, A1, n1, c1, LB, A2, n2, c2, W, hP, hR, hd, hX⟩ := h.ex
  refine (ack_any g b1 b2 K N G term x s e w hP.desk hk (by unfold maxLen; omega)).mono ?_
  rintro en w' ⟨rfl, hD, hb⟩
  have a1 := hP.n3
  have hP' : PSt w' cg bt bw g b1 b2 (K + 1) B N (setG G s e) T Q pace term x := ⟨hb.row hP.row (fun hh => by rcases hh with hh | hh <;> omega), (hP.turns.but hb (fun hh => by rcases hh with hh | hh <;> omega)).mono (by omega), (hP.waits.but hb (fun hh => by rcases hh with hh | hh <;> omega) (fun s b hs hh => by have := hP.n2 s b hs; rcases hh with hh | hh <;> omega)).mono (by omega), hD, hP.n1, hP.n2, hP.n3, fun s v hv => by have := hP.few s v hv; omega, hP.i64⟩
  have hA := AllSt.prog (X := X) hP hR hd hX h.xlt hP' hb (fun k hk => by rcases hk with rfl | rfl; exact .inr (.inr (.inr (.inr (.inr (.inl rfl))))); exact .inr (.inr (.inr (.inr (.inr (.inr rfl)))))) (fun k hk => .inl hk) (by omega) (fun _ => False) (fun _ h => h.elim)
  exact ⟨rfl, hide (hA.1.sub fun k hk => .inl hk), hide hA.2⟩
theorem AllSt.wait (h : AllSt w X cg g p q K pace term x N G T Q N' G' T' Q') (s : ByteArray) (y : Int × Int) (hk : s.size ≤ maxLen) (hy : WOk y) (hK : K ≤ 600000) :
    Calls Try.prog 11 #[.pointer (some ⟨cg, 0, none⟩), .string s, .int .i64 y.1, .int .i64 y.2] w fun en w' => en = .returned (.tuple #[]) ∧ Hid (AllSt w' X cg g p q (K + 2) pace term x N G T (setQ Q s (fun z => z == y || Q s z)) N' G' T' Q') ∧ Hid (But (fun k => ¬ X k) w w') := by
  obtain ⟨bt, bw, b1, b2, B, A, n, c, L, A1, n1, c1, LB, A2, n2, c2, W, hP, hR, hd, hX⟩ := h.ex
  refine (wait_any cg bt bw K pace B Q s y w hP.row hP.waits hP.n1.2.1 hk hy (by omega)).mono ?_
  rintro en w' ⟨rfl, B', hW, hB', hb⟩
  have a1 := hP.n3; have a0 := hP.n1
  have l1 := hP.row.lt; have l2 := hP.turns.lt; have l3 := hP.desk.row.lt; have l4 := hP.desk.notes.lt; have l5 := hP.desk.gone.lt
  have hno : ∀ k, k = cg ∨ k = bt ∨ k = g ∨ k = b1 ∨ k = b2 → ¬ (k = bw ∨ ∃ s', B s' = some k) := fun k hk hh => by
    rcases hh with hh | ⟨s', hs'⟩
    · omega
    · have := hP.n2 s' k hs'; omega
  have hP' : PSt w' cg bt bw g b1 b2 (K + 2) B' N G T (setQ Q s (fun z => z == y || Q s z)) pace term x := ⟨hb.out.row hP.row (hno cg (by omega)), (hP.turns.but hb.out (hno bt (by omega))).mono (by omega), hW.out, (hP.desk.but hb.out (hno g (by omega)) (hno b1 (by omega)) (hno b2 (by omega))).mono (by omega), hP.n1, fun s' b hs' => by
    rcases hB'.out s' b hs' with h2 | h2
    · exact hP.n2 s' b h2
    · omega, hP.n3, fun s v hv => by have := hP.few s v hv; omega, hP.i64⟩
  have hA := AllSt.prog (X := X) hP hR hd hX h.xlt hP' hb.out (fun k hk => by
    rcases hk with rfl | ⟨s', hs'⟩
    · exact .inr (.inr (.inl rfl))
    · exact .inr (.inr (.inr (.inl ⟨s', hs'⟩)))) (fun k hk => by
    rcases hk with h2 | h2 | h2 | ⟨s', h2⟩ | h2 | h2 | h2
    · exact .inl (.inl h2)
    · exact .inl (.inr (.inl h2))
    · exact .inl (.inr (.inr (.inl h2)))
    · rcases hB'.out s' k h2 with h3 | h3
      · exact .inl (.inr (.inr (.inr (.inl ⟨s', h3⟩))))
      · exact .inr h3
    · exact .inl (.inr (.inr (.inr (.inr (.inl h2)))))
    · exact .inl (.inr (.inr (.inr (.inr (.inr (.inl h2))))))
    · exact .inl (.inr (.inr (.inr (.inr (.inr (.inr h2))))))) (by omega) (fun _ => False) (fun _ h => h.elim)
  exact ⟨rfl, hide (hA.1.sub fun k hk => .inl hk), hide hA.2⟩
theorem AllSt.gone (h : AllSt w X cg g p q K pace term x N G T Q N' G' T' Q') (s : ByteArray) (hk : s.size ≤ maxLen) (hK : K ≤ 600000) :
    Calls Try.prog 12 #[.pointer (some ⟨cg, 0, none⟩), .string s] w fun en w' => ∃ A c ls, en = .returned (.slice A ls.length c) ∧ Hid (Just (Q s) ls ∧ ls.length ≤ 1000000) ∧ Hid (OwnS 2 w' w.heap.size 50 A ls.length c (ls.flatMap waitC)) ∧ Hid (AllSt w' (fun k => X k ∨ (Value.slice A ls.length c).ownBlock = some k) cg g p q K pace term x N G T (setQ Q s (fun _ => false)) N' G' T' Q') ∧ Hid (But (fun k => ¬ X k) w w') := by
  obtain ⟨bt, bw, b1, b2, B, A, n, c, L, A1, n1, c1, LB, A2, n2, c2, W, hP, hR, hd, hX⟩ := h.ex
  refine (gone_any cg bt bw K pace B Q s w hP.row hP.waits hP.n1.2.1 hk (by omega)).mono ?_
  rintro en w' ⟨A, c, ls, rfl, hJ, ho, hW, hb⟩
  have a1 := hP.n3; have a0 := hP.n1
  have hBs : ∀ s' b, setB B s none s' = some b → B s' = some b := fun s' b hs' => by
    by_cases hc : s' = s
    · subst hc; rw [setB_same] at hs'; cases hs'
    · rwa [setB_other _ _ hc] at hs'
  have hsub : ∀ k, PB cg bt bw (setB B s none) g b1 b2 k → PB cg bt bw B g b1 b2 k := fun k hk => by
    rcases hk with h2 | h2 | h2 | ⟨s', h2⟩ | h2 | h2 | h2
    · exact .inl h2
    · exact .inr (.inl h2)
    · exact .inr (.inr (.inl h2))
    · exact .inr (.inr (.inr (.inl ⟨s', hBs s' k h2⟩)))
    · exact .inr (.inr (.inr (.inr (.inl h2))))
    · exact .inr (.inr (.inr (.inr (.inr (.inl h2)))))
    · exact .inr (.inr (.inr (.inr (.inr (.inr h2)))))
  have hP' : PSt w' cg bt bw g b1 b2 K (setB B s none) N G T (setQ Q s (fun _ => false)) pace term x := ⟨hb.out.row hP.row (fun hh => by have hh : cg = bw := hh; omega), hP.turns.but hb.out (fun hh => by have hh : bt = bw := hh; omega), hW.out, hP.desk.but hb.out (fun hh => by have hh : g = bw := hh; omega) (fun hh => by have hh : b1 = bw := hh; omega) (fun hh => by have hh : b2 = bw := hh; omega), hP.n1, fun s' b hs' => hP.n2 s' b (hBs s' b hs'), hP.n3, hP.few, hP.i64⟩
  have hA := AllSt.prog (X := X) hP hR hd hX h.xlt hP' hb.out (fun k hk => .inr (.inr (.inl hk))) (fun k hk => .inl (hsub k hk)) (Nat.le_refl _) (fun k => (Value.slice A ls.length c).ownBlock = some k) (fun k hk => ⟨ho.out.row_ge k hk, ho.out.row_lt k hk, fun hh => by have := hP.lt k (hsub k hh); have := ho.out.row_ge k hk; omega⟩)
  exact ⟨A, c, ls, rfl, hJ, ho, hide hA.1, hide hA.2⟩
theorem AllSt.reset (h : AllSt w X cg g p q K pace term x N G T Q N' G' T' Q') :
    Calls Try.prog 13 #[.pointer (some ⟨cg, 0, none⟩)] w fun en w' => en = .returned (.tuple #[]) ∧ Hid (AllSt w' X cg g p q K pace term x N G (fun _ => none) (fun _ _ => false) N' G' T' Q') ∧ Hid (But (fun k => ¬ X k) w w') := by
  obtain ⟨bt, bw, b1, b2, B, A, n, c, L, A1, n1, c1, LB, A2, n2, c2, W, hP, hR, hd, hX⟩ := h.ex
  refine (reset_any cg pace _ _ w hP.row).mono ?_
  rintro en w' ⟨rfl, hC, hN, hb⟩
  have a1 := hP.n3; have a0 := hP.n1
  have l1 := hP.row.lt; have l3 := hP.desk.row.lt; have l4 := hP.desk.notes.lt; have l5 := hP.desk.gone.lt
  have hP' : PSt w' cg w.heap.size (w.heap.size + 1) g b1 b2 K (fun _ => none) N G (fun _ => none) (fun _ _ => false) pace term x := ⟨hC.row, hC.turns.mono (by omega), (WaitSt.of_none hN).mono (by omega), hP.desk.but hb (fun hh => by have hh : g = cg := hh; omega) (fun hh => by have hh : b1 = cg := hh; omega) (fun hh => by have hh : b2 = cg := hh; omega), by omega, fun _ _ h => (by cases h), by omega, fun _ _ h => (by cases h), hP.i64⟩
  have hA := AllSt.prog (X := X) hP hR hd hX h.xlt hP' hb (fun k hk => .inl hk) (fun k hk => by
    rcases hk with h2 | h2 | h2 | ⟨s', h2⟩ | h2 | h2 | h2
    · exact .inl (.inl h2)
    · exact .inr (by omega)
    · exact .inr (by omega)
    · cases h2
    · exact .inl (.inr (.inr (.inr (.inr (.inl h2)))))
    · exact .inl (.inr (.inr (.inr (.inr (.inr (.inl h2))))))
    · exact .inl (.inr (.inr (.inr (.inr (.inr (.inr h2))))))) (Nat.le_refl _) (fun _ => False) (fun _ h => h.elim)
  exact ⟨rfl, hide (hA.1.sub fun k hk => .inl hk), hide hA.2⟩
theorem AllSt.turn (h : AllSt w X cg g p q K pace term x N G T Q N' G' T' Q') (AP : Option Addr) (m c : Nat) (fs : List Fam) (now : Int) (hsl : SlFam w X AP m fs) (hfl : ∀ f ∈ fs, f.ls.length ≤ 100) (hm : m ≤ 10) (hK : K ≤ 600000) (hnow : I64 now) (hterm : I64 term) (hpace : 1 ≤ pace ∧ pace ≤ 4096) (r : TS) (hr : tellI G now term pace T N fs = r) :
    Calls Try.prog 9 #[.pointer (some ⟨cg, 0, none⟩), .pointer (some ⟨g, 0, none⟩), .slice AP m c, .int .i64 now] w fun e w' => ∃ A1 c1 A2 c2, e = .returned (.tuple #[.slice A1 r.tell.length c1, .slice A2 r.done.length c2]) ∧ Hid (OwnS 2 w' w.heap.size 41 A1 r.tell.length c1 (r.tell.flatMap Inv.cells)) ∧ Hid (Own w' w.heap.size 9 A2 r.done.length c2 (r.done.map Value.string)) ∧
      Hid (AllSt w' (fun k => X k ∨ (Value.slice A1 r.tell.length c1).ownBlock = some k ∨ (Value.slice A2 r.done.length c2).ownBlock = some k) cg g p q (K + 1000) pace term x r.N G r.T Q N' G' T' Q') ∧ Hid (But (fun k => ¬ X k) w w') := by
  obtain ⟨bt, bw, b1, b2, B, A, n, c0, L, A10, n1, c10, LB, A20, n2, c20, W, hP, hR, hd, hX⟩ := h.ex
  have a1 := hP.n3; have a0 := hP.n1
  refine (turnc_any g b1 b2 K cg bt bw K N G T term x pace AP m c X fs now w hP.desk ⟨hP.row, hP.turns, hP.n1.1⟩ (by omega) hsl (fun k hk => ⟨h.xlt k hk, fun hh => (hX k hk).1 (by rcases hh with rfl | rfl; exact .inr (.inr (.inr (.inr (.inr (.inl rfl))))); exact .inr (.inr (.inr (.inr (.inr (.inr rfl))))))⟩) hfl (by omega) (by omega) hnow hterm hP.i64 hpace (fun s v hv => by have := hP.few s v hv; omega)).mono ?_
  rintro e w' ⟨A1, c1, A2, c2, he, ho1, ho2, hC, hD, hb⟩
  rw [hr] at he ho1 ho2 hC hD
  have l1 := hP.row.lt; have l3 := hP.desk.row.lt; have l4 := hP.desk.notes.lt; have l5 := hP.desk.gone.lt; have l6 := hP.waits.lt
  have hFw : Few ((K + 1000 : Nat) : Int) r.T := fun s v hv => by
    have := tellI_few (K := K) (G := G) (now := now) (term := term) (pace := pace) hP.few (by omega) N fs
    rw [hr] at this
    have := this s v hv
    omega
  have hP' : PSt w' cg w.heap.size bw g b1 b2 (K + 1000) B r.N G r.T Q pace term x := ⟨hC.out.row, hC.out.turns.mono (by omega), (hP.waits.but hb.out (fun hh => by rcases hh with hh | hh | hh <;> omega) (fun s b hs hh => by have := hP.n2 s b hs; rcases hh with hh | hh | hh <;> omega)).mono (by omega), hD.out.mono (by omega), by omega, fun s b hs => by have := hP.n2 s b hs; have := hP.waits.blt hs; omega, by omega, hFw, fun s e a ha => by rw [← hr] at ha; exact tellI_i64 hnow fs hP.i64 s e a ha⟩
  have hA := AllSt.prog (X := X) hP hR hd hX h.xlt hP' hb.out (fun k hk => by
    rcases hk with rfl | rfl | rfl
    · exact .inl rfl
    · exact .inr (.inr (.inr (.inr (.inr (.inl rfl)))))
    · exact .inr (.inr (.inr (.inr (.inr (.inr rfl)))))) (fun k hk => by
    rcases hk with h2 | h2 | h2
    · exact .inl (.inl h2)
    · exact .inr (by omega)
    · exact .inl (.inr (.inr h2))) (by omega) (fun k => (Value.slice A1 r.tell.length c1).ownBlock = some k ∨ (Value.slice A2 r.done.length c2).ownBlock = some k) (fun k hk => by
    have hge : w.heap.size ≤ k ∧ k < w'.heap.size := by
      rcases hk with hk | hk
      · exact ⟨ho1.out.row_ge k hk, ho1.out.row_lt k hk⟩
      · exact ⟨ho2.out.row_ge k hk, ho2.out.row_lt k hk⟩
    refine ⟨hge.1, hge.2, fun hh => ?_⟩
    have hbt : k ≠ w.heap.size := fun e => by
      subst e
      rcases hk with hk | hk
      · exact ho1.out.no_map hC.out.turns.obj hk
      · exact (OwnS.of_own ho2.out).no_map hC.out.turns.obj hk
    rcases hh with h2 | h2 | h2 | ⟨s', h2⟩ | h2 | h2 | h2
    · omega
    · omega
    · omega
    · have := hP.waits.blt h2; omega
    · omega
    · omega
    · omega)
  exact ⟨A1, c1, A2, c2, he, ho1, ho2, hide hA.1, hide hA.2⟩
theorem AllSt.rnote (h : AllSt w X cg g p q K pace term x N G T Q N' G' T' Q') (s : ByteArray) (e now : Int) (hn : I64 now) (hK : K ≤ 600000) :
    Calls Try.prog 18 #[.pointer (some ⟨q, 0, none⟩), .string s, .int .i64 e, .int .i64 now] w fun en w' => en = .returned (.tuple #[]) ∧ Hid (AllSt w' X cg g p q (K + 1) pace term x N G T Q (noteN N' s e now) G' T' Q') ∧ Hid (But (fun k => ¬ X k) w w') := by
  obtain ⟨bt, bw, b1, b2, B, A, n, c, L, A1, n1, c1, LB, A2, n2, c2, W, hP, hR, hd, hX⟩ := h.ex
  have sm := hR.small
  refine (rnote_any q n c A L term s e now w hR.desk (by omega) hn N' G' hR.eN hR.eG).mono ?_
  rintro en w' ⟨rfl, A', n', c', L', hn', hT⟩
  have hA := AllSt.doc (X := X) (K' := K + 1) (p' := p) (W' := W) (T2 := T') (Q2 := Q') hP hR hd hX h.xlt ⟨hT.desk, hR.crew.but hT.but (fun k hk hh => hR.sep k hk hh), fun k hk hh => (hT.new k hh).elim (hR.sep k hk) (fun hle => by have := hR.crew.lt k hk; omega), hT.N, hT.G, hR.eT, hR.eQ, hR.ok, fun y hy => by have := hR.few y hy; omega, by omega⟩ hT.but (fun k hk => .inl hk) (fun k hk => hk.elim (fun hk => (hT.new k hk).elim (fun h => .inl (.inl h)) .inr) (fun hk => .inl (.inr hk))) (by omega)
  exact ⟨rfl, hide hA.1, hide hA.2⟩
theorem AllSt.rack (h : AllSt w X cg g p q K pace term x N G T Q N' G' T' Q') (s : ByteArray) (e : Int) (hK : K ≤ 600000) :
    Calls Try.prog 20 #[.pointer (some ⟨q, 0, none⟩), .string s, .int .i64 e] w fun en w' => en = .returned (.tuple #[]) ∧ Hid (AllSt w' X cg g p q (K + 1) pace term x N G T Q N' (setG G' s e) T' Q') ∧ Hid (But (fun k => ¬ X k) w w') := by
  obtain ⟨bt, bw, b1, b2, B, A, n, c, L, A1, n1, c1, LB, A2, n2, c2, W, hP, hR, hd, hX⟩ := h.ex
  have sm := hR.small
  refine (rack_any q n c A L term s e w hR.desk (by omega) N' G' hR.eN hR.eG).mono ?_
  rintro en w' ⟨rfl, A', n', c', L', hn', hT⟩
  have hA := AllSt.doc (X := X) (K' := K + 1) (p' := p) (W' := W) (T2 := T') (Q2 := Q') hP hR hd hX h.xlt ⟨hT.desk, hR.crew.but hT.but (fun k hk hh => hR.sep k hk hh), fun k hk hh => (hT.new k hh).elim (hR.sep k hk) (fun hle => by have := hR.crew.lt k hk; omega), hT.N, hT.G, hR.eT, hR.eQ, hR.ok, fun y hy => by have := hR.few y hy; omega, by omega⟩ hT.but (fun k hk => .inl hk) (fun k hk => hk.elim (fun hk => (hT.new k hk).elim (fun h => .inl (.inl h)) .inr) (fun hk => .inl (.inr hk))) (by omega)
  exact ⟨rfl, hide hA.1, hide hA.2⟩
theorem AllSt.rwait (h : AllSt w X cg g p q K pace term x N G T Q N' G' T' Q') (s : ByteArray) (y : Int × Int) (hy : WOk y) (hK : K ≤ 600000) :
    Calls Try.prog 21 #[.pointer (some ⟨p, 0, none⟩), .string s, .int .i64 y.1, .int .i64 y.2] w fun en w' => en = .returned (.tuple #[]) ∧ Hid (AllSt w' X cg g p q (K + 2) pace term x N G T Q N' G' T' (setQ Q' s (fun z => z == y || Q' s z))) ∧ Hid (But (fun k => ¬ X k) w w') := by
  obtain ⟨bt, bw, b1, b2, B, A, n, c, L, A1, n1, c1, LB, A2, n2, c2, W, hP, hR, hd, hX⟩ := h.ex
  have sm := hR.small
  refine (rwait_any p n1 c1 n2 c2 A1 A2 LB W pace s y.1 y.2 w hR.crew (by omega)).mono ?_
  rintro en w' ⟨rfl, A3, c3, hC, hb, hnew⟩
  have hA := AllSt.doc (X := X) (K' := K + 2) (p' := p) (N2 := N') (G2 := G') (T2 := T') (Q2 := setQ Q' s (fun z => z == y || Q' s z)) hP hR hd hX h.xlt ⟨hR.desk.but hb.out (fun k hk hh => hR.sep k hh hk), hC.out, fun k hk hh => (hnew.out k hk).elim (fun h2 => hR.sep k h2 hh) (fun hle => by have := hR.desk.lt k hh; omega), hR.eN, hR.eG, hR.eT, fun s' z => ?_, fun r hr => ?_, fun y hy => by have := hR.few y hy; omega, by omega⟩ hb.out (fun k hk => .inr hk) (fun k hk => hk.elim (fun hk => .inl (.inl hk)) (fun hk => (hnew.out k hk).elim (fun h => .inl (.inr h)) .inr)) (by omega)
  exact ⟨rfl, hide hA.1, hide hA.2⟩
  · by_cases hs : s' = s
    · subst hs
      rw [setQ_same, Bool.or_eq_true, beq_iff_eq, hR.eQ]
      constructor
      · rintro (rfl | ⟨r, hr, h1⟩)
        · exact ⟨⟨s', z.1, z.2⟩, by simp, rfl, rfl⟩
        · exact ⟨r, by simp [hr], h1⟩
      · rintro ⟨r, hr, h1, h2⟩
        rw [List.mem_append, List.mem_singleton] at hr
        rcases hr with hr | rfl
        · exact .inr ⟨r, hr, h1, h2⟩
        · exact .inl h2.symm
    · rw [setQ_other _ _ hs, hR.eQ]
      constructor
      · rintro ⟨r, hr, h1⟩; exact ⟨r, by simp [hr], h1⟩
      · rintro ⟨r, hr, h1, h2⟩
        rw [List.mem_append, List.mem_singleton] at hr
        rcases hr with hr | rfl
        · exact ⟨r, hr, h1, h2⟩
        · exact absurd h1.symm hs
  · rw [List.mem_append, List.mem_singleton] at hr
    rcases hr with hr | rfl
    · exact hR.ok r hr
    · exact hy
theorem AllSt.rgone (h : AllSt w X cg g p q K pace term x N G T Q N' G' T' Q') (s : ByteArray) (hK : K ≤ 600000) :
    Calls Try.prog 22 #[.pointer (some ⟨p, 0, none⟩), .string s] w fun en w' => ∃ A c ls, en = .returned (.slice A ls.length c) ∧ Hid (Just (Q' s) ls) ∧ Hid (OwnS 2 w' w.heap.size 50 A ls.length c (ls.flatMap waitC)) ∧ Hid (AllSt w' X cg g p q K pace term x N G T Q N' G' T' (setQ Q' s (fun _ => false))) ∧ Hid (But (fun k => ¬ X k) w w') := by
  obtain ⟨bt, bw, b1, b2, B, A, n, c, L, A1, n1, c1, LB, A2, n2, c2, W, hP, hR, hd, hX⟩ := h.ex
  have sm := hR.small
  have hl2 := hR.crew.len2
  refine (rgone_any p n1 c1 n2 c2 A1 A2 LB W pace s w hR.crew (by omega)).mono ?_
  rintro en w' ⟨Al, cl, ls, rfl, hG, ho, A3, n3, c3, hn3, hC, hb, hnew⟩
  have hn' : ∀ k, RC p A1 n1 c1 A3 n3 c3 k → RC p A1 n1 c1 A2 n2 c2 k ∨ w.heap.size ≤ k := fun k hk => by
    rcases hnew.out k hk with h2 | h2 | h2
    · exact .inl (.inl h2)
    · exact .inl (.inr (.inl h2))
    · exact .inr h2
  have hA := AllSt.doc (X := X) (K' := K) (p' := p) (N2 := N') (G2 := G') (T2 := T') (Q2 := setQ Q' s (fun _ => false)) hP hR hd hX h.xlt ⟨hR.desk.but hb.out (fun k hk hh => hR.sep k (.inl hh) hk), hC.out, fun k hk hh => (hn' k hk).elim (fun h2 => hR.sep k h2 hh) (fun hle => by have := hR.desk.lt k hh; omega), hR.eN, hR.eG, hR.eT, fun s' z => ?_, fun r hr => hR.ok r (List.mem_filter.1 hr).1, hR.few, by omega⟩ hb.out (fun k hk => .inr (.inl hk)) (fun k hk => hk.elim (fun hk => .inl (.inl hk)) (fun hk => (hn' k hk).elim (fun h => .inl (.inr h)) .inr)) (Nat.le_refl _)
  refine ⟨Al, cl, ls, rfl, hide ⟨hG.out.1.1, fun z => ?_⟩, ho, hide hA.1, hide hA.2⟩
  · rw [hG.out.1.2]
    exact ⟨fun ⟨r, hr, h1, h2⟩ => ⟨h2 ▸ hR.ok r hr, (hR.eQ s z).2 ⟨r, hr, h1, h2⟩⟩, fun hz => (hR.eQ s z).1 hz.2⟩
  · by_cases hs : s' = s
    · subst hs
      rw [setQ_same]
      constructor
      · intro h; cases h
      · rintro ⟨r, hr, h1, h2⟩
        have := (List.mem_filter.1 hr).2
        simp [h1] at this
    · rw [setQ_other _ _ hs, hR.eQ]
      constructor
      · rintro ⟨r, hr, h1, h2⟩
        exact ⟨r, List.mem_filter.2 ⟨hr, by simp [h1, hs]⟩, h1, h2⟩
      · rintro ⟨r, hr, h1⟩
        exact ⟨r, (List.mem_filter.1 hr).1, h1⟩
theorem AllSt.rturn (h : AllSt w X cg g p q K pace term x N G T Q N' G' T' Q') (AP : Option Addr) (m cp : Nat) (fs : List Fam) (now : Int) (hsl : SlFam w X AP m fs) (hfl : ∀ f ∈ fs, f.ls.length ≤ 100) (hm : m ≤ 10) (hK : K ≤ 600000) (hnow : I64 now) (hterm : I64 term) (hpace : 1 ≤ pace ∧ pace ≤ 4096) (r : TS) (hr : tellI G' now term pace T' N' fs = r) :
    Calls Try.prog 15 #[.pointer (some ⟨p, 0, none⟩), .pointer (some ⟨q, 0, none⟩), .slice AP m cp, .int .i64 now] w fun e w' => ∃ At ct Ao co, e = .returned (.tuple #[.slice At r.tell.length ct, .slice Ao r.done.length co]) ∧ Hid (OwnS 2 w' w.heap.size 41 At r.tell.length ct (r.tell.flatMap Inv.cells)) ∧ Hid (Own w' w.heap.size 9 Ao r.done.length co (r.done.map Value.string)) ∧
      Hid (AllSt w' X cg g p q (K + 1000) pace term x N G T Q r.N G' r.T Q') ∧ Hid (But (fun k => ¬ X k) w w') := by
  obtain ⟨bt, bw, b1, b2, B, A, n, c, L, A1, n1, c1, LB, A2, n2, c2, W, hP, hR, hd, hX⟩ := h.ex
  have sm := hR.small
  refine (rturnc_any q n c A L p n1 c1 A1 LB n2 c2 A2 W K N' G' T' term pace AP m cp X fs now w hR.desk hR.eN hR.eG hR.crew hR.eT hR.few (by omega) hR.sep hsl (fun k hk => ⟨h.xlt k hk, (hX k hk).2.1⟩) hfl (by omega) (by omega) (by omega) hnow hterm hpace r hr).mono ?_
  rintro e w' ⟨At, ct, Ao, co, he, ho1, ho2, A', n', c', L', An, nn, cn, next, hn', hD, hE, hC, hGT, hF, hb, hnD, hnC, hsep⟩
  have hsm := hn'.out
  have hA := AllSt.doc (X := X) (K' := K + 1000) (p' := p) (N2 := r.N) (G2 := G') (T2 := r.T) (Q2 := Q') hP hR hd hX h.xlt ⟨hD.out, hC.out, fun k hk hh => hsep.out k hh hk, hE.out.1, hE.out.2, hGT.out, hR.eQ, hR.ok, fun y hy => by have := hF.out y hy; omega, by omega⟩ hb.out (fun k hk => by
    rcases hk with hk | hk
    · exact .inr (.inl hk)
    · exact .inl hk) (fun k hk => by
    rcases hk with hk | hk
    · exact (hnD.out k hk).elim (fun h => .inl (.inl h)) .inr
    · exact (hnC.out k hk).elim (fun h => .inl (.inr h)) .inr) (by omega)
  exact ⟨At, ct, Ao, co, he, ho1, ho2, hide hA.1, hide hA.2⟩
/-- a crew anew -/
theorem AllSt.rnew (h : AllSt w X cg g p q K pace term x N G T Q N' G' T' Q') : AllSt (w.alloc (.cells #[.slice none 0 0, .slice none 0 0, .int .i64 pace] 56)) X cg g w.heap.size q K pace term x N G T Q N' G' (fun _ => none) (fun _ _ => false) := by
  obtain ⟨bt, bw, b1, b2, B, A, n, c, L, A1, n1, c1, LB, A2, n2, c2, W, hP, hR, hd, hX⟩ := h.ex
  have sm := hR.small
  have hRC : ∀ k, RC w.heap.size none 0 0 none 0 0 k → k = w.heap.size := fun k hk => by
    rcases hk with h2 | h2 | h2
    · exact h2
    · cases h2
    · cases h2
  exact (AllSt.doc (X := X) (K' := K) (p' := w.heap.size) (N2 := N') (G2 := G') (T2 := fun _ => none) (Q2 := fun _ _ => false) (S := fun _ => False) (W' := []) (LB' := []) hP hR hd hX h.xlt ⟨hR.desk.below ((Below.refl _ _).alloc (Nat.le_refl _) _), RCrew.made w pace, fun k hk hh => by have := hRC k hk; have := hR.desk.lt k hh; omega, hR.eN, hR.eG, fun _ => rfl, fun s z => by simp, fun r hr => (by cases hr), fun y hy => (by cases hy), by omega⟩ (But.of_alloc w _) (fun k hk => hk.elim) (fun k hk => hk.elim (fun h => .inl (.inl h)) (fun h => .inr (by have := hRC k h; omega))) (Nat.le_refl _)).1
end
end Go.Proofs.Ytigeccflfdekiaa
