/-
  Lease: the document's Note, Ack.
-/
import Derived.Test.YtigeccflfdekiaaLeaseQ
import Derived.Deep.DeepMust
namespace Go.Proofs.Ytigeccflfdekiaa
open Go.RowKit
set_option linter.unusedVariables false

/-- what a call of the document's desk does -/
structure RTurn (w w' : World) (q : Nat) (A : Option Addr) (n c : Nat) (A' : Option Addr) (n' c' : Nat) (L' : List RN) (term : Int) (N : ByteArray → Int → Option Int) (G : ByteArray → Int → Bool) : Prop where
  desk : RDesk w' q A' n' c' L' term
  but : But (RB q A n c) w w'
  new : ∀ k, RB q A' n' c' k → RB q A n c k ∨ w.heap.size ≤ k
  N : ∀ s e, getN L' s e = N s e
  G : ∀ s e, getG L' s e = G s e
theorem info_rn : (Try.prog.info? 96).map (fun i => (i.zero, i.size, i.bytes)) = some (some (.agg #[.string ByteArray.empty, .int .i64 0, .int .i64 0, .bool false]), 4, 40) := by kernel_rfl
theorem But.grown_row {S : Nat → Prop} {w w' w'' : World} {row : Option Nat} (h : But S w w') (hg : w'.grownBy w'' row) (hr : ∀ k, row = some k → S k ∨ w.heap.size ≤ k) : But S w w'' :=
  ⟨hg.os.trans h.os, hg.tape.trans h.tape, hg.output.trans h.output, Nat.le_trans h.size hg.size, fun k hk hS => (hg.block k (Nat.lt_of_lt_of_le hk h.size) (fun e => (hr k e.symm).elim hS (fun hle => by omega))).trans (h.block k hk hS)⟩
/-- a note is set down behind the others -/
theorem rdesk_app {w w2 : World} {q n c c2 : Nat} {A A2 : Option Addr} {L : List RN} {term : Int} (hd : RDesk w q A n c L term) (x : RN) (hx : I64 x.a) (e' : Nat)
    (ho : OwnS 4 w2 (q + 1) 96 A2 (n + 1) c2 (L.flatMap RN.cells ++ x.cells)) (hg : (w.alloc (.cells x.cells.toArray e')).grownBy w2 (Value.slice A n c).ownBlock)
    (hat : (Value.slice A2 (n + 1) c2).ownBlock = (Value.slice A n c).ownBlock ∨ (Value.slice A2 (n + 1) c2).ownBlock = some (w.heap.size + 1)) :
    RDesk (w2.setCell ⟨q, 0, none⟩ (.slice A2 (n + 1) c2)) q A2 (n + 1) c2 (L ++ [x]) term ∧ But (RB q A n c) w (w2.setCell ⟨q, 0, none⟩ (.slice A2 (n + 1) c2)) ∧ (∀ k, RB q A2 (n + 1) c2 k → RB q A n c k ∨ w.heap.size ≤ k) := by
  have b1 : But (RB q A n c) w w2 := (But.of_below (S := RB q A n c) ((Below.refl w.heap.size w).alloc (Nat.le_refl _) (.cells x.cells.toArray e'))).grown_row hg (fun k hk => .inl (.inr hk))
  have r2 : RowV w2 q 60 [.slice A n c, .int .i64 term] := by
    have := hg.block q (by rw [World.size_alloc]; have := hd.row.lt; omega) (fun e => by have := hd.own.row_ge q e.symm; omega)
    exact this.trans (hd.row.alloc _)
  refine ⟨⟨r2.set 0 _, ?_, by rw [List.length_append, hd.len]; rfl, fun y hy => ?_⟩, b1.setC (.inl rfl), fun k hk => ?_⟩
  · rw [List.flatMap_append, List.flatMap_cons, List.flatMap_nil, List.append_nil]
    exact ho.but_row (S := fun k => k = q) ((But.refl _ _).setC rfl) (fun k hk e => by have := ho.row_ge k hk; omega)
  · rcases List.mem_append.1 hy with h | h
    · exact hd.at64 y h
    · simp at h; subst h; exact hx
  · rcases hk with h | h
    · exact .inl (.inl h)
    · rcases hat with h2 | h2
      · exact .inl (.inr (h2 ▸ h))
      · rw [h] at h2; injection h2 with h2; exact .inr (by omega)
theorem mem_set_i64 {L : List RN} {i : Nat} {y : RN} (h : ∀ x ∈ L, I64 x.a) (hy : I64 y.a) : ∀ x ∈ L.set i y, I64 x.a := by
  intro x hx
  rcases List.mem_or_eq_of_mem_set hx with h1 | h1
  · exact h x h1
  · rw [h1]; exact hy
set_option maxHeartbeats 4000000 in
theorem rnote_any (q n c : Nat) (A : Option Addr) (L : List RN) (term : Int) (s : ByteArray) (e now : Int) (w : World) (hd : RDesk w q A n c L term) (hn : n ≤ 1000000) (hnow : I64 now) (N : ByteArray → Int → Option Int) (G : ByteArray → Int → Bool) (hN : ∀ s e, getN L s e = N s e) (hG : ∀ s e, getG L s e = G s e) :
    Calls Try.prog 18 #[.pointer (some ⟨q, 0, none⟩), .string s, .int .i64 e, .int .i64 now] w fun en w' => en = .returned (.tuple #[]) ∧ ∃ A' n' c' L', n' ≤ n + 1 ∧ RTurn w w' q A n c A' n' c' L' term (noteN N s e now) G := by
  have KF := hide (find_any q n c A L term s e false w hd hn)
  have c0 := hd.row.cell (k := 0) rfl
  have hqf := hd.row.free 0
  have HD := hide hd; have HN := hide hN; have HG := hide hG
  clear hd hN hG
  cases hix : idxR L s e false with
  | none =>
    have hf : findI L s e false = -1 := by unfold findI; rw [hix]
    have HNN : Hid (noteN N s e now = setN N s e now) := hide (by unfold noteN; rw [← HN.out, getN_none.1 hix])
    rw [hf] at KF
    have HIX := hide hix
    clear hf hix
    go_enter Try.func18, Try.ntmps18
    go_wp2_with fail
    refine KF.out.mono ?_
    rintro en w' ⟨rfl, rfl⟩
    have hqf2 : ∀ w2 : World, (w.alloc (.cells (RN.cells ⟨s, e, now, false⟩).toArray 96)).grownBy w2 (Value.slice A n c).ownBlock → w2.frozen? ⟨q, 0, none⟩ = false ∧ w2.cell? ⟨q, 0, none⟩ = some (.slice A n c) := fun w2 hg => by
      have r2 : RowV w2 q 60 [.slice A n c, .int .i64 term] := by
        have := hg.block q (by rw [World.size_alloc]; have := HD.out.row.lt; omega) (fun e => by have := HD.out.own.row_ge q e.symm; omega)
        exact this.trans (HD.out.row.alloc _)
      exact ⟨r2.free 0, r2.cell (k := 0) rfl⟩
    have HQF2 := hide hqf2
    clear hqf2
    have HONE : Hid (∀ u ∈ [Value.string s, .int .i64 e, .int .i64 now, .bool false], u.oneCell' = true) := hide (RN.cells_one ⟨s, e, now, false⟩)
    go_wp2_with (at_builtin; go_must (with_reducible refine wpList_appS1 rfl (.tmp 19) (.tmp 24) 58 rfl _ 40 Try.underlying58 info_rn rfl (by omega) [.string s, .int .i64 e, .int .i64 now, .bool false] 96 rfl HD.out.own rfl rfl HONE.out (by unfold maxLen; omega) (by omega) (by have := HD.out.row.lt; omega) ?_))
    intro A2 c2 w2 ho hg hat
    obtain ⟨g1, g2⟩ := HQF2.out w2 hg
    have HR := hide (rdesk_app HD.out ⟨s, e, now, false⟩ hnow _ ho hg hat)
    clear ho hg hat c0 hqf
    go_wp2_with fail
    go_end0
    obtain ⟨r1, r2, r3⟩ := HR.out
    refine ⟨rfl, A2, n + 1, c2, _, by omega, r1, r2, r3, fun s' e' => ?_, fun s' e' => ?_⟩
    · rw [getN_snoc, HNN.out, HN.out]
      unfold setN
      by_cases hc : s' = s ∧ e' = e
      · obtain ⟨rfl, rfl⟩ := hc
        rw [← HN.out, getN_none.1 HIX.out]
        simp [RN.is]
      · rw [if_neg hc, if_neg (fun h : RN.is _ s' e' false => hc ⟨h.1.symm, h.2.1.symm⟩)]
        cases N s' e' <;> rfl
    · rw [getG_snoc, HG.out]
      simp [RN.is]
  | some i =>
    obtain ⟨x, hx, hxi⟩ := idx_some hix
    have hf : findI L s e false = (i : Int) := by unfold findI; rw [hix]
    have hiL : i < n := by rw [← HD.out.len]; exact (List.getElem?_eq_some_iff.1 hx).1
    have HNx : Hid (N s e = some x.a) := hide (by rw [← HN.out]; exact getN_some hix hx)
    rw [hf] at KF
    have HIX := hide hix
    clear hf hix
    obtain ⟨g, o, x2, rfl, HO, HOB, hx2, _, _, k2, _, hfr⟩ := HD.out.at_ hiL
    obtain rfl : x = x2 := Option.some.inj (hx.symm.trans hx2)
    have hfr2 := hfr (o + i * 4 + 2)
    have hi1 : (i : Int) < (n : Int) := by omega
    have hi0 : (0 : Int) ≤ (i : Int) := by omega
    have HX := hide hx
    clear hx2 hx hfr hxi
    by_cases hlt : x.a < now
    · have HNN : Hid (noteN N s e now = setN N s e now) := hide (by unfold noteN; rw [HNx.out]; simp only; rw [if_pos hlt])
      go_enter Try.func18, Try.ntmps18
      go_wp2_with fail
      refine KF.out.mono ?_
      rintro en w' ⟨rfl, rfl⟩
      go_wp2_with fail
      go_end0
      refine ⟨rfl, _, n, c, L.set i ⟨x.s, x.e, now, x.g⟩, by omega, ⟨?_, ?_, by rw [List.length_set]; exact HD.out.len, mem_set_i64 HD.out.at64 hnow⟩, ?_, fun k hk => .inl hk, fun s' e' => ?_, fun s' e' => ?_⟩
      · refine HD.out.row.set_other (fun h => ?_)
        have := HD.out.own.row_ge g HOB.out; omega
      · obtain rfl : o = 0 := HO.out
        have := HD.out.own.set (j := i * 4 + 2) (.int .i64 now)
        rw [flat_set RN.cells_len HX.out (y := ⟨x.s, x.e, now, x.g⟩) (by omega) rfl] at this
        rw [Nat.zero_add]
        exact this
      · exact (But.refl _ w).setC (.inr HOB.out)
      · rw [getN_set HIX.out HX.out, HNN.out, HN.out]; rfl
      · rw [getG_set HX.out, HG.out]
    · have HNN : Hid (noteN N s e now = N) := hide (by unfold noteN; rw [HNx.out]; simp only; rw [if_neg hlt])
      go_enter Try.func18, Try.ntmps18
      go_wp2_with fail
      refine KF.out.mono ?_
      rintro en w' ⟨rfl, rfl⟩
      go_wp2_with fail
      go_end0
      exact ⟨rfl, _, n, c, L, by omega, HD.out, But.refl _ w, fun k hk => .inl hk, fun s' e' => by rw [HNN.out, HN.out], HG.out⟩
set_option maxHeartbeats 4000000 in
theorem rack_any (q n c : Nat) (A : Option Addr) (L : List RN) (term : Int) (s : ByteArray) (e : Int) (w : World) (hd : RDesk w q A n c L term) (hn : n ≤ 1000000) (N : ByteArray → Int → Option Int) (G : ByteArray → Int → Bool) (hN : ∀ s e, getN L s e = N s e) (hG : ∀ s e, getG L s e = G s e) :
    Calls Try.prog 20 #[.pointer (some ⟨q, 0, none⟩), .string s, .int .i64 e] w fun en w' => en = .returned (.tuple #[]) ∧ ∃ A' n' c' L', n' ≤ n + 1 ∧ RTurn w w' q A n c A' n' c' L' term N (setG G s e) := by
  have KF := hide (find_any q n c A L term s e true w hd hn)
  have c0 := hd.row.cell (k := 0) rfl
  have HD := hide hd; have HN := hide hN; have HG := hide hG
  clear hd hN hG
  cases hix : idxR L s e true with
  | none =>
    have hf : findI L s e true = -1 := by unfold findI; rw [hix]
    rw [hf] at KF
    have HIX := hide hix
    clear hf hix
    go_enter Try.func20, Try.ntmps20
    go_wp2_with fail
    refine KF.out.mono ?_
    rintro en w' ⟨rfl, rfl⟩
    have HQF2 : Hid (∀ w2 : World, (w.alloc (.cells (RN.cells ⟨s, e, 0, true⟩).toArray 96)).grownBy w2 (Value.slice A n c).ownBlock → w2.frozen? ⟨q, 0, none⟩ = false ∧ w2.cell? ⟨q, 0, none⟩ = some (.slice A n c)) := hide fun w2 hg => by
      have r2 : RowV w2 q 60 [.slice A n c, .int .i64 term] := by
        have := hg.block q (by rw [World.size_alloc]; have := HD.out.row.lt; omega) (fun e => by have := HD.out.own.row_ge q e.symm; omega)
        exact this.trans (HD.out.row.alloc _)
      exact ⟨r2.free 0, r2.cell (k := 0) rfl⟩
    have HONE : Hid (∀ u ∈ [Value.string s, .int .i64 e, .int .i64 0, .bool true], u.oneCell' = true) := hide (RN.cells_one ⟨s, e, 0, true⟩)
    go_wp2_with (at_builtin; go_must (with_reducible refine wpList_appS1 rfl (.tmp 15) (.tmp 19) 58 rfl _ 40 Try.underlying58 info_rn rfl (by omega) [.string s, .int .i64 e, .int .i64 0, .bool true] 96 rfl HD.out.own rfl rfl HONE.out (by unfold maxLen; omega) (by omega) (by have := HD.out.row.lt; omega) ?_))
    intro A2 c2 w2 ho hg hat
    obtain ⟨g1, g2⟩ := HQF2.out w2 hg
    have HR := hide (rdesk_app HD.out ⟨s, e, 0, true⟩ (show I64 0 by unfold I64; omega) _ ho hg hat)
    clear ho hg hat c0
    go_wp2_with fail
    go_end0
    obtain ⟨r1, r2, r3⟩ := HR.out
    refine ⟨rfl, A2, n + 1, c2, _, by omega, r1, r2, r3, fun s' e' => ?_, fun s' e' => ?_⟩
    · rw [getN_snoc, HN.out]
      simp only [RN.is]
      cases N s' e' <;> simp
    · rw [getG_snoc, HG.out]
      unfold setG
      rw [Bool.or_comm]
      congr 1
      simp only [RN.is, and_true]
      by_cases hc : s' = s ∧ e' = e
      · rw [decide_eq_true hc, decide_eq_true ⟨hc.1.symm, hc.2.symm⟩]
      · rw [decide_eq_false hc, decide_eq_false (fun h => hc ⟨h.1.symm, h.2.symm⟩)]
  | some i =>
    have hf : findI L s e true = (i : Int) := by unfold findI; rw [hix]
    have HGT : Hid (getG L s e = true) := hide (by rw [getG_idx, hix]; rfl)
    rw [hf] at KF
    clear hf hix
    go_enter Try.func20, Try.ntmps20
    go_wp2_with fail
    refine KF.out.mono ?_
    rintro en w' ⟨rfl, rfl⟩
    go_wp2_with fail
    go_end0
    refine ⟨rfl, _, n, c, L, by omega, HD.out, But.refl _ w, fun k hk => .inl hk, HN.out, fun s' e' => ?_⟩
    rw [HG.out]
    unfold setG
    by_cases hc : s' = s ∧ e' = e
    · rw [decide_eq_true hc, hc.1, hc.2, ← HG.out, HGT.out]; rfl
    · rw [decide_eq_false hc]; rfl
end Go.Proofs.Ytigeccflfdekiaa
