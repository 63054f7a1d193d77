/-
  Revoke: the program's crew and desk, and the document's, side by side: one lemma a call.
-/
import Derived.Test.YtigeccflfdekiaaRevR
import Derived.Test.YtigeccflfdekiaaRevM
namespace Go.Proofs.Ytigeccflfdekiaa
open Go.RowKit Go.Maps
set_option linter.unusedVariables false

theorem TurnM.obj {w : World} {b n : Nat} {T : ByteArray → Option Int} (h : TurnM w b n T) : ∃ es clock, w.heap[b]? = some (.map es clock) := by
  obtain ⟨f, ⟨D, ⟨es, clock, h1, _⟩, _⟩, _⟩ := h
  exact ⟨es, clock, h1⟩
theorem OwnS.no_map {sz : Nat} {w : World} {base e n c b : Nat} {A : Option Addr} {xs : List Value} (h : OwnS sz w base e A n c xs) (hm : ∃ es clock, w.heap[b]? = some (.map es clock)) : (Value.slice A n c).ownBlock ≠ some b := by
  obtain ⟨es, clock, hm⟩ := hm
  rcases h.2 with ⟨h1, _⟩ | ⟨g, cap, cur, h1, _, h3, _⟩
  · rw [h1]; simp [Value.ownBlock]
  · rw [h1]
    intro e1
    have e2 : g = b := by simpa [Value.ownBlock] using e1
    subst e2
    rw [hm] at h3; cases h3
/-- the program's blocks -/
def PB (cg bt bw : Nat) (B : ByteArray → Option Nat) (g b1 b2 : Nat) : Nat → Prop := fun k => k = cg ∨ k = bt ∨ k = bw ∨ (∃ s, B s = some k) ∨ k = g ∨ k = b1 ∨ k = b2
/-- the program's crew and desk -/
structure PSt (w : World) (cg bt bw g b1 b2 K : Nat) (B : ByteArray → Option Nat) (N : ByteArray → Int → Option Int) (G : ByteArray → Int → Bool) (T : ByteArray → Option Int) (Q : ByteArray → Int × Int → Bool) (pace term x : Int) : Prop where
  row : RowV w cg 69 [.int .i64 pace, .map (some bt), .map (some bw)]
  turns : TurnM w bt K T
  waits : WaitSt w bw K B Q
  desk : DeskSt w g b1 b2 K N G term x
  n1 : cg ≠ bt ∧ cg ≠ bw ∧ bt ≠ bw
  n2 : ∀ s b, B s = some b → b ≠ cg ∧ b ≠ bt ∧ b ≠ g ∧ b ≠ b1 ∧ b ≠ b2
  n3 : (cg ≠ g ∧ cg ≠ b1 ∧ cg ≠ b2) ∧ (bt ≠ g ∧ bt ≠ b1 ∧ bt ≠ b2) ∧ (bw ≠ g ∧ bw ≠ b1 ∧ bw ≠ b2)
  few : Few K T
  i64 : ∀ s e a, N s e = some a → I64 a
section
variable {S : Nat → Prop} {w w' : World} {cg bt bw g b1 b2 K : Nat} {B : ByteArray → Option Nat} {N : ByteArray → Int → Option Int} {G : ByteArray → Int → Bool} {T : ByteArray → Option Int} {Q : ByteArray → Int × Int → Bool} {pace term x : Int}
theorem PSt.but (h : PSt w cg bt bw g b1 b2 K B N G T Q pace term x) (hb : But S w w') (hs : ∀ k, PB cg bt bw B g b1 b2 k → ¬ S k) : PSt w' cg bt bw g b1 b2 K B N G T Q pace term x :=
  ⟨hb.row h.row (hs _ (.inl rfl)), h.turns.but hb (hs _ (.inr (.inl rfl))), h.waits.but hb (hs _ (.inr (.inr (.inl rfl)))) (fun s b hb => hs _ (.inr (.inr (.inr (.inl ⟨s, hb⟩))))), h.desk.but hb (hs _ (.inr (.inr (.inr (.inr (.inl rfl)))))) (hs _ (.inr (.inr (.inr (.inr (.inr (.inl rfl))))))) (hs _ (.inr (.inr (.inr (.inr (.inr (.inr rfl))))))), h.n1, h.n2, h.n3, h.few, h.i64⟩
theorem PSt.lt (h : PSt w cg bt bw g b1 b2 K B N G T Q pace term x) : ∀ k, PB cg bt bw B g b1 b2 k → k < w.heap.size := fun k hk => by
  rcases hk with rfl | rfl | rfl | ⟨s, hs⟩ | rfl | rfl | rfl
  · exact h.row.lt
  · exact h.turns.lt
  · exact h.waits.lt
  · exact h.waits.blt hs
  · exact h.desk.row.lt
  · exact h.desk.notes.lt
  · exact h.desk.gone.lt
end
/-- the document's -/
structure RSt (w : World) (p q : Nat) (A : Option Addr) (n c : Nat) (L : List RN) (A1 : Option Addr) (n1 c1 : Nat) (LB : List Bg) (A2 : Option Addr) (n2 c2 : Nat) (W : List Rw) (K : Nat) (N : ByteArray → Int → Option Int) (G : ByteArray → Int → Bool) (T : ByteArray → Option Int) (Q : ByteArray → Int × Int → Bool) (pace term : Int) : Prop where
  desk : RDesk w q A n c L term
  crew : RCrew w p A1 n1 c1 LB A2 n2 c2 W pace
  sep : ∀ k, RC p A1 n1 c1 A2 n2 c2 k → ¬ RB q A n c k
  eN : ∀ s e, getN L s e = N s e
  eG : ∀ s e, getG L s e = G s e
  eT : ∀ s, getT LB s = (T s).getD 0
  eQ : ∀ s x, Q s x = true ↔ ∃ r ∈ W, r.f = s ∧ r.x = x
  ok : ∀ r ∈ W, WOk r.x
  few : FewL K LB
  small : n ≤ K ∧ n1 ≤ K ∧ n2 ≤ K
/-- all of it, apart from what X names -/
structure AllSt (w : World) (X : Nat → Prop) (cg g p q K : Nat) (pace term x : Int) (N : ByteArray → Int → Option Int) (G : ByteArray → Int → Bool) (T : ByteArray → Option Int) (Q : ByteArray → Int × Int → Bool) (N' : ByteArray → Int → Option Int) (G' : ByteArray → Int → Bool) (T' : ByteArray → Option Int) (Q' : ByteArray → Int × Int → Bool) : Prop where
  ex : ∃ bt bw b1 b2 B A n c L A1 n1 c1 LB A2 n2 c2 W, PSt w cg bt bw g b1 b2 K B N G T Q pace term x ∧ RSt w p q A n c L A1 n1 c1 LB A2 n2 c2 W K N' G' T' Q' pace term ∧
    (∀ k, PB cg bt bw B g b1 b2 k → ¬ RB q A n c k ∧ ¬ RC p A1 n1 c1 A2 n2 c2 k) ∧ (∀ k, X k → ¬ PB cg bt bw B g b1 b2 k ∧ ¬ RB q A n c k ∧ ¬ RC p A1 n1 c1 A2 n2 c2 k)
  xlt : ∀ k, X k → k < w.heap.size
section
variable {X : Nat → Prop} {w w' : World} {cg g p q K : Nat} {pace term x : Int} {N N' : ByteArray → Int → Option Int} {G G' : ByteArray → Int → Bool} {T T' : ByteArray → Option Int} {Q Q' : ByteArray → Int × Int → Bool}
theorem AllSt.below (h : AllSt w X cg g p q K pace term x N G T Q N' G' T' Q') (hb : Below w.heap.size w w') : AllSt w' (fun k => X k ∨ (w.heap.size ≤ k ∧ k < w'.heap.size)) cg g p q K pace term x N G T Q N' G' T' Q' := by
  obtain ⟨bt, bw, b1, b2, B, A, n, c, L, A1, n1, c1, LB, A2, n2, c2, W, hP, hR, hd, hX⟩ := h.ex
  have hB := But.of_below (S := fun _ => False) hb
  refine ⟨⟨bt, bw, b1, b2, B, A, n, c, L, A1, n1, c1, LB, A2, n2, c2, W, hP.but hB (fun _ _ => id), ⟨hR.desk.below hb, hR.crew.below hb, hR.sep, hR.eN, hR.eG, hR.eT, hR.eQ, hR.ok, hR.few, hR.small⟩, hd, fun k hk => ?_⟩, fun k hk => ?_⟩
  · rcases hk with hk | ⟨hk, _⟩
    · exact hX k hk
    · exact ⟨fun hh => by have := hP.lt k hh; omega, fun hh => by have := hR.desk.lt k hh; omega, fun hh => by have := hR.crew.lt k hh; omega⟩
  · rcases hk with hk | ⟨_, hk⟩
    · exact Nat.lt_of_lt_of_le (h.xlt k hk) hb.size
    · exact hk
theorem AllSt.sub {Y : Nat → Prop} (h : AllSt w X cg g p q K pace term x N G T Q N' G' T' Q') (hs : ∀ k, Y k → X k) : AllSt w Y cg g p q K pace term x N G T Q N' G' T' Q' := by
  obtain ⟨bt, bw, b1, b2, B, A, n, c, L, A1, n1, c1, LB, A2, n2, c2, W, hP, hR, hd, hX⟩ := h.ex
  exact ⟨⟨bt, bw, b1, b2, B, A, n, c, L, A1, n1, c1, LB, A2, n2, c2, W, hP, hR, hd, fun k hk => hX k (hs k hk)⟩, fun k hk => h.xlt k (hs k hk)⟩
theorem AllSt.mono {K' : Nat} (h : AllSt w X cg g p q K pace term x N G T Q N' G' T' Q') (hk : K ≤ K') : AllSt w X cg g p q K' pace term x N G T Q N' G' T' Q' := by
  obtain ⟨bt, bw, b1, b2, B, A, n, c, L, A1, n1, c1, LB, A2, n2, c2, W, hP, hR, hd, hX⟩ := h.ex
  exact ⟨⟨bt, bw, b1, b2, B, A, n, c, L, A1, n1, c1, LB, A2, n2, c2, W, ⟨hP.row, hP.turns.mono hk, hP.waits.mono hk, hP.desk.mono hk, hP.n1, hP.n2, hP.n3, fun s v hv => by have := hP.few s v hv; omega, hP.i64⟩, ⟨hR.desk, hR.crew, hR.sep, hR.eN, hR.eG, hR.eT, hR.eQ, hR.ok, fun y hy => by have := hR.few y hy; omega, by have := hR.small; omega⟩, hd, hX⟩, h.xlt⟩
/-- the program's part has turned -/
theorem AllSt.prog {S : Nat → Prop} {w w' : World} {cg bt bw g b1 b2 K bt' bw' K' : Nat} {B B' : ByteArray → Option Nat} {p q : Nat} {A : Option Addr} {n c : Nat} {L : List RN} {A1 : Option Addr} {n1 c1 : Nat} {LB : List Bg} {A2 : Option Addr} {n2 c2 : Nat} {W : List Rw} {N N2 N' : ByteArray → Int → Option Int} {G G2 G' : ByteArray → Int → Bool} {T T2 T' : ByteArray → Option Int} {Q Q2 Q' : ByteArray → Int × Int → Bool} {pace term x : Int}
    (hP : PSt w cg bt bw g b1 b2 K B N G T Q pace term x) (hR : RSt w p q A n c L A1 n1 c1 LB A2 n2 c2 W K N' G' T' Q' pace term) (hd : ∀ k, PB cg bt bw B g b1 b2 k → ¬ RB q A n c k ∧ ¬ RC p A1 n1 c1 A2 n2 c2 k) (hX : ∀ k, X k → ¬ PB cg bt bw B g b1 b2 k ∧ ¬ RB q A n c k ∧ ¬ RC p A1 n1 c1 A2 n2 c2 k) (hxl : ∀ k, X k → k < w.heap.size)
    (hP' : PSt w' cg bt' bw' g b1 b2 K' B' N2 G2 T2 Q2 pace term x) (hb : But S w w') (hS : ∀ k, S k → PB cg bt bw B g b1 b2 k) (hnew : ∀ k, PB cg bt' bw' B' g b1 b2 k → PB cg bt bw B g b1 b2 k ∨ w.heap.size ≤ k) (hK : K ≤ K') (Y : Nat → Prop) (hY : ∀ k, Y k → w.heap.size ≤ k ∧ k < w'.heap.size ∧ ¬ PB cg bt' bw' B' g b1 b2 k) :
    AllSt w' (fun k => X k ∨ Y k) cg g p q K' pace term x N2 G2 T2 Q2 N' G' T' Q' ∧ But (fun k => ¬ X k) w w' := by
  refine ⟨⟨⟨bt', bw', b1, b2, B', A, n, c, L, A1, n1, c1, LB, A2, n2, c2, W, hP', ⟨hR.desk.but hb (fun k hk hh => (hd k (hS k hh)).1 hk), hR.crew.but hb (fun k hk hh => (hd k (hS k hh)).2 hk), hR.sep, hR.eN, hR.eG, hR.eT, hR.eQ, hR.ok, fun y hy => by have := hR.few y hy; omega, by have := hR.small; omega⟩, fun k hk => ?_, fun k hk => ?_⟩, fun k hk => hk.elim (fun hk => Nat.lt_of_lt_of_le (hxl k hk) hb.size) (fun hk => (hY k hk).2.1)⟩, hb.mono fun k hk hh => (hX k hh).1 (hS k hk)⟩
  · rcases hnew k hk with h2 | h2
    · exact hd k h2
    · exact ⟨fun hh => by have := hR.desk.lt k hh; omega, fun hh => by have := hR.crew.lt k hh; omega⟩
  · rcases hk with hk | hk
    · refine ⟨fun hh => ?_, (hX k hk).2⟩
      rcases hnew k hh with h2 | h2
      · exact (hX k hk).1 h2
      · have := hxl k hk; omega
    · have h3 := hY k hk
      exact ⟨h3.2.2, fun hh => by have := hR.desk.lt k hh; omega, fun hh => by have := hR.crew.lt k hh; omega⟩
/-- the document's part has turned -/
theorem AllSt.doc {S : Nat → Prop} {w w' : World} {cg bt bw g b1 b2 K K' : Nat} {B : ByteArray → Option Nat} {p q p' : Nat} {A A' : Option Addr} {n c n' c' : Nat} {L L' : List RN} {A1 A1' : Option Addr} {n1 c1 n1' c1' : Nat} {LB LB' : List Bg} {A2 A2' : Option Addr} {n2 c2 n2' c2' : Nat} {W W' : List Rw} {N N2 N' : ByteArray → Int → Option Int} {G G2 G' : ByteArray → Int → Bool} {T T2 T' : ByteArray → Option Int} {Q Q2 Q' : ByteArray → Int × Int → Bool} {pace term x : Int}
    (hP : PSt w cg bt bw g b1 b2 K B N G T Q pace term x) (hR : RSt w p q A n c L A1 n1 c1 LB A2 n2 c2 W K N' G' T' Q' pace term) (hd : ∀ k, PB cg bt bw B g b1 b2 k → ¬ RB q A n c k ∧ ¬ RC p A1 n1 c1 A2 n2 c2 k) (hX : ∀ k, X k → ¬ PB cg bt bw B g b1 b2 k ∧ ¬ RB q A n c k ∧ ¬ RC p A1 n1 c1 A2 n2 c2 k) (hxl : ∀ k, X k → k < w.heap.size)
    (hR' : RSt w' p' q A' n' c' L' A1' n1' c1' LB' A2' n2' c2' W' K' N2 G2 T2 Q2 pace term) (hb : But S w w') (hS : ∀ k, S k → RB q A n c k ∨ RC p A1 n1 c1 A2 n2 c2 k) (hnew : ∀ k, RB q A' n' c' k ∨ RC p' A1' n1' c1' A2' n2' c2' k → (RB q A n c k ∨ RC p A1 n1 c1 A2 n2 c2 k) ∨ w.heap.size ≤ k) (hK : K ≤ K') :
    AllSt w' X cg g p' q K' pace term x N G T Q N2 G2 T2 Q2 ∧ But (fun k => ¬ X k) w w' := by
  refine ⟨⟨⟨bt, bw, b1, b2, B, A', n', c', L', A1', n1', c1', LB', A2', n2', c2', W', ?_, hR', fun k hk => ⟨fun hh => ?_, fun hh => ?_⟩, fun k hk => ⟨(hX k hk).1, fun hh => ?_, fun hh => ?_⟩⟩, fun k hk => Nat.lt_of_lt_of_le (hxl k hk) hb.size⟩, hb.mono fun k hk hh => (hS k hk).elim (hX k hh).2.1 (hX k hh).2.2⟩
  · have h1 := hP.but hb (fun k hk hh => (hS k hh).elim (hd k hk).1 (hd k hk).2)
    exact ⟨h1.row, h1.turns.mono hK, h1.waits.mono hK, h1.desk.mono hK, h1.n1, h1.n2, h1.n3, fun s v hv => by have := h1.few s v hv; omega, h1.i64⟩
  · rcases hnew k (.inl hh) with (h2 | h2) | h2
    · exact (hd k hk).1 h2
    · exact (hd k hk).2 h2
    · have := hP.lt k hk; omega
  · rcases hnew k (.inr hh) with (h2 | h2) | h2
    · exact (hd k hk).1 h2
    · exact (hd k hk).2 h2
    · have := hP.lt k hk; omega
  · rcases hnew k (.inl hh) with (h2 | h2) | h2
    · exact (hX k hk).2.1 h2
    · exact (hX k hk).2.2 h2
    · have := hxl k hk; omega
  · rcases hnew k (.inr hh) with (h2 | h2) | h2
    · exact (hX k hk).2.1 h2
    · exact (hX k hk).2.2 h2
    · have := hxl k hk; omega
end
end Go.Proofs.Ytigeccflfdekiaa
