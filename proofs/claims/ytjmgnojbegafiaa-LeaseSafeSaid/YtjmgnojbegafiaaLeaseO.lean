/-
  Lease: the law LeaseSafe, in plain words: two clocks, a note, a term.
-/
import Derived.Test.YtjmgnojbegafiaaLeaseN
namespace Go.Proofs.Ytjmgnojbegafiaa
open Go.RowKit
set_option linter.unusedVariables false

theorem turnI_ok {c u r t : Int} (h : turnI c u r = (t, 0)) : t = c + u * (1000 + r) ∧ 0 ≤ u ∧ u ≤ 1099511627776 ∧ t ≤ 1099511627776000 ∧ 0 ≤ c ∧ withinB r 500 = true := by
  unfold turnI at h
  split at h
  · rename_i hg
    simp only [Bool.and_eq_true, decide_eq_true_eq] at hg
    have ht := of_decide_eq_true hg.1.1.1
    split at h
    · simp at h
    · simp only [Prod.mk.injEq] at h
      exact ⟨h.1.symm, ht.1, ht.2, by omega, hg.1.2, hg.1.1.2⟩
  · simp at h
theorem within_bounds {r d : Int} (h : withinB r d = true) : 0 ≤ d ∧ d ≤ 500 ∧ -d ≤ r ∧ r ≤ d := of_decide_eq_true h
/-- THE LEASE: once one clock is over by the term, the other one isn't live by the short term -/
theorem lease_law {d c1 c2 p y1 y2 term : Int} (hd : 0 ≤ d) (hd' : d ≤ 500) (h1 : 0 ≤ c1) (h2 : 0 ≤ c2) (hy1 : 0 ≤ y1) (hy2 : 0 ≤ y2)
    (k1 : y1 - c1 ≤ (1000 + d) * p) (k2 : (1000 - d) * p ≤ y2 - c2) (ho : overB (readI c1) (readI y1) term = true) :
    liveB (readI c2) (readI y2) (term * (1000 - d) / (1000 + d)) = false := by
  have rd : ∀ x, 0 ≤ x → readI x = x / 1000 := fun x hx => by unfold readI; rw [if_neg (by omega)]
  rw [rd _ h1, rd _ hy1] at ho
  rw [rd _ h2, rd _ hy2]
  have ho' : term < y1 / 1000 - c1 / 1000 := of_decide_eq_true ho
  have a1 : 1000 * term < (1000 + d) * p := by omega
  have q1 := div_lo (a := term * (1000 - d)) (b := 1000 + d) (by omega)
  generalize term * (1000 - d) / (1000 + d) = s at q1
  have b1 : 1000 * (s * (1000 + d)) ≤ 1000 * (term * (1000 - d)) := by omega
  have b2 : (1000 * term) * (1000 - d) < ((1000 + d) * p) * (1000 - d) := Int.mul_lt_mul_of_pos_right a1 (by omega)
  have b3 : ((1000 - d) * p) * (1000 + d) ≤ (y2 - c2) * (1000 + d) := Int.mul_le_mul_of_nonneg_right k2 (by omega)
  have e1 : (1000 * term) * (1000 - d) = 1000 * (term * (1000 - d)) := Int.mul_assoc _ _ _
  have e2 : ((1000 + d) * p) * (1000 - d) = ((1000 - d) * p) * (1000 + d) := by
    rw [Int.mul_comm (1000 + d) p, Int.mul_comm (1000 - d) p, Int.mul_assoc, Int.mul_assoc, Int.mul_comm (1000 + d)]
  have e3 : 1000 * (s * (1000 + d)) = (1000 * s) * (1000 + d) := (Int.mul_assoc _ _ _).symm
  have b4 : 1000 * s < y2 - c2 := lt_of_mul (b := 1000 + d) (by omega) (by omega)
  unfold liveB
  rw [decide_eq_false_iff_not]
  omega
theorem readI_I64 {c : Int} (h : I64 c) : I64 (readI c) := by unfold I64 at *; unfold readI; split <;> omega

/-- a turn: three ints -/
structure Trn where
  units : Int
  one : Int
  other : Int
def TrnAt (w : World) (b o : Nat) (t : Trn) : Prop := w.cell? ⟨b, o, none⟩ = some (.int .i64 t.units) ∧ w.cell? ⟨b, o + 1, none⟩ = some (.int .i64 t.one) ∧ w.cell? ⟨b, o + 2, none⟩ = some (.int .i64 t.other)
def SlTrn (w : World) (B : Nat) (A : Option Addr) (n : Nat) (ts : List Trn) : Prop :=
  ts.length = n ∧ (0 < n → ∃ b off, A = some ⟨b, off, none⟩ ∧ b < B ∧ ∀ k t, ts[k]? = some t → TrnAt w b (off + k * 3) t)
theorem TrnAt.below {w w' : World} {B b o : Nat} {t : Trn} (h : TrnAt w b o t) (hb : Below B w w') (hB : b < B) : TrnAt w' b o t := by
  obtain ⟨c0, c1, c2⟩ := h
  exact ⟨(hb.cell (p := ⟨b, _, none⟩) hB).trans c0, (hb.cell (p := ⟨b, _, none⟩) hB).trans c1, (hb.cell (p := ⟨b, _, none⟩) hB).trans c2⟩
theorem SlTrn.at_ {w : World} {B n : Nat} {A : Option Addr} {ts : List Trn} (h : SlTrn w B A n ts) {k : Nat} (hk : k < n) : ∃ b off t, A = some ⟨b, off, none⟩ ∧ b < B ∧ ts[k]? = some t ∧ TrnAt w b (off + k * 3) t := by
  obtain ⟨b, off, e, hb, hc⟩ := h.2 (by omega)
  have hl : k < ts.length := by have := h.1; omega
  exact ⟨b, off, ts[k], e, hb, List.getElem?_eq_getElem hl, hc k _ (List.getElem?_eq_getElem hl)⟩
def noN : ByteArray → Int → Option Int := fun _ _ => none
def notedN (m0 : Int) : ByteArray → Int → Option Int := noteN noN fB 1 (readI m0)
theorem notedN_self (m0 : Int) : notedN m0 fB 1 = some (readI m0) := by unfold notedN noteN setN noN; simp
/-- ahead of the note: the other clock has gone on from its beginning -/
def Pre (other x2 : Int) : Prop := x2 = other ∨ (0 ≤ other ∧ other ≤ x2)
/-- behind it -/
def Post (d other m0 p x1 x2 : Int) : Prop := 0 ≤ m0 ∧ 0 ≤ other ∧ x1 - m0 ≤ (1000 + d) * p ∧ (1000 - d) * p ≤ x2 - other
structure SafeSt (d other : Int) (nb i : Nat) (x1 x2 : Int) (N : ByteArray → Int → Option Int) : Prop where
  i1 : I64 x1
  i2 : I64 x2
  st : (i ≤ nb ∧ N = noN ∧ Pre other x2) ∨ (nb < i ∧ ∃ m0 p, I64 m0 ∧ N = notedN m0 ∧ 0 ≤ p ∧ Post d other m0 p x1 x2)
structure MidSt (d other : Int) (nb i : Nat) (x1 x2 : Int) (N : ByteArray → Int → Option Int) : Prop where
  i1 : I64 x1
  i2 : I64 x2
  st : (i < nb ∧ N = noN ∧ Pre other x2) ∨ (nb ≤ i ∧ ∃ m0 p, I64 m0 ∧ N = notedN m0 ∧ 0 ≤ p ∧ ((p = 0 ∧ m0 = x1 ∧ Pre other x2) ∨ Post d other m0 p x1 x2))
theorem SafeSt.mid {d other : Int} {nb i : Nat} {x1 x2 : Int} {N : ByteArray → Int → Option Int} (h : SafeSt d other nb i x1 x2 N) (hi : i ≠ nb) : MidSt d other nb i x1 x2 N := by
  refine ⟨h.i1, h.i2, ?_⟩
  rcases h.st with ⟨h1, h2⟩ | ⟨h1, m0, p, h2, h3, h4, h5⟩
  · exact .inl ⟨by omega, h2⟩
  · exact .inr ⟨by omega, m0, p, h2, h3, h4, .inr h5⟩
theorem SafeSt.noted {d other : Int} {nb : Nat} {x1 x2 : Int} {N : ByteArray → Int → Option Int} (h : SafeSt d other nb nb x1 x2 N) : MidSt d other nb nb x1 x2 (noteN N fB 1 (readI x1)) := by
  refine ⟨h.i1, h.i2, ?_⟩
  rcases h.st with ⟨h1, h2, h3⟩ | ⟨h1, _⟩
  · subst h2
    exact .inr ⟨Nat.le_refl _, x1, 0, h.i1, rfl, Int.le_refl _, .inl ⟨rfl, rfl, h3⟩⟩
  · omega
theorem turn_up {c u r t d : Int} (ht : turnI c u r = (t, 0)) (hr : withinB r d = true) : 0 ≤ c ∧ c ≤ t ∧ t ≤ 1099511627776000 ∧ 0 ≤ u ∧ t - c ≤ (1000 + d) * u ∧ (1000 - d) * u ≤ t - c ∧ 0 ≤ d ∧ d ≤ 500 := by
  obtain ⟨e, u0, _, tm, c0, _⟩ := turnI_ok ht
  obtain ⟨d0, d1, r0, r1⟩ := within_bounds hr
  have m1 : u * (1000 - d) ≤ u * (1000 + r) := Int.mul_le_mul_of_nonneg_left (by omega) u0
  have m2 : u * (1000 + r) ≤ u * (1000 + d) := Int.mul_le_mul_of_nonneg_left (by omega) u0
  have m3 : 0 ≤ u * (1000 - d) := Int.mul_nonneg u0 (by omega)
  rw [Int.mul_comm (1000 + d), Int.mul_comm (1000 - d)]
  omega
theorem MidSt.step {d other : Int} {nb i : Nat} {x1 x2 u r1 r2 t1 t2 : Int} {N : ByteArray → Int → Option Int} (h : MidSt d other nb i x1 x2 N) (h1 : turnI x1 u r1 = (t1, 0)) (h2 : turnI x2 u r2 = (t2, 0)) (w1 : withinB r1 d = true) (w2 : withinB r2 d = true) : SafeSt d other nb (i + 1) t1 t2 N := by
  obtain ⟨a1, a2, a3, a4, a5, a6, a7, a8⟩ := turn_up h1 w1
  obtain ⟨b1, b2, b3, b4, b5, b6, b7, b8⟩ := turn_up h2 w2
  refine ⟨by unfold I64; omega, by unfold I64; omega, ?_⟩
  rcases h.st with ⟨k1, k2, k3⟩ | ⟨k1, m0, p, k2, k3, k4, k5⟩
  · refine .inl ⟨k1, k2, .inr ?_⟩
    rcases k3 with k3 | k3 <;> omega
  · refine .inr ⟨by omega, m0, p + u, k2, k3, by omega, ?_⟩
    have e1 : (1000 + d) * (p + u) = (1000 + d) * p + (1000 + d) * u := Int.mul_add _ _ _
    have e2 : (1000 - d) * (p + u) = (1000 - d) * p + (1000 - d) * u := Int.mul_add _ _ _
    unfold Post
    rw [e1, e2]
    rcases k5 with ⟨rfl, rfl, k5⟩ | ⟨q1, q2, q3, q4⟩
    · rcases k5 with k5 | k5 <;> simp only [Int.mul_zero] <;> omega
    · omega
theorem SafeSt.law {d other term : Int} {nb i : Nat} {x1 x2 : Int} {N : ByteArray → Int → Option Int} (h : SafeSt d other nb i x1 x2 N) (hi : nb < i) (hd : 0 ≤ d) (hd' : d ≤ 500) (hx1 : 0 ≤ x1) (hx2 : 0 ≤ x2) :
    ∃ m0, I64 (readI m0) ∧ N fB 1 = some (readI m0) ∧ (overB (readI m0) (readI x1) term = true → liveB (readI other) (readI x2) (term * (1000 - d) / (1000 + d)) = false) := by
  rcases h.st with ⟨h1, _⟩ | ⟨h1, m0, p, h2, h3, h4, h5, h6, h7, h8⟩
  · omega
  · exact ⟨m0, readI_I64 h2, by rw [h3]; exact notedN_self m0, fun ho => lease_law hd hd' h5 h6 hx1 hx2 h7 h8 ho⟩
theorem noN_i64 : ∀ s e a, noN s e = some a → I64 a := fun _ _ _ h => by cases h
theorem SafeSt.i64N {d other : Int} {nb i : Nat} {x1 x2 : Int} {N : ByteArray → Int → Option Int} (h : SafeSt d other nb i x1 x2 N) : ∀ s e a, N s e = some a → I64 a := by
  rcases h.st with ⟨_, h2, _⟩ | ⟨_, m0, p, h2, h3, _⟩
  · rw [h2]; exact noN_i64
  · rw [h3]; exact note_i64 noN_i64 (readI_I64 h2)
theorem hold_noted {N : ByteArray → Int → Option Int} {now term a : Int} (hN : N fB 1 = some a) : holdI noG fB now term N [1] = ⟨N, fun e' => decide (e' = 1) || false, if overB a now term = true then [] else [1]⟩ := by
  have hl : lookN N fB 1 now = N := by unfold lookN; rw [hN]
  simp [holdI, holdStep, hl, hN, noG]
end Go.Proofs.Ytjmgnojbegafiaa
