/-
  Lease: the document's Ints; known.
-/
import Derived.Test.YtigeccflfdekiaaLeaseH
namespace Go.Proofs.Ytigeccflfdekiaa
open Go.RowKit Go.Maps
set_option linter.unusedVariables false

theorem Own.but {S : Nat → Prop} {w w' : World} {base e n c : Nat} {A : Option Addr} {xs : List Value} (h : Own w base e A n c xs) (hb : But S w w') (hs : ∀ k, base ≤ k → ¬ S k) : Own w' base e A n c xs := by
  rcases h.2 with ⟨h1, h2⟩ | ⟨g, cap, cur, h1, h2, h3, h4⟩
  · exact ⟨h.1, .inl ⟨h1, h2⟩⟩
  · exact ⟨h.1, .inr ⟨g, cap, cur, h1, h2, (hb.block g (Array.getElem?_eq_some_iff.1 h3).1 (hs g h2)).trans h3, h4⟩⟩
theorem below_drewN {B : Nat} {w w' : World} (h : Below B w w') (k : Nat) : Below B w (w'.drewN k) := ⟨h.os, h.tape, h.output, h.size, h.block⟩
/-- a literal slice -/
theorem Sl.litV (w : World) (t : Nat) (xs : List Value) : Sl (w.alloc (.cells xs.toArray t)) (w.alloc (.cells xs.toArray t)).heap.size (some ⟨w.heap.size, 0, none⟩) xs.length xs := by
  refine ⟨rfl, fun _ => ⟨w.heap.size, 0, rfl, by simp, fun k u hu => ?_⟩⟩
  rw [Nat.zero_add]
  exact (RowV.new w t xs).cell hu
theorem ints_snoc {xs ys : List Int} {i : Nat} {x : Int} (h : xs.take i = ys.take i) (hx : xs[i]? = some x) (hy : ys[i]? = some x) : xs.take (i + 1) = ys.take (i + 1) := by
  rw [List.take_add_one, List.take_add_one, h, hx, hy]
theorem KOk.small {s : ByteArray} {e : Int} (hs : s.size ≤ 1000) (he : -1000 ≤ e ∧ e ≤ 1000) : KOk s e := ⟨by unfold maxLen; omega, by omega, by omega⟩
theorem note_i64 {N : ByteArray → Int → Option Int} {fam : ByteArray} {e now : Int} (h : ∀ s e a, N s e = some a → I64 a) (hn : I64 now) : ∀ s' e' a, noteN N fam e now s' e' = some a → I64 a := by
  intro s' e' a ha
  have hset : setN N fam e now s' e' = some a → I64 a := by
    intro ha
    simp only [setN] at ha
    split at ha
    · injection ha with ha; subst ha; exact hn
    · exact h _ _ _ ha
  unfold noteN at ha
  cases hc : N fam e with
  | none => rw [hc] at ha; exact hset ha
  | some b =>
    rw [hc] at ha
    simp only at ha
    split at ha
    · exact hset ha
    · exact h _ _ _ ha
theorem hold_i64 {G : ByteArray → Int → Bool} {fam : ByteArray} {now term : Int} {ls : List Int} (hn : I64 now) : ∀ {N : ByteArray → Int → Option Int}, (∀ s e a, N s e = some a → I64 a) → ∀ s' e' a, (holdI G fam now term N ls).N s' e' = some a → I64 a := by
  suffices h : ∀ (st : Hold), (∀ s e a, st.N s e = some a → I64 a) → ∀ s' e' a, (ls.foldl (holdStep G fam now term) st).N s' e' = some a → I64 a from fun {N} hN => h ⟨N, fun _ => false, []⟩ hN
  induction ls with
  | nil => intro st h; exact h
  | cons e ls ih =>
    intro st h
    refine ih _ ?_
    unfold holdStep
    split
    · exact h
    · exact lookN_i64 h hn
def fB : ByteArray := ⟨#[102]⟩
def kN0 : ByteArray → Int → Option Int := noteN (fun _ _ => none) fB 1 5
def kG0 : ByteArray → Int → Bool := fun _ _ => false
def kH1 : Hold := holdI kG0 fB 15 10 kN0 [1, 2]
def kH2 : Hold := holdI kG0 fB 16 10 kH1.N [1, 2]
def kG3 : ByteArray → Int → Bool := setG kG0 fB 2
def kH3 : Hold := holdI kG3 fB 16 10 kH2.N [1, 2]
theorem kH1_out : kH1.out = [1, 2] := by decide +kernel
theorem kH2_out : kH2.out = [2] := by decide +kernel
theorem kH3_out : kH3.out = [] := by decide +kernel
end Go.Proofs.Ytigeccflfdekiaa
