/-
  Lease: known.
-/
import Derived.Test.YtigeccflfdekiaaLeaseI
namespace Go.Proofs.Ytigeccflfdekiaa
open Go.RowKit Go.Maps
set_option linter.unusedVariables false

/-- New, of a right term -/
theorem new_ok {term rho x : Int} (h : shortI term rho = (x, 0)) (w : World) : Calls Try.prog 7 #[.int .i64 term, .int .i64 rho] w fun e w' => ∃ g b1 b2, e = .returned (.tuple #[.pointer (some ⟨g, 0, none⟩), .int .i64 0]) ∧ Hid (Below w.heap.size w w') ∧ Hid (w.heap.size ≤ g ∧ w.heap.size ≤ b1 ∧ w.heap.size ≤ b2) ∧ Hid (DeskSt w' g b1 b2 0 (fun _ _ => none) (fun _ _ => false) term x) := by
  refine (new_any term rho w).mono ?_
  rintro e w' ⟨P, rfl, hb, hc⟩
  rw [h] at hc ⊢
  rcases hc with ⟨h0, _⟩ | ⟨_, g, b1, b2, rfl, h1, h2, h3, hd⟩
  · exact absurd rfl h0
  · exact ⟨g, b1, b2, rfl, hide hb, hide ⟨h1, h2, h3⟩, hide hd⟩
/-- a desk's own blocks are new -/
theorem below_desk {w w1 w2 : World} {b1 b2 : Nat} (h : Below w.heap.size w w1) (hb : But (DB b1 b2) w1 w2) (h1 : w.heap.size ≤ b1) (h2 : w.heap.size ≤ b2) : Below w.heap.size w w2 :=
  h.trans (hb.below (fun k hk => hk.elim (fun e => by omega) (fun e => by omega)) h.size)
theorem sl_ints (w : World) (t : Nat) (xs : List Int) (n : Nat) (h : xs.length = n) : Sl (w.alloc (.cells (xs.map (Value.int .i64)).toArray t)) (w.alloc (.cells (xs.map (Value.int .i64)).toArray t)).heap.size (some ⟨w.heap.size, 0, none⟩) n (xs.map (Value.int .i64)) := by
  have := Sl.litV w t (xs.map (Value.int .i64))
  rwa [List.length_map, h] at this
/-- Holders, of a literal -/
theorem holders_lit (xs : List Int) (m : Nat) (hm : xs.length = m) (hm2 : m ≤ 1000) (hx : ∀ z ∈ xs, I64 z) (g b1 b2 n : Nat) (N : ByteArray → Int → Option Int) (G : ByteArray → Int → Bool) (term short : Int) (fam : ByteArray) (now : Int) (w : World) (hd : DeskSt w g b1 b2 n N G term short)
    (hn : n ≤ 900000) (hf : fam.size ≤ maxLen) (hnow : I64 now) (hterm : I64 term) (hN : ∀ s e a, N s e = some a → I64 a) :
    Calls Try.prog 10 #[.pointer (some ⟨g, 0, none⟩), .string fam, .slice (some ⟨w.heap.size, 0, none⟩) m m, .int .i64 now] (w.alloc (.cells (xs.map (Value.int .i64)).toArray 3)) fun en w' => ∃ A2 c2, en = .returned (.slice A2 (holdI G fam now term N xs).out.length c2) ∧ Hid (Own w' w.heap.size 3 A2 (holdI G fam now term N xs).out.length c2 ((holdI G fam now term N xs).out.map (Value.int .i64))) ∧ Hid (DeskSt w' g b1 b2 (n + m) (holdI G fam now term N xs).N G term short) ∧ Hid (But (DB b1 b2) w w') := by
  have B := But.of_alloc (S := fun _ => False) w (.cells (xs.map (Value.int .i64)).toArray 3)
  refine (holders_any g b1 b2 n N G term short fam _ m m xs now _ (hd.but B id id id) (sl_ints w _ xs m hm) hx (by omega) (by omega) hf hnow hterm hN).mono ?_
  rintro e w' ⟨A2, c2, he, ho, hd', hb⟩
  exact ⟨A2, c2, he, hide (ho.base B.size), hide hd', hide ((B.mono (fun _ h => h.elim)).trans hb)⟩
end Go.Proofs.Ytigeccflfdekiaa
