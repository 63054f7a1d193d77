/-
  Lease: the desk; New, Term, Short.
-/
import Derived.Test.YtigeccflfdekiaaLeaseA
import Derived.Test.YtigeccflfdekiaaBut
import Derived.Test.YtigeccflfdekiaaDriftD
namespace Go.Proofs.Ytigeccflfdekiaa
open Go.RowKit Go.Maps
set_option linter.unusedVariables false

/-- what a note is, what lies in a map of bools -/
def IsNote (v : Value) : Prop := ∃ a : Int, v = .agg #[.int .i64 a]
def IsBool (v : Value) : Prop := ∃ b : Bool, v = .bool b
/-- the notes' map, the map of what is let go -/
def NoteM (w : World) (b n : Nat) (N : ByteArray → Int → Option Int) : Prop := ∃ f, PM Try.prog IsNote w 79 b n f ∧ ∀ s e, KOk s e → f (plit s e) = (N s e).map noteV
def GoneM (w : World) (b n : Nat) (G : ByteArray → Int → Bool) : Prop := ∃ f, PM Try.prog IsBool w 79 b n f ∧ ∀ s e, KOk s e → f (plit s e) = if G s e then some (.bool true) else none
def DeskV (b1 b2 : Nat) (term short : Int) : List Value := [.map (some b1), .map (some b2), .int .i64 term, .int .i64 short]
structure DeskSt (w : World) (g b1 b2 n : Nat) (N : ByteArray → Int → Option Int) (G : ByteArray → Int → Bool) (term short : Int) : Prop where
  row : RowV w g 75 (DeskV b1 b2 term short)
  notes : NoteM w b1 n N
  gone : GoneM w b2 n G
  ne12 : b1 ≠ b2
  ne1 : g ≠ b1
  ne2 : g ≠ b2
theorem NoteM.but {S : Nat → Prop} {w w' : World} {b n : Nat} {N : ByteArray → Int → Option Int} (h : NoteM w b n N) (hb : But S w w') (hn : ¬ S b) : NoteM w' b n N := by
  obtain ⟨f, h1, h2⟩ := h; exact ⟨f, hb.pm h1 hn, h2⟩
theorem GoneM.but {S : Nat → Prop} {w w' : World} {b n : Nat} {G : ByteArray → Int → Bool} (h : GoneM w b n G) (hb : But S w w') (hn : ¬ S b) : GoneM w' b n G := by
  obtain ⟨f, h1, h2⟩ := h; exact ⟨f, hb.pm h1 hn, h2⟩
theorem DeskSt.but {S : Nat → Prop} {w w' : World} {g b1 b2 n : Nat} {N : ByteArray → Int → Option Int} {G : ByteArray → Int → Bool} {term short : Int} (h : DeskSt w g b1 b2 n N G term short) (hb : But S w w') (hg : ¬ S g) (h1 : ¬ S b1) (h2 : ¬ S b2) : DeskSt w' g b1 b2 n N G term short :=
  ⟨hb.row h.row hg, h.notes.but hb h1, h.gone.but hb h2, h.ne12, h.ne1, h.ne2⟩
theorem DeskSt.below {w w' : World} {g b1 b2 n : Nat} {N : ByteArray → Int → Option Int} {G : ByteArray → Int → Bool} {term short : Int} (h : DeskSt w g b1 b2 n N G term short) (hb : Below w.heap.size w w') : DeskSt w' g b1 b2 n N G term short :=
  h.but (But.of_below (S := fun _ => False) hb) id id id
theorem NoteM.lt {w : World} {b n : Nat} {N : ByteArray → Int → Option Int} (h : NoteM w b n N) : b < w.heap.size := by obtain ⟨f, h, _⟩ := h; exact h.lt
theorem GoneM.lt {w : World} {b n : Nat} {G : ByteArray → Int → Bool} (h : GoneM w b n G) : b < w.heap.size := by obtain ⟨f, h, _⟩ := h; exact h.lt
theorem NoteM.mono {w : World} {b n n' : Nat} {N : ByteArray → Int → Option Int} (h : NoteM w b n N) (hn : n ≤ n') : NoteM w b n' N := by obtain ⟨f, h, h2⟩ := h; exact ⟨f, h.mono hn, h2⟩
theorem GoneM.mono {w : World} {b n n' : Nat} {G : ByteArray → Int → Bool} (h : GoneM w b n G) (hn : n ≤ n') : GoneM w b n' G := by obtain ⟨f, h, h2⟩ := h; exact ⟨f, h.mono hn, h2⟩

/-- what New gives -/
def GivesD (term : Int) (r : Int × Int) (w : World) (e : Ending) (w' : World) : Prop :=
  ∃ P, e = .returned (.tuple #[.pointer P, .int .i64 r.2]) ∧ Below w.heap.size w w' ∧ ((r.2 ≠ 0 ∧ P = none) ∨ (r.2 = 0 ∧ ∃ g b1 b2, P = some ⟨g, 0, none⟩ ∧ w.heap.size ≤ g ∧ w.heap.size ≤ b1 ∧ w.heap.size ≤ b2 ∧ DeskSt w' g b1 b2 0 (fun _ _ => none) (fun _ _ => false) term r.1))
theorem desk_made (w : World) (term short : Int) : DeskSt (((w.alloc (.map #[] 0)).alloc (.map #[] 0)).alloc (.cells (DeskV w.heap.size (w.heap.size + 1) term short).toArray 75)) (w.heap.size + 1 + 1) w.heap.size (w.heap.size + 1) 0 (fun _ _ => none) (fun _ _ => false) term short := by
  refine ⟨?_, ⟨_, ((PM.made w Try.prog IsNote 79).alloc _).alloc _, fun s e _ => rfl⟩, ⟨fun _ => none, ?_, fun s e _ => by simp⟩, by omega, by omega, by omega⟩
  · have := RowV.new ((w.alloc (.map #[] 0)).alloc (.map #[] 0)) 75 (DeskV w.heap.size (w.heap.size + 1) term short)
    simpa only [World.size_alloc] using this
  · have := PM.made (w.alloc (.map #[] 0)) Try.prog IsBool 79
    simp only [World.size_alloc] at this
    exact this.alloc _
set_option maxHeartbeats 2000000 in
theorem new_any (term rho : Int) (w : World) : Calls Try.prog 7 #[.int .i64 term, .int .i64 rho] w (GivesD term (shortI term rho) w) := by
  have hs := short_any term rho w
  obtain ⟨r, hr⟩ : ∃ r, r = shortI term rho := ⟨_, rfl⟩
  rw [← hr] at hs ⊢
  clear hr
  obtain ⟨x, y⟩ := r
  simp only at hs
  have HS := hide hs
  clear hs
  have hmm := @run_makeMap Try.prog
  by_cases hy : y = 0
  · subst hy
    go_enter Try.func7, Try.ntmps7
    go_wp2_with fail
    refine HS.out.mono ?_
    rintro e w' ⟨rfl, rfl⟩
    go_wp2_with fail
    go_ret2
    refine ⟨_, rfl, ?_, .inr ⟨rfl, _, _, _, rfl, by omega, Nat.le_refl _, by omega, desk_made w term x⟩⟩
    refine (((Below.refl _ _).alloc (Nat.le_refl _) _).alloc ?_ _).alloc ?_ _ <;> simp only [World.size_alloc] <;> omega
  · have hyn : (y != 0) = true := by simpa using hy
    go_enter Try.func7, Try.ntmps7
    go_wp2_with fail
    refine HS.out.mono ?_
    rintro e w' ⟨rfl, rfl⟩
    go_wp2_with fail
    go_ret2
    exact ⟨none, rfl, Below.refl _ _, .inl ⟨hy, rfl⟩⟩
end Go.Proofs.Ytigeccflfdekiaa
