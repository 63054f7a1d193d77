/-
  Lease: Holders.
-/
import Derived.Test.YtigeccflfdekiaaLeaseF
import Derived.Deep.DeepCutAuto
namespace Go.Proofs.Ytigeccflfdekiaa
open Go.RowKit Go.Maps
set_option linter.unusedVariables false

/-- what is seen -/
def SeenM (w : World) (b n : Nat) (S : Int → Bool) : Prop := ∃ f, PM Try.prog IsBool w 3 b n f ∧ ∀ e, -9223372036854775808 ≤ e ∧ e ≤ 9223372036854775807 → f (.int .i64 e) = if S e then some (.bool true) else none
theorem SeenM.lt {w : World} {b n : Nat} {S : Int → Bool} (h : SeenM w b n S) : b < w.heap.size := by obtain ⟨f, h, _⟩ := h; exact h.lt
theorem SeenM.but {S : Nat → Prop} {w w' : World} {b n : Nat} {M : Int → Bool} (h : SeenM w b n M) (hb : But S w w') (hn : ¬ S b) : SeenM w' b n M := by
  obtain ⟨f, h1, h2⟩ := h; exact ⟨f, hb.pm h1 hn, h2⟩
theorem SeenM.mono {w : World} {b n n' : Nat} {M : Int → Bool} (h : SeenM w b n M) (hn : n ≤ n') : SeenM w b n' M := by obtain ⟨f, h, h2⟩ := h; exact ⟨f, h.mono hn, h2⟩
theorem int_key {e : Int} (h : -9223372036854775808 ≤ e ∧ e ≤ 9223372036854775807) : keyOf Try.prog 3 (.int .i64 e) = some (.int .i64 e) :=
  keyOf_int_mk Try.underlying3 (by simp only [Lit.wf, IntKind.min, IntKind.max, IntKind.signed, IntKind.bits]; simp; omega)
theorem SeenM.made (w : World) : SeenM (w.alloc (.map #[] 0)) w.heap.size 0 (fun _ => false) := ⟨fun _ => none, PM.made w Try.prog IsBool 3, fun e _ => by simp⟩
theorem SeenM.look {w : World} {b n : Nat} {S : Int → Bool} (h : SeenM w b n S) {e : Int} (hk : -9223372036854775808 ≤ e ∧ e ≤ 9223372036854775807) :
    (Instr.lookup 77 (.map (some b)) (.int .i64 e) false).run Try.prog w = .ok (.bool (S e)) w := by
  obtain ⟨f, h1, h2⟩ := h
  have hz : (zeroValue 4).run Try.prog w = .ok (.bool false) w := by kernel_rfl
  have e2 := h1.look int_law Try.underlying77 hz ⟨false, rfl⟩ (int_key hk)
  rw [h2 e hk] at e2
  rw [e2]
  cases S e <;> rfl
theorem SeenM.store {w : World} {b n : Nat} {S : Int → Bool} (h : SeenM w b n S) {e : Int} (hk : -9223372036854775808 ≤ e ∧ e ≤ 9223372036854775807) (hn : n < maxLen) :
    ∃ w', (Instr.mapUpdate 77 (.map (some b)) (.int .i64 e) (.bool true)).run Try.prog w = .ok () w' ∧ SeenM w' b (n + 1) (fun e' => decide (e' = e) || S e') ∧ w.grownBy w' (some b) := by
  obtain ⟨f, h1, h2⟩ := h
  obtain ⟨w', hr, hp, hg⟩ := h1.store int_law Try.underlying77 hn (val := .bool true) ⟨true, rfl⟩ (int_key hk)
  refine ⟨w', hr, ⟨_, hp, fun e' hk' => ?_⟩, hg⟩
  by_cases hc : e' = e
  · subst hc
    rw [upd_same]; simp
  · rw [upd_other _ _ (fun he => hc (by injection he)), h2 e' hk']
    simp [hc]
/-- a lease is looked at: the notes, what is seen, who holds -/
structure Hold where
  N : ByteArray → Int → Option Int
  S : Int → Bool
  out : List Int
/-- the notes behind a look -/
def lookN (N : ByteArray → Int → Option Int) (fam : ByteArray) (e now : Int) : ByteArray → Int → Option Int := match N fam e with | none => setN N fam e now | some _ => N
def holdStep (G : ByteArray → Int → Bool) (fam : ByteArray) (now term : Int) (h : Hold) (e : Int) : Hold :=
  if h.S e = true ∨ G fam e = true then h
  else ⟨lookN h.N fam e now, fun e' => decide (e' = e) || h.S e', if overB ((lookN h.N fam e now fam e).getD 0) now term = true then h.out else h.out ++ [e]⟩
def holdI (G : ByteArray → Int → Bool) (fam : ByteArray) (now term : Int) (N : ByteArray → Int → Option Int) (ls : List Int) : Hold := ls.foldl (holdStep G fam now term) ⟨N, fun _ => false, []⟩
theorem holdI_snoc (G : ByteArray → Int → Bool) (fam : ByteArray) (now term : Int) (N : ByteArray → Int → Option Int) (ls : List Int) (e : Int) : holdI G fam now term N (ls ++ [e]) = holdStep G fam now term (holdI G fam now term N ls) e := by
  unfold holdI; rw [List.foldl_append]; rfl
theorem holdI_len (G : ByteArray → Int → Bool) (fam : ByteArray) (now term : Int) (N : ByteArray → Int → Option Int) (ls : List Int) : (holdI G fam now term N ls).out.length ≤ ls.length := by
  suffices h : ∀ (st : Hold), (ls.foldl (holdStep G fam now term) st).out.length ≤ st.out.length + ls.length by
    have := h ⟨N, fun _ => false, []⟩
    simpa [holdI] using this
  induction ls with
  | nil => intro st; simp
  | cons e ls ih =>
    intro st
    have h1 := ih (holdStep G fam now term st e)
    have h2 : (holdStep G fam now term st e).out.length ≤ st.out.length + 1 := by
      unfold holdStep
      split
      · omega
      · simp only
        split
        · omega
        · simp
    rw [List.foldl_cons, List.length_cons]
    omega
end Go.Proofs.Ytigeccflfdekiaa
