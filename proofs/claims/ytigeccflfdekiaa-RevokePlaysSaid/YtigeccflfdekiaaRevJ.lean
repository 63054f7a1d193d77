/-
  Revoke: who waits for whom; Wait.
-/
import Derived.Test.YtigeccflfdekiaaRevH
namespace Go.Proofs.Ytigeccflfdekiaa
open Go.RowKit Go.Maps
set_option linter.unusedVariables false

open Classical in
noncomputable def cutF (f : Lit → Option Value) (kl : Lit) : Lit → Option Value := fun x => if x = kl then none else f x
theorem PM_drop {P : Program} {p : Value → Prop} {w : World} {k b n : Nat} {f : Lit → Option Value} {t e : TypeId} (h : PM P p w k b n f) (K : Keyed P k) (ht : P.underlying t = some (.map k e)) {key : Value} {kl : Lit} (hkey : keyOf P k key = some kl) (ty : TypeId) :
    ∃ w', (Builtin.delete_ #[t, k] ty #[.map (some b), key]).run P w = .ok (.tuple #[]) w' ∧ PM P p w' k b n (cutF f kl) ∧ w.grownBy w' (some b) := by
  obtain ⟨D, h, h2⟩ := h
  obtain ⟨w', hrun, hown, hg⟩ := h.drop K ht hkey ty
  refine ⟨w', hrun, ⟨_, hown, fun x => ?_⟩, hg.grown⟩
  unfold cutF
  by_cases hx : x = kl
  · subst hx
    rw [if_pos rfl]
    exact ⟨Maps.has_del_same, fun z => Maps.atKey_del_same _⟩
  · rw [if_neg hx]
    exact ⟨(Maps.has_del_other hx).trans (h2 x).1, fun z => (Maps.atKey_del_other hx _).trans ((h2 x).2 z)⟩
def IsMapV (v : Value) : Prop := ∃ o, v = .map o
/-- who waits: a map of maps, the one of family s in block B s -/
structure WaitSt (w : World) (bw n : Nat) (B : ByteArray → Option Nat) (Q : ByteArray → Int × Int → Bool) : Prop where
  top : ∃ f, PM Try.prog IsMapV w 9 bw n f ∧ ∀ s, s.size ≤ maxLen → f (.string s.data.toList) = (B s).map (fun b => .map (some b))
  non : ∀ s, B s = none → ∀ x, Q s x = false
  som : ∀ s b, B s = some b → InM w b n (Q s)
  inj : ∀ s s' b, B s = some b → B s' = some b → s = s'
  ne : ∀ s b, B s = some b → b ≠ bw
theorem WaitSt.lt {w : World} {bw n : Nat} {B : ByteArray → Option Nat} {Q : ByteArray → Int × Int → Bool} (h : WaitSt w bw n B Q) : bw < w.heap.size := by obtain ⟨f, h, _⟩ := h.top; exact h.lt
theorem WaitSt.blt {w : World} {bw n : Nat} {B : ByteArray → Option Nat} {Q : ByteArray → Int × Int → Bool} (h : WaitSt w bw n B Q) {s : ByteArray} {b : Nat} (hb : B s = some b) : b < w.heap.size := (h.som s b hb).lt
theorem WaitSt.but {S : Nat → Prop} {w w' : World} {bw n : Nat} {B : ByteArray → Option Nat} {Q : ByteArray → Int × Int → Bool} (h : WaitSt w bw n B Q) (hb : But S w w') (h1 : ¬ S bw) (h2 : ∀ s b, B s = some b → ¬ S b) : WaitSt w' bw n B Q := by
  obtain ⟨f, ht, hf⟩ := h.top
  exact ⟨⟨f, hb.pm ht h1, hf⟩, h.non, fun s b hs => (h.som s b hs).but hb (h2 s b hs), h.inj, h.ne⟩
theorem WaitSt.below {w w' : World} {bw n : Nat} {B : ByteArray → Option Nat} {Q : ByteArray → Int × Int → Bool} (h : WaitSt w bw n B Q) (hb : Below w.heap.size w w') : WaitSt w' bw n B Q := h.but (But.of_below (S := fun _ => False) hb) id (fun _ _ _ => id)
theorem WaitSt.mono {w : World} {bw n n' : Nat} {B : ByteArray → Option Nat} {Q : ByteArray → Int × Int → Bool} (h : WaitSt w bw n B Q) (hn : n ≤ n') : WaitSt w bw n' B Q := by
  obtain ⟨f, ht, hf⟩ := h.top
  exact ⟨⟨f, ht.mono hn, hf⟩, h.non, fun s b hs => (h.som s b hs).mono hn, h.inj, h.ne⟩
theorem WaitSt.of_none {w : World} {bw : Nat} (h : NoWait w bw) : WaitSt w bw 0 (fun _ => none) (fun _ _ => false) := by
  have hp : PM Try.prog IsMapV w 9 bw 0 (fun _ => none) := by
    obtain ⟨D, ⟨es, clock, hb, hF⟩, h2⟩ := PM.made w Try.prog IsMapV 9
    have hb2 := heap_alloc_new w (.map #[] 0)
    rw [hb2] at hb
    injection hb with hb; injection hb with e1 e2
    subst e1; subst e2
    exact ⟨D, ⟨#[], 0, h, hF⟩, h2⟩
  exact ⟨⟨fun _ => none, hp, fun s _ => rfl⟩, fun _ _ _ => rfl, fun _ _ h => by (cases h), fun _ _ _ h => by (cases h), fun _ _ h => by (cases h)⟩
theorem WaitSt.look {w : World} {bw n : Nat} {B : ByteArray → Option Nat} {Q : ByteArray → Int × Int → Bool} (h : WaitSt w bw n B Q) {s : ByteArray} (hk : s.size ≤ maxLen) :
    (Instr.lookup 67 (.map (some bw)) (.string s) false).run Try.prog w = .ok (.map (B s)) w := by
  obtain ⟨f, h1, h2⟩ := h.top
  have hz : (zeroValue 84).run Try.prog w = .ok (.map none) w := by kernel_rfl
  have e1 := h1.look strKey_law Try.underlying67 hz ⟨none, rfl⟩ (str_key hk)
  rw [h2 s hk] at e1
  rw [e1]
  cases B s <;> rfl
open Classical in
noncomputable def setB (B : ByteArray → Option Nat) (s : ByteArray) (o : Option Nat) : ByteArray → Option Nat := fun s' => if s' = s then o else B s'
open Classical in
noncomputable def setQ (Q : ByteArray → Int × Int → Bool) (s : ByteArray) (g : Int × Int → Bool) : ByteArray → Int × Int → Bool := fun s' => if s' = s then g else Q s'
theorem setB_same (B : ByteArray → Option Nat) (s : ByteArray) (o : Option Nat) : setB B s o s = o := if_pos rfl
theorem setB_other (B : ByteArray → Option Nat) {s s' : ByteArray} (o : Option Nat) (h : s' ≠ s) : setB B s o s' = B s' := if_neg h
theorem setQ_same (Q : ByteArray → Int × Int → Bool) (s : ByteArray) (g : Int × Int → Bool) : setQ Q s g s = g := if_pos rfl
theorem setQ_other (Q : ByteArray → Int × Int → Bool) {s s' : ByteArray} (g : Int × Int → Bool) (h : s' ≠ s) : setQ Q s g s' = Q s' := if_neg h
/-- a map for a family that had none -/
theorem WaitSt.fresh {w : World} {bw n : Nat} {B : ByteArray → Option Nat} {Q : ByteArray → Int × Int → Bool} (h : WaitSt w bw n B Q) {s : ByteArray} (hk : s.size ≤ maxLen) (hn : n < maxLen) (hs : B s = none) :
    ∃ w', (Instr.mapUpdate 67 (.map (some bw)) (.string s) (.map (some w.heap.size))).run Try.prog (w.alloc (.map #[] 0)) = .ok () w' ∧ WaitSt w' bw (n + 1) (setB B s (some w.heap.size)) Q ∧ But (fun k => k = bw) w w' ∧ w.heap.size < w'.heap.size := by
  have h' := h.below ((Below.refl _ w).alloc (Nat.le_refl _) (.map #[] 0))
  obtain ⟨f, h1, h2⟩ := h'.top
  obtain ⟨w', hr, hp, hg⟩ := h1.store strKey_law Try.underlying67 hn (val := .map (some w.heap.size)) ⟨_, rfl⟩ (str_key hk)
  have hb1 : But (fun k => k = bw) (w.alloc (.map #[] 0)) w' := But.of_grown hg rfl
  have hlt := h.lt
  refine ⟨w', hr, ⟨⟨_, hp, fun s' hk' => ?_⟩, fun s' hs' => ?_, fun s' b hs' => ?_, fun s' s'' b hs' hs'' => ?_, fun s' b hs' => ?_⟩, (But.of_alloc w _).trans hb1, by have := hb1.size; rw [World.size_alloc] at this; omega⟩
  · by_cases hc : s' = s
    · subst hc; rw [upd_same, setB_same]; rfl
    · rw [upd_other _ _ (fun he => hc (slit_inj he)), setB_other _ _ hc, h2 s' hk']
  · by_cases hc : s' = s
    · subst hc; rw [setB_same] at hs'; cases hs'
    · rw [setB_other _ _ hc] at hs'; exact h.non s' hs'
  · by_cases hc : s' = s
    · subst hc
      rw [setB_same] at hs'; injection hs' with hs'; subst hs'
      have hq : Q s' = fun _ => false := funext fun x => h.non s' hs x
      rw [hq]
      exact ((InM.made w).but hb1 (by omega)).mono (by omega)
    · rw [setB_other _ _ hc] at hs'
      exact ((h'.som s' b hs').but hb1 (h.ne s' b hs')).mono (by omega)
  · by_cases hc : s' = s
    · by_cases hd : s'' = s
      · rw [hc, hd]
      · subst hc
        rw [setB_same] at hs'; rw [setB_other _ _ hd] at hs''
        have hs' := Option.some.inj hs'
        have := h.blt hs''; omega
    · by_cases hd : s'' = s
      · subst hd
        rw [setB_same] at hs''; rw [setB_other _ _ hc] at hs'
        have hs'' := Option.some.inj hs''
        have := h.blt hs'; omega
      · rw [setB_other _ _ hc] at hs'; rw [setB_other _ _ hd] at hs''
        exact h.inj _ _ _ hs' hs''
  · by_cases hc : s' = s
    · subst hc; rw [setB_same] at hs'; injection hs' with hs'; omega
    · rw [setB_other _ _ hc] at hs'; exact h.ne s' b hs'
/-- one more waits -/
theorem WaitSt.more {w : World} {bw n : Nat} {B : ByteArray → Option Nat} {Q : ByteArray → Int × Int → Bool} (h : WaitSt w bw n B Q) {s : ByteArray} {b : Nat} (hs : B s = some b) {x : Int × Int} (hx : WOk x) (hn : n < maxLen) :
    ∃ w', (Instr.mapUpdate 84 (.map (some b)) (waitV x) (.bool true)).run Try.prog w = .ok () w' ∧ WaitSt w' bw (n + 1) B (setQ Q s (fun y => y == x || Q s y)) ∧ But (fun k => k = b) w w' := by
  obtain ⟨w', hr, hi, hg⟩ := (h.som s b hs).store hx hn
  have hb1 : But (fun k => k = b) w w' := But.of_grown hg rfl
  obtain ⟨f, h1, h2⟩ := h.top
  refine ⟨w', hr, ⟨⟨f, (hb1.pm h1 (fun e => h.ne s b hs e.symm)).mono (by omega), h2⟩, fun s' hs' => ?_, fun s' b' hs' => ?_, h.inj, h.ne⟩, hb1⟩
  · by_cases hc : s' = s
    · subst hc; rw [hs] at hs'; cases hs'
    · rw [setQ_other _ _ hc]; exact h.non s' hs'
  · by_cases hc : s' = s
    · subst hc; rw [hs] at hs'; injection hs' with hs'; subst hs'
      rw [setQ_same]; exact hi
    · rw [setQ_other _ _ hc]
      exact ((h.som s' b' hs').but hb1 (fun e => hc (h.inj _ _ _ hs' (e ▸ hs)))).mono (by omega)
/-- nobody waits any longer -/
theorem WaitSt.drop {w : World} {bw n : Nat} {B : ByteArray → Option Nat} {Q : ByteArray → Int × Int → Bool} (h : WaitSt w bw n B Q) {s : ByteArray} (hk : s.size ≤ maxLen) (ty : TypeId) :
    ∃ w', (Builtin.delete_ #[67, 9] ty #[.map (some bw), .string s]).run Try.prog w = .ok (.tuple #[]) w' ∧ WaitSt w' bw n (setB B s none) (setQ Q s (fun _ => false)) ∧ But (fun k => k = bw) w w' := by
  obtain ⟨f, h1, h2⟩ := h.top
  obtain ⟨w', hr, hp, hg⟩ := PM_drop h1 strKey_law Try.underlying67 (str_key hk) ty
  have hb1 : But (fun k => k = bw) w w' := But.of_grown hg rfl
  refine ⟨w', hr, ⟨⟨_, hp, fun s' hk' => ?_⟩, fun s' hs' => ?_, fun s' b hs' => ?_, fun s' s'' b hs' hs'' => ?_, fun s' b hs' => ?_⟩, hb1⟩
  · unfold cutF
    by_cases hc : s' = s
    · subst hc; rw [if_pos rfl, setB_same]; rfl
    · rw [if_neg (fun he => hc (slit_inj he)), setB_other _ _ hc, h2 s' hk']
  · by_cases hc : s' = s
    · subst hc; rw [setQ_same]; exact fun _ => rfl
    · rw [setB_other _ _ hc] at hs'; rw [setQ_other _ _ hc]; exact h.non s' hs'
  · by_cases hc : s' = s
    · subst hc; rw [setB_same] at hs'; cases hs'
    · rw [setB_other _ _ hc] at hs'; rw [setQ_other _ _ hc]
      exact (h.som s' b hs').but hb1 (h.ne s' b hs')
  · by_cases hc : s' = s
    · subst hc; rw [setB_same] at hs'; cases hs'
    · by_cases hd : s'' = s
      · subst hd; rw [setB_same] at hs''; cases hs''
      · rw [setB_other _ _ hc] at hs'; rw [setB_other _ _ hd] at hs''
        exact h.inj _ _ _ hs' hs''
  · by_cases hc : s' = s
    · subst hc; rw [setB_same] at hs'; cases hs'
    · rw [setB_other _ _ hc] at hs'; exact h.ne s' b hs'
theorem eq_nomap (o : Option Nat) (w : World) : (binOp .eql 84 (.map o) (.map none)).run Try.prog w = .ok (.bool o.isNone) w := by
  cases o <;> kernel_rfl
def GivesW (bw n : Nat) (B : ByteArray → Option Nat) (Q : ByteArray → Int × Int → Bool) (s : ByteArray) (x : Int × Int) (w : World) (en : Ending) (w' : World) : Prop :=
  en = .returned (.tuple #[]) ∧ ∃ B', Hid (WaitSt w' bw (n + 2) B' (setQ Q s (fun y => y == x || Q s y))) ∧ Hid (∀ s' b, B' s' = some b → B s' = some b ∨ w.heap.size ≤ b) ∧ Hid (But (fun k => k = bw ∨ ∃ s', B s' = some k) w w')
set_option maxHeartbeats 2000000 in
set_option maxRecDepth 100000 in
theorem wait_any (cg bt bw n : Nat) (pace : Int) (B : ByteArray → Option Nat) (Q : ByteArray → Int × Int → Bool) (s : ByteArray) (x : Int × Int) (w : World) (hr : RowV w cg 69 [.int .i64 pace, .map (some bt), .map (some bw)])
    (hw : WaitSt w bw n B Q) (hcb : cg ≠ bw) (hk : s.size ≤ maxLen) (hx : WOk x) (hn : n ≤ 1000000) :
    Calls Try.prog 11 #[.pointer (some ⟨cg, 0, none⟩), .string s, .int .i64 x.1, .int .i64 x.2] w (GivesW bw n B Q s x w) := by
  have hmm := @run_makeMap Try.prog
  have heq1 := eq_nomap none
  have heq2 := fun b => eq_nomap (some b)
  simp only [Option.isNone_none, Option.isNone_some] at heq1 heq2
  have c2 := hr.cell (k := 2) rfl
  have l1 := hw.look hk
  have HW := hide hw
  have hn1 : n < maxLen := by unfold maxLen; omega
  have hn2 : n + 1 < maxLen := by unfold maxLen; omega
  cases hb : B s with
  | none =>
    obtain ⟨w1, r1, h1, b1, z1⟩ := hw.fresh hk hn1 hb
    obtain ⟨w2, r2, h2, b2⟩ := h1.more (setB_same B s (some w.heap.size)) hx hn2
    have d2 := (b1.row hr hcb).cell (k := 2) rfl
    have l2 := h1.look hk
    rw [setB_same] at l2
    rw [hb] at l1
    unfold waitV at r2
    have H2 := hide h2; have B12 := hide (And.intro b1 b2); have HBS := hide hb
    clear hr hw h1 h2 b1 b2 hn1 hn2 hb
    go_enter Try.func11, Try.ntmps11
    go_wp2_with fail
    go_end0
    refine ⟨rfl, setB B s (some w.heap.size), H2.out, hide fun s' b hs' => ?_, hide ((B12.out.1.mono fun k hk => .inl hk).after B12.out.2 fun k hk => .inr (by omega))⟩
    by_cases hc : s' = s
    · subst hc; rw [setB_same] at hs'; injection hs' with hs'; exact .inr (by omega)
    · rw [setB_other _ _ hc] at hs'; exact .inl hs'
  | some b =>
    obtain ⟨w2, r2, h2, b2⟩ := hw.more hb hx hn1
    rw [hb] at l1
    unfold waitV at r2
    have H2 := hide h2; have B2 := hide b2; have HBS := hide hb
    clear hr hw h2 b2 hn1 hn2 hb
    go_enter Try.func11, Try.ntmps11
    go_wp2_with fail
    go_end0
    exact ⟨rfl, B, hide (H2.out.mono (by omega)), hide fun s' b' hs' => .inl hs', hide (B2.out.mono fun k hk => .inr ⟨s, by rw [hk]; exact HBS.out⟩)⟩
set_option maxHeartbeats 400000 in
theorem wait_nil (s : ByteArray) (e q : Int) (w : World) : Calls Try.prog 11 #[.pointer none, .string s, .int .i64 e, .int .i64 q] w fun en w' => en = .returned (.tuple #[]) ∧ w = w' := by
  go_enter Try.func11, Try.ntmps11
  go_wp2_with fail
  refine bodyPost_ret (results_none rfl _ _ _) rfl ?_
  exact ⟨rfl, rfl⟩
theorem reset_nil (w : World) : Calls Try.prog 13 #[.pointer none] w fun en w' => en = .returned (.tuple #[]) ∧ w = w' := by
  go_enter Try.func13, Try.ntmps13
  go_wp2_with fail
  go_end0
  exact ⟨rfl, rfl⟩
theorem turn_nil (v1 : Value) (now : Int) (w : World) : Calls Try.prog 9 #[.pointer none, v1, .slice none 0 0, .int .i64 now] w fun en w' => en = .returned (.tuple #[.slice none 0 0, .slice none 0 0]) ∧ w = w' := by
  go_enter Try.func9, Try.ntmps9
  go_wp2_with fail
  go_ret2
  exact ⟨rfl, rfl⟩
theorem gone_nil (s : ByteArray) (w : World) : Calls Try.prog 12 #[.pointer none, .string s] w fun en w' => en = .returned (.slice none 0 0) ∧ w = w' := by
  go_enter Try.func12, Try.ntmps12
  go_wp2_with fail
  go_ret
  exact ⟨rfl, rfl⟩
end Go.Proofs.Ytigeccflfdekiaa
