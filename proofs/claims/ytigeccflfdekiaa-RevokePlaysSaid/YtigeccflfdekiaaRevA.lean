/-
  Revoke: maps over texts; the crew; New, Reset; the document's Same.
-/
import Derived.Test.YtigeccflfdekiaaLeaseJ
import Derived.StringKeys
import Derived.Test.YtigeccflfdekiaaOwnS
namespace Go.Proofs.Ytigeccflfdekiaa
open Go.RowKit Go.Maps
set_option linter.unusedVariables false

theorem strKey_law : Keyed Try.prog 9 := string_keyed Try.underlying9
theorem str_key {s : ByteArray} (h : s.size ≤ maxLen) : keyOf Try.prog 9 (.string s) = some (.string s.data.toList) := Go.WideMaps.keyOf_string_mk Try.underlying9 h
theorem slit_inj {s s' : ByteArray} (h : Lit.string s.data.toList = Lit.string s'.data.toList) : s = s' := by
  injection h with h
  cases s; cases s'; congr; exact Array.toList_inj.1 h
def IsInt (v : Value) : Prop := ∃ a : Int, v = .int .i64 a
/-- the turns' map -/
def TurnM (w : World) (b n : Nat) (T : ByteArray → Option Int) : Prop := ∃ f, PM Try.prog IsInt w 9 b n f ∧ ∀ s, s.size ≤ maxLen → f (.string s.data.toList) = (T s).map (Value.int .i64)
theorem TurnM.lt {w : World} {b n : Nat} {T : ByteArray → Option Int} (h : TurnM w b n T) : b < w.heap.size := by obtain ⟨f, h, _⟩ := h; exact h.lt
theorem TurnM.but {S : Nat → Prop} {w w' : World} {b n : Nat} {T : ByteArray → Option Int} (h : TurnM w b n T) (hb : But S w w') (hn : ¬ S b) : TurnM w' b n T := by
  obtain ⟨f, h1, h2⟩ := h; exact ⟨f, hb.pm h1 hn, h2⟩
theorem TurnM.mono {w : World} {b n n' : Nat} {T : ByteArray → Option Int} (h : TurnM w b n T) (hn : n ≤ n') : TurnM w b n' T := by obtain ⟨f, h, h2⟩ := h; exact ⟨f, h.mono hn, h2⟩
theorem TurnM.made (w : World) : TurnM (w.alloc (.map #[] 0)) w.heap.size 0 (fun _ => none) := ⟨fun _ => none, PM.made w Try.prog IsInt 9, fun s _ => rfl⟩
theorem TurnM.look {w : World} {b n : Nat} {T : ByteArray → Option Int} (h : TurnM w b n T) {s : ByteArray} (hk : s.size ≤ maxLen) :
    (Instr.lookup 66 (.map (some b)) (.string s) false).run Try.prog w = .ok (.int .i64 ((T s).getD 0)) w ∧
    (Instr.lookup 66 (.map (some b)) (.string s) true).run Try.prog w = .ok (.tuple #[.int .i64 ((T s).getD 0), .bool (T s).isSome]) w := by
  obtain ⟨f, h1, h2⟩ := h
  have hz : (zeroValue 3).run Try.prog w = .ok (.int .i64 0) w := by kernel_rfl
  have e1 := h1.look strKey_law Try.underlying66 hz ⟨0, rfl⟩ (str_key hk)
  have e2 := h1.look_ok strKey_law Try.underlying66 hz ⟨0, rfl⟩ (str_key hk)
  rw [h2 s hk] at e1 e2
  rw [e1, e2]
  cases T s <;> exact ⟨rfl, rfl⟩
theorem TurnM.store {w : World} {b n : Nat} {T : ByteArray → Option Int} (h : TurnM w b n T) {s : ByteArray} (hk : s.size ≤ maxLen) (hn : n < maxLen) (v : Int) :
    ∃ w', (Instr.mapUpdate 66 (.map (some b)) (.string s) (.int .i64 v)).run Try.prog w = .ok () w' ∧ TurnM w' b (n + 1) (fun s' => if s' = s then some v else T s') ∧ w.grownBy w' (some b) := by
  obtain ⟨f, h1, h2⟩ := h
  obtain ⟨w', hr, hp, hg⟩ := h1.store strKey_law Try.underlying66 hn (val := .int .i64 v) ⟨v, rfl⟩ (str_key hk)
  refine ⟨w', hr, ⟨_, hp, fun s' hk' => ?_⟩, hg⟩
  by_cases hc : s' = s
  · subst hc
    rw [upd_same]; simp
  · rw [upd_other _ _ (fun he => hc (slit_inj he)), h2 s' hk']
    simp [hc]
/-- a crew: its pace, the turns; bw: who waits -/
structure CrewSt (w : World) (cg bt bw n : Nat) (T : ByteArray → Option Int) (pace : Int) : Prop where
  row : RowV w cg 69 [.int .i64 pace, .map (some bt), .map (some bw)]
  turns : TurnM w bt n T
  ne : cg ≠ bt
theorem CrewSt.but {S : Nat → Prop} {w w' : World} {cg bt bw n : Nat} {T : ByteArray → Option Int} {pace : Int} (h : CrewSt w cg bt bw n T pace) (hb : But S w w') (hg : ¬ S cg) (ht : ¬ S bt) : CrewSt w' cg bt bw n T pace := ⟨hb.row h.row hg, h.turns.but hb ht, h.ne⟩
theorem CrewSt.below {w w' : World} {cg bt bw n : Nat} {T : ByteArray → Option Int} {pace : Int} (h : CrewSt w cg bt bw n T pace) (hb : Below w.heap.size w w') : CrewSt w' cg bt bw n T pace := h.but (But.of_below (S := fun _ => False) hb) id id
/-- nobody waits -/
def NoWait (w : World) (bw : Nat) : Prop := w.heap[bw]? = some (.map #[] 0)
set_option maxHeartbeats 2000000 in
theorem reset_any (cg : Nat) (pace : Int) (v1 v2 : Value) (w : World) (hr : RowV w cg 69 [.int .i64 pace, v1, v2]) :
    Calls Try.prog 13 #[.pointer (some ⟨cg, 0, none⟩)] w fun e w' => e = .returned (.tuple #[]) ∧ CrewSt w' cg w.heap.size (w.heap.size + 1) 0 (fun _ => none) pace ∧ NoWait w' (w.heap.size + 1) ∧ But (fun k => k = cg) w w' := by
  have hmm := @run_makeMap Try.prog
  have HR := hide hr
  have f1 := hr.free 1
  have f2 := hr.free 2
  have c1 := hr.cell (k := 1) rfl
  have c2 := hr.cell (k := 2) rfl
  have hlt := hr.lt
  clear hr
  go_enter Try.func13, Try.ntmps13
  go_wp2_with fail
  go_end0
  obtain ⟨V, hV⟩ : ∃ V, V = (w.setCell ⟨cg, 1, none⟩ (.map (some w.heap.size))).setCell ⟨cg, 2, none⟩ (.map (some (w.heap.size + 1))) := ⟨_, rfl⟩
  have hsz : V.heap.size = w.heap.size := by rw [hV, World.size_setCell, World.size_setCell]
  have RV : RowV V cg 69 [.int .i64 pace, .map (some w.heap.size), .map (some (w.heap.size + 1))] := by rw [hV]; exact (HR.out.set 1 _).set 2 _
  have BV : But (fun k => k = cg) w V := by rw [hV]; exact ((But.refl (fun k => k = cg) w).setC (show (fun k => k = cg) cg from rfl)).setC (show (fun k => k = cg) cg from rfl)
  rw [← hV]
  refine ⟨rfl, ⟨(RV.alloc _).alloc _, ?_, by omega⟩, ?_, (BV.trans (But.of_alloc V _)).trans (But.of_alloc _ _)⟩
  · have := (TurnM.made V).but (But.of_alloc (S := fun _ => False) _ (.map #[] 0)) id
    rwa [hsz] at this
  · have := heap_alloc_new (V.alloc (.map #[] 0)) (.map #[] 0)
    rw [World.size_alloc, hsz] at this
    exact this
/-- what New gives -/
def GivesC (pace : Int) (w : World) (e : Ending) (w' : World) : Prop :=
  (1 ≤ pace ∧ pace ≤ 4096 ∧ ∃ cg bt bw, e = .returned (.tuple #[.pointer (some ⟨cg, 0, none⟩), .int .i64 0]) ∧ w.heap.size ≤ cg ∧ w.heap.size ≤ bt ∧ w.heap.size ≤ bw ∧ CrewSt w' cg bt bw 0 (fun _ => none) pace ∧ NoWait w' bw ∧ cg ≠ bw ∧ bt ≠ bw ∧ Below w.heap.size w w') ∨
  (¬ (1 ≤ pace ∧ pace ≤ 4096) ∧ e = .returned (.tuple #[.pointer none, .int .i64 1]) ∧ w = w')
set_option maxHeartbeats 2000000 in
theorem newc_any (pace : Int) (w : World) : Calls Try.prog 6 #[.int .i64 pace] w (GivesC pace w) := by
  by_cases hp : 1 ≤ pace ∧ pace ≤ 4096
  · obtain ⟨h1, h2⟩ := hp
    have HH := hide (And.intro h1 h2)
    have KR := hide (reset_any w.heap.size pace (.map none) (.map none) (w.alloc (.cells #[.int .i64 pace, .map none, .map none] 69)) (RowV.new w _ _))
    go_enter Try.func6, Try.ntmps6
    go_wp2_with fail
    refine KR.out.mono ?_
    rintro e w1 ⟨rfl, hc, hn, hb⟩
    have HC := hide hc; have HN := hide hn; have HB := hide hb
    clear hc hn hb
    go_wp2_with fail
    go_ret2
    have b1 : Below w.heap.size w w1 := ((Below.refl _ _).alloc (Nat.le_refl _) _).trans (HB.out.below (fun k hk => by omega) (by simp))
    simp only [World.size_alloc] at HC HN
    exact .inl ⟨HH.out.1, HH.out.2, w.heap.size, _, _, rfl, Nat.le_refl _, by omega, by omega, HC.out, HN.out, by omega, by omega, b1⟩
  · have hp2 : pace < 1 ∨ (1 ≤ pace ∧ 4096 < pace) := by omega
    have HP := hide hp
    clear hp
    rcases hp2 with h | ⟨h, h2⟩
    all_goals
      go_enter Try.func6, Try.ntmps6
      go_wp2_with fail
      go_ret2
      exact .inr ⟨HP.out, rfl, rfl⟩
end Go.Proofs.Ytigeccflfdekiaa
