/-
  Revoke: who waits: maps over pairs of numbers; the library's keys of such a map.
-/
import Derived.Test.YtigeccflfdekiaaRevA
import Derived.RangeFuncNested
import Derived.RangeFuncBound
import Derived.RangeFuncCalls
import Derived.RangeFuncLeaves
import Derived.Shelf.Abstract
import Derived.Shelf.RegionOpen
import Derived.Sort.MapsRangeIn
import Derived.Maps.AppendAt
import Derived.WalkKit
import Derived.OwnWalkIn
import Derived.TacticsInMore
import Derived.RegionIn
import Derived.LoopNIn
import Derived.LoopIn
import Derived.Laws.IdiomRangeMap
import Derived.WalkSmall
namespace Go.Proofs.Ytigeccflfdekiaa
open Go.RowKit Go.Maps Go.Shelf
set_option linter.unusedVariables false

theorem wait_law : Keyed Try.prog 50 := Keyed.of_law (deep_law_laid lease_laid (m := 2) (by omega) (of_decide_eq_true (by kernel_rfl)) (by kernel_rfl) (by rw [Try.underlying50]))
def waitV (x : Int × Int) : Value := .agg #[.int .i64 x.1, .int .i64 x.2]
def wlit (x : Int × Int) : Lit := .string (keyBytes [.int .i64 x.1, .int .i64 x.2])
def WOk (x : Int × Int) : Prop := I64 x.1 ∧ I64 x.2
theorem wf_i64 {e : Int} (h : I64 e) : (Lit.int .i64 e).wf = true := by
  have h1 : -9223372036854775808 ≤ e ∧ e ≤ 9223372036854775807 := h
  simp only [Lit.wf, IntKind.min, IntKind.max, IntKind.signed, IntKind.bits]
  simp; omega
theorem wait_lits {m : Nat} (x : Int × Int) : (Try.prog.keyLits (m + 2) 50 [.int .i64 x.1, .int .i64 x.2]) = if (Lit.int .i64 x.1).wf = true ∧ (Lit.int .i64 x.2).wf = true then some [.int .i64 x.1, .int .i64 x.2] else none := by
  have hc : Try.prog.cellsOf 50 = 2 := by kernel_rfl
  have h3 : Try.prog.cellsOf 3 = 1 := by kernel_rfl
  have k2 : ∀ z : Int, Try.prog.keyLits (m + 1) 3 [.int .i64 z] = if (Lit.int .i64 z).wf = true then some [.int .i64 z] else none := fun z => by
    unfold Program.keyLits
    rw [Try.underlying3]
    simp only [true_and]
    try simp
  unfold Program.keyLits
  rw [Try.underlying50]
  simp only [hc, List.length_cons, List.length_nil, List.mapM_cons, List.mapM_nil, List.drop_zero, h3, List.take_succ_cons, List.take_zero, k2]
  rw [if_pos ⟨trivial, by kernel_rfl⟩]
  rw [show List.take 1 (List.drop 1 [Value.int IntKind.i64 x.1, Value.int IntKind.i64 x.2]) = [.int .i64 x.2] from rfl, k2]
  by_cases h1 : (Lit.int .i64 x.1).wf = true <;> by_cases h2 : (Lit.int .i64 x.2).wf = true <;> simp [h1, h2]
theorem wait_key {x : Int × Int} (h : WOk x) : keyOf Try.prog 50 (waitV x) = some (wlit x) := by
  have hk : Try.prog.keyType 50 = true := by kernel_rfl
  have hc : Try.prog.cellsOf 50 = 2 := by kernel_rfl
  have hf : (waitV x).formed Try.prog 50 = true := by
    simp [waitV, Value.formed, Try.underlying50, hc]
  unfold keyOf
  rw [Try.underlying50]
  simp only [hk, hf, Bool.and_self, if_true]
  obtain ⟨m, hm⟩ : ∃ m, Try.prog.types.size = m + 1 := ⟨_, (by kernel_rfl : Try.prog.types.size = (Try.prog.types.size - 1) + 1)⟩
  rw [hm]
  have hcs : (waitV x).cells.toList = [.int .i64 x.1, .int .i64 x.2] := rfl
  rw [hcs, wait_lits, if_pos ⟨wf_i64 h.1, wf_i64 h.2⟩]
  rfl
theorem wlit_inj {x y : Int × Int} (h : WOk x) (h' : WOk y) (he : wlit x = wlit y) : x = y := by
  have := wait_law.inj (wait_key h) (he ▸ wait_key h')
  unfold waitV at this
  injection this with this
  have := congrArg Array.toList this
  simp at this
  exact Prod.ext this.1 this.2
set_option maxRecDepth 100000 in
/-- what reads as such a key -/
theorem wait_inv {key : Value} {kl : Lit} (h : keyOf Try.prog 50 key = some kl) : ∃ x, key = waitV x ∧ WOk x ∧ kl = wlit x := by
  have hc : Try.prog.cellsOf 50 = 2 := by kernel_rfl
  have h3 : Try.prog.cellsOf 3 = 1 := by kernel_rfl
  unfold keyOf at h
  rw [Try.underlying50] at h
  simp only at h
  split at h
  · rename_i hf
    have hf2 : key.formed Try.prog 50 = true := by
      simp only [Bool.and_eq_true] at hf; exact hf.2
    cases key
    case agg cs =>
      have hs : cs.size = 2 := by simpa [Value.formed, Try.underlying50, hc] using hf2
      obtain ⟨a, b, rfl⟩ : ∃ a b, cs = #[a, b] := ⟨cs[0], cs[1], by
        apply Array.ext
        · simp [hs]
        · intro i h1 h2
          have : i = 0 ∨ i = 1 := by omega
          rcases this with rfl | rfl <;> rfl⟩
      obtain ⟨m, hm⟩ : ∃ m, Try.prog.types.size = m + 1 := ⟨_, (by kernel_rfl : Try.prog.types.size = (Try.prog.types.size - 1) + 1)⟩
      rw [hm] at h
      have k2 : ∀ (v : Value) l, Try.prog.keyLits (m + 1) 3 [v] = some l → ∃ z, v = .int .i64 z ∧ (Lit.int .i64 z).wf = true := fun v l hl => by
        unfold Program.keyLits at hl
        rw [Try.underlying3] at hl
        cases v <;> simp at hl
        obtain ⟨⟨rfl, hw⟩, _⟩ := hl
        exact ⟨_, rfl, hw⟩
      have hab : (Value.agg #[a, b]).cells.toList = [a, b] := rfl
      rw [hab] at h
      have h' := h
      unfold Program.keyLits at h'
      rw [Try.underlying50] at h'
      simp only [hc, List.length_cons, List.length_nil, List.mapM_cons, List.mapM_nil, List.drop_zero, h3, List.take_succ_cons, List.take_zero] at h'
      rw [if_pos ⟨trivial, by kernel_rfl⟩, show List.take 1 (List.drop 1 [a, b]) = [b] from rfl] at h'
      cases h1 : Try.prog.keyLits (m + 1) 3 [a] with
      | none => rw [h1] at h'; simp at h'
      | some l1 =>
        rw [h1] at h'
        cases h2 : Try.prog.keyLits (m + 1) 3 [b] with
        | none => rw [h2] at h'; simp at h'
        | some l2 =>
          obtain ⟨z1, rfl, w1⟩ := k2 _ _ h1
          obtain ⟨z2, rfl, w2⟩ := k2 _ _ h2
          have e1 : I64 z1 := by simpa [Lit.wf, IntKind.min, IntKind.max, IntKind.signed, IntKind.bits, I64] using w1
          have e2 : I64 z2 := by simpa [Lit.wf, IntKind.min, IntKind.max, IntKind.signed, IntKind.bits, I64] using w2
          refine ⟨(z1, z2), rfl, ⟨e1, e2⟩, ?_⟩
          have hl := wait_lits (m := m) (z1, z2)
          rw [if_pos ⟨w1, w2⟩] at hl
          rw [hl] at h
          simp at h
          exact h.symm
    all_goals simp [Value.formed, Try.underlying50] at hf2
  · cases h
def IsTrue (v : Value) : Prop := v = .bool true
/-- who waits for one family -/
def InM (w : World) (b n : Nat) (g : Int × Int → Bool) : Prop := ∃ f, PM Try.prog IsTrue w 50 b n f ∧ ∀ x, WOk x → (f (wlit x)).isSome = g x
theorem InM.lt {w : World} {b n : Nat} {g : Int × Int → Bool} (h : InM w b n g) : b < w.heap.size := by obtain ⟨f, h, _⟩ := h; exact h.lt
theorem InM.but {S : Nat → Prop} {w w' : World} {b n : Nat} {g : Int × Int → Bool} (h : InM w b n g) (hb : But S w w') (hn : ¬ S b) : InM w' b n g := by
  obtain ⟨f, h1, h2⟩ := h; exact ⟨f, hb.pm h1 hn, h2⟩
theorem InM.mono {w : World} {b n n' : Nat} {g : Int × Int → Bool} (h : InM w b n g) (hn : n ≤ n') : InM w b n' g := by obtain ⟨f, h, h2⟩ := h; exact ⟨f, h.mono hn, h2⟩
theorem InM.made (w : World) : InM (w.alloc (.map #[] 0)) w.heap.size 0 (fun _ => false) := ⟨fun _ => none, PM.made w Try.prog IsTrue 50, fun s _ => rfl⟩
theorem InM.store {w : World} {b n : Nat} {g : Int × Int → Bool} (h : InM w b n g) {x : Int × Int} (hk : WOk x) (hn : n < maxLen) :
    ∃ w', (Instr.mapUpdate 84 (.map (some b)) (waitV x) (.bool true)).run Try.prog w = .ok () w' ∧ InM w' b (n + 1) (fun y => y == x || g y) ∧ w.grownBy w' (some b) := by
  obtain ⟨f, h1, h2⟩ := h
  obtain ⟨w', hr, hp, hg⟩ := h1.store wait_law Try.underlying84 hn (val := .bool true) rfl (wait_key hk)
  refine ⟨w', hr, ⟨_, hp, fun y hy => ?_⟩, hg⟩
  by_cases hc : y = x
  · subst hc
    rw [upd_same]; simp
  · rw [upd_other _ _ (fun he => hc (wlit_inj hy hk he)), h2 y hy]
    simp [hc]
/-- what a map's keys are, as a list -/
def KeysAre (g : Int × Int → Bool) (ss : List (Int × Int)) : Prop := ss.Nodup ∧ (∀ x ∈ ss, WOk x ∧ g x = true) ∧ ∀ x, WOk x → g x = true → x ∈ ss
def Met {H : Type} (D0 : DataW H) (left : Lit → Bool) (ss : List (Int × Int)) : Prop := ss.Nodup ∧ (∀ x ∈ ss, WOk x ∧ has D0 (wlit x) = true ∧ left (wlit x) = false) ∧ ∀ x, WOk x → has D0 (wlit x) = true → left (wlit x) = false → x ∈ ss
theorem Met.start {H : Type} (D0 : DataW H) : Met D0 (has D0) [] := ⟨List.nodup_nil, fun x h => (by cases h), fun x _ h1 h2 => by rw [h1] at h2; cases h2⟩
theorem Met.step {H : Type} {D0 : DataW H} {left : Lit → Bool} {ss : List (Int × Int)} (h : Met D0 left ss) {x : Int × Int} {y : DataW H} (hx : WOk x) (hlk : left (wlit x) = true) (hat : ∀ zd, D0.atKey (wlit x) zd = y) : Met D0 (fun z => left z && !z.sameKey (wlit x)) (ss ++ [x]) := by
  have hhas : has D0 (wlit x) = true := has_true_of_atKey hat
  have hnew : x ∉ ss := fun hm => by have := (h.2.1 x hm).2.2; rw [hlk] at this; cases this
  have hsame : (wlit x).sameKey (wlit x) = true := by simp [wlit, Lit.sameKey]
  refine ⟨List.nodup_append.2 ⟨h.1, by simp, fun a ha b hb => by simp at hb; subst hb; exact fun e => hnew (e ▸ ha)⟩, fun y hy => ?_, fun y hy h1 h2 => ?_⟩
  · rw [List.mem_append, List.mem_singleton] at hy
    rcases hy with hy | rfl
    · have := h.2.1 y hy
      exact ⟨this.1, this.2.1, by show (left (wlit y) && _) = false; rw [this.2.2]; rfl⟩
    · exact ⟨hx, hhas, by show (_ && !(wlit y).sameKey (wlit y)) = false; rw [hsame]; simp⟩
  · by_cases he : y = x
    · subst he; simp
    · have hns : (wlit y).sameKey (wlit x) = false := by
        cases hs : (wlit y).sameKey (wlit x)
        · rfl
        · exact absurd (wlit_inj hy hx (WideAt.sameKey_eq hs)) he
      have h2 : (left (wlit y) && !(wlit y).sameKey (wlit x)) = false := h2
      rw [hns] at h2
      rw [List.mem_append]
      exact .inl (h.2.2 y hy h1 (by simpa using h2))
attribute [local go_sem] Oper.semAt_some
set_option maxRecDepth 100000 in
set_option maxHeartbeats 2000000 in
/-- maps.Keys' iterator -/
theorem wkeys_in {H : Type} (F : Fence) (n : Nat) (h38 : F.fn 38) (hro : F.round = none) (hn : 1 ≤ n) (l Bm b nn : Nat) (D0 : DataW H) {R : Value → Option (DataW H × List MemPlace)} (J Jx : List (Int × Int) → World → Prop)
    (hY : ∀ pre x W, J pre W → pre.length < Maps.size D0 → YieldAt F (n - 1) Try.prog l #[waitV x] W fun e W' =>
      (e = .returned (.bool true) ∧ J (pre ++ [x]) W' ∧ KeepsWalks W W') ∨ (e = .returned (.bool false) ∧ Jx (pre ++ [x]) W'))
    (W : World) (hJ : AbidesFrom W.heap.size J) (hm : W.cell? ⟨Bm, 0, none⟩ = some (.map (some b))) (hown : W.ownsMap Try.prog 50 R b nn D0) (h0 : J [] W) :
    CallsIn F n Try.prog 38 #[.func (.yield l) #[] #[], .pointer (some ⟨Bm, 0, none⟩)] W fun e W' => (∃ v, e = .returned v) ∧
      ((∃ ss : List (Int × Int), ((∃ left, Met D0 left ss ∧ ∀ kl, left kl = false) ∧ ss.length ≤ Maps.size D0) ∧ J ss W') ∨ (∃ pre : List (Int × Int), True ∧ Jx pre W')) := by
  refine callsIn_of_wp Try.func38 rfl h38 ?_ hro
  simp only [Try.ntmps38, List.size_toArray, List.length_cons, List.length_nil, Nat.reduceAdd, Nat.reduceSub, Array.replicate_succ, Array.replicate_zero, List.push_toArray, List.append_toArray, List.nil_append, List.cons_append]
  gi_wp2_with (first
    | (gi_at_range; refine wpListIn_range_own _ rfl _ 84 rfl 50 4 wait_law Try.underlying84 _ b nn _ rfl hown ?_; intro w0 hrg0 hg0 hs0)
    | gi_in)
  go_frame
  gi_loopw [3] (fun _ wr => ∃ (left : Lit → Bool) (cnt : Nat) (ss : List (Int × Int)), wr.ranges Try.prog 50 R b W.heap.size nn D0 left cnt ∧ ss.length + cnt ≤ Maps.size D0 ∧ Met D0 left ss ∧ J ss wr)
    (fun _ wr => wr.rangeLeft b W.heap.size)
  case atStart =>
    exact ⟨_, _, [], hrg0, by simp, Met.start D0, hJ [] W w0 none h0 hg0 (fun r e => by cases e)⟩
  case round =>
    obtain ⟨left, cnt, ss, hrg, hcs, hC, hJs⟩ := hrel
    gi_wp2_with (first
      | (gi_at_next; refine wpListIn_next_ranges _ rfl _ rfl 50 wait_law R waitV id (fun key kl hk => by obtain ⟨x, hx, _⟩ := wait_inv hk; exact ⟨x, hx⟩) (fun v _ _ => ⟨v, rfl⟩) b W.heap.size nn _ _ _ rfl hrg ?_ ?_)
      | gi_in)
    · intro hc0 hl0
      gi_wp2
      go_end0
      exact ⟨⟨_, rfl⟩, .inl ⟨ss, ⟨⟨left, hC, hl0⟩, by omega⟩, hJs⟩⟩
    · intro x1 x2 c kl yd yp w2 cnt2 hkey hlk hv hat hrg2 hlt hg2 hs2 hen
      obtain ⟨x, hxx⟩ : ∃ x : Int × Int, x = (x1, x2) := ⟨_, rfl⟩
      rw [← hxx] at hkey hen ⊢
      clear hxx x1 x2
      obtain ⟨x', ex, hx, rfl⟩ := wait_inv hkey
      obtain rfl : x = x' := by
        unfold waitV at ex
        injection ex with ex
        have := congrArg Array.toList ex
        simp at this
        exact Prod.ext this.1 this.2
      have hJ2 : J ss w2 := hJ ss wr w2 (some W.heap.size) hJs hg2 (fun r e => by cases e; exact ⟨Nat.le_refl _, hrg.iter_walk⟩)
      have hJ3 : J ss (w2.alloc (.cells #[.int .i64 x.1, .int .i64 x.2] 50)) := hJ ss w2 _ none hJ2 (World.grownBy_alloc _ _ none) (fun r e => by cases e)
      have hrg3 := hrg2.alloc (.cells #[.int .i64 x.1, .int .i64 x.2] 50)
      obtain ⟨fn, tmps, assign, body, hy, hR⟩ := hY ss x _ hJ3 (by omega)
      have hC2 := hC.step hx hlk hat
      unfold waitV at hen hy ⊢
      clear ex hkey hY hC hJ2 hJ3 hrg2
      gi_wp2
      refine hR.mono ?_
      rintro e W3 (⟨rfl, hJ4, hk3⟩ | ⟨rfl, hJx3⟩)
      · gi_wp2
        have hrg4 := hrg3.of_walks hk3
        go_roundw
        case rel => exact ⟨_, cnt2, ss ++ [x], hrg4, by simp; omega, hC2, hJ4⟩
        case measure => rw [hrg4.left_eq, hrg.left_eq]; exact hlt
      · gi_wp2
        refine bodyPost_ret (results_none rfl _ _ _) rfl ?_
        exact ⟨⟨_, rfl⟩, .inr ⟨ss ++ [x], trivial, hJx3⟩⟩
/-- .. as a value that may be called -/
theorem wkeys_stops (F : Fence) (n : Nat) (h38 : F.fn 38) (hro : F.round = none) (hn : 1 ≤ n) (Bm b nn : Nat) (g : Int × Int → Bool) (w : World) (hBm : Bm < w.heap.size)
    (hm : w.cell? ⟨Bm, 0, none⟩ = some (.map (some b))) (hi : InM w b nn g) :
    SeqStopsK F n Try.prog 38 #[.pointer (some ⟨Bm, 0, none⟩)] (fun x => #[waitV x]) KeepsWalks (fun ss => KeysAre g ss ∧ ss.length ≤ nn) (fun _ => True) nn w := fun l J Jx W hW hJ _ hY h0 => by
  obtain ⟨f, ⟨D, hown, h2⟩, hf⟩ := hi
  have hbl := hown.lt
  have hown' : W.ownsMap Try.prog 50 (RV IsTrue) b nn D := hown.kept (grownBy_of_below hW) (by simp)
  have hsz : Maps.size D ≤ nn := hown.size_le
  refine (wkeys_in F n h38 hro hn l Bm b nn D J Jx (fun pre x W1 h1 h2 => hY pre x W1 h1 (by omega)) W hJ ((hW.cell (p := ⟨Bm, 0, none⟩) hBm).trans hm) hown' h0).mono ?_
  rintro e W' ⟨he, (⟨ss, ⟨⟨left, hM, hl⟩, hls⟩, hJs⟩ | ⟨pre, _, hJx⟩)⟩
  · refine ⟨he, .inl ⟨ss, ⟨⟨hM.1, fun x hx => ?_, fun x hx hg => hM.2.2 x hx ?_ (hl _)⟩, by omega⟩, hJs⟩⟩
    · have := hM.2.1 x hx
      exact ⟨this.1, by rw [← hf x this.1, ← (h2 _).1]; exact this.2.1⟩
    · rw [(h2 _).1, hf x hx]; exact hg
  · exact ⟨he, .inr ⟨pre, trivial, hJx⟩⟩
set_option maxRecDepth 100000 in
set_option maxHeartbeats 1000000 in
/-- .. of no map at all -/
theorem wkeys_none (F : Fence) (n N : Nat) (h38 : F.fn 38) (hro : F.round = none) (Bm : Nat) (w : World) (hBm : Bm < w.heap.size)
    (hm : w.cell? ⟨Bm, 0, none⟩ = some (.map none)) :
    SeqStopsK F n Try.prog 38 #[.pointer (some ⟨Bm, 0, none⟩)] (fun x => #[waitV x]) KeepsWalks (fun ss => KeysAre (fun _ => false) ss ∧ ss.length ≤ N) (fun _ => True) N w := fun l J Jx W hW hJ _ hY h0 => by
  have hc := (hW.cell (p := ⟨Bm, 0, none⟩) hBm).trans hm
  refine callsIn_of_wp Try.func38 rfl h38 ?_ hro
  simp only [Try.ntmps38, List.size_toArray, List.length_cons, List.length_nil, Nat.reduceAdd, Nat.reduceSub, Array.replicate_succ, Array.replicate_zero, List.push_toArray, List.append_toArray, List.nil_append, List.cons_append]
  have hrg := run_range_nilMap (P := Try.prog) W 84 50 4 Try.underlying84
  have hnx : ∀ ty, (Instr.next (.pointer (some ⟨W.heap.size, 0, none⟩)) false ty).run Try.prog (W.alloc (.mapIter none 0 #[] 0)) = _ := fun ty => run_next_nilMap _ ty 0 0 #[]
  clear hY
  gi_wp2
  refine wpIn_loop_rounds 1 ?_
  rw [roundsIn_succ]
  gi_wp2
  go_end0
  exact ⟨⟨_, rfl⟩, .inl ⟨[], ⟨⟨List.nodup_nil, fun x h => (by cases h), fun x _ h => by cases h⟩, Nat.zero_le _⟩, hJ [] W _ none h0 (World.grownBy_alloc W _ none) (fun r e => by cases e)⟩⟩
set_option maxHeartbeats 1000000 in
/-- maps.Keys itself -/
theorem wkeysof_in (F : Fence) (n : Nat) (hf : F.fn 26) (hro : F.round = none) (mb : Option Nat) (w : World) :
    CallsIn F n Try.prog 26 #[.map mb] w fun e w' => e = .returned (.func (.func 38) #[] #[.pointer (some ⟨w.heap.size, 0, none⟩)]) ∧ w' = w.alloc (.cells #[.map mb] 84) := by
  refine callsIn_of_wp Try.func26 rfl hf ?_ hro
  simp only [Try.ntmps26, List.size_toArray, List.length_cons, List.length_nil, Nat.reduceAdd, Nat.reduceSub, Array.replicate_succ, Array.replicate_zero, List.push_toArray, List.append_toArray, List.nil_append, List.cons_append]
  gi_wp2
  go_ret
  exact ⟨rfl, rfl⟩
theorem seq_later {α : Type} {F : Fence} {n : Nat} {P : Program} {g : Nat} {lb : Array Value} {encs : α → Array Value} {Kp : World → World → Prop} {S Sp : List α → Prop} {N : Nat} {w w' : World}
    (h : SeqStopsK F n P g lb encs Kp S Sp N w) (hb : Below w.heap.size w w') : SeqStopsK F n P g lb encs Kp S Sp N w' :=
  fun l J Jx W hW hJ hJx hY h0 => h l J Jx W (hb.trans (hW.mono hb.size)) hJ hJx hY h0
def waitC (x : Int × Int) : List Value := [.int .i64 x.1, .int .i64 x.2]
theorem info_wait : (Try.prog.info? 50).map (fun i => (i.zero, i.size, i.bytes)) = some (some (.agg #[.int .i64 0, .int .i64 0]), 2, 16) := by kernel_rfl
set_option maxRecDepth 100000 in
set_option maxHeartbeats 2000000 in
/-- slices.AppendSeq -/
theorem appendSeq_in (F : Fence) (n : Nat) (h42 : F.fn 42) (h38 : F.fn 38) (hro : F.round = none) (hn : 4 ≤ n) (lb : Array Value) (S Sp : List (Int × Int) → Prop) (N : Nat) (hN : N ≤ 1000000) (w : World)
    (hseq : SeqStopsK F (n - 1) Try.prog 38 lb (fun x => #[waitV x]) KeepsWalks S Sp N w) :
    CallsIn F n Try.prog 42 #[.slice none 0 0, .func (.func 38) #[] lb] w fun e W' => ∃ v ss, e = .returned v ∧ S ss ∧ W'.ownsRow w.heap.size 50 2 v ss.length (ss.flatMap waitC) ∧ (v = .slice none 0 0 ↔ ss = []) ∧ Below w.heap.size w W' := by
  have h1 : 1 ≤ n := by omega
  obtain ⟨i0, hi, hz0, hz1, hz2⟩ := info_parts info_wait
  refine callsIn_of_wp_marks Try.func42 rfl h42 ?_ hro
  simp only [Try.ntmps42, List.size_toArray, List.length_cons, List.length_nil, Nat.reduceAdd, Nat.reduceSub, Array.replicate_succ, Array.replicate_zero, List.push_toArray, List.append_toArray, List.nil_append, List.cons_append]
  gi_wp2
  have bO := Boxed.new w 47 (.slice none 0 0)
  have hB0 : Below w.heap.size w (w.alloc (.cells #[.slice none 0 0] 47)) := (Below.refl _ w).alloc (Nat.le_refl _) _
  have hs0 : (w.alloc (.cells #[.slice none 0 0] 47)).heap.size = w.heap.size + 1 := by simp
  obtain ⟨W0, hW0⟩ : ∃ W0, w.alloc (.cells #[.slice none 0 0] 47) = W0 := ⟨_, rfl⟩
  rw [hW0] at bO hB0 hs0 ⊢
  clear hW0
  refine wpIn_rangeFunc_ownH hro h1 (gf := 38) (lb := lb) rfl h38 (enters_of Try.func38 (by kernel_rfl) rfl)
    (seq_later hseq hB0) walksK_t (fun W l o o' h1 h2 h3 h4 => walksK_b W l o o' h1 h2 h3 h4) (Below.refl _ _) (fun _ => rfl)
    (fun pre W => (∃ v, Boxed W w.heap.size 47 v ∧ W.ownsRow w.heap.size 50 2 v pre.length (pre.flatMap waitC) ∧ (v = .slice none 0 0 ↔ pre = [])) ∧ Below w.heap.size w W)
    (fun _ _ _ => False)
    (OwnFrom.and (Own.from (holdsRow_own w.heap.size w.heap.size 47 50 2 (fun pre : List (Int × Int) => pre.length) (fun pre => pre.flatMap waitC) (fun pre v => v = .slice none 0 0 ↔ pre = [])) _) (ownFrom_below (Nat.le_refl _) (by omega)))
    (fun _ _ _ _ _ hs _ _ => hs)
    ⟨⟨_, bO, World.ownsRow_nil _ _ _ _, by simp⟩, hB0⟩
    (fun x a' W => ∃ Bx, w.heap.size < Bx ∧ W.heap[Bx]? = some (.cells #[.int .i64 x.1, .int .i64 x.2] 50 (0, 0)) ∧ a' = { tmps := #[.slice none 0 0, .func (.func 38) #[] lb, .pointer (some ⟨w.heap.size, 0, none⟩), undef, .slice none 0 0, .pointer (some ⟨Bx, 0, none⟩), .func (.func 38) #[] lb, waitV x, undef, undef, undef, undef, undef], defers := [] })
    (fun x a' _ X Y row hs hg hr => by
      obtain ⟨Bx, h1, h2, h3⟩ := hs
      refine ⟨Bx, h1, (hg.block Bx (Array.getElem?_eq_some_iff.1 h2).1 (fun e => ?_)).trans h2, h3⟩
      obtain ⟨_, o, ho, hc⟩ := hr Bx e.symm
      rw [h2] at ho; cases ho; cases hc)
    ?assign ?body ?done ?stop
  case assign =>
    rintro l pre x W K ⟨⟨v, hv, hrow, hnil⟩, hB⟩ hK
    unfold waitV
    gi_wp2
    exact hK _ _ ((KeepsOthers.alloc _ _).from _) (KeepsWalks.alloc _ _) ⟨⟨v, hv.alloc _, hrow.alloc _, hnil⟩, hB.alloc hB.size _⟩ ⟨W.heap.size, hv.lt, World.alloc_heap_new W _, rfl⟩
  case body =>
    rintro l pre x a' W hl ⟨r, hr⟩ ⟨⟨v, hv, hrow, hnil⟩, hB⟩ ⟨Bx, hBx, bX, rfl⟩ hlt
    have hc := hv.cell
    have c0 : W.cell? ⟨Bx, 0, none⟩ = some (.int .i64 x.1) := by simp [World.cell?, bX]
    have c1 : W.cell? ⟨Bx, 1, none⟩ = some (.int .i64 x.2) := by simp [World.cell?, bX]
    have hne : (47 : Nat) ≠ 50 := by decide
    unfold waitV
    gi_wp2_with (gi_at_builtin; refine wpListIn_append_own _ rfl _ _ 47 rfl w.heap.size 50 i0 (.agg #[.int .i64 0, .int .i64 0]) 2 16 Try.underlying47 hi hz0 hz1 hz2 rfl (by decide) _ _ _ rfl (hrow.alloc _) ⟨W.heap.size, 0, none⟩ 1 1 [.int .i64 x.1, .int .i64 x.2] rfl rfl (cell_two_new _ _ _ _) (by intro u hu; simp at hu; rcases hu with rfl | rfl <;> rfl) (by unfold maxLen; omega) (by omega) (by have := hB.size; simp; omega) ?_; intro v' w1 hown' hgrow _; obtain ⟨g', cap', rfl⟩ := ownsRow_succ hown'; obtain ⟨hv1, hv2, hr2, hk2, hb2⟩ := hv.appended hne hrow hB.size (Nat.le_refl _) hown' hgrow; have hc1 := hv1.cell; have hf1 := hv1.frozen)
    exact ⟨hk2.from _, hk2.walks, ⟨_, hv2, by simpa [waitC] using hr2, by simp⟩, hB.trans hb2⟩
  case done =>
    rintro D ys W hD hS ⟨⟨v, hv, hrow, hnil⟩, hB⟩ hK
    have hc := hv.cell
    gi_wp2
    refine ⟨by simp, .inl ⟨_, _, rfl, run_takeDeferred hK, ?_⟩⟩
    exact ⟨_, results_tmp rfl _ _ _, v, ys, rfl, hS, ownsRow_putObj hrow _ hK rfl, hnil, hB.trans (belowK_b (w := w) (Nat.le_refl _) W D _ _ (by omega) hK rfl rfl)⟩
  case stop =>
    rintro D c pre W _ _ h _
    exact h.elim
end Go.Proofs.Ytigeccflfdekiaa
