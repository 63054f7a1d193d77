/-
  The plain law of reading; a reader's state in memory; the walks of fail, next.
-/
import Derived.Test.YtnlfnjadadfhkaaWireB
import Derived.Test.YtnlfnjadadfhkaaStr
import Derived.Deep.DeepCutAuto
namespace Go.Proofs.Ytnlfnjadadfhkaa
open Go.RowKit
set_option linter.unusedVariables false

/-- a number: its value, the error (0: none), what is left behind it (k digits have been read, n is their worth) -/
def Rd.numF (most : Nat) : Nat → Nat → List UInt8 → Nat × Int × List UInt8
  | _, _, [] => (0, 4, [])
  | k, n, d :: t =>
    if (k = 9 ∧ 1 < d.toNat) ∨ (0 < k ∧ d.toNat = 0) then (0, 3, t)
    else if d.toNat < 128 then (if n + 128 ^ k * d.toNat ≤ most then (n + 128 ^ k * d.toNat, 0, t) else (0, 3, t))
    else Rd.numF most (k + 1) (n + 128 ^ k * (d.toNat - 128)) t
def Rd.num (most : Nat) (rest : List UInt8) : Nat × Int × List UInt8 := Rd.numF most 0 0 rest
theorem Rd.numF_err (most k n : Nat) (rest : List UInt8) : (Rd.numF most k n rest).2.1 ≠ 0 → (Rd.numF most k n rest).1 = 0 := by
  induction rest generalizing k n with
  | nil => intro _; rfl
  | cons d t ih =>
    unfold Rd.numF
    split
    · intro _; rfl
    split
    · split
      · intro h; exact absurd rfl h
      · intro _; rfl
    · exact ih _ _
theorem Rd.numF_le (most k n : Nat) (rest : List UInt8) : (Rd.numF most k n rest).1 ≤ most := by
  induction rest generalizing k n with
  | nil => exact Nat.zero_le _
  | cons d t ih =>
    unfold Rd.numF
    split
    · exact Nat.zero_le _
    split
    · split
      · assumption
      · exact Nat.zero_le _
    · exact ih _ _
theorem Rd.numF_rest (most k n : Nat) (rest : List UInt8) : (Rd.numF most k n rest).2.2.length ≤ rest.length := by
  induction rest generalizing k n with
  | nil => simp [numF]
  | cons d t ih =>
    unfold Rd.numF
    split
    · simp
    split
    · split <;> simp
    · have := ih (k + 1) (n + 128 ^ k * (d.toNat - 128)); simp; omega
/-- errors -/
theorem Rd.numF_bad (most k n : Nat) (rest : List UInt8) : (Rd.numF most k n rest).2.1 = 0 ∨ (Rd.numF most k n rest).2.1 = 3 ∨ (Rd.numF most k n rest).2.1 = 4 := by
  induction rest generalizing k n with
  | nil => simp [numF]
  | cons d t ih =>
    unfold Rd.numF
    split
    · simp
    split
    · split <;> simp
    · exact ih _ _
/-- a number as an int -/
def Rd.unzig (n : Nat) : Int := if n % 2 = 1 then -((n / 2 : Nat) : Int) - 1 else ((n / 2 : Nat) : Int)
/-- a text -/
def Rd.word (rest : List UInt8) : List UInt8 × Int × List UInt8 :=
  match Rd.num 65536 rest with
  | (n, e, r) => if e ≠ 0 then ([], e, r) else if r.length < n then ([], 4, r) else (r.take n, 0, r.drop n)
/-- so many texts -/
def Rd.words : Nat → List UInt8 → List ByteArray × Int × List UInt8
  | 0, rest => ([], 0, rest)
  | k + 1, rest =>
    match Rd.word rest with
    | (s, e, r) => if e ≠ 0 then ([], e, r) else
      match Rd.words k r with
      | (l, e', r') => if e' ≠ 0 then ([], e', r') else (strB s :: l, 0, r')
def Rd.texts (rest : List UInt8) : List ByteArray × Int × List UInt8 :=
  match Rd.num 4096 rest with
  | (n, e, r) => if e ≠ 0 then ([], e, r) else Rd.words n r

/-- a row of cells in blocks of type e, wherever it begins -/
def SlT (w : World) (e : TypeId) (A : Option Addr) (n : Nat) (xs : List Value) : Prop :=
  xs.length = n ∧ (0 < n → ∃ b off, A = some ⟨b, off, none⟩ ∧ ∃ cur fr, w.heap[b]? = some (.cells cur e fr) ∧ ∀ k u, xs[k]? = some u → cur[off + k]? = some u)
section
variable {w w' : World} {e : TypeId} {A : Option Addr} {n : Nat} {xs : List Value}
theorem SlT.nil_ : SlT w e A 0 [] := ⟨rfl, fun h => absurd h (by omega)⟩
theorem SlT.sl (h : SlT w e A n xs) : Sl w w.heap.size A n xs := by
  refine ⟨h.1, fun hn => ?_⟩
  obtain ⟨b, off, rfl, cur, fr, hb, hc⟩ := h.2 hn
  refine ⟨b, off, rfl, heap_lt' hb, fun k u hu => ?_⟩
  rw [cell_of_row w b (off + k) _ _ _ hb]; exact hc k u hu
theorem SlT.of_own {base c : Nat} (h : Own w base e A n c xs) : SlT w e A n xs := by
  refine ⟨h.len, fun hn => ?_⟩
  rcases h.2 with ⟨h1, h2⟩ | ⟨g, cap, cur, h1, h2, h3, h4, h5, h6, h7⟩
  · injection h1 with _ h1; omega
  · injection h1 with a1 a2 a3
    refine ⟨g, 0, a1, cur, _, h3, fun k u hu => ?_⟩
    rw [Nat.zero_add]
    rw [← h7, List.getElem?_take] at hu
    split at hu
    · simpa using hu
    · cases hu
theorem SlT.keep (h : SlT w e A n xs) {row : Option Nat} (hg : w.grownBy w' row) (hne : ∀ k cur fr, row = some k → w.heap[k]? ≠ some (.cells cur e fr)) : SlT w' e A n xs := by
  refine ⟨h.1, fun hn => ?_⟩
  obtain ⟨b, off, rfl, cur, fr, hb, hc⟩ := h.2 hn
  exact ⟨b, off, rfl, cur, fr, (hg.block b (heap_lt' hb) (fun h => hne b cur fr h.symm hb)).trans hb, hc⟩
theorem SlT.below (h : SlT w e A n xs) (hb : Below w.heap.size w w') : SlT w' e A n xs := h.keep (grownBy_of_below hb) (fun k cur fr h => by cases h)
theorem SlT.tail {b off : Nat} {x : Value} (h : SlT w e (some ⟨b, off, none⟩) (n + 1) (x :: xs)) : SlT w e (some ⟨b, off + 1, none⟩) n xs := by
  refine ⟨by have := h.1; simpa using this, fun hn => ?_⟩
  obtain ⟨b', off', e1, cur, fr, hb, hc⟩ := h.2 (by omega)
  injection e1 with e1; injection e1 with e1 e2; subst e1; subst e2
  refine ⟨b, off + 1, rfl, cur, fr, hb, fun k u hu => ?_⟩
  rw [show off + 1 + k = off + (k + 1) by omega]
  exact hc (k + 1) u (by simpa using hu)
theorem SlT.drop {b off : Nat} (h : SlT w e (some ⟨b, off, none⟩) n xs) (k : Nat) : SlT w e (some ⟨b, off + k, none⟩) (n - k) (xs.drop k) := by
  refine ⟨by rw [List.length_drop, h.1], fun hn => ?_⟩
  obtain ⟨b', off', e1, cur, fr, hb, hc⟩ := h.2 (by omega)
  injection e1 with e1; injection e1 with e1 e2; subst e1; subst e2
  refine ⟨b, off + k, rfl, cur, fr, hb, fun j u hu => ?_⟩
  rw [List.getElem?_drop] at hu
  rw [show off + k + j = off + (k + j) by omega]
  exact hc _ _ hu
theorem SlT.spot (h : SlT w e A n xs) (hn : 0 < n) : ∃ b off, A = some ⟨b, off, none⟩ := by
  obtain ⟨b, off, rfl, _⟩ := h.2 hn; exact ⟨b, off, rfl⟩
end
theorem own_ne' {w : World} {base e G T n c : Nat} {A : Option Addr} {xs ys : List Value} (h : Own w base e A n c xs) (hR : RowV w G T ys) (hT : T ≠ e) : (Value.slice A n c).ownBlock ≠ some G := by
  rcases h.2 with ⟨h0, _⟩ | ⟨g, cap, cur, h0, _, hg, _⟩
  · rw [h0]; simp [Value.ownBlock]
  · rw [h0]
    intro e1
    have e2 : g = G := by simpa [Value.ownBlock] using e1
    subst e2
    rw [hR] at hg
    injection hg with hg; injection hg with _ hg _
    exact hT hg
/-- a reader that has these bytes left, and this error -/
def RSt (w : World) (G T : Nat) (rest : List UInt8) (bad : Int) : Prop := ∃ A c, RowV w G T [.slice A rest.length c, .int .i64 bad] ∧ rest.length ≤ c ∧ SlT w 5 A rest.length (rest.map bv) ∧ ((A = none ∧ c = 0) ∨ ∃ b off, A = some ⟨b, off, none⟩)
theorem RSt.row {w : World} {G T : Nat} {rest : List UInt8} {bad : Int} (h : RSt w G T rest bad) : ∃ cs, RowV w G T cs := by
  obtain ⟨A, c, h, _⟩ := h; exact ⟨_, h⟩
theorem RSt.lt {w : World} {G T : Nat} {rest : List UInt8} {bad : Int} (h : RSt w G T rest bad) : G < w.heap.size := by
  obtain ⟨A, c, h, _⟩ := h; exact h.lt
theorem RSt.below {w w' : World} {G T : Nat} {rest : List UInt8} {bad : Int} (h : RSt w G T rest bad) (hb : Below w.heap.size w w') : RSt w' G T rest bad := by
  obtain ⟨A, c, h1, h2, h3, h4⟩ := h
  exact ⟨A, c, h1.below' hb, h2, h3.below hb, h4⟩
/-- behind a call that writes another reader alone -/
theorem RSt.other {w w' : World} {G G' T T' : Nat} {rest rest' : List UInt8} {bad bad' : Int} (h : RSt w G T rest bad) (h' : RSt w G' T' rest' bad') (hg : w.grownBy w' (some G')) (hne : G ≠ G') (hT : T' ≠ 5) : RSt w' G T rest bad := by
  obtain ⟨A, c, h1, h2, h3, h4⟩ := h
  obtain ⟨cs, hr⟩ := h'.row
  refine ⟨A, c, (hg.block G h1.lt (by intro e; injection e with e; exact hne e)).trans h1, h2, h3.keep hg ?_, h4⟩
  intro k cur fr e
  injection e with e; subst e
  rw [hr]; intro e; injection e with e; injection e with _ e _; exact hT e
/-- what is said of a world that has grown, and in which G alone has been written -/
theorem only_refl (w : World) (G : Nat) : w.grownBy w (some G) := ⟨rfl, rfl, rfl, Nat.le_refl _, fun _ _ _ => rfl⟩
theorem only_set {w w' : World} {G k : Nat} {v : Value} (h : w.grownBy w' (some G)) : w.grownBy (w'.setCell ⟨G, k, none⟩ v) (some G) :=
  h.trans ⟨rfl, rfl, rfl, by simp, fun i _ hi => heap_setCell_other _ _ _ _ (by intro e; subst e; exact hi rfl)⟩
theorem RSt.set_bad {w : World} {G T : Nat} {rest : List UInt8} {bad : Int} (h : RSt w G T rest bad) (hT : T ≠ 5) (e : Int) : RSt (w.setCell ⟨G, 1, none⟩ (.int .i64 e)) G T rest e := by
  obtain ⟨A, c, h1, h2, h3, h4⟩ := h
  refine ⟨A, c, h1.set 1 _, h2, h3.keep (only_set (only_refl w G)) ?_, h4⟩
  intro k cur fr e
  injection e with e; subst e
  rw [h1]; intro e; injection e with e; injection e with _ e _; exact hT e

theorem rfail_any (G T : Nat) (rest : List UInt8) (bad e0 : Int) (w : World) (hS : RSt w G T rest bad) (hT : T ≠ 5) :
    Calls Try.prog 55 #[.pointer (some ⟨G, 0, none⟩), .int .i64 e0] w fun e w' => e = .returned (.tuple #[]) ∧ RSt w' G T rest (Wire.first bad e0) ∧ w.grownBy w' (some G) := by
  have R2 := hide (hS.set_bad hT e0)
  have HS := hide hS
  obtain ⟨A, c, hR, _, _⟩ := hS
  have c1 := hR.cell (k := 1) rfl
  have f1 := hR.free 1
  clear hR
  by_cases hb : bad = 0
  · subst hb
    go_enter Try.func55, Try.ntmps55
    go_wp2_with fail
    go_end0
    exact ⟨rfl, R2.out, only_set (only_refl w G)⟩
  · have hbb : (bad == 0) = false := by simpa using hb
    have HF : Hid (Wire.first bad e0 = bad) := hide (by unfold Wire.first; rw [if_neg hb])
    clear hb
    go_enter Try.func55, Try.ntmps55
    go_wp2_with fail
    go_end0
    exact ⟨rfl, by rw [HF.out]; exact HS.out, only_refl w G⟩
end Go.Proofs.Ytnlfnjadadfhkaa
