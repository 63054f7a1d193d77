/-
  Ring: a ring in plain words and in memory.
-/
import Derived.Test.YtokdliapkolngaaDoorRingH
import Derived.Lib.SlicesS
namespace Go.Proofs.YtokdliapkolngaaDoor
open Go.RowKit Go.Sort Go.Shelf
set_option linter.unusedVariables false

theorem But.of_rowG {S : Nat → Prop} {w w' : World} {row : Option Nat} (h : w.grownBy w' row) (hr : ∀ k, row = some k → S k) : But S w w' := ⟨h.os, h.tape, h.output, h.size, fun k hk hn => h.block k hk (fun e => hn (hr k e.symm))⟩
/-- a point's text -/
def ptName (s : ByteArray) (k : Nat) : ByteArray := s ++ (⟨#[35]⟩ : ByteArray) ++ digB k
def mkPt (n i : Nat) (s : ByteArray) (k : Nat) : PtN n := ⟨(placeN (ptName s k) : Int), min i n, by have := placeN_lt (ptName s k); omega, Nat.min_le_right _ _⟩
/-- all points, as they are laid down -/
def rawR (n each : Nat) (names : List ByteArray) : List (PtN n) := names.zipIdx.flatMap (fun p => (List.range each).map (mkPt n p.2 p.1))
theorem rawR_snoc (n each : Nat) (names : List ByteArray) (s : ByteArray) : rawR n each (names ++ [s]) = rawR n each names ++ (List.range each).map (mkPt n names.length s) := by
  unfold rawR
  rw [List.zipIdx_append, List.flatMap_append]
  simp
theorem rawR_len (n each : Nat) (names : List ByteArray) : (rawR n each names).length = names.length * each := by
  have : ∀ (l : List (ByteArray × Nat)), (l.flatMap (fun p => (List.range each).map (mkPt n p.2 p.1))).length = l.length * each := fun l => by
    induction l with
    | nil => simp
    | cons x l ih => rw [List.flatMap_cons, List.length_append, ih, List.length_map, List.length_range, List.length_cons, Nat.add_mul]; omega
  unfold rawR
  rw [this, List.length_zipIdx]
/-- may there be such a ring? -/
def GoodR (points : Int) (names : List ByteArray) : Prop := 1 ≤ points ∧ points ≤ 64 ∧ 1 ≤ names.length ∧ names.length ≤ 8 ∧ (∀ s ∈ names, 1 ≤ s.size ∧ s.size ≤ 64) ∧ names.Nodup
/-- a ring in memory -/
structure RingSt {n : Nat} (w : World) (base g : Nat) (names : List ByteArray) (each : Nat) (pts : List (PtN n)) : Prop where
  ex : ∃ An cn Ap cp, RowV w g 53 [.slice An names.length cn, .int .i64 each, .slice Ap pts.length cp] ∧ Own w base 9 An names.length cn (names.map Value.string) ∧ OwnS 2 w base 39 Ap pts.length cp (pts.flatMap encP)
  ge : base ≤ g
/-- its points stand -/
def StandR {n : Nat} (names : List ByteArray) (each : Nat) (pts : List (PtN n)) : Prop := pts.Perm (rawR n each names) ∧ pts.Pairwise (fun x y => ltOf (cmpN names) y x = false)
theorem RingSt.but {S : Nat → Prop} {n : Nat} {w w' : World} {base g each : Nat} {names : List ByteArray} {pts : List (PtN n)} (h : RingSt w base g names each pts) (hb : But S w w') (hs : ∀ k, base ≤ k → k < w.heap.size → ¬ S k) : RingSt w' base g names each pts := by
  obtain ⟨An, cn, Ap, cp, h1, h2, h3⟩ := h.ex
  exact ⟨⟨An, cn, Ap, cp, hb.row h1 (hs g h.ge h1.lt), OwnS.but_row (OwnS.of_own h2) hb (fun k hk => hs k (h2.row_ge k hk) (h2.row_lt k hk)), h3.but_row hb (fun k hk => hs k (h3.row_ge k hk) (h3.row_lt k hk))⟩, h.ge⟩
theorem RingSt.below {n : Nat} {w w' : World} {base g each : Nat} {names : List ByteArray} {pts : List (PtN n)} (h : RingSt w base g names each pts) (hb : Below w.heap.size w w') : RingSt w' base g names each pts := h.but (But.of_below (S := fun _ => False) hb) (fun _ _ _ => id)
/-- New under way -/
structure NewW {n : Nat} (w wq : World) (bn g : Nat) (A : Option Addr) (nn c : Nat) (An : Option Addr) (cn : Nat) (Ap : Option Addr) (np cp : Nat) (names : List ByteArray) (each : Nat) (pts : List (PtN n)) : Prop where
  box : RowV wq bn 22 [.slice A nn c]
  row : RowV wq g 53 [.slice An nn cn, .int .i64 each, .slice Ap np cp]
  on : Own wq (bn + 1) 9 An nn cn (names.map Value.string)
  op : OwnS 2 wq (bn + 1) 39 Ap np cp (pts.flatMap encP)
  len : pts.length = np
  gg : bn < g
  d1 : ∀ k, (Value.slice An nn cn).ownBlock = some k → k ≠ g ∧ (Value.slice Ap np cp).ownBlock ≠ some k
  d2 : ∀ k, (Value.slice Ap np cp).ownBlock = some k → k ≠ g
  b : Below w.heap.size w wq
  hbn : w.heap.size ≤ bn
theorem NewW.below {n : Nat} {w wq w' : World} {bn g nn c cn np cp each : Nat} {A An Ap : Option Addr} {names : List ByteArray} {pts : List (PtN n)} (h : NewW w wq bn g A nn c An cn Ap np cp names each pts) (hb : Below wq.heap.size wq w') : NewW w w' bn g A nn c An cn Ap np cp names each pts :=
  ⟨h.box.below' hb, h.row.below' hb, h.on.below hb, h.op.below hb, h.len, h.gg, h.d1, h.d2, h.b.trans (hb.mono h.b.size), h.hbn⟩
theorem NewW.app {n : Nat} {w wq w3 w4 : World} {bn g nn c cn np cp each c3 : Nat} {A An Ap A3 : Option Addr} {names : List ByteArray} {pts : List (PtN n)} {o : Obj} (h0 : NewW w wq bn g A nn c An cn Ap np cp names each pts) (hb : Below wq.heap.size wq w3) (x : PtN n)
    (ho : OwnS 2 w4 (bn + 1) 39 A3 (np + 1) c3 (pts.flatMap encP ++ encP x)) (hg : (w3.alloc o).grownBy w4 (Value.slice Ap np cp).ownBlock)
    (hat : (Value.slice A3 (np + 1) c3).ownBlock = (Value.slice Ap np cp).ownBlock ∨ (Value.slice A3 (np + 1) c3).ownBlock = some (w3.heap.size + 1)) :
    NewW w (w4.setCell ⟨g, 2, none⟩ (.slice A3 (np + 1) c3)) bn g A nn c An cn A3 (np + 1) c3 names each (pts ++ [x]) ∧ w4.cell? ⟨g, 2, none⟩ = some (.slice Ap np cp) ∧ w4.frozen? ⟨g, 2, none⟩ = false := by
  have h := h0.below hb
  have hB : But (fun j => (Value.slice Ap np cp).ownBlock = some j) w3 w4 := (But.of_below ((Below.refl w3.heap.size w3).alloc (Nat.le_refl _) o)).trans (But.of_rowG hg fun k hk => hk)
  have hS : But (fun j => j = g) w4 (w4.setCell ⟨g, 2, none⟩ (.slice A3 (np + 1) c3)) := (But.refl (fun j => j = g) w4).setC rfl
  have hr4 := hB.row h.row (fun hh => h.d2 g hh rfl)
  have hnew : ∀ k, (Value.slice A3 (np + 1) c3).ownBlock = some k → (Value.slice Ap np cp).ownBlock = some k ∨ w3.heap.size < k := fun k hk => by
    rcases hat with h2 | h2
    · exact .inl (h2 ▸ hk)
    · rw [hk] at h2; injection h2 with h2; exact .inr (by omega)
  have hgl := h.row.lt
  refine ⟨⟨hS.row (hB.row h.box (fun hh => by have := h.op.row_ge bn hh; omega)) (fun hh => by have := h.gg; have hh : bn = g := hh; omega), hr4.set 2 _, OwnS.but_row (OwnS.but_row (OwnS.of_own h.on) hB (fun k hk hh => (h.d1 k hk).2 hh)) hS (fun k hk hh => (h.d1 k hk).1 hh), ?_, by rw [List.length_append, h.len]; rfl, h.gg, fun k hk => ⟨(h.d1 k hk).1, fun hh => ?_⟩, fun k hk => ?_, ?_, h.hbn⟩, hr4.cell (k := 2) rfl, hr4.free 2⟩
  · rw [List.flatMap_append, List.flatMap_cons, List.flatMap_nil, List.append_nil]
    refine ho.but_row hS (fun k hk hh => ?_)
    have hh : k = g := hh
    rcases hnew k hk with h2 | h2
    · exact h.d2 k h2 hh
    · omega
  · rcases hnew k hh with h2 | h2
    · exact (h.d1 k hk).2 h2
    · have := h.on.row_lt k hk; omega
  · rcases hnew k hk with h2 | h2
    · exact h.d2 k h2
    · omega
  · have h1 := h.hbn; have h2 := h.gg
    exact (h.b.trans (hB.below (fun k hk => by have := h.op.row_ge k hk; omega) h.b.size)).trans (hS.below (fun k hk => by have hk : k = g := hk; omega) (by have := h.b.size; have := hB.size; omega))
end Go.Proofs.YtokdliapkolngaaDoor
