/-
  Ring: what the library does for it: copies, look-ups, numerals; a ring in memory.
-/
import Derived.Test.YtokdliapkolngaaDoorRingF
import Derived.Test.YtokdliapkolngaaDoorRingG
import Derived.Test.YtokdliapkolngaaDoorOwnS
import Derived.Test.YtokdliapkolngaaDoorBut
import Derived.Shelf.SlicesE.Clone
import Derived.Shelf.SlicesG.Turned
import Derived.Shelf.SlicesG.Cells
import Derived.Shelf.SlSorted.Search
import Derived.Ground.SlgnProg
import Derived.Ground.SlsoProg
namespace Go.Proofs.YtokdliapkolngaaDoor
open Go.RowKit Go.Sort Go.Shelf
set_option linter.unusedVariables false

shelf_lay_g SlLaysE0.n41 Slgn 41 at Tryd 23 as Tryd.cloneS
shelf_lay_g SlLaysE0.n41 Slgn 41 at Tryd 34 as Tryd.cloneP
shelf_lay_g SlLaysN.n30 Slgn 30 at Tryd 24 as Tryd.indexS
shelf_lay_g SlLaysN.n31 Slgn 31 at Tryd 33 as Tryd.containsI
shelf_lay_g SlLaysN.n46 Slgn 46 at Tryd 31 as Tryd.deleteS
shelf_lay Lays.n171 Nm 171 at Tryd as Tryd.itoa
shelf_lay SlLaysO.n16 Slso 16 at Tryd as Tryd.search

theorem info_strR : (Tryd.prog.info? 9).map (fun i => (i.zero, i.size, i.bytes)) = some (some (.string ByteArray.empty), 1, 16) := by kernel_rfl
theorem info_pt : (Tryd.prog.info? 39).map (fun i => (i.zero, i.size, i.bytes)) = some (some (.agg #[.int .u64 0, .int .i64 0]), 2, 16) := by kernel_rfl
theorem info_int : (Tryd.prog.info? 3).map (fun i => (i.zero, i.size, i.bytes)) = some (some (.int .i64 0), 1, 8) := by kernel_rfl
theorem one_strs (l : List ByteArray) : ∀ u ∈ l.map Value.string, u.oneCell' = true := by
  intro u hu; obtain ⟨s, _, rfl⟩ := List.mem_map.1 hu; rfl
/-- a copy of names -/
theorem cloneS_any (A : Option Addr) (n c : Nat) (l : List ByteArray) (w : World) (h : Sl w w.heap.size A n (l.map Value.string)) (hn0 : 0 < n) (hn : n ≤ 1000000) :
    Calls Tryd.prog 23 #[.slice A n c] w fun e w' => ∃ A' c', e = .returned (.slice A' n c') ∧ Own w' w.heap.size 9 A' n c' (l.map Value.string) ∧ Below w.heap.size w w' := by
  obtain ⟨b, off, rfl, hb, hc⟩ := h.2 hn0
  obtain ⟨i0, hi, hz0, hz1, hz2⟩ := info_parts info_strR
  have hcon := AnyE.slices_Clone Tryd.cloneS i0 (.string ByteArray.empty) 1 16 hi hz0 hz1 hz2 rfl (by omega) Tryd.sizeOf9 b off n c (l.map Value.string) w (by rw [h.1]; omega) (by unfold maxLen; omega) (by omega) hc (one_strs l)
  change Calls Tryd.prog 23 _ _ _ at hcon
  refine hcon.mono ?_
  rintro e w' ⟨v, rfl, ho, hv, hb⟩
  have shape : ∃ A' c', v = .slice A' n c' := by
    rcases ho.2 with ⟨h, h0⟩ | ⟨g, cap, cur, h, _⟩
    · omega
    · exact ⟨_, _, h⟩
  obtain ⟨A', c', rfl⟩ := shape
  exact ⟨A', c', rfl, ho, hb⟩
/-- a copy of points -/
theorem cloneP_any {N : Nat} (A : Option Addr) (n c base : Nat) (l : List (PtN N)) (w : World) (h : OwnS 2 w base 39 A n c (l.flatMap encP)) (hl : l.length = n) (hn0 : 0 < n) (hn : n ≤ 1000000) :
    Calls Tryd.prog 34 #[.slice A n c] w fun e w' => ∃ A' c', e = .returned (.slice A' n c') ∧ OwnS 2 w' w.heap.size 39 A' n c' (l.flatMap encP) ∧ Below w.heap.size w w' := by
  obtain ⟨b, rfl, _, hc, _⟩ := h.spot hn0
  obtain ⟨i0, hi, hz0, hz1, hz2⟩ := info_parts info_pt
  have hcon := AnyE.slices_Clone Tryd.cloneP i0 (.agg #[.int .u64 0, .int .i64 0]) 2 16 hi hz0 hz1 hz2 rfl (by omega) Tryd.sizeOf39 b 0 n c (l.flatMap encP) w (by rw [flat_len encP_len, hl]) (by unfold maxLen; omega) (by omega) (fun j u hu => by rw [Nat.zero_add]; exact hc j u hu) (fun u hu => by
    obtain ⟨x, _, hx⟩ := List.mem_flatMap.1 hu; exact encP_one x u hx)
  change Calls Tryd.prog 34 _ _ _ at hcon
  refine hcon.mono ?_
  rintro e w' ⟨v, rfl, ho, hv, hb⟩
  have shape : ∃ A' c', v = .slice A' n c' := by
    rcases ho.2 with ⟨h, h0⟩ | ⟨g, cap, cur, h, _⟩
    · omega
    · exact ⟨_, _, h⟩
  obtain ⟨A', c', rfl⟩ := shape
  exact ⟨A', c', rfl, ho, hb⟩
/-- where a name is -/
theorem indexS_any (A : Option Addr) (n c : Nat) (l : List ByteArray) (x : ByteArray) (w : World) (B : Nat) (h : Sl w B A n (l.map Value.string)) (hn0 : 0 < n) (hn : n ≤ 1000000) :
    Calls Tryd.prog 24 #[.slice A n c, .string x] w fun e w' => e = .returned (.int .i64 (Lib.idxOfS l x)) ∧ w' = w := by
  obtain ⟨b, off, rfl, hb, hc⟩ := h.2 hn0
  have hl : l.length = n := by simpa using h.1
  have hcon := AnyG.slices_Index_string Tryd.indexS b off n c l x w (by omega) (by omega) (fun j hj => hc j _ (by rw [List.getElem?_map, List.getElem?_eq_getElem hj, List.getD_eq_getElem?_getD, List.getElem?_eq_getElem hj]; rfl))
  change Calls Tryd.prog 24 _ _ _ at hcon
  rwa [List.take_of_length_le (by omega)] at hcon
/-- is a number there? -/
theorem containsI_any (A : Option Addr) (n c : Nat) (l : List Int) (x : Int) (w : World) (B : Nat) (h : Sl w B A n (l.map (Value.int .i64))) (hn0 : 0 < n) (hn : n ≤ 1000000) :
    Calls Tryd.prog 33 #[.slice A n c, .int .i64 x] w fun e w' => e = .returned (.bool (decide (x ∈ l))) ∧ w' = w := by
  obtain ⟨b, off, rfl, hb, hc⟩ := h.2 hn0
  have hl : l.length = n := by simpa using h.1
  have hcon := AnyG.slices_Contains_int Tryd.containsI b off n c l x w (by omega) (by omega) (fun j hj => hc j _ (by rw [List.getElem?_map, List.getElem?_eq_getElem hj, List.getD_eq_getElem?_getD, List.getElem?_eq_getElem hj]; rfl))
  change Calls Tryd.prog 33 _ _ _ at hcon
  rw [List.take_of_length_le (by omega)] at hcon
  have : l.contains x = decide (x ∈ l) := by rw [Bool.eq_iff_iff]; simp
  rwa [this] at hcon
/-- a numeral -/
def digB (k : Nat) : ByteArray := ⟨(Lib.decDigits k).toArray⟩
theorem itoa_any (k : Nat) (hk : k < 100) (w : World) : Calls Tryd.prog 26 #[.int .i64 k] w fun e w' => e = .returned (.string (digB k)) ∧ w' = w := by
  have hcon := Any.strconv_Itoa_small Tryd.itoa k hk w
  change Calls Tryd.prog 26 _ _ _ at hcon
  exact hcon
end Go.Proofs.YtokdliapkolngaaDoor
