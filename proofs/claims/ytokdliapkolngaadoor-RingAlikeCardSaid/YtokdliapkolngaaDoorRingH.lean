/-
  Ring: what the library does for it: copies, look-ups, numerals; a ring in memory.
-/
import Derived.Test.YtokdliapkolngaaDoorRingF
import Derived.Test.YtokdliapkolngaaDoorRingG
import Derived.Test.YtokdliapkolngaaDoorOwnS
import Derived.Test.YtokdliapkolngaaDoorBut
import Derived.Shelf.SlicesE.Clone
import Derived.Shelf.SlicesG.Turned
import Derived.Shelf.SlicesG.Cells
import Derived.Shelf.SlSorted.Search
import Derived.Ground.SlgnProg
import Derived.Ground.SlsoProg
namespace Go.Proofs.YtokdliapkolngaaDoor
open Go.RowKit Go.Sort Go.Shelf
set_option linter.unusedVariables false

def Tryd.cloneS_ren : Go.Shelf.Ren := ⟨fun | 41 => 23 | n => n, fun | 22 => 22 | 23 => 9 | 4 => 4 | n => n, fun | n => n⟩
theorem Tryd.cloneS : Go.Proofs.SlLaysE0.n41 Tryd.prog Tryd.cloneS_ren := {
  mixed := by kernel_rfl
  f41 := ⟨Tryd.f23.name, by decide, Tryd.func23.trans (congrArg some (by kernel_rfl))⟩
  t4 := Tryd.underlying4
  a4 := Tryd.isAgg4
  z4 := Tryd.sizeOf4
  v4 := Tryd.zeroValue4
  t22 := Tryd.underlying22
  a22 := Tryd.isAgg22
  z22 := Tryd.sizeOf22
  v22 := Tryd.zeroValue22 }
def Tryd.cloneP_ren : Go.Shelf.Ren := ⟨fun | 41 => 34 | n => n, fun | 22 => 36 | 23 => 39 | 4 => 4 | n => n, fun | n => n⟩
theorem Tryd.cloneP : Go.Proofs.SlLaysE0.n41 Tryd.prog Tryd.cloneP_ren := {
  mixed := by kernel_rfl
  f41 := ⟨Tryd.f34.name, by decide, Tryd.func34.trans (congrArg some (by kernel_rfl))⟩
  t4 := Tryd.underlying4
  a4 := Tryd.isAgg4
  z4 := Tryd.sizeOf4
  v4 := Tryd.zeroValue4
  t22 := Tryd.underlying36
  a22 := Tryd.isAgg36
  z22 := Tryd.sizeOf36
  v22 := Tryd.zeroValue36 }
def Tryd.indexS_ren : Go.Shelf.Ren := ⟨fun | 30 => 24 | n => n, fun | 25 => 22 | 26 => 9 | 3 => 3 | 0 => 0 | 4 => 4 | n => n, fun | n => n⟩
theorem Tryd.indexS : Go.Proofs.SlLaysN.n30 Tryd.prog Tryd.indexS_ren := {
  mixed := by kernel_rfl
  f30 := ⟨Tryd.f24.name, by decide, Tryd.func24.trans (congrArg some (by kernel_rfl))⟩
  t0 := Tryd.underlying0
  a0 := Tryd.isAgg0
  z0 := Tryd.sizeOf0
  v0 := Tryd.zeroValue0
  t3 := Tryd.underlying3
  a3 := Tryd.isAgg3
  z3 := Tryd.sizeOf3
  v3 := Tryd.zeroValue3
  t4 := Tryd.underlying4
  a4 := Tryd.isAgg4
  z4 := Tryd.sizeOf4
  v4 := Tryd.zeroValue4
  t25 := Tryd.underlying22
  a25 := Tryd.isAgg22
  z25 := Tryd.sizeOf22
  v25 := Tryd.zeroValue22
  t26 := Tryd.underlying9
  a26 := Tryd.isAgg9
  z26 := Tryd.sizeOf9
  v26 := Tryd.zeroValue9 }
def Tryd.containsI_ren : Go.Shelf.Ren := ⟨fun | 31 => 33 | 29 => 44 | n => n, fun | 22 => 30 | 23 => 3 | 4 => 4 | 3 => 3 | 0 => 0 | n => n, fun | n => n⟩
theorem Tryd.containsI : Go.Proofs.SlLaysN.n31 Tryd.prog Tryd.containsI_ren := {
  mixed := by kernel_rfl
  f29 := ⟨Tryd.f44.name, by decide, Tryd.func44.trans (congrArg some (by kernel_rfl))⟩
  f31 := ⟨Tryd.f33.name, by decide, Tryd.func33.trans (congrArg some (by kernel_rfl))⟩
  t0 := Tryd.underlying0
  a0 := Tryd.isAgg0
  z0 := Tryd.sizeOf0
  v0 := Tryd.zeroValue0
  t3 := Tryd.underlying3
  a3 := Tryd.isAgg3
  z3 := Tryd.sizeOf3
  v3 := Tryd.zeroValue3
  t4 := Tryd.underlying4
  a4 := Tryd.isAgg4
  z4 := Tryd.sizeOf4
  v4 := Tryd.zeroValue4
  t22 := Tryd.underlying30
  a22 := Tryd.isAgg30
  z22 := Tryd.sizeOf30
  v22 := Tryd.zeroValue30
  t23 := Tryd.underlying3
  a23 := Tryd.isAgg3
  z23 := Tryd.sizeOf3
  v23 := Tryd.zeroValue3 }
def Tryd.deleteS_ren : Go.Shelf.Ren := ⟨fun | 46 => 31 | n => n, fun | 25 => 22 | 26 => 9 | 3 => 3 | 4 => 4 | 0 => 0 | n => n, fun | n => n⟩
theorem Tryd.deleteS : Go.Proofs.SlLaysN.n46 Tryd.prog Tryd.deleteS_ren := {
  mixed := by kernel_rfl
  f46 := ⟨Tryd.f31.name, by decide, Tryd.func31.trans (congrArg some (by kernel_rfl))⟩
  t0 := Tryd.underlying0
  a0 := Tryd.isAgg0
  z0 := Tryd.sizeOf0
  v0 := Tryd.zeroValue0
  t3 := Tryd.underlying3
  a3 := Tryd.isAgg3
  z3 := Tryd.sizeOf3
  v3 := Tryd.zeroValue3
  t4 := Tryd.underlying4
  a4 := Tryd.isAgg4
  z4 := Tryd.sizeOf4
  v4 := Tryd.zeroValue4
  t25 := Tryd.underlying22
  a25 := Tryd.isAgg22
  z25 := Tryd.sizeOf22
  v25 := Tryd.zeroValue22
  t26 := Tryd.underlying9
  a26 := Tryd.isAgg9
  z26 := Tryd.sizeOf9
  v26 := Tryd.zeroValue9
  i26 := by kernel_rfl }
def Tryd.itoa_ren : Go.Shelf.Ren := ⟨fun | 171 => 26 | 243 => 38 | 246 => 49 | 283 => 59 | 284 => 60 | 285 => 61 | 286 => 62 | 129 => 67 | 317 => 66 | 318 => 68 | 319 => 69 | 320 => 70 | 337 => 73 | 338 => 74 | n => n, fun | 3 => 3 | 9 => 9 | 2 => 2 | 4 => 4 | 171 => 94 | 0 => 0 | 53 => 28 | 37 => 40 | 5 => 5 | 173 => 97 | 212 => 104 | 51 => 74 | 20 => 20 | 213 => 105 | 46 => 68 | 232 => 63 | 233 => 88 | n => n, fun | 17 => 1 | 18 => 2 | 19 => 3 | n => n⟩
theorem Tryd.itoa : Go.Proofs.Lays.n171 Tryd.prog Tryd.itoa_ren := {
  mixed := by kernel_rfl
  f129 := Tryd.func67.trans (congrArg some (by kernel_rfl))
  f171 := Tryd.func26.trans (congrArg some (by kernel_rfl))
  f243 := Tryd.func38.trans (congrArg some (by kernel_rfl))
  f246 := Tryd.func49.trans (congrArg some (by kernel_rfl))
  f283 := Tryd.func59.trans (congrArg some (by kernel_rfl))
  f284 := Tryd.func60.trans (congrArg some (by kernel_rfl))
  f285 := Tryd.func61.trans (congrArg some (by kernel_rfl))
  f286 := Tryd.func62.trans (congrArg some (by kernel_rfl))
  f317 := Tryd.func66.trans (congrArg some (by kernel_rfl))
  f318 := Tryd.func68.trans (congrArg some (by kernel_rfl))
  f319 := Tryd.func69.trans (congrArg some (by kernel_rfl))
  f320 := Tryd.func70.trans (congrArg some (by kernel_rfl))
  f337 := Tryd.func73.trans (congrArg some (by kernel_rfl))
  f338 := Tryd.func74.trans (congrArg some (by kernel_rfl))
  t0 := Tryd.underlying0
  a0 := Tryd.isAgg0
  z0 := Tryd.sizeOf0
  v0 := Tryd.zeroValue0
  t2 := Tryd.underlying2
  a2 := Tryd.isAgg2
  z2 := Tryd.sizeOf2
  v2 := Tryd.zeroValue2
  t3 := Tryd.underlying3
  a3 := Tryd.isAgg3
  z3 := Tryd.sizeOf3
  v3 := Tryd.zeroValue3
  t4 := Tryd.underlying4
  a4 := Tryd.isAgg4
  z4 := Tryd.sizeOf4
  v4 := Tryd.zeroValue4
  t5 := Tryd.underlying5
  a5 := Tryd.isAgg5
  z5 := Tryd.sizeOf5
  v5 := Tryd.zeroValue5
  t9 := Tryd.underlying9
  a9 := Tryd.isAgg9
  z9 := Tryd.sizeOf9
  v9 := Tryd.zeroValue9
  t20 := Tryd.underlying20
  a20 := Tryd.isAgg20
  z20 := Tryd.sizeOf20
  v20 := Tryd.zeroValue20
  t37 := Tryd.underlying40
  a37 := Tryd.isAgg40
  z37 := Tryd.sizeOf40
  v37 := Tryd.zeroValue40
  t46 := Tryd.underlying68
  a46 := Tryd.isAgg68
  z46 := Tryd.sizeOf68
  v46 := Tryd.zeroValue68
  t51 := Tryd.underlying74
  a51 := Tryd.isAgg74
  z51 := Tryd.sizeOf74
  v51 := Tryd.zeroValue74
  t53 := Tryd.underlying28
  a53 := Tryd.isAgg28
  z53 := Tryd.sizeOf28
  v53 := Tryd.zeroValue28
  t171 := Tryd.underlying94
  a171 := Tryd.isAgg94
  z171 := Tryd.sizeOf94
  v171 := Tryd.zeroValue94
  t173 := Tryd.underlying97
  a173 := Tryd.isAgg97
  z173 := Tryd.sizeOf97
  v173 := Tryd.zeroValue97
  t212 := Tryd.underlying104
  a212 := Tryd.isAgg104
  z212 := Tryd.sizeOf104
  v212 := Tryd.zeroValue104
  t213 := Tryd.underlying105
  a213 := Tryd.isAgg105
  z213 := Tryd.sizeOf105
  t232 := Tryd.underlying63
  a232 := Tryd.isAgg63
  z232 := Tryd.sizeOf63
  v232 := Tryd.zeroValue63
  t233 := Tryd.underlying88
  a233 := Tryd.isAgg88
  z233 := Tryd.sizeOf88
  v233 := Tryd.zeroValue88
  g17 := by kernel_rfl
  g18 := by kernel_rfl
  g19 := by kernel_rfl }
def Tryd.search_ren : Go.Shelf.Ren := ⟨fun | 16 => 42 | n => n, fun | 3 => 3 | 35 => 72 | 4 => 4 | 38 => 68 | n => n, fun | n => n⟩
theorem Tryd.search : Go.Proofs.SlLaysO.n16 Tryd.prog Tryd.search_ren := {
  mixed := by kernel_rfl
  f16 := Tryd.func42.trans (congrArg some (by kernel_rfl))
  t3 := Tryd.underlying3
  a3 := Tryd.isAgg3
  z3 := Tryd.sizeOf3
  v3 := Tryd.zeroValue3
  t4 := Tryd.underlying4
  a4 := Tryd.isAgg4
  z4 := Tryd.sizeOf4
  v4 := Tryd.zeroValue4
  t35 := Tryd.underlying72
  a35 := Tryd.isAgg72
  z35 := Tryd.sizeOf72
  v35 := Tryd.zeroValue72
  t38 := Tryd.underlying68
  a38 := Tryd.isAgg68
  z38 := Tryd.sizeOf68
  v38 := Tryd.zeroValue68 }

theorem info_strR : (Tryd.prog.info? 9).map (fun i => (i.zero, i.size, i.bytes)) = some (some (.string ByteArray.empty), 1, 16) := by kernel_rfl
theorem info_pt : (Tryd.prog.info? 39).map (fun i => (i.zero, i.size, i.bytes)) = some (some (.agg #[.int .u64 0, .int .i64 0]), 2, 16) := by kernel_rfl
theorem info_int : (Tryd.prog.info? 3).map (fun i => (i.zero, i.size, i.bytes)) = some (some (.int .i64 0), 1, 8) := by kernel_rfl
theorem one_strs (l : List ByteArray) : ∀ u ∈ l.map Value.string, u.oneCell' = true := by
  intro u hu; obtain ⟨s, _, rfl⟩ := List.mem_map.1 hu; rfl
/-- a copy of names -/
theorem cloneS_any (A : Option Addr) (n c : Nat) (l : List ByteArray) (w : World) (h : Sl w w.heap.size A n (l.map Value.string)) (hn0 : 0 < n) (hn : n ≤ 1000000) :
    Calls Tryd.prog 23 #[.slice A n c] w fun e w' => ∃ A' c', e = .returned (.slice A' n c') ∧ Own w' w.heap.size 9 A' n c' (l.map Value.string) ∧ Below w.heap.size w w' := by
  obtain ⟨b, off, rfl, hb, hc⟩ := h.2 hn0
  obtain ⟨i0, hi, hz0, hz1, hz2⟩ := info_parts info_strR
  have hcon := AnyE.slices_Clone Tryd.cloneS i0 (.string ByteArray.empty) 1 16 hi hz0 hz1 hz2 rfl (by omega) Tryd.sizeOf9 b off n c (l.map Value.string) w (by rw [h.1]; omega) (by unfold maxLen; omega) (by omega) hc (one_strs l)
  change Calls Tryd.prog 23 _ _ _ at hcon
  refine hcon.mono ?_
  rintro e w' ⟨v, rfl, ho, hv, hb⟩
  have shape : ∃ A' c', v = .slice A' n c' := by
    rcases ho.2 with ⟨h, h0⟩ | ⟨g, cap, cur, h, _⟩
    · omega
    · exact ⟨_, _, h⟩
  obtain ⟨A', c', rfl⟩ := shape
  exact ⟨A', c', rfl, ho, hb⟩
/-- a copy of points -/
theorem cloneP_any {N : Nat} (A : Option Addr) (n c base : Nat) (l : List (PtN N)) (w : World) (h : OwnS 2 w base 39 A n c (l.flatMap encP)) (hl : l.length = n) (hn0 : 0 < n) (hn : n ≤ 1000000) :
    Calls Tryd.prog 34 #[.slice A n c] w fun e w' => ∃ A' c', e = .returned (.slice A' n c') ∧ OwnS 2 w' w.heap.size 39 A' n c' (l.flatMap encP) ∧ Below w.heap.size w w' := by
  obtain ⟨b, rfl, _, hc, _⟩ := h.spot hn0
  obtain ⟨i0, hi, hz0, hz1, hz2⟩ := info_parts info_pt
  have hcon := AnyE.slices_Clone Tryd.cloneP i0 (.agg #[.int .u64 0, .int .i64 0]) 2 16 hi hz0 hz1 hz2 rfl (by omega) Tryd.sizeOf39 b 0 n c (l.flatMap encP) w (by rw [flat_len encP_len, hl]) (by unfold maxLen; omega) (by omega) (fun j u hu => by rw [Nat.zero_add]; exact hc j u hu) (fun u hu => by
    obtain ⟨x, _, hx⟩ := List.mem_flatMap.1 hu; exact encP_one x u hx)
  change Calls Tryd.prog 34 _ _ _ at hcon
  refine hcon.mono ?_
  rintro e w' ⟨v, rfl, ho, hv, hb⟩
  have shape : ∃ A' c', v = .slice A' n c' := by
    rcases ho.2 with ⟨h, h0⟩ | ⟨g, cap, cur, h, _⟩
    · omega
    · exact ⟨_, _, h⟩
  obtain ⟨A', c', rfl⟩ := shape
  exact ⟨A', c', rfl, ho, hb⟩
/-- where a name is -/
theorem indexS_any (A : Option Addr) (n c : Nat) (l : List ByteArray) (x : ByteArray) (w : World) (B : Nat) (h : Sl w B A n (l.map Value.string)) (hn0 : 0 < n) (hn : n ≤ 1000000) :
    Calls Tryd.prog 24 #[.slice A n c, .string x] w fun e w' => e = .returned (.int .i64 (Lib.idxOfS l x)) ∧ w' = w := by
  obtain ⟨b, off, rfl, hb, hc⟩ := h.2 hn0
  have hl : l.length = n := by simpa using h.1
  have hcon := AnyG.slices_Index_string Tryd.indexS b off n c l x w (by omega) (by omega) (fun j hj => hc j _ (by rw [List.getElem?_map, List.getElem?_eq_getElem hj, List.getD_eq_getElem?_getD, List.getElem?_eq_getElem hj]; rfl))
  change Calls Tryd.prog 24 _ _ _ at hcon
  rwa [List.take_of_length_le (by omega)] at hcon
/-- is a number there? -/
theorem containsI_any (A : Option Addr) (n c : Nat) (l : List Int) (x : Int) (w : World) (B : Nat) (h : Sl w B A n (l.map (Value.int .i64))) (hn0 : 0 < n) (hn : n ≤ 1000000) :
    Calls Tryd.prog 33 #[.slice A n c, .int .i64 x] w fun e w' => e = .returned (.bool (decide (x ∈ l))) ∧ w' = w := by
  obtain ⟨b, off, rfl, hb, hc⟩ := h.2 hn0
  have hl : l.length = n := by simpa using h.1
  have hcon := AnyG.slices_Contains_int Tryd.containsI b off n c l x w (by omega) (by omega) (fun j hj => hc j _ (by rw [List.getElem?_map, List.getElem?_eq_getElem hj, List.getD_eq_getElem?_getD, List.getElem?_eq_getElem hj]; rfl))
  change Calls Tryd.prog 33 _ _ _ at hcon
  rw [List.take_of_length_le (by omega)] at hcon
  have : l.contains x = decide (x ∈ l) := by rw [Bool.eq_iff_iff]; simp
  rwa [this] at hcon
/-- a numeral -/
def digB (k : Nat) : ByteArray := ⟨(Lib.decDigits k).toArray⟩
theorem itoa_any (k : Nat) (hk : k < 100) (w : World) : Calls Tryd.prog 26 #[.int .i64 k] w fun e w' => e = .returned (.string (digB k)) ∧ w' = w := by
  have hcon := Any.strconv_Itoa_small Tryd.itoa k hk w
  change Calls Tryd.prog 26 _ _ _ at hcon
  exact hcon
end Go.Proofs.YtokdliapkolngaaDoor
