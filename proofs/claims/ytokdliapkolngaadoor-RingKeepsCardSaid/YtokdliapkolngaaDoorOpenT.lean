/-
  Texts, ints that come in, opened, with their sizes; a world in which the listed tables lie.
-/
import Derived.Test.YtokdliapkolngaaDoorCards
import Derived.Test.YtokdliapkolngaaDoorTie
import Derived.Test.YtokdliapkolngaaDoorRows
import Derived.Test.YtokdliapkolngaaDoorMem
import Derived.ProofKit
import Derived.OpenShut
import Derived.ShutString
import Derived.SizedLaws
import Derived.Deep.Strs
import Derived.Deep.DeepHandedRow
import Derived.Lib.LaidTab
namespace Go.Proofs.YtokdliapkolngaaDoor
open Go.RowKit Go.ChangeShapes Go.WideShapes Go.ChangeAt Go.Deep
set_option linter.unusedVariables false
set_option maxRecDepth 100000

theorem own : ownKnob Tryd.prog.godebug = none := by kernel_rfl
theorem laidOut : laidOutB Tryd.prog = true := by kernel_rfl
section
variable {H : Type} {enc : TypeId × Value → H} {W : World}
theorem add_placeT {b off k : Nat} : (⟨b, off, none⟩ : Addr).add k = ⟨b, off + k, none⟩ := by unfold Addr.add; split <;> simp_all
theorem bytesOf_str : Tryd.prog.bytesOf 9 = 16 := by kernel_rfl
theorem weights_all {P : Program} {e : TypeId} : ∀ {l : List (DataW H)} {d : DataW H}, d ∈ l → ∀ n ∈ d.weights P e, n ∈ DataW.weightsAll P e l
  | x :: r, d, hd, n, hn => by
    simp only [DataW.weightsAll, List.mem_append]
    rcases List.mem_cons.1 hd with rfl | h
    · exact .inl hn
    · exact .inr (weights_all h n hn)
/-- texts -/
theorem open_textsT {base : Nat} {v : Value} {d : DataW H} {p : List MemPlace} (hv : Value.okWide Tryd.prog W .any base 22 v) (h : DataW.Trod enc Tryd.prog W 0 (fun _ => true) true 22 v d p)
    {ts : List TypeId} {ds : List (DataW H)} (hsz : (DataW.weightsEach Tryd.prog ts ds).all (· ≤ reachBytes) = true) (j : Nat) (ht : ts[j]? = some 22) (hd : ds[j]? = some d) :
    ∃ (A : Option Addr) (n c : Nat) (l : List ByteArray), v = .slice A n c ∧ Sl W W.heap.size A n (l.map Value.string) ∧ n ≤ c ∧ c ≤ maxLen ∧ (∀ s ∈ l, ByteArray.size s ≤ 140737488351232) ∧ n * 16 ≤ 140737488351232 := by
  obtain ⟨a, len, cap, rfl⟩ := okWide_slice Tryd.underlying22 hv
  obtain ⟨fuel, hf⟩ := h
  rcases open_strs Tryd.underlying22 Tryd.underlying9 (by kernel_rfl) hf with ⟨hcs, _⟩ | ⟨a, len, cap, m, Sx, hcs, _, hl, hm, hmm, hx, hc⟩
  · injection hcs with hcs; injection hcs with e1 e2 e3
    subst e1; subst e2; subst e3
    exact ⟨none, 0, 0, [], rfl, Sl.nil_, Nat.le_refl _, Nat.zero_le _, by simp, by omega⟩
  · injection hcs with hcs; injection hcs with e1 e2 e3
    subst e1; subst e2; subst e3
    obtain rfl : m = cap := by simpa using hmm
    have hdd := congrArg Prod.fst hx
    have hw : ∀ n ∈ d.weights Tryd.prog 22, n ≤ reachBytes := fun n hn => by
      have := List.all_eq_true.1 hsz _ (DataW.weights_mem_each ht hd n hn)
      simpa using this
    simp only at hdd
    rw [hdd] at hw
    simp only [DataW.weights, Tryd.underlying22] at hw
    refine ⟨some a, len, m, (List.range len).map Sx, rfl, ⟨by simp, fun hn => ?_⟩, hl, hm, fun s hs => ?_, ?_⟩
    · obtain ⟨b, off, spot⟩ := a
      have hc0 := (hc 0 (by omega)).1
      have hspot : spot = none := by simpa [Addr.add] using World.cell?_spot hc0
      subst hspot
      refine ⟨b, off, rfl, by have := World.block_lt_of_cell? W _ hc0; simpa [Addr.add] using this, fun k u hu => ?_⟩
      have hk : k < len := by have := (List.getElem?_eq_some_iff.1 hu).1; simpa using this
      have := (hc k (by omega)).1
      rw [add_placeT] at this
      rw [this, ← hu]
      simp [hk]
    · obtain ⟨i, hi, rfl⟩ := List.mem_map.1 hs
      have := hw (Sx i).data.toList.length (List.mem_cons_of_mem _ (List.mem_append_left _ (weights_all (List.mem_map.2 ⟨i, hi, rfl⟩) _ (by simp [DataW.weights]))))
      simpa [reachBytes] using this
    · have := hw _ (List.mem_cons_self ..)
      simp only [List.length_map, List.length_range, bytesOf_str, reachBytes] at this
      have h2 : len + (m - len) = m := by omega
      rw [h2] at this
      have : m * 16 ≤ 140737488351232 := by simpa using this
      omega
set_option maxRecDepth 100000 in
theorem open_intsT {base : Nat} {v : Value} {d : DataW H} {p : List MemPlace} (hv : Value.okWide Tryd.prog W .any base 30 v) (h : DataW.Trod enc Tryd.prog W 0 (fun _ => true) true 30 v d p) :
    ∃ (a : Option Addr) (len cap : Nat) (ks : List Int), v = .slice a len cap ∧ Sl W W.heap.size a len (ks.map (Value.int .i64)) ∧ len ≤ cap ∧ cap ≤ maxLen ∧ (∀ z ∈ ks, -9223372036854775808 ≤ z ∧ z ≤ 9223372036854775807) := by
  obtain ⟨a, len, cap, rfl⟩ := okWide_slice Tryd.underlying30 hv
  obtain ⟨fuel, hf⟩ := h
  rcases open_ints Tryd.underlying30 Tryd.underlying3 (by kernel_rfl) hf with ⟨hcs, hx⟩ | ⟨x, l, c, zs, hcs, _, hl, hm, hz, hx, hcell, hwz⟩
  · injection hcs with hcs; injection hcs with e1 e2 e3
    subst e1; subst e2; subst e3
    exact ⟨none, 0, 0, [], rfl, Sl.nil_, Nat.le_refl _, Nat.zero_le _, by simp⟩
  · injection hcs with hcs; injection hcs with e1 e2 e3
    subst e1; subst e2; subst e3
    have hzl : zs.length = cap := by simpa using hz
    refine ⟨_, _, _, zs.take len, rfl, ⟨by simp; omega, fun hn => ?_⟩, hl, hm, fun z hz => ?_⟩
    · obtain ⟨b, off, spot⟩ := x
      have hc0 := hcell 0 (by omega)
      have hspot : spot = none := by simpa [Addr.add] using World.cell?_spot hc0
      subst hspot
      refine ⟨b, off, rfl, by have := World.block_lt_of_cell? W _ hc0; simpa [Addr.add] using this, fun k u hu => ?_⟩
      have hk : k < len := by have := (List.getElem?_eq_some_iff.1 hu).1; simp at this; omega
      have hc := hcell k (by omega)
      rw [add_placeT] at hc
      have hzk : zs[k]? = some zs[k] := List.getElem?_eq_getElem (by omega)
      have hg : zs.getD k 0 = zs[k] := by rw [List.getD_eq_getElem?_getD, hzk]; rfl
      rw [hc, hg, ← hu]
      simp [hk, hzk]
    · have := hwz z (List.mem_of_mem_take hz)
      simpa [Lit.wf, IntKind.min, IntKind.max, IntKind.signed, IntKind.bits] using this
end
def lt1 : Array Value := #[.int .u64 1, .int .u64 10, .int .u64 100, .int .u64 1000, .int .u64 10000, .int .u64 100000, .int .u64 1000000, .int .u64 10000000, .int .u64 100000000, .int .u64 1000000000, .int .u64 10000000000, .int .u64 100000000000, .int .u64 1000000000000, .int .u64 10000000000000, .int .u64 100000000000000, .int .u64 1000000000000000, .int .u64 10000000000000000, .int .u64 100000000000000000, .int .u64 1000000000000000000, .int .u64 10000000000000000000]
def lt2 : Array Value := #[.int .u8 0, .int .u8 1, .int .u8 28, .int .u8 2, .int .u8 29, .int .u8 14, .int .u8 24, .int .u8 3, .int .u8 30, .int .u8 22, .int .u8 20, .int .u8 15, .int .u8 25, .int .u8 17, .int .u8 4, .int .u8 8, .int .u8 31, .int .u8 27, .int .u8 13, .int .u8 23, .int .u8 21, .int .u8 19, .int .u8 16, .int .u8 7, .int .u8 26, .int .u8 12, .int .u8 18, .int .u8 6, .int .u8 11, .int .u8 5, .int .u8 10, .int .u8 9]
def lt3 : Array Value := #[.int .u8 0, .int .u8 1, .int .u8 56, .int .u8 2, .int .u8 57, .int .u8 49, .int .u8 28, .int .u8 3, .int .u8 61, .int .u8 58, .int .u8 42, .int .u8 50, .int .u8 38, .int .u8 29, .int .u8 17, .int .u8 4, .int .u8 62, .int .u8 47, .int .u8 59, .int .u8 36, .int .u8 45, .int .u8 43, .int .u8 51, .int .u8 22, .int .u8 53, .int .u8 39, .int .u8 33, .int .u8 30, .int .u8 24, .int .u8 18, .int .u8 12, .int .u8 5, .int .u8 63, .int .u8 55, .int .u8 48, .int .u8 27, .int .u8 60, .int .u8 41, .int .u8 37, .int .u8 16, .int .u8 46, .int .u8 35, .int .u8 44, .int .u8 21, .int .u8 52, .int .u8 32, .int .u8 23, .int .u8 11, .int .u8 54, .int .u8 26, .int .u8 40, .int .u8 15, .int .u8 34, .int .u8 20, .int .u8 31, .int .u8 10, .int .u8 25, .int .u8 14, .int .u8 19, .int .u8 9, .int .u8 13, .int .u8 8, .int .u8 7, .int .u8 6]
def layCells (cs : Array Value) : Obj → Obj
  | .cells _ t frozen => .cells cs t frozen
  | o => o
/-- a world for the witness: the settled one, the three tables holding what their initialisers lay -/
noncomputable def laidW (os : Os) : World :=
  { World.holding Tryd.prog os ⟨#[], #[], []⟩ with heap := (((World.holding Tryd.prog os ⟨#[], #[], []⟩).heap.modify 1 (layCells lt1)).modify 2 (layCells lt2)).modify 3 (layCells lt3) }
theorem laidW_met (os : Os) (args : Array Value) : laidMet Tryd.prog Rows.ringOwnsRow.laid ((laidW os).forCall (fun _ _ => 0) ⟨#[], args, []⟩).memory :=
  laidMet_of_run' 8 (by kernel_rfl) (by kernel_rfl)
end Go.Proofs.YtokdliapkolngaaDoor
