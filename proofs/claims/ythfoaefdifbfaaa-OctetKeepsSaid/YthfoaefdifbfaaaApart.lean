/-
  The walk of signetref01.Apart: lists that lie in blocks of their own. (Under way.)
-/
import Derived.Test.YthfoaefdifbfaaaOwn
import Derived.Test.YthfoaefdifbfaaaSame
import Derived.Deep.QuietTactic
import Derived.BigQuiet
namespace Go.Proofs.Ythfoaefdifbfaaa
open Go.RowKit

/-- a list: its block (none: nil), its length, its room -/
structure Lst where
  g : Option Nat
  n : Nat
  c : Nat
def Lst.addr (r : Lst) : Option Addr := r.g.map fun g => ⟨g, 0, none⟩
def Lst.val (r : Lst) : Value := .slice r.addr r.n r.c
/-- list number j in world w: its block is all there; its first q cells hold x -/
def Lst.In (w : World) (r : Lst) (q : Nat) (x : Int) : Prop :=
  (r.g = none ∧ r.c = 0) ∨ ∃ g cur, r.g = some g ∧ w.heap[g]? = some (.cells cur 5 (0, 0)) ∧ cur.size = r.c ∧ ∀ t, t < q → cur[t]? = some (.int .u8 x)
/-- what the loops keep: lists before i are filled, list i up to k -/
def Filled (w : World) (rows : List Lst) (i k : Nat) : Prop :=
  ∀ (j : Nat) (r : Lst), rows[j]? = some r → r.In w (if j < i then r.c else if j = i then k else 0) ((j : Int) + 1)
theorem Lst.of_own {w : World} {base n c : Nat} {A : Option Addr} {xs : List Value} (h : Own w base 5 A n c xs) : ∃ r : Lst, r.val = .slice A n c ∧ r.In w 0 0 ∧ (∀ g, r.g = some g → base ≤ g ∧ (Value.slice A n c).ownBlock = some g) ∧ r.c ≤ 9223372036854775807 := by
  rcases h.2 with ⟨hv, h0⟩ | ⟨g, cap, cur, hv, hbg, hg, hnc, hm, hcs, htk⟩
  · injection hv with h1 h2 h3
    subst h1 h3
    exact ⟨⟨none, n, 0⟩, rfl, .inl ⟨rfl, rfl⟩, (fun g h => by cases h), by simp⟩
  · injection hv with h1 h2 h3
    subst h1 h3
    exact ⟨⟨some g, n, c⟩, rfl, .inr ⟨g, cur, rfl, hg, by simpa using hcs, fun t ht => absurd ht (by omega)⟩, (fun g' h => by injection h with h; subst h; exact ⟨hbg, rfl⟩), hm⟩
/-- no two lists in one block, none in the list's own -/
structure Sep (rows : List Lst) (gL : Nat) : Prop where
  two : ∀ (i j : Nat) (r s : Lst) (g : Nat), rows[i]? = some r → rows[j]? = some s → r.g = some g → s.g = some g → i = j
  own : ∀ (i : Nat) (r : Lst), rows[i]? = some r → r.g ≠ some gL
theorem Filled.store {w : World} {rows : List Lst} {gL i k g : Nat} {r : Lst} (h : Filled w rows i k) (hs : Sep rows gL) (hr : rows[i]? = some r) (hg : r.g = some g) (hk : k < r.c) :
    Filled (w.setCell ⟨g, k, none⟩ (.int .u8 ((i : Int) + 1))) rows i (k + 1) := by
  intro j s hj
  rcases h j s hj with ⟨h1, h2⟩ | ⟨g', cur, e1, e2, e3, e4⟩
  · exact .inl ⟨h1, h2⟩
  · right
    by_cases hji : j = i
    · subst hji
      obtain rfl : s = r := by rw [hr] at hj; injection hj with hj; exact hj.symm
      obtain rfl : g = g' := by rw [hg] at e1; injection e1
      refine ⟨g, cur.setIfInBounds k (.int .u8 ((j : Int) + 1)), hg, heap_setCell_same _ _ _ _ _ _ e2, by simpa using e3, fun t ht => ?_⟩
      simp only [Nat.lt_irrefl, if_false, if_true] at ht e4
      rw [Array.getElem?_setIfInBounds]
      split
      · rw [if_pos (by omega)]
      · exact e4 t (by omega)
    · have hne : g ≠ g' := fun e => hji (hs.two j i s r g' hj hr e1 (by rw [hg, e]))
      refine ⟨g', cur, e1, ?_, e3, fun t ht => e4 t (by simpa [hji] using ht)⟩
      rw [heap_setCell_other _ _ _ _ (Ne.symm hne)]; exact e2

theorem Filled.next {w : World} {rows : List Lst} {i k : Nat} {r : Lst} (h : Filled w rows i k) (hr : rows[i]? = some r) (hk : k = r.c) : Filled w rows (i + 1) 0 := by
  intro j s hj
  have := h j s hj
  by_cases hji : j = i
  · subst hji
    obtain rfl : s = r := by rw [hr] at hj; injection hj with hj; exact hj.symm
    rw [if_neg (by omega), if_pos rfl, hk] at this
    rw [if_pos (by omega)]; exact this
  · by_cases hlt : j < i
    · rw [if_pos hlt] at this; rw [if_pos (by omega)]; exact this
    · rw [if_neg hlt, if_neg hji] at this
      rw [if_neg (by omega)]
      split
      · exact this
      · exact this

set_option maxHeartbeats 1000000 in
theorem apart_any (rows : List Lst) (gL m c B : Nat) (w : World) (hL : w.heap[gL]? = some (.cells (rows.map Lst.val).toArray 22 (0, 0))) (hm : rows.length = m) (hm255 : m ≤ 255) (hF : Filled w rows 0 0) (hs : Sep rows gL)
    (hB : ∀ (i : Nat) (r : Lst) (g : Nat), rows[i]? = some r → r.g = some g → B ≤ g) (hc : ∀ (i : Nat) (r : Lst), rows[i]? = some r → r.c ≤ 9223372036854775807) :
    Calls Try.prog 33 #[.slice (some ⟨gL, 0, none⟩) m c] w fun e w' => e = .returned (.bool true) ∧ Below B w w' := by
  have HL := hide hL; have HM := hide hm; have HF := hide hF; have HS := hide hs; have HB := hide hB; have HC := hide hc
  clear hL hm hF hs hB hc
  go_enter Try.func33, Try.ntmps33
  go_wp2_with fail
  go_loopw [3] (fun v3 wr => ∃ i : Nat, i ≤ m ∧ v3 = .int .i64 i ∧ Hid (wr.heap[gL]? = some (.cells (rows.map Lst.val).toArray 22 (0, 0))) ∧ Hid (Filled wr rows i 0) ∧ Hid (Below B w wr)) (fun v _ => m - (intOf v).toNat)
  case atStart => exact ⟨0, by omega, rfl, HL, HF, hide (Below.refl _ _)⟩
  case round =>
    obtain ⟨i, hi, rfl, HL2, HF2, HR⟩ := hrel
    by_cases hlt : i < m
    · obtain ⟨r, hr⟩ : ∃ r, rows[i]? = some r := ⟨rows[i]'(by have := HM.out; omega), List.getElem?_eq_getElem _⟩
      have e1 : wr.cell? ⟨gL, 0 + i, none⟩ = some r.val := by
        rw [cell_of_row wr gL (0 + i) _ _ _ HL2.out]
        simp [hr]
      have HR0 := hide hr
      have hcc := HC.out i r hr
      have hI := HF2.out i r hr
      simp only [Nat.lt_irrefl, if_false, if_true] at hI
      have hi0 : (0 : Int) ≤ (i : Int) := by omega
      have him : (i : Int) < (m : Int) := by omega
      rw [Nat.zero_add] at e1
      clear hr
      obtain ⟨gr, n, cr⟩ := r
      cases gr with
      | none =>
        have hc0 : cr = 0 := by
          rcases hI with ⟨_, h⟩ | ⟨g, _, h, _⟩
          · exact h
          · cases h
        subst hc0
        have e2 : wr.cell? ⟨gL, i, none⟩ = some (.slice none n 0) := e1
        clear e1 hI
        go_wp2_with fail
        go_quiet (fail)
        have HL3 : Hid ((wr.drewN nq).heap[gL]? = some (.cells (rows.map Lst.val).toArray 22 (0, 0))) := hide HL2.out
        have HF3 : Hid (Filled (wr.drewN nq) rows (i + 1) 0) := hide (Filled.next (w := wr.drewN nq) (k := 0) HF2.out HR0.out rfl)
        have HR3 : Hid (Below B w (wr.drewN nq)) := hide (below_drewN HR.out nq)
        generalize wr.drewN nq = w2 at HL3 HF3 HR3 ⊢
        go_wp2_with fail
        go_loop [5] (fun v5 => v5 = .int .i64 0) (fun _ => 0)
        case atStart => rfl
        case round =>
          subst hrel
          go_wp2_with fail
          go_roundw
          case rel => exact ⟨i + 1, by omega, by go_num, HL3, HF3, HR3⟩
          case measure => simp [intOf]; omega
      | some g =>
        have e2 : wr.cell? ⟨gL, i, none⟩ = some (.slice (some ⟨g, 0, none⟩) n cr) := e1
        have hcr0 : (0 : Int) ≤ (cr : Int) := by omega
        have ez : ((i : Int) + 1) % 256 = (i : Int) + 1 := by omega
        have hBg := HB.out i _ g HR0.out rfl
        clear e1 hI
        go_wp2_with fail
        go_quiet (fail)
        have HL3 : Hid ((wr.drewN nq).heap[gL]? = some (.cells (rows.map Lst.val).toArray 22 (0, 0))) := hide HL2.out
        have HF3 : Hid (Filled (wr.drewN nq) rows i 0) := hide HF2.out
        have HR3 : Hid (Below B w (wr.drewN nq)) := hide (below_drewN HR.out nq)
        generalize wr.drewN nq = w2 at HL3 HF3 HR3 ⊢
        go_wp2_with fail
        go_loopw [5] (fun v5 wq => ∃ k : Nat, k ≤ cr ∧ v5 = .int .i64 k ∧ Hid (wq.heap[gL]? = some (.cells (rows.map Lst.val).toArray 22 (0, 0))) ∧ Hid (Filled wq rows i k) ∧ Hid (Below B w wq)) (fun v _ => cr - (intOf v).toNat)
        case atStart => exact ⟨0, by omega, rfl, HL3, HF3, HR3⟩
        case round =>
          obtain ⟨k, hk, rfl, HL4, HF4, HR4⟩ := hrel
          by_cases hlt2 : k < cr
          · obtain ⟨cur, E2, E3⟩ : ∃ cur, Hid (wr.heap[g]? = some (.cells cur 5 (0, 0))) ∧ Hid (cur.size = cr) := by
              rcases HF4.out i _ HR0.out with ⟨h, _⟩ | ⟨g', cur, h1, h2, h3, _⟩
              · cases h
              · injection h1 with h1; subst h1; exact ⟨cur, h2, h3⟩
            have hf : wr.frozen? ⟨g, k, none⟩ = false := frozen_of_row wr _ k _ _ E2.out
            obtain ⟨v0, hv0⟩ : ∃ v0, wr.cell? ⟨g, k, none⟩ = some v0 := by
              rw [cell_of_row wr _ k _ _ _ E2.out]
              exact ⟨_, Array.getElem?_eq_getElem (by have := E3.out; omega)⟩
            go_wp2_with fail
            go_roundw
            case rel =>
              refine ⟨k + 1, by omega, by go_num, hide ?_, hide (HF4.out.store HS.out HR0.out rfl hlt2), hide (HR4.out.setCell hBg _)⟩
              rw [heap_setCell_other _ _ _ _ (by intro h; exact HS.out.own i _ HR0.out (by rw [h]))]; exact HL4.out
            case measure => simp [intOf]; omega
          · have HF5 := hide (HF4.out.next HR0.out (show k = cr by omega))
            go_wp2_with fail
            go_roundw
            case rel => exact ⟨i + 1, by omega, by go_num, HL4, HF5, HR4⟩
            case measure => simp [intOf]; omega
    · obtain rfl : i = m := by omega
      go_wp2_with fail
      go_loopw [6] (fun v6 wq => ∃ j : Nat, j ≤ i ∧ v6 = .int .i64 j ∧ Hid (wq.heap[gL]? = some (.cells (rows.map Lst.val).toArray 22 (0, 0))) ∧ Hid (Filled wq rows i 0) ∧ Hid (Below B w wq)) (fun v _ => i - (intOf v).toNat)
      case atStart => exact ⟨0, by omega, rfl, HL2, HF2, HR⟩
      case round =>
        clear HL2 HF2 HR
        obtain ⟨j, hj, rfl, HL2, HF2, HR⟩ := hrel
        by_cases hlt2 : j < i
        · obtain ⟨r, hr⟩ : ∃ r, rows[j]? = some r := ⟨rows[j]'(by have := HM.out; omega), List.getElem?_eq_getElem _⟩
          have e1 : wr.cell? ⟨gL, 0 + j, none⟩ = some r.val := by
            rw [cell_of_row wr gL (0 + j) _ _ _ HL2.out]
            simp [hr]
          have hcc := HC.out j r hr
          have hI := HF2.out j r hr
          rw [if_pos hlt2] at hI
          have hj0 : (0 : Int) ≤ (j : Int) := by omega
          have hjm : (j : Int) < (i : Int) := by omega
          rw [Nat.zero_add] at e1
          clear hr
          obtain ⟨gr, n, cr⟩ := r
          cases gr with
          | none =>
            have hc0 : cr = 0 := by
              rcases hI with ⟨_, h⟩ | ⟨g, _, h, _⟩
              · exact h
              · cases h
            subst hc0
            have e2 : wr.cell? ⟨gL, j, none⟩ = some (.slice none n 0) := e1
            clear e1 hI
            go_wp2_with fail
            go_quiet (fail)
            have HL3 : Hid ((wr.drewN nq).heap[gL]? = some (.cells (rows.map Lst.val).toArray 22 (0, 0))) := hide HL2.out
            have HF3 : Hid (Filled (wr.drewN nq) rows i 0) := hide HF2.out
            have HR3 : Hid (Below B w (wr.drewN nq)) := hide (below_drewN HR.out nq)
            generalize wr.drewN nq = w2 at HL3 HF3 HR3 ⊢
            go_wp2_with fail
            go_loop [8] (fun v8 => v8 = .int .i64 0) (fun _ => 0)
            case atStart => rfl
            case round =>
              subst hrel
              go_wp2_with fail
              go_roundw
              case rel => exact ⟨j + 1, by omega, by go_num, HL3, HF3, HR3⟩
              case measure => simp [intOf]; omega
          | some g =>
            have e2 : wr.cell? ⟨gL, j, none⟩ = some (.slice (some ⟨g, 0, none⟩) n cr) := e1
            have hcr0 : (0 : Int) ≤ (cr : Int) := by omega
            have ez : ((j : Int) + 1) % 256 = (j : Int) + 1 := by omega
            obtain ⟨cur, E2, E3, E4⟩ : ∃ cur, Hid (wr.heap[g]? = some (.cells cur 5 (0, 0))) ∧ Hid (cur.size = cr) ∧ Hid (∀ t, t < cr → cur[t]? = some (.int .u8 ((j : Int) + 1))) := by
              rcases hI with ⟨h, _⟩ | ⟨g', cur, h1, h2, h3, h4⟩
              · cases h
              · injection h1 with h1; subst h1; exact ⟨cur, h2, h3, h4⟩
            clear e1 hI
            go_wp2_with fail
            go_quiet (fail)
            have HL3 : Hid ((wr.drewN nq).heap[gL]? = some (.cells (rows.map Lst.val).toArray 22 (0, 0))) := hide HL2.out
            have HF3 : Hid (Filled (wr.drewN nq) rows i 0) := hide HF2.out
            have HR3 : Hid (Below B w (wr.drewN nq)) := hide (below_drewN HR.out nq)
            have E5 : Hid ((wr.drewN nq).heap[g]? = some (.cells cur 5 (0, 0))) := hide E2.out
            generalize wr.drewN nq = w2 at HL3 HF3 HR3 E5 ⊢
            go_wp2_with fail
            go_loop [8] (fun v8 => ∃ k : Nat, k ≤ cr ∧ v8 = .int .i64 k) (fun v => cr - (intOf v).toNat)
            case atStart => exact ⟨0, by omega, rfl⟩
            case round =>
              obtain ⟨k, hk, rfl⟩ := hrel
              by_cases hlt3 : k < cr
              · have e3 : w2.cell? ⟨g, k, none⟩ = some (.int .u8 ((j : Int) + 1)) := by
                  rw [cell_of_row w2 _ k _ _ _ E5.out]; exact E4.out k hlt3
                go_wp2_with fail
                go_round
                case rel => exact ⟨k + 1, by omega, by go_num⟩
                case measure => simp [intOf]; omega
              · go_wp2_with fail
                go_roundw
                case rel => exact ⟨j + 1, by omega, by go_num, HL3, HF3, HR3⟩
                case measure => simp [intOf]; omega
        · go_wp2_with fail
          go_ret
          exact ⟨rfl, HR.out⟩
end Go.Proofs.Ythfoaefdifbfaaa
