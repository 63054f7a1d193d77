/-
  Lease: the document's Forget.
-/
import Derived.Test.YtjmgnojbegafiaaLeaseR
namespace Go.Proofs.Ytjmgnojbegafiaa
open Go.RowKit
set_option linter.unusedVariables false

theorem filter_snoc {L : List RN} {i : Nat} {x : RN} (p : RN → Bool) (hx : L[i]? = some x) : (L.take (i + 1)).filter p = (L.take i).filter p ++ (if p x = true then [x] else []) := by
  rw [List.take_add_one, hx, List.filter_append]
  congr 1
  by_cases h : p x = true <;> simp [h]
set_option maxHeartbeats 4000000 in
theorem rforget_any (q n c : Nat) (A : Option Addr) (L : List RN) (term : Int) (fam : ByteArray) (w : World) (hd : RDesk w q A n c L term) (hn : n ≤ 1000000) (N : ByteArray → Int → Option Int) (G : ByteArray → Int → Bool) (hN : ∀ s e, getN L s e = N s e) (hG : ∀ s e, getG L s e = G s e) :
    Calls Try.prog 25 #[.pointer (some ⟨q, 0, none⟩), .string fam] w fun en w' => en = .returned (.tuple #[]) ∧ ∃ A' n' c' L', n' ≤ n ∧ RTurn w w' q A n c A' n' c' L' term (fun s e => if s = fam then none else N s e) (fun s e => !decide (s = fam) && G s e) := by
  have HD := hide hd; have HN := hide hN; have HG := hide hG
  have hq := hide hd.row.lt
  clear hd hN hG
  obtain ⟨p, hp⟩ : ∃ p : RN → Bool, p = fun x => decide (x.s ≠ fam) := ⟨_, rfl⟩
  have HP := hide hp
  clear hp
  go_enter Try.func25, Try.ntmps25
  go_wp2_with fail
  go_loopw [4, 5] (fun v4 v5 wq => ∃ (i n2 c2 : Nat) (A2 : Option Addr), i ≤ n ∧ n2 ≤ i ∧ v5 = .int .i64 i ∧ v4 = .slice A2 n2 c2 ∧ Hid (OwnS 4 wq w.heap.size 76 A2 n2 c2 (((L.take i).filter p).flatMap RN.cells)) ∧ Hid (((L.take i).filter p).length = n2) ∧ Hid (Below w.heap.size w wq)) (fun _ v _ => n - (intOf v).toNat)
  case atStart => exact ⟨0, 0, 0, none, by omega, by omega, rfl, rfl, hide OwnS.nil_, hide rfl, hide (Below.refl _ _)⟩
  case round =>
    obtain ⟨i, n2, c2, A2, hi, hn2, rfl, rfl, O, HL, B⟩ := hrel
    have cq : wr.cell? ⟨q, 0, none⟩ = some (.slice A n c) := (B.out.cell (p := ⟨q, 0, none⟩) hq.out).trans (HD.out.row.cell (k := 0) rfl)
    by_cases hlt : i < n
    · obtain ⟨g, o, x, rfl, HO, HOB, hx, k0, k1, k2, k3, _⟩ := HD.out.at_ hlt
      have hgl : g < w.heap.size := HD.out.own.row_lt g HOB.out
      have c0 := (B.out.cell (p := ⟨g, o + i * 4, none⟩) hgl).trans k0
      have c1 := (B.out.cell (p := ⟨g, o + i * 4 + 1, none⟩) hgl).trans k1
      have c2' := (B.out.cell (p := ⟨g, o + i * 4 + 2, none⟩) hgl).trans k2
      have c3 := (B.out.cell (p := ⟨g, o + i * 4 + 3, none⟩) hgl).trans k3
      have hi1 : (i : Int) < (n : Int) := by omega
      have hi0 : (0 : Int) ≤ (i : Int) := by omega
      have HSN := hide (filter_snoc p hx)
      clear k0 k1 k2 k3 hx hgl
      obtain ⟨xs, xe, xa, xg⟩ := x
      simp only at c0 c1 c2' c3
      have hse := text_eq xs fam
      by_cases hs : xs = fam
      · rw [decide_eq_true hs] at hse
        have hsn : (xs.toList != fam.toList) = false := by unfold bne; rw [hse]; rfl
        have HPX : Hid ((L.take (i + 1)).filter p = (L.take i).filter p) := hide (by rw [HSN.out, HP.out]; simp [hs])
        clear hs HSN
        go_wp2_with fail
        go_roundw
        case rel =>
          refine ⟨i + 1, n2, c2, A2, by omega, by omega, by go_num, rfl, ?_⟩
          rw [HPX.out]
          exact ⟨O, HL, B⟩
        case measure => simp [intOf]; omega
      · rw [decide_eq_false hs] at hse
        have hsn : (xs.toList != fam.toList) = true := by unfold bne; rw [hse]; rfl
        have HPX : Hid ((L.take (i + 1)).filter p = (L.take i).filter p ++ [⟨xs, xe, xa, xg⟩]) := hide (by rw [HSN.out, HP.out]; simp [hs])
        have HONE : Hid (∀ u ∈ [Value.string xs, .int .i64 xe, .int .i64 xa, .bool xg], u.oneCell' = true) := hide (RN.cells_one ⟨xs, xe, xa, xg⟩)
        clear hs HSN
        go_wp2_with (at_builtin; go_must (with_reducible refine wpList_appS1 rfl (.tmp 25) (.tmp 33) 50 rfl _ 40 Try.underlying50 info_rn rfl (by omega) [.string xs, .int .i64 xe, .int .i64 xa, .bool xg] 76 rfl O.out rfl rfl HONE.out (by unfold maxLen; omega) (by omega) B.out.size ?_))
        intro A3 c3' w3 ho hg hat
        have O3 : Hid (OwnS 4 w3 w.heap.size 76 A3 (n2 + 1) c3' (((L.take (i + 1)).filter p).flatMap RN.cells)) := hide (by rw [HPX.out, List.flatMap_append, List.flatMap_cons, List.flatMap_nil, List.append_nil]; exact ho)
        have B3 : Hid (Below w.heap.size w w3) := hide (below_of_grown (B.out.alloc B.out.size _) hg (by have := B.out.size; rw [World.size_alloc]; omega) (fun k hk => O.out.row_ge k hk))
        have HL3 : Hid (((L.take (i + 1)).filter p).length = n2 + 1) := hide (by rw [HPX.out, List.length_append, HL.out]; rfl)
        clear ho hg hat O B HL
        go_wp2_with fail
        go_roundw
        case rel => exact ⟨i + 1, n2 + 1, c3', A3, by omega, by omega, by go_num, rfl, O3, HL3, B3⟩
        case measure => simp [intOf]; omega
    · have hall : L.take i = L := List.take_of_length_le (by rw [HD.out.len]; omega)
      rw [hall] at O HL
      have hge : ¬ ((i : Int) < (n : Int)) := by omega
      have R2 : Hid (RowV wr q 52 [.slice A n c, .int .i64 term]) := hide (HD.out.row.below B.out hq.out)
      have hqf := R2.out.free 0
      clear hall
      go_wp2_with fail
      go_end0
      refine ⟨rfl, A2, n2, by omega, c2, L.filter p, ⟨R2.out.set 0 _, ?_, HL.out, fun y hy => HD.out.at64 y (List.mem_filter.1 hy).1⟩, (But.of_below B.out).setC (.inl rfl), fun k hk => ?_, fun s e => ?_, fun s e => ?_⟩
      · refine (O.out.base_ ?_).but_row (S := fun k => k = q) ((But.refl _ _).setC rfl) (fun k hk e => by have := O.out.row_ge k hk; have := hq.out; omega)
        have := hq.out; omega
      · rcases hk with h | h
        · exact .inl (.inl h)
        · exact .inr (O.out.row_ge k h)
      · rw [HP.out, getN_filter, HN.out]
      · rw [HP.out, getG_filter, HG.out]
end Go.Proofs.Ytjmgnojbegafiaa
