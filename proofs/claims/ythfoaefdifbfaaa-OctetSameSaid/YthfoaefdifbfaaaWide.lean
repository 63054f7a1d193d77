/-
  Appends beyond 2^47 bytes: where what is needed and a quarter more fits; where there is room already.
-/
import Derived.Test.YthfoaefdifbfaaaOwn
import Derived.Test.YthfoaefdifbfaaaStr
import Derived.Deep.DeepAppendWide
import Derived.Lib.AppendStr
namespace Go.Proofs.Ythfoaefdifbfaaa
open Go.RowKit
set_option linter.unusedVariables false

section
variable {P : Program} {w w' : World} {base e n c : Nat} {A : Option Addr} {xs : List Value}
theorem run_app_wide (t ty : TypeId) (z : Value) (bytes : Nat) (ht : P.underlying t = some (.slice e)) (hi : (P.info? e).map (fun i => (i.zero, i.size, i.bytes)) = some (some z, 1, bytes)) (hz1 : z.cells.size = 1)
    (hown : Own w base e A n c xs) {B : Nat} {A' : Option Addr} {m c' : Nat} {news : List Value} (hr : Sl w B A' m news) (h1 : ∀ u ∈ news, u.oneCell' = true)
    (h63 : n + m ≤ maxLen) (hbytes : ((n + m) + (n + m) / 4 + 192) * bytes ≤ 281474976710656) (hbase : base ≤ w.heap.size) :
    ∃ A2 c2 w', (Builtin.append_ #[t, t] ty #[.slice A n c, .slice A' m c']).run P w = .ok (.slice A2 (n + m) c2) w' ∧ Own w' base e A2 (n + m) c2 (xs ++ news) ∧ w.grownBy w' (Value.slice A n c).ownBlock := by
  obtain ⟨i, hi0, hz, hs, hb⟩ := info_parts hi
  have shape : ∀ (v' : Value) (w1 : World), w1.ownsRow base e 1 v' (n + m) (xs ++ news) → ∃ A2 c2, v' = .slice A2 (n + m) c2 := by
    intro v' w1 h
    rcases h.2 with ⟨h, h0⟩ | ⟨g, cap, cur, h, _⟩
    · exact ⟨none, 0, by rw [h, h0]⟩
    · exact ⟨_, _, h⟩
  rcases A' with _ | ad
  · have hm : m = 0 := by
      rcases Nat.eq_zero_or_pos m with h0 | h0
      · exact h0
      · obtain ⟨b, off, h, _⟩ := hr.2 h0; cases h
    subst hm
    obtain rfl : news = [] := List.eq_nil_of_length_eq_zero hr.1
    exact ⟨A, c, w, run_append_own_nil t ty i ht hi0 hown c', by simpa using hown, ⟨rfl, rfl, rfl, Nat.le_refl _, fun _ _ _ => rfl⟩⟩
  · have hcells : ∀ j u, news[j]? = some u → w.cell? (ad.add j) = some u := by
      intro j u hu
      rcases Nat.eq_zero_or_pos m with h0 | h0
      · subst h0
        obtain rfl : news = [] := List.eq_nil_of_length_eq_zero hr.1
        simp at hu
      · obtain ⟨b, off, h, _, hc⟩ := hr.2 h0
        injection h with h; subst h
        have := hc j u hu
        unfold Addr.add
        split
        · rename_i hj; subst hj; exact this
        · exact this
    obtain ⟨v', w1, hrun, h2, h3, _⟩ := run_append_own_wide (P := P) w base t ty e i z 1 bytes ht hi0 hz hs hb hz1 (by omega) (.slice A n c) n xs hown ad m c' news (by simpa using hr.1) hcells h1 h63 hbytes hbase
    obtain ⟨A2, c2, rfl⟩ := shape v' w1 h2
    exact ⟨A2, c2, w1, hrun, h2, h3⟩

theorem wp_app_wide {o : Oper} {a : Act} {K : Act → World → Prop} {Q : Exit → Act → World → Prop} (s x : Operand) (t : TypeId)
    (ho : o.op = .call { callee := .builtin .append, args := #[s, x], argTypes := #[t, t] })
    (z : Value) (bytes : Nat) (ht : P.underlying t = some (.slice e)) (hi : (P.info? e).map (fun i => (i.zero, i.size, i.bytes)) = some (some z, 1, bytes)) (hz1 : z.cells.size = 1)
    (hs : a.eval s = .slice A n c) (hown : Own w base e A n c xs) {B : Nat} {A' : Option Addr} {m c' : Nat} {news : List Value} (hx : a.eval x = .slice A' m c') (hr : Sl w B A' m news) (h1 : ∀ u ∈ news, u.oneCell' = true)
    (h63 : n + m ≤ maxLen) (hbytes : ((n + m) + (n + m) / 4 + 192) * bytes ≤ 281474976710656) (hbase : base ≤ w.heap.size)
    (h : ∀ A2 c2 w', Own w' base e A2 (n + m) c2 (xs ++ news) → w.grownBy w' (Value.slice A n c).ownBlock → K (a.put o.dst (.slice A2 (n + m) c2)) w') : o.wp P a w K Q := by
  obtain ⟨A2, c2, w', hrun, h2, h3⟩ := run_app_wide (P := P) t o.type z bytes ht hi hz1 hown (c' := c') hr h1 h63 hbytes hbase
  unfold Oper.wp execOp
  simp only [ho, resolve, invoke, builtin, Sem.run_bind, Sem.run_pure, Result.andThen_ok, List.map_toArray, List.map_cons, List.map_nil, hs, hx, hrun]
  exact h A2 c2 w' h2 h3
theorem wpList_appW {ops : Array Oper} {rest : List Oper} {o : Oper} {a : Act} {Q : Exit → Act → World → Prop} (hgd : o.guard = none) (s x : Operand) (t : TypeId)
    (ho : o.op = .call { callee := .builtin .append, args := #[s, x], argTypes := #[t, t] })
    (z : Value) (bytes : Nat) (ht : P.underlying t = some (.slice e)) (hi : (P.info? e).map (fun i => (i.zero, i.size, i.bytes)) = some (some z, 1, bytes)) (hz1 : z.cells.size = 1)
    (hs : a.eval s = .slice A n c) (hown : Own w base e A n c xs) {B : Nat} {A' : Option Addr} {m c' : Nat} {news : List Value} (hx : a.eval x = .slice A' m c') (hr : Sl w B A' m news) (h1 : ∀ u ∈ news, u.oneCell' = true)
    (h63 : n + m ≤ maxLen) (hbytes : ((n + m) + (n + m) / 4 + 192) * bytes ≤ 281474976710656) (hbase : base ≤ w.heap.size)
    (h : ∀ A2 c2 w', Own w' base e A2 (n + m) c2 (xs ++ news) → w.grownBy w' (Value.slice A n c).ownBlock → wpList P ops Q rest (a.put o.dst (.slice A2 (n + m) c2)) w') :
    wpList P ops Q (o :: rest) a w :=
  wpList_plain hgd fun _ hK => wp_app_wide s x t ho z bytes ht hi hz1 hs hown hx hr h1 h63 hbytes hbase fun A2 c2 w' h2 h3 => hK _ _ (h A2 c2 w' h2 h3)
/-- 'append(b, s...)' where there is room -/
theorem wpList_appSroom {ops : Array Oper} {rest : List Oper} {o : Oper} {a : Act} {Q : Exit → Act → World → Prop} (hgd : o.guard = none) (sl x : Operand) (t u : TypeId)
    (ho : o.op = .call { callee := .builtin .append, args := #[sl, x], argTypes := #[t, u] })
    (ht : P.underlying t = some (.slice e)) (hu : P.underlying u = some .string) (hi : (P.info? e).map (fun i => (i.zero, i.size, i.bytes)) = some (some (.int .u8 0), 1, 1)) {g : Nat}
    (hs : a.eval sl = .slice (some ⟨g, 0, none⟩) n c) (hown : Own w base e (some ⟨g, 0, none⟩) n c xs) (bs : List UInt8) (hx : a.eval x = .string (strB bs)) (hroom : n + bs.length ≤ c)
    (h : ∀ w', Own w' base e (some ⟨g, 0, none⟩) (n + bs.length) c (xs ++ bs.map bv) → w.grownBy w' (some g) → wpList P ops Q rest (a.put o.dst (.slice (some ⟨g, 0, none⟩) (n + bs.length) c)) w') :
    wpList P ops Q (o :: rest) a w := by
  obtain ⟨i, hi0, hz, hsz, hb⟩ := info_parts hi
  refine wpList_plain hgd fun K hK => ?_
  have hxl : xs.length = n := hown.len
  rcases hown.2 with ⟨h1, _⟩ | ⟨g', cap, cur, h1, hbg, hg, hnc, hcm, hcs, htake⟩
  · cases h1
  · injection h1 with a1 a2 a3
    injection a1 with a1; injection a1 with a1 _ _
    subst a1; subst a3
    have hcs' : cur.size = c := by simpa using hcs
    have hr := Lib.run_append_room_string (P := P) w t u o.type e i ht hu hi0 hsz g n c cur hg (strB bs) hroom (by rw [strB_size]; omega)
    rw [strB_size] at hr
    unfold Oper.wp execOp
    simp only [ho, resolve, invoke, builtin, Sem.run_bind, Sem.run_pure, Result.andThen_ok, List.map_toArray, List.map_cons, List.map_nil, hs, hx, hr]
    refine hK _ _ (h _ ⟨by simp [hxl], .inr ⟨g, c, _, rfl, hbg, setRow_heap w g cur _ e _ hg, hroom, hcm, ?_, ?_⟩⟩ ⟨rfl, rfl, rfl, by simp, fun k _ hk => setRow_other w g k _ (fun e => hk (by rw [e]))⟩)
    · simp only [List.size_toArray, List.length_append, List.length_take, List.length_drop, Array.length_toList, strCells_bv, strB_data, List.length_map]
      omega
    · have ht' : cur.toList.take n = xs := by simpa using htake
      rw [ht', strCells_bv, strB_data]
      have : (n + bs.length) * 1 = (xs ++ bs.map bv).length := by simp [hxl]
      rw [this]
      exact List.take_left
end
end Go.Proofs.Ythfoaefdifbfaaa
