/-
  Bytes to strings, and strings onto bytes that the call owns: one law each.
-/
import Derived.Test.YthfoaefdifbfaaaOwn
import Derived.Laws.BytesArg
import Derived.Lib.AppendStr
namespace Go.Proofs.Ythfoaefdifbfaaa
open Go.RowKit

/-- a string of bytes -/
def strB (bs : List UInt8) : ByteArray := ⟨bs.toArray⟩
theorem strB_data (bs : List UInt8) : (strB bs).data.toList = bs := rfl
theorem strB_size (bs : List UInt8) : (strB bs).size = bs.length := rfl
theorem strB_eq (s : ByteArray) : strB s.data.toList = s := rfl
theorem strB_inj {a b : List UInt8} : strB a = strB b ↔ a = b := ⟨fun h => by have := congrArg (fun s : ByteArray => s.data.toList) h; exact this, fun h => by rw [h]⟩
theorem strB_append (a b : List UInt8) : strB a ++ strB b = strB (a ++ b) := by
  apply ByteArray.ext; simp [strB]
theorem strB_ext {s : ByteArray} {bs : List UInt8} (h : s.data.toList = bs) : s = strB bs := by rw [← h]; rfl
theorem string_bs (s : ByteArray) : ∃ bs, s = strB bs ∧ bs.length = s.size := ⟨s.data.toList, rfl, rfl⟩

section
variable {P : Program} {w : World} {B n : Nat} {A : Option Addr} {bs : List UInt8}
theorem conv_any (src dst e : TypeId) (hs : P.underlying src = some (.slice e)) (he : P.underlying e = some (.int .u8)) (hd : P.underlying dst = some .string) (h : SlB w B A n bs) (c : Nat) :
    (convert src dst (.slice A n c)).run P w = .ok (.string (strB bs)) w := by
  rcases Nat.eq_zero_or_pos n with h0 | h0
  · subst h0
    have hl := h.len
    obtain rfl : bs = [] := List.eq_nil_of_length_eq_zero hl
    cases A with
    | none => exact run_convert_bytes_nil w src e hs he 0 c dst hd
    | some a =>
      rw [run_convert_bytes_string w src dst e _ 0 c hs he hd]
      have hld : (loadCells a 0).run P w = .ok #[] w := run_loadCells_list (P := P) w a [] (fun j v hj => by simp at hj)
      simp [Conv.bytesToString, hld]
      rfl
  · obtain ⟨b, off, rfl, hb, hc⟩ := h.spot h0
    have hl := h.len
    have := run_convert_bytes_arg (P := P) w src e hs he b off n c (bs.map fun x => (x.toNat : Int)) (by simpa using hl) (fun i hi => by
      rw [hc i (by omega)]
      simp [List.getD_eq_getElem?_getD, List.getElem?_eq_getElem (show i < bs.length by omega)]) dst hd
    rw [this]
    congr 2
    apply strB_ext
    rw [strOfNums_data, List.map_map]
    conv => rhs; rw [← List.map_id bs]
    apply List.map_congr_left
    intro x _
    simp
theorem strCells_bv (s : ByteArray) : Lib.strCells s = s.data.toList.map bv := rfl
/-- 'append(b, s...)' -/
theorem wpList_appS {base e c : Nat} {xs : List Value} {ops : Array Oper} {rest : List Oper} {o : Oper} {a : Act} {Q : Exit → Act → World → Prop} (hgd : o.guard = none) (sl x : Operand) (t u : TypeId)
    (ho : o.op = .call { callee := .builtin .append, args := #[sl, x], argTypes := #[t, u] })
    (ht : P.underlying t = some (.slice e)) (hu : P.underlying u = some .string) (hi : (P.info? e).map (fun i => (i.zero, i.size, i.bytes)) = some (some (.int .u8 0), 1, 1))
    (hs : a.eval sl = .slice A n c) (hown : Own w base e A n c xs) (bs : List UInt8) (hx : a.eval x = .string (strB bs))
    (h63 : n + bs.length ≤ maxLen) (hbytes : n + bs.length ≤ 140737488355328) (hbase : base ≤ w.heap.size)
    (h : ∀ A2 c2 w', Own w' base e A2 (n + bs.length) c2 (xs ++ bs.map bv) → w.grownBy w' (Value.slice A n c).ownBlock → wpList P ops Q rest (a.put o.dst (.slice A2 (n + bs.length) c2)) w') :
    wpList P ops Q (o :: rest) a w := by
  obtain ⟨i, hi0, hz, hsz, hb⟩ := info_parts hi
  refine Lib.wpList_append_own_string w hgd sl x t u ho base e i ht hu hi0 hz hsz hb _ n xs hs hown (strB bs) hx h63 hbytes hbase fun v' w' h1 h2 _ => ?_
  have shape : ∃ A2 c2, v' = .slice A2 (n + bs.length) c2 := by
    rcases h1.2 with ⟨h, h0⟩ | ⟨g, cap, cur, h, _⟩
    · exact ⟨none, 0, by rw [h]; congr 1; exact h0.symm⟩
    · exact ⟨_, _, h⟩
  obtain ⟨A2, c2, rfl⟩ := shape
  exact h A2 c2 w' h1 h2
end
end Go.Proofs.Ythfoaefdifbfaaa
