/-
  The walks of layer 1's laws: Same, Joins, Forth. (Written by oct_g.py.)
-/
import Derived.Test.YtnjpgcfkplchkaaOctF
namespace Go.Proofs.Ytnjpgcfkplchkaa
open Go.RowKit

theorem one_bytes (es : List UInt8) : ∀ u ∈ es.map bv, u.oneCell' = true := by
  intro u hu
  obtain ⟨x, _, rfl⟩ := List.mem_map.1 hu
  rfl

theorem _root_.Go.Proofs.Ytnjpgcfkplchkaa.Oct.six_join (signs : List UInt8) (a b : List Bool) (h : a.length = 6 * (a.length / 6)) : Oct.six signs (a ++ b) = Oct.six signs a ++ Oct.six signs b := by
  unfold Oct.six
  rw [← List.map_append]
  congr 1
  obtain ⟨p, hp⟩ : ∃ p, p = a.length / 6 := ⟨_, rfl⟩
  rw [← hp] at h ⊢
  rw [List.length_append, show (a.length + b.length) / 6 = p + b.length / 6 by omega]
  unfold Oct.grps
  rw [List.range_add, List.map_append]
  congr 1
  · apply List.map_congr_left
    intro i hi
    rw [List.mem_range] at hi
    exact Oct.grp_append (by omega)
  · rw [List.map_map]
    apply List.map_congr_left
    intro i _
    simp only [Function.comp]
    unfold Oct.grp
    rw [Nat.mul_add, ← h, ← List.drop_drop, List.drop_left]
theorem bitsL_mod {bs : List UInt8} (h : bs.length % 3 = 0) : (Oct.bitsL bs).length % 6 = 0 := by rw [Oct.bitsL_length]; omega
theorem web_join (signs : List UInt8) {a : List UInt8} (b : List UInt8) (h : a.length % 3 = 0) : Oct.webL signs (a ++ b) = Oct.webL signs a ++ Oct.webL signs b := by
  have h24 : (Oct.bitsL a).length = 6 * ((Oct.bitsL a).length / 6) := by have := bitsL_mod h; omega
  have e1 : Oct.fill6 (Oct.bitsL (a ++ b)) = Oct.bitsL a ++ Oct.fill6 (Oct.bitsL b) := by
    unfold Oct.fill6
    rw [Oct.bitsL_append, List.length_append, List.append_assoc]
    congr 3
    have := bitsL_mod h; omega
  have e2 : Oct.fill6 (Oct.bitsL a) = Oct.bitsL a := by unfold Oct.fill6; rw [bitsL_mod h]; simp
  unfold Oct.webL
  rw [e1, e2]
  exact Oct.six_join signs _ _ h24
theorem basic_join {a : List UInt8} (b : List UInt8) (h : a.length % 3 = 0) : Oct.basicL (a ++ b) = Oct.basicL a ++ Oct.basicL b := by
  have e1 : Oct.basicL a = Oct.webL Oct.basicS a := by
    unfold Oct.basicL
    rw [Oct.webL_length, show (4 - (4 * a.length + 2) / 3 % 4) % 4 = 0 by omega]; simp
  rw [e1]
  unfold Oct.basicL
  rw [web_join _ b h, List.length_append, List.append_assoc]
  congr 3
  rw [Oct.webL_length Oct.basicS a]
  omega

theorem len_none {w : World} {A : Option Addr} {m : Nat} {B : Nat} (h : SlB w B A m ((none : Option (List UInt8)).getD [])) : m = 0 := by have := h.len; simpa using this.symm

end Go.Proofs.Ytnjpgcfkplchkaa
