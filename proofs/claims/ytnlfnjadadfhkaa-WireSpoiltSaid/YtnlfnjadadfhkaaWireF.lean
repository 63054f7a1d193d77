/-
  Puts: what is written. The walks of the law's few, put, write.
-/
import Derived.Test.YtnlfnjadadfhkaaWireD
namespace Go.Proofs.Ytnlfnjadadfhkaa
open Go.RowKit
set_option linter.unusedVariables false

/-- something that is written -/
structure Put where
  kind : Int
  n : Int
  s : ByteArray
  l : List ByteArray
/-- its numbers and texts are Go's -/
def Put.Ok (p : Put) : Prop := (-9223372036854775808 ≤ p.kind ∧ p.kind ≤ 9223372036854775807) ∧ (-9223372036854775808 ≤ p.n ∧ p.n ≤ 9223372036854775807) ∧ p.s.size ≤ 9223372036854775807 ∧ (∀ s ∈ p.l, s.size ≤ 9223372036854775807) ∧ p.l.length ≤ 9223372036854775807
/-- the struct's value, its texts in A -/
def Put.val (p : Put) (A : Option Addr) (c : Nat) : Value := .agg #[.int .i64 p.kind, .int .i64 p.n, .string p.s, .slice A p.l.length c]
def PutAt (w : World) (B b o : Nat) (p : Put) : Prop :=
  p.Ok ∧ w.cell? ⟨b, o, none⟩ = some (.int .i64 p.kind) ∧ w.cell? ⟨b, o + 1, none⟩ = some (.int .i64 p.n) ∧ w.cell? ⟨b, o + 2, none⟩ = some (.string p.s) ∧
    ∃ A c, w.cell? ⟨b, o + 3, none⟩ = some (.slice A p.l.length c) ∧ Sl w B A p.l.length (p.l.map Value.string)
/-- a slice of puts -/
def SlPut (w : World) (B : Nat) (A : Option Addr) (n : Nat) (ps : List Put) : Prop :=
  ps.length = n ∧ (0 < n → ∃ b off, A = some ⟨b, off, none⟩ ∧ b < B ∧ ∀ k p, ps[k]? = some p → PutAt w B b (off + k * 4) p)
theorem PutAt.below {w w' : World} {B C b o : Nat} {p : Put} (h : PutAt w B b o p) (hb : Below C w w') (hC : B ≤ C) (hbB : b < B) : PutAt w' B b o p := by
  obtain ⟨h0, h1, h2, h3, A, c, h4, h5⟩ := h
  have hl : b < C := Nat.lt_of_lt_of_le hbB hC
  exact ⟨h0, (hb.cell (p := ⟨b, _, none⟩) hl).trans h1, (hb.cell (p := ⟨b, _, none⟩) hl).trans h2, (hb.cell (p := ⟨b, _, none⟩) hl).trans h3, A, c, (hb.cell (p := ⟨b, _, none⟩) hl).trans h4, h5.below hb hC⟩
theorem PutAt.more {w : World} {B B' b o : Nat} {p : Put} (h : PutAt w B b o p) (hB : B ≤ B') : PutAt w B' b o p := by
  obtain ⟨h0, h1, h2, h3, A, c, h4, h5⟩ := h
  exact ⟨h0, h1, h2, h3, A, c, h4, h5.more hB⟩
theorem SlPut.below {w w' : World} {B C n : Nat} {A : Option Addr} {ps : List Put} (h : SlPut w B A n ps) (hb : Below C w w') (hC : B ≤ C) : SlPut w' B A n ps :=
  ⟨h.1, fun hn => by
    obtain ⟨b, off, e, hlt, hc⟩ := h.2 hn
    exact ⟨b, off, e, hlt, fun k p hp => (hc k p hp).below hb hC hlt⟩⟩
theorem SlPut.more {w : World} {B B' n : Nat} {A : Option Addr} {ps : List Put} (h : SlPut w B A n ps) (hB : B ≤ B') : SlPut w B' A n ps :=
  ⟨h.1, fun hn => by
    obtain ⟨b, off, e, hlt, hc⟩ := h.2 hn
    exact ⟨b, off, e, by omega, fun k p hp => (hc k p hp).more hB⟩⟩
theorem SlPut.up {w w1 : World} {n : Nat} {A : Option Addr} {ps : List Put} (h : SlPut w w.heap.size A n ps) (b : Below w.heap.size w w1) : SlPut w1 w1.heap.size A n ps := (h.below b (Nat.le_refl _)).more b.size
theorem SlPut.take {w : World} {B n : Nat} {A : Option Addr} {ps : List Put} (h : SlPut w B A n ps) (k : Nat) (hk : k ≤ n) : SlPut w B A k (ps.take k) :=
  ⟨by rw [List.length_take, h.1]; omega, fun hn => by
    obtain ⟨b, off, e, hlt, hc⟩ := h.2 (by omega)
    exact ⟨b, off, e, hlt, fun j p hp => hc j p (by
      rw [List.getElem?_take] at hp
      split at hp
      · exact hp
      · cases hp)⟩⟩
theorem SlPut.at_ {w : World} {B n : Nat} {A : Option Addr} {ps : List Put} (h : SlPut w B A n ps) {k : Nat} (hk : k < n) : ∃ b off p, A = some ⟨b, off, none⟩ ∧ b < B ∧ ps[k]? = some p ∧ PutAt w B b (off + k * 4) p := by
  obtain ⟨b, off, e, hb, hc⟩ := h.2 (by omega)
  have hl : k < ps.length := by have := h.1; omega
  exact ⟨b, off, ps[k], e, hb, List.getElem?_eq_getElem hl, hc k _ (List.getElem?_eq_getElem hl)⟩

theorem few_any (A : Option Addr) (n c : Nat) (w : World) (hn : n ≤ 9223372036854775807) (hc : n ≤ c) :
    Calls Try.prog 11 #[.slice A n c] w fun e w' => e = .returned (.slice A (min n 400) c) ∧ w = w' := by
  by_cases h : 400 < n
  · have hi : (400 : Int) < (n : Int) := by omega
    have hj : (400 : Int) ≤ (c : Int) := by omega
    have HM : Hid (min n 400 = 400) := hide (by omega)
    go_enter Try.func11, Try.ntmps11
    go_wp2_with fail
    go_ret
    exact ⟨by rw [HM.out]; rfl, rfl⟩
  · have hi : ¬ ((400 : Int) < (n : Int)) := by omega
    have HM : Hid (min n 400 = n) := hide (by omega)
    go_enter Try.func11, Try.ntmps11
    go_wp2_with fail
    go_ret
    exact ⟨by rw [HM.out]; rfl, rfl⟩

/-- a put's bytes, and the error behind it -/
def Wire.putB (p : Put) : List UInt8 :=
  if p.kind = 0 then Wire.num (Wire.zig p.n) else if p.kind = 1 then Wire.text p.s.data.toList else if p.kind = 2 then [if p.n = 1 then 1 else 0] else if p.kind = 3 then Wire.cnt p.n
  else if p.kind = 4 then (if p.l.length ≤ 4096 then Wire.num p.l.length ++ Wire.texts p.l else []) else []
def Wire.putBad (p : Put) (bad : Int) : Int := if p.kind = 3 then Wire.cntBad p.n bad else if p.kind = 4 then (if p.l.length ≤ 4096 then bad else Wire.first bad 3) else bad
theorem WSt.alloc {w : World} {base G T : Nat} {bs : List UInt8} {bad : Int} (h : WSt w base G T bs bad) (o : Obj) : WSt (w.alloc o) base G T bs bad := h.below ((Below.refl _ _).alloc (Nat.le_refl _) _)
theorem Wire.putB_length (p : Put) : (Wire.putB p).length ≤ 268476500 := by
  unfold Wire.putB
  split
  · have := Wire.num_length (Wire.zig p.n); omega
  split
  · have := Wire.text_length p.s.data.toList; omega
  split
  · simp
  split
  · unfold Wire.cnt
    split
    · simp
    · have := Wire.num_length p.n.toNat; omega
  split
  · split
    · have h1 := Wire.num_length p.l.length
      have h2 := Wire.texts_length p.l
      simp only [List.length_append]
      have : 65546 * p.l.length ≤ 65546 * 4096 := Nat.mul_le_mul_left _ (by assumption)
      omega
    · simp
  · simp

set_option maxHeartbeats 2000000 in
theorem put_any (base G : Nat) (p : Put) (A : Option Addr) (c : Nat) (bs : List UInt8) (bad : Int) (w : World) (hp : p.Ok) (hS : WSt w base G 76 bs bad) (hG : base ≤ G) (hl : Sl w base A p.l.length (p.l.map Value.string)) (hlen : bs.length + 10 + 65546 * 4096 + 65546 ≤ 140737488355328) :
    Calls Try.prog 18 #[.pointer (some ⟨G, 0, none⟩), p.val A c] w fun e w' => e = .returned (.tuple #[]) ∧ WSt w' base G 76 (bs ++ Wire.putB p) (Wire.putBad p bad) ∧ Below base w w' := by
  obtain ⟨⟨k1, k2⟩, ⟨n1, n2⟩, hs, hls, hll⟩ := hp
  obtain ⟨kind, n, s, l⟩ := p
  simp only at k1 k2 n1 n2 hs hls hll hl ⊢
  have hGw : base ≤ w.heap.size := by have := hS.lt; omega
  have HS := hide (hS.alloc (.cells #[.int .i64 kind, .int .i64 n, .string s, .slice A l.length c] 43))
  have HB : Hid (Below base w (w.alloc (.cells #[.int .i64 kind, .int .i64 n, .string s, .slice A l.length c] 43))) := hide ((Below.refl _ _).alloc hGw _)
  have HLS := hide hls
  have HL := hide (hl.below HB.out (Nat.le_refl _))
  clear hS hls hl
  unfold Put.val
  by_cases h0 : kind = 0
  · subst h0
    go_enter Try.func18, Try.ntmps18
    go_wp2_with fail
    refine (wint_any base G n bs bad _ HS.out hG ⟨n1, n2⟩ (by omega)).mono ?_
    rintro e w1 ⟨rfl, hs1, hb⟩
    have S1 := hide hs1; have B1 := hide (HB.out.trans hb); clear hs1 hb HS
    go_wp2_with fail
    go_end0
    exact ⟨rfl, S1.out, B1.out⟩
  by_cases h1 : kind = 1
  · subst h1
    clear h0
    go_enter Try.func18, Try.ntmps18
    go_wp2_with fail
    refine (wtext_any base G s bs bad _ HS.out hG hs (by omega)).mono ?_
    rintro e w1 ⟨rfl, hs1, hb⟩
    have S1 := hide hs1; have B1 := hide (HB.out.trans hb); clear hs1 hb HS
    go_wp2_with fail
    go_end0
    exact ⟨rfl, S1.out, B1.out⟩
  by_cases h2 : kind = 2
  · subst h2
    clear h0 h1
    by_cases hn : n = 1
    · subst hn
      go_enter Try.func18, Try.ntmps18
      go_wp2_with fail
      refine (wbool_any base G true bs bad _ HS.out hG (by omega)).mono ?_
      rintro e w1 ⟨rfl, hs1, hb⟩
      have S1 := hide hs1; have B1 := hide (HB.out.trans hb); clear hs1 hb HS
      go_wp2_with fail
      go_end0
      exact ⟨rfl, S1.out, B1.out⟩
    · have hnb : (n == 1) = false := by simpa using hn
      have HE : Hid (Wire.putB ⟨2, n, s, l⟩ = [0]) := hide (by unfold Wire.putB; simp [hn])
      clear hn
      go_enter Try.func18, Try.ntmps18
      go_wp2_with fail
      refine (wbool_any base G false bs bad _ HS.out hG (by omega)).mono ?_
      rintro e w1 ⟨rfl, hs1, hb⟩
      have S1 := hide hs1; have B1 := hide (HB.out.trans hb); clear hs1 hb HS
      go_wp2_with fail
      go_end0
      exact ⟨rfl, by rw [HE.out]; exact S1.out, B1.out⟩
  by_cases h3 : kind = 3
  · subst h3
    clear h0 h1 h2
    go_enter Try.func18, Try.ntmps18
    go_wp2_with fail
    refine (wcount_any base G n bs bad _ HS.out hG ⟨n1, n2⟩ (by omega)).mono ?_
    rintro e w1 ⟨rfl, hs1, hb⟩
    have S1 := hide hs1; have B1 := hide (HB.out.trans hb); clear hs1 hb HS
    go_wp2_with fail
    go_end0
    exact ⟨rfl, S1.out, B1.out⟩
  by_cases h4 : kind = 4
  · subst h4
    clear h0 h1 h2 h3
    go_enter Try.func18, Try.ntmps18
    go_wp2_with fail
    refine (wtexts_any base G A l.length c l bs bad _ HS.out hG HL.out HLS.out hll (by omega)).mono ?_
    rintro e w1 ⟨rfl, hs1, hb⟩
    have S1 := hide hs1; have B1 := hide (HB.out.trans hb); clear hs1 hb HS
    go_wp2_with fail
    go_end0
    exact ⟨rfl, S1.out, B1.out⟩
  · have HE : Hid (Wire.putB ⟨kind, n, s, l⟩ = [] ∧ Wire.putBad ⟨kind, n, s, l⟩ bad = bad) := hide (by unfold Wire.putB Wire.putBad; simp [h0, h1, h2, h3, h4])
    have b0 : (kind == 0) = false := by simpa using h0
    have b1 : (kind == 1) = false := by simpa using h1
    have b2 : (kind == 2) = false := by simpa using h2
    have b3 : (kind == 3) = false := by simpa using h3
    have b4 : (kind == 4) = false := by simpa using h4
    clear h0 h1 h2 h3 h4
    go_enter Try.func18, Try.ntmps18
    go_wp2_with fail
    go_end0
    exact ⟨rfl, by rw [HE.out.1, HE.out.2, List.append_nil]; exact HS.out, HB.out⟩
end Go.Proofs.Ytnlfnjadadfhkaa
