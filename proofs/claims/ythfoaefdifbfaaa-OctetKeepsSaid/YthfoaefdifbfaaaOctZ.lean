/-
  The walk of OctetKeeps. (Written by oct_z.py.)
-/
import Derived.Test.YthfoaefdifbfaaaOctG
import Derived.Test.YthfoaefdifbfaaaApart
namespace Go.Proofs.Ythfoaefdifbfaaa
open Go.RowKit

theorem heap_lt {w : World} {g : Nat} {o : Obj} (h : w.heap[g]? = some o) : g < w.heap.size := (Array.getElem?_eq_some_iff.1 h).1

theorem Lst.In.alloc {w : World} {r : Lst} {x : Int} (h : r.In w 0 x) (o : Obj) (y : Int) : r.In (w.alloc o) 0 y := by
  rcases h with h | ⟨g, cur, h1, h2, h3, _⟩
  · exact .inl h
  · exact .inr ⟨g, cur, h1, by rw [heap_alloc_old w o (heap_lt h2)]; exact h2, h3, fun t ht => absurd ht (by omega)⟩

set_option maxHeartbeats 1000000 in
theorem keeps_walk (A : Option Addr) (n c : Nat) (bs : List UInt8) (w : World) (hb : SlB w w.heap.size A n bs) (hn : n ≤ 140737488351232) :
    Calls Try.prog 14 #[.slice A n c] w fun e w' => e = .returned (.bool true) ∧ Below w.heap.size w w' := by
  have HX := hide hb
  have HL := hide hb.len
  clear hb
  go_enter Try.func14, Try.ntmps14
  go_wp2_with fail
  refine (room_any A n c bs _ HX.out (by omega)).mono ?_
  rintro e w1 ⟨rfl, hb, hg⟩
  have G := hide hg
  have B1 := hide hb
  replace HX := hide (HX.out.on hb)
  have RS : Hid (SlB w1 w1.heap.size (some ⟨w.heap.size, 0, none⟩) n bs) := hide (SlB.of_block (rest := [.int .u8 77, .int .u8 77, .int .u8 77]) hg (heap_lt hg) HL.out)
  clear hb hg
  go_wp2_with fail
  refine (hex_any (some ⟨w.heap.size, 0, none⟩) n (n + 3) bs _ RS.out (by omega)).mono ?_
  rintro e w2 ⟨rfl, hb⟩
  have Y2 := hide hb.size
  replace HX := hide (HX.out.on hb)
  replace RS := hide (RS.out.on hb)
  replace G := hide ((hb.block _ (heap_lt G.out)).trans G.out)
  have B2 := hide (B1.out.trans (hb.mono B1.out.size))
  clear hb
  go_wp2_with fail
  refine (web_any (some ⟨w.heap.size, 0, none⟩) n (n + 3) bs _ RS.out (by omega)).mono ?_
  rintro e w3 ⟨rfl, hb⟩
  have Y3 := hide hb.size
  replace HX := hide (HX.out.on hb)
  replace RS := hide (RS.out.on hb)
  replace G := hide ((hb.block _ (heap_lt G.out)).trans G.out)
  have B3 := hide (B2.out.trans (hb.mono B2.out.size))
  clear hb
  go_wp2_with fail
  refine (basic_any (some ⟨w.heap.size, 0, none⟩) n (n + 3) bs _ RS.out (by omega)).mono ?_
  rintro e w4 ⟨rfl, hb⟩
  have Y4 := hide hb.size
  replace HX := hide (HX.out.on hb)
  replace RS := hide (RS.out.on hb)
  replace G := hide ((hb.block _ (heap_lt G.out)).trans G.out)
  have B4 := hide (B3.out.trans (hb.mono B3.out.size))
  clear hb
  have GL := hide (heap_lt G.out)
  go_wp2_with fail
  refine (unhex_any _ _ (by rw [strB_size, Oct.hexL_length]; have := HL.out; omega) (by rw [strB_size, Oct.hexL_length]; have := HL.out; omega)).mono ?_
  rintro e w5 ⟨A_O1, m_O1, c_O1, rfl, ho, hb⟩
  rw [strB_data, Oct.unhex_hex] at ho ⊢
  rw [errI_some]
  have LO1 := hide ho.row_lt
  have ZO1 := hide hb.size
  replace HX := hide (HX.out.on hb)
  replace RS := hide (RS.out.on hb)
  replace G := hide ((hb.block _ (heap_lt G.out)).trans G.out)
  have B5 := hide (B4.out.trans (hb.mono B4.out.size))
  clear hb
  have O1 := hide ho; clear ho
  go_wp2_with fail
  refine (unweb_any _ _ (by rw [strB_size, Oct.webL_length]; have := HL.out; omega)).mono ?_
  rintro e w6 ⟨A_O2, m_O2, c_O2, rfl, ho, hb⟩
  rw [strB_data, Oct.unweb_web Oct.webS_ok] at ho ⊢
  rw [errI_some]
  have LO2 := hide ho.row_lt
  have ZO2 := hide hb.size
  replace HX := hide (HX.out.on hb)
  replace RS := hide (RS.out.on hb)
  replace O1 := hide (O1.out.below hb)
  replace G := hide ((hb.block _ (heap_lt G.out)).trans G.out)
  have B6 := hide (B5.out.trans (hb.mono B5.out.size))
  clear hb
  have O2 := hide ho; clear ho
  go_wp2_with fail
  refine (unbasic_any _ _ (by rw [strB_size, Oct.basicL_length]; have := HL.out; omega)).mono ?_
  rintro e w7 ⟨A_O3, m_O3, c_O3, rfl, ho, hb⟩
  rw [strB_data, Oct.unbasic_basic] at ho ⊢
  rw [errI_some]
  have LO3 := hide ho.row_lt
  have ZO3 := hide hb.size
  replace HX := hide (HX.out.on hb)
  replace RS := hide (RS.out.on hb)
  replace O1 := hide (O1.out.below hb)
  replace O2 := hide (O2.out.below hb)
  replace G := hide ((hb.block _ (heap_lt G.out)).trans G.out)
  have B7 := hide (B6.out.trans (hb.mono B6.out.size))
  clear hb
  have O3 := hide ho; clear ho
  go_wp2_with fail
  refine (unbasic_any _ _ (by rw [strB_size, Oct.basicL_length]; have := HL.out; omega)).mono ?_
  rintro e w8 ⟨A_O4, m_O4, c_O4, rfl, ho, hb⟩
  rw [strB_data, Oct.unbasic_basic] at ho ⊢
  rw [errI_some]
  have LO4 := hide ho.row_lt
  have ZO4 := hide hb.size
  replace HX := hide (HX.out.on hb)
  replace RS := hide (RS.out.on hb)
  replace O1 := hide (O1.out.below hb)
  replace O2 := hide (O2.out.below hb)
  replace O3 := hide (O3.out.below hb)
  replace G := hide ((hb.block _ (heap_lt G.out)).trans G.out)
  have B8 := hide (B7.out.trans (hb.mono B7.out.size))
  clear hb
  have O4 := hide ho; clear ho
  go_wp2_with fail
  refine (known_any _).mono ?_
  rintro e w9 ⟨rfl, hb⟩
  have Y9 := hide hb.size
  replace HX := hide (HX.out.on hb)
  replace RS := hide (RS.out.on hb)
  replace O1 := hide (O1.out.below hb)
  replace O2 := hide (O2.out.below hb)
  replace O3 := hide (O3.out.below hb)
  replace O4 := hide (O4.out.below hb)
  replace G := hide ((hb.block _ (heap_lt G.out)).trans G.out)
  have B9 := hide (B8.out.trans (hb.mono B8.out.size))
  clear hb
  go_wp2_with fail
  refine (osame_any (some ⟨w.heap.size, 0, none⟩) A n n (n + 3) c bs bs _ RS.out HX.out (by omega) (by omega)).mono ?_
  rintro e w10 ⟨rfl, hb⟩
  have Y10 := hide hb.size
  replace HX := hide (HX.out.on hb)
  replace RS := hide (RS.out.on hb)
  replace O1 := hide (O1.out.below hb)
  replace O2 := hide (O2.out.below hb)
  replace O3 := hide (O3.out.below hb)
  replace O4 := hide (O4.out.below hb)
  replace G := hide ((hb.block _ (heap_lt G.out)).trans G.out)
  have B10 := hide (B9.out.trans (hb.mono B9.out.size))
  clear hb
  rw [decide_eq_true (rfl : bs = bs)]
  go_wp2_with fail
  refine (kept_any _ A n c bs _ G.out HX.out (by omega)).mono ?_
  rintro e w11 ⟨rfl, hb⟩
  have Y11 := hide hb.size
  replace HX := hide (HX.out.on hb)
  replace RS := hide (RS.out.on hb)
  replace O1 := hide (O1.out.below hb)
  replace O2 := hide (O2.out.below hb)
  replace O3 := hide (O3.out.below hb)
  replace O4 := hide (O4.out.below hb)
  replace G := hide ((hb.block _ (heap_lt G.out)).trans G.out)
  have B11 := hide (B10.out.trans (hb.mono B10.out.size))
  clear hb
  go_wp2_with fail
  obtain ⟨r1, v1, i1, d1, s1⟩ := Lst.of_own O1.out
  obtain ⟨r2, v2, i2, d2, s2⟩ := Lst.of_own O2.out
  obtain ⟨r3, v3, i3, d3, s3⟩ := Lst.of_own O3.out
  obtain ⟨r4, v4, i4, d4, s4⟩ := Lst.of_own O4.out
  have n1 : ∀ g, r1.g = some g → w4.heap.size ≤ g ∧ g < w5.heap.size := fun g h => ⟨(d1 g h).1, LO1.out g (d1 g h).2⟩
  have n2 : ∀ g, r2.g = some g → w5.heap.size ≤ g ∧ g < w6.heap.size := fun g h => ⟨(d2 g h).1, LO2.out g (d2 g h).2⟩
  have n3 : ∀ g, r3.g = some g → w6.heap.size ≤ g ∧ g < w7.heap.size := fun g h => ⟨(d3 g h).1, LO3.out g (d3 g h).2⟩
  have n4 : ∀ g, r4.g = some g → w7.heap.size ≤ g ∧ g < w8.heap.size ∧ g < w11.heap.size := fun g h => ⟨(d4 g h).1, LO4.out g (d4 g h).2, O4.out.row_lt g (d4 g h).2⟩
  have q1 := GL.out
  have q2 := ZO1.out; have q3 := ZO2.out; have q4 := ZO3.out; have q6 := ZO4.out; have q7 := Y9.out; have q8 := Y10.out; have q9 := Y11.out
  have q5 := (heap_lt G.out)
  have key : ∀ (i : Nat) (r : Lst) (g : Nat), ([r1, r2, r3, r4, (⟨some w.heap.size, n, n + 3⟩ : Lst)] : List Lst)[i]? = some r → r.g = some g → (i = 0 ∧ w4.heap.size ≤ g ∧ g < w5.heap.size) ∨ (i = 1 ∧ w5.heap.size ≤ g ∧ g < w6.heap.size) ∨ (i = 2 ∧ w6.heap.size ≤ g ∧ g < w7.heap.size) ∨ (i = 3 ∧ w7.heap.size ≤ g ∧ g < w8.heap.size) ∨ (i = 4 ∧ w.heap.size = g) := by
    intro i r g hi hg
    match i, hi with
    | 0, hi => injection hi with hi; subst hi; exact .inl ⟨rfl, n1 g hg⟩
    | 1, hi => injection hi with hi; subst hi; exact .inr (.inl ⟨rfl, n2 g hg⟩)
    | 2, hi => injection hi with hi; subst hi; exact .inr (.inr (.inl ⟨rfl, n3 g hg⟩))
    | 3, hi => injection hi with hi; subst hi; exact .inr (.inr (.inr (.inl ⟨rfl, (n4 g hg).1, (n4 g hg).2.1⟩)))
    | 4, hi => injection hi with hi; subst hi; injection hg with hg; exact .inr (.inr (.inr (.inr ⟨rfl, hg⟩)))
    | i + 5, hi => simp at hi
  have hS : Hid (Sep [r1, r2, r3, r4, (⟨some w.heap.size, n, n + 3⟩ : Lst)] w11.heap.size) := by
    refine ⟨fun i j r s g hi hj hr hs => ?_, fun i r hi hr => ?_⟩
    · rcases key i r g hi hr with h | h | h | h | h <;> rcases key j s g hj hs with h' | h' | h' | h' | h' <;> omega
    · rcases key i r _ hi hr with h | h | h | h | h <;> omega
  have hBb : Hid (∀ (i : Nat) (r : Lst) (g : Nat), ([r1, r2, r3, r4, (⟨some w.heap.size, n, n + 3⟩ : Lst)] : List Lst)[i]? = some r → r.g = some g → w.heap.size ≤ g) := by
    intro i r g hi hr
    rcases key i r _ hi hr with h | h | h | h | h <;> omega
  have hcc : Hid (∀ (i : Nat) (r : Lst), ([r1, r2, r3, r4, (⟨some w.heap.size, n, n + 3⟩ : Lst)] : List Lst)[i]? = some r → r.c ≤ 9223372036854775807) := by
    intro i r hi
    match i, hi with
    | 0, hi => injection hi with hi; subst hi; exact s1
    | 1, hi => injection hi with hi; subst hi; exact s2
    | 2, hi => injection hi with hi; subst hi; exact s3
    | 3, hi => injection hi with hi; subst hi; exact s4
    | 4, hi => injection hi with hi; subst hi; show n + 3 ≤ _; omega
    | i + 5, hi => simp at hi
  have i5 : (⟨some w.heap.size, n, n + 3⟩ : Lst).In w11 0 0 := .inr ⟨w.heap.size, _, rfl, G.out, by have := HL.out; simp [roomCells]; omega, fun t ht => absurd ht (by omega)⟩
  have hFF : ∀ o, Hid (Filled (w11.alloc o) [r1, r2, r3, r4, (⟨some w.heap.size, n, n + 3⟩ : Lst)] 0 0) := by
    intro o i r hi
    have e0 : (if i < 0 then r.c else if i = 0 then 0 else 0) = 0 := by simp
    rw [e0]
    match i, hi with
    | 0, hi => injection hi with hi; subst hi; exact i1.alloc _ _
    | 1, hi => injection hi with hi; subst hi; exact i2.alloc _ _
    | 2, hi => injection hi with hi; subst hi; exact i3.alloc _ _
    | 3, hi => injection hi with hi; subst hi; exact i4.alloc _ _
    | 4, hi => injection hi with hi; subst hi; exact i5.alloc _ _
    | i + 5, hi => simp at hi
  have hLs : Hid ((w11.alloc (.cells #[.slice A_O1 m_O1 c_O1, .slice A_O2 m_O2 c_O2, .slice A_O3 m_O3 c_O3, .slice A_O4 m_O4 c_O4, .slice (some ⟨w.heap.size, 0, none⟩) n (n + 3)] 22)).heap[w11.heap.size]? = some (.cells ([r1, r2, r3, r4, (⟨some w.heap.size, n, n + 3⟩ : Lst)].map Lst.val).toArray 22 (0, 0))) := by
    simp only [List.map_cons, List.map_nil, v1, v2, v3, v4]
    exact heap_alloc_new w11 _
  have HFF := hFF; clear hFF
  clear key n1 n2 n3 n4 i1 i2 i3 i4 i5 v1 v2 v3 v4 d1 d2 d3 d4 s1 s2 s3 s4 q1 q2 q3 q4 q5 q6 q7 q8 q9
  refine (apart_any [r1, r2, r3, r4, (⟨some w.heap.size, n, n + 3⟩ : Lst)] w11.heap.size 5 5 w.heap.size _ hLs.out rfl (by omega) (HFF _).out hS.out hBb.out hcc.out).mono ?_
  rintro e w12 ⟨rfl, hb⟩
  have B12 := hide ((B11.out.alloc B11.out.size _).trans hb); clear hb
  go_wp2_with fail
  go_ret
  exact ⟨ret_bool (by simp), B12.out⟩
end Go.Proofs.Ythfoaefdifbfaaa
