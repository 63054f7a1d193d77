/-
  Ring: the known ring; what New gives, in the words of the laws.
-/
import Derived.Test.YtokdliapkolngaaDoorRingW
import Derived.Test.YtokdliapkolngaaDoorRingPb
namespace Go.Proofs.YtokdliapkolngaaDoor
open Go.RowKit Go.Sort Go.Shelf Go.Great
set_option linter.unusedVariables false

/-- a ring that stands in memory -/
structure RingOk {n : Nat} (w : World) (base g : Nat) (names : List ByteArray) (each : Nat) (pts : List (PtN n)) : Prop where
  st : RingSt w base g names each pts
  sd : StandR names each pts
  hn : names.length = n + 1
  gd : GoodR (each : Int) names
section
variable {n : Nat} {w w' : World} {base g each : Nat} {names : List ByteArray} {pts : List (PtN n)}
theorem RingOk.below (h : RingOk w base g names each pts) (hb : Below w.heap.size w w') : RingOk w' base g names each pts := ⟨h.st.below hb, h.sd, h.hn, h.gd⟩
theorem RingOk.far {B : Nat} (h : RingOk w base g names each pts) (hb : But (fun j => B ≤ j) w w') (hB : w.heap.size ≤ B) : RingOk w' base g names each pts := ⟨h.st.but hb (fun k _ hk hh => by have : B ≤ k := hh; omega), h.sd, h.hn, h.gd⟩
theorem RingOk.each_pos (h : RingOk w base g names each pts) : 0 < each := by have := h.gd.1; omega
theorem RingOk.each_le (h : RingOk w base g names each pts) : each ≤ 64 := by have := h.gd.2.1; omega
theorem RingOk.names_le (h : RingOk w base g names each pts) : names.length ≤ 8 := h.gd.2.2.2.1
theorem RingOk.names_pos (h : RingOk w base g names each pts) : 0 < names.length := h.gd.2.2.1
theorem RingOk.nodup (h : RingOk w base g names each pts) : names.Nodup := h.gd.2.2.2.2.2
theorem RingOk.pts_pos (h : RingOk w base g names each pts) : 0 < pts.length := stand_pos h.sd h.hn h.each_pos
theorem RingOk.pts_len (h : RingOk w base g names each pts) : pts.length = names.length * each := stand_len h.sd
theorem RingOk.pts_le (h : RingOk w base g names each pts) : pts.length ≤ 512 := by
  rw [h.pts_len]; exact Nat.mul_le_mul h.names_le h.each_le
theorem RingOk.g_lt (h : RingOk w base g names each pts) : g < w.heap.size := by obtain ⟨_, _, _, _, h1, _⟩ := h.st.ex; exact h1.lt
end
/-- what New gives: a ring that is not there -/
theorem new_bad (points : Int) (A : Option Addr) (nn c : Nat) (names : List ByteArray) (w : World) (h : Sl w w.heap.size A nn (names.map Value.string)) (hn : nn ≤ 9223372036854775807) (hb : ¬ GoodR points names) :
    Calls Tryd.prog 8 #[.int .i64 points, .slice A nn c] w fun e w' => e = .returned (.tuple #[.pointer none, .int .i64 1]) ∧ Below w.heap.size w w' :=
  (newr_any points A nn c names w h hn).mono fun e w' hg => by
    rcases hg.1 with ⟨h1, _⟩ | ⟨_, h2⟩
    · exact absurd h1 hb
    · exact ⟨h2, hg.2⟩
/-- .. one that is -/
def NewOk (each : Nat) (names : List ByteArray) (w : World) (e : Ending) (w' : World) : Prop :=
  (∃ (n g : Nat) (pts : List (PtN n)), e = .returned (.tuple #[.pointer (some ⟨g, 0, none⟩), .int .i64 0]) ∧ RingOk w' w.heap.size g names each pts) ∧ Below w.heap.size w w'
theorem gives_ok {each : Nat} {names : List ByteArray} {w w' : World} {e : Ending} (hg : GivesN (each : Int) names w e w') (hb : GoodR (each : Int) names) : NewOk each names w e w' := by
  refine ⟨?_, hg.2⟩
  rcases hg.1 with ⟨h1, n, g, pts, hn, he, h2, h3⟩ | ⟨h1, _⟩
  · exact ⟨n, g, pts, he, ⟨h2, h3, hn, h1⟩⟩
  · exact absurd hb h1
theorem new_good (each : Nat) (A : Option Addr) (nn c : Nat) (names : List ByteArray) (w : World) (h : Sl w w.heap.size A nn (names.map Value.string)) (hn : nn ≤ 9223372036854775807) (hb : GoodR (each : Int) names) :
    Calls Tryd.prog 8 #[.int .i64 each, .slice A nn c] w (NewOk each names w) :=
  (newr_any (each : Int) A nn c names w h hn).mono fun e w' hg => gives_ok hg hb
/-- the owner of a key -/
def ownR {n : Nat} (pts : List (PtN n)) (s : ByteArray) : Nat := rgAt pts (firstN pts (placeN s : Int))
theorem owner_ok {n : Nat} {base g each : Nat} {names : List ByteArray} {pts : List (PtN n)} (s : ByteArray) (w : World) (h : RingOk w base g names each pts) (hbase : base ≤ w.heap.size) (hs : s.size ≤ 140737488355000) :
    Calls Tryd.prog 12 #[.pointer (some ⟨g, 0, none⟩), .string s] w fun e w' => e = .returned (.int .i64 ((ownR pts s : Nat) : Int)) ∧ Below w.heap.size w w' :=
  owner_any base g each names pts s w h.st hbase h.sd h.pts_pos (by have := h.pts_le; omega) hs
theorem order_ok {n : Nat} {base g each : Nat} {names : List ByteArray} {pts : List (PtN n)} (s : ByteArray) (w : World) (h : RingOk w base g names each pts) (hbase : base ≤ w.heap.size) (hs : s.size ≤ 140737488355000) :
    Calls Tryd.prog 11 #[.pointer (some ⟨g, 0, none⟩), .string s] w fun e w' => ∃ A c, e = .returned (.slice A (ordR pts (placeN s : Int)).length c) ∧
      Own w' w.heap.size 3 A (ordR pts (placeN s : Int)).length c ((ordR pts (placeN s : Int)).map (Value.int .i64)) ∧ Below w.heap.size w w' :=
  order_any base g each names pts s w h.st hbase h.sd h.pts_pos (by have := h.pts_le; omega) hs
theorem names_ok {n : Nat} {base g each : Nat} {names : List ByteArray} {pts : List (PtN n)} (w : World) (h : RingOk w base g names each pts) (hbase : base ≤ w.heap.size) :
    Calls Tryd.prog 13 #[.pointer (some ⟨g, 0, none⟩)] w fun e w' => ∃ A c, e = .returned (.slice A names.length c) ∧ Own w' w.heap.size 9 A names.length c (names.map Value.string) ∧ Below w.heap.size w w' :=
  names_any base g each names pts w h.st hbase h.names_pos (by have := h.names_le; omega)
theorem points_ok {n : Nat} {base g each : Nat} {names : List ByteArray} {pts : List (PtN n)} (w : World) (h : RingOk w base g names each pts) (hbase : base ≤ w.heap.size) :
    Calls Tryd.prog 16 #[.pointer (some ⟨g, 0, none⟩)] w fun e w' => ∃ A c, e = .returned (.slice A pts.length c) ∧ OwnS 2 w' w.heap.size 39 A pts.length c (pts.flatMap encP) ∧ Below w.heap.size w w' :=
  points_any base g each names pts w h.st hbase h.pts_pos (by have := h.pts_le; omega)
def euB : ByteArray := ⟨#[101, 117]⟩
theorem eu_good : GoodR ((2 : Nat) : Int) [euB] := ⟨by decide, by decide, by decide, by decide, by intro s hs; simp at hs; subst hs; decide, by simp⟩
theorem eu_bad : ¬ GoodR ((1 : Nat) : Int) [euB, euB] := fun h => by have := h.2.2.2.2.2; simp at this
set_option maxHeartbeats 8000000 in
set_option maxRecDepth 100000 in
theorem known_any (w : World) : Calls Tryd.prog 9 #[] w fun e w' => e = .returned (.bool true) ∧ Below w.heap.size w w' := by
  have K1 := hide (fun (X : World) => new_good 2 (some ⟨X.heap.size, 0, none⟩) 1 1 [euB] (X.alloc (.cells #[.string euB] 9)) (by exact Sl.more Sl.one (by rw [World.size_alloc]; omega)) (by omega) eu_good)
  have K2 := hide (fun (X : World) => new_bad 1 (some ⟨X.heap.size, 0, none⟩) 2 2 [euB, euB] (X.alloc (.cells #[.string euB, .string euB] 9)) (by
    refine ⟨rfl, fun _ => ⟨X.heap.size, 0, rfl, by rw [World.size_alloc]; omega, fun k u hu => ?_⟩⟩
    rw [Nat.zero_add]
    exact (RowV.new X 9 [.string euB, .string euB]).cell hu) (by omega) eu_bad)
  go_enter Tryd.func9, Tryd.ntmps9
  go_wp2_with fail
  refine (K1.out _).mono ?_
  rintro e w1 ⟨⟨n, g, pts, rfl, hr⟩, hb⟩
  have HR := hide hr
  have HB1 : Hid (Below w.heap.size w w1) := hide (((Below.refl _ _).alloc (Nat.le_refl _) _).trans (hb.mono (by rw [World.size_alloc]; omega)))
  clear hr hb K1
  go_wp2_with fail
  refine (K2.out _).mono ?_
  rintro e w2 ⟨rfl, hb⟩
  have HB2 : Hid (Below w.heap.size w w2) := hide ((HB1.out.alloc HB1.out.size _).trans (hb.mono (by rw [World.size_alloc]; have := HB1.out.size; omega)))
  have HR2 := hide ((HR.out.below ((Below.refl _ _).alloc (Nat.le_refl _) _)).below hb)
  clear hb K2 HB1
  have hn : n = 0 := by have := HR2.out.hn; simpa using this.symm
  have KO := owner_ok ⟨#[97]⟩ w2 HR2.out (by have := HR2.out.g_lt; have := HR2.out.st.ge; omega) (by decide)
  have e0 : ownR pts ⟨#[97]⟩ = 0 := by have := rgAt_le pts (firstN pts (placeN (⟨#[97]⟩ : ByteArray) : Int)); unfold ownR; omega
  rw [e0] at KO
  have HKO := hide KO
  clear KO e0 hn
  go_wp2_with fail
  refine HKO.out.mono ?_
  rintro e w3 ⟨rfl, hb⟩
  have HB3 : Hid (Below w.heap.size w w3) := hide (HB2.out.trans (hb.mono HB2.out.size))
  have HR3 := hide (HR2.out.below hb)
  clear hb HKO HR HR2 HB2
  have HKP := hide (points_ok w3 HR3.out (by have := HR3.out.g_lt; have := HR3.out.st.ge; omega))
  have hpl : pts.length = 2 := HR3.out.pts_len
  rw [hpl] at HKP
  clear hpl
  go_wp2_with fail
  refine HKP.out.mono ?_
  rintro e w4 ⟨A, c, rfl, ho, hb⟩
  have HB4 : Hid (Below w.heap.size w w4) := hide (HB3.out.trans (hb.mono HB3.out.size))
  clear ho hb HKP HB3
  go_wp2_with fail
  go_ret
  exact ⟨rfl, HB4.out⟩
end Go.Proofs.YtokdliapkolngaaDoor
