/-
  Ring: the points' order; New's closure, walked.
-/
import Derived.Test.YtokdliapkolngaaDoorRingE
import Derived.Test.YtokdliapkolngaaDoorRow
import Derived.Shelf.Small.Strs
import Derived.Shelf.Strconv.Itoa3
import Derived.Shelf.Lay
import Derived.Ground.NamesProg
namespace Go.Proofs.YtokdliapkolngaaDoor
open Go.RowKit Go.Sort Go.Shelf
set_option linter.unusedVariables false

def Tryd.strCmp_ren : Go.Shelf.Ren := ⟨fun | 106 => 30 | 213 => 41 | 265 => 52 | n => n, fun | 9 => 9 | 3 => 3 | n => n, fun | n => n⟩
theorem Tryd.strCmp : Go.Proofs.Lays.n106 Tryd.prog Tryd.strCmp_ren := {
  mixed := by kernel_rfl
  f106 := Tryd.func30.trans (congrArg some (by kernel_rfl))
  f213 := Tryd.func41.trans (congrArg some (by kernel_rfl))
  f265 := Tryd.func52.trans (congrArg some (by kernel_rfl))
  t3 := Tryd.underlying3
  a3 := Tryd.isAgg3
  z3 := Tryd.sizeOf3
  v3 := Tryd.zeroValue3
  t9 := Tryd.underlying9
  a9 := Tryd.isAgg9
  z9 := Tryd.sizeOf9
  v9 := Tryd.zeroValue9 }

theorem isNaN_any (x : Int) (w : World) : Calls Tryd.prog 40 #[.int .u64 x] w fun e w' => e = .returned (.bool false) ∧ w = w' := by
  have hx : (x != x) = false := by simp
  go_enter Tryd.func40, Tryd.ntmps40
  go_wp2_with fail
  go_ret
  exact ⟨rfl, rfl⟩
set_option maxHeartbeats 1000000 in
theorem compareU_any (x y : Int) (w : World) : Calls Tryd.prog 29 #[.int .u64 x, .int .u64 y] w fun e w' => e = .returned (.int .i64 (Lib.compareInt x y)) ∧ w' = w := by
  have HR : Hid ((x < y → Lib.compareInt x y = -1) ∧ (y < x → Lib.compareInt x y = 1) ∧ (x = y → Lib.compareInt x y = 0)) := hide (by
    unfold Lib.compareInt
    refine ⟨fun h => ?_, fun h => ?_, fun h => ?_⟩
    all_goals repeat' split
    all_goals first | rfl | omega)
  have K1 := hide (isNaN_any x)
  have K2 := hide (isNaN_any y)
  rcases (by omega : x < y ∨ (¬ x < y ∧ y < x) ∨ (¬ x < y ∧ ¬ y < x)) with h | ⟨h, h2⟩ | ⟨h, h2⟩
  all_goals
    go_enter Tryd.func29, Tryd.ntmps29
    go_wp2_with fail
    refine (K1.out _).mono ?_
    rintro e w1 ⟨rfl, rfl⟩
    go_wp2_with fail
    refine (K2.out _).mono ?_
    rintro e w2 ⟨rfl, rfl⟩
    go_wp2_with fail
    go_ret
  · exact ⟨by rw [HR.out.1 h]; rfl, rfl⟩
  · exact ⟨by rw [HR.out.2.1 h2]; rfl, rfl⟩
  · exact ⟨by rw [HR.out.2.2 (by omega)]; rfl, rfl⟩
/-- the names, in their box -/
structure NamesIn (w : World) (bn b o c : Nat) (names : List ByteArray) : Prop where
  box : w.cell? ⟨bn, 0, none⟩ = some (.slice (some ⟨b, o, none⟩) names.length c)
  cell : ∀ k s, names[k]? = some s → w.cell? ⟨b, o + k, none⟩ = some (.string s)
  lt : bn < w.heap.size ∧ b < w.heap.size
/-- the order of points: by place, by name -/
def cmpN (names : List ByteArray) {n : Nat} (x y : PtN n) : Int := if Lib.compareInt x.pl y.pl = 0 then Lib.compareBytes ((names[x.rg]?.getD ByteArray.empty).data.toList) ((names[y.rg]?.getD ByteArray.empty).data.toList) else Lib.compareInt x.pl y.pl
set_option maxHeartbeats 4000000 in
set_option maxRecDepth 100000 in
theorem closureP {n : Nat} (names : List ByteArray) (hnn : names.length = n + 1) (bn b o c : Nat) (x y : PtN n) (W : World) (hN : NamesIn W bn b o c names) (hn : n ≤ 1000) :
    Calls Tryd.prog 28 #[.agg #[.int .u64 x.pl, .int .i64 (x.rg : Int)], .agg #[.int .u64 y.pl, .int .i64 (y.rg : Int)], .pointer (some ⟨bn, 0, none⟩)] W fun e w' => e = .returned (.int .i64 (cmpN names x y)) ∧ ∃ q os', w' = grow (W.drewN q) os' := by
  have KC := hide (compareU_any x.pl y.pl)
  have hcs := fun a b W' => Any.strings_Compare Tryd.strCmp a b W'
  change ∀ a b W', Calls Tryd.prog 30 _ _ _ at hcs
  obtain ⟨sx, hsx⟩ : ∃ s, names[x.rg]? = some s := ⟨_, List.getElem?_eq_getElem (by have := x.hr; omega)⟩
  obtain ⟨sy, hsy⟩ : ∃ s, names[y.rg]? = some s := ⟨_, List.getElem?_eq_getElem (by have := y.hr; omega)⟩
  have KS := hide (hcs sx sy)
  clear hcs
  have ec : cmpN names x y = if Lib.compareInt x.pl y.pl = 0 then Lib.compareBytes sx.data.toList sy.data.toList else Lib.compareInt x.pl y.pl := by
    unfold cmpN; rw [hsx, hsy]; rfl
  rw [ec]
  clear ec
  obtain ⟨r, hr⟩ : ∃ r, r = Lib.compareBytes sx.data.toList sy.data.toList := ⟨_, rfl⟩
  obtain ⟨c0, hc0⟩ : ∃ c0, c0 = Lib.compareInt x.pl y.pl := ⟨_, rfl⟩
  rw [← hr] at KS ⊢
  rw [← hc0] at KC ⊢
  have hnl : ((names.length : Nat) : Int) = (n : Int) + 1 := by omega
  obtain ⟨V, hV⟩ : ∃ V, V = (W.alloc (.cells #[.int .u64 x.pl, .int .i64 (x.rg : Int)] 39)).alloc (.cells #[.int .u64 y.pl, .int .i64 (y.rg : Int)] 39) := ⟨_, rfl⟩
  have BV : Below W.heap.size W V := by rw [hV]; exact ((Below.refl _ _).alloc (Nat.le_refl _) _).alloc (by rw [World.size_alloc]; omega) _
  have k0 : V.cell? ⟨W.heap.size, 0, none⟩ = some (.int .u64 x.pl) := by rw [hV]; exact ((RowV.new W 39 [.int .u64 x.pl, .int .i64 (x.rg : Int)]).alloc _).cell rfl
  have k1 : V.cell? ⟨W.heap.size, 1, none⟩ = some (.int .i64 (x.rg : Int)) := by rw [hV]; exact ((RowV.new W 39 [.int .u64 x.pl, .int .i64 (x.rg : Int)]).alloc _).cell rfl
  have k2 : V.cell? ⟨W.heap.size + 1, 0, none⟩ = some (.int .u64 y.pl) := by rw [hV]; have := (RowV.new (W.alloc (.cells #[.int .u64 x.pl, .int .i64 (x.rg : Int)] 39)) 39 [.int .u64 y.pl, .int .i64 (y.rg : Int)]).cell (k := 0) rfl; rwa [World.size_alloc] at this
  have k3 : V.cell? ⟨W.heap.size + 1, 1, none⟩ = some (.int .i64 (y.rg : Int)) := by rw [hV]; have := (RowV.new (W.alloc (.cells #[.int .u64 x.pl, .int .i64 (x.rg : Int)] 39)) 39 [.int .u64 y.pl, .int .i64 (y.rg : Int)]).cell (k := 1) rfl; rwa [World.size_alloc] at this
  have k4 : V.cell? ⟨bn, 0, none⟩ = some (.slice (some ⟨b, o, none⟩) names.length c) := (BV.cell (p := ⟨bn, 0, none⟩) hN.lt.1).trans hN.box
  have k5 : V.cell? ⟨b, o + x.rg, none⟩ = some (.string sx) := (BV.cell (p := ⟨b, o + x.rg, none⟩) hN.lt.2).trans (hN.cell _ _ hsx)
  have k6 : V.cell? ⟨b, o + y.rg, none⟩ = some (.string sy) := (BV.cell (p := ⟨b, o + y.rg, none⟩) hN.lt.2).trans (hN.cell _ _ hsy)
  have HV : Hid (V = grow W #[.cells #[.int .u64 x.pl, .int .i64 (x.rg : Int)] 39, .cells #[.int .u64 y.pl, .int .i64 (y.rg : Int)] 39]) := hide (by rw [hV, alloc_eq_grow, alloc_eq_grow, grow_grow]; rfl)
  have HVE := hide hV
  have z1 : (0 : Int) ≤ (x.rg : Int) := by omega
  have z2 : (x.rg : Int) < (names.length : Int) := by have := x.hr; omega
  have z3 : (0 : Int) ≤ (y.rg : Int) := by omega
  have z4 : (y.rg : Int) < (names.length : Int) := by have := y.hr; omega
  obtain ⟨xr, hxr⟩ : ∃ xr, xr = x.rg := ⟨_, rfl⟩
  obtain ⟨yr, hyr⟩ : ∃ yr, yr = y.rg := ⟨_, rfl⟩
  obtain ⟨xp, hxp⟩ : ∃ xp, xp = x.pl := ⟨_, rfl⟩
  obtain ⟨yp, hyp⟩ : ∃ yp, yp = y.pl := ⟨_, rfl⟩
  obtain ⟨L, hL⟩ : ∃ L, L = names.length := ⟨_, rfl⟩
  rw [← hxr] at k1 k5 z1 z2 HV HVE ⊢
  rw [← hyr] at k3 k6 z3 z4 HV HVE ⊢
  rw [← hxp] at k0 HV HVE KC ⊢
  rw [← hyp] at k2 HV HVE KC ⊢
  rw [← hL] at k4 z2 z4
  clear hV BV hsx hsy hr hc0 hnl hxr hyr hxp hyp hL hN hnn
  by_cases hc : c0 = 0
  · have hcb : (c0 != 0) = false := by rw [hc]; rfl
    rw [if_pos hc]
    clear hc
    go_enter Tryd.func28, Tryd.ntmps28
    go_upto_region 1 with (fail)
    rw [← HVE.out]
    go_wp2_with fail
    refine (KC.out _).mono ?_
    rintro e w1 ⟨rfl, rfl⟩
    go_wp2_with fail
    go_quiet ((with_reducible exact Calls.quiet_of_same (KS.out _)))
    go_wp2_with fail
    go_ret
    exact ⟨rfl, nq, #[.cells #[.int .u64 xp, .int .i64 (xr : Int)] 39, .cells #[.int .u64 yp, .int .i64 (yr : Int)] 39], by rw [HV.out]; rfl⟩
  · have hcb : (c0 != 0) = true := by simpa using hc
    rw [if_neg hc]
    clear hc
    go_enter Tryd.func28, Tryd.ntmps28
    go_upto_region 1 with (fail)
    rw [← HVE.out]
    go_wp2_with fail
    refine (KC.out _).mono ?_
    rintro e w1 ⟨rfl, rfl⟩
    go_wp2_with fail
    go_ret
    exact ⟨rfl, 0, #[.cells #[.int .u64 xp, .int .i64 (xr : Int)] 39, .cells #[.int .u64 yp, .int .i64 (yr : Int)] 39], by rw [HV.out]; rfl⟩
/-- .. in every world of the sort -/
theorem cmpP_of {n : Nat} (names : List ByteArray) (hnn : names.length = n + 1) (bn b o c blk off size : Nat) (d0 : Array (PtN n)) (w0 : World) (hN : NamesIn w0 bn b o c names) (hn : n ≤ 1000) (h1 : bn ≠ blk) (h2 : b ≠ blk) :
    CmpP 28 (.pointer (some ⟨bn, 0, none⟩)) (cmpN (n := n) names) blk off size w0 := by
  intro m os dk hdk x y
  have hsz := size_sortWorldK_c encP 2 w0 blk off m dk os
  have key : ∀ (p : Addr), p.block < w0.heap.size → p.block ≠ blk → (sortWorldK encP 2 w0 blk off m dk os).cell? p = w0.cell? p := fun p hp hne => by
    unfold sortWorldK
    rw [cell?_grow _ _ _ (by rw [size_putRowK]; exact hp), cell?_putRowK_other _ _ _ _ _ _ _ hne]; rfl
  exact closureP names hnn bn b o c x y _ ⟨(key ⟨bn, 0, none⟩ hN.lt.1 h1).trans hN.box, fun k s hk => (key ⟨b, o + k, none⟩ hN.lt.2 h2).trans (hN.cell k s hk), Nat.lt_of_lt_of_le hN.lt.1 hsz, Nat.lt_of_lt_of_le hN.lt.2 hsz⟩ hn
theorem cb_lt : ∀ a b : List UInt8, (Lib.compareBytes a b < 0 ↔ a < b) ∧ (Lib.compareBytes a b = 0 ↔ a = b)
  | [], [] => by constructor <;> simp [Lib.compareBytes]
  | [], b :: bs => by constructor <;> simp [Lib.compareBytes]
  | a :: l, [] => by constructor <;> simp [Lib.compareBytes]
  | a :: l, b :: bs => by
    have ih := cb_lt l bs
    unfold Lib.compareBytes
    rw [List.cons_lt_cons_iff]
    by_cases h1 : a < b
    · rw [if_pos h1]
      have hne : a ≠ b := fun h => by subst h; exact UInt8.lt_irrefl _ h1
      constructor <;> simp [h1, hne]
    · rw [if_neg h1]
      by_cases h2 : b < a
      · rw [if_pos h2]
        have hne : a ≠ b := fun h => by subst h; exact UInt8.lt_irrefl _ h2
        constructor <;> simp [h1, hne]
      · rw [if_neg h2]
        have he : a = b := UInt8.toNat_inj.1 (by
          have h3 : ¬ a.toNat < b.toNat := fun h => h1 (UInt8.lt_iff_toNat_lt.2 h)
          have h4 : ¬ b.toNat < a.toNat := fun h => h2 (UInt8.lt_iff_toNat_lt.2 h)
          omega)
        subst he
        constructor
        · rw [ih.1]; simp
        · rw [ih.2]; simp
/-- a point's name -/
def nmB (names : List ByteArray) {n : Nat} (x : PtN n) : ByteArray := names[x.rg]?.getD ByteArray.empty
theorem cmpN_lt (names : List ByteArray) {n : Nat} (x y : PtN n) : ltOf (cmpN names) x y = true ↔ x.pl < y.pl ∨ (x.pl = y.pl ∧ (nmB names x).data.toList < (nmB names y).data.toList) := by
  unfold ltOf
  rw [decide_eq_true_iff]
  unfold cmpN
  have hb := cb_lt (nmB names x).data.toList (nmB names y).data.toList
  unfold nmB at hb ⊢
  have h3 : (x.pl < y.pl ∧ Lib.compareInt x.pl y.pl = -1) ∨ (y.pl < x.pl ∧ Lib.compareInt x.pl y.pl = 1) ∨ (x.pl = y.pl ∧ Lib.compareInt x.pl y.pl = 0) := by
    unfold Lib.compareInt
    repeat' split
    all_goals omega
  rcases h3 with ⟨h, e⟩ | ⟨h, e⟩ | ⟨h, e⟩
  · rw [e, if_neg (by omega)]; constructor
    · intro _; exact .inl h
    · intro _; omega
  · rw [e, if_neg (by omega)]; constructor
    · intro h'; omega
    · rintro (h' | ⟨h', _⟩) <;> omega
  · rw [e, if_pos rfl, hb.1]; constructor
    · intro h'; exact .inr ⟨h, h'⟩
    · rintro (h' | ⟨_, h'⟩)
      · omega
      · exact h'
/-- it is an order -/
theorem swoN (names : List ByteArray) {n : Nat} : SWO (ltOf (cmpN (n := n) names)) := by
  have hs := swo_ltStr
  have e : ∀ x y : PtN n, ltOf (cmpN names) x y = true ↔ x.pl < y.pl ∨ (x.pl = y.pl ∧ ltStr (nmB names x).data.toList (nmB names y).data.toList = true) := fun x y => by
    rw [cmpN_lt]; unfold ltStr; simp
  have e' : ∀ x y : PtN n, ltOf (cmpN names) x y = false ↔ ¬ (x.pl < y.pl) ∧ (x.pl = y.pl → ltStr (nmB names x).data.toList (nmB names y).data.toList = false) := fun x y => by
    rw [← Bool.not_eq_true, e]
    constructor
    · intro h
      exact ⟨fun h' => h (.inl h'), fun h' => by
        cases hc : ltStr (nmB names x).data.toList (nmB names y).data.toList with
        | false => rfl
        | true => exact absurd (.inr ⟨h', hc⟩) h⟩
    · rintro ⟨h1, h2⟩ (h | ⟨h, h3⟩)
      · exact h1 h
      · rw [h2 h] at h3; cases h3
  refine ⟨fun x => ?_, fun x y z h1 h2 => ?_, fun x y z h1 h2 => ?_⟩
  · rw [e']; exact ⟨by omega, fun _ => hs.irrefl _⟩
  · rw [e] at *
    rcases h1 with h1 | ⟨h1, h3⟩ <;> rcases h2 with h2 | ⟨h2, h4⟩
    · exact .inl (by omega)
    · exact .inl (by omega)
    · exact .inl (by omega)
    · exact .inr ⟨by omega, hs.trans _ _ _ h3 h4⟩
  · rw [e'] at *
    exact ⟨by omega, fun h => hs.ntrans _ _ _ (h1.2 (by omega)) (h2.2 (by omega))⟩
end Go.Proofs.YtokdliapkolngaaDoor
