/-
  Ring: New, walked.
-/
import Derived.Test.YtokdliapkolngaaDoorRingIb
import Derived.Deep.RegionHeld3
import Derived.Test.YtokdliapkolngaaDoorLast
import Derived.Deep.DeepMust
import Derived.Laws.IdiomStrings
namespace Go.Proofs.YtokdliapkolngaaDoor
open Go.RowKit Go.Sort Go.Shelf
set_option linter.unusedVariables false

/-- an element of several cells is set down behind the others, at a step of a region that draws its order -/
theorem step_appR {P : Program} {w : World} {sz base e n c : Nat} {A : Option Addr} {xs : List Value} {ops : Array Oper} {o : Oper} {a : Act} {K : Act → World → Prop} {Q : Exit → Act → World → Prop} {E : Prop} (hgd : o.guard = none) (s x : Operand) (t : TypeId)
    (ho : o.op = .call { callee := .builtin .append, args := #[s, x], argTypes := #[t, t] })
    (z : Value) (bytes : Nat) (ht : P.underlying t = some (.slice e)) (hi : (P.info? e).map (fun i => (i.zero, i.size, i.bytes)) = some (some z, sz, bytes)) (hz1 : z.cells.size = sz) (hsz : 0 < sz)
    (news : List Value) (hs : a.eval s = .slice A n c) (hown : OwnS sz w base e A n c xs) {ad : Addr} {c' : Nat} (hx : a.eval x = .slice (some ad) 1 c') (hl : news.length = sz) (hnews : ∀ j u, news[j]? = some u → w.cell? (ad.add j) = some u) (h1 : ∀ u ∈ news, u.oneCell' = true)
    (h63 : n + 1 ≤ maxLen) (hbytes : (n + 1) * bytes ≤ 140737488355328) (hbase : base ≤ w.heap.size)
    (h : ∀ A2 c2 w', OwnS sz w' base e A2 (n + 1) c2 (xs ++ news) → w.grownBy w' (Value.slice A n c).ownBlock →
      ((Value.slice A2 (n + 1) c2).ownBlock = (Value.slice A n c).ownBlock ∨ (Value.slice A2 (n + 1) c2).ownBlock = some w.heap.size) → K (a.put o.dst (.slice A2 (n + 1) c2)) w') :
    if Region.wanted o (yielded ops a.tmps) = true then Oper.wp P o a w K Q else E := by
  rw [if_pos (by simp [Region.wanted, hgd])]
  exact wp_appS (P := P) s x t ho z bytes ht hi hz1 hsz hs hown hx (by rw [Nat.one_mul]; exact hl) hnews h1 h63 hbytes hbase h
/-- what New gives -/
def GivesN (points : Int) (names : List ByteArray) (w : World) (e : Ending) (w' : World) : Prop :=
  ((GoodR points names ∧ ∃ (n g : Nat) (pts : List (PtN n)), names.length = n + 1 ∧ e = .returned (.tuple #[.pointer (some ⟨g, 0, none⟩), .int .i64 0]) ∧ RingSt w' w.heap.size g names points.toNat pts ∧ StandR names points.toNat pts) ∨
    (¬ GoodR points names ∧ e = .returned (.tuple #[.pointer none, .int .i64 1]))) ∧ Below w.heap.size w w'
theorem idx_first {x : ByteArray} : ∀ (zs : List ByteArray) (k i : Nat), zs[k]? = some x → (x ∈ zs.take k → Lib.idxFromS zs x i ≠ ((i + k : Nat) : Int)) ∧ (x ∉ zs.take k → Lib.idxFromS zs x i = ((i + k : Nat) : Int))
  | [], _, _, h => by simp at h
  | z :: zs, 0, i, h => by
    have : z = x := by simpa using h
    refine ⟨fun h => by simp at h, fun _ => by simp [Lib.idxFromS, this]⟩
  | z :: zs, k + 1, i, h => by
    have ih := idx_first zs k (i + 1) (by simpa using h)
    by_cases hz : z = x
    · refine ⟨fun _ => ?_, fun h => by simp [hz] at h⟩
      simp [Lib.idxFromS, hz]; omega
    · have e : Lib.idxFromS (z :: zs) x i = Lib.idxFromS zs x (i + 1) := by simp [Lib.idxFromS, hz]
      rw [e, List.take_succ_cons, List.mem_cons]
      rw [show i + 1 + k = i + (k + 1) by omega] at ih
      exact ⟨fun h => ih.1 (h.resolve_left (fun h => hz h.symm)), fun h => ih.2 (fun h' => h (.inr h'))⟩
theorem digB_le {k : Nat} (hk : k < 100) : (digB k).size ≤ 2 := by
  show (Lib.decDigits k).toArray.size ≤ 2
  by_cases h : k < 10
  · rw [Lib.decDigits_one h]; simp
  · rw [Lib.decDigits_two h hk]; simp
theorem add_sum (a b : ByteArray) (h : a.size + b.size ≤ 9223372036854775807) (w : World) : (Op.stringOp .add a b).run Tryd.prog w = .ok (.string (a ++ b)) w := by
  have : ¬ ((9223372036854775807 : Int) < (a.size : Int) + (b.size : Int)) := by omega
  simp [Op.stringOp, this]
theorem cells_nr (w : World) (t : TypeId) (xs : List Value) : ∀ j u, xs[j]? = some u → (w.alloc (.cells xs.toArray t)).cell? ((⟨w.heap.size, 0, none⟩ : Addr).add j) = some u := fun j u hu => by
  have h2 : (⟨w.heap.size, 0, none⟩ : Addr).add j = ⟨w.heap.size, j, none⟩ := by
    unfold Addr.add; split <;> simp_all
  rw [h2]
  exact (RowV.new w t xs).cell hu
set_option maxHeartbeats 8000000 in
set_option maxRecDepth 100000 in
theorem newr_any (points : Int) (A : Option Addr) (nn c : Nat) (names : List ByteArray) (w : World) (hsl : Sl w w.heap.size A nn (names.map Value.string)) (hnn : nn ≤ 9223372036854775807) :
    Calls Tryd.prog 8 #[.int .i64 points, .slice A nn c] w (GivesN points names w) := by
  have hl : names.length = nn := by simpa using hsl.1
  have HSL := hide hsl
  have HLN := hide hl
  clear hsl hl
  by_cases hg : 1 ≤ points ∧ points ≤ 64 ∧ 1 ≤ nn ∧ nn ≤ 8
  · obtain ⟨hp1, hp2, hn1, hn2⟩ := hg
    obtain ⟨each, rfl⟩ : ∃ each : Nat, points = (each : Int) := ⟨points.toNat, by omega⟩
    obtain ⟨n, hn⟩ : ∃ n, nn = n + 1 := ⟨nn - 1, by omega⟩
    have HNE := hide hn
    clear hn
    have g1 : ¬ ((each : Int) < 1) := by omega
    have g2 : ¬ (64 < (each : Int)) := by omega
    have g3 : ¬ ((nn : Int) < 1) := by omega
    have g4 : ¬ (8 < (nn : Int)) := by omega
    have KC : Hid (∀ X : World, Below w.heap.size w X → Calls Tryd.prog 23 #[.slice A nn c] X fun e w' => ∃ A' c', e = .returned (.slice A' nn c') ∧ Own w' X.heap.size 9 A' nn c' (names.map Value.string) ∧ Below X.heap.size X w') := hide (fun X hb => cloneS_any A nn c names X ((HSL.out.below hb (Nat.le_refl _)).more hb.size) (by omega) (by omega))
    go_enter Tryd.func8, Tryd.ntmps8
    go_upto_region 1 with (fail)
    have BX := RowV.new w 22 [.slice A nn c]
    obtain ⟨X, hX⟩ : ∃ X, X = w.alloc (.cells #[.slice A nn c] 22) := ⟨_, rfl⟩
    have hXs : w.heap.size < X.heap.size := by rw [hX, World.size_alloc]; omega
    obtain ⟨bn, hbn⟩ : ∃ bn, bn = w.heap.size := ⟨_, rfl⟩
    have HBX : Hid (RowV X bn 22 [.slice A nn c]) := hide (by rw [hX, hbn]; exact BX)
    have HB1 : Hid (Below w.heap.size w X) := hide (by rw [hX]; exact (Below.refl _ _).alloc (Nat.le_refl _) _)
    have HBN := hide hbn
    rw [← hX, ← hbn]
    clear hX hbn BX
    have q0 := HBX.out.cell (k := 0) rfl
    have HXS : Hid (bn < X.heap.size) := hide (by have := HBN.out; omega)
    clear hXs
    go_wp2_with fail
    refine (KC.out X HB1.out).mono ?_
    rintro e w1 ⟨An, cn, rfl, ho, hb⟩
    have HO1 := hide ho; have HB2 := hide hb
    clear ho hb q0 KC
    go_upto_region 4 with (fail)
    obtain ⟨g, hg⟩ : ∃ g, g = w1.heap.size := ⟨_, rfl⟩
    refine wp_world (fun Y => Hid (NewW (n := n) w Y bn g A nn c An cn none 0 0 names each [])) (hide ?_) ?_
    · rw [hg]
      have hB : Below w1.heap.size w1 (w1.alloc (.cells #[.slice An nn cn, .int .i64 each, .slice none 0 0] 53)) := (Below.refl _ _).alloc (Nat.le_refl _) _
      exact ⟨(HBX.out.below' HB2.out).alloc _, RowV.new w1 _ [.slice An nn cn, .int .i64 each, .slice none 0 0], OwnS.below (OwnS.of_own (OwnS.base_ (OwnS.of_own HO1.out) (by have := HXS.out; omega))) hB, OwnS.nil_, rfl, by have := HXS.out; have := HB2.out.size; omega, fun k hk => ⟨by have := HO1.out.row_lt k hk; omega, fun h => by cases h⟩, fun k hk => (by cases hk), (HB1.out.trans (HB2.out.mono HB1.out.size)).trans (hB.mono (by have := HB1.out.size; have := HB2.out.size; omega)), by rw [HBN.out]; exact Nat.le_refl _⟩
    rw [← hg]
    clear HO1 HB2 HBX HB1 hg HXS
    rintro Y W0
    have q0 := W0.out.box.cell (k := 0) rfl
    go_wp2_with fail
    go_loopw [33] (fun v33 wq => ∃ (i : Nat) (pts : List (PtN n)) (Ap : Option Addr) (np cp : Nat), i ≤ nn ∧ v33 = .int .i64 i ∧ np ≤ 64 * i ∧ Hid (NewW w wq bn g A nn c An cn Ap np cp names each pts) ∧ Hid (pts = rawR n each (names.take i)) ∧ Hid ((∀ s ∈ names.take i, 1 ≤ s.size ∧ s.size ≤ 64) ∧ (names.take i).Nodup)) (fun v _ => nn - (intOf v).toNat)
    case atStart => exact ⟨0, [], none, 0, 0, by omega, rfl, by omega, W0, hide rfl, hide ⟨fun s hs => (by simp at hs), by simp⟩⟩
    case round => as_aux_lemma =>
      clear W0 q0
      obtain ⟨i, pts, Ap, np, cp, hi, rfl, hnp, W1, HP, HG⟩ := hrel
      by_cases hlt : i < nn
      · obtain ⟨b, off, u, rfl, hb, hu, cs⟩ := HSL.out.at_ hlt
        obtain ⟨s, hs⟩ : ∃ s, names[i]? = some s := ⟨_, List.getElem?_eq_getElem (by have := HLN.out; omega)⟩
        rw [List.getElem?_map, hs] at hu
        injection hu with hu; subst hu
        have c1 : wr.cell? ⟨b, off + i, none⟩ = some (.string s) := (W1.out.b.cell (p := ⟨b, off + i, none⟩) hb).trans cs
        have q0 := W1.out.box.cell (k := 0) rfl
        have HS := hide hs
        have HTK := hide (take_snoc hs)
        have KI := hide (indexS_any (some ⟨b, off, none⟩) nn c names s wr w.heap.size (HSL.out.below W1.out.b (Nat.le_refl _)) (by omega) (by omega))
        have HIX := hide (idx_first names i 0 hs)
        have HMEM : Hid (s ∈ names) := hide (List.mem_of_getElem? hs)
        obtain ⟨ix, hix⟩ : ∃ ix, ix = Lib.idxOfS names s := ⟨_, rfl⟩
        rw [← hix] at KI
        have HIV : Hid (ix = Lib.idxFromS names s 0) := hide hix
        have hi1 : (i : Int) < (nn : Int) := by omega
        have hi0 : (0 : Int) ≤ (i : Int) := by omega
        clear hs cs hix
        by_cases hz1 : s.size < 1
        · have y1 : (s.size : Int) < 1 := by omega
          have HBAD : Hid (¬ GoodR (each : Int) names) := hide (fun h => by have := (h.2.2.2.2.1 s HMEM.out).1; omega)
          have HB9 := hide W1.out.b
          clear W1 KI
          go_wp2_with fail
          go_ret2
          exact ⟨.inr ⟨HBAD.out, rfl⟩, HB9.out⟩
        · have y1 : ¬ ((s.size : Int) < 1) := by omega
          by_cases hz2 : 64 < s.size
          · have y2 : (64 : Int) < (s.size : Int) := by omega
            have HBAD : Hid (¬ GoodR (each : Int) names) := hide (fun h => by have := (h.2.2.2.2.1 s HMEM.out).2; omega)
            have HB9 := hide W1.out.b
            clear W1 KI
            go_wp2_with fail
            go_ret2
            exact ⟨.inr ⟨HBAD.out, rfl⟩, HB9.out⟩
          · have y2 : ¬ ((64 : Int) < (s.size : Int)) := by omega
            by_cases hz3 : s ∈ names.take i
            · have hne := HIX.out.1 hz3
              rw [Nat.zero_add, ← HIV.out] at hne
              have y3 : (ix != (i : Int)) = true := by simpa using hne
              have HBAD : Hid (¬ GoodR (each : Int) names) := hide (fun h => by
                have hnd := h.2.2.2.2.2
                have h1 : (names.take (i + 1)).Nodup := hnd.sublist (List.take_sublist _ _)
                rw [HTK.out, List.nodup_append] at h1
                exact h1.2.2 s hz3 s (by simp) rfl)
              have HB9 := hide W1.out.b
              clear W1 hne
              go_wp2_with fail
              refine KI.out.mono ?_
              rintro e w3 ⟨rfl, rfl⟩
              go_wp2_with fail
              go_ret2
              exact ⟨.inr ⟨HBAD.out, rfl⟩, HB9.out⟩
            · have hne := HIX.out.2 hz3
              rw [Nat.zero_add, ← HIV.out] at hne
              have y3 : (ix != (i : Int)) = false := by rw [hne]; simp
              have HG2 : Hid ((∀ s' ∈ names.take (i + 1), 1 ≤ s'.size ∧ s'.size ≤ 64) ∧ (names.take (i + 1)).Nodup) := hide (by
                rw [HTK.out]
                refine ⟨fun s' hs' => ?_, List.nodup_append.2 ⟨HG.out.2, by simp, fun a ha b hb => by simp at hb; subst hb; exact fun e => hz3 (e ▸ ha)⟩⟩
                rcases List.mem_append.1 hs' with h | h
                · exact HG.out.1 s' h
                · simp at h; subst h; omega)
              have HZ : Hid (1 ≤ s.size ∧ s.size ≤ 64) := hide (by omega)
              clear HG HIX hz3
              have HNE2 := hide hne
              go_wp2_with fail
              refine KI.out.mono ?_
              rintro e w3 ⟨rfl, rfl⟩
              clear KI
              go_wp2_with fail
              clear q0 c1
              go_loopw [54] (fun v54 wq => ∃ (k : Nat) (pts2 : List (PtN n)) (Ap2 : Option Addr) (np2 cp2 : Nat), k ≤ each ∧ v54 = .int .i64 k ∧ np2 ≤ 64 * i + k ∧ Hid (NewW w wq bn g (some ⟨b, off, none⟩) nn c An cn Ap2 np2 cp2 names each pts2) ∧ Hid (pts2 = rawR n each (names.take i) ++ (List.range k).map (mkPt n i s))) (fun v _ => each - (intOf v).toNat)
              case atStart => exact ⟨0, pts, Ap, np, cp, by omega, rfl, by omega, W1, hide (by rw [HP.out]; simp)⟩
              case round => as_aux_lemma =>
                clear W1
                obtain ⟨k, pts2, Ap2, np2, cp2, hk, rfl, hnp2, W2, HP2⟩ := hrel
                by_cases hkl : k < each
                · have kr := W2.out.row.cell (k := 2) rfl
                  have KIT := hide (itoa_any k (by omega))
                  have hdl := digB_le (k := k) (by omega)
                  have hps : (s ++ (⟨#[35]⟩ : ByteArray) ++ digB k).size ≤ 70 := by
                    rw [ByteArray.size_append, ByteArray.size_append]
                    have : (⟨#[35]⟩ : ByteArray).size = 1 := rfl
                    have := HZ.out; omega
                  have KPL := hide (fun X : World => place_any (s ++ (⟨#[35]⟩ : ByteArray) ++ digB k) X (by omega))
                  have hk1 : (k : Int) < (each : Int) := by omega
                  have hk0 : (0 : Int) ≤ (k : Int) := by omega
                  obtain ⟨D, hD⟩ : ∃ D, D = digB k := ⟨_, rfl⟩
                  have HD := hide hD
                  rw [← hD] at KIT KPL hdl hps
                  clear hD
                  obtain ⟨pv, hpv⟩ : ∃ pv : Nat, pv = placeN (s ++ (⟨#[35]⟩ : ByteArray) ++ D) := ⟨_, rfl⟩
                  rw [← hpv] at KPL
                  have HPV := hide hpv
                  obtain ⟨S1, hS1⟩ : ∃ S1, S1 = s ++ (⟨#[35]⟩ : ByteArray) := ⟨_, rfl⟩
                  have hs1 : S1.size ≤ 65 := by
                    rw [hS1, ByteArray.size_append]
                    have : (⟨#[35]⟩ : ByteArray).size = 1 := rfl
                    have := HZ.out; omega
                  have a63 := add_sum s ⟨#[35]⟩ (by have : (⟨#[35]⟩ : ByteArray).size = 1 := rfl
                                                    have := HZ.out; omega)
                  rw [← hS1] at hps KPL hpv a63
                  have a66 := add_sum S1 D (by omega)
                  obtain ⟨T, hT⟩ : ∃ T, T = S1 ++ D := ⟨_, rfl⟩
                  rw [← hT] at hps KPL hpv a66
                  have HPV := hide hpv
                  have HT : Hid (T = s ++ (⟨#[35]⟩ : ByteArray) ++ digB k) := hide (by rw [hT, hS1, HD.out])
                  clear hT hS1 hs1 hpv hdl hps
                  have HEN : Hid (encP (mkPt n i s k) = [.int .u64 (pv : Int), .int .i64 (i : Int)]) := hide (by
                    show [Value.int .u64 ((placeN (ptName s k) : Nat) : Int), Value.int .i64 ((min i n : Nat) : Int)] = _
                    rw [HPV.out, HT.out, Nat.min_eq_left (by have := HNE.out; omega)]; rfl)
                  have HONE : Hid (∀ u ∈ [Value.int .u64 pv, .int .i64 i], u.oneCell' = true) := hide (by simp [Value.oneCell'])
                  have hq1 : np2 + 1 ≤ maxLen := by unfold maxLen; omega
                  have hq2 : (np2 + 1) * 16 ≤ 140737488355328 := by omega
                  have HNG : Hid (¬ ((Value.slice Ap2 np2 cp2).ownBlock = some g)) := hide (fun hh => W2.out.d2 g hh rfl)
                  have HGL : Hid (g < wr.heap.size) := hide W2.out.row.lt
                  have kf : wr.frozen? ⟨g, 2, none⟩ = false := W2.out.row.free 2
                  have HNa : Hid (∀ w6 : World, ∀ j u, [Value.int .u64 pv, .int .i64 i][j]? = some u → (w6.alloc (.cells #[.int .u64 pv, .int .i64 i] 39)).cell? ((⟨w6.heap.size, 0, none⟩ : Addr).add j) = some u) := hide (fun w6 => cells_nr w6 39 [.int .u64 pv, .int .i64 i])
                  have KQ : Hid (∀ w6 : World, Below wr.heap.size wr w6 → Hid (RowV w6 g 53 [.slice An nn cn, .int .i64 each, .slice Ap2 np2 cp2]) ∧ Hid (RowV (w6.alloc (.cells #[.int .u64 pv, .int .i64 i] 39)) g 53 [.slice An nn cn, .int .i64 each, .slice Ap2 np2 cp2]) ∧ Hid (OwnS 2 (w6.alloc (.cells #[.int .u64 pv, .int .i64 i] 39)) (bn + 1) 39 Ap2 np2 cp2 (pts2.flatMap encP)) ∧ Hid (bn + 1 ≤ (w6.alloc (.cells #[.int .u64 pv, .int .i64 i] 39)).heap.size)) := hide (fun w6 hb6 => by
                    refine ⟨hide (W2.out.row.below' hb6), hide ((W2.out.row.below' hb6).alloc _), hide ((W2.out.op.below hb6).below ((Below.refl _ _).alloc (Nat.le_refl _) _)), hide ?_⟩
                    have := W2.out.gg; have := HGL.out; have := hb6.size; rw [World.size_alloc]; omega)
                  go_upto_region 12 with (fail)
                  have hS0 : wr.drew.cell? ⟨g, 2, none⟩ = some (.slice Ap2 np2 cp2) := kr
                  refine wp_region_last 17 (fun W => W.cell? ⟨g, 2, none⟩ = some (.slice Ap2 np2 cp2)) (by kernel_rfl) (by kernel_rfl) ?_
                  simp only [List.take_succ_cons, List.take_zero]
                  refine take_last 0 (v := ?_) rfl (by kernel_rfl) (by kernel_rfl) (by kernel_rfl) (fun _ _ _ h => h) (Or.inl ⟨by rfl, ?_⟩) (by assumption) ?_
                  rotate_left
                  · (intro w hSw; (try dsimp only at hSw); go_simp; (try with_reducible rfl))
                  try simp only [Act.put, List.setIfInBounds_toArray, List.set_cons_zero, List.set_cons_succ]
                  refine take_last 1 (v := ?_) rfl (by kernel_rfl) (by kernel_rfl) (by kernel_rfl) (fun _ _ _ h => h) (Or.inl ⟨by rfl, ?_⟩) (by assumption) ?_
                  rotate_left
                  · (intro w hSw; (try dsimp only at hSw); go_simp; (try with_reducible rfl))
                  try simp only [Act.put, List.setIfInBounds_toArray, List.set_cons_zero, List.set_cons_succ]
                  refine take_last 2 (v := ?_) rfl (by kernel_rfl) (by kernel_rfl) (by kernel_rfl) (fun _ _ _ h => h) (Or.inl ⟨by rfl, ?_⟩) (by assumption) ?_
                  rotate_left
                  · (intro w hSw; (try dsimp only at hSw); go_simp; (try with_reducible rfl))
                  try simp only [Act.put, List.setIfInBounds_toArray, List.set_cons_zero, List.set_cons_succ]
                  refine take_last 3 (v := ?_) rfl (by kernel_rfl) (by kernel_rfl) (by kernel_rfl) (fun _ _ _ h => h) (Or.inl ⟨by rfl, ?_⟩) (by assumption) ?_
                  rotate_left
                  · (intro w hSw; (try dsimp only at hSw); go_simp; (try with_reducible rfl))
                  try simp only [Act.put, List.setIfInBounds_toArray, List.set_cons_zero, List.set_cons_succ]
                  refine take_last 4 (v := ?_) rfl (by kernel_rfl) (by kernel_rfl) (by kernel_rfl) (fun _ _ _ h => h) (Or.inl ⟨by rfl, ?_⟩) (by assumption) ?_
                  rotate_left
                  · (intro w hSw; (try dsimp only at hSw); go_simp; (try with_reducible rfl))
                  try simp only [Act.put, List.setIfInBounds_toArray, List.set_cons_zero, List.set_cons_succ]
                  refine take_last 5 (v := ?_) rfl (by kernel_rfl) (by kernel_rfl) (by kernel_rfl) (fun _ _ _ h => h) (Or.inl ⟨by rfl, ?_⟩) (by assumption) ?_
                  rotate_left
                  · (intro w hSw; (try dsimp only at hSw); go_simp; (try with_reducible rfl))
                  try simp only [Act.put, List.setIfInBounds_toArray, List.set_cons_zero, List.set_cons_succ]
                  refine take_last 6 (v := ?_) rfl (by kernel_rfl) (by kernel_rfl) (by kernel_rfl) (fun _ _ _ h => h) (Or.inl ⟨by rfl, ?_⟩) (by assumption) ?_
                  rotate_left
                  · (intro w hSw; (try dsimp only at hSw); go_simp; (try with_reducible rfl))
                  try simp only [Act.put, List.setIfInBounds_toArray, List.set_cons_zero, List.set_cons_succ]
                  refine take_last 7 (v := ?_) rfl (by kernel_rfl) (by kernel_rfl) (by kernel_rfl) (fun _ _ _ h => h) (Or.inl ⟨by rfl, ?_⟩) (by assumption) ?_
                  rotate_left
                  · (intro w hSw; (try dsimp only at hSw); go_simp; (try with_reducible rfl))
                  try simp only [Act.put, List.setIfInBounds_toArray, List.set_cons_zero, List.set_cons_succ]
                  refine take_last 11 (v := ?_) rfl (by kernel_rfl) (by kernel_rfl) (by kernel_rfl) (fun _ _ _ h => h) (Or.inl ⟨by rfl, ?_⟩) (by assumption) ?_
                  rotate_left
                  · (intro w hSw; (try dsimp only at hSw); go_simp; (try with_reducible rfl))
                  try simp only [Act.put, List.setIfInBounds_toArray, List.set_cons_zero, List.set_cons_succ]
                  refine wpAnyH_ready (rs := [8]) (by kernel_rfl) (by simp) ?_
                  refine cons_last rfl (fun K hK => ?_) AllReadyH.nil
                  go_simp
                  go_at_call 26
                  with_reducible refine (KIT.out _).mono ?_
                  rintro e5 w5 ⟨rfl, rfl⟩
                  go_wp2_with fail
                  refine hK.out _ _ ?_ (fun hHeld => ?_)
                  · exact hS0
                  clear hK K
                  try simp only [Act.put, List.setIfInBounds_toArray, List.set_cons_zero, List.set_cons_succ]
                  refine take_last 9 (v := ?_) rfl (by kernel_rfl) (by kernel_rfl) (by kernel_rfl) (fun _ _ _ h => h) (Or.inl ⟨by rfl, ?_⟩) (by assumption) ?_
                  rotate_left
                  · (intro w hSw; (try dsimp only at hSw); go_simp; (try with_reducible rfl))
                  try simp only [Act.put, List.setIfInBounds_toArray, List.set_cons_zero, List.set_cons_succ]
                  refine wpAnyH_ready (rs := [10]) (by kernel_rfl) (by simp) ?_
                  refine cons_last rfl (fun K hK => ?_) AllReadyH.nil
                  go_simp
                  go_at_call 25
                  with_reducible refine (KPL.out _).mono ?_
                  rintro e6 w6 ⟨rfl, hb6⟩
                  have HB6 := hide hb6
                  obtain ⟨KS, KA, HOa, HqB⟩ := KQ.out w6 ⟨hb6.os, hb6.tape, hb6.output, hb6.size, hb6.block⟩
                  clear hb6
                  have kc6 := KS.out.cell (k := 2) rfl
                  have kca := KA.out.cell (k := 2) rfl
                  go_wp2_with fail
                  refine hK.out _ _ ?_ (fun hHeld => ?_)
                  · exact kc6
                  clear hK K
                  try simp only [Act.put, List.setIfInBounds_toArray, List.set_cons_zero, List.set_cons_succ]
                  refine take_last 12 (v := ?_) rfl (by kernel_rfl) (by kernel_rfl) (by kernel_rfl) (fun _ _ _ h => h) (Or.inl ⟨by rfl, ?_⟩) (by assumption) ?_
                  rotate_left
                  · (intro w hSw; (try dsimp only at hSw); go_simp; (try with_reducible rfl))
                  try simp only [Act.put, List.setIfInBounds_toArray, List.set_cons_zero, List.set_cons_succ]
                  refine wpAnyH_ready (rs := [13]) (by kernel_rfl) (by simp) ?_
                  refine cons_last rfl (fun K hK => ?_) AllReadyH.nil
                  go_simp
                  refine hK.out _ _ ?_ (fun hHeld => ?_)
                  · exact kca
                  clear hK K
                  try simp only [Act.put, List.setIfInBounds_toArray, List.set_cons_zero, List.set_cons_succ]
                  refine wpAnyH_ready (rs := [14]) (by kernel_rfl) (by simp) ?_
                  refine cons_last rfl (fun K hK => ?_) AllReadyH.nil
                  refine step_appR (c' := 1) ?_ (.tmp 61) (.tmp 70) 36 ?_ (.agg #[.int .u64 0, .int .i64 0]) 16 Tryd.underlying36 info_pt ?_ (by omega) [.int .u64 pv, .int .i64 i] ?_ HOa.out ?_ ?_ (HNa.out w6) HONE.out hq1 hq2 HqB.out ?_
                  · rfl
                  · rfl
                  · rfl
                  · rfl
                  · rfl
                  · rfl
                  intro A9 c9 w9 ho hg hat
                  have K9 := hide ((But.of_rowG (S := fun j => (Value.slice Ap2 np2 cp2).ownBlock = some j) hg (fun k hk => hk)).row KA.out HNG.out)
                  have kc9 := K9.out.cell (k := 2) rfl
                  have kf9 := K9.out.free 2
                  refine hK.out _ _ ?_ (fun hHeld => ?_)
                  · exact kc9
                  clear hK K
                  try simp only [Act.put, List.setIfInBounds_toArray, List.set_cons_zero, List.set_cons_succ]
                  refine take_last 15 (v := ?_) rfl (by kernel_rfl) (by kernel_rfl) (by kernel_rfl) (fun _ _ _ h => h) (Or.inl ⟨by rfl, ?_⟩) (by assumption) ?_
                  rotate_left
                  · (intro w hSw; (try dsimp only at hSw); go_simp; (try with_reducible rfl))
                  try simp only [Act.put, List.setIfInBounds_toArray, List.set_cons_zero, List.set_cons_succ]
                  refine take_last 16 (v := ?_) rfl (by kernel_rfl) (by kernel_rfl) (by kernel_rfl) (fun _ _ _ h => h) (Or.inl ⟨by rfl, ?_⟩) (by assumption) ?_
                  rotate_left
                  · (intro w hSw; (try dsimp only at hSw); go_simp; (try with_reducible rfl))
                  try simp only [Act.put, List.setIfInBounds_toArray, List.set_cons_zero, List.set_cons_succ]
                  refine wpAnyH_done (by kernel_rfl) ?_ _
                  refine done_last ?_
                  refine step_last rfl (fun K hK => ?_)
                  go_simp
                  refine hK _ _ ?_
                  clear hK K
                  all_goals
                    have HA := hide (W2.out.app (w3 := w6) ⟨HB6.out.os, HB6.out.tape, HB6.out.output, HB6.out.size, HB6.out.block⟩ (mkPt n i s k) (by rw [HEN.out]; exact ho) hg (by rcases hat with h | h; exact .inl h; exact .inr (by rw [h, World.size_alloc]))).1
                    clear KIT KPL HNa KQ KS KA HOa HqB ho hg hat K9 kc9 kf9 kc6 kca kr kf a63 a66 HB6 W2
                    go_wp2_with fail
                    go_roundw
                    case rel => exact ⟨k + 1, pts2 ++ [mkPt n i s k], A9, np2 + 1, c9, by omega, by go_num, by omega, HA, hide (by rw [HP2.out, List.range_succ, List.map_append, List.append_assoc]; rfl)⟩
                    case measure => simp [intOf]; omega
                · obtain rfl : k = each := by omega
                  have hk1 : ¬ ((k : Int) < (k : Int)) := by omega
                  have HR := hide (rawR_snoc n k (names.take i) s)
                  go_wp2_with fail
                  go_roundw
                  case rel => exact ⟨i + 1, pts2, Ap2, np2, cp2, by omega, by go_num, by omega, W2, hide (by rw [HP2.out, HTK.out, HR.out, List.length_take, Nat.min_eq_left (by have := HLN.out; omega)]), HG2⟩
                  case measure => simp [intOf]; omega
      · have hi1 : ¬ ((i : Int) < (nn : Int)) := by omega
        obtain rfl : i = nn := by omega
        have HNZ : 0 < names.length := by have := HLN.out; omega
        have HTA : Hid (names.take i = names) := hide (by rw [← HLN.out]; exact List.take_length)
        have hlp : pts.length = i * each := by rw [HP.out, HTA.out, rawR_len, HLN.out]
        have hpp : 0 < pts.length := by rw [hlp]; exact Nat.mul_pos (by omega) (by omega)
        have hnp2 : pts.length = np := W1.out.len
        obtain ⟨b, off, u0, hA, hb, _, _⟩ := HSL.out.at_ (k := 0) (by omega)
        subst hA
        have HNM : Hid (NamesIn wr bn b off c names) := hide ⟨by rw [HLN.out]; exact W1.out.box.cell (k := 0) rfl, fun k s hs => by
          obtain ⟨b', off', u, h1, h2, h3, h4⟩ := HSL.out.at_ (k := k) (by have := (List.getElem?_eq_some_iff.1 hs).1; have := HLN.out; omega)
          injection h1 with h1; injection h1 with e1 e2 _
          subst e1; subst e2
          rw [List.getElem?_map, hs] at h3
          injection h3 with h3; subst h3
          exact (W1.out.b.cell (p := ⟨b, off + k, none⟩) h2).trans h4, W1.out.box.lt, Nat.lt_of_lt_of_le hb W1.out.b.size⟩
        have kr := W1.out.row.cell (k := 2) rfl
        obtain ⟨blk, hAp, hob, _, _⟩ := W1.out.op.spot (by omega)
        subst hAp
        have HOB := hide hob
        have hbb : bn + 1 ≤ blk := W1.out.op.row_ge blk hob
        have HBB := hide hbb
        have op2 : OwnS 2 wr (bn + 1) 39 (some ⟨blk, 0, none⟩) pts.length cp (pts.flatMap encP) := by rw [hnp2]; exact W1.out.op
        have HOP := hide op2
        have KSO := sortStable_any (cmpN names) (swoN names) 28 (.pointer (some ⟨bn, 0, none⟩)) (fun _ _ => rfl) blk 0 cp pts.toArray wr ⟨fun _ => rfl, encP_one, holdsP op2 hpp, W1.out.op.row_lt blk hob⟩ (cmpP_of names (by have := HNE.out; have := HLN.out; omega) bn b off c blk 0 _ pts.toArray wr HNM.out (by have := HNE.out; omega) (by omega) (by have := HBN.out; omega)) (by
          rw [List.size_toArray, hlp]
          have : i * each ≤ 8 * 64 := Nat.mul_le_mul (by omega) (by omega)
          omega) (by rw [List.size_toArray]; exact hpp)
        rw [List.size_toArray, hnp2] at KSO
        have KS := hide KSO
        have HPR : Hid (pts = rawR n each names) := hide (by rw [HP.out, HTA.out])
        have HGD : Hid (GoodR (each : Int) names) := hide ⟨by omega, by omega, by omega, by have := HLN.out; omega, by have := HG.out.1; rw [HTA.out] at this; exact this, by have := HG.out.2; rw [HTA.out] at this; exact this⟩
        have HNP := hide hnp2
        clear KSO op2 hob hlp hpp hnp2 hbb HP HG
        go_wp2_with fail
        refine KS.out.mono ?_
        rintro e w3 ⟨rfl, d', hp, hsd, hS⟩
        have HST := hide (standP HPR.out (by rw [List.size_toArray, HNP.out]; exact hp) (by rw [List.size_toArray, HNP.out]; exact hsd))
        have HSP := hide (sortedP HST.out.1 HOP.out hS)
        clear hp hsd hS KS kr
        go_wp2_with fail
        go_ret2
        refine ⟨.inl ⟨HGD.out, n, g, d'.toList, by have := HNE.out; have := HLN.out; omega, rfl, ?_, HST.out.2⟩, ?_⟩
        · have hbut := HSP.out.2
          have hd := W1.out
          have hng : g ≠ blk := fun h => hd.d2 blk HOB.out h.symm
          refine ⟨⟨An, cn, some ⟨blk, 0, none⟩, cp, ?_, ?_, ?_⟩, ?_⟩
          · rw [HLN.out, HST.out.1, HNP.out]
            exact hbut.row hd.row hng
          · rw [HLN.out]
            exact OwnS.base_ (OwnS.but_row (OwnS.of_own hd.on) hbut (fun k hk hh => (hd.d1 k hk).2 (by rw [hh]; exact HOB.out))) (by have := hd.hbn; omega)
          · exact OwnS.base_ HSP.out.1 (by have := hd.hbn; omega)
          · have := hd.hbn; have := hd.gg; omega
        · exact W1.out.b.trans (HSP.out.2.below (fun k hk => by have hk : k = blk := hk; have := HBB.out; have := W1.out.hbn; omega) W1.out.b.size)
  · have HBAD : Hid (¬ GoodR points names) := hide (fun h => hg ⟨h.1, h.2.1, by have := h.2.2.1; have := HLN.out; omega, by have := h.2.2.2.1; have := HLN.out; omega⟩)
    go_enter Tryd.func8, Tryd.ntmps8
    by_cases h1 : points < 1
    · go_wp2_with fail
      go_ret2
      exact ⟨.inr ⟨HBAD.out, rfl⟩, (Below.refl _ _).alloc (Nat.le_refl _) _⟩
    · by_cases h2 : 64 < points
      · go_wp2_with fail
        go_ret2
        exact ⟨.inr ⟨HBAD.out, rfl⟩, (Below.refl _ _).alloc (Nat.le_refl _) _⟩
      · by_cases h3 : (nn : Int) < 1
        · go_wp2_with fail
          go_ret2
          exact ⟨.inr ⟨HBAD.out, rfl⟩, (Below.refl _ _).alloc (Nat.le_refl _) _⟩
        · have h4 : (8 : Int) < (nn : Int) := by omega
          go_wp2_with fail
          go_ret2
          exact ⟨.inr ⟨HBAD.out, rfl⟩, (Below.refl _ _).alloc (Nat.le_refl _) _⟩
end Go.Proofs.YtokdliapkolngaaDoor
