/-
  Ring: the document's Points, walked.
-/
import Derived.Test.YtokdliapkolngaaDoorRingR
import Derived.Test.YtokdliapkolngaaDoorRingU
import Derived.Test.YtokdliapkolngaaDoorRingV
namespace Go.Proofs.YtokdliapkolngaaDoor
open Go.RowKit Go.Sort Go.Shelf Go.Great
set_option linter.unusedVariables false

theorem digB_small (k : Nat) (hk : k < 6) : strB [UInt8.ofNat (48 + k)] = digB k := by
  rcases (by omega : k = 0 ∨ k = 1 ∨ k = 2 ∨ k = 3 ∨ k = 4 ∨ k = 5) with rfl | rfl | rfl | rfl | rfl | rfl <;> decide +kernel
theorem gt_test (t s : ByteArray) : (s.data.toList < t.data.toList ∧ Op.bytesLess t.toList s.toList = false ∧ (t.toList == s.toList) = false) ∨ (¬ s.data.toList < t.data.toList ∧ (Op.bytesLess t.toList s.toList = true ∨ (t.toList == s.toList) = true)) := by
  rw [bytesLess_eq, ByteArray.toList_eq, ByteArray.toList_eq]
  have irr : ∀ l : List UInt8, ¬ l < l := fun l => List.lt_irrefl l
  have asy : ∀ a b : List UInt8, a < b → ¬ b < a := fun a b h1 h2 => irr a (List.lt_trans h1 h2)
  rcases bytes_tri s.data.toList t.data.toList with h | h | h
  · exact .inl ⟨h, decide_eq_false (asy _ _ h), beq_eq_false_iff_ne.2 (fun e => irr _ (e ▸ h))⟩
  · exact .inr ⟨fun hc => irr _ (h ▸ hc), .inr (by rw [h]; simp)⟩
  · exact .inr ⟨asy _ _ h, .inl (decide_eq_true h)⟩
theorem insRow_mid {α : Type} {L : List α} {a : Nat} {y : α} (h : a ≤ L.length) : (insRow L a y)[a]? = some y := by
  unfold insRow
  rw [List.getElem?_append_right (by simp; omega)]
  simp [Nat.min_eq_left h]
/-- x is set down in its place -/
theorem insFin {n i m g c a base : Nat} {names : List ByteArray} {R : List (PtN n)} {pts : List (PtN n)} {x y : PtN n} {pv : Nat} {W w : World} (hm : m = pts.length) (ha : a ≤ m) (hx : x.pl = (pv : Int) ∧ x.rg = i)
    (hp : pts.Perm R ∧ pts.Pairwise (fun x y => ltOf (cmpN names) y x = false)) (h1 : ∀ v ∈ pts.drop a, ltOf (cmpN names) x v = true) (h2 : a = 0 ∨ ∃ b u, a = b + 1 ∧ pts[b]? = some u ∧ ltOf (cmpN names) x u = false)
    (ho : OwnS 2 W base 39 (some ⟨g, 0, none⟩) (m + 1) c ((insRow pts a y).flatMap encP)) (hb : Below base w W) (hg : base ≤ g) :
    (insRow pts a x).length = m + 1 ∧ ((insRow pts a x).Perm (R ++ [x]) ∧ (insRow pts a x).Pairwise (fun x y => ltOf (cmpN names) y x = false)) ∧
    OwnS 2 ((W.setCell ⟨g, a * 2, none⟩ (.int .u64 (pv : Int))).setCell ⟨g, a * 2 + 1, none⟩ (.int .i64 (i : Int))) base 39 (some ⟨g, 0, none⟩) (m + 1) c ((insRow pts a x).flatMap encP) ∧
    Below base w ((W.setCell ⟨g, a * 2, none⟩ (.int .u64 (pv : Int))).setCell ⟨g, a * 2 + 1, none⟩ (.int .i64 (i : Int))) := by
  have hl : a ≤ pts.length := by omega
  refine ⟨by rw [insRow_len hl, hm], ⟨?_, insRow_sorted (swoN names) x hp.2 h1 h2⟩, ?_, (hb.setCell hg _).setCell hg _⟩
  · exact (insRow_perm x).trans ((List.perm_append_singleton x pts).symm.trans (hp.1.append_right _))
  · have := ho.setP (j := a) (by rw [insRow_len hl]; omega) x
    rw [insRow_set hl, hx.1, hx.2] at this
    exact this
/-- what Points tells -/
def PtsP (n each : Nat) (names : List ByteArray) (w : World) (e : Ending) (w' : World) : Prop :=
  (∃ (pts : List (PtN n)) (A : Option Addr) (c : Nat), e = .returned (.slice A pts.length c) ∧ OwnS 2 w' w.heap.size 39 A pts.length c (pts.flatMap encP) ∧ StandR names each pts) ∧ Below w.heap.size w w'
set_option maxHeartbeats 8000000 in
set_option maxRecDepth 100000 in
theorem rpoints_any {n : Nat} (each : Nat) (A : Option Addr) (nn c : Nat) (names : List ByteArray) (w : World) (h : Sl w w.heap.size A nn (names.map Value.string)) (hn : names.length = n + 1) (he : each ≤ 6) (h8 : nn ≤ 8) (hz : ∀ s ∈ names, s.size ≤ 64) :
    Calls Tryd.prog 20 #[.int .i64 each, .slice A nn c] w (PtsP n each names w) := by
  have HSL := hide h
  have hl : names.length = nn := by have := h.1; simpa using this
  have HLN := hide hl
  have HN := hide hn
  have HZ := hide hz
  clear h hl hn hz
  go_enter Tryd.func20, Tryd.ntmps20
  go_wp2_with fail
  go_loopw [5, 6, 7, 8, 9] (fun v5 v6 v7 v8 v9 wr => ∃ (i : Nat) (pts : List (PtN n)) (Ap : Option Addr) (cp : Nat), i ≤ nn ∧ v6 = .int .i64 i ∧ v5 = .slice Ap pts.length cp ∧ pts.length ≤ 6 * i ∧ Hid (pts.Perm (rawR n each (names.take i)) ∧ pts.Pairwise (fun x y => ltOf (cmpN names) y x = false)) ∧ Hid (OwnS 2 wr w.heap.size 39 Ap pts.length cp (pts.flatMap encP)) ∧ Hid (Below w.heap.size w wr)) (fun _ v _ _ _ _ => nn - (intOf v).toNat)
  case atStart => exact ⟨0, [], none, 0, by omega, rfl, rfl, by simp, hide ⟨by simp [rawR], List.Pairwise.nil⟩, hide OwnS.nil_, hide (Below.refl _ _)⟩
  case round => as_aux_lemma =>
    obtain ⟨i, pts, Ap, cp, hi, rfl, rfl, hpl, HP, HW, HB⟩ := hrel
    by_cases hlt : i < nn
    · obtain ⟨b, off, s, rfl, hbb, c1, HS⟩ := HSL.out.text hlt
      have z1 : (i : Int) < (nn : Int) := by omega
      have z0 : (0 : Int) ≤ (i : Int) := by omega
      have HCN : Hid (∀ (X : World) (j : Nat) (t : ByteArray), Below w.heap.size w X → names[j]? = some t → X.cell? ⟨b, off + j, none⟩ = some (.string t)) := hide (fun X j t hb ht => by
        obtain ⟨b', off', u, hA, hbb', c2, HT⟩ := HSL.out.text (k := j) (by have := (List.getElem?_eq_some_iff.1 ht).1; have := HLN.out; omega)
        injection hA with hA; injection hA with e1 e2 _
        subst e1; subst e2
        have := HT.out.symm.trans ht
        injection this with this; subst this
        exact (hb.cell (p := ⟨b, off + j, none⟩) hbb').trans c2)
      have HTK : Hid (names.take (i + 1) = names.take i ++ [s]) := hide (take_snoc HS.out)
      have HSZ : s.size ≤ 64 := HZ.out s (List.mem_of_getElem? HS.out)
      clear c1
      go_wp2_with fail
      go_loopw [5, 7, 8, 9] (fun v5 v7 v8 v9 wr => ∃ (k : Nat) (pts : List (PtN n)) (Ap : Option Addr) (cp : Nat), k ≤ each ∧ v7 = .int .i64 k ∧ v5 = .slice Ap pts.length cp ∧ pts.length ≤ 6 * i + k ∧ Hid (pts.Perm (rawR n each (names.take i) ++ (List.range k).map (mkPt n i s)) ∧ pts.Pairwise (fun x y => ltOf (cmpN names) y x = false)) ∧ Hid (OwnS 2 wr w.heap.size 39 Ap pts.length cp (pts.flatMap encP)) ∧ Hid (Below w.heap.size w wr)) (fun _ v _ _ _ => each - (intOf v).toNat)
      case atStart => exact ⟨0, pts, Ap, cp, by omega, rfl, rfl, by omega, hide (by simpa using HP.out), HW, HB⟩
      case round => as_aux_lemma =>
        clear HP HW HB hpl
        obtain ⟨k, pts, Ap, cp, hk, rfl, rfl, hpl, HP, HW, HB⟩ := hrel
        by_cases hkl : k < each
        · have y1 : (k : Int) < (each : Int) := by omega
          have y0 : (0 : Int) ≤ (k : Int) := by omega
          have q1 := HCN.out wr i s HB.out HS.out
          have KIT := hide (fun X : World => rdigits_any k (by omega) X)
          obtain ⟨D, hD⟩ : ∃ D, D = strB [UInt8.ofNat (48 + k)] := ⟨_, rfl⟩
          have hdz : D.size = 1 := by rw [hD]; rfl
          have HD : Hid (D = digB k) := hide (by rw [hD, digB_small k (by omega)])
          rw [← hD] at KIT
          have h35 : (⟨#[35]⟩ : ByteArray).size = 1 := rfl
          obtain ⟨S1, hS1⟩ : ∃ S1, S1 = s ++ (⟨#[35]⟩ : ByteArray) := ⟨_, rfl⟩
          have hs1 : S1.size ≤ 65 := by rw [hS1, ByteArray.size_append]; omega
          have a63 := add_sum s ⟨#[35]⟩ (by omega)
          have a66 := add_sum S1 D (by omega)
          rw [← hS1] at a63
          obtain ⟨T, hT⟩ : ∃ T, T = S1 ++ D := ⟨_, rfl⟩
          have hts : T.size ≤ 66 := by rw [hT, ByteArray.size_append]; omega
          rw [← hT] at a66
          have KPL := hide (fun X : World => rplace_any T X (by omega))
          obtain ⟨pv, hpv⟩ : ∃ pv : Nat, pv = placeN T := ⟨_, rfl⟩
          rw [← hpv] at KPL
          obtain ⟨x, hx⟩ : ∃ x : PtN n, x = mkPt n i s k := ⟨_, rfl⟩
          have HX : Hid (x.pl = (pv : Int) ∧ x.rg = i) := hide (by
            rw [hx]
            refine ⟨?_, Nat.min_eq_left (by have := HN.out; have := HLN.out; omega)⟩
            show ((placeN (ptName s k) : Nat) : Int) = _
            rw [hpv, hT, hS1, HD.out]; rfl)
          have HXE := hide hx
          clear hD hS1 hT hpv hx h35 hs1 hts hdz
          have HKB : Hid (∀ X, Below wr.heap.size wr X → X.cell? ⟨b, off + i, none⟩ = some (.string s)) := hide (fun X hb => HCN.out X i s (HB.out.trans (hb.mono HB.out.size)) HS.out)
          go_wp2_with fail
          go_upto_region 8 with (fail)
          go_cut [8] (fun v8 wx => ∃ xb : Nat, v8 = .pointer (some ⟨xb, 0, none⟩) ∧ Hid (wr.heap.size ≤ xb) ∧ Hid (RowV wx xb 39 [.int .u64 pv, .int .i64 i]) ∧ Hid (Below wr.heap.size wr wx))
          case first => as_aux_lemma =>
            have hS0 : wr.drew.cell? ⟨b, off + i, none⟩ = some (.string s) := q1
            go_region_held3 (fun W => W.cell? ⟨b, off + i, none⟩ = some (.string s))
              (first
                | with_reducible assumption
                | exact HKB.out _ KB5.out
                | exact HKB.out _ KB6.out
                | exact HKB.out _ ((Below.refl wr.heap.size wr).alloc (Nat.le_refl _) _).drew
                | exact HKB.out _ (KB5.out.alloc KB5.out.size _)
                | exact HKB.out _ (KB6.out.alloc KB6.out.size _)
                | exact HKB.out _ ((KB6.out.setCell (Nat.le_refl _) _).setCell (Nat.le_refl _) _)
                | exact HKB.out _ ((KB6.out.setCell KB5.out.size _).setCell KB5.out.size _))
              (first
                | (go_at_call 35; with_reducible refine (KIT.out _).mono ?_
                   rintro e5 w5 ⟨rfl, hb5⟩
                   have HB5 := hide hb5
                   have KB5 : Hid (Below wr.heap.size wr w5) := hide (by
                     first
                       | exact (Below.refl _ _).drew.trans hb5
                       | exact ((Below.refl wr.heap.size wr).alloc (Nat.le_refl _) _).drew.trans (hb5.mono (by rw [World.size_drew, World.size_alloc]; omega)))
                   (try (have RX5 : Hid (RowV w5 wr.heap.size 39 [.int .u64 0, .int .i64 0]) := hide ((RowV.new wr _ _).drew.below' HB5.out)))
                   clear hb5)
                | (go_at_call 22; with_reducible refine (KPL.out _).mono ?_
                   rintro e6 w6 ⟨rfl, hb6⟩
                   have HB6 := hide hb6
                   have KB6 : Hid (Below wr.heap.size wr w6) := hide (by
                     first
                       | exact KB5.out.trans (hb6.mono KB5.out.size)
                       | exact (KB5.out.alloc KB5.out.size _).trans (hb6.mono (by rw [World.size_alloc]; have := KB5.out.size; omega)))
                   (first
                     | (have RX6 : Hid (RowV w6 wr.heap.size 39 [.int .u64 0, .int .i64 0]) := hide (RX5.out.below' HB6.out)
                        have k0 := RX6.out.cell (k := 0) rfl
                        have k1 := RX6.out.cell (k := 1) rfl
                        have f0 := RX6.out.free 0
                        have f1 := RX6.out.free 1)
                     | (have RX6 : Hid (RowV w6 w5.heap.size 39 [.int .u64 0, .int .i64 0]) := hide ((RowV.new w5 _ _).below' HB6.out)
                        have k0 := RX6.out.cell (k := 0) rfl
                        have k1 := RX6.out.cell (k := 1) rfl
                        have f0 := RX6.out.free 0
                        have f1 := RX6.out.free 1)
                     | skip)
                   clear hb6))
            all_goals go_wp2_with fail
            all_goals go_meet
            all_goals
              first
                | exact ⟨_, rfl, hide (Nat.le_refl _), hide ((RX6.out.set 0 _).set 1 _), hide ((KB6.out.setCell (Nat.le_refl _) _).setCell (Nat.le_refl _) _)⟩
                | exact ⟨_, rfl, hide KB5.out.size, hide ((RX6.out.set 0 _).set 1 _), hide ((KB6.out.setCell KB5.out.size _).setCell KB5.out.size _)⟩
                | exact ⟨_, rfl, hide KB6.out.size, hide (RowV.new w6 _ _), hide (KB6.out.alloc KB6.out.size _)⟩
          case rest => as_aux_lemma =>
            obtain ⟨xb, rfl, HXB, HXR, HBC⟩ := hcut
            have HB2 : Hid (Below w.heap.size w wc) := hide (HB.out.trans (HBC.out.mono HB.out.size))
            have HW2 : Hid (OwnS 2 wc w.heap.size 39 Ap pts.length cp (pts.flatMap encP)) := hide (HW.out.below HBC.out)
            have HNB : Hid (¬ ((Value.slice Ap pts.length cp).ownBlock = some xb)) := hide (fun hh => by have := HW.out.row_lt xb hh; have := HXB.out; omega)
            have k0 := HXR.out.cell (k := 0) rfl
            have k1 := HXR.out.cell (k := 1) rfl
            have HPC : Hid (pts.length ≤ 60) := hide (by omega)
            have HEN : Hid (encP x = [.int .u64 (pv : Int), .int .i64 (i : Int)]) := hide (by
              show [Value.int .u64 x.pl, Value.int .i64 (x.rg : Int)] = _
              rw [HX.out.1, HX.out.2])
            have HSZ2 : Hid (w.heap.size ≤ wc.heap.size) := hide HB2.out.size
            clear HW HB HBC KIT KPL HKB a63 a66
            obtain ⟨m, hm⟩ : ∃ m, m = pts.length := ⟨_, rfl⟩
            have HM := hide hm
            rw [← hm] at HW2 HNB HPC hpl ⊢
            clear hm
            go_wp2_with (at_builtin; go_must (with_reducible refine wpList_appS1 rfl (.tmp 34) (.tmp 36) 36 rfl (.agg #[.int .u64 0, .int .i64 0]) 16 Tryd.underlying36 info_pt rfl (by omega) [.int .u64 pv, .int .i64 i] 39 rfl HW2.out rfl rfl (by simp [Value.oneCell']) (by have := HPC.out; unfold maxLen; omega) (by have := HPC.out; omega) HSZ2.out ?_))
            intro A7 c7 w7 hown hgr hat
            have HB7 : Hid (Below w.heap.size w w7) := hide (below_of_grown (HB2.out.alloc HB2.out.size _) hgr (by rw [World.size_alloc]; have := HSZ2.out; omega) HW2.out.row_ge)
            have HX7 : Hid (RowV w7 xb 39 [.int .u64 pv, .int .i64 i]) := hide ((But.of_rowG (S := fun j => (Value.slice Ap m cp).ownBlock = some j) hgr (fun k hk => hk)).row (HXR.out.alloc _) HNB.out)
            have HO7 : Hid (OwnS 2 w7 w.heap.size 39 A7 (m + 1) c7 ((insRow pts m x).flatMap encP)) := hide (by
              rw [HM.out, ← insRow_end, List.flatMap_append, ← HM.out]
              rw [List.flatMap_cons, List.flatMap_nil, List.append_nil, HEN.out]
              exact hown)
            have HXA : Hid (∀ g, (Value.slice A7 (m + 1) c7).ownBlock = some g → g ≠ xb) := hide (fun g hg => by
              rcases hat with h | h
              · rw [h] at hg; intro e; subst e; exact HNB.out hg
              · rw [h] at hg; injection hg with hg; have := HXR.out.lt; omega)
            clear hown hgr hat k0 k1 HB2 HW2 HXR
            go_wp2_with fail
            go_loopw [9] (fun v9 wq => ∃ (a : Nat) (y : PtN n), a ≤ m ∧ v9 = .int .i64 a ∧ Hid (∀ v ∈ pts.drop a, ltOf (cmpN names) x v = true) ∧ Hid (OwnS 2 wq w.heap.size 39 A7 (m + 1) c7 ((insRow pts a y).flatMap encP)) ∧ Hid (RowV wq xb 39 [.int .u64 pv, .int .i64 i]) ∧ Hid (Below w.heap.size w wq)) (fun v _ => (intOf v).toNat)
            case atStart => exact ⟨m, x, by omega, rfl, hide (by rw [HM.out]; simp), HO7, HX7, HB7⟩
            case round => as_aux_lemma =>
              clear HO7 HX7 HB7
              obtain ⟨a, y, ha, rfl, HD9, HW, HX9, HB⟩ := hrel
              have k0 := HX9.out.cell (k := 0) rfl
              have k1 := HX9.out.cell (k := 1) rfl
              rcases Nat.eq_zero_or_pos a with rfl | hpos
              · obtain ⟨g, rfl, hgb, hgl, ⟨p0, p1⟩, qf⟩ := HW.out.pt (m := 0) (x := y) (by rw [insRow_len (by omega), ← HM.out]) (insRow_mid (by omega))
                simp only [Nat.zero_mul, Nat.zero_add] at p0 p1
                have f0 := qf 0
                have f1 := qf 1
                have HF : Hid (∀ q, _) := hide (fun q => insFin (x := x) (W := wr.drewN q) HM.out (Nat.zero_le _) HX.out HP.out HD9.out (.inl rfl) (HW.out.below (below_drewN (Below.refl _ _) q)) (below_drewN HB.out q) hgb)
                have hm0 : (0 : Int) < (m : Int) + 1 := by omega
                clear HW HB HX9 qf hgl hgb
                go_upto_region 11 with (fail)
                go_quiet (fail)
                go_wp2_with fail
                go_roundw
                case rel => exact ⟨k + 1, insRow pts 0 x, some ⟨g, 0, none⟩, c7, by omega, by go_num, by rw [(HF.out nq).1], by rw [(HF.out nq).1]; omega, hide ⟨by
                  have := (HF.out nq).2.1.1
                  rw [List.append_assoc, HXE.out] at this
                  rw [List.range_succ, List.map_append, List.map_cons, List.map_nil, HXE.out]
                  exact this, (HF.out nq).2.1.2⟩, hide (by rw [(HF.out nq).1]; exact (HF.out nq).2.2.1), hide (HF.out nq).2.2.2⟩
                case measure => simp [intOf]; omega
              · obtain ⟨b', rfl⟩ : ∃ b', a = b' + 1 := ⟨a - 1, by omega⟩
                obtain ⟨z, hz⟩ : ∃ z, pts[b']? = some z := ⟨_, List.getElem?_eq_getElem (by have := HM.out; omega)⟩
                obtain ⟨g, rfl, hgb, hgl, ⟨q0, q1⟩, qf⟩ := HW.out.pt (m := b') (x := z) (by rw [insRow_len (by have := HM.out; omega), ← HM.out]) (by rw [insRow_at (by have := HM.out; omega)]; exact hz)
                obtain ⟨zz, hzz⟩ : ∃ zz : Int, zz = (b' : Int) + 1 := ⟨_, rfl⟩
                have e1 : ((b' + 1 : Nat) : Int) = zz := by omega
                have hm1 : zz - 1 = (b' : Int) := by omega
                have hwz : IntKind.i64.wrap (zz - 1) = (b' : Int) := by rw [hm1]; exact IntWalk.i64_in _ (by have := HPC.out; omega)
                have hz0 : 0 < zz := by omega
                have hzm : zz ≤ (m : Int) := by omega
                have hb0 : (0 : Int) ≤ (b' : Int) := by omega
                have hbm : (b' : Int) < (m : Int) + 1 := by omega
                have hzm1 : zz < (m : Int) + 1 := by omega
                have HZZ := hide hzz
                rw [e1]
                obtain ⟨tz, htz⟩ : ∃ tz, names[z.rg]? = some tz := ⟨_, List.getElem?_eq_getElem (by have := z.hr; have := HN.out; omega)⟩
                have n1 := HCN.out wr z.rg tz HB.out htz
                have n2 := HCN.out wr i s HB.out HS.out
                have hr0 : (0 : Int) ≤ (z.rg : Int) := by omega
                have hr1 : (z.rg : Int) < (nn : Int) := by have := z.hr; have := HN.out; have := HLN.out; omega
                have hlt9 := cmpN_lt names x z
                have e2 : nmB names x = s := by unfold nmB; rw [HX.out.2, HS.out]; rfl
                have e3 : nmB names z = tz := by unfold nmB; rw [htz]; rfl
                rw [e2, e3, HX.out.1] at hlt9
                obtain ⟨bb, hbb9⟩ : ∃ bb, bb = ltOf (cmpN names) x z := ⟨_, rfl⟩
                rw [← hbb9] at hlt9
                have HBB := hide hbb9
                obtain ⟨zp, hzp⟩ : ∃ zp, zp = z.pl := ⟨_, rfl⟩
                obtain ⟨zr, hzr⟩ : ∃ zr, zr = z.rg := ⟨_, rfl⟩
                rw [← hzp] at q0 hlt9
                rw [← hzr] at q1 n1 hr0 hr1
                have HLT := hide hlt9
                have HZP := hide hzp; have HZR := hide hzr; have HZT := hide hz
                clear hzz e1 hzp hzr htz hz e2 e3 hlt9 hbb9
                go_upto_region 11 with (fail)
                go_cut [77] (fun v77 wx => ∃ q : Nat, v77 = .bool bb ∧ wx = wr.drewN q)
                case first => as_aux_lemma =>
                  by_cases hlt1 : (pv : Int) < zp
                  · have hc1 : decide ((pv : Int) < zp) = true := decide_eq_true hlt1
                    have HT : Hid (bb = true) := hide (HLT.out.2 (.inl hlt1))
                    go_quiet (fail)
                    go_wp2_with fail
                    go_meet
                    exact ⟨_, by rw [HT.out], rfl⟩
                  · have hc1 : decide ((pv : Int) < zp) = false := decide_eq_false hlt1
                    by_cases heq : zp = (pv : Int)
                    · have hc2 : (zp == (pv : Int)) = true := by simp [heq]
                      rcases gt_test tz s with ⟨g1, g2, g3⟩ | ⟨g1, g2 | g2⟩
                      · have HT : Hid (bb = true) := hide (HLT.out.2 (.inr ⟨heq.symm, g1⟩))
                        clear heq g1
                        go_quiet (fail)
                        go_wp2_with fail
                        go_meet
                        exact ⟨_, by rw [HT.out], rfl⟩
                      all_goals
                        have HT : Hid (bb = false) := hide (by
                          cases hb : bb with
                          | false => rfl
                          | true => rcases HLT.out.1 hb with h | h; exact absurd h hlt1; exact absurd h.2 g1)
                        clear heq g1
                        go_quiet (fail)
                        go_wp2_with fail
                        go_meet
                        exact ⟨_, by rw [HT.out], rfl⟩
                    · have hc2 : (zp == (pv : Int)) = false := by simpa using heq
                      have HT : Hid (bb = false) := hide (by
                        cases hb : bb with
                        | false => rfl
                        | true => rcases HLT.out.1 hb with h | h; exact absurd h hlt1; exact absurd h.1.symm heq)
                      clear heq
                      go_quiet (fail)
                      go_wp2_with fail
                      go_meet
                      exact ⟨_, by rw [HT.out], rfl⟩
                case rest => as_aux_lemma =>
                  obtain ⟨q, rfl, rfl⟩ := hcut
                  obtain ⟨AA, hAA⟩ : ∃ AA, AA = b' + 1 := ⟨_, rfl⟩
                  have hzt : zz.toNat = AA := by have := HZZ.out; omega
                  obtain ⟨_, hA, _, _, ⟨p0, p1⟩, _⟩ := HW.out.pt (m := b' + 1) (x := y) (by rw [insRow_len (by have := HM.out; omega), ← HM.out]) (insRow_mid (by have := HM.out; omega))
                  injection hA with hA; injection hA with hA _ _; subst hA
                  rw [← hAA] at p0 p1
                  have f0 := qf (AA * 2)
                  have f1 := qf (AA * 2 + 1)
                  have hne : xb ≠ g := fun e => HXA.out g rfl e.symm
                  have HNE := hide hne
                  have HAA := hide hAA
                  have HQ : Hid (OwnS 2 (wr.drewN q) w.heap.size 39 (some ⟨g, 0, none⟩) (m + 1) c7 ((insRow pts (b' + 1) y).flatMap encP)) := hide (HW.out.below (below_drewN (Below.refl _ _) _))
                  have HBQ : Hid (Below w.heap.size w (wr.drewN q)) := hide (below_drewN HB.out _)
                  have HXQ : Hid (RowV (wr.drewN q) xb 39 [.int .u64 pv, .int .i64 i]) := hide (HX9.out.drewN q)
                  have HGB := hide hgb
                  have HBP : Hid (b' + 1 ≤ m) := hide ha
                  clear hne hAA HW HB HX9 n1 n2 qf hgl hr0 hr1 hwz
                  cases bb with
                  | true =>
                    have HT1 : Hid (OwnS 2 (((wr.drewN q).setCell ⟨g, AA * 2, none⟩ (.int .u64 zp)).setCell ⟨g, AA * 2 + 1, none⟩ (.int .i64 (zr : Int))) w.heap.size 39 (some ⟨g, 0, none⟩) (m + 1) c7 ((insRow pts b' z).flatMap encP)) := hide (by
                      have := HQ.out.setP (j := b' + 1) (by rw [insRow_len (by have := HM.out; omega)]; have := HM.out; omega) z
                      rw [insRow_down HZT.out, ← HZP.out, ← HZR.out, ← HAA.out] at this
                      exact this)
                    have HD2 : Hid (∀ v ∈ pts.drop b', ltOf (cmpN names) x v = true) := hide (fun v hv => by
                      have hlb := (List.getElem?_eq_some_iff.1 HZT.out)
                      rw [List.drop_eq_getElem_cons hlb.1, hlb.2] at hv
                      rcases List.mem_cons.1 hv with rfl | hv
                      · exact HBB.out.symm
                      · exact HD9.out v hv)
                    go_wp2_with fail
                    go_roundw
                    case rel => exact ⟨b', z, by omega, rfl, HD2, HT1, hide ((HXQ.out.set_other HNE.out).set_other HNE.out), hide ((HBQ.out.setCell HGB.out _).setCell HGB.out _)⟩
                    case measure => simp [intOf]; omega
                  | false =>
                    have HF : Hid _ := hide (insFin (x := x) (W := wr.drewN q) HM.out HBP.out HX.out HP.out HD9.out (.inr ⟨b', z, rfl, HZT.out, HBB.out.symm⟩) HQ.out HBQ.out HGB.out)
                    rw [← HAA.out] at HF
                    go_wp2_with fail
                    go_roundw
                    case rel => exact ⟨k + 1, insRow pts AA x, some ⟨g, 0, none⟩, c7, by omega, by go_num, by rw [HF.out.1], by rw [HF.out.1]; omega, hide ⟨by
                      have := HF.out.2.1.1
                      rw [List.append_assoc, HXE.out] at this
                      rw [List.range_succ, List.map_append, List.map_cons, List.map_nil, HXE.out]
                      exact this, HF.out.2.1.2⟩, hide (by rw [HF.out.1]; exact HF.out.2.2.1), hide HF.out.2.2.2⟩
                    case measure => simp [intOf]; omega
        · obtain rfl : k = each := by omega
          have y1 : ¬ ((k : Int) < (k : Int)) := by omega
          go_wp2_with fail
          go_roundw
          case rel => exact ⟨i + 1, pts, Ap, cp, by omega, by go_num, rfl, by omega, hide ⟨by
            have := HP.out.1
            rw [HTK.out, rawR_snoc, List.length_take, Nat.min_eq_left (by have := HLN.out; omega)]
            exact this, HP.out.2⟩, HW, HB⟩
          case measure => simp [intOf]; omega
    · obtain rfl : i = nn := by omega
      have z1 : ¬ ((i : Int) < (i : Int)) := by omega
      have HST : Hid (StandR names each pts) := hide ⟨by
        have := HP.out.1
        rwa [List.take_of_length_le (by have := HLN.out; omega)] at this, HP.out.2⟩
      go_wp2_with fail
      go_ret
      exact ⟨⟨pts, Ap, cp, rfl, HW.out, HST.out⟩, HB.out⟩
end Go.Proofs.YtokdliapkolngaaDoor
