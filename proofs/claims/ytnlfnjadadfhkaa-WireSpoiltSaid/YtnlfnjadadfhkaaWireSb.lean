/-
  The walk of the law WireSpoilt.
-/
import Derived.Test.YtnlfnjadadfhkaaWireY
import Derived.Test.YtnlfnjadadfhkaaWireSa
import Derived.Laws.BitsAllLaws
import Derived.Deep.DeepAppendWide
namespace Go.Proofs.Ytnlfnjadadfhkaa
open Go.RowKit
set_option linter.unusedVariables false


section
variable {P : Program} {w w' : World} {base e n c : Nat} {A : Option Addr} {xs : List Value}
theorem run_app_wide (t ty : TypeId) (z : Value) (bytes : Nat) (ht : P.underlying t = some (.slice e)) (hi : (P.info? e).map (fun i => (i.zero, i.size, i.bytes)) = some (some z, 1, bytes)) (hz1 : z.cells.size = 1)
    (hown : Own w base e A n c xs) {B : Nat} {A' : Option Addr} {m c' : Nat} {news : List Value} (hr : Sl w B A' m news) (h1 : ∀ u ∈ news, u.oneCell' = true)
    (h63 : n + m ≤ maxLen) (hbytes : ((n + m) + (n + m) / 4 + 192) * bytes ≤ 281474976710656) (hbase : base ≤ w.heap.size) :
    ∃ A2 c2 w', (Builtin.append_ #[t, t] ty #[.slice A n c, .slice A' m c']).run P w = .ok (.slice A2 (n + m) c2) w' ∧ Own w' base e A2 (n + m) c2 (xs ++ news) ∧ w.grownBy w' (Value.slice A n c).ownBlock := by
  obtain ⟨i, hi0, hz, hs, hb⟩ := info_parts hi
  have shape : ∀ (v' : Value) (w1 : World), w1.ownsRow base e 1 v' (n + m) (xs ++ news) → ∃ A2 c2, v' = .slice A2 (n + m) c2 := by
    intro v' w1 h
    rcases h.2 with ⟨h, h0⟩ | ⟨g, cap, cur, h, _⟩
    · exact ⟨none, 0, by rw [h, h0]⟩
    · exact ⟨_, _, h⟩
  rcases A' with _ | ad
  · have hm : m = 0 := by
      rcases Nat.eq_zero_or_pos m with h0 | h0
      · exact h0
      · obtain ⟨b, off, h, _⟩ := hr.2 h0; cases h
    subst hm
    obtain rfl : news = [] := List.eq_nil_of_length_eq_zero hr.1
    exact ⟨A, c, w, run_append_own_nil t ty i ht hi0 hown c', by simpa using hown, ⟨rfl, rfl, rfl, Nat.le_refl _, fun _ _ _ => rfl⟩⟩
  · have hcells : ∀ j u, news[j]? = some u → w.cell? (ad.add j) = some u := by
      intro j u hu
      rcases Nat.eq_zero_or_pos m with h0 | h0
      · subst h0
        obtain rfl : news = [] := List.eq_nil_of_length_eq_zero hr.1
        simp at hu
      · obtain ⟨b, off, h, _, hc⟩ := hr.2 h0
        injection h with h; subst h
        have := hc j u hu
        unfold Addr.add
        split
        · rename_i hj; subst hj; exact this
        · exact this
    obtain ⟨v', w1, hrun, h2, h3, _⟩ := run_append_own_wide (P := P) w base t ty e i z 1 bytes ht hi0 hz hs hb hz1 (by omega) (.slice A n c) n xs hown ad m c' news (by simpa using hr.1) hcells h1 h63 hbytes hbase
    obtain ⟨A2, c2, rfl⟩ := shape v' w1 h2
    exact ⟨A2, c2, w1, hrun, h2, h3⟩

theorem wp_app_wide {o : Oper} {a : Act} {K : Act → World → Prop} {Q : Exit → Act → World → Prop} (s x : Operand) (t : TypeId)
    (ho : o.op = .call { callee := .builtin .append, args := #[s, x], argTypes := #[t, t] })
    (z : Value) (bytes : Nat) (ht : P.underlying t = some (.slice e)) (hi : (P.info? e).map (fun i => (i.zero, i.size, i.bytes)) = some (some z, 1, bytes)) (hz1 : z.cells.size = 1)
    (hs : a.eval s = .slice A n c) (hown : Own w base e A n c xs) {B : Nat} {A' : Option Addr} {m c' : Nat} {news : List Value} (hx : a.eval x = .slice A' m c') (hr : Sl w B A' m news) (h1 : ∀ u ∈ news, u.oneCell' = true)
    (h63 : n + m ≤ maxLen) (hbytes : ((n + m) + (n + m) / 4 + 192) * bytes ≤ 281474976710656) (hbase : base ≤ w.heap.size)
    (h : ∀ A2 c2 w', Own w' base e A2 (n + m) c2 (xs ++ news) → w.grownBy w' (Value.slice A n c).ownBlock → K (a.put o.dst (.slice A2 (n + m) c2)) w') : o.wp P a w K Q := by
  obtain ⟨A2, c2, w', hrun, h2, h3⟩ := run_app_wide (P := P) t o.type z bytes ht hi hz1 hown (c' := c') hr h1 h63 hbytes hbase
  unfold Oper.wp execOp
  simp only [ho, resolve, invoke, builtin, Sem.run_bind, Sem.run_pure, Result.andThen_ok, List.map_toArray, List.map_cons, List.map_nil, hs, hx, hrun]
  exact h A2 c2 w' h2 h3
theorem step_app_wide {ops : Array Oper} {o : Oper} {a : Act} {K : Act → World → Prop} {Q : Exit → Act → World → Prop} {E : Prop} (hgd : o.guard = none) (s x : Operand) (t : TypeId)
    (ho : o.op = .call { callee := .builtin .append, args := #[s, x], argTypes := #[t, t] })
    (z : Value) (bytes : Nat) (ht : P.underlying t = some (.slice e)) (hi : (P.info? e).map (fun i => (i.zero, i.size, i.bytes)) = some (some z, 1, bytes)) (hz1 : z.cells.size = 1)
    (hs : a.eval s = .slice A n c) (hown : Own w base e A n c xs) {B : Nat} {A' : Option Addr} {m c' : Nat} {news : List Value} (hx : a.eval x = .slice A' m c') (hr : Sl w B A' m news) (h1 : ∀ u ∈ news, u.oneCell' = true)
    (h63 : n + m ≤ maxLen) (hbytes : ((n + m) + (n + m) / 4 + 192) * bytes ≤ 281474976710656) (hbase : base ≤ w.heap.size)
    (h : ∀ A2 c2 w', Own w' base e A2 (n + m) c2 (xs ++ news) → w.grownBy w' (Value.slice A n c).ownBlock → K (a.put o.dst (.slice A2 (n + m) c2)) w') :
    if Region.wanted o (yielded ops a.tmps) = true then Oper.wp P o a w K Q else E := by
  rw [if_pos (by simp [Region.wanted, hgd])]
  exact wp_app_wide s x t ho z bytes ht hi hz1 hs hown hx hr h1 h63 hbytes hbase h
end
theorem heldk_keep {w W X : World} {n G k : Nat} {v : Value} (hb : Below n W X) (hn : n = w.heap.size) (hG : G < w.heap.size) (h : Below w.heap.size w W ∧ W.cell? ⟨G, k, none⟩ = some v) : Below w.heap.size w X ∧ X.cell? ⟨G, k, none⟩ = some v := by
  subst hn
  exact ⟨h.1.trans hb, (hb.cell (p := ⟨G, k, none⟩) hG).trans h.2⟩
theorem heldk_keep' {w W X : World} {G k : Nat} {v : Value} (hb : Below W.heap.size W X) (hG : G < w.heap.size) (h : Below w.heap.size w W ∧ W.cell? ⟨G, k, none⟩ = some v) : Below w.heap.size w X ∧ X.cell? ⟨G, k, none⟩ = some v :=
  ⟨h.1.trans (hb.mono h.1.size), (hb.cell (p := ⟨G, k, none⟩) (Nat.lt_of_lt_of_le hG h.1.size)).trans h.2⟩
theorem slb_take {w : World} {B n : Nat} {A : Option Addr} {bs : List UInt8} (h : SlB w B A n bs) {k : Nat} (hk : k ≤ n) : SlB w B A k (bs.take k) := by
  have hl := h.len
  refine ⟨by simp; omega, fun hn => ?_⟩
  obtain ⟨b, off, e, hb, hc⟩ := h.2 (by omega)
  refine ⟨b, off, e, hb, fun j u hu => hc j u ?_⟩
  rw [← hu, List.map_take, List.getElem?_take]
  split
  · rfl
  · rename_i hj
    rw [List.map_take, List.getElem?_take, if_neg hj] at hu
    cases hu
theorem own_cap {w : World} {base e n c : Nat} {A : Option Addr} {xs : List Value} (h : Own w base e A n c xs) : n ≤ c ∧ c ≤ 9223372036854775807 := by
  rcases h.2 with ⟨h1, h2⟩ | ⟨g, cap, cur, h1, h2, h3, h4, h5, h6, h7⟩
  · injection h1 with a1 a2 a3; omega
  · injection h1 with a1 a2 a3; unfold maxLen at h5; omega
theorem wrap_u64 (z : Int) : 0 ≤ IntKind.u64.wrap z := by
  show 0 ≤ z % 18446744073709551616
  omega
theorem drawn_rem (z : Int) (L : Nat) (hz : 0 ≤ z) (h0 : 0 < L) (hL : L ≤ 65544) : ∃ k : Nat, k < L ∧ wrap64 (z.tmod (L : Int)) = (k : Int) := by
  have h1 := Int.tmod_nonneg (L : Int) hz
  have h2 := Int.tmod_lt_of_pos z (show (0 : Int) < (L : Int) by omega)
  exact ⟨(z.tmod (L : Int)).toNat, by omega, by rw [IntWalk.wrap64_in _ (by omega)]; omega⟩
set_option maxHeartbeats 8000000 in
set_option maxRecDepth 100000 in
theorem spoilt_walk (A : Option Addr) (n c : Nat) (ps : List Put) (at_ by_ less : Int) (Bm : Option Addr) (m d : Nat) (ms : List UInt8) (w : World) (hp : SlPut w w.heap.size A n ps) (hn : n ≤ 9223372036854775807) (hc : n ≤ c)
    (hat : -9223372036854775808 ≤ at_ ∧ at_ ≤ 9223372036854775807) (hby : 0 ≤ by_ ∧ by_ ≤ 255) (hless : -9223372036854775808 ≤ less ∧ less ≤ 9223372036854775807) (hb : SlB w w.heap.size Bm m ms) (hmd : m ≤ d) (hd : d ≤ 140737488351232) :
    Calls Try.prog 4 #[.slice A n c, .agg #[.int .i64 at_, .int .u8 by_, .int .i64 less, .slice Bm m d]] w fun e w' => e = .returned (.bool true) ∧ Below w.heap.size w w' := by
  have HP := hide (hp.take (min n 400) (Nat.min_le_left _ _)); clear hp
  have HB := hide hb; clear hb
  have hm : min n 400 ≤ 400 := Nat.min_le_right _ _
  go_enter Try.func4, Try.ntmps4
  have BX := hide ((Below.refl w.heap.size w).alloc (Nat.le_refl _) (.cells #[.int .i64 at_, .int .u8 by_, .int .i64 less, .slice Bm m d] 34))
  have RX : Hid (RowV (w.alloc (.cells #[.int .i64 at_, .int .u8 by_, .int .i64 less, .slice Bm m d] 34)) w.heap.size 34 [.int .i64 at_, .int .u8 by_, .int .i64 less, .slice Bm m d]) := hide (RowV.new w _ _)
  go_wp2_with fail
  refine calls_world (fun X => Hid (RowV X w.heap.size 34 [.int .i64 at_, .int .u8 by_, .int .i64 less, .slice Bm m d]) ∧ Hid (Below w.heap.size w X)) ⟨RX, BX⟩ ?_
  clear RX BX
  rintro X ⟨RX, BX⟩
  refine (few_any A n c X hn hc).mono ?_
  rintro e w' ⟨rfl, rfl⟩
  obtain ⟨q, hq⟩ : ∃ q, q = min n 400 := ⟨_, rfl⟩
  obtain ⟨qs, hqs⟩ : ∃ qs, qs = ps.take (min n 400) := ⟨_, rfl⟩
  rw [← hqs] at HP
  rw [← hq] at HP hm ⊢
  clear hq hqs
  go_wp2_with fail
  refine (write_any A q c qs _ ((HP.out.below BX.out (Nat.le_refl _)).more BX.out.size) hm).mono ?_
  rintro e w1 ⟨A1, c1, rfl, ho, hb⟩
  have O1 := hide ho; have B1 := hide (BX.out.trans (hb.mono BX.out.size)); have R1 := hide (RX.out.below' hb); clear ho hb RX BX
  go_wp2_with fail
  refine (known_any _).mono ?_
  rintro e w2 ⟨rfl, hb⟩
  have O2 := hide (O1.out.below hb); have B2 := hide (B1.out.trans (hb.mono B1.out.size)); have R2 := hide (R1.out.below' hb); clear hb O1 B1 R1
  by_cases hbad : (Wire.out qs).2 = 0
  · obtain ⟨hb0, hb1, hb2, hb3⟩ := Wire.out_fits hbad
    rw [hbad, hb2]
    rw [hb2] at O2
    obtain ⟨bb, hbbe⟩ : ∃ bb, bb = Wire.bytesOf qs := ⟨_, rfl⟩
    rw [← hbbe] at hb1 O2 ⊢
    have HBL := hide hb1
    clear hbbe hb0 hb1 hb2 hb3 hbad
    have hOF := Rd.open_frame bb HBL.out
    obtain ⟨L, hL⟩ : ∃ L, L = (Wire.frame bb).length := ⟨_, rfl⟩
    have hL2 : L ≤ 65544 := by rw [hL, frame_length]; have := HBL.out; omega
    have hL8 : L = bb.length + 8 := by rw [hL, frame_length]
    have HS1 := hide (spoilt_one bb HBL.out)
    have HS2 := hide (spoilt_less bb HBL.out)
    have HS3 := hide (spoilt_more bb HBL.out)
    obtain ⟨f, hf⟩ : ∃ f, f = Wire.frame bb := ⟨_, rfl⟩
    rw [← hL] at O2 ⊢
    rw [← hf] at O2 hOF hL HS1 HS2 HS3
    rw [← hL8] at HS2
    have HOF := hide hOF; have HLF := hide hL
    have hL1 : 8 ≤ L := by omega
    clear hf hOF hL hL8
    have hc1 : L ≤ c1 ∧ c1 ≤ 9223372036854775807 := by
      rcases O2.out.2 with ⟨h1, h2⟩ | ⟨g, cap, cur, h1, h2, h3, h4, h5, h6, h7⟩
      · injection h1 with a1 a2 a3; omega
      · injection h1 with a1 a2 a3; unfold maxLen at h5; omega
    have F2 : Hid (SlB w2 w2.heap.size A1 L f) := hide O2.out.sl
    have HG2 : Hid (w.heap.size < w2.heap.size) := hide R2.out.lt
    clear O2
    go_wp2_with fail
    refine (copy_any A1 L c1 f _ F2.out (by omega)).mono ?_
    rintro e w3 ⟨rfl, hb3, hrow3⟩
    have C3 := hide hb3; have K3 := hide hrow3; have R3 := hide (R2.out.below' hb3); have B3 := hide (B2.out.trans (hb3.mono B2.out.size))
    clear hb3 hrow3 R2
    have a0 := R3.out.cell (k := 0) rfl
    have a1 := R3.out.cell (k := 1) rfl
    have a2 := R3.out.cell (k := 2) rfl
    have a3 := R3.out.cell (k := 3) rfl
    have hkm := drawn_rem (IntKind.u64.wrap at_) L (wrap_u64 at_) (by omega) (by omega)
    obtain ⟨k, hkL, hke⟩ := hkm
    obtain ⟨h, hh, hh2⟩ : ∃ h : UInt8, by_ = (h.toNat : Int) ∧ (by_ = 0 ↔ h = 0) := by
      refine ⟨UInt8.ofNat by_.toNat, ?_, ?_⟩
      · have h1 : by_.toNat < 256 := by omega
        rw [UInt8.toNat_ofNat_of_lt' h1]; omega
      · constructor
        · rintro rfl; rfl
        · intro e
          have h1 : by_.toNat < 256 := by omega
          have := congrArg UInt8.toNat e
          rw [UInt8.toNat_ofNat_of_lt' h1] at this
          have : by_.toNat = 0 := this
          omega
    subst hh
    clear hat hby
    have hkf : k < f.length := by rw [← HLF.out]; exact hkL
    obtain ⟨x, hx⟩ : ∃ x, f[k]? = some x := ⟨_, List.getElem?_eq_getElem hkf⟩
    have kc : w3.cell? ⟨w2.heap.size, k, none⟩ = some (.int .u8 (x.toNat : Int)) := by
      rw [cell_of_row w3 w2.heap.size k _ _ _ K3.out]
      simp [hx, bv]
    have kf := frozen_of_row w3 w2.heap.size k _ _ K3.out
    have HXR := u8_xor_nat x.toNat h.toNat (UInt8.toNat_lt x) (UInt8.toNat_lt h)
    rw [← UInt8.toNat_xor] at HXR
    have HXH := hide HXR; clear HXR
    have HX := hide hx
    clear hx hkf
    have b1 : (0 : Int) ≤ (k : Int) := by omega
    have b2 : (k : Int) < (L : Int) := by omega
    go_upto_region 6 with (fail)
    rw [hke]
    have HGW : Hid (w.heap.size < w2.heap.size) := hide HG2.out
    have hne : w.heap.size ≠ w2.heap.size := by have := HGW.out; omega
    have hlt3 : w2.heap.size < w3.heap.size := heap_lt' K3.out
    have KS : Hid ((w3.setCell ⟨w2.heap.size, k, none⟩ (.int .u8 (bits .xor .u8 (x.toNat : Int) (h.toNat : Int)))).heap[w2.heap.size]? = some (.cells ((f.set k (x ^^^ h)).map bv).toArray 5 (0, 0))) := hide (by
      rw [heap_setCell_same _ _ _ _ _ _ K3.out, List.setIfInBounds_toArray, List.map_set, HXH.out]; rfl)
    have RS := hide (R3.out.set_other (k := k) (v := .int .u8 (bits .xor .u8 (x.toNat : Int) (h.toNat : Int))) hne)
    have CS := hide (C3.out.setCell (p := ⟨w2.heap.size, k, none⟩) (Nat.le_refl _) (.int .u8 (bits .xor .u8 (x.toNat : Int) (h.toNat : Int))))
    have HSE : Hid (Rd.open (f.set k (x ^^^ h)) = 0 ↔ h = 0) := hide ⟨fun e => Decidable.byContradiction fun hn => HS1.out k x h HX.out hn e, fun e => by
      subst e
      have hx := HX.out
      rw [UInt8.xor_zero]
      have hkf := (List.getElem?_eq_some_iff.1 hx).1
      have : f.set k x = f := by
        have e2 := (List.getElem?_eq_some_iff.1 hx).2
        rw [← e2]; exact List.set_getElem_self hkf
      rw [this]; exact HOF.out⟩
    go_region
    clear kc kf b1 b2 a0 a1 a2 a3 hne hke
    go_upto_region 7 with (fail)
    refine wp_world (fun Y => Hid (RowV Y w.heap.size 34 [.int .i64 at_, .int .u8 (h.toNat : Int), .int .i64 less, .slice Bm m d]) ∧ Hid (Y.heap[w2.heap.size]? = some (.cells ((f.set k (x ^^^ h)).map bv).toArray 5 (0, 0))) ∧ Hid (Below w2.heap.size w2 Y)) ⟨RS, KS, hide CS.out.drew⟩ ?_
    clear RS KS CS R3 K3 C3 B3
    rintro Y ⟨RS, KS, CS⟩
    have HLN : Hid ((f.set k (x ^^^ h)).length = L) := hide (by rw [List.length_set]; exact HLF.out.symm)
    obtain ⟨fs, hfs⟩ : ∃ fs, fs = f.set k (x ^^^ h) := ⟨_, rfl⟩
    rw [← hfs] at KS HSE HLN
    have HN1 := hide (newreader_any (some ⟨w2.heap.size, 0, none⟩) L L fs Y (SlB.of_block (rest := []) (by rw [List.append_nil]; exact KS.out) (heap_lt' KS.out) HLN.out) (Nat.le_refl _) (by omega))
    go_wp2_with fail
    refine HN1.out.mono ?_
    rintro e w4 ⟨P4, rfl, hb4, _⟩
    have R4 := hide (RS.out.below' hb4); have C4 := hide (CS.out.trans (hb4.mono CS.out.size))
    clear RS CS KS HN1 hb4 HLN hfs
    obtain ⟨r1, hr1⟩ : ∃ r1, r1 = Rd.open fs := ⟨_, rfl⟩
    rw [← hr1] at HSE ⊢
    clear hr1
    have hq1 : (!((r1 == 0) == ((h.toNat : Int) == 0))) = false := by
      have h1 := HSE.out
      by_cases e : h = 0
      · rw [h1.2 e, hh2.2 e]; rfl
      · rw [(beq_eq_false_iff_ne).2 (fun e2 => e (h1.1 e2)), (beq_eq_false_iff_ne).2 (fun e2 => e (hh2.1 e2))]; rfl
    have a1 := R4.out.cell (k := 1) rfl
    have a2 := R4.out.cell (k := 2) rfl
    have a3 := R4.out.cell (k := 3) rfl
    obtain ⟨j, hjL, hje⟩ := drawn_rem (IntKind.u64.wrap less) L (wrap_u64 less) (by omega) (by omega)
    clear hless hh2
    have F4 := hide (F2.out.up C4.out)
    have HM4 := hide (HB.out.up (B2.out.trans (C4.out.mono B2.out.size)))
    have B4 := hide (B2.out.trans (C4.out.mono B2.out.size))
    have HN2 := hide (newreader_any A1 (L - j) c1 (f.take (L - j)) w4 (slb_take F4.out (Nat.sub_le _ _)) (by omega) (by omega))
    clear B2 C4 F2
    go_wp2_with fail
    refine HN2.out.mono ?_
    rintro e w5 ⟨P5, rfl, hb5, _⟩
    have R5 := hide (R4.out.below' hb5); have B5 := hide (B4.out.trans (hb5.mono B4.out.size)); have F5 := hide (F4.out.up hb5); have M5 := hide (HM4.out.up hb5)
    clear R4 B4 F4 HM4 HN2 hb5 a1 a2 a3 hq1 HSE
    obtain ⟨r2, hr2⟩ : ∃ r2, r2 = Rd.open (f.take (L - j)) := ⟨_, rfl⟩
    have HR2 : Hid (r2 = 0 ↔ j = 0) := hide ⟨fun e => Decidable.byContradiction fun hn => HS2.out j hjL hn (hr2 ▸ e), fun e => by
      rw [hr2, e, Nat.sub_zero, List.take_of_length_le (by rw [← HLF.out]; exact Nat.le_refl _)]; exact HOF.out⟩
    rw [← hr2]
    clear hr2
    go_upto_region 12 with (fail)
    clear hje
    refine wp_world (fun Y => Hid (RowV Y w.heap.size 34 [.int .i64 at_, .int .u8 (h.toNat : Int), .int .i64 less, .slice Bm m d]) ∧ Hid (Below w.heap.size w Y) ∧ Hid (SlB Y Y.heap.size A1 L f) ∧ Hid (SlB Y Y.heap.size Bm m ms)) ⟨R5, B5, F5, M5⟩ ?_
    clear R5 B5 F5 M5
    rintro Y ⟨R5, B5, F5, M5⟩
    have hgY : w.heap.size < Y.heap.size := R5.out.lt
    have hS0 : Below Y.heap.size Y Y.drew ∧ Y.drew.cell? ⟨w.heap.size, 3, none⟩ = some (.slice Bm m d) := ⟨(Below.refl _ _).drew, R5.out.cell (k := 3) rfl⟩
    have hq1 : L + m ≤ maxLen := by unfold maxLen; omega
    have hq2 : ((L + m) + (L + m) / 4 + 192) * 1 ≤ 281474976710656 := by omega
    have hLmax : L ≤ maxLen := by unfold maxLen; omega
    have hfl : (f.map bv).length = L := by rw [List.length_map]; exact HLF.out.symm
    go_region_held3 (fun W => Below Y.heap.size Y W ∧ W.cell? ⟨w.heap.size, 3, none⟩ = some (.slice Bm m d))
      (first | assumption | exact heldk_keep' (by assumption) hgY (by assumption)) (first
      | (go_at_call 16; with_reducible refine (copy_any A1 L c1 f _ ?h1 (by omega)).mono ?_
         case h1 => exact F5.out.up (And.left (by assumption))
         rintro e wk ⟨rfl, hbk, hrk⟩
         have OK := hide (Own.of_block (n := L) (base := Y.heap.size) hrk (Nat.le_refl _) hfl hLmax)
         have hSk : Below Y.heap.size Y wk ∧ wk.cell? ⟨w.heap.size, 3, none⟩ = some (.slice Bm m d) := heldk_keep' hbk hgY (by assumption)
         have MK := hide (M5.out.up hSk.1)
         have hszk := hSk.1.size)
      | (go_at_call 17; with_reducible refine (newreader_any A2 (L + m) c2 (f ++ ms) _ ?h1 ?h2 ?h3).mono ?_
         case h1 => exact O2.out.sl
         case h2 => exact hcc.1
         case h3 => exact hcc.2
         rintro e wn ⟨P6, rfl, hbn, hcn⟩)
      | (refine step_app_wide (c' := d) ?_ (.tmp 78) (.tmp 80) 24 ?_ (.int .u8 0) 1 Try.underlying24 info_u8 (cells_int _ _) ?_ OK.out ?_ MK.out (bytes_oneCell _) hq1 hq2 hszk ?_
         · rfl
         · rfl
         · rfl
         · rfl
         intro A2 c2 wa hown hgr
         rw [← List.map_append] at hown
         have hcc := own_cap hown
         have O2 := hide hown
         have hSa : Below Y.heap.size Y wa ∧ wa.cell? ⟨w.heap.size, 3, none⟩ = some (.slice Bm m d) := ⟨below_of_grown hSk.1 hgr hszk OK.out.row_ge, OK.out.far hgr hgY hSk.2⟩))
    all_goals
      have hSn : Below Y.heap.size Y wn ∧ wn.cell? ⟨w.heap.size, 3, none⟩ = some (.slice Bm m d) := heldk_keep' hbn hgY hSa
      have a3 := hSn.2
      have HML := M5.out.len
      obtain ⟨r3, hr3⟩ : ∃ r3, r3 = Rd.open (f ++ ms) := ⟨_, rfl⟩
      have HR3 : r3 = 0 ↔ m = 0 := ⟨fun e => Decidable.byContradiction fun hn => HS3.out ms (fun h => hn (by rw [← HML, h]; rfl)) (hr3 ▸ e), fun e => by
        have : ms = [] := List.eq_nil_of_length_eq_zero (by omega)
        rw [hr3, this, List.append_nil]; exact HOF.out⟩
      rw [← hr3]
      clear hr3 hcn hown hgr hcc hrk hq1 hq2
      have q2 : ((r2 == 0) == ((j : Int) == 0)) = true := by
        have h1 := HR2.out
        by_cases e : j = 0
        · rw [h1.2 e, e]; rfl
        · rw [(beq_eq_false_iff_ne).2 (fun e2 => e (h1.1 e2)), (beq_eq_false_iff_ne).2 (show (j : Int) ≠ 0 by omega)]; rfl
      have q3 : ((r3 == 0) == ((m : Int) == 0)) = true := by
        by_cases e : m = 0
        · rw [HR3.2 e, e]; rfl
        · rw [(beq_eq_false_iff_ne).2 (fun e2 => e (HR3.1 e2)), (beq_eq_false_iff_ne).2 (show (m : Int) ≠ 0 by omega)]; rfl
      clear HR3
      go_wp2_with fail
      go_ret
      exact ⟨ret_bool (by simp), B5.out.trans (hSn.1.mono B5.out.size)⟩
  · have hbn : ((Wire.out qs).2 != 0) = true := by simpa using hbad
    obtain ⟨x, hx⟩ : ∃ x, x = (Wire.out qs).2 := ⟨_, rfl⟩
    rw [← hx] at hbn ⊢
    clear hx hbad
    go_wp2_with fail
    refine (known_any _).mono ?_
    rintro e w3 ⟨rfl, hb⟩
    have B3 := hide (B2.out.trans (hb.mono B2.out.size)); clear hb B2
    go_wp2_with fail
    go_ret
    exact ⟨rfl, B3.out⟩
end Go.Proofs.Ytnlfnjadadfhkaa
