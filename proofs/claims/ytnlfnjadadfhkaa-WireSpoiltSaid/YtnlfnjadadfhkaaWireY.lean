/-
  The walk of the law WireKeeps.
-/
import Derived.Test.YtnlfnjadadfhkaaWireW
import Derived.Test.YtnlfnjadadfhkaaRoom
import Derived.Test.YtnlfnjadadfhkaaApart
namespace Go.Proofs.Ytnlfnjadadfhkaa
open Go.RowKit
set_option linter.unusedVariables false

theorem Rd.wordsB_rest (k : Nat) (rest : List UInt8) : (Rd.wordsB k rest).2.2.length ≤ rest.length := by
  induction k generalizing rest with
  | zero => simp [Rd.wordsB]
  | succ k ih =>
    have h1 := Rd.wordB_rest 0 rest
    rw [Rd.wordsB]
    generalize Rd.wordB 0 rest = r at h1 ⊢
    obtain ⟨s, e, rs⟩ := r
    simp only at h1 ⊢
    split
    · exact h1
    · have := ih rs
      generalize Rd.wordsB k rs = x at this ⊢
      obtain ⟨l, e', r'⟩ := x
      simp only at this ⊢
      split
      · exact Nat.le_trans this h1
      · exact Nat.le_trans this h1
theorem Rd.textsB_rest (b : Int) (rest : List UInt8) : (Rd.textsB b rest).2.2.length ≤ rest.length := by
  have h := Rd.numB_rest b 4096 rest
  unfold Rd.textsB
  generalize Rd.numB b 4096 rest = r at h ⊢
  obtain ⟨n, e, rs⟩ := r
  simp only at h ⊢
  split
  · exact h
  · exact Nat.le_trans (Rd.wordsB_rest n rs) h
theorem Rd.read_rest (kind b : Int) (rest : List UInt8) : (Rd.read kind b rest).2.2.length ≤ rest.length := by
  unfold Rd.read
  split
  · exact Rd.numB_rest _ _ _
  split
  · exact Rd.wordB_rest _ _
  split
  · exact Rd.numB_rest _ _ _
  split
  · exact Rd.numB_rest _ _ _
  split
  · exact Rd.textsB_rest _ _
  · exact Nat.le_refl _
theorem RFar.lt {w : World} {G T B : Nat} (h : RFar w G T B) : G < w.heap.size := by
  obtain ⟨A, n, c, bad, hr, _⟩ := h; exact hr.lt
theorem RFar.below {w w' : World} {G T B : Nat} (h : RFar w G T B) (hb : Below w.heap.size w w') : RFar w' G T B := by
  obtain ⟨A, n, c, bad, hr, hf⟩ := h; exact ⟨A, n, c, bad, hr.below' hb, hf⟩
theorem RFar.more {w : World} {G T B B' : Nat} (h : RFar w G T B) (hB : B' ≤ B) : RFar w G T B' := by
  obtain ⟨A, n, c, bad, hr, hf⟩ := h; exact ⟨A, n, c, bad, hr, fun b off e => Nat.le_trans hB (hf b off e)⟩
theorem RFar.set {w : World} {G T B g k : Nat} {v : Value} (h : RFar w G T B) (hne : G ≠ g) : RFar (w.setCell ⟨g, k, none⟩ v) G T B := by
  obtain ⟨A, n, c, bad, hr, hf⟩ := h; exact ⟨A, n, c, bad, hr.set_other hne, hf⟩
theorem RSt.set_far {w : World} {G T B g k : Nat} {rest : List UInt8} {bad : Int} {v : Value} (h : RSt w G T rest bad) (hf : RFar w G T B) (hg : g < B) (hne : G ≠ g) : RSt (w.setCell ⟨g, k, none⟩ v) G T rest bad := by
  obtain ⟨A, c, h1, h2, h3, h4⟩ := h
  obtain ⟨A', n', c', bad', hr, hfar⟩ := hf
  have hA : A' = A := by
    unfold RowV at h1 hr
    rw [h1] at hr
    injection hr with hr; injection hr with hr _ _
    injection hr with hr
    injection hr with hr _
    injection hr with hr _ _
    exact hr.symm
  subst hA
  refine ⟨A', c, h1.set_other hne, h2, ⟨h3.1, fun hn => ?_⟩, h4⟩
  obtain ⟨b, off, e, cur, fr, hb, hc⟩ := h3.2 hn
  have := hfar b off e
  refine ⟨b, off, e, cur, fr, ?_, hc⟩
  rw [heap_setCell_other _ _ _ _ (show b ≠ g by omega)]; exact hb
/-- a row of bytes, whatever they are -/
def RowN (w : World) (g n : Nat) : Prop := ∃ cs : List Value, w.heap[g]? = some (.cells cs.toArray 5 (0, 0)) ∧ cs.length = n
theorem RowN.at_ {w : World} {g n k : Nat} (h : RowN w g n) (hk : k < n) : (∃ v, w.cell? ⟨g, k, none⟩ = some v) ∧ w.frozen? ⟨g, k, none⟩ = false := by
  obtain ⟨cs, h1, h2⟩ := h
  refine ⟨⟨cs[k]'(by omega), ?_⟩, frozen_of_row w g k _ _ h1⟩
  rw [cell_of_row w g k _ _ _ h1]
  simp [h2, hk]
theorem RowN.set {w : World} {g n k : Nat} {v : Value} (h : RowN w g n) : RowN (w.setCell ⟨g, k, none⟩ v) g n := by
  obtain ⟨cs, h1, h2⟩ := h
  exact ⟨cs.set k v, by rw [heap_setCell_same _ _ _ _ _ _ h1, List.setIfInBounds_toArray], by simpa using h2⟩
theorem Lst.In.alloc' {w : World} {r : Lst} {q : Nat} {x : Int} (h : r.In w q x) (o : Obj) : r.In (w.alloc o) q x := by
  rcases h with h | ⟨g, cur, h1, h2, h3, h4⟩
  · exact .inl h
  · exact .inr ⟨g, cur, h1, by rw [heap_alloc_old w o (heap_lt' h2)]; exact h2, h3, h4⟩
set_option maxHeartbeats 8000000 in
set_option maxRecDepth 100000 in
theorem keeps_walk (A : Option Addr) (n c : Nat) (ps : List Put) (w : World) (hp : SlPut w w.heap.size A n ps) (hn : n ≤ 9223372036854775807) (hc : n ≤ c) :
    Calls Try.prog 10 #[.slice A n c] w fun e w' => e = .returned (.bool true) ∧ Below w.heap.size w w' := by
  have HP := hide (hp.take (min n 400) (Nat.min_le_left _ _)); clear hp
  have hm : min n 400 ≤ 400 := Nat.min_le_right _ _
  have HF := hide (few_any A n c w hn hc)
  go_enter Try.func10, Try.ntmps10
  go_wp2_with fail
  refine HF.out.mono ?_
  rintro e w' ⟨rfl, rfl⟩
  obtain ⟨m, hmm⟩ : ∃ m, m = min n 400 := ⟨_, rfl⟩
  obtain ⟨qs, hqs⟩ : ∃ qs, qs = ps.take (min n 400) := ⟨_, rfl⟩
  rw [← hqs] at HP
  rw [← hmm] at HP hm ⊢
  clear hmm hqs HF
  go_wp2_with fail
  refine (write_any A m c qs _ HP.out hm).mono ?_
  rintro e w1 ⟨A1, c1, rfl, ho, hb⟩
  have O1 := hide ho; have B1 := hide hb; clear ho hb
  go_wp2_with fail
  refine (known_any _).mono ?_
  rintro e w2 ⟨rfl, hb⟩
  have O2 := hide (O1.out.below hb); have B2 := hide (B1.out.trans (hb.mono B1.out.size)); clear hb O1 B1
  by_cases hbad : (Wire.out qs).2 = 0
  · obtain ⟨hb0, hb1, hb2, hb3⟩ := Wire.out_fits hbad
    rw [hbad, hb2]
    rw [hb2] at O2
    obtain ⟨bb, hbbe⟩ : ∃ bb, bb = Wire.bytesOf qs := ⟨_, rfl⟩
    rw [← hbbe] at hb1 O2 ⊢
    have HBL := hide hb1
    clear hbbe hb0 hb1 hb2 hb3 hbad
    have hOF := Rd.open_frame bb HBL.out
    have hDF := Wire.frame_drop bb
    obtain ⟨f, hf⟩ : ∃ f, f = Wire.frame bb := ⟨_, rfl⟩
    obtain ⟨L, hL⟩ : ∃ L, L = (Wire.frame bb).length := ⟨_, rfl⟩
    have hL2 : L ≤ 65544 := by rw [hL, frame_length]; have := HBL.out; omega
    rw [← hL] at O2 ⊢
    rw [← hf] at O2 hOF hDF hL
    have HOF := hide hOF; have HDF := hide hDF; have HLF := hide hL
    clear hf hOF hDF hL
    have hc1 : L ≤ c1 ∧ c1 ≤ 9223372036854775807 := by
      rcases O2.out.2 with ⟨h1, h2⟩ | ⟨g, cap, cur, h1, h2, h3, h4, h5, h6, h7⟩
      · injection h1 with a1 a2 a3; omega
      · injection h1 with a1 a2 a3; unfold maxLen at h5; omega
    have F2 : Hid (SlB w2 w2.heap.size A1 L f) := hide O2.out.sl
    clear O2
    go_wp2_with fail
    refine (room_any A1 L c1 f _ F2.out (by omega)).mono ?_
    rintro e w3 ⟨rfl, hb3, hrow3⟩
    have C3 := hide hb3; have R3 := hide hrow3
    clear hb3 hrow3
    have HNR := hide (newreader_far (some ⟨w2.heap.size, 0, none⟩) L (L + 3) f w3 (SlB.of_block R3.out (heap_lt' R3.out) HLF.out.symm) (by omega) (by omega))
    rw [HOF.out, HDF.out] at HNR
    have HG3 : Hid (w2.heap.size < w3.heap.size) := hide (heap_lt' R3.out)
    go_wp2_with fail
    refine HNR.out.mono ?_
    rintro e w4 ⟨P, rfl, hb4, hcase⟩
    obtain ⟨G1, rfl, hG1, hS1, hF1⟩ : ∃ G, P = some ⟨G, 0, none⟩ ∧ w3.heap.size ≤ G ∧ RSt w4 G 71 bb 0 ∧ RFar w4 G 71 w3.heap.size := by
      rcases hcase with ⟨h, _⟩ | ⟨_, h⟩
      · exact absurd rfl h
      · exact h
    have S4 := hide hS1; have F4 := hide (hF1.more (B' := w2.heap.size + 1) HG3.out); have C4 := hide (C3.out.trans (hb4.mono C3.out.size)); have R4 := hide ((hb4.block _ HG3.out).trans R3.out)
    have HG1 : Hid (w2.heap.size < G1) := hide (Nat.lt_of_lt_of_le HG3.out hG1)
    clear hb4 hcase hS1 hF1 hG1 HNR R3 C3
    go_wp2_with fail
    refine (kept_any w2.heap.size A1 L c1 f _ R4.out (F2.out.up C4.out) (by omega)).mono ?_
    rintro e w5 ⟨rfl, hb5⟩
    have S5 := hide (S4.out.below hb5); have F5 := hide (F4.out.below hb5); have C5 := hide (C4.out.trans (hb5.mono C4.out.size))
    have R5 : Hid (RowN w5 w2.heap.size (L + 3)) := hide ⟨roomCells f, (hb5.block _ (heap_lt' R4.out)).trans R4.out, by unfold roomCells; simp; exact HLF.out.symm⟩
    clear hb5 S4 F4 C4 R4
    have HGB : Hid (w.heap.size ≤ w2.heap.size) := hide B2.out.size
    go_wp2_with fail
    go_loopw [8] (fun v8 wq => ∃ i : Nat, i ≤ L ∧ v8 = .int .i64 i ∧ Hid (RSt wq G1 71 bb 0) ∧ Hid (RFar wq G1 71 (w2.heap.size + 1)) ∧ Hid (Below w2.heap.size w2 wq) ∧ Hid (RowN wq w2.heap.size (L + 3))) (fun v _ => L - (intOf v).toNat)
    case atStart => exact ⟨0, by omega, rfl, S5, F5, C5, R5⟩
    case round =>
      clear S5 F5 C5 R5
      obtain ⟨i, hi, rfl, S, F, C, R⟩ := hrel
      by_cases hlt : i < L
      · obtain ⟨⟨v, hv⟩, hfz⟩ := R.out.at_ (k := i) (by omega)
        have b1 : (0 : Int) ≤ (i : Int) := by omega
        have b2 : (i : Int) < (L : Int) := by omega
        have b3 : (i : Int) < ((L + 3 : Nat) : Int) := by omega
        have hne : G1 ≠ w2.heap.size := by have := HG1.out; omega
        have S6 := hide (S.out.set_far F.out (Nat.lt_succ_self w2.heap.size) hne (k := i) (v := .int .u8 255)); have F6 := hide (F.out.set hne (k := i) (v := .int .u8 255)); have C6 := hide (C.out.setCell (p := ⟨w2.heap.size, i, none⟩) (Nat.le_refl _) (.int .u8 255)); have R6 := hide (R.out.set (k := i) (v := .int .u8 255))
        clear hne
        go_wp2_with fail
        go_roundw
        case rel => exact ⟨i + 1, by omega, by go_num, S6, F6, C6, R6⟩
        case measure => simp [intOf]; omega
      · have hge : ¬ ((i : Int) < (L : Int)) := by omega
        have HNS := hide (newreader_any A1 L c1 f wr (F2.out.up C.out) hc1.1 hc1.2)
        rw [HOF.out, HDF.out] at HNS
        have HGL := hide S.out.lt
        have BW := hide (B2.out.trans (C.out.mono HGB.out))
        clear F R
        go_wp2_with fail
        refine HNS.out.mono ?_
        rintro e w7 ⟨P, rfl, hb7, hcase⟩
        obtain ⟨G2, rfl, hG2, hS2⟩ : ∃ G, P = some ⟨G, 0, none⟩ ∧ wr.heap.size ≤ G ∧ RSt w7 G 71 bb 0 := by
          rcases hcase with ⟨h, _⟩ | ⟨_, h⟩
          · exact absurd rfl h
          · exact h
        have S7 := hide (S.out.below hb7); have T7 := hide hS2; have B7 := hide (BW.out.trans (hb7.mono BW.out.size))
        have HNE : Hid (G1 ≠ G2) := hide (by have := HGL.out; omega)
        have HGE : Hid (w.heap.size ≤ G1 ∧ w.heap.size ≤ G2) := hide ⟨by have := HG1.out; have := HGB.out; omega, by have := BW.out.size; omega⟩
        have HBBL : Hid (bb.length ≤ 65536) := HBL
        clear hb7 hcase hS2 hG2 HNS S C BW HGL HG1 HGB HG3 hlt hge hi F2 B2
        go_wp2_with fail
        go_loopw [11] (fun v11 wq => ∃ (j : Nat) (rs : List UInt8) (b : Int), j ≤ m ∧ rs.length ≤ 65536 ∧ v11 = .int .i64 j ∧ Hid (RSt wq G1 71 rs b) ∧ Hid (RSt wq G2 71 rs b) ∧ Hid (Below w.heap.size w wq)) (fun v _ => m - (intOf v).toNat)
        case atStart => exact ⟨0, bb, 0, by omega, HBBL.out, rfl, S7, T7, B7⟩
        case round =>
          clear S7 T7 B7
          obtain ⟨j, rs, b, hj, hrs, rfl, S, T, B⟩ := hrel
          by_cases hlt : j < m
          · obtain ⟨pb, off, p, rfl, hbb, hpi, hok, e0, _⟩ := HP.out.at_ hlt
            have c0 := (B.out.cell (p := ⟨pb, _, none⟩) hbb).trans e0
            have b1 : (0 : Int) ≤ (j : Int) := by omega
            have b2 : (j : Int) < (m : Int) := by omega
            have hlr := lread_any G1 p.kind rs b wr.drew S.out (by omega)
            have hls := fun (X : World) (h : RSt X G2 71 rs b) => lread_any G2 p.kind rs b X h (by omega)
            have hrl := Rd.read_l p.kind b rs
            have hrr := Rd.read_rest p.kind b rs
            obtain ⟨res, hres⟩ : ∃ res, res = Rd.read p.kind b rs := ⟨_, rfl⟩
            rw [← hres] at hlr hls hrl hrr
            clear hres
            obtain ⟨⟨pk, pn, ps', pl⟩, e, rs'⟩ := res
            simp only at hrl hrr
            have HLR := hide hlr; have HLS := hide hls
            have HSM := hide (fun (AL AL' : Option Addr) (cL cL' : Nat) (X : World) (h1 : Sl X X.heap.size AL pl.length (pl.map Value.string)) (h2 : Sl X X.heap.size AL' pl.length (pl.map Value.string)) => psame_any ⟨pk, pn, ps', pl⟩ AL AL' cL cL' X h1 h2 (by show pl.length ≤ _; omega))
            have BD := hide B.out.drew
            have TD : Hid (RSt wr.drew G2 71 rs b) := hide T.out
            have SD : Hid (RSt wr.drew G1 71 rs b) := hide S.out
            clear hlr hls e0 hpi hok S T B
            have hS0 : wr.drew.cell? ⟨pb, off + j * 4, none⟩ = some (.int .i64 p.kind) := c0
            go_upto_region 17 with (fail)
            go_region_held3 (fun W => W.cell? ⟨pb, off + j * 4, none⟩ = some (.int .i64 p.kind))
              (first | with_reducible assumption | exact KS.out)
              (first
                | (go_at_call 21; with_reducible refine HLR.out.mono ?_
                   rintro e5 w5 ⟨cL, AL, rfl, ht, hs, hg5⟩
                   have B5 := hide (below_of_grown BD.out hg5 BD.out.size (fun k hk => by injection hk with hk; subst hk; exact HGE.out.1))
                   have KS : Hid (w5.cell? ⟨pb, off + j * 4, none⟩ = some (.int .i64 p.kind)) := hide (((below_of_grown (B := w.heap.size) (Below.refl w.heap.size wr.drew) hg5 BD.out.size (fun k hk => by injection hk with hk; subst hk; exact HGE.out.1)).cell (p := ⟨pb, off + j * 4, none⟩) hbb).trans c0)
                   have T5 := hide ht; have S5 := hide hs
                   have U5 := hide (TD.out.other SD.out hg5 (fun h => HNE.out h.symm) (by decide)))
                | (go_at_call 21; with_reducible refine (HLS.out _ U5.out).mono ?_
                   rintro e6 w6 ⟨cM, AM, rfl, ht, hs, hg6⟩
                   have B6 := hide (below_of_grown B5.out hg6 B5.out.size (fun k hk => by injection hk with hk; subst hk; exact HGE.out.2))
                   have KS : Hid (w6.cell? ⟨pb, off + j * 4, none⟩ = some (.int .i64 p.kind)) := hide (((below_of_grown (B := w.heap.size) (Below.refl w.heap.size w5) hg6 B5.out.size (fun k hk => by injection hk with hk; subst hk; exact HGE.out.2)).cell (p := ⟨pb, off + j * 4, none⟩) hbb).trans KS.out)
                   have M6 := hide ht; have U6 := hide hs
                   have T6 := hide (T5.out.keep hg6 (by
                     intro k cur fr hk
                     injection hk with hk; subst hk
                     obtain ⟨cs, hr⟩ := hs.row
                     obtain ⟨cs5, hr5⟩ := U5.out.row
                     rw [hr5]; intro e; injection e with e; injection e with _ e _; exact absurd e (by decide)))
                   have S6 := hide (S5.out.other U5.out hg6 HNE.out (by decide)))
                | (go_at_call 20; with_reducible refine (HSM.out _ _ _ _ _ T6.out.sl M6.out.sl).mono ?_
                   rintro e7 w7 ⟨rfl, hb7⟩
                   have KS : Hid (w7.cell? ⟨pb, off + j * 4, none⟩ = some (.int .i64 p.kind)) := hide ((hb7.cell (p := ⟨pb, off + j * 4, none⟩) (Nat.lt_of_lt_of_le hbb B6.out.size)).trans KS.out)
                   have S7 := hide (S6.out.below hb7); have U7 := hide (U6.out.below hb7); have B7 := hide (B6.out.trans (hb7.mono B6.out.size))))
            clear hS0 KS c0
            go_wp2_with fail
            go_roundw
            case rel => exact ⟨j + 1, rs', e, by omega, by omega, by go_num, S7, U7, B7⟩
            case measure => simp [intOf]; omega
          · have hge : ¬ ((j : Int) < (m : Int)) := by omega
            go_wp2_with fail
            refine (newwriter_any _).mono ?_
            rintro e w8 ⟨rfl, hw8, hb8⟩
            have W8 := hide hw8; have C8 := hide hb8
            clear hw8 hb8
            have HPUT : Hid (Calls Try.prog 18 #[.pointer (some ⟨wr.heap.size, 0, none⟩), .agg #[.int .i64 1, .int .i64 0, .string ⟨#[97]⟩, .slice none 0 0]] w8 fun e w' => e = .returned (.tuple #[]) ∧ WSt w' wr.heap.size wr.heap.size 76 ([] ++ Wire.putB ⟨1, 0, ⟨#[97]⟩, []⟩) (Wire.putBad ⟨1, 0, ⟨#[97]⟩, []⟩ 0) ∧ Below wr.heap.size w8 w') :=
              hide (put_any wr.heap.size wr.heap.size ⟨1, 0, ⟨#[97]⟩, []⟩ none 0 [] 0 w8 ⟨by decide, by decide, by decide, by simp, by decide⟩ W8.out (Nat.le_refl _) Sl.nil_ (by decide))
            have hpl := Wire.putB_length ⟨1, 0, ⟨#[97]⟩, []⟩
            obtain ⟨ww, hww⟩ : ∃ ww, ww = ([] ++ Wire.putB ⟨1, 0, ⟨#[97]⟩, []⟩ : List UInt8) := ⟨_, rfl⟩
            obtain ⟨wb, hwb⟩ : ∃ wb, wb = Wire.putBad ⟨1, 0, ⟨#[97]⟩, []⟩ 0 := ⟨_, rfl⟩
            have hwl : ww.length ≤ 140737488355000 := by rw [hww]; simp only [List.nil_append]; omega
            rw [← hww, ← hwb] at HPUT
            have HWL := hide hwl
            clear hww hwb hpl hwl W8
            go_wp2_with fail
            refine HPUT.out.mono ?_
            rintro e w9 ⟨rfl, hw9, hb9⟩
            have W9 := hide hw9; have C9 := hide (C8.out.trans hb9)
            have C9s := hide C9.out.size
            clear hw9 hb9 HPUT C8
            go_wp2_with fail
            refine (frame_any wr.heap.size wr.heap.size ww wb _ W9.out (Nat.le_refl _) HWL.out).mono ?_
            rintro e wa ⟨Ax, cx, rfl, hox, hba⟩
            have OX := hide hox; have Ca := hide (C9.out.trans (hba.mono C9.out.size)); have Wa := hide (W9.out.below hba); have Z9 := hide (Nat.le_trans C9.out.size hba.size)
            clear hox hba
            go_wp2_with fail
            refine (frame_any wr.heap.size wr.heap.size ww wb _ Wa.out (Nat.le_refl _) HWL.out).mono ?_
            rintro e wz ⟨Ay, cy, rfl, hoy, hbz⟩
            have OY := hide hoy; have OX2 := hide (OX.out.below hbz); have Cz := hide (Ca.out.trans (hbz.mono Ca.out.size))
            have HXL := hide (OX.out.row_lt)
            clear hoy hbz OX Ca Wa W9
            obtain ⟨rr, hrr⟩ : ∃ rr, rr = Wire.said ww wb := ⟨_, rfl⟩
            rw [← hrr] at OX2 OY HXL ⊢
            clear hrr
            obtain ⟨xs, xe⟩ := rr
            simp only at OX2 OY HXL ⊢
            have HB9 : Hid (w.heap.size ≤ w9.heap.size ∧ w.heap.size ≤ wa.heap.size) := hide ⟨by have := B.out.size; have := C9s.out; omega, by have := B.out.size; have := Z9.out; omega⟩
            have Sz := hide (S.out.below Cz.out); have Tz := hide (T.out.below Cz.out); have Bz := hide (B.out.trans (Cz.out.mono B.out.size))
            clear S T B
            obtain ⟨en, hen⟩ : ∃ en, en = Rd.ends b rs := ⟨_, rfl⟩
            have HE1 := hide (rend_any G1 rs b wz Sz.out); have HE2 := hide (rend_any G2 rs b wz Tz.out)
            rw [← hen] at HE1 HE2
            have hee : ((en : Int) == en) = true := by simp
            clear hen
            go_wp2_with fail
            refine HE1.out.mono ?_
            rintro e wy ⟨rfl, rfl⟩
            go_wp2_with fail
            refine HE2.out.mono ?_
            rintro e wy ⟨rfl, rfl⟩
            obtain ⟨r1, v1, i1, d1, s1⟩ := Lst.of_own OX2.out
            obtain ⟨r2, v2, i2, d2, s2⟩ := Lst.of_own OY.out
            have hlt' : ∀ (r : Lst) (g : Nat), r.In wz 0 0 → r.g = some g → g < wz.heap.size := by
              intro r g hi hg
              rcases hi with ⟨h, _⟩ | ⟨g', cur, h1, h2, _⟩
              · rw [h] at hg; cases hg
              · rw [h1] at hg; injection hg with hg; subst hg; exact heap_lt' h2
            have hx12 : ∀ g, r1.g = some g → r2.g = some g → False := by
              intro g h1 h2
              have a1 := HXL.out g (d1 g h1).2
              have a2 := (d2 g h2).1
              omega
            have key : ∀ (i : Nat) (r : Lst), ([r1, r2] : List Lst)[i]? = some r → (i = 0 ∧ r = r1) ∨ (i = 1 ∧ r = r2) := by
              intro i r hi
              match i, hi with
              | 0, hi => injection hi with hi; exact .inl ⟨rfl, hi.symm⟩
              | 1, hi => injection hi with hi; exact .inr ⟨rfl, hi.symm⟩
              | i + 2, hi => simp at hi
            have hS : Hid (Sep [r1, r2] wz.heap.size) := hide ⟨fun i j r s g hi hj hr hs => by
                rcases key i r hi with ⟨rfl, rfl⟩ | ⟨rfl, rfl⟩ <;> rcases key j s hj with ⟨rfl, rfl⟩ | ⟨rfl, rfl⟩
                · rfl
                · exact (hx12 g hr hs).elim
                · exact (hx12 g hs hr).elim
                · rfl,
              fun i r hi hr => by
                rcases key i r hi with ⟨_, rfl⟩ | ⟨_, rfl⟩
                · have := hlt' r _ i1 hr; omega
                · have := hlt' r _ i2 hr; omega⟩
            have hBb : Hid (∀ (i : Nat) (r : Lst) (g : Nat), ([r1, r2] : List Lst)[i]? = some r → r.g = some g → w.heap.size ≤ g) := hide (by
              intro i r g hi hr
              rcases key i r hi with ⟨_, rfl⟩ | ⟨_, rfl⟩
              · have := (d1 g hr).1; have := HB9.out; omega
              · have := (d2 g hr).1; have := HB9.out; omega)
            have hcc : Hid (∀ (i : Nat) (r : Lst), ([r1, r2] : List Lst)[i]? = some r → r.c ≤ 9223372036854775807) := hide (by
              intro i r hi
              rcases key i r hi with ⟨_, rfl⟩ | ⟨_, rfl⟩
              · exact s1
              · exact s2)
            have hFF : Hid (∀ o, Filled (wz.alloc o) [r1, r2] 0 0) := hide (by
              intro o i r hi
              have e0 : (if i < 0 then r.c else if i = 0 then 0 else 0) = 0 := by simp
              rw [e0]
              rcases key i r hi with ⟨rfl, rfl⟩ | ⟨rfl, rfl⟩
              · rcases i1 with h | ⟨g, cur, h1, h2, h3, h4⟩
                · exact .inl h
                · exact .inr ⟨g, cur, h1, by rw [heap_alloc_old wz o (heap_lt' h2)]; exact h2, h3, fun t ht => absurd ht (by omega)⟩
              · rcases i2 with h | ⟨g, cur, h1, h2, h3, h4⟩
                · exact .inl h
                · exact .inr ⟨g, cur, h1, by rw [heap_alloc_old wz o (heap_lt' h2)]; exact h2, h3, fun t ht => absurd ht (by omega)⟩)
            have hLs : Hid ((wz.alloc (.cells #[.slice Ax xs.length cx, .slice Ay xs.length cy] 24)).heap[wz.heap.size]? = some (.cells ([r1, r2].map Lst.val).toArray 24 (0, 0))) := hide (by
              simp only [List.map_cons, List.map_nil, v1, v2]
              exact heap_alloc_new wz _)
            have BzA := hide (Bz.out.alloc Bz.out.size (.cells #[.slice Ax xs.length cx, .slice Ay xs.length cy] 24))
            clear key hlt' hx12 i1 i2 v1 v2 d1 d2 s1 s2
            go_wp2_with fail
            refine (apart_any [r1, r2] wz.heap.size 2 2 w.heap.size _ hLs.out rfl (by omega) (hFF.out _) hS.out hBb.out hcc.out).mono ?_
            rintro e wf ⟨rfl, hbf⟩
            have BF := hide (BzA.out.trans hbf); clear hbf
            go_wp2_with fail
            go_ret
            exact ⟨ret_bool (by simp), BF.out⟩
  · have hbn : ((Wire.out qs).2 != 0) = true := by simpa using hbad
    obtain ⟨x, hx⟩ : ∃ x, x = (Wire.out qs).2 := ⟨_, rfl⟩
    rw [← hx] at hbn ⊢
    clear hx hbad
    go_wp2_with fail
    refine (known_any _).mono ?_
    rintro e w3 ⟨rfl, hb⟩
    have B3 := hide (B2.out.trans (hb.mono B2.out.size)); clear hb B2
    go_wp2_with fail
    go_ret
    exact ⟨rfl, B3.out⟩
end Go.Proofs.Ytnlfnjadadfhkaa
