/-
  The walk of the program's Mac; the plain law of keys. (Written by gen_sha_n.py.)
-/
import Derived.Test.YtgpldaphblphgaaShaM
import Derived.Laws.BitsAllLaws
namespace Go.Proofs.Ytgpldaphblphgaa
open Go.RowKit Go.Great

/-- what a key stands for, at most 64 bytes -/
def Sha.short (key : List UInt8) : List UInt8 := if 64 < key.length then Sha.sum key else key
/-- .. with noughts behind -/
def Sha.key64 (key : List UInt8) : List UInt8 := Sha.short key ++ List.replicate (64 - (Sha.short key).length) 0
/-- THE KEYED DIGEST -/
def Sha.mac (key bs : List UInt8) : List UInt8 := Sha.sum ((Sha.key64 key).map (· ^^^ 92) ++ Sha.sum ((Sha.key64 key).map (· ^^^ 54) ++ bs))
theorem Sha.short_le (key : List UInt8) : (Sha.short key).length ≤ 64 := by
  unfold Sha.short; split
  · rw [Sha.sum_length]; omega
  · omega
theorem Sha.key64_length (key : List UInt8) : (Sha.key64 key).length = 64 := by
  have := Sha.short_le key
  unfold Sha.key64; simp; omega

theorem wpList_copy_grown {P : Program} {w : World} {ops : Array Oper} {rest : List Oper} {o : Oper} {a : Act} {Q : Exit → Act → World → Prop} (hgd : o.guard = none) (d s : Operand) (dT sT : TypeId)
    (ho : o.op = .call { callee := .builtin .copy, args := #[d, s], argTypes := #[dT, sT] }) (elem : TypeId) (hu : P.underlying dT = some (.slice elem)) (hsz : (P.info? elem).map (·.size) = some 1)
    (sp : Option Addr) (dLen dCap sLen sCap : Nat) (g off : Nat) (hd : a.eval d = .slice (some ⟨g, off, none⟩) dLen dCap) (hs : a.eval s = .slice sp sLen sCap)
    (cur : List Value) (t : TypeId) (hg : w.heap[g]? = some (.cells cur.toArray t (0, 0))) (cs : List Value) (hn : cs.length = Nat.min sLen dLen)
    (hpos : 0 < cs.length → ∃ ad, sp = some ad ∧ ∀ j v, cs[j]? = some v → w.cell? (ad.add j) = some v)
    (hfit : off + cs.length ≤ cur.length) (h1 : ∀ v ∈ cs, v.oneCell' = true)
    (h : ∀ w', Hid (w'.heap[g]? = some (.cells (splice cur off cs).toArray t (0, 0))) → Hid (w.grownBy w' (some g)) → wpList P ops Q rest (a.put o.dst (goInt cs.length)) w') :
    wpList P ops Q (o :: rest) a w := by
  by_cases h0 : cs.length = 0
  · obtain rfl : cs = [] := List.eq_nil_of_length_eq_zero h0
    refine wpList_copy_nothing hgd d s dT sT ho elem hu hsz _ sp dLen dCap sLen sCap hd hs (by simpa using hn.symm) ?_
    exact h w (show _ = _ by simpa [splice] using hg) (grown_refl _ _)
  · obtain ⟨ad, rfl, hsrc⟩ := hpos (by omega)
    refine wpList_copy_own hgd d s dT sT ho elem hu hsz g off dLen dCap ad sLen sCap hd hs cur.toArray t hg cs hn hsrc (by simpa using hfit) h1 ?_
    exact h _ (show _ = _ by simpa [splice] using row_set (cs := (cur.toArray.toList.take off ++ (cs ++ cur.toArray.toList.drop (off + cs.length))).toArray) hg) (grown_setRow (grown_refl _ _) _)
theorem copy_src' {w : World} {B : Nat} {A : Option Addr} {n : Nat} {bs : List UInt8} (h : SlB w B A n bs) : 0 < (bs.map bv).length → ∃ ad, A = some ad ∧ ∀ (j : Nat) v, (bs.map bv)[j]? = some v → w.cell? (ad.add j) = some v :=
  fun h0 => (copy_src h A h0).2
theorem splice_zero (bs : List UInt8) (_h : bs.length ≤ 64) : splice (List.replicate 64 (Value.int .u8 0)) 0 (bs.map bv) = (bs ++ List.replicate (64 - bs.length) 0).map bv := by
  unfold splice
  rw [List.take_zero, List.nil_append, Nat.zero_add, List.length_map, List.drop_replicate, List.map_append, List.map_replicate]; rfl
theorem info_sl : (Try.prog.info? 22).map (fun i => (i.zero, i.size, i.bytes)) = some (some (.slice none 0 0), 1, 24) := by kernel_rfl
/-- bytes, i of them taken together with x -/
def xrow (l : List UInt8) (x : UInt8) (i : Nat) : List Value := ((l.take i).map (· ^^^ x) ++ l.drop i).map bv
theorem xrow_at {l : List UInt8} {x y : UInt8} {i : Nat} (h : l[i]? = some y) : (xrow l x i)[i]? = some (.int .u8 (y.toNat : Int)) := by
  have hi := (List.getElem?_eq_some_iff.1 h).1
  have hm : min i l.length = i := by omega
  unfold xrow
  rw [List.getElem?_map, List.getElem?_append_right (by simp; omega)]
  simp [hm, h, bv]
theorem xrow_set {l : List UInt8} {x y : UInt8} {i : Nat} (h : l[i]? = some y) : (xrow l x i).set i (.int .u8 ((y ^^^ x).toNat : Int)) = xrow l x (i + 1) := by
  have hi := (List.getElem?_eq_some_iff.1 h).1
  have hm : min i l.length = i := by omega
  have hd : l.drop i = y :: l.drop (i + 1) := by
    rw [List.drop_eq_getElem_cons hi]
    congr 1
    rw [List.getElem?_eq_getElem hi] at h; injection h
  unfold xrow
  rw [show (Value.int .u8 ((y ^^^ x).toNat : Int)) = bv (y ^^^ x) from rfl, ← List.map_set, List.set_append_right _ _ (by simp; omega), hd, List.take_add_one, h]
  simp [hm]
theorem xrow_zero (l : List UInt8) (x : UInt8) : xrow l x 0 = l.map bv := by simp [xrow]
theorem xrow_end {l : List UInt8} (x : UInt8) (h : l.length = 64) : xrow l x 64 = (l.map (· ^^^ x)).map bv := by
  unfold xrow; rw [List.take_of_length_le (by omega), List.drop_of_length_le (by omega), List.append_nil]

set_option maxHeartbeats 2000000 in
set_option maxRecDepth 100000 in
theorem pmac_any (key : List UInt8) (A : Option Addr) (n c : Nat) (parts : List (List UInt8)) (AP : Option Addr) (m cp : Nat) (w : World) (hb : SlB w w.heap.size A n key) (hp : PartsAt w w.heap.size AP m parts)
    (hnc : n ≤ c) (hc : c ≤ 9223372036854775807) (hn : n ≤ 900000000000000000) (hN : parts.flatten.length ≤ 800000000000000000) (hm : m ≤ 5000000000000) :
    Calls Try.prog 19 #[.slice A n c, .slice AP m cp] w fun e w' => e = .returned (.agg ((Sha.mac key parts.flatten).map bv).toArray) ∧ Below w.heap.size w w' := by
  have HB := hide hb; have HP := hide hp; have HL := hide hb.len
  clear hb hp
  by_cases hlong : 64 < n
  · have HSH : Hid (Sha.short key = Sha.sum key) := hide (by unfold Sha.short; rw [if_pos (by have := HL.out; omega)])
    have hli : (64 : Int) < (n : Int) := by omega
    go_enter Try.func19, Try.ntmps19
    go_wp2_with fail
    refine (psumf_any A n c key _ ?hk1 hnc hc hn).mono ?_
    case hk1 => exact HB.out.up ((Below.refl _ _).alloc (Nat.le_refl _) _)
    rintro e w1 ⟨rfl, hb⟩
    have RR : Hid (RowV w1 w.heap.size 26 (List.replicate 32 (.int .u8 0))) := hide ((hb.block w.heap.size (by simp)).trans ((heap_alloc_new w _).trans (by kernel_rfl)))
    have BB := hide (((Below.refl w.heap.size w).alloc (Nat.le_refl _) _).trans (hb.mono (by simp)))
    have ZZ : Hid (w.heap.size + 1 ≤ w1.heap.size) := hide (by have := hb.size; rw [World.size_alloc] at this; exact this)
    obtain ⟨C, hC⟩ : ∃ C, C = ((Sha.sum key).map bv).toArray := ⟨_, rfl⟩
    have h1 : C.all (·.oneCell') = true := by rw [hC]; exact bytes_one _
    have hs : C.size = 32 := by rw [hC]; simp [Sha.sum_length]
    rw [← hC]
    have HC := hide hC; have HSC := hide hs; have H1 := hide h1
    clear hC hs h1 hb
    go_upto_region 3 with ((with_reducible refine wpList_store_row rfl 26 (.tmp 5) (.tmp 14) rfl w1.heap.size C rfl rfl 26 _ (heap_alloc_new w1 _) ?r1 ?r2 H1.out ?_))
    case r1 => rw [HSC.out]; kernel_rfl
    case r2 => rw [HSC.out]; rfl
    refine wp_world (fun X => RowV X w.heap.size 26 (List.replicate 32 (.int .u8 0)) ∧ SlB X X.heap.size (some ⟨w1.heap.size, 0, none⟩) 32 (Sha.sum key) ∧ Below w.heap.size w X ∧ w.heap.size < X.heap.size)
      ⟨(RR.out.alloc _).setRow (by have := ZZ.out; omega), SlB.of_block (rest := []) (by rw [List.append_nil, ← HC.out]; exact row_set (heap_alloc_new w1 _)) (by simp) (Sha.sum_length _), below_setRow (BB.out.alloc BB.out.size _) BB.out.size _, by have := ZZ.out; simp; omega⟩ ?_
    rintro X ⟨x1, x2, x3, x4⟩
    obtain ⟨Gd, hGd⟩ : ∃ Gd, Gd = w1.heap.size := ⟨_, rfl⟩
    rw [← hGd] at x2 ⊢
    clear hGd RR BB ZZ HC HSC H1
    go_upto_region 4 with (fail)
    have X1 := hide x1; have X2 := hide x2; have X3 := hide x3; have X4 := hide x4
    clear x1 x2 x3 x4
    go_upto_region 5 with (fail)
    refine wp_world (fun Y => RowV Y X.heap.size 49 (List.replicate 64 (.int .u8 0)) ∧ RowV Y (X.heap.size + 1) 49 (List.replicate 64 (.int .u8 0)) ∧ RowV Y w.heap.size 26 (List.replicate 32 (.int .u8 0)) ∧ SlB Y X.heap.size (some ⟨Gd, 0, none⟩) 32 (Sha.sum key) ∧ Below w.heap.size w Y ∧ Y.heap.size = X.heap.size + 2)
      ⟨(heap_alloc2_old X _ _).trans (by kernel_rfl), (heap_alloc2_new X _ _).trans (by kernel_rfl), (X1.out.alloc _).alloc _, X2.out.below (((Below.refl X.heap.size X).alloc (Nat.le_refl _) _).alloc (by simp) _) (Nat.le_refl _), (X3.out.alloc X3.out.size _).alloc (by have := X3.out.size; simp; omega) _, by simp⟩ ?_
    rintro Y ⟨y1, y2, y3, y4, y5, y6⟩
    obtain ⟨G, hG⟩ : ∃ G, G = X.heap.size := ⟨_, rfl⟩
    rw [← hG] at y1 y2 y4 y6 X4 ⊢
    have hwG : w.heap.size < G := X4.out
    have Y1x : Hid (Y.heap[G]? = some (.cells (List.replicate 64 (Value.int .u8 0)).toArray 49 (0, 0))) := hide y1
    have Y2 := hide y2; have Y3 := hide y3; have Y4 := hide y4; have Y5 := hide y5; have Y6 := hide y6
    have hkn : (List.map bv (Sha.sum key)).length = Nat.min 32 64 := by rw [List.length_map, y4.len]; simp only [Nat.min_def]; split <;> omega
    have H32 := hide hkn
    have HKS := hide (copy_src' y4)
    have hkl : (Sha.sum key).length ≤ 64 := by rw [y4.len]; omega
    have HKL := hide hkl
    have HKF : Hid (0 + (List.map bv (Sha.sum key)).length ≤ (List.replicate 64 (Value.int .u8 0)).length) := hide (by simp; omega)
    have HK64 : Hid (((Sha.sum key) ++ List.replicate (64 - (Sha.sum key).length) 0) = Sha.key64 key) := hide (by unfold Sha.key64; rw [HSH.out])
    clear y1 y2 y3 y4 y5 y6 hG hkn hkl
    go_upto_region 6 with ((with_reducible refine wpList_copy_grown rfl (.tmp 16) (.tmp 17) 22 22 rfl 5 Try.underlying22 size_u8 (some ⟨Gd, 0, none⟩) 64 64 32 32 G 0 rfl rfl (List.replicate 64 (Value.int .u8 0)) 49 Y1x.out (List.map bv (Sha.sum key)) H32.out HKS.out HKF.out (bytes_oneCell _) ?_))
    intro v1 h1 h2
    have V1 : Hid (RowV v1 G 49 (xrow (Sha.key64 key) 54 0)) := hide (by
      rw [xrow_zero, ← HK64.out, ← splice_zero _ HKL.out]; exact h1.out)
    have Y2x : Hid (v1.heap[G + 1]? = some (.cells (List.replicate 64 (Value.int .u8 0)).toArray 49 (0, 0))) := hide (row_grown Y2.out h2.out (by omega))
    replace Y3 := hide (row_grown Y3.out h2.out (by omega))
    replace Y4 : Hid (SlB v1 G (some ⟨Gd, 0, none⟩) 32 (Sha.sum key)) := hide (Y4.out.keep (fun b off hb => World.cell?_of_block (a := ⟨b, off, none⟩) (h2.out.block b (by have := Y6.out; omega) (by simp; omega))))
    replace Y5 := hide (below_of_grown' Y5.out h2.out Y5.out.size (by omega))
    replace Y6 : Hid (G + 2 ≤ v1.heap.size) := hide (by have := h2.out.size; have := Y6.out; omega)
    replace HKS := hide (copy_src' Y4.out)
    clear h1 h2 Y2 Y1x
    go_upto_region 6 with (fail)
    go_upto_region 7 with ((with_reducible refine wpList_copy_grown rfl (.tmp 19) (.tmp 20) 22 22 rfl 5 Try.underlying22 size_u8 (some ⟨Gd, 0, none⟩) 64 64 32 32 (G + 1) 0 rfl rfl (List.replicate 64 (Value.int .u8 0)) 49 Y2x.out (List.map bv (Sha.sum key)) H32.out HKS.out HKF.out (bytes_oneCell _) ?_))
    intro v2 h1 h2
    have V2 : Hid (RowV v2 (G + 1) 49 (xrow (Sha.key64 key) 92 0)) := hide (by
      rw [xrow_zero, ← HK64.out, ← splice_zero _ HKL.out]; exact h1.out)
    replace V1 := hide (row_grown V1.out h2.out (by omega))
    replace Y3 := hide (row_grown Y3.out h2.out (by omega))
    replace Y5 := hide (below_of_grown' Y5.out h2.out Y5.out.size (by omega))
    replace Y6 : Hid (G + 2 ≤ v2.heap.size) := hide (by have := h2.out.size; have := Y6.out; omega)
    clear h1 h2 Y2x Y4 HKS H32 HKF
    go_upto_region 7 with (fail)
    go_wp2_with fail
    go_loopw [22] (fun v22 wq => ∃ i : Nat, i ≤ 64 ∧ v22 = .int .i64 i ∧ Hid (RowV wq G 49 (xrow (Sha.key64 key) 54 i)) ∧ Hid (RowV wq (G + 1) 49 (xrow (Sha.key64 key) 92 i)) ∧ Hid (RowV wq w.heap.size 26 (List.replicate 32 (.int .u8 0))) ∧ Hid (Below w.heap.size w wq) ∧ Hid (G + 2 ≤ wq.heap.size)) (fun v _ => 64 - (intOf v).toNat)
    case atStart => exact ⟨0, by omega, rfl, V1, V2, Y3, Y5, Y6⟩
    case round =>
      clear V1 V2 Y3 Y5 Y6
      obtain ⟨i, hi, rfl, V1, V2, R0, HW, HZ⟩ := hrel
      by_cases hlt : i < 64
      · obtain ⟨y, hy⟩ : ∃ y, (Sha.key64 key)[i]? = some y := ⟨_, List.getElem?_eq_getElem (by rw [Sha.key64_length]; exact hlt)⟩
        have c1 := V1.out.cell (xrow_at (x := 54) hy)
        have c2 := V2.out.cell (xrow_at (x := 92) hy)
        have f1 := V1.out.free i; have f2 := V2.out.free i
        have y256 := y.toNat_lt
        have q1 := u8_xor_nat y.toNat 54 y256 (by omega)
        have q2 := u8_xor_nat y.toNat 92 y256 (by omega)
        have HQ1 : Hid (bits .xor .u8 (y.toNat : Int) 54 = ((y ^^^ 54).toNat : Int)) := hide (by rw [UInt8.toNat_xor]; exact q1)
        have HQ2 : Hid (bits .xor .u8 (y.toNat : Int) 92 = ((y ^^^ 92).toNat : Int)) := hide (by rw [UInt8.toNat_xor]; exact q2)
        have W1 := hide ((V1.out.set i (.int .u8 ((y ^^^ 54).toNat : Int))).set_other (b := G + 1) (k := i) (v := .int .u8 ((y ^^^ 92).toNat : Int)) (by omega))
        rw [xrow_set hy] at W1
        have W2 := hide ((V2.out.set_other (b := G) (k := i) (v := .int .u8 ((y ^^^ 54).toNat : Int)) (by omega)).set i (.int .u8 ((y ^^^ 92).toNat : Int)))
        rw [xrow_set hy] at W2
        have W0 := hide ((R0.out.set_other (b := G) (k := i) (v := .int .u8 ((y ^^^ 54).toNat : Int)) (by omega)).set_other (b := G + 1) (k := i) (v := .int .u8 ((y ^^^ 92).toNat : Int)) (by omega))
        have WB := hide ((HW.out.setCell (p := ⟨G, i, none⟩) (by show w.heap.size ≤ G; omega) (.int .u8 ((y ^^^ 54).toNat : Int))).setCell (p := ⟨G + 1, i, none⟩) (by show w.heap.size ≤ G + 1; omega) (.int .u8 ((y ^^^ 92).toNat : Int)))
        have b1 : (0 : Int) ≤ (i : Int) := by omega
        have b2 : (i : Int) < 64 := by omega
        clear q1 q2 hy y256
        go_wp2_with fail
        go_roundw
        case rel =>
          refine ⟨i + 1, by omega, by go_num, ?_⟩
          rw [HQ1.out, HQ2.out]
          exact ⟨W1, W2, W0, WB, hide (by simpa using HZ.out)⟩
        case measure => simp [intOf]; omega
      · have hge : ¬ ((i : Int) < 64) := by omega
        replace V1 : Hid (RowV wr G 49 (((Sha.key64 key).map (· ^^^ 54)).map bv)) := hide (by
          rw [← xrow_end 54 (Sha.key64_length key)]; have := V1.out; rwa [show i = 64 by omega] at this)
        replace V2 : Hid (RowV wr (G + 1) 49 (((Sha.key64 key).map (· ^^^ 92)).map bv)) := hide (by
          rw [← xrow_end 92 (Sha.key64_length key)]; have := V2.out; rwa [show i = 64 by omega] at this)
        obtain ⟨I6, hI6⟩ : ∃ I, I = (Sha.key64 key).map (· ^^^ 54) := ⟨_, rfl⟩
        obtain ⟨O6, hO6⟩ : ∃ O, O = (Sha.key64 key).map (· ^^^ 92) := ⟨_, rfl⟩
        have hI64 : I6.length = 64 := by rw [hI6]; simp [Sha.key64_length]
        have hO64 : O6.length = 64 := by rw [hO6]; simp [Sha.key64_length]
        rw [← hI6] at V1; rw [← hO6] at V2
        have HMAC : Hid (Sha.mac key parts.flatten = Sha.sum (O6 ++ Sha.sum (I6 ++ parts.flatten))) := hide (by unfold Sha.mac; rw [← hI6, ← hO6])
        have HI64 := hide hI64; have HO64 := hide hO64
        clear hI6 hO6 hI64 hO64
        obtain ⟨hPl, vals, hvs0, hvals⟩ := HP.out
        have hwa := HW.out.alloc HW.out.size (.cells #[.slice (some ⟨G, 0, none⟩) 64 64] 22)
        have hvs := (hvs0.below hwa (Nat.le_refl _)).more hwa.size
        have HVS := hide hvs
        have HV1 : Hid (∀ u ∈ vals, u.oneCell' = true) := hide (fun u hu => by
          obtain ⟨j, hj⟩ := List.mem_iff_getElem?.1 hu
          have hjl : j < parts.length := by have := (List.getElem?_eq_some_iff.1 hj).1; have := hvs.1; omega
          obtain ⟨A', n', c', e1, _⟩ := hvals j _ (List.getElem?_eq_getElem hjl)
          rw [e1] at hj; injection hj with hj; subst hj; rfl)
        have OW : Hid (Own (wr.alloc (.cells #[.slice (some ⟨G, 0, none⟩) 64 64] 22)) w.heap.size 22 (some ⟨wr.heap.size, 0, none⟩) 1 1 [.slice (some ⟨G, 0, none⟩) 64 64]) := hide (Own.of_block (heap_alloc_new wr _) HW.out.size rfl (by decide))
        have OW2 : Hid (Own (wr.alloc (.cells #[.slice (some ⟨G, 0, none⟩) 64 64] 22)) wr.heap.size 22 (some ⟨wr.heap.size, 0, none⟩) 1 1 [.slice (some ⟨G, 0, none⟩) 64 64]) := hide (Own.of_block (heap_alloc_new wr _) (Nat.le_refl _) rfl (by decide))
        have HVV := hide hvals; have HPL := hide hPl; have HWA := hide hwa
        clear hPl hvs hvs0 hvals hwa
        go_wp2_with (at_builtin; go_must (with_reducible refine wpList_app rfl (.tmp 37) (.tmp 38) 36 rfl (.slice none 0 0) 24 Try.underlying36 info_sl rfl rfl OW.out rfl HVS.out HV1.out (by unfold maxLen; omega) (by omega) HWA.out.size ?_))
        intro A7 c7 w7 ho hgr _
        have hb7 : Below wr.heap.size wr w7 := below_of_grown ((Below.refl _ _).alloc (Nat.le_refl _) _) hgr (by simp) (OW2.out.row_ge)
        have B7 := hide (HW.out.trans (hb7.mono HW.out.size))
        replace V1 := hide (V1.out.below' hb7); replace V2 := hide (V2.out.below' hb7); replace R0 := hide (R0.out.below' hb7)
        have Z7 : Hid (G + 2 ≤ w7.heap.size) := hide (Nat.le_trans HZ.out hb7.size)
        have P7 : Hid (PartsAt w7 w7.heap.size A7 (1 + m) (I6 :: parts)) := hide (by
          have hbA : Below w.heap.size w w7 := B7.out
          refine ⟨by rw [List.length_cons, HPL.out]; omega, _, ho.sl, fun j x hj => ?_⟩
          match j, hj with
          | 0, hj =>
            injection hj with hj; subst hj
            exact ⟨_, 64, 64, rfl, SlB.of_block (rest := []) (by rw [List.append_nil]; exact V1.out) V1.out.lt HI64.out, by omega, by omega⟩
          | j + 1, hj =>
            obtain ⟨A', n', c', e1, e2, e3, e4⟩ := HVV.out j x (by simpa using hj)
            exact ⟨A', n', c', by simpa using e1, e2.up hbA, e3, e4⟩)
        clear ho hgr hb7 OW OW2 HVS HV1 HVV HWA HW HZ
        have hfl : (I6 :: parts).flatten.length ≤ 900000000000000000 := by rw [List.flatten_cons, List.length_append, HI64.out]; omega
        go_wp2_with fail
        refine (all_any (I6 :: parts) A7 (1 + m) c7 _ P7.out hfl (by omega)).mono ?_
        rintro e w8 ⟨rfl, hb⟩
        rw [List.flatten_cons]
        have B8 := hide (B7.out.trans (hb.mono B7.out.size))
        replace V2 := hide (V2.out.below' hb); replace R0 := hide (R0.out.below' hb)
        have Z8 : Hid (G + 2 ≤ w8.heap.size) := hide (Nat.le_trans Z7.out hb.size)
        obtain ⟨D, hD⟩ : ∃ D, D = Sha.sum (I6 ++ parts.flatten) := ⟨_, rfl⟩
        have hDl : D.length = 32 := by rw [hD]; exact Sha.sum_length _
        rw [← hD]; rw [← hD] at HMAC
        obtain ⟨C, hC⟩ : ∃ C, C = (D.map bv).toArray := ⟨_, rfl⟩
        have h1 : C.all (·.oneCell') = true := by rw [hC]; exact bytes_one _
        have hs : C.size = 32 := by rw [hC]; simp [hDl]
        rw [← hC]
        have HC := hide hC; have HSC := hide hs; have H1 := hide h1; have HDL := hide hDl
        clear hC hs h1 hb hD hDl P7 V1 B7 Z7 hfl
        go_upto_region 14 with ((with_reducible refine wpList_store_row rfl 26 (.tmp 9) (.tmp 40) rfl w8.heap.size C rfl rfl 26 _ (heap_alloc_new w8 _) ?q1 ?q2 H1.out ?_))
        case q1 => rw [HSC.out]; kernel_rfl
        case q2 => rw [HSC.out]; rfl
        refine wp_world (fun Z => RowV Z (G + 1) 49 (O6.map bv) ∧ RowV Z w8.heap.size 26 (D.map bv) ∧ RowV Z w.heap.size 26 (List.replicate 32 (.int .u8 0)) ∧ Below w.heap.size w Z ∧ w8.heap.size < Z.heap.size)
          ⟨(V2.out.alloc _).setRow (by have := Z8.out; omega), by unfold RowV; rw [← HC.out]; exact row_set (heap_alloc_new w8 _), (R0.out.alloc _).setRow (by have := Z8.out; omega), below_setRow (B8.out.alloc B8.out.size _) B8.out.size _, by simp⟩ ?_
        rintro Z ⟨z1, z2, z3, z4, z5⟩
        obtain ⟨G9, hG9⟩ : ∃ G9, G9 = w8.heap.size := ⟨_, rfl⟩
        rw [← hG9] at z2 z5 Z8 ⊢
        have Z1 := hide z1; have Z2 := hide z2; have Z3 := hide z3; have Z4 := hide z4; have Z5 := hide z5
        clear z1 z2 z3 z4 z5 hG9 V2 R0 B8 HC H1 HSC
        refine wp_region_still_tail 2 (by kernel_rfl) (by kernel_rfl) ?_
        change wpStill _ _ Z.drew _ _ _
        simp only [List.take_succ_cons, List.take_zero, List.drop_succ_cons, List.drop_zero]
        iterate 2 still_step
        refine wpStill_nil ?_
        change wpList _ _ _ _ _ Z.drew
        replace Z1 : Hid (RowV Z.drew (G + 1) 49 (O6.map bv)) := hide Z1.out
        replace Z2 : Hid (RowV Z.drew G9 26 (D.map bv)) := hide Z2.out
        replace Z3 : Hid (RowV Z.drew w.heap.size 26 (List.replicate 32 (.int .u8 0))) := hide Z3.out
        replace Z4 : Hid (Below w.heap.size w Z.drew) := hide Z4.out.drew
        generalize Z.drew = Q at Z1 Z2 Z3 Z4 ⊢
        go_wp2_with fail
        refine (all_any [O6, D] (some ⟨Q.heap.size, 0, none⟩) 2 2 _ (parts2 (SlB.of_block (rest := []) (by rw [List.append_nil]; exact Z1.out) Z1.out.lt HO64.out) (SlB.of_block (rest := []) (by rw [List.append_nil]; exact Z2.out) Z2.out.lt HDL.out) rfl (by omega) (by omega) (by omega) (by omega)) (by simp [HO64.out, HDL.out]) (by omega)).mono ?_
        rintro e w9 ⟨rfl, hb⟩
        rw [show [O6, D].flatten = O6 ++ D by simp, ← HMAC.out]
        have BA := hide (Z4.out.alloc Z4.out.size (.cells #[.slice (some ⟨G + 1, 0, none⟩) 64 64, .slice (some ⟨G9, 0, none⟩) 32 32] 22))
        have B9 := hide (BA.out.trans (hb.mono BA.out.size))
        have R9 : Hid (w9.heap[w.heap.size]? = some (.cells (List.replicate 32 (Value.int .u8 0)).toArray 26 (0, 0))) := hide ((Z3.out.alloc (.cells #[.slice (some ⟨G + 1, 0, none⟩) 64 64, .slice (some ⟨G9, 0, none⟩) 32 32] 22)).below' hb)
        obtain ⟨C, hC⟩ : ∃ C, C = ((Sha.mac key parts.flatten).map bv).toArray := ⟨_, rfl⟩
        have h1 : C.all (·.oneCell') = true := by rw [hC]; exact bytes_one _
        have hs : C.size = 32 := by rw [hC]; simp [Sha.mac, Sha.sum_length]
        rw [← hC]
        have HC := hide hC; have HSC := hide hs; have H1 := hide h1
        clear hC hs h1 hb
        go_wp2_with (with_reducible refine wpList_store_row rfl 26 (.tmp 4) (.tmp 44) rfl w.heap.size C rfl rfl 26 _ R9.out ?q3 ?q4 H1.out ?_)
        case q3 => rw [HSC.out]; kernel_rfl
        case q4 => rw [HSC.out]; rfl
        have HF := hide (row_set (cs := C) R9.out)
        have HG2 := hide (below_setRow (g := w.heap.size) B9.out (Nat.le_refl _) C)
        generalize w9.setRow w.heap.size C = X at HF HG2 ⊢
        exact bodyPost_ret (v := .agg C) (results_cell_row rfl _ _ w.heap.size 26 C (0, 0) _ rfl HF.out Try.underlying26 rfl (by rw [HSC.out]; kernel_rfl)) rfl ⟨by rw [HC.out], HG2.out⟩

  · have HSH : Hid (Sha.short key = key) := hide (by unfold Sha.short; rw [if_neg (by have := HL.out; omega)])
    have hli : ¬ (64 : Int) < (n : Int) := by omega
    go_enter Try.func19, Try.ntmps19
    go_upto_region 4 with (fail)
    refine wp_world (fun X => RowV X w.heap.size 26 (List.replicate 32 (.int .u8 0)) ∧ SlB X X.heap.size A n key ∧ Below w.heap.size w X ∧ w.heap.size < X.heap.size)
      ⟨(heap_alloc_new w _).trans (by kernel_rfl), HB.out.up ((Below.refl _ _).alloc (Nat.le_refl _) _), (Below.refl _ _).alloc (Nat.le_refl _) _, by simp⟩ ?_
    rintro X ⟨x1, x2, x3, x4⟩
    have X1 := hide x1; have X2 := hide x2; have X3 := hide x3; have X4 := hide x4
    clear x1 x2 x3 x4
    go_upto_region 5 with (fail)
    refine wp_world (fun Y => RowV Y X.heap.size 49 (List.replicate 64 (.int .u8 0)) ∧ RowV Y (X.heap.size + 1) 49 (List.replicate 64 (.int .u8 0)) ∧ RowV Y w.heap.size 26 (List.replicate 32 (.int .u8 0)) ∧ SlB Y X.heap.size A n key ∧ Below w.heap.size w Y ∧ Y.heap.size = X.heap.size + 2)
      ⟨(heap_alloc2_old X _ _).trans (by kernel_rfl), (heap_alloc2_new X _ _).trans (by kernel_rfl), (X1.out.alloc _).alloc _, X2.out.below (((Below.refl X.heap.size X).alloc (Nat.le_refl _) _).alloc (by simp) _) (Nat.le_refl _), (X3.out.alloc X3.out.size _).alloc (by have := X3.out.size; simp; omega) _, by simp⟩ ?_
    rintro Y ⟨y1, y2, y3, y4, y5, y6⟩
    obtain ⟨G, hG⟩ : ∃ G, G = X.heap.size := ⟨_, rfl⟩
    rw [← hG] at y1 y2 y4 y6 X4 ⊢
    have hwG : w.heap.size < G := X4.out
    have Y1x : Hid (Y.heap[G]? = some (.cells (List.replicate 64 (Value.int .u8 0)).toArray 49 (0, 0))) := hide y1
    have Y2 := hide y2; have Y3 := hide y3; have Y4 := hide y4; have Y5 := hide y5; have Y6 := hide y6
    have hkn : (List.map bv key).length = Nat.min n 64 := by rw [List.length_map, y4.len]; simp only [Nat.min_def]; split <;> omega
    have Hn := hide hkn
    have HKS := hide (copy_src' y4)
    have hkl : key.length ≤ 64 := by rw [y4.len]; omega
    have HKL := hide hkl
    have HKF : Hid (0 + (List.map bv key).length ≤ (List.replicate 64 (Value.int .u8 0)).length) := hide (by simp; omega)
    have HK64 : Hid ((key ++ List.replicate (64 - key.length) 0) = Sha.key64 key) := hide (by unfold Sha.key64; rw [HSH.out])
    clear y1 y2 y3 y4 y5 y6 hG hkn hkl
    go_upto_region 6 with ((with_reducible refine wpList_copy_grown rfl (.tmp 16) (.tmp 17) 22 22 rfl 5 Try.underlying22 size_u8 A 64 64 n c G 0 rfl rfl (List.replicate 64 (Value.int .u8 0)) 49 Y1x.out (List.map bv key) Hn.out HKS.out HKF.out (bytes_oneCell _) ?_))
    intro v1 h1 h2
    have V1 : Hid (RowV v1 G 49 (xrow (Sha.key64 key) 54 0)) := hide (by
      rw [xrow_zero, ← HK64.out, ← splice_zero _ HKL.out]; exact h1.out)
    have Y2x : Hid (v1.heap[G + 1]? = some (.cells (List.replicate 64 (Value.int .u8 0)).toArray 49 (0, 0))) := hide (row_grown Y2.out h2.out (by omega))
    replace Y3 := hide (row_grown Y3.out h2.out (by omega))
    replace Y4 : Hid (SlB v1 G A n key) := hide (Y4.out.keep (fun b off hb => World.cell?_of_block (a := ⟨b, off, none⟩) (h2.out.block b (by have := Y6.out; omega) (by simp; omega))))
    replace Y5 := hide (below_of_grown' Y5.out h2.out Y5.out.size (by omega))
    replace Y6 : Hid (G + 2 ≤ v1.heap.size) := hide (by have := h2.out.size; have := Y6.out; omega)
    replace HKS := hide (copy_src' Y4.out)
    clear h1 h2 Y2 Y1x
    go_upto_region 6 with (fail)
    go_upto_region 7 with ((with_reducible refine wpList_copy_grown rfl (.tmp 19) (.tmp 20) 22 22 rfl 5 Try.underlying22 size_u8 A 64 64 n c (G + 1) 0 rfl rfl (List.replicate 64 (Value.int .u8 0)) 49 Y2x.out (List.map bv key) Hn.out HKS.out HKF.out (bytes_oneCell _) ?_))
    intro v2 h1 h2
    have V2 : Hid (RowV v2 (G + 1) 49 (xrow (Sha.key64 key) 92 0)) := hide (by
      rw [xrow_zero, ← HK64.out, ← splice_zero _ HKL.out]; exact h1.out)
    replace V1 := hide (row_grown V1.out h2.out (by omega))
    replace Y3 := hide (row_grown Y3.out h2.out (by omega))
    replace Y5 := hide (below_of_grown' Y5.out h2.out Y5.out.size (by omega))
    replace Y6 : Hid (G + 2 ≤ v2.heap.size) := hide (by have := h2.out.size; have := Y6.out; omega)
    clear h1 h2 Y2x Y4 HKS Hn HKF
    go_upto_region 7 with (fail)
    go_wp2_with fail
    go_loopw [22] (fun v22 wq => ∃ i : Nat, i ≤ 64 ∧ v22 = .int .i64 i ∧ Hid (RowV wq G 49 (xrow (Sha.key64 key) 54 i)) ∧ Hid (RowV wq (G + 1) 49 (xrow (Sha.key64 key) 92 i)) ∧ Hid (RowV wq w.heap.size 26 (List.replicate 32 (.int .u8 0))) ∧ Hid (Below w.heap.size w wq) ∧ Hid (G + 2 ≤ wq.heap.size)) (fun v _ => 64 - (intOf v).toNat)
    case atStart => exact ⟨0, by omega, rfl, V1, V2, Y3, Y5, Y6⟩
    case round =>
      clear V1 V2 Y3 Y5 Y6
      obtain ⟨i, hi, rfl, V1, V2, R0, HW, HZ⟩ := hrel
      by_cases hlt : i < 64
      · obtain ⟨y, hy⟩ : ∃ y, (Sha.key64 key)[i]? = some y := ⟨_, List.getElem?_eq_getElem (by rw [Sha.key64_length]; exact hlt)⟩
        have c1 := V1.out.cell (xrow_at (x := 54) hy)
        have c2 := V2.out.cell (xrow_at (x := 92) hy)
        have f1 := V1.out.free i; have f2 := V2.out.free i
        have y256 := y.toNat_lt
        have q1 := u8_xor_nat y.toNat 54 y256 (by omega)
        have q2 := u8_xor_nat y.toNat 92 y256 (by omega)
        have HQ1 : Hid (bits .xor .u8 (y.toNat : Int) 54 = ((y ^^^ 54).toNat : Int)) := hide (by rw [UInt8.toNat_xor]; exact q1)
        have HQ2 : Hid (bits .xor .u8 (y.toNat : Int) 92 = ((y ^^^ 92).toNat : Int)) := hide (by rw [UInt8.toNat_xor]; exact q2)
        have W1 := hide ((V1.out.set i (.int .u8 ((y ^^^ 54).toNat : Int))).set_other (b := G + 1) (k := i) (v := .int .u8 ((y ^^^ 92).toNat : Int)) (by omega))
        rw [xrow_set hy] at W1
        have W2 := hide ((V2.out.set_other (b := G) (k := i) (v := .int .u8 ((y ^^^ 54).toNat : Int)) (by omega)).set i (.int .u8 ((y ^^^ 92).toNat : Int)))
        rw [xrow_set hy] at W2
        have W0 := hide ((R0.out.set_other (b := G) (k := i) (v := .int .u8 ((y ^^^ 54).toNat : Int)) (by omega)).set_other (b := G + 1) (k := i) (v := .int .u8 ((y ^^^ 92).toNat : Int)) (by omega))
        have WB := hide ((HW.out.setCell (p := ⟨G, i, none⟩) (by show w.heap.size ≤ G; omega) (.int .u8 ((y ^^^ 54).toNat : Int))).setCell (p := ⟨G + 1, i, none⟩) (by show w.heap.size ≤ G + 1; omega) (.int .u8 ((y ^^^ 92).toNat : Int)))
        have b1 : (0 : Int) ≤ (i : Int) := by omega
        have b2 : (i : Int) < 64 := by omega
        clear q1 q2 hy y256
        go_wp2_with fail
        go_roundw
        case rel =>
          refine ⟨i + 1, by omega, by go_num, ?_⟩
          rw [HQ1.out, HQ2.out]
          exact ⟨W1, W2, W0, WB, hide (by simpa using HZ.out)⟩
        case measure => simp [intOf]; omega
      · have hge : ¬ ((i : Int) < 64) := by omega
        replace V1 : Hid (RowV wr G 49 (((Sha.key64 key).map (· ^^^ 54)).map bv)) := hide (by
          rw [← xrow_end 54 (Sha.key64_length key)]; have := V1.out; rwa [show i = 64 by omega] at this)
        replace V2 : Hid (RowV wr (G + 1) 49 (((Sha.key64 key).map (· ^^^ 92)).map bv)) := hide (by
          rw [← xrow_end 92 (Sha.key64_length key)]; have := V2.out; rwa [show i = 64 by omega] at this)
        obtain ⟨I6, hI6⟩ : ∃ I, I = (Sha.key64 key).map (· ^^^ 54) := ⟨_, rfl⟩
        obtain ⟨O6, hO6⟩ : ∃ O, O = (Sha.key64 key).map (· ^^^ 92) := ⟨_, rfl⟩
        have hI64 : I6.length = 64 := by rw [hI6]; simp [Sha.key64_length]
        have hO64 : O6.length = 64 := by rw [hO6]; simp [Sha.key64_length]
        rw [← hI6] at V1; rw [← hO6] at V2
        have HMAC : Hid (Sha.mac key parts.flatten = Sha.sum (O6 ++ Sha.sum (I6 ++ parts.flatten))) := hide (by unfold Sha.mac; rw [← hI6, ← hO6])
        have HI64 := hide hI64; have HO64 := hide hO64
        clear hI6 hO6 hI64 hO64
        obtain ⟨hPl, vals, hvs0, hvals⟩ := HP.out
        have hwa := HW.out.alloc HW.out.size (.cells #[.slice (some ⟨G, 0, none⟩) 64 64] 22)
        have hvs := (hvs0.below hwa (Nat.le_refl _)).more hwa.size
        have HVS := hide hvs
        have HV1 : Hid (∀ u ∈ vals, u.oneCell' = true) := hide (fun u hu => by
          obtain ⟨j, hj⟩ := List.mem_iff_getElem?.1 hu
          have hjl : j < parts.length := by have := (List.getElem?_eq_some_iff.1 hj).1; have := hvs.1; omega
          obtain ⟨A', n', c', e1, _⟩ := hvals j _ (List.getElem?_eq_getElem hjl)
          rw [e1] at hj; injection hj with hj; subst hj; rfl)
        have OW : Hid (Own (wr.alloc (.cells #[.slice (some ⟨G, 0, none⟩) 64 64] 22)) w.heap.size 22 (some ⟨wr.heap.size, 0, none⟩) 1 1 [.slice (some ⟨G, 0, none⟩) 64 64]) := hide (Own.of_block (heap_alloc_new wr _) HW.out.size rfl (by decide))
        have OW2 : Hid (Own (wr.alloc (.cells #[.slice (some ⟨G, 0, none⟩) 64 64] 22)) wr.heap.size 22 (some ⟨wr.heap.size, 0, none⟩) 1 1 [.slice (some ⟨G, 0, none⟩) 64 64]) := hide (Own.of_block (heap_alloc_new wr _) (Nat.le_refl _) rfl (by decide))
        have HVV := hide hvals; have HPL := hide hPl; have HWA := hide hwa
        clear hPl hvs hvs0 hvals hwa
        go_wp2_with (at_builtin; go_must (with_reducible refine wpList_app rfl (.tmp 37) (.tmp 38) 36 rfl (.slice none 0 0) 24 Try.underlying36 info_sl rfl rfl OW.out rfl HVS.out HV1.out (by unfold maxLen; omega) (by omega) HWA.out.size ?_))
        intro A7 c7 w7 ho hgr _
        have hb7 : Below wr.heap.size wr w7 := below_of_grown ((Below.refl _ _).alloc (Nat.le_refl _) _) hgr (by simp) (OW2.out.row_ge)
        have B7 := hide (HW.out.trans (hb7.mono HW.out.size))
        replace V1 := hide (V1.out.below' hb7); replace V2 := hide (V2.out.below' hb7); replace R0 := hide (R0.out.below' hb7)
        have Z7 : Hid (G + 2 ≤ w7.heap.size) := hide (Nat.le_trans HZ.out hb7.size)
        have P7 : Hid (PartsAt w7 w7.heap.size A7 (1 + m) (I6 :: parts)) := hide (by
          have hbA : Below w.heap.size w w7 := B7.out
          refine ⟨by rw [List.length_cons, HPL.out]; omega, _, ho.sl, fun j x hj => ?_⟩
          match j, hj with
          | 0, hj =>
            injection hj with hj; subst hj
            exact ⟨_, 64, 64, rfl, SlB.of_block (rest := []) (by rw [List.append_nil]; exact V1.out) V1.out.lt HI64.out, by omega, by omega⟩
          | j + 1, hj =>
            obtain ⟨A', n', c', e1, e2, e3, e4⟩ := HVV.out j x (by simpa using hj)
            exact ⟨A', n', c', by simpa using e1, e2.up hbA, e3, e4⟩)
        clear ho hgr hb7 OW OW2 HVS HV1 HVV HWA HW HZ
        have hfl : (I6 :: parts).flatten.length ≤ 900000000000000000 := by rw [List.flatten_cons, List.length_append, HI64.out]; omega
        go_wp2_with fail
        refine (all_any (I6 :: parts) A7 (1 + m) c7 _ P7.out hfl (by omega)).mono ?_
        rintro e w8 ⟨rfl, hb⟩
        rw [List.flatten_cons]
        have B8 := hide (B7.out.trans (hb.mono B7.out.size))
        replace V2 := hide (V2.out.below' hb); replace R0 := hide (R0.out.below' hb)
        have Z8 : Hid (G + 2 ≤ w8.heap.size) := hide (Nat.le_trans Z7.out hb.size)
        obtain ⟨D, hD⟩ : ∃ D, D = Sha.sum (I6 ++ parts.flatten) := ⟨_, rfl⟩
        have hDl : D.length = 32 := by rw [hD]; exact Sha.sum_length _
        rw [← hD]; rw [← hD] at HMAC
        obtain ⟨C, hC⟩ : ∃ C, C = (D.map bv).toArray := ⟨_, rfl⟩
        have h1 : C.all (·.oneCell') = true := by rw [hC]; exact bytes_one _
        have hs : C.size = 32 := by rw [hC]; simp [hDl]
        rw [← hC]
        have HC := hide hC; have HSC := hide hs; have H1 := hide h1; have HDL := hide hDl
        clear hC hs h1 hb hD hDl P7 V1 B7 Z7 hfl
        go_upto_region 14 with ((with_reducible refine wpList_store_row rfl 26 (.tmp 9) (.tmp 40) rfl w8.heap.size C rfl rfl 26 _ (heap_alloc_new w8 _) ?q1 ?q2 H1.out ?_))
        case q1 => rw [HSC.out]; kernel_rfl
        case q2 => rw [HSC.out]; rfl
        refine wp_world (fun Z => RowV Z (G + 1) 49 (O6.map bv) ∧ RowV Z w8.heap.size 26 (D.map bv) ∧ RowV Z w.heap.size 26 (List.replicate 32 (.int .u8 0)) ∧ Below w.heap.size w Z ∧ w8.heap.size < Z.heap.size)
          ⟨(V2.out.alloc _).setRow (by have := Z8.out; omega), by unfold RowV; rw [← HC.out]; exact row_set (heap_alloc_new w8 _), (R0.out.alloc _).setRow (by have := Z8.out; omega), below_setRow (B8.out.alloc B8.out.size _) B8.out.size _, by simp⟩ ?_
        rintro Z ⟨z1, z2, z3, z4, z5⟩
        obtain ⟨G9, hG9⟩ : ∃ G9, G9 = w8.heap.size := ⟨_, rfl⟩
        rw [← hG9] at z2 z5 Z8 ⊢
        have Z1 := hide z1; have Z2 := hide z2; have Z3 := hide z3; have Z4 := hide z4; have Z5 := hide z5
        clear z1 z2 z3 z4 z5 hG9 V2 R0 B8 HC H1 HSC
        refine wp_region_still_tail 2 (by kernel_rfl) (by kernel_rfl) ?_
        change wpStill _ _ Z.drew _ _ _
        simp only [List.take_succ_cons, List.take_zero, List.drop_succ_cons, List.drop_zero]
        iterate 2 still_step
        refine wpStill_nil ?_
        change wpList _ _ _ _ _ Z.drew
        replace Z1 : Hid (RowV Z.drew (G + 1) 49 (O6.map bv)) := hide Z1.out
        replace Z2 : Hid (RowV Z.drew G9 26 (D.map bv)) := hide Z2.out
        replace Z3 : Hid (RowV Z.drew w.heap.size 26 (List.replicate 32 (.int .u8 0))) := hide Z3.out
        replace Z4 : Hid (Below w.heap.size w Z.drew) := hide Z4.out.drew
        generalize Z.drew = Q at Z1 Z2 Z3 Z4 ⊢
        go_wp2_with fail
        refine (all_any [O6, D] (some ⟨Q.heap.size, 0, none⟩) 2 2 _ (parts2 (SlB.of_block (rest := []) (by rw [List.append_nil]; exact Z1.out) Z1.out.lt HO64.out) (SlB.of_block (rest := []) (by rw [List.append_nil]; exact Z2.out) Z2.out.lt HDL.out) rfl (by omega) (by omega) (by omega) (by omega)) (by simp [HO64.out, HDL.out]) (by omega)).mono ?_
        rintro e w9 ⟨rfl, hb⟩
        rw [show [O6, D].flatten = O6 ++ D by simp, ← HMAC.out]
        have BA := hide (Z4.out.alloc Z4.out.size (.cells #[.slice (some ⟨G + 1, 0, none⟩) 64 64, .slice (some ⟨G9, 0, none⟩) 32 32] 22))
        have B9 := hide (BA.out.trans (hb.mono BA.out.size))
        have R9 : Hid (w9.heap[w.heap.size]? = some (.cells (List.replicate 32 (Value.int .u8 0)).toArray 26 (0, 0))) := hide ((Z3.out.alloc (.cells #[.slice (some ⟨G + 1, 0, none⟩) 64 64, .slice (some ⟨G9, 0, none⟩) 32 32] 22)).below' hb)
        obtain ⟨C, hC⟩ : ∃ C, C = ((Sha.mac key parts.flatten).map bv).toArray := ⟨_, rfl⟩
        have h1 : C.all (·.oneCell') = true := by rw [hC]; exact bytes_one _
        have hs : C.size = 32 := by rw [hC]; simp [Sha.mac, Sha.sum_length]
        rw [← hC]
        have HC := hide hC; have HSC := hide hs; have H1 := hide h1
        clear hC hs h1 hb
        go_wp2_with (with_reducible refine wpList_store_row rfl 26 (.tmp 4) (.tmp 44) rfl w.heap.size C rfl rfl 26 _ R9.out ?q3 ?q4 H1.out ?_)
        case q3 => rw [HSC.out]; kernel_rfl
        case q4 => rw [HSC.out]; rfl
        have HF := hide (row_set (cs := C) R9.out)
        have HG2 := hide (below_setRow (g := w.heap.size) B9.out (Nat.le_refl _) C)
        generalize w9.setRow w.heap.size C = X at HF HG2 ⊢
        exact bodyPost_ret (v := .agg C) (results_cell_row rfl _ _ w.heap.size 26 C (0, 0) _ rfl HF.out Try.underlying26 rfl (by rw [HSC.out]; kernel_rfl)) rfl ⟨by rw [HC.out], HG2.out⟩

end Go.Proofs.Ytgpldaphblphgaa
