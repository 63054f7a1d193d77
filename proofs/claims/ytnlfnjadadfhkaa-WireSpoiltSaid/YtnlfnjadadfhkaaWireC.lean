/-
  The walks of a writer's Text, Texts; NewWriter, four, Frame.
-/
import Derived.Test.YtnlfnjadadfhkaaWireB
import Derived.Test.YtnlfnjadadfhkaaStr
import Derived.StillTailTactics
import Derived.Deep.Cut
import Derived.Deep.RegionLaw
namespace Go.Proofs.Ytnlfnjadadfhkaa
open Go.RowKit

theorem own_ne {w : World} {base e G T n c : Nat} {A : Option Addr} {xs ys : List Value} (h : Own w base e A n c xs) (hR : RowV w G T ys) (hT : T ≠ e) : (Value.slice A n c).ownBlock ≠ some G := by
  rcases h.2 with ⟨h0, _⟩ | ⟨g, cap, cur, h0, _, hg, _⟩
  · rw [h0]; simp [Value.ownBlock]
  · rw [h0]
    intro e1
    have e2 : g = G := by simpa [Value.ownBlock] using e1
    subst e2
    rw [hR] at hg
    injection hg with hg; injection hg with _ hg _
    exact hT hg
/-- 'append(b, s...)' at a step of a region that draws its order -/
theorem step_appS {P : Program} {w : World} {base e n c : Nat} {A : Option Addr} {xs : List Value} {ops : Array Oper} {o : Oper} {a : Act} {K : Act → World → Prop} {Q : Exit → Act → World → Prop} {E : Prop} (hgd : o.guard = none) (sl x : Operand) (t u : TypeId)
    (ho : o.op = .call { callee := .builtin .append, args := #[sl, x], argTypes := #[t, u] })
    (ht : P.underlying t = some (.slice e)) (hu : P.underlying u = some .string) (hi : (P.info? e).map (fun i => (i.zero, i.size, i.bytes)) = some (some (.int .u8 0), 1, 1))
    (hs : a.eval sl = .slice A n c) (hown : Own w base e A n c xs) (bs : List UInt8) (hx : a.eval x = .string (strB bs))
    (h63 : n + bs.length ≤ maxLen) (hbytes : n + bs.length ≤ 140737488355328) (hbase : base ≤ w.heap.size)
    (h : ∀ A2 c2 w', Own w' base e A2 (n + bs.length) c2 (xs ++ bs.map bv) → w.grownBy w' (Value.slice A n c).ownBlock → K (a.put o.dst (.slice A2 (n + bs.length) c2)) w') :
    if Region.wanted o (yielded ops a.tmps) = true then Oper.wp P o a w K Q else E := by
  rw [if_pos (by simp [Region.wanted, hgd])]
  obtain ⟨i, hi0, hz, hsz, hb⟩ := info_parts hi
  obtain ⟨v', w', hr, h1, h2, _⟩ := Lib.run_append_own_string (P := P) w base t u o.type e i ht hu hi0 hz hsz hb _ n xs hown (strB bs) h63 hbytes hbase
  have shape : ∃ A2 c2, v' = .slice A2 (n + bs.length) c2 := by
    rcases h1.2 with ⟨h, h0⟩ | ⟨g, cap, cur, h, _⟩
    · exact ⟨none, 0, by rw [h]; congr 1; exact h0.symm⟩
    · exact ⟨_, _, h⟩
  obtain ⟨A2, c2, rfl⟩ := shape
  unfold Oper.wp execOp
  simp only [ho, resolve, invoke, builtin, Sem.run_bind, Sem.run_pure, Result.andThen_ok, List.map_toArray, List.map_cons, List.map_nil, hs, hx, hr]
  exact h A2 c2 w' h1 h2
theorem below_two {base : Nat} {w w1 w3 : World} (h1 : Below base w w1) (h2 : Below base w1.drew w3) : Below base w w3 := (h1.drew).trans h2
theorem str_take (s : ByteArray) (k : Nat) : s.extract 0 k = strB (s.data.toList.take k) := by
  obtain ⟨⟨l⟩⟩ := s
  apply strB_ext
  simp [ByteArray.data_extract]
set_option maxHeartbeats 1000000 in
set_option maxRecDepth 100000 in
theorem wtext_any (base G : Nat) (s : ByteArray) (bs : List UInt8) (bad : Int) (w : World) (hS : WSt w base G 76 bs bad) (hG : base ≤ G) (hs : s.size ≤ 9223372036854775807) (hlen : bs.length + 10 + 65536 ≤ 140737488355328) :
    Calls Try.prog 35 #[.pointer (some ⟨G, 0, none⟩), .string s] w fun e w' => e = .returned (.tuple #[]) ∧ WSt w' base G 76 (bs ++ Wire.text s.data.toList) bad ∧ Below base w w' := by
  have HS := hide hS; clear hS
  have hss : s.data.toList.length = s.size := rfl
  go_enter Try.func35, Try.ntmps35
  go_wp2_with fail
  refine (number_any base G _ s.size bs bad _ HS.out hG (by omega) (by omega)).mono ?_
  rintro e w1 ⟨rfl, h1, hb⟩
  have S1 := hide h1; have B1 := hide hb; clear h1 hb HS
  obtain ⟨A, c, hR, hO, hne⟩ := S1.out
  obtain ⟨q, hq⟩ : ∃ q, q = (bs ++ Wire.num s.size).length := ⟨_, rfl⟩
  rw [← hq] at hR hO hne
  have hql : q + 65536 ≤ 140737488355328 := by rw [hq]; have := Wire.num_length s.size; simp; omega
  have c0 := hR.cell (k := 0) rfl
  have f0 := hR.free 0
  have HR := hide hR; have HO := hide hO; have HNE := hide hne; have HQ := hide hq
  clear hR hO hne hq S1
  obtain ⟨k, hk⟩ : ∃ k, k = min s.size 65536 := ⟨_, rfl⟩
  have hmin : (if (65536 : Int) < (s.size : Int) then (65536 : Int) else (s.size : Int)) = (k : Int) := by
    rw [hk]; split <;> omega
  have k1 : (0 : Int) ≤ (k : Int) := by omega
  have k2 : (k : Int) ≤ (s.size : Int) := by omega
  obtain ⟨ts, hts⟩ : ∃ ts, ts = s.data.toList.take k := ⟨_, rfl⟩
  have hex : s.extract 0 k = strB ts := by rw [hts]; exact str_take s k
  have htl : ts.length ≤ 65536 := by rw [hts]; simp; omega
  have HTS : Hid (Wire.text s.data.toList = Wire.num s.size ++ ts) := hide (by
    unfold Wire.text
    rw [hts, hss]
    congr 1
    by_cases h : s.size ≤ 65536
    · rw [List.take_of_length_le (by omega), List.take_of_length_le (by omega)]
    · rw [show k = 65536 by omega])
  have HTL := hide htl
  clear hts hk htl
  go_upto_region 2 with (fail)
  have hq1 : q + ts.length ≤ maxLen := by unfold maxLen; have := HTL.out; omega
  have hq2 : q + ts.length ≤ 140737488355328 := by have := HTL.out; omega
  have HSZ : Hid (base ≤ w1.drew.heap.size) := hide (by have := HR.out.lt; rw [World.size_drew]; omega)
  have HOD : Hid (Own w1.drew base 5 A q c ((bs ++ Wire.num s.size).map bv)) := hide HO.out.drew
  have HFIN : Hid (∀ (X : World) (A3 : Option Addr) (c3 : Nat), RowV X G 76 [.slice A3 (q + ts.length) c3, .int .i64 bad] → Own X base 5 A3 (q + ts.length) c3 ((bs ++ Wire.num s.size).map bv ++ ts.map bv) → (Value.slice A3 (q + ts.length) c3).ownBlock ≠ some G → WSt X base G 76 (bs ++ Wire.text s.data.toList) bad) := hide (fun X A3 c3 h1 h2 h3 => by
    have hL : (bs ++ Wire.text s.data.toList).length = q + ts.length := by rw [HTS.out, HQ.out]; simp [Nat.add_assoc]
    refine ⟨A3, c3, ?_, ?_, ?_⟩
    · rw [hL]; exact h1
    · rw [hL, HTS.out, ← List.append_assoc, List.map_append]; exact h2
    · rw [hL]; exact h3)
  go_region_law (
    refine step_appS ?_ (.tmp 18) (.tmp 23) 24 9 ?_ Try.underlying24 Try.underlying9 info_u8 ?_ HOD.out ts ?_ hq1 hq2 HSZ.out ?_
    rfl
    rfl
    rfl
    rfl
    intro A3 c3 w3 ho hgr
    have R3 : RowV w3 G 76 [.slice A q c, .int .i64 bad] := (hgr.block G (by have := HR.out.lt; rw [World.size_drew]; exact this) (fun h => HNE.out h.symm)).trans HR.out
    have N3 := hide (own_ne ho R3 (by decide))
    have d0 := R3.cell (k := 0) rfl
    have g0 := R3.free 0
    have HR3 := hide R3; have O3 := hide ho
    have B3 : Hid (Below base w1.drew w3) := hide (below_of_grown (Below.refl _ _) hgr HSZ.out HO.out.row_ge)
    clear R3 ho hgr)
  all_goals go_end0
  all_goals exact ⟨rfl, HFIN.out _ A3 c3 (HR3.out.set 0 _) (ownsRow_setCell_other O3.out (a := ⟨G, 0, none⟩) N3.out _) N3.out, (below_two B1.out B3.out).setCell (p := ⟨G, 0, none⟩) hG _⟩

/-- texts, as they are written -/
def Wire.texts (ss : List ByteArray) : List UInt8 := (ss.map fun s => Wire.text s.data.toList).flatten
theorem Wire.text_length (s : List UInt8) : (Wire.text s).length ≤ 65546 := by
  unfold Wire.text
  have := Wire.num_length s.length
  simp; omega
theorem Wire.texts_length (ss : List ByteArray) : (Wire.texts ss).length ≤ 65546 * ss.length := by
  induction ss with
  | nil => simp [Wire.texts]
  | cons s t ih =>
    have h1 := Wire.text_length s.data.toList
    unfold Wire.texts at ih ⊢
    simp only [List.map_cons, List.flatten_cons, List.length_append, List.length_cons]
    omega
theorem Wire.texts_step {ss : List ByteArray} {i : Nat} {s : ByteArray} (h : ss[i]? = some s) : Wire.texts (ss.take (i + 1)) = Wire.texts (ss.take i) ++ Wire.text s.data.toList := by
  unfold Wire.texts
  rw [List.take_add_one, h]; simp
set_option maxHeartbeats 1000000 in
theorem wtexts_any (base G : Nat) (A : Option Addr) (n c : Nat) (ss : List ByteArray) (bs : List UInt8) (bad : Int) (w : World) (hS : WSt w base G 76 bs bad) (hG : base ≤ G) (hl : Sl w base A n (ss.map Value.string)) (hss : ∀ s ∈ ss, s.size ≤ 9223372036854775807) (hn : n ≤ 9223372036854775807) (hlen : bs.length + 10 + 65546 * 4096 + 65546 ≤ 140737488355328) :
    Calls Try.prog 38 #[.pointer (some ⟨G, 0, none⟩), .slice A n c] w fun e w' => e = .returned (.tuple #[]) ∧ WSt w' base G 76 (bs ++ (if n ≤ 4096 then Wire.num n ++ Wire.texts ss else [])) (if n ≤ 4096 then bad else Wire.first bad 3) ∧ Below base w w' := by
  have HS := hide hS; have HL := hide hl; have HN := hide (show ss.length = n by have := hl.1; simpa using this); have HSS := hide hss
  clear hS hl hss
  have hcnt := wcount_any base G (n : Int) bs bad w HS.out hG (by omega) (by omega)
  have HCNT := hide hcnt; clear hcnt
  by_cases h4 : n ≤ 4096
  · rw [if_pos h4, if_pos h4]
    have HE : Hid (Wire.cnt (n : Int) = Wire.num n ∧ Wire.cntBad (n : Int) bad = bad) := hide (by unfold Wire.cnt Wire.cntBad; rw [if_neg (by omega), if_neg (by omega)]; exact ⟨rfl, rfl⟩)
    have hi : ¬ ((4096 : Int) < (n : Int)) := by omega
    go_enter Try.func38, Try.ntmps38
    go_wp2_with fail
    refine HCNT.out.mono ?_
    rintro e w1 ⟨rfl, hs, hb⟩
    rw [HE.out.1, HE.out.2] at hs
    have S1 : Hid (WSt w1 base G 76 (bs ++ Wire.num n ++ Wire.texts (ss.take 0)) bad) := hide (by simpa [Wire.texts] using hs)
    have B1 := hide hb; clear hs hb HS HCNT HE
    go_wp2_with fail
    go_loopw [15] (fun v15 wq => ∃ i : Nat, i ≤ n ∧ v15 = .int .i64 i ∧ Hid (WSt wq base G 76 (bs ++ Wire.num n ++ Wire.texts (ss.take i)) bad) ∧ Hid (Below base w wq)) (fun v _ => n - (intOf v).toNat)
    case atStart => exact ⟨0, by omega, rfl, S1, B1⟩
    case round =>
      clear S1 B1
      obtain ⟨i, hi2, rfl, S, B⟩ := hrel
      by_cases hlt : i < n
      · obtain ⟨s, hs⟩ : ∃ s, ss[i]? = some s := ⟨ss[i]'(by rw [HN.out]; exact hlt), List.getElem?_eq_getElem _⟩
        have hsl := HL.out.below B.out (Nat.le_refl _)
        obtain ⟨b, off, u, rfl, hbb, hu, cc⟩ := hsl.at_ hlt
        rw [List.getElem?_map, hs] at hu
        injection hu with hu; subst hu
        have hsz := HSS.out s (List.mem_of_getElem? hs)
        have HST := hide (Wire.texts_step hs)
        have HLN : Hid ((bs ++ Wire.num n ++ Wire.texts (ss.take i)).length + 10 + 65536 ≤ 140737488355328) := hide (by
          have h1 := Wire.texts_length (ss.take i)
          have h2 := Wire.num_length n
          simp only [List.length_append, List.length_take] at h1 ⊢
          have : min i ss.length ≤ 4095 := by omega
          have : 65546 * min i ss.length ≤ 65546 * 4095 := Nat.mul_le_mul_left _ this
          omega)
        have b1 : (0 : Int) ≤ (i : Int) := by omega
        have b2 : (i : Int) < (n : Int) := by omega
        clear hsl hs
        go_wp2_with fail
        refine (wtext_any base G s _ bad _ S.out hG hsz HLN.out).mono ?_
        rintro e w2 ⟨rfl, h1, hb⟩
        rw [List.append_assoc, ← HST.out] at h1
        have S2 := hide h1; have B2 := hide (B.out.trans hb); clear h1 hb S B
        go_wp2_with fail
        go_roundw
        case rel => exact ⟨i + 1, by omega, by go_num, S2, B2⟩
        case measure => simp [intOf]; omega
      · have HF : Hid (ss.take i = ss) := hide (List.take_of_length_le (by rw [HN.out]; omega))
        have hge : ¬ ((i : Int) < (n : Int)) := by omega
        rw [HF.out] at S
        go_wp2_with fail
        go_end0
        exact ⟨rfl, by rw [← List.append_assoc]; exact S.out, B.out⟩
  · rw [if_neg h4, if_neg h4]
    have HE : Hid (Wire.cnt (n : Int) = [] ∧ Wire.cntBad (n : Int) bad = Wire.first bad 3) := hide (by unfold Wire.cnt Wire.cntBad; rw [if_pos (by omega), if_pos (by omega)]; exact ⟨rfl, rfl⟩)
    have hi : (4096 : Int) < (n : Int) := by omega
    go_enter Try.func38, Try.ntmps38
    go_wp2_with fail
    refine HCNT.out.mono ?_
    rintro e w1 ⟨rfl, hs, hb⟩
    rw [HE.out.1, HE.out.2] at hs
    have S1 := hide hs; have B1 := hide hb; clear hs hb HS HCNT HE
    go_wp2_with fail
    exact bodyPost_ret (results_none rfl _ _ _) rfl ⟨rfl, S1.out, B1.out⟩
theorem newwriter_any (w : World) : Calls Try.prog 27 #[] w fun e w' => e = .returned (.pointer (some ⟨w.heap.size, 0, none⟩)) ∧ WSt w' w.heap.size w.heap.size 76 [] 0 ∧ Below w.heap.size w w' := by
  go_enter Try.func27, Try.ntmps27
  go_wp2_with fail
  go_ret
  exact ⟨rfl, ⟨none, 0, heap_alloc_new w _, Own.nil_, by simp [Value.ownBlock]⟩, (Below.refl _ _).alloc (Nat.le_refl _) _⟩
end Go.Proofs.Ytnlfnjadadfhkaa
