/-
  Lease: the document's Holders.
-/
import Derived.Test.YtigeccflfdekiaaLeaseS
namespace Go.Proofs.Ytigeccflfdekiaa
open Go.RowKit
set_option linter.unusedVariables false

theorem holdI_S (G : ByteArray → Int → Bool) (fam : ByteArray) (now term : Int) (N : ByteArray → Int → Option Int) (ls : List Int) (x : Int) : (holdI G fam now term N ls).S x = decide (x ∈ ls ∧ G fam x = false) := by
  suffices h : ∀ st : Hold, (ls.foldl (holdStep G fam now term) st).S x = (st.S x || decide (x ∈ ls ∧ G fam x = false)) by
    have := h ⟨N, fun _ => false, []⟩
    simpa [holdI] using this
  induction ls with
  | nil => intro st; simp
  | cons e ls ih =>
    intro st
    rw [List.foldl_cons, ih]
    unfold holdStep
    by_cases hc : st.S e = true ∨ G fam e = true
    · rw [if_pos hc]
      by_cases hx : x = e
      · subst hx
        rcases hc with h | h
        · rw [h]; simp
        · rw [h]; simp
      · simp [hx]
    · rw [if_neg hc]
      by_cases hx : x = e
      · subst hx
        have : G fam x = false := by cases h : G fam x; rfl; exact absurd (.inr h) hc
        simp [this]
      · simp [hx]
theorem RTurn.refl {w : World} {q n c : Nat} {A : Option Addr} {L : List RN} {term : Int} {N : ByteArray → Int → Option Int} {G : ByteArray → Int → Bool} (hd : RDesk w q A n c L term) (hN : ∀ s e, getN L s e = N s e) (hG : ∀ s e, getG L s e = G s e) : RTurn w w q A n c A n c L term N G := ⟨hd, But.refl _ _, fun k h => .inl h, hN, hG⟩
theorem RTurn.below {w w' w'' : World} {q n c n' c' : Nat} {A A' : Option Addr} {L' : List RN} {term : Int} {N : ByteArray → Int → Option Int} {G : ByteArray → Int → Bool} (h : RTurn w w' q A n c A' n' c' L' term N G) (hb : Below w'.heap.size w' w'') : RTurn w w'' q A n c A' n' c' L' term N G :=
  ⟨h.desk.below hb, h.but.trans (But.of_below hb), h.new, h.N, h.G⟩
theorem RTurn.trans {w w' w'' : World} {q n c n' c' n'' c'' : Nat} {A A' A'' : Option Addr} {L' L'' : List RN} {term : Int} {N N' : ByteArray → Int → Option Int} {G G' : ByteArray → Int → Bool} (h : RTurn w w' q A n c A' n' c' L' term N G) (h' : RTurn w' w'' q A' n' c' A'' n'' c'' L'' term N' G') : RTurn w w'' q A n c A'' n'' c'' L'' term N' G' :=
  ⟨h'.desk, ⟨h'.but.os.trans h.but.os, h'.but.tape.trans h.but.tape, h'.but.output.trans h.but.output, Nat.le_trans h.but.size h'.but.size, fun k hk hS => (h'.but.block k (Nat.lt_of_lt_of_le hk h.but.size) (fun hk' => (h.new k hk').elim hS (fun hle => by omega))).trans (h.but.block k hk hS)⟩,
    fun k hk => (h'.new k hk).elim (fun h1 => h.new k h1) (fun h1 => .inr (Nat.le_trans h.but.size h1)), h'.N, h'.G⟩
/-- what a row of the call's own grows by leaves the desk as it was -/
theorem RTurn.grown {w w' w'' : World} {q n c n' c' : Nat} {A A' : Option Addr} {L' : List RN} {term : Int} {N : ByteArray → Int → Option Int} {G : ByteArray → Int → Bool} {row : Option Nat} (h : RTurn w w' q A n c A' n' c' L' term N G) (hg : w'.grownBy w'' row) (hr : ∀ k, row = some k → w.heap.size ≤ k ∧ ¬ RB q A' n' c' k) : RTurn w w'' q A n c A' n' c' L' term N G :=
  ⟨h.desk.but (But.of_row (S := fun k => row = some k) hg (fun k hk => hk)) (fun k hk hk' => (hr k hk').2 hk), h.but.grown_row hg (fun k hk => .inr (hr k hk).1), h.new, h.N, h.G⟩
theorem mem_take_succ {ls : List Int} {k : Nat} {x e : Int} (hx : ls[k]? = some x) : decide (e ∈ ls.take (k + 1)) = (decide (e ∈ ls.take k) || decide (x = e)) := by
  rw [List.take_add_one, hx]; simp [eq_comm]
set_option maxHeartbeats 8000000 in
set_option maxRecDepth 100000 in
theorem rholders_any (q n c : Nat) (A : Option Addr) (L : List RN) (term : Int) (fam : ByteArray) (AL : Option Addr) (m cl : Nat) (ls : List Int) (now : Int) (w : World) (hd : RDesk w q A n c L term) (hsl : Sl w w.heap.size AL m (ls.map (Value.int .i64)))
    (hfar : ∀ b o, 0 < m → AL = some ⟨b, o, none⟩ → ¬ RB q A n c b) (hls : ∀ z ∈ ls, I64 z) (hmm : m ≤ 100000) (hn : n ≤ 800000) (hnow : I64 now) (hterm : I64 term) (N : ByteArray → Int → Option Int) (G : ByteArray → Int → Bool) (hN : ∀ s e, getN L s e = N s e) (hG : ∀ s e, getG L s e = G s e) :
    Calls Try.prog 30 #[.pointer (some ⟨q, 0, none⟩), .string fam, .slice AL m cl, .int .i64 now] w fun en w' => ∃ A2 c2, en = .returned (.slice A2 (holdI G fam now term N ls).out.length c2) ∧ Hid (Own w' w.heap.size 3 A2 (holdI G fam now term N ls).out.length c2 ((holdI G fam now term N ls).out.map (Value.int .i64))) ∧ ∃ A' n' c' L', n' ≤ n + m ∧ Hid (RTurn w w' q A n c A' n' c' L' term (holdI G fam now term N ls).N G) := by
  have T0 := hide (RTurn.refl hd hN hG)
  have hlen : ls.length = m := by simpa using hsl.1
  have HSL := hide hsl; have HLS := hide hls; have HFAR := hide hfar; have HML := hide hlen
  clear hd hsl hls hN hG hfar hlen
  go_enter Try.func30, Try.ntmps30
  go_wp2_with fail
  go_loopw [9, 10] (fun v9 v10 wq => ∃ (i : Nat) (A2 : Option Addr) (c2 : Nat) (A1 : Option Addr) (n1 c1 : Nat) (L1 : List RN), i ≤ m ∧ v10 = .int .i64 i ∧ v9 = .slice A2 (holdI G fam now term N (ls.take i)).out.length c2 ∧ n1 ≤ n + i ∧ Hid (Own wq w.heap.size 3 A2 (holdI G fam now term N (ls.take i)).out.length c2 ((holdI G fam now term N (ls.take i)).out.map (Value.int .i64))) ∧ Hid (RTurn w wq q A n c A1 n1 c1 L1 term (holdI G fam now term N (ls.take i)).N G) ∧ Hid (∀ k, (Value.slice A2 (holdI G fam now term N (ls.take i)).out.length c2).ownBlock = some k → ¬ RB q A1 n1 c1 k)) (fun _ v _ => m - (intOf v).toNat)
  case atStart => exact ⟨0, none, 0, A, n, c, L, by omega, rfl, rfl, by omega, hide Own.nil_, T0, hide (fun k hk => by cases hk)⟩
  case round =>
    clear T0
    obtain ⟨i, A2, c2, A1, n1, c1, L1, hi, rfl, rfl, hn1, O, T, DI⟩ := hrel
    by_cases hlt : i < m
    · obtain ⟨e, he⟩ : ∃ e, ls[i]? = some e := ⟨_, List.getElem?_eq_getElem (by rw [HML.out]; exact hlt)⟩
      have hsnoc : ls.take (i + 1) = ls.take i ++ [e] := by rw [List.take_add_one, he]; rfl
      have HEI : Hid (I64 e) := hide (HLS.out e (List.mem_of_getElem? he))
      have HSTEP : Hid (holdI G fam now term N (ls.take (i + 1)) = holdStep G fam now term (holdI G fam now term N (ls.take i)) e) := hide (by rw [hsnoc, holdI_snoc])
      obtain ⟨b, off, hAL, hb, hc⟩ := HSL.out.2 (by omega)
      have HC : Hid (∀ k x, ls[k]? = some x → wr.cell? ⟨b, off + k, none⟩ = some (.int .i64 x)) := hide (fun k x hx => by
        refine (T.out.but.cell (p := ⟨b, off + k, none⟩) hb (HFAR.out b off (by omega) hAL)).trans (hc k _ ?_)
        rw [List.getElem?_map, hx]; rfl)
      subst hAL
      have HE := hide he
      have HLEN : Hid ((holdI G fam now term N (ls.take i)).out.length ≤ 100000) := hide (by have := holdI_len G fam now term N (ls.take i); rw [List.length_take] at this; omega)
      have HSE : Hid ((holdI G fam now term N (ls.take i)).S e = decide (e ∈ ls.take i ∧ G fam e = false)) := hide (holdI_S ..)
      clear hsnoc he hc
      obtain ⟨hh, hhe⟩ : ∃ hh, hh = holdI G fam now term N (ls.take i) := ⟨_, rfl⟩
      rw [← hhe] at O T DI HSTEP HLEN HSE ⊢
      clear hhe
      obtain ⟨wo, rfl⟩ : ∃ wo : World, wo = wr := ⟨_, rfl⟩
      go_wp2_with fail
      go_loopw [11, 12] (fun v11 v12 wq => ∃ (k : Nat) (tw : Bool), k ≤ i ∧ v12 = .int .i64 k ∧ v11 = .bool tw ∧ Hid (tw = decide (e ∈ ls.take k)) ∧ Hid (Below wo.heap.size wo wq)) (fun _ v _ => i - (intOf v).toNat)
      case atStart => exact ⟨0, false, by omega, rfl, rfl, hide (by simp), hide (Below.refl _ _)⟩
      case round =>
        obtain ⟨k, tw, hk, rfl, rfl, HTW, BI⟩ := hrel
        by_cases hk2 : k < i
        · obtain ⟨x, hx⟩ : ∃ x, ls[k]? = some x := ⟨_, List.getElem?_eq_getElem (by rw [HML.out]; omega)⟩
          have HMEM : Hid (decide (e ∈ ls.take (k + 1)) = (decide (e ∈ ls.take k) || decide (x = e))) := hide (mem_take_succ hx)
          have cx : wr.cell? ⟨b, off + k, none⟩ = some (.int .i64 x) := (BI.out.cell (p := ⟨b, off + k, none⟩) (Nat.lt_of_lt_of_le hb T.out.but.size)).trans (HC.out k x hx)
          have ce : wr.cell? ⟨b, off + i, none⟩ = some (.int .i64 e) := (BI.out.cell (p := ⟨b, off + i, none⟩) (Nat.lt_of_lt_of_le hb T.out.but.size)).trans (HC.out i e HE.out)
          have hki : (k : Int) < (i : Int) := by omega
          have hk0 : (0 : Int) ≤ (k : Int) := by omega
          have hkm : (k : Int) < (m : Int) := by omega
          have him : (i : Int) < (m : Int) := by omega
          have hi0 : (0 : Int) ≤ (i : Int) := by omega
          clear hx
          cases tw
          · by_cases hxe : x = e
            · have hxb : (x == e) = true := by rw [hxe]; simp
              have HT2 : Hid (true = decide (e ∈ ls.take (k + 1))) := hide (by rw [HMEM.out]; simp [hxe])
              clear hxe
              go_wp2_with fail
              go_quiet (fail)
              go_wp2_with fail
              go_roundw
              case rel => exact ⟨k + 1, true, by omega, by go_num, rfl, HT2, hide (below_drewN BI.out _)⟩
              case measure => simp [intOf]; omega
            · have hxb : (x == e) = false := by rw [beq_eq_false_iff_ne]; exact hxe
              have HT2 : Hid (false = decide (e ∈ ls.take (k + 1))) := hide (by rw [HMEM.out, ← HTW.out]; simp [hxe])
              clear hxe
              go_wp2_with fail
              go_quiet (fail)
              go_wp2_with fail
              go_roundw
              case rel => exact ⟨k + 1, false, by omega, by go_num, rfl, HT2, hide (below_drewN BI.out _)⟩
              case measure => simp [intOf]; omega
          · have HT2 : Hid (true = decide (e ∈ ls.take (k + 1))) := hide (by rw [HMEM.out, ← HTW.out]; rfl)
            go_wp2_with fail
            go_quiet (fail)
            go_wp2_with fail
            go_roundw
            case rel => exact ⟨k + 1, true, by omega, by go_num, rfl, HT2, hide (below_drewN BI.out _)⟩
            case measure => simp [intOf]; omega
        · have hki : ¬ ((k : Int) < (i : Int)) := by omega
          obtain rfl : k = i := by omega
          have ce : wr.cell? ⟨b, off + k, none⟩ = some (.int .i64 e) := (BI.out.cell (p := ⟨b, off + k, none⟩) (Nat.lt_of_lt_of_le hb T.out.but.size)).trans (HC.out k e HE.out)
          have HC0 : Hid (w.cell? ⟨b, off + k, none⟩ = some (.int .i64 e)) := hide (by
            obtain ⟨b', off', h1, _, h3⟩ := HSL.out.2 (by omega)
            injection h1 with h1; injection h1 with e1 e2 _
            subst e1; subst e2
            exact h3 k _ (by rw [List.getElem?_map, HE.out]; rfl))
          have O1 := hide (O.out.below BI.out); have T1 := hide (T.out.below BI.out)
          clear O T HC BI hk hk2 hki
          have hkm : (k : Int) < (m : Int) := by omega
          have hk0 : (0 : Int) ≤ (k : Int) := by omega
          by_cases hsk : e ∈ ls.take k ∨ G fam e = true
          · have HST : Hid (holdI G fam now term N (ls.take (k + 1)) = hh) := hide (by
              rw [HSTEP.out]
              unfold holdStep
              rw [if_pos ?_]
              rw [HSE.out]
              cases hG : G fam e
              · rcases hsk with h | h
                · exact .inl (by simp [h])
                · rw [hG] at h; cases h
              · exact .inr rfl)
            cases tw
            · have hg : G fam e = true := hsk.elim (fun h => by have := HTW.out; rw [decide_eq_true h] at this; cases this) id
              have hfi : 0 ≤ findI L1 fam e true := by
                have h1 := T1.out.G fam e
                rw [hg, getG_idx] at h1
                unfold findI
                cases hc : idxR L1 fam e true with
                | none => rw [hc] at h1; cases h1
                | some j => simp only; omega
              have KF := hide (find_any q n1 c1 A1 L1 term fam e true wr T1.out.desk (by omega))
              obtain ⟨fi, hfi2⟩ : ∃ fi, fi = findI L1 fam e true := ⟨_, rfl⟩
              rw [← hfi2] at KF hfi
              clear hfi2 hg hsk HTW HSE HSTEP
              go_wp2_with fail
              refine KF.out.mono ?_
              rintro en w' ⟨rfl, rfl⟩
              go_wp2_with fail
              refine ⟨⟨k + 1, A2, c2, A1, n1, c1, L1, by omega, by go_num, ?_⟩, by simp [intOf]; omega⟩
              rw [HST.out]
              exact ⟨rfl, by omega, O1, T1, DI⟩
            · clear hsk HTW HSE HSTEP
              go_wp2_with fail
              refine ⟨⟨k + 1, A2, c2, A1, n1, c1, L1, by omega, by go_num, ?_⟩, by simp [intOf]; omega⟩
              rw [HST.out]
              exact ⟨rfl, by omega, O1, T1, DI⟩
          · have hnot : ¬ (hh.S e = true ∨ G fam e = true) := by
              rw [HSE.out]
              intro h
              rcases h with h | h
              · exact hsk (.inl (of_decide_eq_true h).1)
              · exact hsk (.inr h)
            have HST : Hid (holdI G fam now term N (ls.take (k + 1)) = ⟨lookN hh.N fam e now, fun e' => decide (e' = e) || hh.S e', if overB ((lookN hh.N fam e now fam e).getD 0) now term = true then hh.out else hh.out ++ [e]⟩) := hide (by rw [HSTEP.out]; unfold holdStep; rw [if_neg hnot])
            have htw : tw = false := by rw [HTW.out]; exact decide_eq_false (fun h => hsk (.inl h))
            have hg : G fam e = false := by cases h : G fam e; rfl; exact absurd (.inr h) hsk
            subst htw
            have hf1 : findI L1 fam e true = -1 := by
              have h1 := T1.out.G fam e
              rw [hg, getG_idx] at h1
              unfold findI
              cases hc : idxR L1 fam e true with
              | none => rfl
              | some j => rw [hc] at h1; cases h1
            have KF := hide (find_any q n1 c1 A1 L1 term fam e true wr T1.out.desk (by omega))
            rw [hf1] at KF
            have KF2 := hide (find_any q n1 c1 A1 L1 term fam e false wr T1.out.desk (by omega))
            clear hf1 hg hsk hnot HTW HSE HSTEP
            go_wp2_with fail
            refine KF.out.mono ?_
            rintro en w' ⟨rfl, rfl⟩
            go_upto_region 11 with (fail)
            clear KF
            obtain ⟨fi, hfi⟩ : ∃ fi, fi = findI L1 fam e false := ⟨_, rfl⟩
            rw [← hfi] at KF2
            have HFI := hide hfi
            clear hfi
            go_wp2_with fail
            refine KF2.out.mono ?_
            rintro en w' ⟨rfl, rfl⟩
            clear KF2
            go_upto_if 54 with (fail)
            go_cut [] (fun wx => ∃ (A3 : Option Addr) (n3 c3 : Nat) (L3 : List RN), n3 ≤ n + (k + 1) ∧ Hid (RTurn w wx q A n c A3 n3 c3 L3 term (lookN hh.N fam e now) G) ∧ Hid (Own wx w.heap.size 3 A2 hh.out.length c2 (hh.out.map (Value.int .i64))) ∧ Hid (∀ k, (Value.slice A2 hh.out.length c2).ownBlock = some k → ¬ RB q A3 n3 c3 k) ∧ Hid (wx.cell? ⟨b, off + k, none⟩ = some (.int .i64 e)))
            case first =>
              cases hix : idxR L1 fam e false with
              | none =>
                have hf0 : fi = -1 := by rw [HFI.out]; unfold findI; rw [hix]
                have hn0 : hh.N fam e = none := by rw [← T1.out.N]; exact getN_none.1 hix
                have HNL : Hid (noteN hh.N fam e now = lookN hh.N fam e now) := hide (by unfold noteN lookN; rw [hn0])
                have hneg : fi < 0 := by omega
                have KR := hide (rnote_any q n1 c1 A1 L1 term fam e now wr T1.out.desk (by omega) hnow hh.N G T1.out.N T1.out.G)
                clear hix hf0 hn0 HFI
                go_wp2_with fail
                refine KR.out.mono ?_
                rintro en w3 ⟨rfl, A3, n3, c3, L3, hn3, hT⟩
                have T3 := hide (T1.out.trans (HNL.out ▸ hT))
                have O3 : Hid (Own w3 w.heap.size 3 A2 hh.out.length c2 (hh.out.map (Value.int .i64))) := hide (OwnS.but_row (OwnS.of_own O1.out) hT.but (fun k hk => DI.out k hk))
                have D3 : Hid (∀ k, (Value.slice A2 hh.out.length c2).ownBlock = some k → ¬ RB q A3 n3 c3 k) := hide (fun k hk h => (hT.new k h).elim (DI.out k hk) (fun hle => by have := O1.out.row_lt k hk; omega))
                have C3 : Hid (w3.cell? ⟨b, off + k, none⟩ = some (.int .i64 e)) := hide ((T3.out.but.cell (p := ⟨b, off + k, none⟩) hb (HFAR.out b off (by omega) rfl)).trans (HC0.out))
                clear hT ce
                go_wp2_with fail
                go_meet
                exact ⟨A3, n3, c3, L3, by omega, T3, O3, D3, C3⟩
              | some j =>
                obtain ⟨x, hx, _⟩ := idx_some hix
                have hf0 : fi = (j : Int) := by rw [HFI.out]; unfold findI; rw [hix]
                have hn0 : hh.N fam e = some x.a := by rw [← T1.out.N]; exact getN_some hix hx
                have HNL : Hid (hh.N = lookN hh.N fam e now) := hide (by unfold lookN; rw [hn0])
                have hneg : 0 ≤ fi := by omega
                have CE := hide ce
                clear hix hf0 hn0 HFI hx ce
                go_wp2_with fail
                go_meet
                exact ⟨A1, n1, c1, L1, by omega, hide (HNL.out ▸ T1.out), O1, DI, CE⟩
            case rest =>
              clear T1 O1 DI HFI ce
              obtain ⟨A3, n3, c3, L3, hn3, T3, O3, D3, C3⟩ := hcut
              obtain ⟨j, x, hj, hx, HGET⟩ : ∃ j x, idxR L3 fam e false = some j ∧ L3[j]? = some x ∧ Hid ((lookN hh.N fam e now fam e).getD 0 = x.a) := by
                cases hix : idxR L3 fam e false with
                | none =>
                  have h1 := getN_none.1 hix
                  rw [T3.out.N] at h1
                  unfold lookN at h1
                  cases hc : hh.N fam e with
                  | none => rw [hc] at h1; simp [setN] at h1
                  | some a => rw [hc] at h1; simp only at h1; rw [hc] at h1; cases h1
                | some j =>
                  obtain ⟨x, hx, _⟩ := idx_some hix
                  exact ⟨j, x, rfl, hx, hide (by rw [← T3.out.N, getN_some hix hx]; rfl)⟩
              have hf3 : findI L3 fam e false = (j : Int) := by unfold findI; rw [hj]
              have hjn : j < n3 := by rw [← T3.out.desk.len]; exact (List.getElem?_eq_some_iff.1 hx).1
              have hia : I64 x.a := T3.out.desk.at64 x (List.mem_of_getElem? hx)
              obtain ⟨gd, od, x2, rfl, HO, HOB, hx2, _, _, kx, _, _⟩ := T3.out.desk.at_ hjn
              obtain rfl : x = x2 := Option.some.inj (hx.symm.trans hx2)
              obtain ⟨a, ha⟩ : ∃ a, a = x.a := ⟨_, rfl⟩
              rw [← ha] at kx hia HGET
              have hgl : gd < wc.heap.size := T3.out.desk.own.row_lt gd HOB.out
              have hbl : b < wc.heap.size := Nat.lt_of_lt_of_le hb T3.out.but.size
              have KF3 : Hid (∀ p : Ext wc, Calls Try.prog 31 #[.pointer (some ⟨q, 0, none⟩), .string fam, .int .i64 e, .bool false] (extW wc p) fun en w' => en = .returned (.int .i64 (j : Int)) ∧ extW wc p = w') := hide (fun p => by
                have := find_any q n3 c3 _ L3 term fam e false _ (T3.out.desk.below (extW_below wc p)) (by omega)
                rw [hf3] at this; exact this)
              have KO : Hid (∀ p : Ext wc, Calls Try.prog 40 #[.int .i64 a, .int .i64 now, .int .i64 term] (extW wc p) fun en w' => en = .returned (.bool (overB a now term)) ∧ extW wc p = w') := hide (fun p => rover_any a now term hia hnow hterm _)
              have cq := fun p : Ext wc => ((T3.out.desk.below (extW_below wc p)).row).cell (k := 0) rfl
              have cq1 := fun p : Ext wc => ((T3.out.desk.below (extW_below wc p)).row).cell (k := 1) rfl
              have ce := fun p : Ext wc => ((extW_below wc p).cell (p := ⟨b, off + k, none⟩) hbl).trans C3.out
              have ca := fun p : Ext wc => ((extW_below wc p).cell (p := ⟨gd, od + j * 4 + 2, none⟩) hgl).trans kx
              have hj0 : (0 : Int) ≤ (j : Int) := by omega
              have hj1 : (j : Int) < (n3 : Int) := by omega
              clear hj hx hx2 kx ha hf3 HO HOB hjn
              go_upto_region 13 with (fail)
              refine wp_region_ext (by kernel_rfl) (by kernel_rfl) ?_
              repeat (go_big_quiet_step (with_reducible first | exact ext_call_same _ (KF3.out _) | exact ext_call_same _ (KO.out _)))
              refine wpQuiet_nil ?_
              intro _ hw'
              obtain ⟨p, hw''⟩ := hw'
              subst hw''
              have OZ := hide (O3.out.below (extW_below wc p)); have TZ := hide (T3.out.below (extW_below wc p))
              have cZ := ce p
              have HSZ : Hid (w.heap.size ≤ (extW wc p).heap.size) := hide TZ.out.but.size
              clear O3 T3 C3 KF3 KO cq cq1 ce ca
              generalize extW wc p = Z at OZ TZ cZ HSZ ⊢
              cases hov : overB a now term
              · have HST2 : Hid (holdI G fam now term N (ls.take (k + 1)) = ⟨lookN hh.N fam e now, fun e' => decide (e' = e) || hh.S e', hh.out ++ [e]⟩) := hide (by rw [HST.out, HGET.out, hov]; simp)
                clear HST hov
                go_wp2_with (at_builtin; go_must (with_reducible refine wpList_app rfl (.tmp 84) (.tmp 89) 22 rfl (.int .i64 0) 8 Try.underlying22 info_i64 (cells_int _ _) rfl (OZ.out.alloc _) rfl Sl.one (one_int _ _) (by have := HLEN.out; unfold maxLen; omega) (by have := HLEN.out; omega) (by have := HSZ.out; rw [World.size_alloc]; omega) ?_))
                intro A6 c6 w6 hown hgr hat
                have T6 : Hid (RTurn w w6 q A n c (some ⟨gd, od, none⟩) n3 c3 L3 term (lookN hh.N fam e now) G) := hide ((TZ.out.below ((Below.refl Z.heap.size Z).alloc (Nat.le_refl _) _)).grown hgr (fun k hk => ⟨OZ.out.row_ge k hk, D3.out k hk⟩))
                have D6 : Hid (∀ k, (Value.slice A6 (hh.out.length + 1) c6).ownBlock = some k → ¬ RB q (some ⟨gd, od, none⟩) n3 c3 k) := hide (fun k hk h => by
                  rcases hat with h2 | h2
                  · exact D3.out k (h2 ▸ hk) h
                  · rw [hk] at h2; injection h2 with h2
                    have := TZ.out.desk.lt k h
                    first | omega | (rw [World.size_alloc] at h2; omega))
                have O6 := hide hown
                clear hown hgr hat OZ TZ D3
                go_wp2_with fail
                refine ⟨⟨k + 1, A6, c6, some ⟨gd, od, none⟩, n3, c3, L3, by omega, by go_num, ?_⟩, by simp [intOf]; omega⟩
                rw [HST2.out]
                exact ⟨by simp, by omega, hide (by simpa using O6.out), T6, hide (by simpa using D6.out)⟩
              · have HST2 : Hid (holdI G fam now term N (ls.take (k + 1)) = ⟨lookN hh.N fam e now, fun e' => decide (e' = e) || hh.S e', hh.out⟩) := hide (by rw [HST.out, HGET.out, hov]; simp)
                clear HST hov
                go_wp2_with fail
                refine ⟨⟨k + 1, A2, c2, some ⟨gd, od, none⟩, n3, c3, L3, by omega, by go_num, ?_⟩, by simp [intOf]; omega⟩
                rw [HST2.out]
                exact ⟨rfl, by omega, OZ, TZ, D3⟩
    · have hall : ls.take i = ls := List.take_of_length_le (by rw [HML.out]; omega)
      rw [hall] at O T ⊢
      have hge : ¬ ((i : Int) < (m : Int)) := by omega
      clear hall
      go_wp2_with fail
      go_ret
      exact ⟨_, _, rfl, O, A1, n1, by omega, c1, L1, T⟩
end Go.Proofs.Ytigeccflfdekiaa
