/-
  Revoke: the law RevokeEnds, walked.
-/
import Derived.Test.YtigeccflfdekiaaRevF
import Derived.Deep.DeepCutAuto
namespace Go.Proofs.Ytigeccflfdekiaa
open Go.RowKit Go.Maps
set_option linter.unusedVariables false

/-- New, of a wrong term -/
theorem new_badR {term rho x y : Int} (h : shortI term rho = (x, y)) (hy : y ≠ 0) (w : World) : Calls Try.prog 7 #[.int .i64 term, .int .i64 rho] w fun e w' => e = .returned (.tuple #[.pointer none, .int .i64 y]) ∧ Hid (Below w.heap.size w w') := by
  refine (new_any term rho w).mono ?_
  rintro e w' ⟨P, rfl, hb, hc⟩
  rw [h] at hc ⊢
  rcases hc with ⟨_, rfl⟩ | ⟨h0, _⟩
  · exact ⟨rfl, hide hb⟩
  · exact absurd h0 hy
theorem CD.held {w0 w w' : World} {cg bt bw nt : Nat} {T : ByteArray → Option Int} {pace : Int} {g b1 b2 n n' : Nat} {N N' : ByteArray → Int → Option Int} {G : ByteArray → Int → Bool} {term x : Int} (h : CD w0 w cg bt bw nt T pace g b1 b2 n N G term x) (hd : DeskSt w' g b1 b2 n' N' G term x) (hb : But (DB b1 b2) w w') : CD w0 w' cg bt bw nt T pace g b1 b2 n' N' G term x := by
  have hne := h.ne; have hge := h.ge
  exact ⟨h.c.but hb (fun hh => by rcases hh with hh | hh <;> omega) (fun hh => by rcases hh with hh | hh <;> omega), hd, h.ne, h.ge, h.b.trans (hb.below (fun k hk => by rcases hk with hk | hk <;> omega) h.b.size)⟩
theorem OwnS.at_inv {w : World} {base n c : Nat} {A : Option Addr} {l : List Inv} (h : OwnS 2 w base 41 A n c (l.flatMap Inv.cells)) {k : Nat} {x : Inv} (hk : k < n) (hx : l[k]? = some x) : ∃ g o, A = some ⟨g, o, none⟩ ∧ g < w.heap.size ∧ w.cell? ⟨g, o + k * 2, none⟩ = some (.string x.f) ∧ w.cell? ⟨g, o + k * 2 + 1, none⟩ = some (.int .i64 x.e) := by
  obtain ⟨g, rfl, hg, hc, _⟩ := h.spot (by omega)
  have get : ∀ j v, (Inv.cells x)[j]? = some v → w.cell? ⟨g, 0 + k * 2 + j, none⟩ = some v := fun j v hv => by
    rw [Nat.zero_add]
    exact hc _ _ (flat_get Inv.cells_len hx hv)
  exact ⟨g, 0, rfl, h.row_lt g hg, get 0 _ rfl, get 1 _ rfl⟩
/-- the law's one family -/
def eFam (ls : List Int) : Fam := ⟨fB, ByteArray.empty, ByteArray.empty, none, 0, 0, ByteArray.empty, ByteArray.empty, ByteArray.empty, 0, none, 0, 0, false, ls⟩
set_option maxHeartbeats 8000000 in
set_option maxRecDepth 100000 in
theorem ends_walk (pace term : Int) (A An : Option Addr) (m c n cn : Nat) (ls ns : List Int) (w : World) (hpace : I64 pace) (hterm : I64 term) (hsl : Sl w w.heap.size A m (ls.map (Value.int .i64))) (hls : ∀ z ∈ ls, I64 z) (hmc : m ≤ c) (hm : m ≤ 9223372036854775807)
    (hns : Sl w w.heap.size An n (ns.map (Value.int .i64))) (hni : ∀ z ∈ ns, I64 z) (hn : n ≤ 9223372036854775807) :
    Calls Try.prog 3 #[.int .i64 pace, .int .i64 term, .slice A m c, .slice An n cn] w fun e w' => e = .returned (.bool true) ∧ Below w.heap.size w w' := by
  have HSL := hide hsl; have HLS := hide hls; have HNS := hide hns; have HNI := hide hni
  have hml : ls.length = m := by simpa using hsl.1
  have hnl : ns.length = n := by simpa using hns.1
  have HML := hide hml; have HNL := hide hnl
  clear hsl hls hns hni hml hnl
  obtain ⟨x, y, hs⟩ : ∃ x y, shortI term 0 = (x, y) := ⟨_, _, rfl⟩
  have KC := hide (newc_any pace w)
  by_cases hy : y = 0
  · subst hy
    have KN := hide (new_ok hs)
    clear hs
    go_enter Try.func3, Try.ntmps3
    go_wp2_with fail
    refine KC.out.mono ?_
    rintro e w1 (⟨hp1, hp2, cg, bt, bw, rfl, hcg, hbt, hbw, hc, hnw, _, _, hb⟩ | ⟨hnp, rfl, rfl⟩)
    rotate_left
    · clear hnp KC
      go_wp2_with fail
      refine (KN.out _).mono ?_
      rintro e w2 ⟨g, b1, b2, rfl, B2, Z, D2⟩
      go_wp2_with fail
      refine (rknown_any _).mono ?_
      rintro e w3 ⟨rfl, hb⟩
      have B3 := hide (B2.out.trans (hb.mono B2.out.size))
      clear hb B2
      go_wp2_with fail
      refine (rknown_any _).mono ?_
      rintro e w4 ⟨rfl, hb⟩
      have B4 := hide (B3.out.trans (hb.mono B3.out.size))
      clear hb B3
      go_wp2_with fail
      go_ret
      exact ⟨rfl, B4.out⟩
    · have C1 := hide hc; have B1 := hide hb; have Z1 := hide (And.intro hcg (And.intro hbt hc.turns.lt))
      clear hc hb hcg hbt hbw hnw KC
      go_wp2_with fail
      refine (KN.out _).mono ?_
      rintro e w2 ⟨g, b1, b2, rfl, B2, Z, D2⟩
      clear KN
      have CD2 : Hid (CD w w2 cg bt bw 0 (fun _ => none) pace g b1 b2 0 (fun _ _ => none) kNo term x) := hide ⟨C1.out.below B2.out, D2.out, by have := Z.out; have := C1.out.row.lt; have := Z1.out; omega, by have := Z.out; have := Z1.out; have := B1.out.size; omega, B1.out.trans (B2.out.mono B1.out.size)⟩
      clear C1 B1 Z1 B2 Z D2
      go_wp2_with fail
      refine (rknown_any _).mono ?_
      rintro e w3 ⟨rfl, hb⟩
      have CD3 := hide (CD2.out.below hb)
      clear hb CD2
      by_cases hbig : 20 < m
      · have h1 : (20 : Int) < (m : Int) := by omega
        clear hbig
        go_wp2_with fail
        refine (rknown_any _).mono ?_
        rintro e w4 ⟨rfl, hb⟩
        have B4 := hide (CD3.out.b.trans (hb.mono CD3.out.b.size))
        clear hb CD3
        go_wp2_with fail
        go_ret
        exact ⟨rfl, B4.out⟩
      · have h1 : ¬ ((20 : Int) < (m : Int)) := by omega
        go_upto_region 6 with (fail)
        obtain ⟨E, hE⟩ : ∃ E, E = eFam ls := ⟨_, rfl⟩
        have hEl : E.ls = ls := by rw [hE]; rfl
        have hEi : E.id = fB := by rw [hE]; rfl
        have HS4 : Hid (SlFam (w3.alloc (.cells (E.cells A m c).toArray 34)) (fun k => k < w.heap.size ∨ k = w3.heap.size) (some ⟨w3.heap.size, 0, none⟩) 1 [E]) := hide (by
          have h := SlFam.lit (Q := fun k => k < w.heap.size) (w := w3) (A := A) (c := c) E (by rw [hEi]; decide) (by rw [hEl]; exact HLS.out) (by rw [hEl, HML.out]; exact hmc) (by rw [hEl, HML.out]; exact HSL.out.below CD3.out.b (Nat.le_refl _)) (fun k hk => Nat.lt_of_lt_of_le hk CD3.out.b.size)
          rwa [hEl, HML.out] at h)
        have HQ : Hid (∀ k, (k < w.heap.size ∨ k = w3.heap.size) → ¬ (k = cg ∨ DB b1 b2 k)) := hide (fun k hk h => by
          have := CD3.out.ge; have := CD3.out.c.row.lt; have := CD3.out.d.notes.lt; have := CD3.out.d.gone.lt
          rcases h with h | h | h <;> omega)
        have HCE : Hid ((E.cells A m c).toArray = #[.string ⟨#[102]⟩, .string ⟨#[]⟩, .string ⟨#[]⟩, .slice none 0 0, .string ⟨#[]⟩, .string ⟨#[]⟩, .string ⟨#[]⟩, .int .i64 0, .slice none 0 0, .bool false, .slice A m c]) := hide (by rw [hE]; rfl)
        rw [HCE.out] at HS4
        have HEL := hide hEl; have HEI := hide hEi
        clear hE hEl hEi HCE
        have hm20 : m ≤ 20 := by omega
        clear hbig
        refine wp_world (fun X => Hid (CD w X cg bt bw 0 (fun _ => none) pace g b1 b2 0 (fun _ _ => none) kNo term x) ∧ Hid (SlFam X (fun k => k < w.heap.size ∨ k = w3.heap.size) (some ⟨w3.heap.size, 0, none⟩) 1 [E]) ∧ Hid (w3.heap.size < X.heap.size)) ⟨hide (CD3.out.below ((Below.refl _ _).alloc (Nat.le_refl _) _)), HS4, hide (by rw [World.size_alloc]; omega)⟩ ?_
        rintro X ⟨CDX, FX, SX⟩
        have HW3 : Hid (w.heap.size ≤ w3.heap.size) := hide CD3.out.b.size
        clear CD3 HS4
        obtain ⟨lf, hlf⟩ : ∃ lf, lf = w3.heap.size := ⟨_, rfl⟩
        rw [← hlf] at FX SX HQ HW3 ⊢
        clear hlf
        go_wp2_with fail
        go_loopw [14] (fun v14 wq => ∃ (i bt' nt k : Nat) (T : ByteArray → Option Int) (N : ByteArray → Int → Option Int), i ≤ n ∧ i ≤ 40 ∧ v14 = .int .i64 i ∧ nt ≤ 1 ∧ k ≤ 200 * i ∧ Hid (CD w wq cg bt' bw nt T pace g b1 b2 k N kNo term x) ∧ Hid (SlFam wq (fun k => k < w.heap.size ∨ k = lf) (some ⟨lf, 0, none⟩) 1 [E]) ∧ Hid (lf < wq.heap.size) ∧ Hid ((T fB).getD 0 = i) ∧ Hid (Few i T) ∧ Hid (∀ s e a, N s e = some a → I64 a)) (fun v _ => n - (intOf v).toNat)
        case atStart => exact ⟨0, bt, 0, 0, _, _, by omega, by omega, rfl, by omega, by omega, CDX, FX, SX, hide rfl, hide (fun _ _ h => by cases h), hide (fun _ _ _ h => by cases h)⟩
        case round =>
          clear CDX FX SX
          obtain ⟨i, bt', nt, k, T, N, hi, hi4, rfl, hnt, hk, CDW, FW, SW, HT0, HFW, HNI6⟩ := hrel
          by_cases hlt : i < n ∧ i < 40
          · obtain ⟨hlt, hlt4⟩ := hlt
            obtain ⟨now, hnow⟩ : ∃ now, ns[i]? = some now := ⟨_, List.getElem?_eq_getElem (by rw [HNL.out]; exact hlt)⟩
            have inow : I64 now := HNI.out now (List.mem_of_getElem? hnow)
            obtain ⟨pb, po, pu, rfl, hpb, hpu, cn0⟩ := HNS.out.at_ hlt
            rw [List.getElem?_map, hnow] at hpu
            injection hpu with hpu; subst hpu
            have CN0 := hide cn0
            have cn1 := (CDW.out.b.cell (p := ⟨pb, po + i, none⟩) hpb).trans cn0
            have hi1 : (i : Int) < (n : Int) := by omega
            have hi2 : (i : Int) < 40 := by omega
            have hi0 : (0 : Int) ≤ (i : Int) := by omega
            clear hnow cn0
            obtain ⟨h, hh⟩ : ∃ h, holdI kNo fB now term N ls = h := ⟨_, rfl⟩
            obtain ⟨r, hr⟩ : ∃ r, tellI kNo now term pace T N [E] = r := ⟨_, rfl⟩
            have HRT : Hid (r = turnOf kNo now term pace T ⟨N, fun _ => none, [], []⟩ E h) := hide (by rw [← hr, tell_one, HEI.out, HEL.out, hh])
            have HR := hide hr
            have HAG : Hid (holdI kNo fB now term h.N ls = ⟨h.N, (holdI kNo fB now term h.N ls).S, h.out⟩) := hide (by
              have := holdI_again kNo fB now term N ls
              rw [hh] at this
              obtain ⟨a1, a2⟩ := this
              obtain ⟨h2, hh2⟩ : ∃ h2, h2 = holdI kNo fB now term h.N ls := ⟨_, rfl⟩
              rw [← hh2] at a1 a2 ⊢
              cases h2
              simp only at a1 a2
              rw [a1, a2])
            have HLEN : Hid (h.out.length ≤ 20) := hide (by
              have := holdI_len kNo fB now term N ls
              rw [hh, HML.out] at this; omega)
            have HHI : Hid (∀ s e a, h.N s e = some a → I64 a) := hide (hh ▸ hold_i64 inow HNI6.out)
            clear hh hr
            go_wp2_with fail
            refine (CDW.out.turn (some ⟨lf, 0, none⟩) 1 1 (fun k => k < w.heap.size ∨ k = lf) [E] now FW.out (fun k hk => ⟨by have := CDW.out.b.size; have := SW.out; omega, HQ.out k hk⟩) (fun f hf => by simp at hf; subst hf; rw [HEL.out, HML.out]; omega) (by omega) (by omega) inow hterm HNI6.out ⟨hp1, hp2⟩ (fun s v h => by have := HFW.out s v h; omega) r HR.out).mono ?_
            rintro e w5 ⟨A1, c1, A2, c2, rfl, OT, OD, CD5, BB5, F5⟩
            have HWB : Hid (∀ k, wr.heap.size ≤ k → ¬ DB b1 b2 k) := hide (fun k hk hh => by have := CDW.out.d.notes.lt; have := CDW.out.d.gone.lt; rcases hh with hh | hh <;> omega)
            have HTL : Hid (r.tell = if (i : Int) % pace = 0 then h.out.map (Inv.mk fB) else []) := hide (by rw [HRT.out]; simp only [turnOf, HEI.out, HT0.out, List.nil_append])
            have HDN : Hid (r.done = if h.out = [] then [fB] else []) := hide (by rw [HRT.out]; simp only [turnOf, HEI.out, List.nil_append])
            have HRN : Hid (r.N = h.N) := hide (by rw [HRT.out]; rfl)
            have HRTT : Hid ((r.T fB).getD 0 = ((i + 1 : Nat) : Int)) := hide (by rw [HRT.out]; simp only [turnOf, HEI.out, HT0.out]; simp)
            have HFR : Hid (Few ((i + 1 : Nat) : Int) r.T) := hide (by
              have := tellI_few (G := kNo) (now := now) (term := term) (pace := pace) HFW.out (by omega) N [E]
              rw [HR.out] at this
              rw [show ((i + 1 : Nat) : Int) = (i : Int) + 1 by omega]; exact this)
            have HKH : Hid (holdI kNo fB now term r.N ls = ⟨h.N, (holdI kNo fB now term h.N ls).S, h.out⟩) := hide (by rw [HRN.out]; exact HAG.out)
            have S5 : Hid (lf < w5.heap.size) := hide (Nat.lt_of_lt_of_le SW.out BB5.out.size)
            have cn5 := (CD5.out.b.cell (p := ⟨pb, po + i, none⟩) hpb).trans CN0.out
            have HLS5 : Hid (Sl w5 w.heap.size A m (ls.map (Value.int .i64))) := hide (HSL.out.below CD5.out.b (Nat.le_refl _))
            have hw5 : w.heap.size ≤ w5.heap.size := CD5.out.b.size
            clear CDW FW SW cn1 HRT HR HAG HFW HT0
            go_wp2_with fail
            refine (holders_hR g b1 b2 (k + 100 * 1) r.N kNo term x fB A m c w.heap.size ls now w5 CD5.out.d HLS5.out hw5 HLS.out (by omega) (by omega) (by decide) inow hterm (by rw [HRN.out]; exact HHI.out) _ HKH.out).mono ?_
            rintro e w6 ⟨A6, c6, rfl, O6, D6, hb6⟩
            have CD6 := hide (CD5.out.held D6.out hb6.out)
            have F6 := hide (F5.out.but hb6.out (fun k hk => ⟨by have := S5.out; omega, fun hh => HQ.out k hk (.inr hh)⟩))
            have S6 : Hid (lf < w6.heap.size) := hide (Nat.lt_of_lt_of_le S5.out hb6.out.size)
            have OT6 := hide (OT.out.but_row hb6.out (fun k hk => HWB.out k (OT.out.row_ge k hk)))
            clear CD5 F5 S5 OT OD D6 hb6 HLS5 hw5 cn5 HWB HKH BB5
            obtain ⟨L, hL⟩ : ∃ L, L = h.out.length := ⟨_, rfl⟩
            have HLL := hide hL
            have hL20 : L ≤ 20 := by have := HLEN.out; omega
            simp only at O6 ⊢
            rw [← hL] at O6 ⊢
            clear hL
            go_upto_region 11 with (fail)
            go_cut [88] (fun v88 wx => v88 = .bool false ∧ w6 = wx)
            case first =>
              by_cases hz : h.out = []
              · have hd1 : r.done.length = 1 := by rw [HDN.out, if_pos hz]; rfl
                have hL0 : L = 0 := by rw [HLL.out, hz]; rfl
                have hdb : ((r.done.length : Int) == 1) = true := by rw [hd1]; rfl
                have hLb : ((L : Int) == 0) = true := by rw [hL0]; rfl
                have hd2 : ¬ ((1 : Int) < (r.done.length : Int)) := by omega
                clear hd1 hz hL0
                go_wp2_with fail
                go_meet
                exact ⟨rfl, rfl⟩
              · have hd1 : r.done.length = 0 := by rw [HDN.out, if_neg hz]; rfl
                have hL0 : 0 < L := by
                  rcases Nat.eq_zero_or_pos L with h0 | h0
                  · exact absurd (List.eq_nil_of_length_eq_zero (by rw [← HLL.out]; exact h0)) hz
                  · exact h0
                have hdb : ((r.done.length : Int) == 1) = false := by rw [hd1]; rfl
                have hLb : ((L : Int) == 0) = false := by rw [beq_eq_false_iff_ne]; omega
                have hd2 : ¬ ((1 : Int) < (r.done.length : Int)) := by omega
                clear hd1 hz hL0
                go_wp2_with fail
                go_meet
                exact ⟨rfl, rfl⟩
            case rest =>
              obtain ⟨rfl, rfl⟩ := hcut
              obtain ⟨tn, htn⟩ : ∃ tn, tn = r.tell.length := ⟨_, rfl⟩
              have HTN : Hid (tn = if (i : Int) % pace = 0 then L else 0) := hide (by
                rw [htn, HTL.out, HLL.out]
                split
                · rw [List.length_map]
                · rfl)
              rw [← htn] at OT6 ⊢
              clear htn
              have htn20 : tn ≤ 20 := by
                have := HTN.out
                split at this <;> omega
              go_upto_if 92 with (fail)
              go_cut [18] (fun v18 wx => v18 = .int .i64 (tn : Int) ∧ w6 = wx)
              case first =>
                by_cases hz : (i : Int) % pace = 0
                · have hzb : ((i : Int) % pace == 0) = true := by rw [hz]; rfl
                  have ht : Hid (tn = L) := hide (by rw [HTN.out, if_pos hz])
                  clear hz
                  go_wp2_with fail
                  go_meet
                  rw [ht.out]
                  exact ⟨rfl, rfl⟩
                · have hzb : ((i : Int) % pace == 0) = false := by rw [beq_eq_false_iff_ne]; exact hz
                  have ht : Hid (tn = 0) := hide (by rw [HTN.out, if_neg hz])
                  clear hz
                  go_wp2_with fail
                  go_meet
                  rw [ht.out]
                  exact ⟨rfl, rfl⟩
              case rest =>
                obtain ⟨rfl, rfl⟩ := hcut
                obtain ⟨wo, rfl⟩ : ∃ wo : World, wo = w6 := ⟨_, rfl⟩
                have hnn : ((tn : Int) != (tn : Int)) = false := by simp
                have htL : tn = 0 ∨ tn = L := by
                  have := HTN.out
                  split at this
                  · exact .inr this
                  · exact .inl this
                go_wp2_with fail
                go_loopw [19] (fun v19 wq => ∃ k2 : Nat, k2 ≤ tn ∧ v19 = .int .i64 k2 ∧ Hid (Below wo.heap.size wo wq)) (fun v _ => tn - (intOf v).toNat)
                case atStart => exact ⟨0, by omega, rfl, hide (Below.refl _ _)⟩
                case round =>
                  obtain ⟨k2, hk2, rfl, BI⟩ := hrel
                  by_cases hkl : k2 < tn
                  · have htl2 : tn = L := by omega
                    have hz : (i : Int) % pace = 0 := by
                      rcases Classical.em ((i : Int) % pace = 0) with h0 | h0
                      · exact h0
                      · have := HTN.out; rw [if_neg h0] at this; omega
                    obtain ⟨e, he⟩ : ∃ e, h.out[k2]? = some e := ⟨_, List.getElem?_eq_getElem (by rw [← HLL.out]; omega)⟩
                    have hte : r.tell[k2]? = some ⟨fB, e⟩ := by rw [HTL.out, if_pos hz, List.getElem?_map, he]; rfl
                    obtain ⟨g1, o1, rfl, hg1, ct0, ct1⟩ := OT6.out.at_inv hkl hte
                    obtain ⟨g2, o2, u2, rfl, hg2, hu2, cl0⟩ := O6.out.sl.at_ (k := k2) (by omega)
                    rw [List.getElem?_map, he] at hu2
                    injection hu2 with hu2; subst hu2
                    have d0 := (BI.out.cell (p := ⟨g1, o1 + k2 * 2, none⟩) hg1).trans ct0
                    have d1 := (BI.out.cell (p := ⟨g1, o1 + k2 * 2 + 1, none⟩) hg1).trans ct1
                    have d2 := (BI.out.cell (p := ⟨g2, o2 + k2, none⟩) hg2).trans cl0
                    have hk0 : (0 : Int) ≤ (k2 : Int) := by omega
                    have hk1 : (k2 : Int) < (tn : Int) := by omega
                    have hk3 : (k2 : Int) < (L : Int) := by omega
                    have hfb : (fB.toList == [102]) = true := by decide +kernel
                    simp only at d0 d1
                    clear he hte ct0 ct1 cl0 hz htl2 htL
                    go_wp2_with fail
                    go_quiet (fail)
                    go_wp2_with fail
                    go_roundw
                    case rel => exact ⟨k2 + 1, by omega, by go_num, hide (below_drewN BI.out _)⟩
                    case measure => simp [intOf]; omega
                  · have hk1 : ¬ ((k2 : Int) < (tn : Int)) := by omega
                    have CD7 := hide (CD6.out.below BI.out)
                    have F7 := hide (F6.out.but (But.of_below (S := fun _ => False) BI.out) (fun k hk => ⟨by have := S6.out; have := HW3.out; omega, id⟩))
                    have S7 : Hid (lf < wr.heap.size) := hide (Nat.lt_of_lt_of_le S6.out BI.out.size)
                    clear CD6 F6 S6 OT6 O6
                    go_wp2_with fail
                    refine ⟨⟨i + 1, _, 1, _, r.T, h.N, by omega, by omega, by go_num, by omega, ?_, CD7, F7, S7, HRTT, HFR, HHI⟩, by simp [intOf]; omega⟩
                    omega
          · have hor : ¬ ((i : Int) < (n : Int)) ∨ ((i : Int) < (n : Int) ∧ ¬ ((i : Int) < 40)) := by omega
            clear hlt
            rcases hor with h | ⟨h, h2⟩
            all_goals
              go_wp2_with fail
              go_ret
              exact ⟨rfl, CDW.out.b⟩
  · have hyb : (y != 0) = true := by simp [bne, hy]
    have KN := hide (fun w => new_badR hs hy w)
    clear hs
    go_enter Try.func3, Try.ntmps3
    go_wp2_with fail
    have KC' : Hid (Calls Try.prog 6 #[.int .i64 pace] w fun e w' => (∃ p z, e = .returned (.tuple #[p, .int .i64 z])) ∧ Below w.heap.size w w') := hide (by
      refine KC.out.mono ?_
      rintro e w1 (⟨hp1, hp2, cg, bt, bw, rfl, hcg, hbt, hbw, hc, hnw, _, _, hb⟩ | ⟨hnp, rfl, rfl⟩)
      · exact ⟨⟨_, _, rfl⟩, hb⟩
      · exact ⟨⟨_, _, rfl⟩, Below.refl _ _⟩)
    refine KC'.out.mono ?_
    rintro e w1 ⟨⟨p, z, rfl⟩, hb⟩
    have B1 := hide hb
    clear hb KC KC'
    go_wp2_with fail
    refine (KN.out _).mono ?_
    rintro e w2 ⟨rfl, B2⟩
    have C2 := hide (B1.out.trans (B2.out.mono B1.out.size))
    clear B1 B2 KN
    go_wp2_with fail
    refine (rknown_any _).mono ?_
    rintro e w3 ⟨rfl, hb⟩
    have C3 := hide (C2.out.trans (hb.mono C2.out.size))
    clear hb C2
    by_cases hz : z = 0
    · have hzb : (z != 0) = false := by rw [hz]; rfl
      clear hz
      go_wp2_with fail
      refine (rknown_any _).mono ?_
      rintro e w4 ⟨rfl, hb⟩
      have C4 := hide (C3.out.trans (hb.mono C3.out.size))
      clear hb C3
      go_wp2_with fail
      go_ret
      exact ⟨rfl, C4.out⟩
    · have hzb : (z != 0) = true := by simp [bne, hz]
      clear hz
      go_wp2_with fail
      refine (rknown_any _).mono ?_
      rintro e w4 ⟨rfl, hb⟩
      have C4 := hide (C3.out.trans (hb.mono C3.out.size))
      clear hb C3
      go_wp2_with fail
      go_ret
      exact ⟨rfl, C4.out⟩
end Go.Proofs.Ytigeccflfdekiaa
