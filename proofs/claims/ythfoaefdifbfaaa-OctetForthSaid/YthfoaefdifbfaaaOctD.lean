/-
  The walks of octet.unsixes, Unweb, Unbasic, Unhex.
-/
import Derived.Test.YthfoaefdifbfaaaOctC
namespace Go.Proofs.Ythfoaefdifbfaaa
open Go.RowKit

def errI (o : Option (List UInt8)) : Int := if o.isSome then 0 else 3
theorem errI_none : errI none = 3 := rfl
theorem errI_some (b : List UInt8) : errI (some b) = 0 := rfl
/-- bytes and an error, of a text -/
def Gives (r : Option (List UInt8)) (w : World) (e : Ending) (w' : World) : Prop :=
  ∃ A m c, e = .returned (.tuple #[.slice A m c, .int .i64 (errI r)]) ∧ Own w' w.heap.size 5 A m c ((r.getD []).map bv) ∧ Below w.heap.size w w'
theorem Gives.no {r : Option (List UInt8)} {w w' : World} (h : r = none) (hb : Below w.heap.size w w') : Gives r w (.returned (.tuple #[.slice none 0 0, .int .i64 3])) w' := by
  subst h; exact ⟨none, 0, 0, rfl, Own.nil_, hb⟩
theorem Gives.yes {r : Option (List UInt8)} {bs : List UInt8} {w w' : World} {A : Option Addr} {m c : Nat} (h : r = some bs) (ho : Own w' w.heap.size 5 A m c (bs.map bv)) (hb : Below w.heap.size w w') : Gives r w (.returned (.tuple #[.slice A m c, .int .i64 0])) w' := by
  subst h; exact ⟨A, m, c, rfl, ho, hb⟩
def outB (L : List Bool) (g : Nat) : List UInt8 := (Oct.grps 8 L g).map UInt8.ofNat
theorem outB_succ (L : List Bool) (g : Nat) : outB L (g + 1) = outB L g ++ [UInt8.ofNat (Oct.grp 8 L g)] := by simp [outB, Oct.grps_succ]

set_option maxHeartbeats 1000000 in
theorem unsixes_any (s u : ByteArray) (w : World) (hs : s.size = 64) (hn : u.size ≤ 187649984468320) :
    Calls Try.prog 37 #[.string s, .string u] w fun e w' => Gives (Oct.unwebL s.data.toList u.data.toList) w e w' := by
  obtain ⟨ts, hts⟩ : ∃ ts, ts = u.data.toList := ⟨_, rfl⟩
  have hl : ts.length = u.size := by rw [hts]; rfl
  rw [← hts]
  obtain ⟨S, hS⟩ : ∃ S, S = s.data.toList := ⟨_, rfl⟩
  rw [← hS]
  by_cases h4 : u.size % 4 = 1
  · have hz : (((u.size : Int) % 4) == 1) = true := by rw [beq_iff_eq]; omega
    have HN : Hid (Oct.unwebL S ts = none) := hide (Oct.unweb_short (by omega))
    clear h4 hl hts hS
    go_enter Try.func37, Try.ntmps37
    go_wp2_with fail
    go_ret2
    exact Gives.no HN.out (Below.refl _ _)
  · have hz : (((u.size : Int) % 4) == 1) = false := by rw [beq_eq_false_iff_ne]; omega
    have HL := hide hl; have HT := hide hts; have HSS := hide hS; have H4 := hide h4
    clear h4 hl hts hS
    go_enter Try.func37, Try.ntmps37
    go_wp2_with fail
    go_loopw [6, 7, 8, 9] (fun v6 v7 v8 v9 wr => ∃ (i g nb h : Nat) (A2 : Option Addr) (c2 : Nat), i ≤ u.size ∧ v9 = .int .i64 i ∧ v8 = .int .i64 nb ∧ v7 = .int .i64 h ∧ v6 = .slice A2 g c2 ∧ nb < 8 ∧ 6 * i = 8 * g + nb ∧ h < 128 ∧ Hid (h = Oct.num ((Oct.textBits S (ts.take i)).drop (8 * g))) ∧ Hid (∀ (j : Nat) c, j < i → ts[j]? = some c → Oct.place S c ≠ none) ∧ Hid (Own wr w.heap.size 5 A2 g c2 ((outB (Oct.textBits S (ts.take i)) g).map bv)) ∧ Hid (Below w.heap.size w wr)) (fun _ _ _ y _ => u.size - (intOf y).toNat)
    case atStart => exact ⟨0, 0, 0, 0, none, 0, by omega, rfl, rfl, rfl, rfl, by omega, by omega, by omega, hide rfl, hide (fun j c hj _ => absurd hj (by omega)), hide Own.nil_, hide (Below.refl _ _)⟩
    case round =>
      obtain ⟨i, g, nb, h, A2, c2, hi, rfl, rfl, rfl, rfl, hnb, h8, h128, HH, HV, HO, HR⟩ := hrel
      by_cases hlt : i < u.size
      · obtain ⟨y, hy⟩ : ∃ y, y = u[i] := ⟨_, rfl⟩
        have hyx : u[i] = y := hy.symm
        have hyt : ts[i]? = some y := by rw [HT.out, hy, List.getElem?_eq_getElem (by simpa using hlt)]; rfl
        have HY := hide hyt
        cases hp : Oct.place S y with
        | none =>
          have K : Hid (∀ wx, Calls Try.prog 39 #[.string s, .int .u8 (y.toNat : Int)] wx fun e w' => e = .returned (.int .i64 (-1)) ∧ wx = w') := hide (fun wx => by
            have := worth_any s y wx (by omega)
            rwa [show worthI s.data.toList y = -1 by unfold worthI; rw [← HSS.out, hp]] at this)
          have HN : Hid (Oct.unwebL S ts = none) := hide (Oct.unweb_none hyt hp)
          clear hp hyt hy
          go_wp2_with (refine (K.out _).mono ?_; rintro e w1 ⟨rfl, rfl⟩)
          go_ret2
          exact Gives.no HN.out HR.out
        | some v =>
          have K : Hid (∀ wx, Calls Try.prog 39 #[.string s, .int .u8 (y.toNat : Int)] wx fun e w' => e = .returned (.int .i64 (v : Int)) ∧ wx = w') := hide (fun wx => by
            have := worth_any s y wx (by omega)
            rwa [show worthI s.data.toList y = (v : Int) by unfold worthI; rw [← HSS.out, hp]] at this)
          have hv64 : v < 64 := by have := (Oct.place_some hp).2; rw [HSS.out] at this; have e : s.data.toList.length = s.size := rfl; omega
          obtain ⟨h2, hh2⟩ : ∃ h2, h2 = h * 64 + v := ⟨_, rfl⟩
          have eor : bits .or .i64 ((h : Int) * 64) (v : Int) = (h2 : Int) := by
            have := i64_or_nat (h * 64) v (by omega) (by omega)
            rw [show h * 64 = h * 2 ^ 6 from rfl, Oct.or_low (by omega)] at this
            rw [hh2]
            simpa using this
          obtain ⟨L, hL⟩ : ∃ L, L = Oct.textBits S (ts.take (i + 1)) := ⟨_, rfl⟩
          have hL0 : L = Oct.textBits S (ts.take i) ++ Oct.bits6 v := by rw [hL, take_snoc hyt, Oct.textBits_snoc _ _ _ hp]
          have hLL : L.length = 6 * (i + 1) := by rw [hL, Oct.textBits_length]; simp; have := HL.out; omega
          have hl0 : (Oct.textBits S (ts.take i)).length = 6 * i := by rw [Oct.textBits_length]; simp; have := HL.out; omega
          have HH2 : Hid (h2 = Oct.num (L.drop (8 * g))) := hide (by rw [hh2, HH.out, hL0, List.drop_append_of_le_length (by omega), Oct.num_more6 _ hv64])
          have HO2 : Hid (Own wr w.heap.size 5 A2 g c2 ((outB L g).map bv)) := hide (by
            have := HO.out
            unfold outB at this ⊢
            rwa [hL0, Oct.grps_append (by omega)])
          have HV2 : Hid (∀ (j : Nat) c, j < i + 1 → ts[j]? = some c → Oct.place S c ≠ none) := hide (fun j c hj hc => by
            rcases Nat.lt_or_ge j i with h | h
            · exact HV.out j c h hc
            · obtain rfl : j = i := by omega
              rw [hyt] at hc; injection hc with hc; rw [← hc, hp]; simp)
          have HLL := hide hLL; have HLE := hide hL
          clear hh2 hL hL0 hLL hl0 hp hyt hy
          by_cases h8b : nb + 6 < 8
          · have hh4 := Oct.inner_lt8 (nb := nb + 6) (HLL.out.trans (by omega)) HH2.out
            have hh5 : h2 < 2 ^ 7 := Nat.lt_of_lt_of_le hh4 (Nat.pow_le_pow_right (by omega) (by omega))
            clear hh4
            go_wp2_with (refine (K.out _).mono ?_; rintro e w1 ⟨rfl, rfl⟩)
            go_roundw
            case rel => exact ⟨i + 1, g, nb + 6, h2, A2, c2, by omega, by go_num, by go_num, rfl, rfl, by omega, by omega, by omega, hide (by rw [← HLE.out]; exact HH2.out), HV2, hide (by rw [← HLE.out]; exact HO2.out), HR⟩
            case measure => simp [intOf]; omega
          · obtain ⟨k, rfl⟩ : ∃ k, nb = k + 2 := ⟨nb - 2, by omega⟩
            obtain ⟨q1, q2, q3⟩ := Oct.inner_step8 (k := k) (HLL.out.trans (by omega)) HH2.out
            have hh3 := Oct.inner_lt8 (nb := k + 8) (HLL.out.trans (by omega)) HH2.out
            obtain ⟨z, hz2⟩ : ∃ z, z = Oct.grp 8 L g := ⟨_, rfl⟩
            obtain ⟨h4, hh4⟩ : ∃ h4, h4 = Oct.num (L.drop (8 * (g + 1))) := ⟨_, rfl⟩
            rw [← hz2] at q1 q3
            rw [← hh4] at q2
            have hh6 : h2 < 2 ^ 13 := Nat.lt_of_lt_of_le hh3 (Nat.pow_le_pow_right (by omega) (by omega))
            have hh7 : h4 < 128 := by
              rw [← q2]
              have h1 : 2 ^ k ≤ 2 ^ 5 := Nat.pow_le_pow_right (by omega) (by omega)
              have := Nat.mod_lt h2 (Nat.two_pow_pos k)
              omega
            have eshr : (h2 : Int) / 2 ^ k = (z : Int) := by rw [← q1]; simp
            have eand := i64_low h2 k (by omega) (by omega)
            rw [q2, ← low_wrap k (by omega)] at eand
            have EA := hide eand
            have ez : (z : Int) % 256 = (z : Int) := by omega
            have HZ := hide hz2; have H5 := hide hh4
            clear hz2 hh4 q1 q2 hh3 eand
            have hq1 : g + 1 ≤ maxLen := by unfold maxLen; omega
            have hq2 : (g + 1) * 1 ≤ 140737488355328 := by omega
            have HSZ := hide HR.out.size
            go_wp2_with (first | (refine (K.out _).mono ?_; rintro e w1 ⟨rfl, rfl⟩) | (at_builtin; go_must (with_reducible refine wpList_app rfl (.tmp 38) (.tmp 43) 22 rfl (.int .u8 0) 1 Try.underlying22 info_u8 (cells_int _ _) rfl (HO2.out.alloc _) rfl Sl.one (one_int _ _) hq1 hq2 (by have := HSZ.out; rw [World.size_alloc]; omega) ?_)))
            intro A4 c4 w4 hown hgr hat
            have HR4 : Hid (Below w.heap.size w w4) := hide (below_of_grown (HR.out.alloc HR.out.size _) hgr (by have := HSZ.out; rw [World.size_alloc]; omega) HO2.out.row_ge)
            have HO4 : Hid (Own w4 w.heap.size 5 A4 (g + 1) c4 ((outB L (g + 1)).map bv)) := hide (by
              rw [outB_succ, ← HZ.out, List.map_append]
              have e : bv (UInt8.ofNat z) = .int .u8 (z : Int) := by unfold bv; rw [UInt8.toNat_ofNat', show z % 2 ^ 8 = z by omega]
              rw [List.map_singleton, e]; exact hown)
            clear hown hgr hat
            go_wp2
            go_roundw
            case rel => exact ⟨i + 1, g + 1, k, h4, A4, c4, by omega, by go_num, by go_num, ret_val EA.out, rfl, by omega, by omega, by omega, hide (by rw [← HLE.out]; exact H5.out), HV2, hide (by rw [← HLE.out]; exact HO4.out), HR4⟩
            case measure => simp [intOf]; omega
      · have hiu : i = u.size := by omega
        have e : ts.take i = ts := List.take_of_length_le (by have := HL.out; omega)
        have hg : (Oct.textBits S ts).length / 8 = g := by rw [Oct.textBits_length]; have := HL.out; omega
        have HE := hide (Oct.unweb_end (h := h) (by have := HL.out; have := H4.out; omega) (fun j c hc => HV.out j c (by have := (List.getElem?_eq_some_iff.1 hc).1; have := HL.out; omega) hc) hg (by have := HH.out; rwa [e] at this))
        rw [e] at HO
        clear e hg hiu
        by_cases h0 : h = 0
        · have HY : Hid (Oct.unwebL S ts = some (outB (Oct.textBits S ts) g)) := hide (by rw [HE.out, if_pos h0]; rfl)
          clear HE
          subst h0
          go_wp2_with fail
          go_ret2
          exact Gives.yes HY.out HO.out HR.out
        · have HN : Hid (Oct.unwebL S ts = none) := hide (by rw [HE.out, if_neg h0])
          go_wp2_with fail
          go_ret2
          exact Gives.no HN.out HR.out

theorem ext_take (u : ByteArray) (q : Nat) : (u.extract 0 q).data.toList = u.data.toList.take q := by
  rw [ByteArray.data_extract, Array.toList_extract]
  simp [List.extract]

theorem unweb_any (u : ByteArray) (w : World) (hn : u.size ≤ 187649984468320) :
    Calls Try.prog 27 #[.string u] w fun e w' => Gives (Oct.unwebL Oct.webS u.data.toList) w e w' := by
  go_enter Try.func27, Try.ntmps27
  go_wp2_with fail
  refine (unsixes_any (strB Oct.webS) _ _ rfl hn).mono ?_
  rintro e w1 ⟨A, m, c, rfl, ho, hb⟩
  rw [strB_data] at ho ⊢
  have HO := hide ho; have HB := hide hb; clear ho hb
  go_wp2_with fail
  go_ret2
  exact ⟨A, m, c, rfl, HO.out, HB.out⟩

set_option maxHeartbeats 400000 in
theorem unbasic_any (u : ByteArray) (w : World) (hn : u.size ≤ 187649984468320) :
    Calls Try.prog 22 #[.string u] w fun e w' => Gives (Oct.unbasicL u.data.toList) w e w' := by
  obtain ⟨ts, hts⟩ : ∃ ts, ts = u.data.toList := ⟨_, rfl⟩
  have hl : ts.length = u.size := by rw [hts]; rfl
  rw [← hts]
  by_cases h4 : u.size % 4 = 0
  · have hz : (((u.size : Int) % 4) != 0) = false := by rw [bne_eq_false_iff_eq]; omega
    have HL := hide hl; have HT := hide hts; have H4 := hide h4
    clear h4 hl hts
    go_enter Try.func22, Try.ntmps22
    go_wp2_with fail
    go_loop [4] (fun v4 => ∃ q : Nat, v4 = .int .i64 q ∧ q ≤ u.size ∧ u.size ≤ q + 2 ∧ Hid (∀ (j : Nat), q ≤ j → j < ts.length → ts[j]? = some 61)) (fun v => (intOf v).toNat)
    case atStart => exact ⟨u.size, rfl, by omega, by omega, hide (fun j h1 h2 => by have := HL.out; omega)⟩
    case round =>
      obtain ⟨q, rfl, hq1, hq2, HA⟩ := hrel
      by_cases hc : 0 < q ∧ u.size < q + 2
      · obtain ⟨p, rfl⟩ : ∃ p, q = p + 1 := ⟨q - 1, by omega⟩
        have hpu : p < u.size := by omega
        obtain ⟨y, hy⟩ : ∃ y, y = u[p] := ⟨_, rfl⟩
        have hyx : u[p] = y := hy.symm
        have HY : Hid (ts[p]? = some y) := hide (by rw [HT.out, hy, List.getElem?_eq_getElem (by simpa using hpu)]; rfl)
        clear hy
        obtain ⟨hc1, hc2⟩ := hc
        by_cases h61 : y = 61
        · have hb : ((y.toNat : Int) == 61) = true := by rw [h61]; rfl
          have HY2 : Hid (ts[p]? = some 61) := hide (by rw [HY.out, h61])
          clear h61
          go_wp2_with fail
          go_round
          case rel => exact ⟨p, by go_num, by omega, by omega, hide (fun j h1 h2 => by
            rcases Nat.lt_or_ge p j with h | h
            · exact HA.out j h h2
            · obtain rfl : j = p := by omega
              exact HY2.out)⟩
          case measure => simp [intOf]
        · have hb : ((y.toNat : Int) == 61) = false := by rw [beq_eq_false_iff_ne]; intro h; exact h61 (UInt8.toNat_inj.1 (by have : (61 : UInt8).toNat = 61 := rfl; omega))
          have HE : Hid (ts.length - Oct.eqs ts = p + 1) := hide (Oct.eqs_is (by have := HL.out; omega) (by have := HL.out; omega) HA.out (.inr (.inr (by rw [Nat.add_sub_cancel, HY.out]; intro h; injection h with h; exact h61 h))))
          clear h61
          have HX : Hid ((u.extract 0 (p + 1)).data.toList = ts.take (ts.length - Oct.eqs ts)) := hide (by rw [HE.out, ext_take, HT.out])
          go_wp2_with fail
          refine (unsixes_any (strB Oct.basicS) _ _ rfl (by rw [ByteArray.size_extract]; omega)).mono ?_
          rintro e w1 ⟨A, m, c, rfl, ho, hb⟩
          rw [strB_data, HX.out, ← Oct.unbasic_on (by have := HL.out; have := H4.out; omega)] at ho ⊢
          have HO := hide ho; have HB := hide hb; clear ho hb
          go_wp2_with fail
          go_ret2
          exact ⟨A, m, c, rfl, HO.out, HB.out⟩
      · have HE : Hid (ts.length - Oct.eqs ts = q) := hide (Oct.eqs_is (by have := HL.out; omega) (by have := HL.out; omega) HA.out (by have := HL.out; omega))
        have HX : Hid ((u.extract 0 q).data.toList = ts.take (ts.length - Oct.eqs ts)) := hide (by rw [HE.out, ext_take, HT.out])
        by_cases hq0 : q = 0
        · subst hq0
          clear hc
          have HX0 : Hid (ByteArray.empty.data.toList = ts.take (ts.length - Oct.eqs ts)) := hide (by rw [HE.out]; rfl)
          go_wp2_with fail
          refine (unsixes_any (strB Oct.basicS) _ _ rfl (by decide)).mono ?_
          rintro e w1 ⟨A, m, c, rfl, ho, hb⟩
          rw [strB_data, HX0.out, ← Oct.unbasic_on (by have := HL.out; have := H4.out; omega)] at ho ⊢
          have HO := hide ho; have HB := hide hb; clear ho hb
          go_wp2_with fail
          go_ret2
          exact ⟨A, m, c, rfl, HO.out, HB.out⟩
        · have hq3 : 0 < q := by omega
          have hq4 : q + 2 = u.size := by omega
          have hc2 : decide ((u.size : Int) - 2 < (q : Int)) = false := by rw [decide_eq_false_iff_not]; omega
          clear hc hq4
          go_wp2_with fail
          refine (unsixes_any (strB Oct.basicS) _ _ rfl (by rw [ByteArray.size_extract]; omega)).mono ?_
          rintro e w1 ⟨A, m, c, rfl, ho, hb⟩
          rw [strB_data, HX.out, ← Oct.unbasic_on (by have := HL.out; have := H4.out; omega)] at ho ⊢
          have HO := hide ho; have HB := hide hb; clear ho hb
          go_wp2_with fail
          go_ret2
          exact ⟨A, m, c, rfl, HO.out, HB.out⟩
  · have hz : (((u.size : Int) % 4) != 0) = true := by rw [bne_iff_ne]; omega
    have HN : Hid (Oct.unbasicL ts = none) := hide (Oct.unbasic_short (by omega))
    clear h4 hl hts
    go_enter Try.func22, Try.ntmps22
    go_wp2_with fail
    go_ret2
    exact Gives.no HN.out (Below.refl _ _)

theorem quiet_worth {s : ByteArray} {y : UInt8} {v : Int} (hs : s.size ≤ 9223372036854775807) (h : worthI s.data.toList y = v) (w : World) :
    Calls Try.prog 39 #[.string s, .int .u8 (y.toNat : Int)] w fun e w' => e = .returned (.int .i64 v) ∧ w = w' := by
  have := worth_any s y w hs
  rwa [h] at this

theorem unhex_cons (a b : UInt8) (r : List UInt8) : Oct.unhexL (a :: b :: r) = match Oct.place Oct.hexS a, Oct.place Oct.hexS b, Oct.unhexL r with | some i, some j, some t => some (UInt8.ofNat (16 * i + j) :: t) | _, _, _ => none := by
  conv => lhs; unfold Oct.unhexL
  rfl
/-- what of a text by sixteen was read -/
theorem unhex_snoc : ∀ (s t : List UInt8), s.length % 2 = 0 → Oct.unhexL (s ++ t) = match Oct.unhexL s, Oct.unhexL t with | some a, some b => some (a ++ b) | _, _ => none
  | [], t, _ => by cases h : Oct.unhexL t <;> simp [Oct.unhexL, h]
  | [_], t, h => by simp at h
  | a :: b :: r, t, h => by
    have ih := unhex_snoc r t (by simp at h; omega)
    rw [List.cons_append, List.cons_append, unhex_cons, unhex_cons, ih]
    generalize Oct.unhexL r = o1
    generalize Oct.unhexL t = o2
    cases Oct.place Oct.hexS a <;> cases Oct.place Oct.hexS b <;> cases o1 <;> cases o2 <;> rfl
theorem unhex_two {a b : UInt8} {i j : Nat} (h1 : Oct.place Oct.hexS a = some i) (h2 : Oct.place Oct.hexS b = some j) : Oct.unhexL [a, b] = some [UInt8.ofNat (16 * i + j)] := by
  unfold Oct.unhexL; rw [h1, h2]; rfl
theorem unhex_odd : ∀ s : List UInt8, s.length % 2 = 1 → Oct.unhexL s = none
  | [], h => by simp at h
  | [_], _ => rfl
  | a :: b :: r, h => by
    unfold Oct.unhexL
    rw [unhex_odd r (by simp at h; omega)]
    cases Oct.place Oct.hexS a <;> cases Oct.place Oct.hexS b <;> rfl
theorem unhex_bad : ∀ (s : List UInt8) (k : Nat) (c : UInt8), s[k]? = some c → Oct.place Oct.hexS c = none → Oct.unhexL s = none
  | [], k, c, h, _ => by simp at h
  | [_], _, _, _, _ => rfl
  | a :: b :: r, k, c, h, hc => by
    unfold Oct.unhexL
    match k, h with
    | 0, h => simp at h; subst h; rw [hc]
    | 1, h => simp at h; subst h; rw [hc]; cases Oct.place Oct.hexS a <;> rfl
    | k + 2, h => rw [unhex_bad r k c (by simpa using h) hc]; cases Oct.place Oct.hexS a <;> cases Oct.place Oct.hexS b <;> rfl

set_option maxHeartbeats 1000000 in
theorem unhex_any (u : ByteArray) (w : World) (hn : u.size ≤ 4611686018427387904) (hsz : u.size ≤ 281474976710656) :
    Calls Try.prog 29 #[.string u] w fun e w' => Gives (Oct.unhexL u.data.toList) w e w' := by
  obtain ⟨ts, hts⟩ : ∃ ts, ts = u.data.toList := ⟨_, rfl⟩
  have hl : ts.length = u.size := by rw [hts]; rfl
  rw [← hts]
  by_cases h4 : u.size % 2 = 0
  · have hz : (((u.size : Int) % 2) != 0) = false := by rw [bne_eq_false_iff_eq]; omega
    have HL := hide hl; have HT := hide hts
    clear hl hts
    go_enter Try.func29, Try.ntmps29
    go_wp2_with fail
    go_loopw [4, 5] (fun v4 v5 wr => ∃ (i j : Nat) (bs : List UInt8) (A2 : Option Addr) (c2 : Nat), j ≤ u.size ∧ v5 = .int .i64 (j : Int) ∧ v4 = .slice A2 i c2 ∧ Hid (j = 2 * i) ∧ Hid (Oct.unhexL (ts.take (2 * i)) = some bs) ∧ Hid (Own wr w.heap.size 5 A2 i c2 (bs.map bv)) ∧ Hid (Below w.heap.size w wr)) (fun _ y _ => u.size - (intOf y).toNat)
    case atStart => exact ⟨0, 0, [], none, 0, by omega, rfl, rfl, hide rfl, hide rfl, hide Own.nil_, hide (Below.refl _ _)⟩
    case round =>
      obtain ⟨i, j, bs, A2, c2, hi, rfl, rfl, HJ, HU, HO, HR⟩ := hrel
      by_cases hlt : j < u.size
      · have hlt2 : j + 1 < u.size := by have := HJ.out; omega
        have hi2 := hide (show 2 * i + 1 < u.size by have := HJ.out; omega)
        obtain ⟨x, hx⟩ : ∃ x, x = u[j] := ⟨_, rfl⟩
        obtain ⟨y, hy⟩ : ∃ y, y = u[j + 1] := ⟨_, rfl⟩
        have hxx : u[j] = x := hx.symm
        have hyx : u[j + 1] = y := hy.symm
        have HX : Hid (ts[2 * i]? = some x) := hide (by rw [HT.out, ← HJ.out, hx, List.getElem?_eq_getElem (by simpa using hlt)]; rfl)
        have HY : Hid (ts[2 * i + 1]? = some y) := hide (by rw [HT.out, ← HJ.out, hy, List.getElem?_eq_getElem (by simpa using hlt2)]; rfl)
        clear hx hy
        obtain ⟨px, hpx⟩ : ∃ px, worthI Oct.hexS x = px := ⟨_, rfl⟩
        obtain ⟨py, hpy⟩ : ∃ py, worthI Oct.hexS y = py := ⟨_, rfl⟩
        have K1 : Hid (∀ wx, Calls Try.prog 39 #[.string { data := #[48, 49, 50, 51, 52, 53, 54, 55, 56, 57, 97, 98, 99, 100, 101, 102] }, .int .u8 (x.toNat : Int)] wx fun e w' => e = .returned (.int .i64 px) ∧ w' = wx) := hide (fun w => (quiet_worth (s := strB Oct.hexS) (y := x) (by decide) hpx w).mono fun _ _ ⟨h1, h2⟩ => ⟨h1, h2.symm⟩)
        have K2 : Hid (∀ wx, Calls Try.prog 39 #[.string { data := #[48, 49, 50, 51, 52, 53, 54, 55, 56, 57, 97, 98, 99, 100, 101, 102] }, .int .u8 (y.toNat : Int)] wx fun e w' => e = .returned (.int .i64 py) ∧ w' = wx) := hide (fun w => (quiet_worth (s := strB Oct.hexS) (y := y) (by decide) hpy w).mono fun _ _ ⟨h1, h2⟩ => ⟨h1, h2.symm⟩)
        have hw : IntKind.i64.wrap ((j : Int) + 1) = ((j + 1 : Nat) : Int) := (IntWalk.i64_in _ (by omega)).trans (by omega)
        have hj0 : (0 : Int) ≤ (j : Int) := by omega
        have hju : (j : Int) < (u.size : Int) := by omega
        have hj1 : (0 : Int) ≤ ((j + 1 : Nat) : Int) := by omega
        have hju1 : ((j + 1 : Nat) : Int) < (u.size : Int) := by omega
        have HPX := hide hpx; have HPY := hide hpy
        clear hpx hpy
        go_wp2_with fail
        go_quiet ((with_reducible first | exact Calls.quiet_of_same (K1.out _) | exact Calls.quiet_of_same (K2.out _)))
        clear hw K1 K2
        have HR2 : Hid (Below w.heap.size w (wr.drewN nq)) := hide (below_drewN HR.out nq)
        have HO2 : Hid (Own (wr.drewN nq) w.heap.size 5 A2 i c2 (bs.map bv)) := hide (HO.out.drewN nq)
        generalize wr.drewN nq = w2 at HR2 HO2 ⊢
        cases hpX : Oct.place Oct.hexS x with
        | none =>
          obtain rfl : px = -1 := by rw [← HPX.out]; unfold worthI; rw [hpX]
          have HN : Hid (Oct.unhexL ts = none) := hide (unhex_bad _ _ _ HX.out hpX)
          clear hpX
          go_wp2_with fail
          go_ret2
          exact Gives.no HN.out HR2.out
        | some a =>
          obtain rfl : px = (a : Int) := by rw [← HPX.out]; unfold worthI; rw [hpX]
          have ha16 : a < 16 := (Oct.place_some hpX).2
          cases hpY : Oct.place Oct.hexS y with
          | none =>
            obtain rfl : py = -1 := by rw [← HPY.out]; unfold worthI; rw [hpY]
            have HN : Hid (Oct.unhexL ts = none) := hide (unhex_bad _ _ _ HY.out hpY)
            clear hpX hpY
            go_wp2_with fail
            go_ret2
            exact Gives.no HN.out HR2.out
          | some b =>
            obtain rfl : py = (b : Int) := by rw [← HPY.out]; unfold worthI; rw [hpY]
            have hb16 : b < 16 := (Oct.place_some hpY).2
            obtain ⟨z, hz2⟩ : ∃ z, z = 16 * a + b := ⟨_, rfl⟩
            have hzl : z < 256 := by omega
            have eor : bits .or .i64 ((a : Int) * 16) (b : Int) = (z : Int) := by
              have := i64_or_nat (a * 16) b (by omega) (by omega)
              rw [show a * 16 = a * 2 ^ 4 from rfl, Oct.or_low (by omega)] at this
              rw [hz2]
              simpa [Nat.mul_comm] using this
            have ez : (z : Int) % 256 = (z : Int) := by omega
            have HU2 : Hid (Oct.unhexL (ts.take (2 * (i + 1))) = some (bs ++ [UInt8.ofNat z])) := hide (by
              rw [show 2 * (i + 1) = 2 * i + 1 + 1 by omega, take_snoc HY.out, take_snoc HX.out, List.append_assoc, unhex_snoc _ _ (by simp; have := HL.out; have := hi2.out; omega), HU.out]
              rw [show [x] ++ [y] = [x, y] from rfl, unhex_two hpX hpY, hz2])
            have hq1 : i + 1 ≤ maxLen := by have := hi2.out; unfold maxLen; omega
            have hq2 : (i + 1) * 1 ≤ 140737488355328 := by have := hi2.out; omega
            have HSZ := hide HR2.out.size
            clear hpX hpY hz2
            go_wp2_with (at_builtin; go_must (with_reducible refine wpList_app rfl (.tmp 33) (.tmp 39) 22 rfl (.int .u8 0) 1 Try.underlying22 info_u8 (cells_int _ _) rfl (HO2.out.alloc _) rfl Sl.one (one_int _ _) hq1 hq2 (by have := HSZ.out; rw [World.size_alloc]; omega) ?_))
            intro A4 c4 w4 hown hgr hat
            have HR4 : Hid (Below w.heap.size w w4) := hide (below_of_grown (HR2.out.alloc HR2.out.size _) hgr (by have := HSZ.out; rw [World.size_alloc]; omega) HO2.out.row_ge)
            have HO4 : Hid (Own w4 w.heap.size 5 A4 (i + 1) c4 ((bs ++ [UInt8.ofNat z]).map bv)) := hide (by
              rw [List.map_append]
              have e : bv (UInt8.ofNat z) = .int .u8 (z : Int) := by unfold bv; rw [UInt8.toNat_ofNat', show z % 2 ^ 8 = z by omega]
              rw [List.map_singleton, e]; exact hown)
            clear hown hgr hat
            go_wp2
            go_roundw
            case rel => exact ⟨i + 1, j + 2, bs ++ [UInt8.ofNat z], A4, c4, by omega, by go_num, rfl, hide (by have := HJ.out; omega), HU2, HO4, HR4⟩
            case measure => simp [intOf]; omega
      · have HU2 : Hid (Oct.unhexL ts = some bs) := hide (by
          have := HU.out
          rwa [List.take_of_length_le (by have := HL.out; have := HJ.out; omega)] at this)
        go_wp2_with fail
        go_ret2
        exact Gives.yes HU2.out HO.out HR.out
  · have hz : (((u.size : Int) % 2) != 0) = true := by rw [bne_iff_ne]; omega
    have HN : Hid (Oct.unhexL ts = none) := hide (unhex_odd _ (by omega))
    clear h4 hl hts
    go_enter Try.func29, Try.ntmps29
    go_wp2_with fail
    go_ret2
    exact Gives.no HN.out (Below.refl _ _)
end Go.Proofs.Ythfoaefdifbfaaa
