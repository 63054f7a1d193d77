/-
  The walk of next.
-/
import Derived.Test.YtnlfnjadadfhkaaWireK
namespace Go.Proofs.Ytnlfnjadadfhkaa
open Go.RowKit
set_option linter.unusedVariables false

/-- .. of a reader with an error *)-/
def Rd.numB (bad : Int) (most : Nat) (rest : List UInt8) : Nat × Int × List UInt8 := if bad = 0 then Rd.num most rest else (0, bad, rest)
/-- the first byte is taken -/
theorem RSt.step {w : World} {G T : Nat} {d : UInt8} {t : List UInt8} {b off c : Nat} (hR : RowV w G T [.slice (some ⟨b, off, none⟩) (t.length + 1) c, .int .i64 0]) (hc : t.length + 1 ≤ c) (hl : SlT w 5 (some ⟨b, off, none⟩) (t.length + 1) ((d :: t).map bv)) (hT : T ≠ 5)
    (off' c' : Nat) (hoff : off' = off + 1 ∨ t = []) (hc' : t.length ≤ c') : RSt (w.setCell ⟨G, 0, none⟩ (.slice (some ⟨b, off', none⟩) t.length c')) G T t 0 := by
  refine ⟨_, _, hR.set 0 _, hc', ?_⟩
  have h1 : SlT w 5 (some ⟨b, off', none⟩) t.length (t.map bv) := by
    rcases hoff with rfl | rfl
    · exact SlT.tail (x := bv d) hl
    · exact SlT.nil_
  refine ⟨h1.keep (only_set (only_refl w G)) ?_, .inr ⟨b, off', rfl⟩⟩
  intro k cur fr e
  injection e with e; subst e
  rw [hR]; intro e; injection e with e; injection e with _ e _; exact hT e
/-- so many bytes are skipped -/
theorem RSt.skip {w : World} {G T n : Nat} {rs : List UInt8} {A A' : Option Addr} {c c' : Nat} (hR : RowV w G T [.slice A rs.length c, .int .i64 0]) (hl : SlT w 5 A rs.length (rs.map bv)) (hT : T ≠ 5) (hn : n ≤ rs.length)
    (hA : (∃ b off, A = some ⟨b, off, none⟩ ∧ A' = some ⟨b, off + n, none⟩) ∨ (rs.length = n ∧ ((A' = none ∧ c' = 0) ∨ ∃ b off, A' = some ⟨b, off, none⟩))) (hc' : rs.length - n ≤ c') : RSt (w.setCell ⟨G, 0, none⟩ (.slice A' (rs.length - n) c')) G T (rs.drop n) 0 := by
  have h1 : SlT w 5 A' (rs.length - n) ((rs.drop n).map bv) ∧ ((A' = none ∧ c' = 0) ∨ ∃ b off, A' = some ⟨b, off, none⟩) := by
    rcases hA with ⟨b, off, rfl, rfl⟩ | ⟨h0, h⟩
    · rw [List.map_drop]; exact ⟨hl.drop n, .inr ⟨b, off + n, rfl⟩⟩
    · rw [List.drop_of_length_le (by omega), h0, Nat.sub_self]; exact ⟨SlT.nil_, h⟩
  have hk : ∀ k cur fr, some G = some k → w.heap[k]? ≠ some (.cells cur 5 fr) := by
    intro k cur fr e
    injection e with e; subst e
    rw [hR]; intro e; injection e with e; injection e with _ e _; exact hT e
  refine ⟨A', c', ?_, ?_, ?_, h1.2⟩
  · rw [List.length_drop]; exact hR.set 0 _
  · rw [List.length_drop]; exact hc'
  · rw [List.length_drop]; exact h1.1.keep (only_set (only_refl w G)) hk
theorem SlT.take {w : World} {e : TypeId} {n : Nat} {A : Option Addr} {xs : List Value} (h : SlT w e A n xs) {k : Nat} (hk : k ≤ n) : SlT w e A k (xs.take k) := by
  refine ⟨by rw [List.length_take, h.1]; omega, fun hn => ?_⟩
  obtain ⟨b, off, rfl, cur, fr, hb, hc⟩ := h.2 (by omega)
  refine ⟨b, off, rfl, cur, fr, hb, fun j u hu => hc j u ?_⟩
  rw [List.getElem?_take] at hu
  split at hu
  · exact hu
  · cases hu
theorem SlT.head {w : World} {n : Nat} {A : Option Addr} {d : UInt8} {t : List UInt8} (h : SlT w 5 A n ((d :: t).map bv)) : ∃ b off, A = some ⟨b, off, none⟩ ∧ w.cell? ⟨b, off, none⟩ = some (.int .u8 (d.toNat : Int)) := by
  obtain ⟨b, off, rfl, cur, fr, hb, hc⟩ := h.2 (by have := h.1; simp at this; omega)
  refine ⟨b, off, rfl, ?_⟩
  rw [cell_of_row w b off _ _ _ hb]
  exact hc 0 _ rfl
theorem and127 (d : Nat) (h : d < 256) : bits BinOp.and IntKind.u8 (d : Int) 127 = ((d % 128 : Nat) : Int) := by
  have h1 : ∀ x : Fin 256, bits BinOp.and IntKind.u8 ((x.val : Nat) : Int) 127 = ((x.val % 128 : Nat) : Int) := by decide +kernel
  exact h1 ⟨d, h⟩
theorem or_shift (n k x : Nat) (hn : n < 128 ^ k) (hx : x * 128 ^ k < 18446744073709551616) (hk : k ≤ 9) : bits BinOp.or IntKind.u64 (n : Int) (IntKind.u64.wrap ((x : Int) * 2 ^ (7 * k))) = ((n + 128 ^ k * x : Nat) : Int) := by
  have hp : (128 : Nat) ^ k = 2 ^ (7 * k) := by rw [Nat.pow_mul]
  have hk9 : 128 ^ k ≤ 128 ^ 9 := Nat.pow_le_pow_right (by omega) hk
  have hx2 : ((x : Int) * 2 ^ (7 * k)) = ((x * 128 ^ k : Nat) : Int) := by rw [hp]; push_cast; rfl
  rw [hx2, u64_small _ (by omega)]
  show IntKind.u64.wrap ((BitVec.ofInt 64 (n : Int) ||| BitVec.ofInt 64 ((x * 128 ^ k : Nat) : Int)).toNat : Int) = _
  have hn64 : n < 18446744073709551616 := by
    have : (128 : Nat) ^ 9 = 9223372036854775808 := by decide
    omega
  rw [BitVec.ofInt_natCast, BitVec.ofInt_natCast, BitVec.toNat_or, BitVec.toNat_ofNat, BitVec.toNat_ofNat, Nat.mod_eq_of_lt hn64, Nat.mod_eq_of_lt hx]
  have ho : n ||| x * 128 ^ k = n + 128 ^ k * x := by
    rw [Nat.or_comm, hp, ← Nat.shiftLeft_eq, ← Nat.shiftLeft_add_eq_or_of_lt (by rw [← hp]; exact hn), Nat.shiftLeft_eq, Nat.add_comm, Nat.mul_comm]
  rw [ho]
  have hlt : n + 128 ^ k * x < 18446744073709551616 := by
    rw [← ho]
    exact Nat.or_lt_two_pow (n := 64) hn64 hx
  rw [u64_small _ (by omega)]
theorem or_shift' (n k d : Nat) (hd : d < 256) (hn : n < 128 ^ k) (hk : k ≤ 9) (h9 : k = 9 → d ≤ 1) : bits BinOp.or IntKind.u64 (n : Int) (IntKind.u64.wrap (IntKind.u64.wrap (bits BinOp.and IntKind.u8 (d : Int) 127) * 2 ^ (7 * k))) = ((n + 128 ^ k * (d % 128) : Nat) : Int) := by
  rw [and127 d hd, u64_small ((d % 128 : Nat) : Int) (by omega)]
  refine or_shift n k (d % 128) hn ?_ hk
  by_cases h : k = 9
  · subst h
    have := h9 rfl
    have e : (128 : Nat) ^ 9 = 9223372036854775808 := by decide
    rw [e]; omega
  · have hk8 : 128 ^ k ≤ 128 ^ 8 := Nat.pow_le_pow_right (by omega) (by omega)
    have e : (128 : Nat) ^ 8 = 72057594037927936 := by decide
    have : d % 128 * 128 ^ k ≤ 127 * 72057594037927936 := Nat.mul_le_mul (by omega) (by omega)
    omega
theorem or_shift0 (n d : Nat) (hd : d < 256) (hn : n < 1) : bits BinOp.or IntKind.u64 (n : Int) (IntKind.u64.wrap (IntKind.u64.wrap (bits BinOp.and IntKind.u8 (d : Int) 127))) = ((n + 128 ^ 0 * (d % 128) : Nat) : Int) := by
  have := or_shift' n 0 d hd (by simpa using hn) (by omega) (by omega)
  simpa using this
theorem Rd.numF_next {most k n : Nat} {d : UInt8} {t : List UInt8} (h1 : ¬ ((k = 9 ∧ 1 < d.toNat) ∨ (0 < k ∧ d.toNat = 0))) : Rd.numF most k n (d :: t) = if d.toNat < 128 then (if n + 128 ^ k * (d.toNat % 128) ≤ most then (n + 128 ^ k * (d.toNat % 128), 0, t) else (0, 3, t)) else Rd.numF most (k + 1) (n + 128 ^ k * (d.toNat % 128)) t := by
  have hd := d.toNat_lt
  rw [Rd.numF, if_neg h1]
  by_cases h : d.toNat < 128
  · rw [if_pos h, if_pos h, Nat.mod_eq_of_lt h]
  · rw [if_neg h, if_neg h, show d.toNat % 128 = d.toNat - 128 by omega]
theorem pow_step {n k x : Nat} (hn : n < 128 ^ k) (hx : x < 128) : n + 128 ^ k * x < 128 ^ (k + 1) := by
  rw [Nat.pow_succ]
  have : 128 ^ k * x ≤ 128 ^ k * 127 := Nat.mul_le_mul_left _ (by omega)
  omega
set_option maxHeartbeats 8000000 in
set_option maxRecDepth 100000 in
theorem rnext_any (G : Nat) (most : Nat) (rest : List UInt8) (bad : Int) (w : World) (hS : RSt w G 71 rest bad) (hmost : most < 18446744073709551616) (hlen : rest.length ≤ 9223372036854775807) :
    Calls Try.prog 56 #[.pointer (some ⟨G, 0, none⟩), .int .u64 (most : Int)] w fun e w' => e = .returned (.int .u64 ((Rd.numB bad most rest).1 : Int)) ∧ RSt w' G 71 (Rd.numB bad most rest).2.2 (Rd.numB bad most rest).2.1 ∧ w.grownBy w' (some G) := by
  have HS := hide hS; clear hS
  obtain ⟨res, hres⟩ : ∃ res, res = Rd.numB bad most rest := ⟨_, rfl⟩
  rw [← hres]
  have HI : Hid ((bad = 0 ∧ Rd.numF most 0 0 rest = res) ∨ (bad ≠ 0 ∧ res = (0, bad, rest))) := hide (by
    unfold Rd.numB at hres
    by_cases h : bad = 0
    · rw [if_pos h] at hres; exact .inl ⟨h, hres.symm⟩
    · rw [if_neg h] at hres; exact .inr ⟨h, hres⟩)
  clear hres
  go_enter Try.func56, Try.ntmps56
  go_wp2_with fail
  go_loopw [5, 6] (fun v5 v6 wq => ∃ (k n : Nat) (rs : List UInt8) (b : Int), k ≤ 10 ∧ n < 128 ^ k ∧ v5 = .int .u64 (n : Int) ∧ v6 = .int .i64 (k : Int) ∧ rs.length ≤ 9223372036854775807 ∧ Hid (RSt wq G 71 rs b) ∧ Hid (w.grownBy wq (some G)) ∧ Hid ((b = 0 ∧ k ≤ 9 ∧ Rd.numF most k n rs = res) ∨ (b ≠ 0 ∧ res = (0, b, rs)))) (fun _ v _ => 20 - (intOf v).toNat)
  case atStart => exact ⟨0, 0, rest, bad, by omega, by omega, rfl, rfl, hlen, HS, hide (only_refl _ _), hide (by rcases HI.out with ⟨h1, h2⟩ | h; exact .inl ⟨h1, by omega, h2⟩; exact .inr h)⟩
  case round =>
    clear HI HS hlen
    obtain ⟨k, n, rs, b, hk, hn, rfl, rfl, hlen, HS, HG, HI⟩ := hrel
    have HN := hide hn
    clear hn
    rcases HI.out with ⟨h1, h2, h3⟩ | ⟨h1, h2⟩
    · subst h1
      have HRES := hide h3
      clear h3 HI
      match rs with
      | [] =>
        obtain ⟨A, c, hR, hc, hl, _⟩ := HS.out
        have c0 := hR.cell (k := 0) rfl
        have c1 := hR.cell (k := 1) rfl
        clear hR hl hc
        simp only [List.length_nil] at c0
        go_wp2_with fail
        refine (rfail_any G _ [] 0 4 _ HS.out (by decide)).mono ?_
        rintro e w2 ⟨rfl, hs, hg⟩
        have S2 := hide hs; have G2 := hide (HG.out.trans hg); clear hs hg
        go_wp2_with fail
        go_ret
        rw [← HRES.out]
        exact ⟨rfl, S2.out, G2.out⟩
      | d :: t =>
        obtain ⟨A, c, hR, hc, hl, _⟩ := HS.out
        obtain ⟨bb, off, rfl, hd⟩ := hl.head
        simp only [List.length_cons] at hlen hR hc hl
        have c0 := hR.cell (k := 0) rfl
        have c1 := hR.cell (k := 1) rfl
        have f0 := hR.free 0
        have HST := hide (fun off' c' ho hc' => RSt.step hR hc hl (by decide) off' c' ho hc')
        have HL0 : Hid ((t = []) ∨ ¬ (t.length = 0)) := hide (by cases t; exact .inl rfl; exact .inr (by simp))
        clear hR hl HS
        have hll : ((t.length : Int) + 1 == 0) = false := by rw [beq_eq_false_iff_ne]; omega
        have tl : (1 : Int) ≤ ((t.length : Int) + 1) := by omega
        have hdl := d.toNat_lt
        go_upto_region 8 with (fail)
        go_cut [] (fun wx => Hid (RSt wx G 71 t 0) ∧ Hid (w.grownBy wx (some G)))
        case first =>
          by_cases hc1 : c = 1
          · subst hc1
            go_wp2_with fail
            go_meet
            case rel =>
              have e0 : t.length = 0 := by omega
              have h := HST.out off 0 (.inr (List.eq_nil_of_length_eq_zero e0)) (by omega)
              rw [e0] at h
              exact ⟨hide h, hide (only_set HG.out)⟩
          · have c1' : (1 : Int) ≤ (c : Int) := by omega
            go_wp2_with fail
            go_meet
            case rel => exact ⟨hide (HST.out _ _ (.inl rfl) (by omega)), hide (only_set HG.out)⟩
        case rest =>
          obtain ⟨S1, G1⟩ := hcut
          clear HST HG c0 c1 f0 hd hll tl HL0
          by_cases hbad : (k = 9 ∧ 1 < d.toNat) ∨ (0 < k ∧ d.toNat = 0)
          · have HE : Hid (res = (0, 3, t)) := hide (by rw [← HRES.out, Rd.numF, if_pos hbad])
            go_upto_region 9 with (fail)
            go_cut [50] (fun v50 wx => v50 = .bool true ∧ wx = wc)
            case first =>
              rcases hbad with ⟨h, h0⟩ | ⟨h, h0⟩
              · have h1 : (1 : Int) < (d.toNat : Int) := by omega
                have k9 : ((k : Int) == 9) = true := by rw [beq_iff_eq]; omega
                clear h h0
                go_wp2_with fail
                go_meet
                case rel => exact ⟨rfl, rfl⟩
              · have d0 : ((d.toNat : Int) == 0) = true := by rw [beq_iff_eq]; omega
                by_cases hk9 : k = 9
                · have h1 : ¬ ((1 : Int) < (d.toNat : Int)) := by omega
                  have k0 : (0 : Int) < (k : Int) := by omega
                  have k9 : ((k : Int) == 9) = true := by rw [beq_iff_eq]; omega
                  clear h h0 hk9
                  go_wp2_with fail
                  go_meet
                  case rel => exact ⟨rfl, rfl⟩
                · have k9 : ((k : Int) == 9) = false := by rw [beq_eq_false_iff_ne]; omega
                  have k0 : (0 : Int) < (k : Int) := by omega
                  clear h h0 hk9
                  go_wp2_with fail
                  go_meet
                  case rel => exact ⟨rfl, rfl⟩
            case rest =>
              obtain ⟨rfl, rfl⟩ := hcut
              go_wp2_with fail
              refine (rfail_any G _ t 0 3 _ S1.out (by decide)).mono ?_
              rintro e w2 ⟨rfl, hs, hg⟩
              have S2 := hide hs; have G2 := hide (G1.out.trans hg); clear hs hg
              go_wp2_with fail
              go_ret
              rw [HE.out]
              exact ⟨rfl, S2.out, G2.out⟩
          · have HNX := hide (Rd.numF_next (most := most) (n := n) (t := t) hbad)
            rw [HRES.out] at HNX
            have h9 : k = 9 → d.toNat ≤ 1 := by omega
            have HOR : Hid (bits BinOp.or IntKind.u64 (n : Int) (IntKind.u64.wrap (IntKind.u64.wrap (bits BinOp.and IntKind.u8 (d.toNat : Int) 127) * 2 ^ (7 * k))) = ((n + 128 ^ k * (d.toNat % 128) : Nat) : Int)) := hide (or_shift' n k d.toNat hdl HN.out h2 h9)
            have HOR0 : k = 0 → bits BinOp.or IntKind.u64 (n : Int) (IntKind.u64.wrap (IntKind.u64.wrap (bits BinOp.and IntKind.u8 (d.toNat : Int) 127))) = ((n + 128 ^ k * (d.toNat % 128) : Nat) : Int) := fun h => by subst h; exact or_shift0 n d.toNat hdl (by have := HN.out; simpa using this)
            have HO0 := hide HOR0
            have HP := hide (pow_step (x := d.toNat % 128) HN.out (by omega))
            clear HOR0
            obtain ⟨n2, hn2⟩ : ∃ n2, n2 = n + 128 ^ k * (d.toNat % 128) := ⟨_, rfl⟩
            rw [← hn2] at HNX HOR HO0 HP
            clear hn2 HRES
            go_upto_region 9 with (fail)
            go_cut [50] (fun v50 wx => v50 = .bool false ∧ wx = wc)
            case first =>
              by_cases hk0 : k = 0
              · have k0 : ¬ ((0 : Int) < (k : Int)) := by omega
                have k9 : ((k : Int) == 9) = false := by rw [beq_eq_false_iff_ne]; omega
                clear hk0
                go_wp2_with fail
                go_meet
                case rel => exact ⟨rfl, rfl⟩
              · have k0 : (0 : Int) < (k : Int) := by omega
                have hd0 : ((d.toNat : Int) == 0) = false := by rw [beq_eq_false_iff_ne]; omega
                by_cases hk9 : k = 9
                · have h1 : ¬ ((1 : Int) < (d.toNat : Int)) := by omega
                  have k9 : ((k : Int) == 9) = true := by rw [beq_iff_eq]; omega
                  clear hk9 hk0
                  go_wp2_with fail
                  go_meet
                  case rel => exact ⟨rfl, rfl⟩
                · have k9 : ((k : Int) == 9) = false := by rw [beq_eq_false_iff_ne]; omega
                  go_wp2_with fail
                  go_meet
                  case rel => exact ⟨rfl, rfl⟩
            case rest =>
              obtain ⟨rfl, rfl⟩ := hcut
              have h9x : k = 9 → d.toNat ≤ 1 := h9
              clear hbad h9
              go_upto_region 11 with (fail)
              go_cut [5] (fun v5 wx => v5 = .int .u64 (n2 : Int) ∧ wx = wc)
              case first =>
                by_cases hk0 : k = 0
                · have h := HO0.out hk0
                  subst hk0
                  go_wp2_with fail
                  go_meet
                  case rel => exact ⟨by rw [← h], rfl⟩
                · have h7 : (0 : Int) ≤ (k : Int) := by omega
                  have h8 : (k : Int) ≤ 9 := by omega
                  go_wp2_with fail
                  go_meet
                  case rel => exact ⟨by rw [← HOR.out], rfl⟩
              case rest =>
                obtain ⟨rfl, rfl⟩ := hcut
                clear HOR HO0
                by_cases hd128 : d.toNat < 128
                · have d1 : (d.toNat : Int) < 128 := by omega
                  by_cases hm : n2 ≤ most
                  · have m1 : (n2 : Int) ≤ (most : Int) := by omega
                    have HE : Hid (res = (n2, 0, t)) := hide (by have := HNX.out; rw [if_pos hd128, if_pos hm] at this; exact this)
                    go_wp2_with fail
                    go_ret
                    rw [HE.out]
                    exact ⟨rfl, S1.out, G1.out⟩
                  · have m1 : ¬ ((n2 : Int) ≤ (most : Int)) := by omega
                    have HE : Hid (res = (0, 3, t)) := hide (by have := HNX.out; rw [if_pos hd128, if_neg hm] at this; exact this)
                    clear hm
                    go_wp2_with fail
                    refine (rfail_any G _ t 0 3 _ S1.out (by decide)).mono ?_
                    rintro e w2 ⟨rfl, hs, hg⟩
                    have S2 := hide hs; have G2 := hide (G1.out.trans hg); clear hs hg
                    go_wp2_with fail
                    go_roundw
                    case rel => exact ⟨k + 1, n2, t, 3, by omega, HP.out, rfl, by go_num, by omega, S2, G2, hide (.inr ⟨by decide, HE.out⟩)⟩
                    case measure => simp [intOf]; omega
                · have d1 : ¬ ((d.toNat : Int) < 128) := by omega
                  have HE : Hid (Rd.numF most (k + 1) n2 t = res) := hide (by have := HNX.out; rw [if_neg hd128] at this; exact this.symm)
                  have hk8 : k ≤ 8 := by
                    have := h9x
                    omega
                  go_wp2_with fail
                  go_roundw
                  case rel => exact ⟨k + 1, n2, t, 0, by omega, HP.out, rfl, by go_num, by omega, S1, G1, hide (.inl ⟨rfl, by omega, HE.out⟩)⟩
                  case measure => simp [intOf]; omega
    · have HRES := hide h2
      obtain ⟨A, c, hR, hc, hl, _⟩ := HS.out
      have c1 := hR.cell (k := 1) rfl
      have hbb : (b == 0) = false := by simpa using h1
      clear hR hl hc h1 h2 HI
      go_wp2_with fail
      go_ret
      rw [HRES.out]
      exact ⟨rfl, HS.out, HG.out⟩
end Go.Proofs.Ytnlfnjadadfhkaa
