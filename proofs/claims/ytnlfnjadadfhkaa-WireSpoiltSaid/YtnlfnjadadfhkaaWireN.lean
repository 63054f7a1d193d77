/-
  The walks of a reader's Text, Texts.
-/
import Derived.Test.YtnlfnjadadfhkaaWireM
import Derived.Maps.Range
namespace Go.Proofs.Ytnlfnjadadfhkaa
open Go.RowKit
set_option linter.unusedVariables false

set_option maxHeartbeats 4000000 in
set_option maxRecDepth 100000 in
theorem rtextr_any (G : Nat) (rest : List UInt8) (bad : Int) (w : World) (hS : RSt w G 71 rest bad) (hlen : rest.length ≤ 9223372036854775807) :
    Calls Try.prog 41 #[.pointer (some ⟨G, 0, none⟩)] w fun e w' => e = .returned (.string (strB (Rd.wordB bad rest).1)) ∧ RSt w' G 71 (Rd.wordB bad rest).2.2 (Rd.wordB bad rest).2.1 ∧ w.grownBy w' (some G) := by
  have h := rnext_any G 65536 rest bad w hS (by omega) hlen
  have hle := Rd.numB_le bad 65536 rest
  have her := Rd.numB_err bad 65536 rest
  have hrl := Rd.numB_rest bad 65536 rest
  obtain ⟨res, hres⟩ : ∃ res, res = Rd.wordB bad rest := ⟨_, rfl⟩
  rw [← hres]
  unfold Rd.wordB at hres
  obtain ⟨r, hr⟩ : ∃ r, r = Rd.numB bad 65536 rest := ⟨_, rfl⟩
  rw [← hr] at h hle her hrl hres
  clear hr hS
  obtain ⟨n, e, rs⟩ := r
  have HC := hide h; clear h
  simp only at hle her hrl hres
  by_cases he : e = 0
  · subst he
    rw [if_neg (by decide)] at hres
    clear her
    by_cases hlt : rs.length < n
    · rw [if_pos hlt] at hres
      have HR := hide hres; clear hres
      have g1 : (rs.length : Int) < (n : Int) := by omega
      go_enter Try.func41, Try.ntmps41
      go_wp2_with fail
      refine HC.out.mono ?_
      rintro e w2 ⟨rfl, hs, hg⟩
      have S2 := hide hs; have G2 := hide hg; clear hs hg HC
      obtain ⟨A, c, hR, hc, hl, _⟩ := S2.out
      have c0 := hR.cell (k := 0) rfl
      have c1 := hR.cell (k := 1) rfl
      clear hR hl hc
      go_wp2_with fail
      refine (rfail_any G _ rs 0 4 _ S2.out (by decide)).mono ?_
      rintro e w3 ⟨rfl, hs, hg⟩
      have S3 := hide hs; have G3 := hide (G2.out.trans hg); clear hs hg c0 c1
      obtain ⟨A, c, hR, hc, hl, _⟩ := S3.out
      have c1 : w3.cell? ⟨G, 1, none⟩ = some (.int .i64 4) := hR.cell (k := 1) rfl
      clear hR hl hc
      go_wp2_with fail
      go_ret
      rw [HR.out]
      exact ⟨rfl, S3.out, G3.out⟩
    · rw [if_neg hlt] at hres
      have HR := hide hres; clear hres
      have g1 : ¬ ((rs.length : Int) < (n : Int)) := by omega
      have n0 : (0 : Int) ≤ (n : Int) := by omega
      have g2 : (n : Int) ≤ (rs.length : Int) := by omega
      go_enter Try.func41, Try.ntmps41
      go_wp2_with fail
      refine HC.out.mono ?_
      rintro e w2 ⟨rfl, hs, hg⟩
      have S2 := hide hs; have G2 := hide hg; clear hs hg HC
      obtain ⟨A, c, hR, hc, hl, hA⟩ := S2.out
      have c0 := hR.cell (k := 0) rfl
      have c1 := hR.cell (k := 1) rfl
      have f0 := hR.free 0
      have hcv := conv_any (P := Try.prog) 24 9 5 Try.underlying24 Try.underlying5 Try.underlying9 (bs := rs.take n) (w := w2) (B := w2.heap.size) (n := n) (A := A) (by have := (hl.take (k := n) (by omega)).sl; rw [← List.map_take] at this; exact this) c
      have HSK := hide (fun A' c' hA' hc' => RSt.skip (A' := A') (c' := c') (n := n) hR hl (by decide) (by omega) hA' hc')
      have hcn : (n : Int) ≤ (c : Int) := by omega
      rcases hA with ⟨rfl, rfl⟩ | ⟨b, off, rfl⟩
      · have e1 : rs.length = 0 := by omega
        have e2 : n = 0 := by omega
        subst e2
        have h1 := HSK.out none 0 (.inr ⟨e1, .inl ⟨rfl, rfl⟩⟩) (by omega)
        rw [e1] at h1 c0
        have H1 := hide h1
        clear HSK hR hl hc e1 g1 g2 h1 n0 hcn hlt
        go_wp2_with fail
        go_ret
        rw [HR.out]
        exact ⟨rfl, H1.out, only_set G2.out⟩
      · clear hR hl
        by_cases hnc : n = c
        · have e1 : rs.length = n := by omega
          have h1 := HSK.out (some ⟨b, off, none⟩) 0 (.inr ⟨e1, .inr ⟨b, off, rfl⟩⟩) (by omega)
          have H1 := hide h1
          clear HSK hc h1 hlt e1
          subst hnc
          go_wp2_with fail
          go_ret
          rw [HR.out]
          exact ⟨rfl, H1.out, only_set G2.out⟩
        · have h1 := HSK.out (some ⟨b, off + n, none⟩) (c - n) (.inl ⟨b, off, rfl, rfl⟩) (by omega)
          have H1 := hide h1
          clear HSK hc h1 hlt
          go_wp2_with fail
          go_ret
          rw [HR.out]
          exact ⟨rfl, H1.out, only_set G2.out⟩
  · rw [if_pos he] at hres
    have HR := hide hres; clear hres
    have e0 := her he
    subst e0
    have hee : (e != 0) = true := by simpa using he
    clear her he
    go_enter Try.func41, Try.ntmps41
    go_wp2_with fail
    refine HC.out.mono ?_
    rintro e' w2 ⟨rfl, hs, hg⟩
    have S2 := hide hs; have G2 := hide hg; clear hs hg HC
    obtain ⟨A, c, hR, hc, hl, _⟩ := S2.out
    have c0 := hR.cell (k := 0) rfl
    have c1 := hR.cell (k := 1) rfl
    clear hR hl hc
    go_wp2_with fail
    go_ret
    rw [HR.out]
    exact ⟨rfl, S2.out, G2.out⟩

def Rd.wordsB : Nat → List UInt8 → List ByteArray × Int × List UInt8
  | 0, rest => ([], 0, rest)
  | k + 1, rest =>
    match Rd.wordB 0 rest with
    | (s, e, r) => if e ≠ 0 then ([], e, r) else
      match Rd.wordsB k r with
      | (l, e', r') => if e' ≠ 0 then ([], e', r') else (strB s :: l, 0, r')
def Rd.textsB (bad : Int) (rest : List UInt8) : List ByteArray × Int × List UInt8 :=
  match Rd.numB bad 4096 rest with
  | (n, e, r) => if e ≠ 0 then ([], e, r) else Rd.wordsB n r
/-- behind some texts -/
def Rd.comb (acc : List ByteArray) (x : List ByteArray × Int × List UInt8) : List ByteArray × Int × List UInt8 := if x.2.1 ≠ 0 then ([], x.2.1, x.2.2) else (acc ++ x.1, 0, x.2.2)
theorem Rd.comb_step (acc : List ByteArray) (k : Nat) (rest : List UInt8) (h : (Rd.wordB 0 rest).2.1 = 0) : Rd.comb acc (Rd.wordsB (k + 1) rest) = Rd.comb (acc ++ [strB (Rd.wordB 0 rest).1]) (Rd.wordsB k (Rd.wordB 0 rest).2.2) := by
  rw [Rd.wordsB]
  obtain ⟨r, hr⟩ : ∃ r, r = Rd.wordB 0 rest := ⟨_, rfl⟩
  rw [← hr] at h ⊢
  obtain ⟨s, e, rs⟩ := r
  simp only at h ⊢
  rw [if_neg (by omega)]
  generalize Rd.wordsB k rs = x
  obtain ⟨l, e', r'⟩ := x
  unfold Rd.comb
  by_cases h2 : e' = 0
  · subst h2; simp
  · simp [h2]
theorem Rd.comb_fail (acc : List ByteArray) (k : Nat) (rest : List UInt8) (h : (Rd.wordB 0 rest).2.1 ≠ 0) : Rd.comb acc (Rd.wordsB (k + 1) rest) = ([], (Rd.wordB 0 rest).2.1, (Rd.wordB 0 rest).2.2) := by
  rw [Rd.wordsB]
  obtain ⟨r, hr⟩ : ∃ r, r = Rd.wordB 0 rest := ⟨_, rfl⟩
  rw [← hr] at h ⊢
  obtain ⟨s, e, rs⟩ := r
  simp only at h ⊢
  rw [if_pos h]
  unfold Rd.comb; rw [if_pos h]
theorem Rd.comb_end (acc : List ByteArray) (rest : List UInt8) : Rd.comb acc (Rd.wordsB 0 rest) = (acc, 0, rest) := by
  unfold Rd.comb Rd.wordsB; simp
theorem Rd.comb_nil (x : List ByteArray × Int × List UInt8) (h : x.2.1 ≠ 0 → x.1 = []) : Rd.comb [] x = x := by
  obtain ⟨l, e, r⟩ := x
  unfold Rd.comb
  by_cases h2 : e = 0
  · subst h2; simp
  · simp only at h; rw [if_pos h2, h h2]
theorem Rd.wordsB_err (k : Nat) (rest : List UInt8) : (Rd.wordsB k rest).2.1 ≠ 0 → (Rd.wordsB k rest).1 = [] := by
  cases k with
  | zero => intro h; rfl
  | succ k =>
    rw [Rd.wordsB]
    generalize Rd.wordB 0 rest = r
    obtain ⟨s, e, rs⟩ := r
    simp only
    split
    · intro _; rfl
    · generalize Rd.wordsB k rs = x
      obtain ⟨l, e', r'⟩ := x
      simp only
      split
      · intro _; rfl
      · intro h; exact absurd rfl h
/-- behind an append to what the call owns a reader is as it was -/
theorem RSt.app {w w' : World} {G T base e q c : Nat} {rest : List UInt8} {bad : Int} {A : Option Addr} {xs : List Value} (h : RSt w G T rest bad) (ho : Own w base e A q c xs) (hg : w.grownBy w' (Value.slice A q c).ownBlock) (hT : T ≠ e) (he : e ≠ 5) : RSt w' G T rest bad := by
  obtain ⟨A2, c2, h1, h2, h3, h4⟩ := h
  refine ⟨A2, c2, (hg.block G h1.lt (fun h => own_ne' ho h1 hT h.symm)).trans h1, h2, h3.keep hg ?_, h4⟩
  intro k cur fr hk
  rcases ho.2 with ⟨h0, _⟩ | ⟨g, cap, cur', h0, _, hgg, _⟩
  · rw [h0] at hk; simp [Value.ownBlock] at hk
  · rw [h0] at hk
    have e2 : g = k := by simpa [Value.ownBlock] using hk
    subst e2
    rw [hgg]; intro e; injection e with e; injection e with _ e _; exact he e
theorem info_string : (Try.prog.info? 9).map (fun i => (i.zero, i.size, i.bytes)) = some (some (.string ByteArray.empty), 1, 16) := by kernel_rfl
theorem one_string (s : ByteArray) : ∀ u ∈ [Value.string s], u.oneCell' = true := by intro u hu; simp at hu; subst hu; rfl
set_option maxHeartbeats 4000000 in
set_option maxRecDepth 100000 in
theorem rtextsr_any (G : Nat) (rest : List UInt8) (bad : Int) (w : World) (hS : RSt w G 71 rest bad) (hlen : rest.length ≤ 9223372036854775807) :
    Calls Try.prog 44 #[.pointer (some ⟨G, 0, none⟩)] w fun e w' => ∃ A c, e = .returned (.slice A (Rd.textsB bad rest).1.length c) ∧ Own w' w.heap.size 9 A (Rd.textsB bad rest).1.length c ((Rd.textsB bad rest).1.map Value.string) ∧ RSt w' G 71 (Rd.textsB bad rest).2.2 (Rd.textsB bad rest).2.1 ∧ w.grownBy w' (some G) := by
  have h := rcount_any G rest bad w hS hlen
  have hle := Rd.numB_le bad 4096 rest
  have her := Rd.numB_err bad 4096 rest
  have hrl := Rd.numB_rest bad 4096 rest
  have HGL := hide hS.lt
  obtain ⟨res, hres⟩ : ∃ res, res = Rd.textsB bad rest := ⟨_, rfl⟩
  rw [← hres]
  unfold Rd.textsB at hres
  obtain ⟨r, hr⟩ : ∃ r, r = Rd.numB bad 4096 rest := ⟨_, rfl⟩
  rw [← hr] at h hle her hrl hres
  clear hr hS
  obtain ⟨n, e, rs⟩ := r
  have HC := hide h; clear h
  simp only at hle her hrl hres
  have HI : Hid ((e = 0 ∧ res = Rd.comb [] (Rd.wordsB n rs)) ∨ (e ≠ 0 ∧ n = 0 ∧ res = ([], e, rs))) := hide (by
    by_cases he : e = 0
    · rw [if_neg (by omega)] at hres
      exact .inl ⟨he, by rw [Rd.comb_nil _ (Rd.wordsB_err n rs)]; exact hres⟩
    · rw [if_pos he] at hres
      exact .inr ⟨he, her he, hres⟩)
  clear hres her
  go_enter Try.func44, Try.ntmps44
  go_wp2_with fail
  refine HC.out.mono ?_
  rintro e' w2 ⟨rfl, hs, hg⟩
  have S2 := hide hs; have G2 := hide hg; clear hs hg HC
  go_wp2_with fail
  go_loopw [3, 4] (fun v3 v4 wq => ∃ (q c k : Nat) (A : Option Addr) (acc : List ByteArray) (rq : List UInt8) (b : Int), k ≤ 4096 ∧ q + k ≤ 4097 ∧ rq.length ≤ 9223372036854775807 ∧ v3 = .slice A q c ∧ v4 = .int .i64 (k : Int) ∧ Hid (acc.length = q) ∧ Hid (Own wq w.heap.size 9 A q c (acc.map Value.string)) ∧ Hid (RSt wq G 71 rq b) ∧ Hid (w.grownBy wq (some G)) ∧ Hid ((b = 0 ∧ res = Rd.comb acc (Rd.wordsB k rq)) ∨ (b ≠ 0 ∧ res = ([], b, rq)))) (fun _ v _ => (intOf v).toNat)
  case atStart => exact ⟨0, 0, n, none, [], rs, e, by omega, by omega, by omega, rfl, rfl, hide rfl, hide Own.nil_, S2, G2, hide (by rcases HI.out with h | ⟨h1, _, h2⟩; exact .inl h; exact .inr ⟨h1, h2⟩)⟩
  case round =>
    clear HI S2 G2 hrl hle hlen
    obtain ⟨q, c, k, A, acc, rq, b, hk, hqk, hrq, rfl, rfl, HQ, HO, HS, HG, HI⟩ := hrel
    obtain ⟨AR, cR, hR, _, _, _⟩ := HS.out
    have c1 := hR.cell (k := 1) rfl
    clear hR
    rcases HI.out with ⟨h1, h2⟩ | ⟨h1, h2⟩
    · subst h1
      have HRES := hide h2
      clear h2 HI
      by_cases hk0 : k = 0
      · subst hk0
        have HE : Hid (res = (acc, 0, rq)) := hide (by rw [HRES.out, Rd.comb_end])
        go_wp2_with fail
        go_ret
        rw [HE.out]
        exact ⟨A, c, by rw [HQ.out]; rfl, by rw [HQ.out]; exact HO.out, HS.out, HG.out⟩
      · obtain ⟨k', rfl⟩ : ∃ k', k = k' + 1 := ⟨k - 1, by omega⟩
        have k1 : (0 : Int) < ((k' + 1 : Nat) : Int) := by omega
        clear hk0
        have hw := rtextr_any G rq 0 wr HS.out hrq
        have hwl := Rd.wordB_rest 0 rq
        have hcs := Rd.comb_step acc k' rq
        have hcf := Rd.comb_fail acc k' rq
        rw [← HRES.out] at hcs hcf
        obtain ⟨x, hx⟩ : ∃ x, x = Rd.wordB 0 rq := ⟨_, rfl⟩
        rw [← hx] at hw hwl hcs hcf
        clear hx
        obtain ⟨s, e2, r2⟩ := x
        simp only at hwl hcs hcf
        have HW := hide hw; have HCS := hide hcs; have HCF := hide hcf
        clear hw hcs hcf HRES
        go_wp2_with fail
        refine HW.out.mono ?_
        rintro e' w3 ⟨rfl, hs, hg⟩
        have S3 := hide (hs.below ((Below.refl _ _).alloc (Nat.le_refl _) (.cells #[.string (strB s)] 9)))
        have O3 := hide ((HO.out.kept hg (.inr (own_ne' HO.out HS.out.row.choose_spec (by decide)))).alloc (.cells #[.string (strB s)] 9))
        have G3 := hide (HG.out.trans hg)
        clear hs hg HW
        go_wp2_with (at_builtin; go_must (with_reducible refine wpList_app rfl (.tmp 19) (.tmp 22) 41 rfl (.string ByteArray.empty) 16 Try.underlying41 info_string (cells_string _) rfl O3.out rfl Sl.one (one_string _) (by unfold maxLen; omega) (by omega) (by have := G3.out.size; rw [World.size_alloc]; omega) ?_))
        intro A4 c4 w4 ho hgr hor
        have S4 := hide (S3.out.app O3.out hgr (by decide) (by decide))
        have G4 : Hid (w.grownBy w4 (some G)) := hide ((G3.out.trans (World.grownBy_alloc w3 _ _)).andThen hgr (fun j hj => .inl (O3.out.row_ge j hj)))
        have O4 := hide ho
        clear ho hgr hor
        go_wp2_with fail
        go_roundw
        case rel =>
          refine ⟨q + 1, c4, k', A4, acc ++ [strB s], r2, e2, by omega, by omega, by omega, rfl, by go_num, hide (by rw [List.length_append, HQ.out]; rfl), hide (by rw [List.map_append]; exact O4.out), S4, G4, hide ?_⟩
          by_cases he2 : e2 = 0
          · exact .inl ⟨he2, HCS.out he2⟩
          · exact .inr ⟨he2, HCF.out he2⟩
        case measure => first | (simp [intOf]; done) | (simp [intOf]; omega)
    · have HE := hide h2
      have hbb : (b != 0) = true := by simpa using h1
      have hbc : (b == 0) = false := by simpa using h1
      clear h1 h2 HI
      by_cases hk0 : k = 0
      · subst hk0
        go_wp2_with fail
        go_ret
        rw [HE.out]
        exact ⟨none, 0, rfl, Own.nil_, HS.out, HG.out⟩
      · have k1 : (0 : Int) < (k : Int) := by omega
        clear hk0
        go_wp2_with fail
        go_ret
        rw [HE.out]
        exact ⟨none, 0, rfl, Own.nil_, HS.out, HG.out⟩
end Go.Proofs.Ytnlfnjadadfhkaa
