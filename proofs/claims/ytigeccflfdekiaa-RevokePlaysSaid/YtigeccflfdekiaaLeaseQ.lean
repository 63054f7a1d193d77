/-
  Lease: the document's desk: a list of notes; find, walked.
-/
import Derived.Test.YtigeccflfdekiaaLeaseJ
import Derived.Test.YtigeccflfdekiaaOwnS
namespace Go.Proofs.Ytigeccflfdekiaa
open Go.RowKit
set_option linter.unusedVariables false

/-- the document's note -/
structure RN where
  s : ByteArray
  e : Int
  a : Int
  g : Bool
def RN.cells (x : RN) : List Value := [.string x.s, .int .i64 x.e, .int .i64 x.a, .bool x.g]
theorem RN.cells_len (x : RN) : x.cells.length = 4 := rfl
theorem RN.cells_one (x : RN) : ∀ u ∈ x.cells, u.oneCell' = true := by
  intro u hu
  simp [RN.cells] at hu
  rcases hu with rfl | rfl | rfl | rfl <;> rfl
def RN.is (x : RN) (s : ByteArray) (e : Int) (g : Bool) : Prop := x.s = s ∧ x.e = e ∧ x.g = g
instance (x : RN) (s : ByteArray) (e : Int) (g : Bool) : Decidable (x.is s e g) := by unfold RN.is; exact inferInstance
def getN : List RN → ByteArray → Int → Option Int
  | [], _, _ => none
  | x :: l, s, e => if x.is s e false then some x.a else getN l s e
def getG : List RN → ByteArray → Int → Bool
  | [], _, _ => false
  | x :: l, s, e => decide (x.is s e true) || getG l s e
def idxR : List RN → ByteArray → Int → Bool → Option Nat
  | [], _, _, _ => none
  | x :: l, s, e, g => if x.is s e g then some 0 else (idxR l s e g).map (· + 1)
def findI (L : List RN) (s : ByteArray) (e : Int) (g : Bool) : Int := match idxR L s e g with | none => -1 | some i => (i : Int)
theorem idx_some {L : List RN} {s : ByteArray} {e : Int} {g : Bool} {i : Nat} (h : idxR L s e g = some i) : ∃ x, L[i]? = some x ∧ x.is s e g := by
  induction L generalizing i with
  | nil => cases h
  | cons y l ih =>
    unfold idxR at h
    split at h
    · rename_i hy; injection h with h; subst h; exact ⟨y, rfl, hy⟩
    · cases hc : idxR l s e g with
      | none => rw [hc] at h; cases h
      | some j =>
        rw [hc] at h
        simp at h; subst h
        obtain ⟨x, h1, h2⟩ := ih hc
        exact ⟨x, by simpa using h1, h2⟩
theorem getN_none {L : List RN} {s : ByteArray} {e : Int} : idxR L s e false = none ↔ getN L s e = none := by
  induction L with
  | nil => simp [idxR, getN]
  | cons y l ih =>
    unfold idxR getN
    split
    · simp
    · rw [← ih]; simp
theorem getN_some {L : List RN} {s : ByteArray} {e : Int} {i : Nat} {x : RN} (h : idxR L s e false = some i) (hx : L[i]? = some x) : getN L s e = some x.a := by
  induction L generalizing i with
  | nil => cases h
  | cons y l ih =>
    unfold idxR at h
    unfold getN
    split at h
    · rename_i hy; injection h with h; subst h; rw [if_pos hy]; simp at hx; rw [hx]
    · rename_i hy
      rw [if_neg hy]
      cases hc : idxR l s e false with
      | none => rw [hc] at h; cases h
      | some j =>
        rw [hc] at h
        simp at h; subst h
        exact ih hc (by simpa using hx)
theorem getG_idx {L : List RN} {s : ByteArray} {e : Int} : getG L s e = (idxR L s e true).isSome := by
  induction L with
  | nil => rfl
  | cons y l ih =>
    unfold getG idxR
    split
    · rename_i hy; rw [decide_eq_true hy]; rfl
    · rename_i hy; rw [decide_eq_false hy, ih]; cases idxR l s e true <;> rfl
theorem getN_snoc (L : List RN) (x : RN) (s : ByteArray) (e : Int) : getN (L ++ [x]) s e = match getN L s e with | some a => some a | none => if x.is s e false then some x.a else none := by
  induction L with
  | nil => rfl
  | cons y l ih =>
    rw [List.cons_append]
    simp only [getN]
    split
    · rfl
    · exact ih
theorem getG_snoc (L : List RN) (x : RN) (s : ByteArray) (e : Int) : getG (L ++ [x]) s e = (getG L s e || decide (x.is s e true)) := by
  induction L with
  | nil => simp [getG]
  | cons y l ih =>
    rw [List.cons_append]
    simp only [getG]
    rw [ih, Bool.or_assoc]
theorem getN_set {L : List RN} {s : ByteArray} {e now : Int} {i : Nat} {x : RN} (h : idxR L s e false = some i) (hx : L[i]? = some x) (s' : ByteArray) (e' : Int) : getN (L.set i ⟨x.s, x.e, now, x.g⟩) s' e' = if s' = s ∧ e' = e then some now else getN L s' e' := by
  induction L generalizing i with
  | nil => cases h
  | cons y l ih =>
    unfold idxR at h
    split at h
    · rename_i hy
      injection h with h; subst h
      simp at hx; subst hx
      rw [List.set_cons_zero]
      simp only [getN]
      obtain ⟨h1, h2, h3⟩ := hy
      by_cases hc : s' = s ∧ e' = e
      · rw [if_pos hc, if_pos ⟨by simp only; rw [h1, hc.1], by simp only; rw [h2, hc.2], h3⟩]
      · have hn : ¬ (y.is s' e' false) := fun hy => hc ⟨by rw [← hy.1, h1], by rw [← hy.2.1, h2]⟩
        rw [if_neg hc, if_neg hn, if_neg (show ¬ RN.is ⟨y.s, y.e, now, y.g⟩ s' e' false from hn)]
    · rename_i hy
      cases hc : idxR l s e false with
      | none => rw [hc] at h; cases h
      | some j =>
        rw [hc] at h
        simp at h; subst h
        rw [List.set_cons_succ]
        simp only [getN]
        by_cases hy2 : y.is s' e' false
        · have hne : ¬ (s' = s ∧ e' = e) := fun hh => hy ⟨by rw [hy2.1, hh.1], by rw [hy2.2.1, hh.2], hy2.2.2⟩
          rw [if_pos hy2, if_neg hne, if_pos hy2]
        · rw [if_neg hy2, if_neg hy2]
          exact ih hc (by simpa using hx)
theorem getG_set {L : List RN} {now : Int} {i : Nat} {x : RN} (hx : L[i]? = some x) (s' : ByteArray) (e' : Int) : getG (L.set i ⟨x.s, x.e, now, x.g⟩) s' e' = getG L s' e' := by
  induction L generalizing i with
  | nil => simp at hx
  | cons y l ih =>
    cases i with
    | zero => simp at hx; subst hx; rfl
    | succ i => rw [List.set_cons_succ]; simp only [getG]; rw [ih (by simpa using hx)]
theorem getN_filter (L : List RN) (fam s : ByteArray) (e : Int) : getN (L.filter (fun x => decide (x.s ≠ fam))) s e = if s = fam then none else getN L s e := by
  induction L with
  | nil => simp [getN]
  | cons y l ih =>
    by_cases hy : y.s = fam
    · rw [List.filter_cons_of_neg (by simp [hy]), ih]
      simp only [getN]
      by_cases hs : s = fam
      · rw [if_pos hs, if_pos hs]
      · rw [if_neg hs, if_neg hs, if_neg (fun h : y.is s e false => hs (by rw [← h.1, hy]))]
    · rw [List.filter_cons_of_pos (by simp [hy])]
      simp only [getN]
      rw [ih]
      by_cases hs : s = fam
      · rw [if_pos hs, if_pos hs, if_neg (fun h : y.is s e false => hy (by rw [h.1, hs]))]
      · rw [if_neg hs, if_neg hs]
theorem getG_filter (L : List RN) (fam s : ByteArray) (e : Int) : getG (L.filter (fun x => decide (x.s ≠ fam))) s e = (!decide (s = fam) && getG L s e) := by
  induction L with
  | nil => simp [getG]
  | cons y l ih =>
    by_cases hy : y.s = fam
    · rw [List.filter_cons_of_neg (by simp [hy]), ih]
      simp only [getG]
      by_cases hs : s = fam
      · simp [hs]
      · rw [decide_eq_false hs, decide_eq_false (fun h : y.is s e true => hs (by rw [← h.1, hy]))]; simp
    · rw [List.filter_cons_of_pos (by simp [hy])]
      simp only [getG]
      rw [ih]
      by_cases hs : s = fam
      · rw [decide_eq_true hs, decide_eq_false (fun h : y.is s e true => hy (by rw [h.1, hs]))]; simp
      · rw [decide_eq_false hs]; simp
/-- the document's desk in memory -/
structure RDesk (w : World) (q : Nat) (A : Option Addr) (n c : Nat) (L : List RN) (term : Int) : Prop where
  row : RowV w q 60 [.slice A n c, .int .i64 term]
  own : OwnS 4 w (q + 1) 96 A n c (L.flatMap RN.cells)
  len : L.length = n
  at64 : ∀ x ∈ L, I64 x.a
/-- what its calls turn -/
def RB (q : Nat) (A : Option Addr) (n c : Nat) : Nat → Prop := fun k => k = q ∨ (Value.slice A n c).ownBlock = some k
theorem RDesk.but {S : Nat → Prop} {w w' : World} {q n c : Nat} {A : Option Addr} {L : List RN} {term : Int} (h : RDesk w q A n c L term) (hb : But S w w') (hs : ∀ k, RB q A n c k → ¬ S k) : RDesk w' q A n c L term :=
  ⟨hb.row h.row (hs q (.inl rfl)), h.own.but_row hb (fun k hk => hs k (.inr hk)), h.len, h.at64⟩
theorem RDesk.below {w w' : World} {q n c : Nat} {A : Option Addr} {L : List RN} {term : Int} (h : RDesk w q A n c L term) (hb : Below w.heap.size w w') : RDesk w' q A n c L term := h.but (But.of_below (S := fun _ => False) hb) (fun _ _ => id)
theorem RDesk.lt {w : World} {q n c : Nat} {A : Option Addr} {L : List RN} {term : Int} (h : RDesk w q A n c L term) : ∀ k, RB q A n c k → k < w.heap.size := fun k hk => hk.elim (fun e => e ▸ h.row.lt) (fun e => h.own.row_lt k e)
/-- note number k: where its cells are -/
theorem RDesk.at_ {w : World} {q n c : Nat} {A : Option Addr} {L : List RN} {term : Int} (h : RDesk w q A n c L term) {k : Nat} (hk : k < n) : ∃ g o x, A = some ⟨g, o, none⟩ ∧ Hid (o = 0) ∧ Hid ((Value.slice A n c).ownBlock = some g) ∧ L[k]? = some x ∧ w.cell? ⟨g, o + k * 4, none⟩ = some (.string x.s) ∧ w.cell? ⟨g, o + k * 4 + 1, none⟩ = some (.int .i64 x.e) ∧ w.cell? ⟨g, o + k * 4 + 2, none⟩ = some (.int .i64 x.a) ∧ w.cell? ⟨g, o + k * 4 + 3, none⟩ = some (.bool x.g) ∧ (∀ j, w.frozen? ⟨g, j, none⟩ = false) := by
  obtain ⟨g, rfl, hg, hc, hf⟩ := h.own.spot (by omega)
  have hl : k < L.length := by rw [h.len]; exact hk
  have hL : L[k]? = some L[k] := List.getElem?_eq_getElem hl
  have get : ∀ j v, (RN.cells L[k])[j]? = some v → w.cell? ⟨g, 0 + k * 4 + j, none⟩ = some v := fun j v hv => by
    rw [Nat.zero_add]
    exact hc _ _ (flat_get RN.cells_len hL hv)
  exact ⟨g, 0, L[k], rfl, hide rfl, hide hg, hL, get 0 _ rfl, get 1 _ rfl, get 2 _ rfl, get 3 _ rfl, hf⟩
set_option maxHeartbeats 4000000 in
theorem find_any (q n c : Nat) (A : Option Addr) (L : List RN) (term : Int) (s : ByteArray) (e : Int) (g : Bool) (w : World) (hd : RDesk w q A n c L term) (hn : n ≤ 1000000) :
    Calls Try.prog 31 #[.pointer (some ⟨q, 0, none⟩), .string s, .int .i64 e, .bool g] w fun en w' => en = .returned (.int .i64 (findI L s e g)) ∧ w = w' := by
  have c0 := hd.row.cell (k := 0) rfl
  have HD := hide hd
  clear hd
  go_enter Try.func31, Try.ntmps31
  go_wp2_with fail
  go_loop [9] (fun v9 => ∃ i : Nat, i ≤ n ∧ v9 = .int .i64 i ∧ Hid (idxR L s e g = (idxR (L.drop i) s e g).map (· + i))) (fun v => n - (intOf v).toNat)
  case atStart => exact ⟨0, by omega, rfl, hide (by simp)⟩
  case round =>
    obtain ⟨i, hi, rfl, HI⟩ := hrel
    by_cases hlt : i < n
    · obtain ⟨gb, o, x, rfl, _, _, hx, k0, k1, _, k3, _⟩ := HD.out.at_ hlt
      have hi1 : (i : Int) < (n : Int) := by omega
      have hi0 : (0 : Int) ≤ (i : Int) := by omega
      have hdr : L.drop i = x :: L.drop (i + 1) := by
        have hl : i < L.length := (List.getElem?_eq_some_iff.1 hx).1
        rw [List.drop_eq_getElem_cons hl]
        congr 1
        exact Option.some.inj ((List.getElem?_eq_getElem hl).symm.trans hx)
      have HYES : Hid (x.is s e g → findI L s e g = (i : Int)) := hide (fun h => by
        unfold findI
        rw [HI.out, hdr]
        simp only [idxR]
        rw [if_pos h]
        simp)
      have HNO : Hid (¬ x.is s e g → idxR L s e g = (idxR (L.drop (i + 1)) s e g).map (· + (i + 1))) := hide (fun h => by
        rw [HI.out, hdr]
        simp only [idxR]
        rw [if_neg h, Option.map_map]
        congr 1
        funext j
        simp only [Function.comp]
        omega)
      clear hdr hx HI
      obtain ⟨xs, xe, xa, xg⟩ := x
      simp only at k0 k1 k3
      have hse := text_eq xs s
      by_cases hs : xs = s
      · rw [decide_eq_true hs] at hse
        by_cases he : xe = e
        · have heb : (xe == e) = true := by rw [he]; simp
          by_cases hg : xg = g
          · have HR := hide (HYES.out ⟨hs, he, hg⟩)
            clear hs he HYES HNO
            subst hg
            cases xg
            all_goals
              go_wp2_with fail
              go_ret
              rw [HR.out]
              exact ⟨rfl, rfl⟩
          · have HR := hide (HNO.out (fun h => hg h.2.2))
            clear hs he HYES HNO
            have hg2 : (xg = true ∧ g = false) ∨ (xg = false ∧ g = true) := by cases xg <;> cases g <;> simp_all
            clear hg
            rcases hg2 with ⟨rfl, rfl⟩ | ⟨rfl, rfl⟩
            all_goals
              go_wp2_with fail
              go_round
              case rel => exact ⟨i + 1, by omega, by go_num, HR⟩
              case measure => simp [intOf]; omega
        · have heb : (xe == e) = false := by rw [beq_eq_false_iff_ne]; exact he
          have HR := hide (HNO.out (fun h => he h.2.1))
          clear hs he HYES HNO
          go_wp2_with fail
          go_round
          case rel => exact ⟨i + 1, by omega, by go_num, HR⟩
          case measure => simp [intOf]; omega
      · rw [decide_eq_false hs] at hse
        have HR := hide (HNO.out (fun h => hs h.1))
        clear hs HYES HNO
        go_wp2_with fail
        go_round
        case rel => exact ⟨i + 1, by omega, by go_num, HR⟩
        case measure => simp [intOf]; omega
    · have HR : Hid (findI L s e g = -1) := hide (by
        unfold findI
        rw [HI.out, List.drop_of_length_le (by rw [HD.out.len]; omega)]
        rfl)
      have hge : ¬ ((i : Int) < (n : Int)) := by omega
      clear HI
      go_wp2_with fail
      go_ret
      rw [HR.out]
      exact ⟨rfl, rfl⟩
end Go.Proofs.Ytigeccflfdekiaa
