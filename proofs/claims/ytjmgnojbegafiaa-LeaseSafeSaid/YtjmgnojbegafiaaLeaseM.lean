/-
  Lease: the law LeaseKeeps.
-/
import Derived.Test.YtjmgnojbegafiaaLeaseL
namespace Go.Proofs.Ytjmgnojbegafiaa
open Go.RowKit Go.Maps
set_option linter.unusedVariables false

/-- all that is noted of the family is noted now -/
def NowN (fam : ByteArray) (now : Int) (N : ByteArray → Int → Option Int) : Prop := ∀ e a, N fam e = some a → a = now
theorem hold_par {fam : ByteArray} {now term : Int} (ht : 0 ≤ term) : ∀ (ls : List Int) (st st' : Hold), st.S = st'.S → st.out = st'.out → NowN fam now st.N → NowN fam now st'.N →
    (ls.foldl (holdStep (fun _ _ => false) fam now term) st).out = (ls.foldl (holdStep (fun _ _ => false) fam now term) st').out ∧ NowN fam now (ls.foldl (holdStep (fun _ _ => false) fam now term) st).N := by
  have hov : overB now now term = false := by unfold overB; rw [decide_eq_false (by omega)]
  have look : ∀ (N : ByteArray → Int → Option Int) (e : Int), NowN fam now N → NowN fam now (lookN N fam e now) ∧ (lookN N fam e now fam e).getD 0 = now := by
    intro N e h
    unfold lookN
    cases hc : N fam e with
    | none =>
      simp only
      refine ⟨fun e' a ha => ?_, by unfold setN; simp⟩
      unfold setN at ha
      split at ha
      · injection ha with ha; exact ha.symm
      · exact h e' a ha
    | some a => simp only; exact ⟨h, by rw [hc]; exact h e a hc⟩
  intro ls
  induction ls with
  | nil => intro st st' h1 h2 h3 h4; exact ⟨h2, h3⟩
  | cons e ls ih =>
    intro st st' h1 h2 h3 h4
    rw [List.foldl_cons, List.foldl_cons]
    by_cases hs : st.S e = true
    · have e1 : holdStep (fun _ _ => false) fam now term st e = st := by unfold holdStep; rw [if_pos (Or.inl hs)]
      have e2 : holdStep (fun _ _ => false) fam now term st' e = st' := by unfold holdStep; rw [if_pos (Or.inl (h1 ▸ hs))]
      rw [e1, e2]
      exact ih st st' h1 h2 h3 h4
    · have e1 : holdStep (fun _ _ => false) fam now term st e = ⟨lookN st.N fam e now, fun e' => decide (e' = e) || st.S e', st.out ++ [e]⟩ := by
        unfold holdStep; rw [if_neg (by simp [hs]), (look st.N e h3).2, hov]; simp
      have e2 : holdStep (fun _ _ => false) fam now term st' e = ⟨lookN st'.N fam e now, fun e' => decide (e' = e) || st'.S e', st'.out ++ [e]⟩ := by
        unfold holdStep; rw [if_neg (by rw [← h1]; simp [hs]), (look st'.N e h4).2, hov]; simp
      rw [e1, e2]
      exact ih _ _ (by simp only; rw [h1]) (by simp only; rw [h2]) (look _ e h3).1 (look _ e h4).1
theorem hold_same {fam : ByteArray} {now term : Int} (ht : 0 ≤ term) {N N' : ByteArray → Int → Option Int} (h : NowN fam now N) (h' : NowN fam now N') (ls : List Int) : (holdI (fun _ _ => false) fam now term N ls).out = (holdI (fun _ _ => false) fam now term N' ls).out ∧ NowN fam now (holdI (fun _ _ => false) fam now term N ls).N :=
  hold_par ht ls _ _ rfl rfl h h'
theorem Sl.but {S : Nat → Prop} {w w' : World} {B n : Nat} {A : Option Addr} {xs : List Value} (h : Sl w B A n xs) (hb : But S w w') (hB : B ≤ w.heap.size) (hs : ∀ k, k < B → ¬ S k) : Sl w' B A n xs :=
  h.keep fun b off hlt => hb.cell (p := ⟨b, off, none⟩) (Nat.lt_of_lt_of_le hlt hB) (hs b hlt)
theorem Sl.take {w : World} {B n : Nat} {A : Option Addr} {xs : List Value} (h : Sl w B A n xs) (k : Nat) (hk : k ≤ n) : Sl w B A k (xs.take k) :=
  ⟨by rw [List.length_take, h.1]; omega, fun hn => by
    obtain ⟨b, off, e, hlt, hc⟩ := h.2 (by omega)
    exact ⟨b, off, e, hlt, fun j p hp => hc j p (by
      rw [List.getElem?_take] at hp
      split at hp
      · exact hp
      · cases hp)⟩⟩
/-- a row of the call's own, whatever it holds -/
def AnyR (w : World) (base top : Nat) (A : Option Addr) (n : Nat) : Prop := 0 < n → ∃ g, A = some ⟨g, 0, none⟩ ∧ base ≤ g ∧ g < top ∧ ∃ cur, w.heap[g]? = some (.cells cur 3 (0, 0)) ∧ n ≤ cur.size
theorem AnyR.of {w : World} {base n c : Nat} {A : Option Addr} {xs : List Value} (h : Own w base 3 A n c xs) : AnyR w base w.heap.size A n := by
  intro hn
  rcases h.2 with ⟨h1, h2⟩ | ⟨g, cap, cur, h1, h2, h3, h4, h5, h6, h7⟩
  · injection h1; omega
  · injection h1 with e1 e2 e3
    exact ⟨g, e1, h2, (Array.getElem?_eq_some_iff.1 h3).1, cur, h3, by omega⟩
theorem AnyR.below {w w' : World} {base top n : Nat} {A : Option Addr} (h : AnyR w base top A n) (hb : Below w.heap.size w w') : AnyR w' base top A n := by
  intro hn
  obtain ⟨g, h1, h2, h3, cur, h4, h5⟩ := h hn
  exact ⟨g, h1, h2, h3, cur, (hb.block g (Array.getElem?_eq_some_iff.1 h4).1).trans h4, h5⟩
theorem AnyR.but {S : Nat → Prop} {w w' : World} {base top n : Nat} {A : Option Addr} (h : AnyR w base top A n) (hb : But S w w') (hs : ∀ k, base ≤ k → ¬ S k) : AnyR w' base top A n := by
  intro hn
  obtain ⟨g, h1, h2, h3, cur, h4, h5⟩ := h hn
  exact ⟨g, h1, h2, h3, cur, (hb.block g (Array.getElem?_eq_some_iff.1 h4).1 (hs g h2)).trans h4, h5⟩
theorem AnyR.set {w : World} {base top n g k : Nat} {v : Value} (h : AnyR w base top (some ⟨g, 0, none⟩) n) : AnyR (w.setCell ⟨g, k, none⟩ v) base top (some ⟨g, 0, none⟩) n := by
  intro hn
  obtain ⟨g', h1, h2, h3, cur, h4, h5⟩ := h hn
  injection h1 with h1; injection h1 with h1 _ _; subst h1
  exact ⟨g, rfl, h2, h3, _, heap_setCell_same _ _ _ _ _ _ h4, by simpa using h5⟩
theorem AnyR.at_ {w : World} {base top n k : Nat} {A : Option Addr} (h : AnyR w base top A n) (hk : k < n) : ∃ g, A = some ⟨g, 0, none⟩ ∧ base ≤ g ∧ g < top ∧ w.frozen? ⟨g, k, none⟩ = false ∧ ∃ v, w.cell? ⟨g, k, none⟩ = some v := by
  obtain ⟨g, h1, h2, h3, cur, h4, h5⟩ := h (by omega)
  refine ⟨g, h1, h2, h3, frozen_of_row w g k _ _ h4, ?_⟩
  rw [cell_of_row w g k _ _ _ h4]
  exact ⟨_, Array.getElem?_eq_getElem (by omega)⟩
theorem But.setCell {S : Nat → Prop} {w w' : World} {g k : Nat} {v : Value} (h : But S w w') (hg : S g) : But S w (w'.setCell ⟨g, k, none⟩ v) :=
  ⟨h.os, h.tape, h.output, by rw [World.size_setCell]; exact h.size, fun j hj hn => by
    have hne : j ≠ g := fun e => hn (e ▸ hg)
    rw [heap_setCell_other _ _ _ _ hne]; exact h.block j hj hn⟩
end Go.Proofs.Ytjmgnojbegafiaa
