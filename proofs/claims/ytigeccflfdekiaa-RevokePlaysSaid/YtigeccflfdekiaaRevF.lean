/-
  Revoke: who holds, asked again at once: the same.
-/
import Derived.Test.YtigeccflfdekiaaRevE
namespace Go.Proofs.Ytigeccflfdekiaa
open Go.RowKit
set_option linter.unusedVariables false

theorem lookN_keep {N : ByteArray → Int → Option Int} {fam s : ByteArray} {e e' now a : Int} (h : N s e' = some a) : lookN N fam e now s e' = some a := by
  unfold lookN
  cases hc : N fam e with
  | none =>
    simp only [setN]
    split
    · rename_i hh; obtain ⟨rfl, rfl⟩ := hh; rw [h] at hc; cases hc
    · exact h
  | some b => exact h
theorem hold_keep {G : ByteArray → Int → Bool} {fam s : ByteArray} {e' now term a : Int} : ∀ (ls : List Int) (st : Hold), st.N s e' = some a → (ls.foldl (holdStep G fam now term) st).N s e' = some a := by
  intro ls
  induction ls with
  | nil => intro st h; exact h
  | cons e ls ih =>
    intro st h
    refine ih _ ?_
    unfold holdStep
    split
    · exact h
    · exact lookN_keep h
theorem lookN_some (N : ByteArray → Int → Option Int) (fam : ByteArray) (e now : Int) : ∃ a, lookN N fam e now fam e = some a := by
  unfold lookN
  cases hc : N fam e with
  | none => exact ⟨now, by simp [setN]⟩
  | some b => exact ⟨b, hc⟩
theorem lookN_id {M : ByteArray → Int → Option Int} {fam : ByteArray} {e now a : Int} (h : M fam e = some a) : lookN M fam e now = M := by unfold lookN; rw [h]
theorem hold_again {G : ByteArray → Int → Bool} {fam : ByteArray} {now term : Int} (M : ByteArray → Int → Option Int) : ∀ (ls : List Int) (st st' : Hold), st.S = st'.S → st.out = st'.out → st'.N = M → (∀ e a, (ls.foldl (holdStep G fam now term) st).N fam e = some a → M fam e = some a) →
    (ls.foldl (holdStep G fam now term) st').out = (ls.foldl (holdStep G fam now term) st).out ∧ (ls.foldl (holdStep G fam now term) st').N = M := by
  intro ls
  induction ls with
  | nil => intro st st' h1 h2 h3 h4; exact ⟨h2.symm, h3⟩
  | cons e ls ih =>
    intro st st' h1 h2 h3 h4
    rw [List.foldl_cons, List.foldl_cons]
    rw [List.foldl_cons] at h4
    by_cases hs : st.S e = true ∨ G fam e = true
    · have e1 : holdStep G fam now term st e = st := by unfold holdStep; rw [if_pos hs]
      have e2 : holdStep G fam now term st' e = st' := by unfold holdStep; rw [if_pos (h1 ▸ hs)]
      rw [e1] at h4 ⊢; rw [e2]
      exact ih st st' h1 h2 h3 h4
    · obtain ⟨a, ha⟩ := lookN_some st.N fam e now
      have e1 : holdStep G fam now term st e = ⟨lookN st.N fam e now, fun e' => decide (e' = e) || st.S e', if overB a now term = true then st.out else st.out ++ [e]⟩ := by
        unfold holdStep; rw [if_neg hs, ha]; rfl
      rw [e1] at h4 ⊢
      have hM : M fam e = some a := h4 e a (hold_keep ls _ ha)
      have e2 : holdStep G fam now term st' e = ⟨M, fun e' => decide (e' = e) || st'.S e', if overB a now term = true then st'.out else st'.out ++ [e]⟩ := by
        unfold holdStep; rw [if_neg (h1 ▸ hs), h3, lookN_id hM, hM]; rfl
      rw [e2]
      exact ih _ _ (by simp only; rw [h1]) (by simp only; rw [h2]) rfl h4
theorem holdI_again (G : ByteArray → Int → Bool) (fam : ByteArray) (now term : Int) (N : ByteArray → Int → Option Int) (ls : List Int) : (holdI G fam now term (holdI G fam now term N ls).N ls).out = (holdI G fam now term N ls).out ∧ (holdI G fam now term (holdI G fam now term N ls).N ls).N = (holdI G fam now term N ls).N :=
  hold_again _ ls ⟨N, fun _ => false, []⟩ ⟨_, fun _ => false, []⟩ rfl rfl rfl (fun _ _ h => h)
/-- a turn of one family -/
theorem tell_one (G : ByteArray → Int → Bool) (now term pace : Int) (T : ByteArray → Option Int) (N : ByteArray → Int → Option Int) (f : Fam) : tellI G now term pace T N [f] = turnOf G now term pace T ⟨N, fun _ => none, [], []⟩ f (holdI G f.id now term N f.ls) := by
  unfold tellI turnStep; rfl
end Go.Proofs.Ytigeccflfdekiaa
