/-
  Revoke: families that come in; what a turn does, in plain words.
-/
import Derived.Test.YtigeccflfdekiaaRevA
import Derived.Deep.DeepMust
namespace Go.Proofs.Ytigeccflfdekiaa
open Go.RowKit Go.Maps
set_option linter.unusedVariables false

/-- a family -/
structure Fam where
  id : ByteArray
  client : ByteArray
  user : ByteArray
  sA : Option Addr
  sn : Nat
  sc : Nat
  redirect : ByteArray
  challenge : ByteArray
  method : ByteArray
  code : Int
  tA : Option Addr
  tn : Nat
  tc : Nat
  rev : Bool
  ls : List Int
def Fam.cells (f : Fam) (A : Option Addr) (n c : Nat) : List Value :=
  [.string f.id, .string f.client, .string f.user, .slice f.sA f.sn f.sc, .string f.redirect, .string f.challenge, .string f.method, .int .i64 f.code, .slice f.tA f.tn f.tc, .bool f.rev, .slice A n c]
/-- as Sl, in blocks that Q names -/
def SlP (Q : Nat → Prop) (w : World) (A : Option Addr) (n : Nat) (xs : List Value) : Prop :=
  xs.length = n ∧ (0 < n → ∃ b off, A = some ⟨b, off, none⟩ ∧ Q b ∧ ∀ k u, xs[k]? = some u → w.cell? ⟨b, off + k, none⟩ = some u)
theorem Sl.p {w : World} {B n : Nat} {A : Option Addr} {xs : List Value} (h : Sl w B A n xs) : SlP (· < B) w A n xs := h
theorem SlP.sl {Q : Nat → Prop} {w : World} {B n : Nat} {A : Option Addr} {xs : List Value} (h : SlP Q w A n xs) (hQ : ∀ k, Q k → k < B) : Sl w B A n xs :=
  ⟨h.1, fun hn => by obtain ⟨b, off, e, hb, hc⟩ := h.2 hn; exact ⟨b, off, e, hQ b hb, hc⟩⟩
theorem SlP.but {Q S : Nat → Prop} {w w' : World} {n : Nat} {A : Option Addr} {xs : List Value} (h : SlP Q w A n xs) (hb : But S w w') (hQ : ∀ k, Q k → k < w.heap.size ∧ ¬ S k) : SlP Q w' A n xs :=
  ⟨h.1, fun hn => by
    obtain ⟨b, off, e, hq, hc⟩ := h.2 hn
    exact ⟨b, off, e, hq, fun k u hu => (hb.cell (p := ⟨b, off + k, none⟩) (hQ b hq).1 (hQ b hq).2).trans (hc k u hu)⟩⟩
theorem SlP.mono {Q Q' : Nat → Prop} {w : World} {n : Nat} {A : Option Addr} {xs : List Value} (h : SlP Q w A n xs) (hQ : ∀ k, Q k → Q' k) : SlP Q' w A n xs :=
  ⟨h.1, fun hn => by obtain ⟨b, off, e, hq, hc⟩ := h.2 hn; exact ⟨b, off, e, hQ b hq, hc⟩⟩
theorem SlP.take {Q : Nat → Prop} {w : World} {n : Nat} {A : Option Addr} {xs : List Value} (h : SlP Q w A n xs) (k : Nat) (hk : k ≤ n) : SlP Q w A k (xs.take k) :=
  ⟨by rw [List.length_take, h.1]; omega, fun hn => by
    obtain ⟨b, off, e, hlt, hc⟩ := h.2 (by omega)
    exact ⟨b, off, e, hlt, fun j p hp => hc j p (by
      rw [List.getElem?_take] at hp
      split at hp
      · exact hp
      · cases hp)⟩⟩
/-- a family, of whose leases the first m stand in its slice -/
def FamAt (w : World) (Q : Nat → Prop) (b o : Nat) (f : Fam) : Prop :=
  f.id.size ≤ maxLen ∧ (∀ z ∈ f.ls, I64 z) ∧ ∃ A c, (∀ j v, (f.cells A f.ls.length c)[j]? = some v → w.cell? ⟨b, o + j, none⟩ = some v) ∧ f.ls.length ≤ c ∧ SlP Q w A f.ls.length (f.ls.map (Value.int .i64))
def SlFam (w : World) (Q : Nat → Prop) (A : Option Addr) (n : Nat) (fs : List Fam) : Prop :=
  fs.length = n ∧ (0 < n → ∃ b off, A = some ⟨b, off, none⟩ ∧ Q b ∧ ∀ k f, fs[k]? = some f → FamAt w Q b (off + k * 11) f)
theorem FamAt.but {S Q : Nat → Prop} {w w' : World} {b o : Nat} {f : Fam} (h : FamAt w Q b o f) (hq : Q b) (hb : But S w w') (hQ : ∀ k, Q k → k < w.heap.size ∧ ¬ S k) : FamAt w' Q b o f := by
  obtain ⟨h0, h1, A, c, h2, h3, h4⟩ := h
  exact ⟨h0, h1, A, c, fun j v hv => (hb.cell (p := ⟨b, o + j, none⟩) (hQ b hq).1 (hQ b hq).2).trans (h2 j v hv), h3, h4.but hb hQ⟩
theorem FamAt.mono {Q Q' : Nat → Prop} {w : World} {b o : Nat} {f : Fam} (h : FamAt w Q b o f) (hQ : ∀ k, Q k → Q' k) : FamAt w Q' b o f := by
  obtain ⟨h0, h1, A, c, h2, h3, h4⟩ := h
  exact ⟨h0, h1, A, c, h2, h3, h4.mono hQ⟩
theorem SlFam.but {S Q : Nat → Prop} {w w' : World} {n : Nat} {A : Option Addr} {fs : List Fam} (h : SlFam w Q A n fs) (hb : But S w w') (hQ : ∀ k, Q k → k < w.heap.size ∧ ¬ S k) : SlFam w' Q A n fs :=
  ⟨h.1, fun hn => by
    obtain ⟨b, off, e, hq, hc⟩ := h.2 hn
    exact ⟨b, off, e, hq, fun k f hf => (hc k f hf).but hq hb hQ⟩⟩
theorem SlFam.mono {Q Q' : Nat → Prop} {w : World} {n : Nat} {A : Option Addr} {fs : List Fam} (h : SlFam w Q A n fs) (hQ : ∀ k, Q k → Q' k) : SlFam w Q' A n fs :=
  ⟨h.1, fun hn => by
    obtain ⟨b, off, e, hq, hc⟩ := h.2 hn
    exact ⟨b, off, e, hQ b hq, fun k f hf => (hc k f hf).mono hQ⟩⟩
theorem SlFam.at_ {w : World} {Q : Nat → Prop} {n : Nat} {A : Option Addr} {fs : List Fam} (h : SlFam w Q A n fs) {k : Nat} (hk : k < n) : ∃ b off f, A = some ⟨b, off, none⟩ ∧ Q b ∧ fs[k]? = some f ∧ FamAt w Q b (off + k * 11) f := by
  obtain ⟨b, off, e, hb, hc⟩ := h.2 (by omega)
  have hl : k < fs.length := by have := h.1; omega
  exact ⟨b, off, fs[k], e, hb, List.getElem?_eq_getElem hl, hc k _ (List.getElem?_eq_getElem hl)⟩
/-- one family, just laid -/
theorem SlFam.lit {Q : Nat → Prop} {w : World} {A : Option Addr} {c : Nat} (f : Fam) (hid : f.id.size ≤ maxLen) (hls : ∀ z ∈ f.ls, I64 z) (hc : f.ls.length ≤ c) (hsl : SlP Q w A f.ls.length (f.ls.map (Value.int .i64))) (hQ : ∀ k, Q k → k < w.heap.size) :
    SlFam (w.alloc (.cells (f.cells A f.ls.length c).toArray 34)) (fun k => Q k ∨ k = w.heap.size) (some ⟨w.heap.size, 0, none⟩) 1 [f] := by
  refine ⟨rfl, fun _ => ⟨w.heap.size, 0, rfl, .inr rfl, fun k g hg => ?_⟩⟩
  cases k with
  | zero =>
    simp at hg; subst hg
    refine ⟨hid, hls, A, c, fun j v hv => ?_, hc, (hsl.but (But.of_alloc (S := fun _ => False) _ _) (fun k hk => ⟨hQ k hk, id⟩)).mono fun k hk => .inl hk⟩
    have := (RowV.new w 34 (f.cells A f.ls.length c)).cell hv
    rw [show 0 + 0 * 11 + j = j by omega]
    exact this
  | succ k => simp at hg
/-- whom to tell -/
structure Inv where
  f : ByteArray
  e : Int
def Inv.cells (x : Inv) : List Value := [.string x.f, .int .i64 x.e]
theorem Inv.cells_len (x : Inv) : x.cells.length = 2 := rfl
theorem Inv.cells_one (x : Inv) : ∀ u ∈ x.cells, u.oneCell' = true := by
  intro u hu
  simp [Inv.cells] at hu
  rcases hu with rfl | rfl <;> rfl
theorem info_inv : (Try.prog.info? 41).map (fun i => (i.zero, i.size, i.bytes)) = some (some (.agg #[.string ByteArray.empty, .int .i64 0]), 2, 24) := by kernel_rfl
theorem info_str : (Try.prog.info? 9).map (fun i => (i.zero, i.size, i.bytes)) = some (some (.string ByteArray.empty), 1, 16) := by kernel_rfl
theorem one_str (s : ByteArray) : ∀ u ∈ [Value.string s], u.oneCell' = true := by intro u hu; simp at hu; subst hu; rfl
/-- where a turn stands: the notes, the turns counted anew, whom to tell, what is done with -/
structure TS where
  N : ByteArray → Int → Option Int
  T : ByteArray → Option Int
  tell : List Inv
  done : List ByteArray
def turnOf (G : ByteArray → Int → Bool) (now term pace : Int) (T : ByteArray → Option Int) (st : TS) (f : Fam) (h : Hold) : TS :=
  ⟨h.N, fun s => if s = f.id then some ((T f.id).getD 0 + 1) else st.T s, st.tell ++ (if (T f.id).getD 0 % pace = 0 then h.out.map (Inv.mk f.id) else []), st.done ++ (if h.out = [] then [f.id] else [])⟩
def turnStep (G : ByteArray → Int → Bool) (now term pace : Int) (T : ByteArray → Option Int) (st : TS) (f : Fam) : TS :=
  if (st.T f.id).isSome = true then st else turnOf G now term pace T st f (holdI G f.id now term st.N f.ls)
def tellI (G : ByteArray → Int → Bool) (now term pace : Int) (T : ByteArray → Option Int) (N : ByteArray → Int → Option Int) (fs : List Fam) : TS := fs.foldl (turnStep G now term pace T) ⟨N, fun _ => none, [], []⟩
theorem tellI_snoc (G : ByteArray → Int → Bool) (now term pace : Int) (T : ByteArray → Option Int) (N : ByteArray → Int → Option Int) (fs : List Fam) (f : Fam) : tellI G now term pace T N (fs ++ [f]) = turnStep G now term pace T (tellI G now term pace T N fs) f := by
  unfold tellI; rw [List.foldl_append]; rfl
/-- what is counted -/
def Few (K : Int) (T : ByteArray → Option Int) : Prop := ∀ s v, T s = some v → 0 ≤ v ∧ v ≤ K
theorem Few.getD {K : Int} {T : ByteArray → Option Int} (h : Few K T) (hK : 0 ≤ K) (s : ByteArray) : 0 ≤ (T s).getD 0 ∧ (T s).getD 0 ≤ K := by
  cases hc : T s with
  | none => exact ⟨Int.le_refl _, hK⟩
  | some v => exact h s v hc
theorem turn_few {K : Int} {G : ByteArray → Int → Bool} {now term pace : Int} {T : ByteArray → Option Int} (hT : Few K T) (hK : 0 ≤ K) (fs : List Fam) : ∀ st : TS, Few (K + 1) st.T → Few (K + 1) (fs.foldl (turnStep G now term pace T) st).T := by
  induction fs with
  | nil => intro st h; exact h
  | cons f fs ih =>
    intro st h
    refine ih _ ?_
    unfold turnStep
    split
    · exact h
    · intro s v hv
      simp only [turnOf] at hv
      split at hv
      · injection hv with hv
        have := hT.getD hK f.id
        omega
      · exact h s v hv
theorem tellI_few {K : Int} {G : ByteArray → Int → Bool} {now term pace : Int} {T : ByteArray → Option Int} (hT : Few K T) (hK : 0 ≤ K) (N : ByteArray → Int → Option Int) (fs : List Fam) : Few (K + 1) (tellI G now term pace T N fs).T := turn_few hT hK fs _ (fun _ _ h => by cases h)
theorem tellI_i64 {G : ByteArray → Int → Bool} {now term pace : Int} {T : ByteArray → Option Int} (hn : I64 now) (fs : List Fam) : ∀ {N : ByteArray → Int → Option Int}, (∀ s e a, N s e = some a → I64 a) → ∀ s e a, (tellI G now term pace T N fs).N s e = some a → I64 a := by
  suffices h : ∀ (st : TS), (∀ s e a, st.N s e = some a → I64 a) → ∀ s' e' a, (fs.foldl (turnStep G now term pace T) st).N s' e' = some a → I64 a from fun {N} hN => h ⟨N, fun _ => none, [], []⟩ hN
  induction fs with
  | nil => intro st h; exact h
  | cons f fs ih =>
    intro st h
    refine ih _ ?_
    unfold turnStep
    split
    · exact h
    · exact hold_i64 hn h
/-- how much may be told, done with -/
theorem tellI_len {G : ByteArray → Int → Bool} {now term pace : Int} {T : ByteArray → Option Int} {K : Nat} (fs : List Fam) (hf : ∀ f ∈ fs, f.ls.length ≤ K) : ∀ st : TS, (fs.foldl (turnStep G now term pace T) st).tell.length ≤ st.tell.length + fs.length * K ∧ (fs.foldl (turnStep G now term pace T) st).done.length ≤ st.done.length + fs.length := by
  induction fs with
  | nil => intro st; simp
  | cons f fs ih =>
    intro st
    have h1 := ih (fun g hg => hf g (List.mem_cons_of_mem _ hg)) (turnStep G now term pace T st f)
    have h2 : (turnStep G now term pace T st f).tell.length ≤ st.tell.length + K ∧ (turnStep G now term pace T st f).done.length ≤ st.done.length + 1 := by
      have hl := hf f (List.mem_cons_self ..)
      have hh := holdI_len G f.id now term st.N f.ls
      unfold turnStep turnOf
      split
      · omega
      · simp only [List.length_append]
        constructor
        · split
          · rw [List.length_map]; omega
          · simp
        · split <;> simp
    rw [List.foldl_cons, List.length_cons, Nat.add_mul]
    omega
end Go.Proofs.Ytigeccflfdekiaa
