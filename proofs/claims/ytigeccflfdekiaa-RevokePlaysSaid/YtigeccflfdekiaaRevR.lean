/-
  Revoke: the document's Wait, Gone.
-/
import Derived.Test.YtigeccflfdekiaaRevQ
import Derived.Test.YtigeccflfdekiaaRevL
namespace Go.Proofs.Ytigeccflfdekiaa
open Go.RowKit Go.Maps
set_option linter.unusedVariables false

/-- somebody more waits -/
theorem rcrew_app {w w2 : World} {p n1 c1 n2 c2 c3 : Nat} {A1 A2 A3 : Option Addr} {L : List Bg} {W : List Rw} {pace : Int} (hc : RCrew w p A1 n1 c1 L A2 n2 c2 W pace) (x : Rw) (e' : Nat)
    (ho : OwnS 3 w2 (p + 1) 98 A3 (n2 + 1) c3 (W.flatMap Rw.cells ++ x.cells)) (hg : (w.alloc (.cells x.cells.toArray e')).grownBy w2 (Value.slice A2 n2 c2).ownBlock)
    (hat : (Value.slice A3 (n2 + 1) c3).ownBlock = (Value.slice A2 n2 c2).ownBlock ∨ (Value.slice A3 (n2 + 1) c3).ownBlock = some (w.heap.size + 1)) :
    RCrew (w2.setCell ⟨p, 1, none⟩ (.slice A3 (n2 + 1) c3)) p A1 n1 c1 L A3 (n2 + 1) c3 (W ++ [x]) pace ∧ But (RC p A1 n1 c1 A2 n2 c2) w (w2.setCell ⟨p, 1, none⟩ (.slice A3 (n2 + 1) c3)) ∧ (∀ k, RC p A1 n1 c1 A3 (n2 + 1) c3 k → RC p A1 n1 c1 A2 n2 c2 k ∨ w.heap.size ≤ k) := by
  have b1 : But (fun k => (Value.slice A2 n2 c2).ownBlock = some k) w w2 := (But.of_below ((Below.refl w.heap.size w).alloc (Nat.le_refl _) (.cells x.cells.toArray e'))).trans (But.of_row hg fun k hk => hk)
  have bS : But (fun k => k = p) w2 (w2.setCell ⟨p, 1, none⟩ (.slice A3 (n2 + 1) c3)) := (But.refl (fun k => k = p) w2).setC rfl
  have r2 : RowV w2 p 56 [.slice A1 n1 c1, .slice A2 n2 c2, .int .i64 pace] := b1.row hc.row (fun hh => by have := hc.o2.row_ge p hh; omega)
  have hnew : ∀ k, (Value.slice A3 (n2 + 1) c3).ownBlock = some k → (Value.slice A2 n2 c2).ownBlock = some k ∨ w.heap.size < k := fun k hk => by
    rcases hat with h2 | h2
    · exact .inl (h2 ▸ hk)
    · rw [hk] at h2; injection h2 with h2; exact .inr (by omega)
  refine ⟨⟨r2.set 1 _, (hc.o1.but_row b1 (fun k hk hh => hc.dis k hk hh)).but_row bS (fun k hk hh => by have := hc.o1.row_ge k hk; have hh : k = p := hh; omega), ?_, hc.len1, by rw [List.length_append, hc.len2]; rfl, fun k hk hk2 => ?_⟩, (b1.mono (fun k hk => .inr (.inr hk))).trans (bS.mono (fun k hk => .inl hk)), fun k hk => ?_⟩
  · rw [List.flatMap_append, List.flatMap_cons, List.flatMap_nil, List.append_nil]
    exact ho.but_row bS (fun k hk hh => by have := ho.row_ge k hk; have hh : k = p := hh; omega)
  · rcases hnew k hk2 with h2 | h2
    · exact hc.dis k hk h2
    · have := hc.o1.row_lt k hk; omega
  · rcases hk with h | h | h
    · exact .inl (.inl h)
    · exact .inl (.inr (.inl h))
    · rcases hnew k h with h2 | h2
      · exact .inl (.inr (.inr h2))
      · exact .inr (by omega)
set_option maxHeartbeats 2000000 in
theorem rwait_any (p n1 c1 n2 c2 : Nat) (A1 A2 : Option Addr) (L : List Bg) (W : List Rw) (pace : Int) (s : ByteArray) (e q : Int) (w : World) (hc : RCrew w p A1 n1 c1 L A2 n2 c2 W pace) (hn : n2 ≤ 1000000) :
    Calls Try.prog 21 #[.pointer (some ⟨p, 0, none⟩), .string s, .int .i64 e, .int .i64 q] w fun en w' => en = .returned (.tuple #[]) ∧ ∃ A3 c3, Hid (RCrew w' p A1 n1 c1 L A3 (n2 + 1) c3 (W ++ [⟨s, e, q⟩]) pace) ∧ Hid (But (RC p A1 n1 c1 A2 n2 c2) w w') ∧ Hid (∀ k, RC p A1 n1 c1 A3 (n2 + 1) c3 k → RC p A1 n1 c1 A2 n2 c2 k ∨ w.heap.size ≤ k) := by
  have c1' := hc.row.cell (k := 1) rfl
  have HC := hide hc
  clear hc
  have HF : Hid (∀ w2 : World, (w.alloc (.cells (Rw.cells ⟨s, e, q⟩).toArray 98)).grownBy w2 (Value.slice A2 n2 c2).ownBlock → w2.frozen? ⟨p, 1, none⟩ = false ∧ w2.cell? ⟨p, 1, none⟩ = some (.slice A2 n2 c2)) := hide fun w2 hg => by
    have r2 : RowV w2 p 56 [.slice A1 n1 c1, .slice A2 n2 c2, .int .i64 pace] := by
      have := hg.block p (by rw [World.size_alloc]; have := HC.out.row.lt; omega) (fun e => by have := HC.out.o2.row_ge p e.symm; omega)
      exact this.trans (HC.out.row.alloc _)
    exact ⟨r2.free 1, r2.cell (k := 1) rfl⟩
  have HONE : Hid (∀ u ∈ [Value.string s, .int .i64 e, .int .i64 q], u.oneCell' = true) := hide (Rw.cells_one ⟨s, e, q⟩)
  go_enter Try.func21, Try.ntmps21
  go_wp2_with (at_builtin; go_must (with_reducible refine wpList_appS1 rfl (.tmp 12) (.tmp 18) 54 rfl _ 32 Try.underlying54 info_rw rfl (by omega) [.string s, .int .i64 e, .int .i64 q] 98 rfl HC.out.o2 rfl rfl HONE.out (by unfold maxLen; omega) (by omega) (by have := HC.out.row.lt; omega) ?_))
  intro A3 c3 w2 ho hg hat
  obtain ⟨g1, g2⟩ := HF.out w2 hg
  have HR := hide (rcrew_app HC.out ⟨s, e, q⟩ _ ho hg hat)
  clear ho hg hat c1'
  go_wp2_with fail
  go_end0
  obtain ⟨r1, r2, r3⟩ := HR.out
  exact ⟨rfl, A3, c3, hide r1, hide r2, hide r3⟩
/-- two cells are written -/
theorem own_set2 {w : World} {base e g n c k : Nat} {xs : List (Int × Int)} {x y : Int × Int} (h : OwnS 2 w base e (some ⟨g, 0, none⟩) n c (xs.flatMap waitC)) (hk : xs[k]? = some x) :
    OwnS 2 ((w.setCell ⟨g, k * 2, none⟩ (.int .i64 y.1)).setCell ⟨g, k * 2 + 1, none⟩ (.int .i64 y.2)) base e (some ⟨g, 0, none⟩) n c ((xs.set k y).flatMap waitC) := by
  have h1 := h.set (j := k * 2) (.int .i64 y.1)
  have e1 : (xs.flatMap waitC).set (k * 2 + 0) (.int .i64 y.1) = (xs.set k (y.1, x.2)).flatMap waitC := flat_set (sz := 2) (fun _ => rfl) hk (by omega) rfl
  rw [Nat.add_zero] at e1
  rw [e1] at h1
  have hk' : (xs.set k (y.1, x.2))[k]? = some (y.1, x.2) := by
    rw [List.getElem?_set_self (by exact (List.getElem?_eq_some_iff.1 hk).1)]
  have h2 := h1.set (j := k * 2 + 1) (.int .i64 y.2)
  have e2 : ((xs.set k (y.1, x.2)).flatMap waitC).set (k * 2 + 1) (.int .i64 y.2) = ((xs.set k (y.1, x.2)).set k y).flatMap waitC := flat_set (sz := 2) (fun _ => rfl) hk' (by omega) rfl
  rw [e2, List.set_set] at h2
  exact h2
/-- one is put in its place -/
theorem put_in {ls : List (Int × Int)} {x : Int × Int} {a : Nat} (ha : a ≤ ls.length) (hp : ls.Pairwise wLt) (h1 : ∀ y ∈ ls.take a, wLt y x) (h2 : ∀ y, ls[a]? = some y → wLt x y) : (ls.take a ++ x :: ls.drop a).Pairwise wLt := by
  have hsp : (ls.take a ++ ls.drop a).Pairwise wLt := by rw [List.take_append_drop]; exact hp
  obtain ⟨p1, p2, p3⟩ := List.pairwise_append.1 hsp
  refine List.pairwise_append.2 ⟨p1, List.pairwise_cons.2 ⟨fun y hy => ?_, p2⟩, fun y hy z hz => ?_⟩
  · cases hd : ls.drop a with
    | nil => rw [hd] at hy; cases hy
    | cons z l =>
      have hz : ls[a]? = some z := by
        have := congrArg (fun l => l[0]?) hd
        simpa using this
      rw [hd] at hy p2
      rcases List.mem_cons.1 hy with rfl | hy
      · exact h2 _ hz
      · have := (List.pairwise_cons.1 p2).1 y hy
        have := h2 z hz
        unfold wLt at *; omega
  · rcases List.mem_cons.1 hz with rfl | hz
    · exact h1 y hy
    · exact p3 y hy z hz
/-- what a family's waits are -/
def GoneL (W : List Rw) (fam : ByteArray) (ls : List (Int × Int)) : Prop := ls.Pairwise wLt ∧ ∀ x, x ∈ ls ↔ ∃ r ∈ W, r.f = fam ∧ r.x = x
theorem GoneL.other {W : List Rw} {fam : ByteArray} {ls : List (Int × Int)} (h : GoneL W fam ls) {r : Rw} (hr : r.f ≠ fam) : GoneL (W ++ [r]) fam ls := by
  refine ⟨h.1, fun x => ?_⟩
  rw [h.2]
  constructor
  · rintro ⟨y, hy, h1⟩; exact ⟨y, by simp [hy], h1⟩
  · rintro ⟨y, hy, h1, h2⟩
    rw [List.mem_append, List.mem_singleton] at hy
    rcases hy with hy | rfl
    · exact ⟨y, hy, h1, h2⟩
    · exact absurd h1 hr
theorem GoneL.again {W : List Rw} {fam : ByteArray} {ls : List (Int × Int)} (h : GoneL W fam ls) {r : Rw} (hr : r.x ∈ ls) : GoneL (W ++ [r]) fam ls := by
  refine ⟨h.1, fun x => ?_⟩
  rw [h.2]
  constructor
  · rintro ⟨y, hy, h1⟩; exact ⟨y, by simp [hy], h1⟩
  · rintro ⟨y, hy, h1, h2⟩
    rw [List.mem_append, List.mem_singleton] at hy
    rcases hy with hy | rfl
    · exact ⟨y, hy, h1, h2⟩
    · obtain ⟨y', hy', h3, h4⟩ := (h.2 _).1 hr
      exact ⟨y', hy', h3, h4.trans h2⟩
theorem GoneL.put {W : List Rw} {fam : ByteArray} {ls : List (Int × Int)} (h : GoneL W fam ls) {r : Rw} (hr : r.f = fam) {a : Nat} (ha : a ≤ ls.length) (h1 : ∀ y ∈ ls.take a, wLt y r.x) (h2 : ∀ y, ls[a]? = some y → wLt r.x y) : GoneL (W ++ [r]) fam (ls.take a ++ r.x :: ls.drop a) := by
  refine ⟨put_in ha h.1 h1 h2, fun x => ?_⟩
  have hm : x ∈ ls.take a ++ r.x :: ls.drop a ↔ x = r.x ∨ x ∈ ls := by
    conv => rhs; rw [← List.take_append_drop a ls]
    simp only [List.mem_append, List.mem_cons]
    constructor
    · rintro (h | h | h)
      · exact .inr (.inl h)
      · exact .inl h
      · exact .inr (.inr h)
    · rintro (h | h | h)
      · exact .inr (.inl h)
      · exact .inl h
      · exact .inr (.inr h)
  rw [hm, h.2]
  constructor
  · rintro (rfl | ⟨y, hy, h3⟩)
    · exact ⟨r, by simp, hr, rfl⟩
    · exact ⟨y, by simp [hy], h3⟩
  · rintro ⟨y, hy, h3, h4⟩
    rw [List.mem_append, List.mem_singleton] at hy
    rcases hy with hy | rfl
    · exact .inr ⟨y, hy, h3, h4⟩
    · exact .inl h4.symm
/-- a row that is being moved up -/
def Moved (ls cur : List (Int × Int)) (k : Nat) : Prop := cur.length = ls.length + 1 ∧ (∀ j, j < k → cur[j]? = ls[j]?) ∧ ∀ j, k < j → cur[j]? = ls[j - 1]?
theorem Moved.start (ls : List (Int × Int)) (x : Int × Int) : Moved ls (ls ++ [x]) ls.length := ⟨by simp, fun j hj => List.getElem?_append_left hj, fun j hj => by rw [List.getElem?_eq_none (by simp; omega), List.getElem?_eq_none (by omega)]⟩
theorem Moved.step {ls cur : List (Int × Int)} {k : Nat} (h : Moved ls cur (k + 1)) {y : Int × Int} (hy : ls[k]? = some y) : Moved ls (cur.set (k + 1) y) k := by
  obtain ⟨h1, h2, h3⟩ := h
  have hk : k < ls.length := (List.getElem?_eq_some_iff.1 hy).1
  refine ⟨by rw [List.length_set]; exact h1, fun j hj => ?_, fun j hj => ?_⟩
  · rw [List.getElem?_set_ne (by omega)]; exact h2 j (by omega)
  · by_cases e : j = k + 1
    · subst e; rw [List.getElem?_set_self (by omega)]; exact hy.symm
    · rw [List.getElem?_set_ne (by omega)]; exact h3 j (by omega)
theorem Moved.fin {ls cur : List (Int × Int)} {k : Nat} (h : Moved ls cur k) (hk : k ≤ ls.length) (x : Int × Int) : cur.set k x = ls.take k ++ x :: ls.drop k := by
  obtain ⟨h1, h2, h3⟩ := h
  apply List.ext_getElem?
  intro j
  rcases Nat.lt_trichotomy j k with hj | hj | hj
  · rw [List.getElem?_set_ne (by omega), h2 j hj, List.getElem?_append_left (by rw [List.length_take]; omega), List.getElem?_take_of_lt hj]
  · subst hj
    rw [List.getElem?_set_self (by omega), List.getElem?_append_right (by rw [List.length_take]; omega), List.length_take, Nat.min_eq_left hk, Nat.sub_self]; rfl
  · rw [List.getElem?_set_ne (by omega), h3 j hj, List.getElem?_append_right (by rw [List.length_take]; omega), List.length_take, Nat.min_eq_left hk, show j - k = (j - k - 1) + 1 by omega, List.getElem?_cons_succ, List.getElem?_drop]
    congr 1; omega
/-- the memory of Gone under way -/
structure GW (w wq : World) (Al : Option Addr) (nl cl : Nat) (ls : List (Int × Int)) (Ar : Option Addr) (nr cr : Nat) (rs : List Rw) : Prop where
  ol : OwnS 2 wq w.heap.size 50 Al nl cl (ls.flatMap waitC)
  or_ : OwnS 3 wq w.heap.size 98 Ar nr cr (rs.flatMap Rw.cells)
  ll : ls.length = nl
  lr : rs.length = nr
  dis : ∀ k, (Value.slice Al nl cl).ownBlock = some k → (Value.slice Ar nr cr).ownBlock ≠ some k
  b : Below w.heap.size w wq
theorem GW.below {w wq w' : World} {Al Ar : Option Addr} {nl cl nr cr : Nat} {ls : List (Int × Int)} {rs : List Rw} (h : GW w wq Al nl cl ls Ar nr cr rs) (hb : Below wq.heap.size wq w') : GW w w' Al nl cl ls Ar nr cr rs :=
  ⟨h.ol.below hb, h.or_.below hb, h.ll, h.lr, h.dis, h.b.trans (hb.mono h.b.size)⟩
theorem GW.rest {w wq w' : World} {Al Ar Ar' : Option Addr} {nl cl nr cr cr' : Nat} {ls : List (Int × Int)} {rs : List Rw} {o : Obj} (h : GW w wq Al nl cl ls Ar nr cr rs) (x : Rw) (ho : OwnS 3 w' w.heap.size 98 Ar' (nr + 1) cr' (rs.flatMap Rw.cells ++ x.cells)) (hg : (wq.alloc o).grownBy w' (Value.slice Ar nr cr).ownBlock)
    (hat : (Value.slice Ar' (nr + 1) cr').ownBlock = (Value.slice Ar nr cr).ownBlock ∨ (Value.slice Ar' (nr + 1) cr').ownBlock = some (wq.heap.size + 1)) : GW w w' Al nl cl ls Ar' (nr + 1) cr' (rs ++ [x]) := by
  have hB : But (fun j => (Value.slice Ar nr cr).ownBlock = some j) wq w' := (But.of_below ((Below.refl wq.heap.size wq).alloc (Nat.le_refl _) o)).trans (But.of_row hg fun k hk => hk)
  refine ⟨h.ol.but_row hB (fun k hk hh => h.dis k hk hh), by rw [List.flatMap_append, List.flatMap_cons, List.flatMap_nil, List.append_nil]; exact ho, h.ll, by rw [List.length_append, h.lr]; rfl, fun k hk hk2 => ?_, h.b.trans (hB.below (fun k hk => h.or_.row_ge k hk) h.b.size)⟩
  rcases hat with h2 | h2
  · exact h.dis k hk (h2 ▸ hk2)
  · rw [hk2] at h2; injection h2 with h2; have := h.ol.row_lt k hk; omega
theorem GW.wait {w wq w' : World} {Al Ar Al' : Option Addr} {nl cl nr cr cl' : Nat} {ls : List (Int × Int)} {rs : List Rw} {o : Obj} (h : GW w wq Al nl cl ls Ar nr cr rs) (x : Int × Int) (ho : OwnS 2 w' w.heap.size 50 Al' (nl + 1) cl' (ls.flatMap waitC ++ waitC x)) (hg : (wq.alloc o).grownBy w' (Value.slice Al nl cl).ownBlock)
    (hat : (Value.slice Al' (nl + 1) cl').ownBlock = (Value.slice Al nl cl).ownBlock ∨ (Value.slice Al' (nl + 1) cl').ownBlock = some (wq.heap.size + 1)) : GW w w' Al' (nl + 1) cl' (ls ++ [x]) Ar nr cr rs ∧ But (fun j => (Value.slice Al nl cl).ownBlock = some j) wq w' := by
  have hB : But (fun j => (Value.slice Al nl cl).ownBlock = some j) wq w' := (But.of_below ((Below.refl wq.heap.size wq).alloc (Nat.le_refl _) o)).trans (But.of_row hg fun k hk => hk)
  refine ⟨⟨by rw [List.flatMap_append, List.flatMap_cons, List.flatMap_nil, List.append_nil]; exact ho, h.or_.but_row hB (fun k hk hh => h.dis k hh hk), by rw [List.length_append, h.ll]; rfl, h.lr, fun k hk hk2 => ?_, h.b.trans (hB.below (fun k hk => h.ol.row_ge k hk) h.b.size)⟩, hB⟩
  rcases hat with h2 | h2
  · exact h.dis k (h2 ▸ hk) hk2
  · rw [hk] at h2; injection h2 with h2; have := h.or_.row_lt k hk2; omega
/-- one of l is written -/
theorem GW.set {w wq : World} {g : Nat} {Ar : Option Addr} {nl cl nr cr k : Nat} {ls : List (Int × Int)} {rs : List Rw} (h : GW w wq (some ⟨g, 0, none⟩) nl cl ls Ar nr cr rs) {x : Int × Int} (hk : ls[k]? = some x) (y : Int × Int) :
    GW w ((wq.setCell ⟨g, k * 2, none⟩ (.int .i64 y.1)).setCell ⟨g, k * 2 + 1, none⟩ (.int .i64 y.2)) (some ⟨g, 0, none⟩) nl cl (ls.set k y) Ar nr cr rs ∧ But (fun j => j = g) wq ((wq.setCell ⟨g, k * 2, none⟩ (.int .i64 y.1)).setCell ⟨g, k * 2 + 1, none⟩ (.int .i64 y.2)) := by
  have hB : But (fun j => j = g) wq ((wq.setCell ⟨g, k * 2, none⟩ (.int .i64 y.1)).setCell ⟨g, k * 2 + 1, none⟩ (.int .i64 y.2)) := ((But.refl (fun j => j = g) wq).setC rfl).setC rfl
  obtain ⟨g', e1, e2, _⟩ := h.ol.spot (by have := (List.getElem?_eq_some_iff.1 hk).1; have := h.ll; omega)
  injection e1 with e1; injection e1 with e1 _ _; subst e1
  refine ⟨⟨own_set2 h.ol hk, h.or_.but_row hB (fun k hk hh => by have hh : k = g := hh; subst hh; exact h.dis k e2 hk), by rw [List.length_set]; exact h.ll, h.lr, h.dis, h.b.trans (hB.below (fun k hk => ?_) h.b.size)⟩, hB⟩
  have hk : k = g := hk
  subst hk
  exact h.ol.row_ge k e2
/-- what the document's Gone gives -/
def GivesRG (p : Nat) (A1 : Option Addr) (n1 c1 : Nat) (L : List Bg) (W : List Rw) (pace : Int) (fam : ByteArray) (w : World) (e : Ending) (w' : World) : Prop :=
  ∃ Al cl ls, e = .returned (.slice Al ls.length cl) ∧ Hid (GoneL W fam ls ∧ ls.length ≤ W.length) ∧ Hid (OwnS 2 w' w.heap.size 50 Al ls.length cl (ls.flatMap waitC)) ∧
    ∃ A3 n3 c3, n3 ≤ W.length ∧ Hid (RCrew w' p A1 n1 c1 L A3 n3 c3 (W.filter (fun r => decide (r.f ≠ fam))) pace) ∧ Hid (But (fun k => k = p) w w') ∧ Hid (∀ k, RC p A1 n1 c1 A3 n3 c3 k → k = p ∨ (Value.slice A1 n1 c1).ownBlock = some k ∨ w.heap.size ≤ k)
theorem filter_snocR {W : List Rw} {i : Nat} {r : Rw} (fam : ByteArray) (hr : W[i]? = some r) : (W.take (i + 1)).filter (fun r => decide (r.f ≠ fam)) = (W.take i).filter (fun r => decide (r.f ≠ fam)) ++ (if r.f = fam then [] else [r]) := by
  rw [List.take_add_one, hr, List.filter_append]
  congr 1
  by_cases h : r.f = fam <;> simp [h]
theorem waitC_one (x : Int × Int) : ∀ u ∈ [Value.int .i64 x.1, .int .i64 x.2], u.oneCell' = true := by
  intro u hu; simp at hu; rcases hu with rfl | rfl <;> rfl
theorem wLt_total {x y : Int × Int} (h1 : ¬ wLt y x) (h2 : y ≠ x) : wLt x y := by
  unfold wLt at *
  have : y.1 ≠ x.1 ∨ y.2 ≠ x.2 := by
    by_cases h : y.1 = x.1
    · exact .inr fun h' => h2 (Prod.ext h h')
    · exact .inl h
  omega
set_option maxHeartbeats 8000000 in
set_option maxRecDepth 100000 in
theorem rgone_any (p n1 c1 n2 c2 : Nat) (A1 A2 : Option Addr) (L : List Bg) (W : List Rw) (pace : Int) (fam : ByteArray) (w : World) (hc : RCrew w p A1 n1 c1 L A2 n2 c2 W pace) (hn : n2 ≤ 1000000) :
    Calls Try.prog 22 #[.pointer (some ⟨p, 0, none⟩), .string fam] w (GivesRG p A1 n1 c1 L W pace fam w) := by
  have HC := hide hc
  clear hc
  go_enter Try.func22, Try.ntmps22
  go_wp2_with fail
  go_loopw [5, 6, 7] (fun v5 v6 v7 wq => ∃ (i : Nat) (Al : Option Addr) (nl cl : Nat) (ls : List (Int × Int)) (Ar : Option Addr) (nr cr : Nat), i ≤ n2 ∧ v7 = .int .i64 i ∧ v5 = .slice Al nl cl ∧ v6 = .slice Ar nr cr ∧ nl ≤ i ∧ nr ≤ i ∧ Hid (GW w wq Al nl cl ls Ar nr cr ((W.take i).filter (fun r => decide (r.f ≠ fam)))) ∧ Hid (GoneL (W.take i) fam ls)) (fun _ _ v _ => n2 - (intOf v).toNat)
  case atStart => exact ⟨0, none, 0, 0, [], none, 0, 0, by omega, rfl, rfl, rfl, by omega, by omega, hide ⟨OwnS.nil_, OwnS.nil_, rfl, rfl, fun k hk => (by cases hk), Below.refl _ _⟩, hide ⟨List.Pairwise.nil, fun x => by simp⟩⟩
  case round =>
    obtain ⟨i, Al, nl, cl, ls, Ar, nr, cr, hi, rfl, rfl, rfl, hnl, hnr, GW1, GL⟩ := hrel
    obtain ⟨rs, hrs⟩ : ∃ rs, rs = (W.take i).filter (fun r => decide (r.f ≠ fam)) := ⟨_, rfl⟩
    rw [← hrs] at GW1
    have RCW := hide (HC.out.but (S := fun k => w.heap.size ≤ k) ⟨GW1.out.b.os, GW1.out.b.tape, GW1.out.b.output, GW1.out.b.size, fun k hk hn => GW1.out.b.block k hk⟩ (fun k hk hh => by have := HC.out.lt k hk; have hh : w.heap.size ≤ k := hh; omega))
    have rc := RCW.out.row.cell (k := 1) rfl
    by_cases hlt : i < n2
    · obtain ⟨gb, ob, x, rfl, _, _, hx, kx, ke, kq⟩ := RCW.out.at2 hlt
      have HSN := hide (filter_snocR fam hx)
      have HTK := hide (take_snoc hx)
      rw [← hrs] at HSN
      have hi1 : (i : Int) < (n2 : Int) := by omega
      have hi0 : (0 : Int) ≤ (i : Int) := by omega
      obtain ⟨xf, xe, xq⟩ := x
      simp only at kx ke kq HSN
      have hse := text_eq xf fam
      have HLB : Hid (gb < wr.heap.size) := hide (World.block_lt_of_cell? _ _ kx)
      clear hx hrs
      go_upto_region 7 with (fail)
      obtain ⟨Tb, hTb⟩ : ∃ Tb, Tb = wr.heap.size := ⟨_, rfl⟩
      rw [← hTb]
      have HTL : Hid (∀ k, (Value.slice Al nl cl).ownBlock = some k → k < Tb) := hide (fun k hk => hTb ▸ GW1.out.ol.row_lt k hk)
      refine wp_world (fun X => Hid (GW w X Al nl cl ls Ar nr cr rs) ∧ Hid (RowV X Tb 50 [.int .i64 xe, .int .i64 xq]) ∧ X.cell? ⟨p, 1, none⟩ = some (.slice (some ⟨gb, ob, none⟩) n2 c2) ∧ X.cell? ⟨gb, ob + i * 3, none⟩ = some (.string xf) ∧ X.cell? ⟨gb, ob + i * 3 + 1, none⟩ = some (.int .i64 xe) ∧ X.cell? ⟨gb, ob + i * 3 + 2, none⟩ = some (.int .i64 xq))
        ⟨hide (GW1.out.below ((Below.refl _ _).alloc (Nat.le_refl _) _)), hide (hTb ▸ RowV.new wr _ _), ((RCW.out.row.alloc _).cell (k := 1) rfl), (World.cell?_alloc_lt wr _ ⟨gb, ob + i * 3, none⟩ HLB.out).trans kx, (World.cell?_alloc_lt wr _ ⟨gb, ob + i * 3 + 1, none⟩ HLB.out).trans ke, (World.cell?_alloc_lt wr _ ⟨gb, ob + i * 3 + 2, none⟩ HLB.out).trans kq⟩ ?_
      clear GW1 RCW rc kx ke kq HLB hTb
      rintro X ⟨GW1, R, rc, kx, ke, kq⟩
      by_cases hs : xf = fam
      · rw [decide_eq_true hs] at hse
        have hsn : (xf.toList != fam.toList) = false := by unfold bne; rw [hse]; rfl
        have HRS : Hid ((W.take (i + 1)).filter (fun r => decide (r.f ≠ fam)) = rs) := hide (by rw [HSN.out, if_pos hs, List.append_nil])
        have HS := hide hs
        clear hs HSN
        go_wp2_with fail
        clear kx ke kq rc
        go_loopw [9] (fun v9 wq => ∃ (a : Nat), a ≤ nl ∧ v9 = .int .i64 a ∧ Hid (∀ y ∈ ls.take a, wLt y (xe, xq)) ∧ Hid (GW w wq Al nl cl ls Ar nr cr rs) ∧ Hid (RowV wq Tb 50 [.int .i64 xe, .int .i64 xq])) (fun v _ => nl - (intOf v).toNat)
        case atStart => exact ⟨0, by omega, rfl, hide (by simp), GW1, R⟩
        case round =>
          clear GW1 R
          obtain ⟨a, ha, rfl, HA, GW1, R⟩ := hrel
          have q0 := R.out.cell (k := 0) rfl
          have q1 := R.out.cell (k := 1) rfl
          by_cases hal : a < nl
          · obtain ⟨g, rfl, hg, hcl, hfr⟩ := GW1.out.ol.spot (by omega)
            obtain ⟨y, hy⟩ : ∃ y, ls[a]? = some y := ⟨_, List.getElem?_eq_getElem (by have := GW1.out.ll; omega)⟩
            have l0 : wr.cell? ⟨g, a * 2, none⟩ = some (.int .i64 y.1) := hcl _ _ (flat_get (enc := waitC) (sz := 2) (fun _ => rfl) hy (j := 0) rfl)
            have l1 : wr.cell? ⟨g, a * 2 + 1, none⟩ = some (.int .i64 y.2) := hcl _ _ (flat_get (enc := waitC) (sz := 2) (fun _ => rfl) hy (j := 1) rfl)
            have ha1 : (a : Int) < (nl : Int) := by omega
            have ha0 : (0 : Int) ≤ (a : Int) := by omega
            have HY := hide hy
            have HG := hide hg; have HFR := hide hfr
            obtain ⟨y1, y2⟩ := y
            simp only at l0 l1
            clear hy hg hcl hfr
            by_cases hw : wLt (y1, y2) (xe, xq)
            · have HA2 : Hid (∀ y ∈ ls.take (a + 1), wLt y (xe, xq)) := hide (fun z hz => by
                rw [take_snoc HY.out] at hz
                rcases List.mem_append.1 hz with hz | hz
                · exact HA.out z hz
                · simp at hz; subst hz; exact hw)
              have hw2 : y1 < xe ∨ (y1 = xe ∧ y2 < xq) := hw
              clear hw
              rcases hw2 with h1 | ⟨h1, h2⟩
              · go_wp2_with fail
                go_quiet (fail)
                go_wp2_with fail
                go_roundw
                case rel => exact ⟨a + 1, by omega, by go_num, HA2, hide (GW1.out.below (below_drewN (Below.refl _ _) _)), R⟩
                case measure => simp [intOf]; omega
              · have h3 : decide (y1 < xe) = false := decide_eq_false (by omega)
                have h3' : ¬ y1 < xe := by omega
                have h4 : (y1 == xe) = true := by rw [h1]; simp
                clear h1
                go_wp2_with fail
                go_quiet (fail)
                go_wp2_with fail
                go_roundw
                case rel => exact ⟨a + 1, by omega, by go_num, HA2, hide (GW1.out.below (below_drewN (Below.refl _ _) _)), R⟩
                case measure => simp [intOf]; omega
            · have hw2 : (xe < y1) ∨ (y1 = xe ∧ ¬ y2 < xq) := by unfold wLt at hw; simp only at hw; omega
              have h3 : decide (y1 < xe) = false := decide_eq_false (by omega)
              have h3' : ¬ y1 < xe := by omega
              have HN := hide hw
              clear hw
              obtain ⟨Z, hZ⟩ : ∃ Z : Prop, Z = True := ⟨_, rfl⟩
              by_cases he : (y1, y2) = (xe, xq)
              · injection he with e1 e2
                have HGL : Hid (GoneL (W.take (i + 1)) fam ls) := hide (by rw [HTK.out]; exact GL.out.again (r := ⟨xf, xe, xq⟩) (by show (xe, xq) ∈ ls; rw [← e1, ← e2]; exact List.mem_of_getElem? HY.out))
                have h4 : (y1 == xe) = true := by rw [e1]; simp
                have h5 : decide (y2 < xq) = false := decide_eq_false (by omega)
                have h5' : ¬ y2 < xq := by omega
                have h6 : (y2 == xq) = true := by rw [e2]; simp
                clear e1 e2 hw2
                go_wp2_with fail
                go_quiet (fail)
                go_wp2_with fail
                go_quiet (fail)
                go_wp2_with fail
                refine ⟨⟨i + 1, _, nl, cl, ls, Ar, nr, cr, by omega, by go_num, rfl, rfl, by omega, by omega, by rw [HRS.out]; exact hide (GW1.out.below (below_drewN (Below.refl _ _) _)), HGL⟩, by simp [intOf]; omega⟩
              · have HB : Hid (∀ z, ls[a]? = some z → wLt (xe, xq) z) := hide (fun z hz => by
                  rw [HY.out] at hz; injection hz with hz; subst hz
                  exact wLt_total HN.out he)
                have he2 : (y1 == xe && y2 == xq) = false := by
                  rw [Bool.and_eq_false_iff]
                  by_cases h : y1 = xe
                  · refine .inr ?_
                    rw [beq_eq_false_iff_ne]
                    exact fun h' => he (by rw [h, h'])
                  · exact .inl (by rw [beq_eq_false_iff_ne]; exact h)
                have hw3 : ((y1 == xe) = false ∧ decide (y2 < xq) = decide (y2 < xq)) ∨ ((y1 == xe) = true ∧ (y2 == xq) = false ∧ decide (y2 < xq) = false ∧ ¬ y2 < xq) := by
                  by_cases h : y1 = xe
                  · refine .inr ⟨by rw [h]; simp, ?_, decide_eq_false (by omega), by omega⟩
                    rw [beq_eq_false_iff_ne]
                    exact fun h' => he (by rw [h, h'])
                  · exact .inl ⟨by rw [beq_eq_false_iff_ne]; exact h, rfl⟩
                clear he he2 hw2
                rcases hw3 with ⟨h4, _⟩ | ⟨h4, h6, h5, h5'⟩
                all_goals
                  go_wp2_with fail
                  go_quiet (fail)
                  go_wp2_with fail
                  go_quiet (fail)
                  go_upto_region 13 with (fail)
                  refine wp_world (fun Z => Hid (GW w Z (some ⟨g, 0, none⟩) nl cl ls Ar nr cr rs) ∧ Hid (RowV Z Tb 50 [.int .i64 xe, .int .i64 xq])) ⟨hide (GW1.out.below (below_drewN (below_drewN (Below.refl _ _) _) _)), hide R.out⟩ ?_
                  clear GW1 R q0 q1 l0 l1
                  rintro Z ⟨GW1, R⟩
                  have q0 := R.out.cell (k := 0) rfl
                  have q1 := R.out.cell (k := 1) rfl
                  have HBS := hide GW1.out.b.size
                  have HONE : Hid (∀ u ∈ [Value.int .i64 xe, .int .i64 xq], u.oneCell' = true) := hide (waitC_one (xe, xq))
                  go_wp2_with (at_builtin; go_must (with_reducible refine wpList_appS1 rfl (.tmp 96) (.tmp 98) 47 rfl _ 16 Try.underlying47 info_wt rfl (by omega) [.int .i64 xe, .int .i64 xq] 50 rfl GW1.out.ol rfl rfl HONE.out (by unfold maxLen; omega) (by omega) HBS.out ?_))
                  intro A9 c9 w9 ho hg hat
                  have hE := GW1.out.wait (xe, xq) ho hg hat
                  have GW9 := hide hE.1
                  have R9 := hide (hE.2.row R.out (fun hh => by have := HTL.out _ hh; omega))
                  have HT9 : Hid (∀ k, (Value.slice A9 (nl + 1) c9).ownBlock = some k → k ≠ Tb) := hide (fun k hk => by
                    rcases hat with h2 | h2
                    · have := HTL.out k (h2 ▸ hk); omega
                    · rw [hk] at h2; injection h2 with h2; have := R.out.lt; omega)
                  have HLL : Hid (ls.length = nl) := hide GW1.out.ll
                  clear ho hg hat hE GW1 R q0 q1
                  go_wp2_with fail
                  go_loopw [10] (fun v10 wq => ∃ (k : Nat) (cur : List (Int × Int)), a ≤ k ∧ k ≤ nl ∧ v10 = .int .i64 k ∧ Hid (Moved ls cur k) ∧ Hid (GW w wq A9 (nl + 1) c9 cur Ar nr cr rs) ∧ Hid (RowV wq Tb 50 [.int .i64 xe, .int .i64 xq])) (fun v _ => (intOf v).toNat)
                  case atStart => exact ⟨nl, ls ++ [(xe, xq)], ha, Nat.le_refl _, by go_num, hide (HLL.out ▸ Moved.start ls (xe, xq)), GW9, R9⟩
                  case round =>
                    clear GW9 R9
                    obtain ⟨k, cur, hk1, hk2, rfl, HM, GW9, R9⟩ := hrel
                    obtain ⟨g, rfl, hg, hcl, hfr⟩ := GW9.out.ol.spot (by omega)
                    by_cases hka : a < k
                    · obtain ⟨k', rfl⟩ : ∃ k', k = k' + 1 := ⟨k - 1, by omega⟩
                      obtain ⟨y, hy⟩ : ∃ y, ls[k']? = some y := ⟨_, List.getElem?_eq_getElem (by have := HLL.out; omega)⟩
                      have hcy : cur[k']? = some y := (HM.out.2.1 k' (by omega)).trans hy
                      obtain ⟨z, hz⟩ : ∃ z, cur[k' + 1]? = some z := ⟨_, List.getElem?_eq_getElem (by have := HM.out.1; have := HLL.out; omega)⟩
                      have l0 : wr.cell? ⟨g, k' * 2, none⟩ = some (.int .i64 y.1) := hcl _ _ (flat_get (enc := waitC) (sz := 2) (fun _ => rfl) hcy (j := 0) rfl)
                      have l1 : wr.cell? ⟨g, k' * 2 + 1, none⟩ = some (.int .i64 y.2) := hcl _ _ (flat_get (enc := waitC) (sz := 2) (fun _ => rfl) hcy (j := 1) rfl)
                      have m0 : wr.cell? ⟨g, (k' + 1) * 2, none⟩ = some (.int .i64 z.1) := hcl _ _ (flat_get (enc := waitC) (sz := 2) (fun _ => rfl) hz (j := 0) rfl)
                      have m1 : wr.cell? ⟨g, (k' + 1) * 2 + 1, none⟩ = some (.int .i64 z.2) := hcl _ _ (flat_get (enc := waitC) (sz := 2) (fun _ => rfl) hz (j := 1) rfl)
                      have f0 := hfr ((k' + 1) * 2)
                      have f1 := hfr ((k' + 1) * 2 + 1)
                      have hki : (a : Int) < ((k' + 1 : Nat) : Int) := by omega
                      have hk0 : (0 : Int) ≤ (k' : Int) := by omega
                      have hk3 : (k' : Int) < ((nl + 1 : Nat) : Int) := by omega
                      have hk4 : ((k' + 1 : Nat) : Int) < ((nl + 1 : Nat) : Int) := by omega
                      have hE := GW9.out.set hz y
                      have GWN := hide hE.1
                      have RN := hide (hE.2.row R9.out (fun hh => HT9.out g hg hh.symm))
                      have HMN := hide (HM.out.step hy)
                      clear hy hcy hz hE hcl hfr hg GW9 R9 HM
                      go_wp2_with fail
                      go_roundw
                      case rel => exact ⟨k', _, by omega, by omega, by go_num, HMN, GWN, RN⟩
                      case measure => simp [intOf]
                    · obtain rfl : k = a := by omega
                      obtain ⟨z, hz⟩ : ∃ z, cur[k]? = some z := ⟨_, List.getElem?_eq_getElem (by have := HM.out.1; have := HLL.out; omega)⟩
                      have m0 : wr.cell? ⟨g, k * 2, none⟩ = some (.int .i64 z.1) := hcl _ _ (flat_get (enc := waitC) (sz := 2) (fun _ => rfl) hz (j := 0) rfl)
                      have m1 : wr.cell? ⟨g, k * 2 + 1, none⟩ = some (.int .i64 z.2) := hcl _ _ (flat_get (enc := waitC) (sz := 2) (fun _ => rfl) hz (j := 1) rfl)
                      have f0 := hfr (k * 2)
                      have f1 := hfr (k * 2 + 1)
                      have q0 := R9.out.cell (k := 0) rfl
                      have q1 := R9.out.cell (k := 1) rfl
                      have hki : ¬ ((k : Int) < (k : Int)) := by omega
                      have hk0 : (0 : Int) ≤ (k : Int) := by omega
                      have hk3 : (k : Int) < ((nl + 1 : Nat) : Int) := by omega
                      have hE := GW9.out.set hz (xe, xq)
                      rw [HM.out.fin (by have := HLL.out; omega) (xe, xq)] at hE
                      have GWN := hide hE.1
                      have HGL : Hid (GoneL (W.take (i + 1)) fam (ls.take k ++ (xe, xq) :: ls.drop k)) := hide (by rw [HTK.out]; exact GL.out.put (r := ⟨xf, xe, xq⟩) HS.out (by have := HLL.out; omega) HA.out HB.out)
                      clear hz hE hcl hfr hg GW9 R9 HM
                      go_wp2_with fail
                      refine ⟨⟨i + 1, _, nl + 1, c9, _, Ar, nr, cr, by omega, by go_num, rfl, rfl, by omega, by omega, by rw [HRS.out]; exact GWN, HGL⟩, by simp [intOf]; omega⟩
          · have han : ¬ ((a : Int) < (nl : Int)) := by omega
            have HB : Hid (∀ z, ls[a]? = some z → wLt (xe, xq) z) := hide (fun z hz => by have := (List.getElem?_eq_some_iff.1 hz).1; have := GW1.out.ll; omega)
            have hdn : decide ((a : Int) < (nl : Int)) = false := decide_eq_false han
            go_wp2_with fail
            go_quiet (fail)
            go_wp2_with fail
            go_quiet (fail)
            go_upto_region 13 with (fail)
            refine wp_world (fun Z => Hid (GW w Z Al nl cl ls Ar nr cr rs) ∧ Hid (RowV Z Tb 50 [.int .i64 xe, .int .i64 xq])) ⟨hide (GW1.out.below (below_drewN (below_drewN (Below.refl _ _) _) _)), hide R.out⟩ ?_
            clear GW1 R q0 q1
            rintro Z ⟨GW1, R⟩
            have q0 := R.out.cell (k := 0) rfl
            have q1 := R.out.cell (k := 1) rfl
            have HBS := hide GW1.out.b.size
            have HONE : Hid (∀ u ∈ [Value.int .i64 xe, .int .i64 xq], u.oneCell' = true) := hide (waitC_one (xe, xq))
            go_wp2_with (at_builtin; go_must (with_reducible refine wpList_appS1 rfl (.tmp 96) (.tmp 98) 47 rfl _ 16 Try.underlying47 info_wt rfl (by omega) [.int .i64 xe, .int .i64 xq] 50 rfl GW1.out.ol rfl rfl HONE.out (by unfold maxLen; omega) (by omega) HBS.out ?_))
            intro A9 c9 w9 ho hg hat
            have hE := GW1.out.wait (xe, xq) ho hg hat
            have GW9 := hide hE.1
            have R9 := hide (hE.2.row R.out (fun hh => by have := HTL.out _ hh; omega))
            have HT9 : Hid (∀ k, (Value.slice A9 (nl + 1) c9).ownBlock = some k → k ≠ Tb) := hide (fun k hk => by
              rcases hat with h2 | h2
              · have := HTL.out k (h2 ▸ hk); omega
              · rw [hk] at h2; injection h2 with h2; have := R.out.lt; omega)
            have HLL : Hid (ls.length = nl) := hide GW1.out.ll
            clear ho hg hat hE GW1 R q0 q1
            go_wp2_with fail
            go_loopw [10] (fun v10 wq => ∃ (k : Nat) (cur : List (Int × Int)), a ≤ k ∧ k ≤ nl ∧ v10 = .int .i64 k ∧ Hid (Moved ls cur k) ∧ Hid (GW w wq A9 (nl + 1) c9 cur Ar nr cr rs) ∧ Hid (RowV wq Tb 50 [.int .i64 xe, .int .i64 xq])) (fun v _ => (intOf v).toNat)
            case atStart => exact ⟨nl, ls ++ [(xe, xq)], ha, Nat.le_refl _, by go_num, hide (HLL.out ▸ Moved.start ls (xe, xq)), GW9, R9⟩
            case round =>
              clear GW9 R9
              obtain ⟨k, cur, hk1, hk2, rfl, HM, GW9, R9⟩ := hrel
              obtain ⟨g, rfl, hg, hcl, hfr⟩ := GW9.out.ol.spot (by omega)
              by_cases hka : a < k
              · exact absurd hka (by omega)
              · obtain rfl : k = a := by omega
                obtain ⟨z, hz⟩ : ∃ z, cur[k]? = some z := ⟨_, List.getElem?_eq_getElem (by have := HM.out.1; have := HLL.out; omega)⟩
                have m0 : wr.cell? ⟨g, k * 2, none⟩ = some (.int .i64 z.1) := hcl _ _ (flat_get (enc := waitC) (sz := 2) (fun _ => rfl) hz (j := 0) rfl)
                have m1 : wr.cell? ⟨g, k * 2 + 1, none⟩ = some (.int .i64 z.2) := hcl _ _ (flat_get (enc := waitC) (sz := 2) (fun _ => rfl) hz (j := 1) rfl)
                have f0 := hfr (k * 2)
                have f1 := hfr (k * 2 + 1)
                have q0 := R9.out.cell (k := 0) rfl
                have q1 := R9.out.cell (k := 1) rfl
                have hki : ¬ ((k : Int) < (k : Int)) := by omega
                have hk0 : (0 : Int) ≤ (k : Int) := by omega
                have hk3 : (k : Int) < ((nl + 1 : Nat) : Int) := by omega
                have hE := GW9.out.set hz (xe, xq)
                rw [HM.out.fin (by have := HLL.out; omega) (xe, xq)] at hE
                have GWN := hide hE.1
                have HGL : Hid (GoneL (W.take (i + 1)) fam (ls.take k ++ (xe, xq) :: ls.drop k)) := hide (by rw [HTK.out]; exact GL.out.put (r := ⟨xf, xe, xq⟩) HS.out (by have := HLL.out; omega) HA.out HB.out)
                clear hz hE hcl hfr hg GW9 R9 HM
                go_wp2_with fail
                refine ⟨⟨i + 1, _, nl + 1, c9, _, Ar, nr, cr, by omega, by go_num, rfl, rfl, by omega, by omega, by rw [HRS.out]; exact GWN, HGL⟩, by simp [intOf]; omega⟩
      · rw [decide_eq_false hs] at hse
        have hsn : (xf.toList != fam.toList) = true := by unfold bne; rw [hse]; rfl
        have HRS : Hid ((W.take (i + 1)).filter (fun r => decide (r.f ≠ fam)) = rs ++ [⟨xf, xe, xq⟩]) := hide (by rw [HSN.out, if_neg hs])
        have HGL : Hid (GoneL (W.take (i + 1)) fam ls) := hide (by rw [HTK.out]; exact GL.out.other hs)
        have HONE : Hid (∀ u ∈ [Value.string xf, .int .i64 xe, .int .i64 xq], u.oneCell' = true) := hide (Rw.cells_one ⟨xf, xe, xq⟩)
        have HBS := hide GW1.out.b.size
        clear hs HSN
        go_wp2_with (at_builtin; go_must (with_reducible refine wpList_appS1 rfl (.tmp 38) (.tmp 46) 54 rfl _ 32 Try.underlying54 info_rw rfl (by omega) [.string xf, .int .i64 xe, .int .i64 xq] 98 rfl GW1.out.or_ rfl rfl HONE.out (by unfold maxLen; omega) (by omega) HBS.out ?_))
        intro A9 c9 w9 ho hg hat
        have GW9 := hide (GW1.out.rest ⟨xf, xe, xq⟩ ho hg hat)
        clear ho hg hat GW1 R rc kx ke kq
        go_wp2_with fail
        go_roundw
        case rel => exact ⟨i + 1, Al, nl, cl, ls, A9, nr + 1, c9, by omega, by go_num, rfl, rfl, by omega, by omega, by rw [HRS.out]; exact GW9, HGL⟩
        case measure => simp [intOf]; omega
    · obtain rfl : i = n2 := by omega
      have hall : W.take i = W := List.take_of_length_le (by rw [HC.out.len2]; omega)
      rw [hall] at GL hrs
      subst hrs
      have hge : ¬ ((i : Int) < (i : Int)) := by omega
      have rf := RCW.out.row.free 1
      have HPL := hide HC.out.row.lt
      clear hall
      go_wp2_with fail
      go_ret
      have BC : But (fun k => k = p) wr (wr.setCell ⟨p, 1, none⟩ (.slice Ar nr cr)) := (But.refl (fun k => k = p) wr).setC rfl
      obtain rfl : ls.length = nl := GW1.out.ll
      refine ⟨Al, cl, ls, rfl, hide ⟨GL.out, by rw [HC.out.len2]; omega⟩, hide (GW1.out.ol.but_row BC (fun k hk hh => by have := GW1.out.ol.row_ge k hk; have := HPL.out; have hh : k = p := hh; omega)), Ar, nr, cr, by rw [HC.out.len2]; omega, hide ⟨RCW.out.row.set 1 _, RCW.out.o1.but_row BC (fun k hk hh => by have := RCW.out.o1.row_ge k hk; have hh : k = p := hh; omega), (GW1.out.or_.but_row BC (fun k hk hh => by have := GW1.out.or_.row_ge k hk; have := HPL.out; have hh : k = p := hh; omega)).base_ HPL.out, RCW.out.len1, GW1.out.lr, fun k hk hk2 => ?_⟩, hide ((But.of_below GW1.out.b).trans BC), hide (fun k hk => ?_)⟩
      · have := HC.out.o1.row_lt k hk; have := GW1.out.or_.row_ge k hk2; omega
      · rcases hk with h | h | h
        · exact .inl h
        · exact .inr (.inl h)
        · exact .inr (.inr (GW1.out.or_.row_ge k h))
end Go.Proofs.Ytigeccflfdekiaa
