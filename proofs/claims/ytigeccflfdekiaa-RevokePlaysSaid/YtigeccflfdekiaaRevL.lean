/-
  Revoke: Collect, SortedFunc; Gone.
-/
import Derived.Test.YtigeccflfdekiaaRevI
import Derived.Test.YtigeccflfdekiaaRevJ
namespace Go.Proofs.Ytigeccflfdekiaa
open Go.RowKit Go.Maps Go.Shelf Go.Lib Go.Sort
set_option linter.unusedVariables false

/-- the order of those who wait -/
def wLt (x y : Int × Int) : Prop := x.1 < y.1 ∨ (x.1 = y.1 ∧ x.2 < y.2)
theorem cmpC_lt (x y : Int × Int) : cmpC x y < 0 ↔ wLt x y := by
  unfold cmpC wLt Lib.compareInt
  repeat' split
  all_goals omega
theorem ltOf_iff (x y : Int × Int) : ltOf cmpC x y = true ↔ wLt x y := by
  unfold ltOf
  rw [decide_eq_true_iff]
  exact cmpC_lt x y
theorem ltOf_not (x y : Int × Int) : ltOf cmpC x y = false ↔ ¬ wLt x y := by
  rw [← ltOf_iff]; simp
theorem swoC : SWO (ltOf cmpC) where
  irrefl x := by rw [ltOf_not]; unfold wLt; omega
  trans x y z h1 h2 := by rw [ltOf_iff] at *; unfold wLt at *; omega
  ntrans x y z h1 h2 := by rw [ltOf_not] at *; unfold wLt at *; omega
/-- just those, each once, in order -/
def Just (g : Int × Int → Bool) (l : List (Int × Int)) : Prop := l.Pairwise wLt ∧ ∀ x, x ∈ l ↔ (WOk x ∧ g x = true)
theorem Just.unique {g : Int × Int → Bool} {l l' : List (Int × Int)} (h : Just g l) (h' : Just g l') : l = l' := by
  have nd : ∀ {m : List (Int × Int)}, m.Pairwise wLt → m.Nodup := fun hm => hm.imp fun {a b} hab e => by subst e; unfold wLt at hab; omega
  refine List.Perm.eq_of_pairwise (le := wLt) (fun a b _ _ h1 h2 => by unfold wLt at h1 h2; omega) h.1 h'.1 ?_
  exact (List.perm_ext_iff_of_nodup (nd h.1) (nd h'.1)).2 fun x => by rw [h.2, h'.2]
theorem flatK_eq (ss : List (Int × Int)) : flatK waitC 2 ss.toArray = (ss.flatMap waitC).toArray := by
  have hlen : (ss.flatMap waitC).length = ss.length * 2 := by
    induction ss with
    | nil => rfl
    | cons x l ih => rw [List.flatMap_cons, List.length_append, ih]; simp [waitC]; omega
  refine Array.ext (by simp [hlen]) fun t h1 h2 => ?_
  have ht : t < ss.length * 2 := by simpa using h1
  have hk : t / 2 < ss.length := by omega
  have hget : ss[t / 2]? = some ss[t / 2] := List.getElem?_eq_getElem hk
  have hm : t % 2 < (waitC ss[t / 2]).length := by simp [waitC]; omega
  have e2 := flat_get (enc := waitC) (sz := 2) (fun _ => rfl) hget (List.getElem?_eq_getElem hm)
  rw [show t / 2 * 2 + t % 2 = t by omega] at e2
  have e1 := get_flatK waitC 2 ss.toArray t (by simpa using ht)
  rw [getElem!_pos _ t h1] at e1
  rw [e1]
  have e3 : ss.toArray[t / 2]! = ss[t / 2] := by
    rw [getElem!_pos _ _ (by simpa using hk)]; simp
  rw [e3, getElem!_pos (waitC ss[t / 2]) (t % 2) hm]
  have e4 := (List.getElem?_eq_some_iff.1 e2).2
  simp only [List.getElem_toArray]
  exact e4.symm
theorem take_put (F cur : Array Value) (h : F.size ≤ cur.size) : (putCells id 0 F cur).toList.take F.size = F.toList := by
  apply List.ext_getElem?
  intro j
  by_cases hj : j < F.size
  · rw [List.getElem?_take_of_lt hj, Array.getElem?_toList, Array.getElem?_toList]
    simp [putCells, hj, show j < cur.size by omega]
  · rw [List.getElem?_take_eq_none (by omega), List.getElem?_eq_none (by simp; omega)]
theorem own_holds {w : World} {base g c : Nat} {ss : List (Int × Int)} (h : OwnS 2 w base 50 (some ⟨g, 0, none⟩) ss.length c (ss.flatMap waitC)) (hn : 0 < ss.length) : HoldsK waitC 2 w g 0 ss.toArray := by
  obtain ⟨g', hg, _, hc, hf⟩ := h.spot hn
  injection hg with hg; injection hg with hg; subst hg
  unfold HoldsK Holds
  rw [flatK_eq]
  intro j hj
  rw [Nat.zero_add]
  have hj' : j < (ss.flatMap waitC).length := by simpa using hj
  refine ⟨?_, hf j⟩
  rw [hc j _ (List.getElem?_eq_getElem hj')]
  rw [getElem!_pos _ j hj]
  simp
theorem own_sorted {w : World} {base g c n : Nat} {ss ts : List (Int × Int)} {os : Array Obj} (hl : ts.length = ss.length) (h : OwnS 2 w base 50 (some ⟨g, 0, none⟩) ss.length c (ss.flatMap waitC)) :
    OwnS 2 (sortWorldK waitC 2 w g 0 n ts.toArray os) base 50 (some ⟨g, 0, none⟩) ts.length c (ts.flatMap waitC) ∧ But (fun k => k = g) w (sortWorldK waitC 2 w g 0 n ts.toArray os) := by
  have hflat : ∀ l : List (Int × Int), (l.flatMap waitC).length = l.length * 2 := fun l => by
    induction l with
    | nil => rfl
    | cons x l ih => rw [List.flatMap_cons, List.length_append, ih]; simp [waitC]; omega
  rcases h.2 with ⟨h1, h2⟩ | ⟨g', cap, cur, h1, h2, h3, h4, h5, h6, h7⟩
  · cases h1
  · injection h1 with a1 a2 a3
    injection a1 with a1; injection a1 with a1 _ _
    subst a1; subst a3
    have hg : g < w.heap.size := (Array.getElem?_eq_some_iff.1 h3).1
    unfold sortWorldK putRowK
    rw [flatK_eq]
    constructor
    · refine ⟨hflat ts, .inr ⟨g, c, putCells id 0 (ts.flatMap waitC).toArray cur, rfl, h2, ?_, by omega, h5, by simp [putCells, h6], ?_⟩⟩
      · rw [heap_grow_old _ _ (by simpa [putRow, mapBlock, Sort.ahead] using hg)]
        simp [putRow, mapBlock, Sort.ahead, Array.getElem?_modify, h3, onCells]
      · have := take_put (ts.flatMap waitC).toArray cur (by simp only [List.size_toArray, hflat]; omega)
        rw [List.size_toArray, hflat] at this
        exact this
    · refine ⟨rfl, rfl, rfl, by simp [grow, putRow, mapBlock, Sort.ahead], fun k hk hne => ?_⟩
      rw [heap_grow_old _ _ (by simpa [putRow, mapBlock, Sort.ahead] using hk)]
      have : g ≠ k := fun e => hne e.symm
      simp [putRow, mapBlock, Sort.ahead, Array.getElem?_modify, this]
/-- what a gathering gives -/
def Gathers (S : List (Int × Int) → Prop) (w : World) (e : Ending) (w' : World) : Prop :=
  ∃ A c ss, e = .returned (.slice A ss.length c) ∧ Hid (S ss) ∧ Hid (OwnS 2 w' w.heap.size 50 A ss.length c (ss.flatMap waitC)) ∧ Hid (Below w.heap.size w w')
theorem append_any (lb : Array Value) (S Sp : List (Int × Int) → Prop) (N : Nat) (hN : N ≤ 1000000) (w : World)
    (hseq : SeqStopsK Fence.wide 3 Try.prog 38 lb (fun x => #[waitV x]) KeepsWalks S Sp N w) :
    Calls Try.prog 42 #[.slice none 0 0, .func (.func 38) #[] lb] w (Gathers S w) := by
  refine (callsIn_wide.1 (appendSeq_in Fence.wide 4 trivial trivial rfl (by omega) lb S Sp N hN w hseq)).mono ?_
  rintro e w' ⟨v, ss, rfl, hS, hrow, hnil, hb⟩
  have shape : ∃ A c, v = .slice A ss.length c := by
    rcases hrow.2 with ⟨h, h0⟩ | ⟨g, cap, cur, h, _⟩
    · exact ⟨none, 0, by rw [h, h0]⟩
    · exact ⟨_, _, h⟩
  obtain ⟨A, c, rfl⟩ := shape
  exact ⟨A, c, ss, rfl, hide hS, hide hrow, hide hb⟩
set_option maxHeartbeats 1000000 in
theorem collect_any (lb : Array Value) (S Sp : List (Int × Int) → Prop) (N : Nat) (hN : N ≤ 1000000) (w : World)
    (hseq : SeqStopsK Fence.wide 3 Try.prog 38 lb (fun x => #[waitV x]) KeepsWalks S Sp N w) :
    Calls Try.prog 36 #[.func (.func 38) #[] lb] w (Gathers S w) := by
  have KA := hide (append_any lb S Sp N hN w hseq)
  clear hseq
  go_enter Try.func36, Try.ntmps36
  go_wp2_with fail
  refine KA.out.mono ?_
  rintro e w' ⟨A, c, ss, rfl, hS, ho, hb⟩
  go_wp2_with fail
  go_ret
  exact ⟨A, c, ss, rfl, hS, ho, hb⟩
theorem sort_any (A : Option Addr) (c : Nat) (ss : List (Int × Int)) (base : Nat) (w : World) (h : OwnS 2 w base 50 A ss.length c (ss.flatMap waitC)) (hl : ss.length ≤ 1000000) :
    Calls Try.prog 37 #[.slice A ss.length c, .func (.func 27) #[] #[]] w fun e w' => e = .returned (.tuple #[]) ∧ ∃ ts : List (Int × Int), Hid (ts.length = ss.length ∧ ts.Perm ss ∧ ts.Pairwise fun x y => ¬ wLt y x) ∧ Hid (OwnS 2 w' base 50 A ss.length c (ts.flatMap waitC)) ∧ Hid (But (fun k => base ≤ k) w w') := by
  by_cases h0 : 0 < ss.length
  · obtain ⟨g, rfl, hown, _⟩ := h.spot h0
    have hge := h.row_ge g hown
    have eg : ∀ args w, (callFunc 27 args).run Try.prog w = .ok (.enter 27 args) w := enters_of Try.func27 (by kernel_rfl) rfl
    have hcon := AnyQ.slices_SortFunc Try.sortW 2 Try.isAgg50 Try.sizeOf50 waitC (fun _ => rfl) (fun x v hv => by simp [waitC] at hv; rcases hv with rfl | rfl <;> rfl) cmpC swoC 27 #[] g 0 c ss.toArray w eg
      (fun m os dk _ x y => closureW x y _) (own_holds h h0) (h.row_lt g hown) (by simp; omega)
    change Calls Try.prog 37 _ _ _ at hcon
    simp only [List.size_toArray] at hcon
    refine hcon.mono ?_
    rintro e w' ⟨rfl, d', n, os, hp, hs, rfl⟩
    obtain ⟨p1, p2, p3⟩ := hp
    have hl2 : d'.toList.length = ss.length := by simpa using p1
    have hd : d' = d'.toList.toArray := by simp
    rw [hd]
    have ho := own_sorted (n := n) (os := os) hl2 h
    refine ⟨rfl, d'.toList, hide ⟨hl2, ?_, ?_⟩, hide (hl2 ▸ ho.1), hide (ho.2.mono fun k hk => by omega)⟩
    · have e1 : d'.extract 0 ss.length = d' := by
        rw [show ss.length = d'.size by simpa using p1.symm]; simp
      have e2 : ss.toArray.extract 0 ss.length = ss.toArray := by simp
      rw [e1, e2] at p3
      simpa using p3
    · rw [List.pairwise_iff_getElem]
      intro i j hi hj hij
      have := hs i j (Nat.zero_le _) hij (by omega)
      rw [ltOf_not] at this
      rw [getElem!_pos _ _ (by simpa using hj), getElem!_pos _ _ (by simpa using hi)] at this
      simpa using this
  · obtain rfl : ss = [] := List.eq_nil_of_length_eq_zero (by omega)
    have hcon := AnyF.slices_SortFunc_none (ρ := Try.sortW_ren) { Try.sortW with } A c (.func (.func 27) #[] #[]) w
    change Calls Try.prog 37 _ _ _ at hcon
    refine hcon.mono ?_
    rintro e w' ⟨rfl, rfl⟩
    exact ⟨rfl, [], hide ⟨rfl, List.Perm.refl _, List.Pairwise.nil⟩, hide h, hide (But.refl _ _)⟩
set_option maxHeartbeats 1000000 in
theorem sorted_any (lb : Array Value) (g : Int × Int → Bool) (Sp : List (Int × Int) → Prop) (N : Nat) (hN : N ≤ 1000000) (w : World)
    (hseq : SeqStopsK Fence.wide 3 Try.prog 38 lb (fun x => #[waitV x]) KeepsWalks (fun ss => KeysAre g ss ∧ ss.length ≤ N) Sp N w) :
    Calls Try.prog 25 #[.func (.func 38) #[] lb, .func (.func 27) #[] #[]] w (Gathers (fun l => Just g l ∧ l.length ≤ 1000000) w) := by
  have KA := hide (collect_any lb _ Sp N hN w hseq)
  clear hseq
  go_enter Try.func25, Try.ntmps25
  go_wp2_with fail
  refine KA.out.mono ?_
  rintro e w1 ⟨A, c, ss, rfl, hS, ho, hb⟩
  have KS := hide (sort_any A c ss w.heap.size w1 ho.out (Nat.le_trans hS.out.2 hN))
  clear KA
  go_wp2_with fail
  refine KS.out.mono ?_
  rintro e w2 ⟨rfl, ts, hT, ho2, hb2⟩
  have HL := hide hT.out.1
  obtain ⟨n, hn⟩ : ∃ n, n = ss.length := ⟨_, rfl⟩
  rw [← hn] at ho2 HL ⊢
  have HN := hide hn
  clear hn KS ho
  go_wp2_with fail
  go_ret
  obtain ⟨t1, t2, t3⟩ := hT.out
  obtain ⟨⟨s1, s2, s3⟩, s4⟩ := hS.out
  have hlt := HL.out
  subst hlt
  refine ⟨A, c, ts, rfl, hide ⟨⟨?_, fun x => ?_⟩, by omega⟩, ho2, hide (hb.out.trans (hb2.out.below (fun k hk => hk) hb.out.size))⟩
  · have hnd : ts.Nodup := t2.nodup_iff.2 s1
    exact (List.Pairwise.and t3 hnd).imp fun {a b} hab => by
      obtain ⟨h1, h2⟩ := hab
      have : a ≠ b := h2
      have hne : a.1 ≠ b.1 ∨ a.2 ≠ b.2 := by
        by_cases h : a.1 = b.1
        · exact .inr fun h' => this (Prod.ext h h')
        · exact .inl h
      unfold wLt at h1 ⊢
      omega
  · rw [t2.mem_iff]
    exact ⟨fun hx => s2 x hx, fun hx => s3 x hx.1 hx.2⟩
/-- what Gone gives -/
def GivesG (bw n : Nat) (B : ByteArray → Option Nat) (Q : ByteArray → Int × Int → Bool) (s : ByteArray) (w : World) (e : Ending) (w' : World) : Prop :=
  ∃ A c ls, e = .returned (.slice A ls.length c) ∧ Hid (Just (Q s) ls ∧ ls.length ≤ 1000000) ∧ Hid (OwnS 2 w' w.heap.size 50 A ls.length c (ls.flatMap waitC)) ∧ Hid (WaitSt w' bw n (setB B s none) (setQ Q s (fun _ => false))) ∧ Hid (But (fun k => k = bw) w w')
set_option maxHeartbeats 2000000 in
set_option maxRecDepth 100000 in
theorem gone_any (cg bt bw n : Nat) (pace : Int) (B : ByteArray → Option Nat) (Q : ByteArray → Int × Int → Bool) (s : ByteArray) (w : World) (hr : RowV w cg 69 [.int .i64 pace, .map (some bt), .map (some bw)])
    (hw : WaitSt w bw n B Q) (hcb : cg ≠ bw) (hk : s.size ≤ maxLen) (hn : n ≤ 1000000) :
    Calls Try.prog 12 #[.pointer (some ⟨cg, 0, none⟩), .string s] w (GivesG bw n B Q s w) := by
  have c2 := hr.cell (k := 2) rfl
  have l1 := hw.look hk
  have KK := hide (fun (mb : Option Nat) (w : World) => callsIn_wide.1 (wkeysof_in Fence.wide 1 trivial rfl mb w))
  have K2 : Hid (SeqStopsK Fence.wide 3 Try.prog 38 #[.pointer (some ⟨w.heap.size, 0, none⟩)] (fun x => #[waitV x]) KeepsWalks (fun ss => KeysAre (Q s) ss ∧ ss.length ≤ n) (fun _ => True) n (w.alloc (.cells #[.map (B s)] 84))) := hide (by
    have hcell : (w.alloc (.cells #[.map (B s)] 84)).cell? ⟨w.heap.size, 0, none⟩ = some (.map (B s)) := (RowV.new w 84 [.map (B s)]).cell (k := 0) rfl
    cases hb : B s with
    | none =>
      rw [hb] at hcell
      have hq : Q s = fun _ => false := funext fun x => hw.non s hb x
      rw [hq]
      exact wkeys_none Fence.wide 3 n trivial rfl w.heap.size _ (by simp) hcell
    | some b =>
      rw [hb] at hcell
      exact wkeys_stops Fence.wide 3 trivial rfl (by omega) w.heap.size b n (Q s) _ (by simp) hcell ((hw.som s b hb).but (But.of_alloc (S := fun _ => False) w _) id))
  have HW := hide hw
  have HR := hide hr
  have HL := hide hr.lt
  clear hw hr
  go_enter Try.func12, Try.ntmps12
  go_wp2_with fail
  refine (KK.out _ _).mono ?_
  rintro e w1 ⟨rfl, rfl⟩
  have KS := hide (sorted_any _ (Q s) _ n hn _ K2.out)
  clear KK K2
  go_wp2_with fail
  refine KS.out.mono ?_
  rintro e w2 ⟨A, c, ls, rfl, hJ, ho, hb⟩
  have hb2 : Hid (Below w.heap.size w w2) := hide (((Below.refl _ w).alloc (Nat.le_refl _) _).trans (hb.out.mono (by simp)))
  have hb3 : Below w.heap.size w w2 := hb2.out
  have d2 := (RowV.below' HR.out hb3).cell (k := 2) rfl
  obtain ⟨w3, r3, h3, b3⟩ := (HW.out.below hb3).drop hk 0
  have H3 := hide h3; have B3 := hide b3
  have HBW := hide HW.out.lt
  clear h3 b3
  obtain ⟨L, hL⟩ : ∃ L, L = ls.length := ⟨_, rfl⟩
  rw [← hL]
  have HLL := hide hL
  clear hL KS hb hb3
  go_wp2_with fail
  go_ret
  refine ⟨A, c, ls, by rw [← HLL.out]; rfl, hJ, hide ((ho.out.but_row B3.out fun k hk hk' => ?_).base_ (by simp)), H3, hide ((But.of_below hb2.out).trans B3.out)⟩
  have := ho.out.row_ge k hk
  rw [World.size_alloc] at this
  have := HBW.out
  have hk' : k = bw := hk'
  omega
end Go.Proofs.Ytigeccflfdekiaa
