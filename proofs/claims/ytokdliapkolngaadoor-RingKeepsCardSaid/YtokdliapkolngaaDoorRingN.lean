/-
  Ring: Order, walked.
-/
import Derived.Test.YtokdliapkolngaaDoorRingM
namespace Go.Proofs.YtokdliapkolngaaDoor
open Go.RowKit Go.Sort Go.Shelf
set_option linter.unusedVariables false

/-- the regions around the ring, from k on -/
def cycN {n : Nat} (pts : List (PtN n)) (k : Nat) : List Int := (pts.drop k ++ pts.take k).map (fun x => (x.rg : Int))
def addNew (out : List Int) (r : Int) : List Int := if r ∈ out then out else out ++ [r]
theorem cyc_at {n : Nat} (pts : List (PtN n)) (k i : Nat) (hk : k < pts.length) (hi : i < pts.length) : (cycN pts k)[i]? = some ((rgAt pts ((k + i) % pts.length) : Nat) : Int) := by
  unfold cycN rgAt
  rw [List.getElem?_map]
  by_cases h : i < pts.length - k
  · rw [List.getElem?_append_left (by simp; omega), List.getElem?_drop, Nat.mod_eq_of_lt (by omega), List.getElem?_eq_getElem (by omega)]; rfl
  · rw [List.getElem?_append_right (by simp; omega), List.length_drop, List.getElem?_take_of_lt (by omega)]
    have e : (k + i) % pts.length = i - (pts.length - k) := by
      rw [Nat.mod_eq_sub_mod (by omega), Nat.mod_eq_of_lt (by omega)]; omega
    rw [e, List.getElem?_eq_getElem (by omega)]; rfl
theorem cyc_len {n : Nat} (pts : List (PtN n)) (k : Nat) (hk : k ≤ pts.length) : (cycN pts k).length = pts.length := by
  unfold cycN; simp; omega
theorem addNew_len (out : List Int) (r : Int) : (addNew out r).length ≤ out.length + 1 := by
  unfold addNew; split <;> simp
/-- is a number there? of an empty row too -/
theorem containsE_any (A : Option Addr) (n c : Nat) (l : List Int) (x : Int) (w : World) (B : Nat) (h : Sl w B A n (l.map (Value.int .i64))) (hn : n ≤ 1000000) :
    Calls Tryd.prog 33 #[.slice A n c, .int .i64 x] w fun e w' => e = .returned (.bool (decide (x ∈ l))) ∧ w' = w := by
  by_cases h0 : 0 < n
  · exact containsI_any A n c l x w B h h0 hn
  · obtain rfl : n = 0 := by omega
    have hl : l = [] := by have := h.1; simpa using this
    subst hl
    have hcon := AnyG.slices_Contains_int_empty Tryd.containsI A c x w
    change Calls Tryd.prog 33 _ _ _ at hcon
    simpa using hcon
set_option maxHeartbeats 4000000 in
set_option maxRecDepth 100000 in
theorem order_nil (s : ByteArray) (w : World) : Calls Tryd.prog 11 #[.pointer none, .string s] w fun e w' => e = .returned (.slice none 0 0) ∧ w' = w := by
  go_enter Tryd.func11, Tryd.ntmps11
  go_wp2_with fail
  go_ret
  exact ⟨rfl, rfl⟩
set_option maxHeartbeats 8000000 in
set_option maxRecDepth 100000 in
theorem order_any {n : Nat} (base g each : Nat) (names : List ByteArray) (pts : List (PtN n)) (s : ByteArray) (w : World) (h : RingSt w base g names each pts) (hbase : base ≤ w.heap.size) (hst : StandR names each pts) (h0 : 0 < pts.length) (h8 : pts.length ≤ 1000000) (hs : s.size ≤ 140737488355000) :
    Calls Tryd.prog 11 #[.pointer (some ⟨g, 0, none⟩), .string s] w fun e w' => ∃ A c, e = .returned (.slice A ((cycN pts (firstN pts (placeN s : Int))).foldl addNew []).length c) ∧
      Own w' w.heap.size 3 A ((cycN pts (firstN pts (placeN s : Int))).foldl addNew []).length c (((cycN pts (firstN pts (placeN s : Int))).foldl addNew []).map (Value.int .i64)) ∧ Below w.heap.size w w' := by
  have KF := hide (first_any base g each names pts s w h hbase hst h0 h8 hs)
  obtain ⟨An, cn, Ap, cp, h1, h2, h3⟩ := h.ex
  obtain ⟨blk, rfl, hob, hc, _⟩ := h3.spot h0
  obtain ⟨L, hL⟩ : ∃ L, L = pts.length := ⟨_, rfl⟩
  have hfl := firstN_lt pts (placeN s : Int) h0
  obtain ⟨k, hk⟩ : ∃ k, k = firstN pts (placeN s : Int) := ⟨_, rfl⟩
  rw [← hk] at hfl KF ⊢
  have HCY : Hid (∀ i, i < L → (cycN pts k)[i]? = some ((rgAt pts ((k + i) % L) : Nat) : Int)) := hide (fun i hi => by rw [hL]; exact cyc_at pts k i hfl (by omega))
  have HCL : Hid ((cycN pts k).length = L) := hide (by rw [hL]; exact cyc_len pts k (by omega))
  have HC : Hid (∀ m, m < L → w.cell? ⟨blk, m * 2 + 1, none⟩ = some (.int .i64 ((rgAt pts m : Nat) : Int))) := hide (fun m hm => by
    refine hc (m * 2 + 1) _ ?_
    have hm' : m < pts.length := by omega
    have := flat_get (enc := encP) (sz := 2) (fun _ => rfl) (List.getElem?_eq_getElem hm') (j := 1) (v := .int .i64 ((pts[m]).rg : Int)) rfl
    rw [this]
    unfold rgAt
    rw [List.getElem?_eq_getElem hm']; rfl)
  obtain ⟨cy, hcy⟩ : ∃ cy, cy = cycN pts k := ⟨_, rfl⟩
  rw [← hcy] at HCY HCL ⊢
  have c1 := h1.cell (k := 2) rfl
  rw [← hL] at c1 hfl
  have HC1 := hide c1
  have HL2 : Hid (g < w.heap.size ∧ blk < w.heap.size) := hide ⟨h1.lt, h3.row_lt blk hob⟩
  have HL8 : L ≤ 1000000 := by omega
  have HL0 : 0 < L := by omega
  obtain ⟨rg, hrg⟩ : ∃ rg : Nat → Nat, rg = rgAt pts := ⟨_, rfl⟩
  rw [← hrg] at HCY HC
  clear h h1 h2 h3 hst hbase hob hc hk hL h0 h8 hs hcy hrg c1
  go_enter Tryd.func11, Tryd.ntmps11
  go_wp2_with fail
  refine KF.out.mono ?_
  rintro e w1 ⟨rfl, hb⟩
  have HB1 := hide hb
  clear hb KF
  go_wp2_with fail
  go_loopw [5, 6, 8] (fun v5 v6 v8 wr => ∃ (i : Nat) (out : List Int) (A : Option Addr) (c : Nat), i ≤ L ∧ v6 = .int .i64 i ∧ v5 = .slice A out.length c ∧ out.length ≤ i ∧ Hid (out = (cy.take i).foldl addNew []) ∧ Hid (Own wr w.heap.size 3 A out.length c (out.map (Value.int .i64))) ∧ Hid (Below w.heap.size w wr)) (fun _ v _ _ => L - (intOf v).toNat)
  case atStart => exact ⟨0, [], none, 0, by omega, rfl, rfl, by simp, hide rfl, hide OwnS.nil_, HB1⟩
  case round => as_aux_lemma =>
    clear HB1
    obtain ⟨i, out, A, c, hi, rfl, rfl, hol, HO, HW, HB⟩ := hrel
    have q0 : wr.cell? ⟨g, 2, none⟩ = some (.slice (some ⟨blk, 0, none⟩) L cp) := (HB.out.cell (p := ⟨g, 2, none⟩) HL2.out.1).trans HC1.out
    by_cases hlt : i < L
    · have z1 : (i : Int) < (L : Int) := by omega
      obtain ⟨m, hm⟩ : ∃ m, m = (k + i) % L := ⟨_, rfl⟩
      have hmL : m < L := by rw [hm]; exact Nat.mod_lt _ HL0
      have q1 : wr.cell? ⟨blk, m * 2 + 1, none⟩ = some (.int .i64 (rg m : Nat)) := (HB.out.cell (p := ⟨blk, m * 2 + 1, none⟩) HL2.out.2).trans (HC.out m hmL)
      have hwr : IntKind.i64.wrap ((k : Int) + (i : Int)) = (k : Int) + (i : Int) := IntWalk.i64_in _ (by omega)
      have hmod : ((k : Int) + (i : Int)).tmod (L : Int) = (m : Int) := by
        rw [Int.tmod_eq_emod_of_nonneg (by omega), hm]; norm_cast
      have hz : ¬ ((L : Int) = 0) := by omega
      have m0 : (0 : Int) ≤ (m : Int) := by omega
      have m1 : (m : Int) < (L : Int) := by omega
      have HAT : Hid (cy[i]? = some ((rg m : Nat) : Int)) := hide (by rw [hm]; exact HCY.out i hlt)
      obtain ⟨x, hx⟩ : ∃ x : Int, x = ((rg m : Nat) : Int) := ⟨_, rfl⟩
      rw [← hx] at q1 HAT
      have HT : Hid ((cy.take (i + 1)).foldl addNew [] = addNew out x) := hide (by rw [List.take_add_one, HAT.out, Option.toList_some, List.foldl_append, ← HO.out]; rfl)
      have KC := hide (fun (X : World) (hb : Below wr.heap.size wr X) => containsE_any A out.length c out x X X.heap.size ((HW.out.below hb).sl) (by omega))
      clear hm hx
      go_wp2_with fail
      go_region
      all_goals go_wp2_with fail
      obtain ⟨bb, hbb⟩ : ∃ bb, bb = decide (x ∈ out) := ⟨_, rfl⟩
      rw [← hbb] at KC
      have HBBB := hide hbb
      clear hbb
      all_goals refine (KC.out wr.drew (Below.refl _ _).drew).mono ?_
      rintro e w5 ⟨rfl, rfl⟩
      have HW2 : Hid (Own wr.drew w.heap.size 3 A out.length c (out.map (Value.int .i64))) := hide (HW.out.below (Below.refl _ _).drew)
      have HB2 := hide HB.out.drew
      have HWa : Hid (Own (wr.alloc (.cells #[.int .i64 x] 3)).drew w.heap.size 3 A out.length c (out.map (Value.int .i64))) := hide (HW.out.below ((Below.refl wr.heap.size wr).alloc (Nat.le_refl _) _).drew)
      have HBa : Hid (Below w.heap.size w (wr.alloc (.cells #[.int .i64 x] 3)).drew) := hide (HB.out.alloc HB.out.size _).drew
      clear KC HW HB q0 q1
      cases bb with
      | true =>
        go_wp2_with fail
        go_roundw
        case rel => exact ⟨i + 1, out, A, c, by omega, by go_num, rfl, by omega, hide (by rw [HT.out]; unfold addNew; rw [if_pos (by have := HBBB.out; simpa using this.symm)]), HW2, HB2⟩
        case measure => simp [intOf]; omega
      | false =>
        have HLT : Hid (out.length ≤ 1000000) := hide (by omega)
        have HSZ : Hid (w.heap.size ≤ (wr.alloc (.cells #[.int .i64 x] 3)).drew.heap.size) := hide HBa.out.size
        go_wp2_with (at_builtin; go_must (with_reducible refine wpList_app rfl (.tmp 43) (.tmp 45) 30 rfl (.int .i64 0) 8 Tryd.underlying30 info_int (cells_int _ _) rfl HWa.out rfl Sl.one.drew (one_int _ _) (by have := HLT.out; unfold maxLen; omega) (by have := HLT.out; omega) HSZ.out ?_))
        intro A7 c7 w7 hown hgr hat
        have hlen : (out ++ [x]).length = out.length + 1 := by simp
        have HOW : Hid (Own w7 w.heap.size 3 A7 (out ++ [x]).length c7 ((out ++ [x]).map (Value.int .i64))) := hide (by rw [hlen]; simpa using hown)
        have HB7 : Hid (Below w.heap.size w w7) := hide (below_of_grown HBa.out hgr HSZ.out HWa.out.row_ge)
        have HLN := hide hlen
        clear hown hgr hat hlen HW2 HB2
        go_wp2_with fail
        go_roundw
        case rel => exact ⟨i + 1, out ++ [x], A7, c7, by omega, by go_num, by rw [HLN.out], by rw [HLN.out]; omega, hide (by rw [HT.out]; unfold addNew; rw [if_neg (by have := HBBB.out; simpa using this.symm)]), HOW, HB7⟩
        case measure => simp [intOf]; omega
    · have hlt2 : ¬ ((i : Int) < (L : Int)) := by omega
      go_wp2_with fail
      go_ret
      have e : cy.take i = cy := List.take_of_length_le (by have := HCL.out; omega)
      have ho := HO.out
      rw [e] at ho
      exact ⟨A, c, by rw [← ho]; rfl, by rw [← ho]; exact HW.out, HB.out⟩
end Go.Proofs.YtokdliapkolngaaDoor
