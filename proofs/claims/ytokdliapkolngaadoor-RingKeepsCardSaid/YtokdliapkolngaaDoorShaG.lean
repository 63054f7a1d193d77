/-
  The walk of the program's digest: write.
-/
import Derived.Test.YtokdliapkolngaaDoorShaF
import Derived.Test.YtokdliapkolngaaDoorShaE
import Derived.BigRegion
namespace Go.Proofs.YtokdliapkolngaaDoor
open Go.RowKit Go.Great

/-- the cells of a state that was told bs; rest: what lies in its room -/
def stRow (V : Sha.V8) (rest : List UInt8) (n : Int) : List Value := v8 V ++ (rest.map bv ++ [.int .i64 n])
/-- block G is a state that was told bs -/
def StOf (w : World) (G T : Nat) (bs : List UInt8) : Prop :=
  ∃ rest : List UInt8, rest.length = 64 ∧ rest.take (bs.length % 64) = Sha.tail bs ∧ RowV w G T (stRow (Sha.state bs) rest (bs.length : Int))
theorem v8_len (V : Sha.V8) : (v8 V).length = 8 := rfl
theorem stRow_n {V : Sha.V8} {rest : List UInt8} {n : Int} (h : rest.length = 64) : (stRow V rest n)[72]? = some (.int .i64 n) := by
  unfold stRow
  rw [List.getElem?_append_right (by rw [v8_len]; omega), v8_len, List.getElem?_append_right (by simp; omega)]
  simp [h]
theorem stRow_set {V : Sha.V8} {rest : List UInt8} {n m : Int} (h : rest.length = 64) : (stRow V rest n).set 72 (.int .i64 m) = stRow V rest m := by
  unfold stRow
  rw [List.set_append_right _ _ (by rw [v8_len]; omega), v8_len, List.set_append_right _ _ (by simp; omega)]
  simp [h]
theorem stRow_rest {V : Sha.V8} {rest : List UInt8} {n : Int} {j : Nat} {x : UInt8} (h : rest[j]? = some x) : (stRow V rest n)[8 + j]? = some (bv x) := by
  unfold stRow
  rw [List.getElem?_append_right (by rw [v8_len]; omega), v8_len, Nat.add_sub_cancel_left, List.getElem?_append_left (by have := (List.getElem?_eq_some_iff.1 h).1; simpa using this), List.getElem?_map, h]; rfl
theorem stRow_length {V : Sha.V8} {rest : List UInt8} {n : Int} (h : rest.length = 64) : (stRow V rest n).length = 73 := by simp [stRow, v8_len, h]
/-- the room of a state reads as its bytes -/
theorem SlB.room {w : World} {G T : Nat} {V : Sha.V8} {rest : List UInt8} {n : Int} (h : RowV w G T (stRow V rest n)) (hr : rest.length = 64) : SlB w w.heap.size (some ⟨G, 8, none⟩) 64 rest := by
  refine ⟨by simpa using hr, fun _ => ⟨G, 8, rfl, h.lt, fun k u hu => ?_⟩⟩
  rw [List.getElem?_map] at hu
  cases hx : rest[k]? with
  | none => rw [hx] at hu; simp at hu
  | some x =>
    rw [hx] at hu
    injection hu with hu; subst hu
    exact h.cell (stRow_rest hx)
theorem splice_room (V : Sha.V8) (rest x : List UInt8) (n : Int) (at_ : Nat) (hr : rest.length = 64) (h : at_ + x.length ≤ 64) :
    splice (stRow V rest n) (8 + at_) (x.map bv) = stRow V (rest.take at_ ++ (x ++ rest.drop (at_ + x.length))) n := by
  unfold splice stRow
  have e1 : (v8 V ++ (rest.map bv ++ [Value.int .i64 n])).take (8 + at_) = v8 V ++ (rest.take at_).map bv := by
    rw [List.take_append, v8_len, List.take_of_length_le (by rw [v8_len]; omega), Nat.add_sub_cancel_left, List.take_append_of_le_length (by simp; omega), List.map_take]
  have e2 : (v8 V ++ (rest.map bv ++ [Value.int .i64 n])).drop (8 + at_ + (x.map bv).length) = (rest.drop (at_ + x.length)).map bv ++ [Value.int .i64 n] := by
    rw [List.drop_append, v8_len, List.drop_of_length_le (by rw [v8_len]; simp; omega), List.length_map, show 8 + at_ + x.length - 8 = at_ + x.length by omega, List.drop_append_of_le_length (by simp; omega), List.map_drop]; rfl
  rw [e1, e2]
  simp
/-- a slice, away from a block that is written, stays -/
theorem SlB.grown {w X : World} {B G n : Nat} {A : Option Addr} {bs : List UInt8} (h : SlB w B A n bs) (hB : B ≤ w.heap.size) (hg : w.grownBy X (some G)) (hne : 0 < n → ∀ b off, A = some ⟨b, off, none⟩ → b ≠ G) : SlB X X.heap.size A n bs := by
  refine ⟨h.1, fun hn => ?_⟩
  obtain ⟨b, off, rfl, hb, hc⟩ := h.2 hn
  refine ⟨b, off, rfl, by have := hg.size; omega, fun k u hu => ?_⟩
  have := hg.block b (by omega) (by simpa using hne hn b off rfl)
  exact (World.cell?_of_block (w := w) (w' := X) (a := ⟨b, off + k, none⟩) this).trans (hc k u hu)
theorem grown_trans {a b c : World} {r : Option Nat} (h : a.grownBy b r) (k : b.grownBy c r) : a.grownBy c r :=
  ⟨k.os.trans h.os, k.tape.trans h.tape, k.output.trans h.output, Nat.le_trans h.size k.size, fun i hi hne => (k.block i (Nat.lt_of_lt_of_le hi h.size) hne).trans (h.block i hi hne)⟩
theorem grown_refl (w : World) (r : Option Nat) : w.grownBy w r := ⟨rfl, rfl, rfl, Nat.le_refl _, fun _ _ _ => rfl⟩
theorem grown_setRow {w a : World} {G : Nat} (h : w.grownBy a (some G)) (cs : Array Value) : w.grownBy (a.setRow G cs) (some G) :=
  ⟨h.os, h.tape, h.output, Nat.le_trans h.size (by simp), fun k hk hne => (row_set_other (fun e => hne (by rw [e]))).trans (h.block k hk hne)⟩

/-- told 64 bytes at a block's edge -/
theorem st_full0 {V : Sha.V8} {w : World} {G T : Nat} {bs x rest : List UInt8} (hr : rest.length = 64) (h0 : bs.length % 64 = 0) (hx : x.length = 64) (hV : V = Sha.block (Sha.state bs) x)
    (h : RowV w G T (stRow V rest ((bs.length : Int) + 64))) : StOf w G T (bs ++ x) := by
  refine ⟨rest, hr, ?_, ?_⟩
  · rw [Sha.tail_full (by omega), List.length_append, show (bs.length + x.length) % 64 = 0 by omega]; rfl
  · rw [Sha.state_full (by omega), Sha.tail_nil h0, List.nil_append, ← hV, List.length_append, hx]
    exact h
/-- told some bytes into the room; it isn't full -/
theorem st_short {w : World} {G T m : Nat} {bs x rest : List UInt8} (hr : rest.length = 64) (ht : rest.take (bs.length % 64) = Sha.tail bs) (hx : x.length = m) (hlt : bs.length % 64 + m < 64)
    (h : RowV w G T (stRow (Sha.state bs) (rest.take (bs.length % 64) ++ (x ++ rest.drop (bs.length % 64 + x.length))) ((bs.length : Int) + m))) : StOf w G T (bs ++ x) := by
  subst hx
  have hl : (rest.take (bs.length % 64)).length = bs.length % 64 := by simp; omega
  refine ⟨rest.take (bs.length % 64) ++ (x ++ rest.drop (bs.length % 64 + x.length)), ?_, ?_, ?_⟩
  · simp; omega
  · rw [Sha.tail_short (by omega), List.length_append, show (bs.length + x.length) % 64 = bs.length % 64 + x.length by omega, ← ht, ← List.append_assoc]
    rw [List.take_append_of_le_length (by rw [List.length_append, hl]; exact Nat.le_refl _), List.take_of_length_le (by rw [List.length_append, hl]; exact Nat.le_refl _)]
  · rw [Sha.state_short (by omega), List.length_append, Int.natCast_add]
    exact h
/-- .. now it is -/
theorem st_full {V : Sha.V8} {w : World} {G T m : Nat} {bs x rest rest2 : List UInt8} (hr : rest.length = 64) (ht : rest.take (bs.length % 64) = Sha.tail bs) (hx : x.length = m) (hlt : bs.length % 64 + m = 64)
    (h2 : rest2 = rest.take (bs.length % 64) ++ (x ++ rest.drop (bs.length % 64 + x.length))) (hV : V = Sha.block (Sha.state bs) rest2)
    (h : RowV w G T (stRow V rest2 ((bs.length : Int) + m))) : StOf w G T (bs ++ x) := by
  subst hx
  have e : rest2 = Sha.tail bs ++ x := by
    rw [h2, ht, List.drop_of_length_le (by omega), List.append_nil]
  refine ⟨rest2, ?_, ?_, ?_⟩
  · rw [e, List.length_append, Sha.tail_length]; omega
  · rw [Sha.tail_full (by omega), List.length_append, show (bs.length + x.length) % 64 = 0 by omega]; rfl
  · rw [Sha.state_full (by omega), ← e, ← hV, List.length_append, Int.natCast_add]
    exact h
theorem SlB.cut {X : World} {B b off r m c' : Nat} {ys : List UInt8} (h : SlB X B (some ⟨b, off, none⟩) r ys) (hm : m ≤ r) (hc : r ≤ c') : SlB X B (if c' = m then some ⟨b, off, none⟩ else some ⟨b, off + m, none⟩) (r - m) (ys.drop m) := by
  have hl := h.len
  by_cases e : c' = m
  · refine ⟨by simp; omega, fun h0 => absurd h0 (by omega)⟩
  · rw [if_neg e]
    have := h.window (i := m) (k := r - m) (by omega)
    rwa [List.take_of_length_le (by simp; omega)] at this
theorem cut_ne {b off m c' G : Nat} (h : b ≠ G) : ∀ b2 off2, (if c' = m then some (⟨b, off, none⟩ : Addr) else some ⟨b, off + m, none⟩) = some ⟨b2, off2, none⟩ → b2 ≠ G := by
  intro b2 off2 e
  split at e
  · injection e with e; injection e with e1 _ _; subst e1; exact h
  · injection e with e; injection e with e1 _ _; subst e1; exact h

set_option maxHeartbeats 2000000 in
theorem pwrite_any (G T : Nat) (bs cs : List UInt8) (A : Option Addr) (n c : Nat) (w : World) (hS : StOf w G T bs) (hb : SlB w w.heap.size A n cs) (hne : 0 < n → ∀ b off, A = some ⟨b, off, none⟩ → b ≠ G) (hnc : n ≤ c) (hN : bs.length + n ≤ 1000000000000000000) (hC : c ≤ 9223372036854775807) :
    Calls Tryd.prog 57 #[.pointer (some ⟨G, 0, none⟩), .slice A n c] w fun e w' => e = .returned (.tuple #[]) ∧ StOf w' G T (bs ++ cs) ∧ w.grownBy w' (some G) := by
  have HL := hide hb.len
  have HB : Hid (∀ X : World, w.grownBy X (some G) → SlB X X.heap.size A n cs) := hide (fun X hX => hb.grown (Nat.le_refl _) hX hne)
  have HS := hide hS; have HNE := hide hne
  have hGl : G < w.heap.size := by obtain ⟨_, _, _, h⟩ := hS; exact h.lt
  have HGL := hide hGl
  clear hb hS hne hGl
  go_enter Tryd.func57, Tryd.ntmps57
  go_wp2_with fail
  refine (constants_any _).mono ?_
  rintro e w1 ⟨rfl, hb1, hk1⟩
  obtain ⟨gk, hgk⟩ : ∃ gk, gk = w.heap.size := ⟨_, rfl⟩
  rw [← hgk] at hk1 ⊢
  have HK : Hid (∀ X : World, w1.grownBy X (some G) → X.heap[gk]? = some (.cells kCells 84 (0, 0))) := hide (fun X hX => (hX.block gk (heap_lt' hk1) (by have := HGL.out; simp; omega)).trans hk1)
  have HGW : Hid (w.grownBy w1 (some G)) := hide (grown_of_below hb1 _)
  have HS1 : Hid (StOf w1 G T (bs ++ cs.take 0)) := hide (by
    obtain ⟨rest, h1, h2, h3⟩ := HS.out
    rw [List.take_zero, List.append_nil]
    exact ⟨rest, h1, h2, h3.below hb1 HGL.out⟩)
  have HB0 : Hid (∀ X : World, w.grownBy X (some G) → SlB X X.heap.size A n (cs.drop 0)) := HB
  clear hb1 hk1 hgk HB HS
  go_wp2_with fail
  go_loopw [1, 5, 6] (fun v1 _ _ wq => ∃ (k r c' : Nat) (A' : Option Addr), v1 = .slice A' r c' ∧ r ≤ c' ∧ c' ≤ 9223372036854775807 ∧ Hid (k + r = n) ∧ Hid (∀ X : World, w.grownBy X (some G) → SlB X X.heap.size A' r (cs.drop k)) ∧ Hid (0 < r → ∀ b off, A' = some ⟨b, off, none⟩ → b ≠ G) ∧ Hid (StOf wq G T (bs ++ cs.take k)) ∧ Hid (w1.grownBy wq (some G))) (fun v _ _ _ => (match v with | .slice _ m _ => m | _ => 0))
  case atStart => exact ⟨0, n, c, A, rfl, hnc, hC, hide (by simp), HB0, HNE, HS1, hide (grown_refl _ _)⟩
  case round =>
    clear HB0 HS1
    obtain ⟨k, r, c', A', rfl, hrc, hcm, HKR, HB, HNE, HS, HG⟩ := hrel
    by_cases hr0 : 0 < r
    · obtain ⟨rest, h1, h2, h3⟩ := HS.out
      have hll : (bs ++ cs.take k).length = bs.length + k := by rw [List.length_append, List.length_take]; have := HKR.out; have := HL.out; omega
      have hdl : (cs.drop k).length = r := by rw [List.length_drop]; have := HKR.out; have := HL.out; omega
      have HGWr := hide (grown_trans HGW.out HG.out)
      have hbr := HB.out wr HGWr.out
      obtain ⟨b, off, rfl, hbb, hcells⟩ := hbr.2 hr0
      have HBR := hide hbr
      have hbG : b ≠ G := HNE.out hr0 b off rfl
      have HBG := hide hbG
      have HT : Hid (∀ m, cs.take (k + m) = cs.take k ++ (cs.drop k).take m) := hide (fun m => by rw [List.take_add])
      obtain ⟨told, htold⟩ : ∃ told, told = bs ++ cs.take k := ⟨_, rfl⟩
      rw [← htold] at h2 h3 hll
      obtain ⟨L, hL⟩ : ∃ L, L = told.length := ⟨_, rfl⟩
      rw [← hL] at h2 h3 hll
      obtain ⟨q, hq⟩ : ∃ q, q = L % 64 := ⟨_, rfl⟩
      rw [← hq] at h2
      have hqi : (L : Int) % 64 = (q : Int) := by omega
      have hq64 : q < 64 := by omega
      have hLb : L ≤ 1000000000000000000 := by have := HKR.out; omega
      have cn : wr.cell? ⟨G, 72, none⟩ = some (.int .i64 (L : Int)) := h3.cell (stRow_n h1)
      have H1 := hide h1; have H2 := hide h2; have H3 := hide h3; have HLL := hide hL; have HQ := hide hq; have HTO := hide htold; have HDL := hide hdl; have HLK := hide hll
      clear h1 h2 h3 hL hq htold hdl hbr hcells hbb hbG hll HS
      by_cases hfull : q = 0 ∧ 64 ≤ r
      · obtain ⟨hq0, hr64⟩ := hfull
        have ht : ((q : Int) == 0) = true := by rw [beq_iff_eq]; omega
        have hri : (64 : Int) ≤ (r : Int) := by omega
        have hc64 : (64 : Int) ≤ (c' : Int) := by omega
        have HX : Hid (SlB wr wr.heap.size (some ⟨b, off, none⟩) 64 ((cs.drop k).take 64)) := hide (HBR.out.window (i := 0) (k := 64) (by omega))
        have HQ0 := hide hq0; have HR64 := hide hr64
        clear hq0
        go_wp2_with fail
        refine (ptake_any G T gk (Sha.state told) (rest.map bv ++ [.int .i64 (L : Int)]) (some ⟨b, off, none⟩) c' ((cs.drop k).take 64) _ H3.out HX.out (HK.out _ HG.out)).mono ?_
        rintro e w2 ⟨rfl, hrow, hgr⟩
        obtain ⟨V, hV⟩ : ∃ V, V = Sha.block (Sha.state told) ((cs.drop k).take 64) := ⟨_, rfl⟩
        rw [← hV] at hrow
        have HR2 : Hid (RowV w2 G T (stRow V rest (L : Int))) := hide hrow
        have HV := hide hV
        have HGR := hide (grown_trans HG.out hgr)
        have cn2 : w2.cell? ⟨G, 72, none⟩ = some (.int .i64 (L : Int)) := HR2.out.cell (stRow_n H1.out)
        have hf2 := HR2.out.free 72
        clear hrow hV hgr cn ht hqi
        have s1 : IntKind.i64.wrap ((L : Int) + 64) = (L : Int) + 64 := IntWalk.i64_in _ (by omega)
        have HR3 := hide (HR2.out.set 72 (.int .i64 ((L : Int) + 64)))
        rw [stRow_set H1.out] at HR3
        have HG3 := hide (grown_set (j := 72) HGR.out (.int .i64 ((L : Int) + 64)))
        go_wp2_with fail
        go_region
        go_wp2_with fail
        go_roundw
        case rel =>
          refine ⟨k + 64, r - 64, c' - 64, _, rfl, by omega, by omega, hide (by have := HKR.out; have := HR64.out; omega), hide (fun X hX => ?_), hide (fun _ => cut_ne HBG.out), hide ?_, hide (grown_drew HG3.out)⟩
          · rw [← List.drop_drop]; exact (HB.out X hX).cut HR64.out hrc
          · rw [HT.out 64, ← List.append_assoc, ← HTO.out]
            refine st_full0 H1.out (by rw [← HLL.out, ← HQ.out]; exact HQ0.out) (by rw [List.length_take, HDL.out]; have := HR64.out; omega) HV.out ?_
            rw [← HLL.out]; exact HR3.out
        case measure => have := HR64.out; simp; omega
      · obtain ⟨m, hm⟩ : ∃ m, m = Nat.min r (64 - q) := ⟨_, rfl⟩
        have hm1 : 0 < m ∧ m ≤ r ∧ q + m ≤ 64 ∧ (m = r ∨ q + m = 64) := by rw [hm]; simp only [Nat.min_def]; split <;> omega
        obtain ⟨x, hx⟩ : ∃ x, x = (cs.drop k).take m := ⟨_, rfl⟩
        have hxl : x.length = m := by rw [hx, List.length_take, HDL.out]; omega
        have hn : (x.map bv).length = Nat.min r (64 - q) := by rw [List.length_map, hxl, hm]
        have hsrc : ∀ (j : Nat) v, (x.map bv)[j]? = some v → wr.cell? ((⟨b, off, none⟩ : Addr).add j) = some v := by
          intro j v hj
          have hjm : j < m := by have := (List.getElem?_eq_some_iff.1 hj).1; simpa [hxl] using this
          obtain ⟨b', off', e, _, hc⟩ := HBR.out.2 hr0
          injection e with e; injection e with e1 e2 _; subst e1 e2
          rw [hx, List.getElem?_map, List.getElem?_take_of_lt hjm, ← List.getElem?_map] at hj
          have := hc j v hj
          unfold Addr.add
          split
          · rename_i h0; subst h0; exact this
          · exact this
        have hg : wr.heap[G]? = some (.cells (stRow (Sha.state told) rest (L : Int)).toArray T (0, 0)) := H3.out
        have hfit : 8 + q + (x.map bv).length ≤ (stRow (Sha.state told) rest (L : Int)).toArray.size := by
          rw [List.size_toArray, stRow_length H1.out, List.length_map, hxl]; omega
        obtain ⟨rest2, hrest2⟩ : ∃ rest2, rest2 = rest.take q ++ (x ++ rest.drop (q + x.length)) := ⟨_, rfl⟩
        have hr2l : rest2.length = 64 := by rw [hrest2]; simp [H1.out, hxl]; omega
        have hsp : ((stRow (Sha.state told) rest (L : Int)).toArray.toList.take (8 + q) ++ (x.map bv ++ (stRow (Sha.state told) rest (L : Int)).toArray.toList.drop (8 + q + (x.map bv).length))) = stRow (Sha.state told) rest2 (L : Int) := by
          rw [hrest2]
          exact splice_room (Sha.state told) rest x (L : Int) q H1.out (by rw [hxl]; omega)
        have Hn := hide hn; have Hsrc := hide hsrc; have Hg := hide hg; have Hfit := hide hfit; have Hsp := hide hsp; have HR2 := hide hrest2; have HR2L := hide hr2l; have HXL := hide hxl; have HXX := hide hx
        have HM1 := hide hm1
        clear hn hsrc hg hfit hsp hrest2 hr2l hx hm hxl
        have h64 : ¬ 64 = q := by omega
        have b0 : (0 : Int) ≤ (q : Int) := by omega
        have b1 : (q : Int) ≤ 64 := by omega
        have HSP : Hid (List.take (8 + q) (stRow (Sha.state told) rest (L : Int)) ++ (List.map bv x ++ List.drop (8 + q + x.length) (stRow (Sha.state told) rest (L : Int))) = stRow (Sha.state told) rest2 (L : Int)) := hide (by
          have := Hsp.out
          rwa [List.length_map] at this)
        rcases (show (q = 0 ∧ ¬ 64 ≤ r) ∨ q ≠ 0 by omega) with ⟨hz, hr⟩ | hz
        · have t1 : ((q : Int) == 0) = true := by rw [beq_iff_eq]; omega
          have t2 : ¬ (64 : Int) ≤ (r : Int) := by omega
          clear hz
          go_wp2_with (with_reducible refine wpList_copy_own rfl (.tmp 42) (.tmp 43) 40 40 rfl 5 Tryd.underlying40 size_u8 G (8 + q) (64 - q) (64 - q) ⟨b, off, none⟩ r c' rfl rfl _ T Hg.out (x.map bv) Hn.out Hsrc.out Hfit.out (bytes_oneCell x) ?_)
          rw [HXL.out] at HSP
          rw [HXL.out, HSP.out]
          refine wp_world (fun Y => RowV Y G T (stRow (Sha.state told) rest2 (L : Int)) ∧ w1.grownBy Y (some G)) ⟨row_set H3.out, grown_setRow HG.out _⟩ ?_
          rintro Y ⟨y1, y2⟩
          have Y1 := hide y1; have Y2 := hide y2; clear y1 y2 cn
          have cn : Y.cell? ⟨G, 72, none⟩ = some (.int .i64 (L : Int)) := Y1.out.cell (stRow_n HR2L.out)
          have hf := Y1.out.free 72
          have Y3 := hide (Y1.out.set 72 (.int .i64 ((L : Int) + (m : Int))))
          rw [stRow_set HR2L.out] at Y3
          have Y4 := hide (grown_set (j := 72) Y2.out (.int .i64 ((L : Int) + (m : Int))))
          have s1 : IntKind.i64.wrap ((L : Int) + (m : Int)) = (L : Int) + (m : Int) := IntWalk.i64_in _ (by have := HM1.out; omega)
          have m0 : (0 : Int) ≤ (m : Int) := by omega
          have mr : (m : Int) ≤ (r : Int) := by have := HM1.out; omega
          clear Hg Hsp Hn Hsrc Hfit HSP
          go_region
          obtain ⟨A2, hA2⟩ : ∃ A2, A2 = (if c' = m then (some ⟨b, off, none⟩ : Option Addr) else some ⟨b, off + m, none⟩) := ⟨_, rfl⟩
          rw [← hA2]
          have HA2 := hide hA2; clear hA2
          have Z3 : Hid (RowV (Y.setCell ⟨G, 72, none⟩ (.int .i64 ((L : Int) + (m : Int)))).drew G T (stRow (Sha.state told) rest2 ((L : Int) + (m : Int)))) := hide Y3.out
          have Z4 : Hid (w1.grownBy (Y.setCell ⟨G, 72, none⟩ (.int .i64 ((L : Int) + (m : Int)))).drew (some G)) := hide (grown_drew Y4.out)
          generalize (Y.setCell ⟨G, 72, none⟩ (.int .i64 ((L : Int) + (m : Int)))).drew = Z at Z3 Z4 ⊢
          clear Y1 Y2 Y3 Y4 cn hf s1
          have cz : Z.cell? ⟨G, 72, none⟩ = some (.int .i64 ((L : Int) + (m : Int))) := Z3.out.cell (stRow_n HR2L.out)
          have HRel : Hid (∀ W : World, StOf W G T (told ++ x) → w1.grownBy W (some G) → (∃ (k r_1 c'_1 : Nat) (A' : Option Addr), Value.slice A2 (r - m) (c' - m) = Value.slice A' r_1 c'_1 ∧ r_1 ≤ c'_1 ∧ c'_1 ≤ 9223372036854775807 ∧ Hid (k + r_1 = n) ∧ Hid (∀ (X : World), w.grownBy X (some G) → SlB X X.heap.size A' r_1 (cs.drop k)) ∧ Hid (0 < r_1 → ∀ (b off : Nat), A' = some ⟨b, off, none⟩ → b ≠ G) ∧ Hid (StOf W G T (bs ++ cs.take k)) ∧ Hid (w1.grownBy W (some G)))) := hide (by
            intro W hW hgW
            have hmr := HM1.out.2.1
            refine ⟨k + m, r - m, c' - m, A2, rfl, by omega, by omega, hide (by have := HKR.out; omega), hide (fun X hX => ?_), hide (by rw [HA2.out]; exact fun _ => cut_ne HBG.out), hide ?_, hide hgW⟩
            · rw [← List.drop_drop, HA2.out]; exact (HB.out X hX).cut hmr hrc
            · rw [HT.out m, ← List.append_assoc, ← HTO.out, ← HXX.out]; exact hW)
          by_cases hf : q + m = 64
          · have ht2 : (((L : Int) + (m : Int)) % 64 == 0) = true := by rw [beq_iff_eq]; omega
            have HF := hide hf; clear hf
            go_wp2_with fail
            refine (ptake_any G T gk (Sha.state told) (rest2.map bv ++ [.int .i64 ((L : Int) + (m : Int))]) (some ⟨G, 8, none⟩) 64 rest2 _ Z3.out (SlB.room Z3.out HR2L.out) (HK.out _ Z4.out)).mono ?_
            rintro e w2 ⟨rfl, hrow, hgr⟩
            obtain ⟨V, hV⟩ : ∃ V, V = Sha.block (Sha.state told) rest2 := ⟨_, rfl⟩
            rw [← hV] at hrow
            have HE : Hid (StOf w2 G T (told ++ x)) := hide (by
              refine st_full (V := V) (bs := told) (rest := rest) (rest2 := rest2) (x := x) (m := m) H1.out (by rw [← HLL.out, ← HQ.out]; exact H2.out) HXL.out (by rw [← HLL.out, ← HQ.out]; exact HF.out) (by rw [← HLL.out, ← HQ.out]; exact HR2.out) hV ?_
              rw [← HLL.out]; exact hrow)
            clear hV
            have HGE := hide (grown_trans Z4.out hgr)
            clear hrow hgr cz ht2
            go_wp2_with fail
            go_roundw
            case rel => exact HRel.out _ HE.out HGE.out
            case measure => have := HM1.out; simp; omega
          · have ht2 : (((L : Int) + (m : Int)) % 64 == 0) = false := by rw [beq_eq_false_iff_ne]; have := HM1.out; omega
            have HF := hide hf; clear hf
            have HE : Hid (StOf Z G T (told ++ x)) := hide (by
              refine st_short (m := m) H1.out (by rw [← HLL.out, ← HQ.out]; exact H2.out) HXL.out (by rw [← HLL.out, ← HQ.out]; have := HF.out; have := HM1.out; omega) ?_
              rw [← HLL.out, ← HQ.out, ← HR2.out]; exact Z3.out)
            go_wp2_with fail
            go_roundw
            case rel => exact HRel.out _ HE.out Z4.out
            case measure => have := HM1.out; simp; omega
        · have t1 : ((q : Int) == 0) = false := by rw [beq_eq_false_iff_ne]; omega
          clear hz
          go_wp2_with (with_reducible refine wpList_copy_own rfl (.tmp 42) (.tmp 43) 40 40 rfl 5 Tryd.underlying40 size_u8 G (8 + q) (64 - q) (64 - q) ⟨b, off, none⟩ r c' rfl rfl _ T Hg.out (x.map bv) Hn.out Hsrc.out Hfit.out (bytes_oneCell x) ?_)
          rw [HXL.out] at HSP
          rw [HXL.out, HSP.out]
          refine wp_world (fun Y => RowV Y G T (stRow (Sha.state told) rest2 (L : Int)) ∧ w1.grownBy Y (some G)) ⟨row_set H3.out, grown_setRow HG.out _⟩ ?_
          rintro Y ⟨y1, y2⟩
          have Y1 := hide y1; have Y2 := hide y2; clear y1 y2 cn
          have cn : Y.cell? ⟨G, 72, none⟩ = some (.int .i64 (L : Int)) := Y1.out.cell (stRow_n HR2L.out)
          have hf := Y1.out.free 72
          have Y3 := hide (Y1.out.set 72 (.int .i64 ((L : Int) + (m : Int))))
          rw [stRow_set HR2L.out] at Y3
          have Y4 := hide (grown_set (j := 72) Y2.out (.int .i64 ((L : Int) + (m : Int))))
          have s1 : IntKind.i64.wrap ((L : Int) + (m : Int)) = (L : Int) + (m : Int) := IntWalk.i64_in _ (by have := HM1.out; omega)
          have m0 : (0 : Int) ≤ (m : Int) := by omega
          have mr : (m : Int) ≤ (r : Int) := by have := HM1.out; omega
          clear Hg Hsp Hn Hsrc Hfit HSP
          go_region
          obtain ⟨A2, hA2⟩ : ∃ A2, A2 = (if c' = m then (some ⟨b, off, none⟩ : Option Addr) else some ⟨b, off + m, none⟩) := ⟨_, rfl⟩
          rw [← hA2]
          have HA2 := hide hA2; clear hA2
          have Z3 : Hid (RowV (Y.setCell ⟨G, 72, none⟩ (.int .i64 ((L : Int) + (m : Int)))).drew G T (stRow (Sha.state told) rest2 ((L : Int) + (m : Int)))) := hide Y3.out
          have Z4 : Hid (w1.grownBy (Y.setCell ⟨G, 72, none⟩ (.int .i64 ((L : Int) + (m : Int)))).drew (some G)) := hide (grown_drew Y4.out)
          generalize (Y.setCell ⟨G, 72, none⟩ (.int .i64 ((L : Int) + (m : Int)))).drew = Z at Z3 Z4 ⊢
          clear Y1 Y2 Y3 Y4 cn hf s1
          have cz : Z.cell? ⟨G, 72, none⟩ = some (.int .i64 ((L : Int) + (m : Int))) := Z3.out.cell (stRow_n HR2L.out)
          have HRel : Hid (∀ W : World, StOf W G T (told ++ x) → w1.grownBy W (some G) → (∃ (k r_1 c'_1 : Nat) (A' : Option Addr), Value.slice A2 (r - m) (c' - m) = Value.slice A' r_1 c'_1 ∧ r_1 ≤ c'_1 ∧ c'_1 ≤ 9223372036854775807 ∧ Hid (k + r_1 = n) ∧ Hid (∀ (X : World), w.grownBy X (some G) → SlB X X.heap.size A' r_1 (cs.drop k)) ∧ Hid (0 < r_1 → ∀ (b off : Nat), A' = some ⟨b, off, none⟩ → b ≠ G) ∧ Hid (StOf W G T (bs ++ cs.take k)) ∧ Hid (w1.grownBy W (some G)))) := hide (by
            intro W hW hgW
            have hmr := HM1.out.2.1
            refine ⟨k + m, r - m, c' - m, A2, rfl, by omega, by omega, hide (by have := HKR.out; omega), hide (fun X hX => ?_), hide (by rw [HA2.out]; exact fun _ => cut_ne HBG.out), hide ?_, hide hgW⟩
            · rw [← List.drop_drop, HA2.out]; exact (HB.out X hX).cut hmr hrc
            · rw [HT.out m, ← List.append_assoc, ← HTO.out, ← HXX.out]; exact hW)
          by_cases hf : q + m = 64
          · have ht2 : (((L : Int) + (m : Int)) % 64 == 0) = true := by rw [beq_iff_eq]; omega
            have HF := hide hf; clear hf
            go_wp2_with fail
            refine (ptake_any G T gk (Sha.state told) (rest2.map bv ++ [.int .i64 ((L : Int) + (m : Int))]) (some ⟨G, 8, none⟩) 64 rest2 _ Z3.out (SlB.room Z3.out HR2L.out) (HK.out _ Z4.out)).mono ?_
            rintro e w2 ⟨rfl, hrow, hgr⟩
            obtain ⟨V, hV⟩ : ∃ V, V = Sha.block (Sha.state told) rest2 := ⟨_, rfl⟩
            rw [← hV] at hrow
            have HE : Hid (StOf w2 G T (told ++ x)) := hide (by
              refine st_full (V := V) (bs := told) (rest := rest) (rest2 := rest2) (x := x) (m := m) H1.out (by rw [← HLL.out, ← HQ.out]; exact H2.out) HXL.out (by rw [← HLL.out, ← HQ.out]; exact HF.out) (by rw [← HLL.out, ← HQ.out]; exact HR2.out) hV ?_
              rw [← HLL.out]; exact hrow)
            clear hV
            have HGE := hide (grown_trans Z4.out hgr)
            clear hrow hgr cz ht2
            go_wp2_with fail
            go_roundw
            case rel => exact HRel.out _ HE.out HGE.out
            case measure => have := HM1.out; simp; omega
          · have ht2 : (((L : Int) + (m : Int)) % 64 == 0) = false := by rw [beq_eq_false_iff_ne]; have := HM1.out; omega
            have HF := hide hf; clear hf
            have HE : Hid (StOf Z G T (told ++ x)) := hide (by
              refine st_short (m := m) H1.out (by rw [← HLL.out, ← HQ.out]; exact H2.out) HXL.out (by rw [← HLL.out, ← HQ.out]; have := HF.out; have := HM1.out; omega) ?_
              rw [← HLL.out, ← HQ.out, ← HR2.out]; exact Z3.out)
            go_wp2_with fail
            go_roundw
            case rel => exact HRel.out _ HE.out Z4.out
            case measure => have := HM1.out; simp; omega
    · have hrn : ¬ (0 : Int) < (r : Int) := by omega
      have HE : Hid (StOf wr G T (bs ++ cs)) := hide (by
        have := HS.out
        rwa [List.take_of_length_le (by have := HKR.out; have := HL.out; omega)] at this)
      go_wp2_with fail
      go_end0
      exact ⟨rfl, HE.out, grown_trans HGW.out HG.out⟩
end Go.Proofs.YtokdliapkolngaaDoor
