/-
  The walk of the program's digest: sum.
-/
import Derived.Test.YtokdliapkolngaaDoorShaG
import Derived.Deep.LoopGhost
namespace Go.Proofs.YtokdliapkolngaaDoor
open Go.RowKit Go.Great

/-- the value of a state that was told bs -/
def StVal (cs : Array Value) (bs : List UInt8) : Prop :=
  ∃ rest : List UInt8, rest.length = 64 ∧ rest.take (bs.length % 64) = Sha.tail bs ∧ cs = (stRow (Sha.state bs) rest (bs.length : Int)).toArray
theorem StVal.of {w : World} {G T : Nat} {bs : List UInt8} (h : StOf w G T bs) : ∃ cs, StVal cs bs ∧ w.heap[G]? = some (.cells cs T (0, 0)) := by
  obtain ⟨rest, h1, h2, h3⟩ := h
  exact ⟨_, ⟨rest, h1, h2, rfl⟩, h3⟩
theorem StVal.st {w : World} {G T : Nat} {cs : Array Value} {bs : List UInt8} (h : StVal cs bs) (hg : w.heap[G]? = some (.cells cs T (0, 0))) : StOf w G T bs := by
  obtain ⟨rest, h1, h2, rfl⟩ := h
  exact ⟨rest, h1, h2, hg⟩
theorem StVal.size {cs : Array Value} {bs : List UInt8} (h : StVal cs bs) : cs.size = 73 := by
  obtain ⟨rest, h1, h2, rfl⟩ := h
  simp [stRow_length h1]
theorem StOf.n {w : World} {G T : Nat} {bs : List UInt8} (h : StOf w G T bs) : w.cell? ⟨G, 72, none⟩ = some (.int .i64 (bs.length : Int)) := by
  obtain ⟨rest, h1, h2, h3⟩ := h
  exact h3.cell (stRow_n h1)
theorem StOf.lt {w : World} {G T : Nat} {bs : List UInt8} (h : StOf w G T bs) : G < w.heap.size := by
  obtain ⟨_, _, _, h⟩ := h; exact h.lt
theorem StOf.keep {w X : World} {G T : Nat} {bs : List UInt8} (h : StOf w G T bs) (hx : X.heap[G]? = w.heap[G]?) : StOf X G T bs := by
  obtain ⟨rest, h1, h2, h3⟩ := h
  exact ⟨rest, h1, h2, hx.trans h3⟩
theorem StOf.below' {w X : World} {G T : Nat} {bs : List UInt8} (h : StOf w G T bs) (hb : Below w.heap.size w X) : StOf X G T bs := h.keep (hb.block G h.lt)
theorem StOf.words {w : World} {G T : Nat} {bs : List UInt8} (h : StOf w G T bs) (k : Nat) (x : UInt32) (hk : (Sha.state bs).words[k]? = some x) : w.cell? ⟨G, k, none⟩ = some (.int .u32 (x.toNat : Int)) := by
  obtain ⟨rest, h1, h2, h3⟩ := h
  refine h3.cell ?_
  unfold stRow
  rw [List.getElem?_append_left (by have := (List.getElem?_eq_some_iff.1 hk).1; simpa [v8_len, Sha.V8.words] using this)]
  show ((Sha.state bs).words.map uv)[k]? = _
  rw [List.getElem?_map, hk]; rfl
theorem below_of_grown' {B G : Nat} {a b c : World} (h : Below B a b) (hg : b.grownBy c (some G)) (hB : B ≤ b.heap.size) (hG : B ≤ G) : Below B a c := h.grown hg hB (fun k hk => by injection hk with hk; omega)
theorem row_grown {w X : World} {g t G : Nat} {xs : List Value} (h : RowV w g t xs) (hg : w.grownBy X (some G)) (hne : g ≠ G) : RowV X g t xs := (hg.block g h.lt (by simpa using hne)).trans h
/-- the length's bytes, from the front -/
def frow (N i : Nat) : List Value := ((Sha.be8 N).take i).map bv ++ List.replicate (8 - i) (.int .u8 0)
theorem frow_set (N i : Nat) (hi : i < 8) : (frow N i).set i (.int .u8 ((N / 256 ^ (7 - i) % 256 : Nat) : Int)) = frow N (i + 1) := by
  have e : (Sha.be8 N)[i]? = some (UInt8.ofNat (N / 256 ^ (7 - i))) := by
    unfold Sha.be8
    rw [List.getElem?_map, List.getElem?_range hi]; rfl
  unfold frow
  rw [List.set_append_right _ _ (by simp [Sha.be8_length]; omega), List.take_add_one, e, show 8 - i = (8 - (i + 1)) + 1 by omega, List.replicate_succ]
  have hm : min i 8 = i := by omega
  simp [Sha.be8_length, hm, bv, UInt8.toNat_ofNat']
theorem frow_length (N i : Nat) (hi : i ≤ 8) : (frow N i).length = 8 := by simp [frow, Sha.be8_length]; omega
theorem frow_end (N : Nat) : frow N 8 = (Sha.be8 N).map bv := by
  unfold frow; rw [List.take_of_length_le (by rw [Sha.be8_length]; exact Nat.le_refl _)]; simp
theorem pad_split (bs : List UInt8) : Sha.padded bs = (bs ++ 128 :: List.replicate (Sha.padN bs.length) 0) ++ Sha.be8 (8 * bs.length) := by
  unfold Sha.padded; simp

set_option maxRecDepth 100000 in
theorem len_walk (L i : Nat) (hi : i < 8) : (L : Int) * 8 / 2 ^ (56 - 8 * i) % 256 = ((8 * L / 256 ^ (7 - i) % 256 : Nat) : Int) := by
  have e : 256 ^ (7 - i) = 2 ^ (56 - 8 * i) := by
    rw [show (256 : Nat) = 2 ^ 8 from rfl, ← Nat.pow_mul]; congr 1; omega
  rw [e, Int.natCast_emod, Int.natCast_ediv, Int.natCast_pow, Int.natCast_mul, Int.mul_comm]; rfl
/-- an element of eight words by value -/
theorem index8 (t : TypeId) (V : Sha.V8) (i : Nat) (hi : i < 8) (hx : ∀ (j : Nat) (w : World), j < 8 → (Instr.index t (.agg #[.int .u32 (V.a.toNat : Int), .int .u32 (V.b.toNat : Int), .int .u32 (V.c.toNat : Int), .int .u32 (V.d.toNat : Int), .int .u32 (V.e.toNat : Int), .int .u32 (V.f.toNat : Int), .int .u32 (V.g.toNat : Int), .int .u32 (V.h.toNat : Int)]) (.int .i64 (j : Int))).run Tryd.prog w = .ok ((v8 V).getD j undef) w) (w : World) :
    (Instr.index t (.agg #[.int .u32 (V.a.toNat : Int), .int .u32 (V.b.toNat : Int), .int .u32 (V.c.toNat : Int), .int .u32 (V.d.toNat : Int), .int .u32 (V.e.toNat : Int), .int .u32 (V.f.toNat : Int), .int .u32 (V.g.toNat : Int), .int .u32 (V.h.toNat : Int)]) (.int .i64 (i : Int))).run Tryd.prog w = .ok (.int .u32 ((V.words.getD i 0).toNat : Int)) w := by
  rw [hx i w hi, List.getD_eq_getElem?_getD, v8_at V i hi]; rfl
theorem index8_run (V : Sha.V8) (j : Nat) (w : World) (hj : j < 8) : (Instr.index 75 (.agg #[.int .u32 (V.a.toNat : Int), .int .u32 (V.b.toNat : Int), .int .u32 (V.c.toNat : Int), .int .u32 (V.d.toNat : Int), .int .u32 (V.e.toNat : Int), .int .u32 (V.f.toNat : Int), .int .u32 (V.g.toNat : Int), .int .u32 (V.h.toNat : Int)]) (.int .i64 (j : Int))).run Tryd.prog w = .ok ((v8 V).getD j undef) w := by
  match j, hj with
  | 0, _ => show _ = _; kernel_rfl
  | 1, _ => show _ = _; kernel_rfl
  | 2, _ => show _ = _; kernel_rfl
  | 3, _ => show _ = _; kernel_rfl
  | 4, _ => show _ = _; kernel_rfl
  | 5, _ => show _ = _; kernel_rfl
  | 6, _ => show _ = _; kernel_rfl
  | 7, _ => show _ = _; kernel_rfl
  | j + 8, h => exact absurd h (by omega)
set_option maxHeartbeats 2000000 in
theorem psum_any (cs : Array Value) (bs : List UInt8) (w : World) (hv : StVal cs bs) (hN : bs.length ≤ 900000000000000000) :
    Calls Tryd.prog 58 #[.agg cs] w fun e w' => e = .returned (.agg ((Sha.sum bs).map bv).toArray) ∧ Below w.heap.size w w' := by
  have HV := hide hv; clear hv
  have hn0 : (0 : Int) ≤ (bs.length : Int) := by omega
  go_enter Tryd.func58, Tryd.ntmps58
  go_upto_region 1 with (fail)
  refine wp_world (fun X => StOf X w.heap.size 90 bs ∧ RowV X (w.heap.size + 1) 66 (List.replicate 32 (.int .u8 0)) ∧ Below w.heap.size w X ∧ X.heap.size = w.heap.size + 2)
    ⟨HV.out.st (heap_alloc2_old w _ _), (heap_alloc2_new w _ _).trans (by kernel_rfl), ((Below.refl _ _).alloc (Nat.le_refl _) _).alloc (by simp) _, by simp⟩ ?_
  rintro X ⟨x1, x2, x3, x4⟩
  obtain ⟨L, hL⟩ : ∃ L, L = bs.length := ⟨_, rfl⟩
  have cn := x1.n
  rw [← hL] at cn hn0 hN
  have X1 := hide x1; have X2 := hide x2; have X3 := hide x3; have X4 := hide x4; have HL := hide hL
  clear x1 x2 x3 x4 hL HV
  go_wp2_with fail
  refine (pwrite_any w.heap.size 90 bs [128] (some ⟨X.heap.size, 0, none⟩) 1 1 _ ?a1 ?a2 ?a3 (by omega) (by have := HL.out; omega) (by omega)).mono ?_
  case a1 => exact X1.out.below' ((Below.refl _ _).alloc (Nat.le_refl _) _)
  case a2 => exact SlB.lit [128] rfl rfl
  case a3 => intro _ b off e; injection e with e; injection e with e1 _ _; have := X4.out; omega
  rintro e w2 ⟨rfl, hs, hgr⟩
  have S2 : Hid (StOf w2 w.heap.size 90 (bs ++ 128 :: List.replicate 0 0)) := hide hs
  have R2 := hide (row_grown (X2.out.alloc (.cells #[.int .u8 128] 5)) hgr (by omega))
  have B2 := hide (below_of_grown' (X3.out.alloc X3.out.size (.cells #[.int .u8 128] 5)) hgr (by have := X4.out; rw [World.size_alloc]; omega) (Nat.le_refl _))
  have Z2 : Hid (w.heap.size + 2 ≤ w2.heap.size) := hide (by have := hgr.size; have := X4.out; rw [World.size_alloc] at *; omega)
  clear hs hgr X1 X2 X3 X4 cn
  go_wp2_with fail
  go_loopg [] (Sha.padN L) (fun gk wr => ∃ k : Nat, k + gk = Sha.padN L ∧ Hid (StOf wr w.heap.size 90 (bs ++ 128 :: List.replicate k 0)) ∧ Hid (RowV wr (w.heap.size + 1) 66 (List.replicate 32 (.int .u8 0))) ∧ Hid (Below w.heap.size w wr) ∧ Hid (w.heap.size + 2 ≤ wr.heap.size))
  case atStart => exact ⟨0, by omega, S2, R2, B2, Z2⟩
  case round =>
    clear S2 R2 B2 Z2
    obtain ⟨k, hk, S, R, B, Z⟩ := hrel
    have hk63 := padN_le L
    obtain ⟨M, hM⟩ : ∃ M, M = L + 1 + k := ⟨_, rfl⟩
    have hml : (bs ++ 128 :: List.replicate k 0).length = M := by simp; have := HL.out; omega
    have cn := S.out.n
    rw [hml] at cn
    have hm0 : (0 : Int) ≤ (M : Int) := by omega
    have hm1 : (M : Int) ≤ 900000000000000065 := by omega
    by_cases hm : M % 64 = 56
    · have hke := pad_end L k (by rw [← hM]; exact hm) (by omega)
      have ht : ((M : Int) % 64 != 56) = false := by rw [bne_eq_false_iff_eq]; omega
      have HK := hide hke; have HM := hide hM; clear hke hM hm hml hk
      go_wp2_with fail
      have F4 : Hid (RowV (wr.alloc (.cells (List.replicate 8 (Value.int .u8 0)).toArray 83)) wr.heap.size 83 (frow (8 * L) 0)) := hide (heap_alloc_new wr _)
      replace S := hide (S.out.below' ((Below.refl _ _).alloc (Nat.le_refl _) (.cells (List.replicate 8 (Value.int .u8 0)).toArray 83)))
      replace R := hide (R.out.alloc (.cells (List.replicate 8 (Value.int .u8 0)).toArray 83))
      replace B := hide (B.out.alloc B.out.size (.cells (List.replicate 8 (Value.int .u8 0)).toArray 83))
      obtain ⟨G4, hG4⟩ : ∃ G4, G4 = wr.heap.size := ⟨_, rfl⟩
      rw [← hG4] at F4 Z ⊢
      clear hG4 cn ht
      go_loopw [21] (fun v21 wq => ∃ i : Nat, i ≤ 8 ∧ v21 = .int .i64 i ∧ Hid (RowV wq G4 83 (frow (8 * L) i)) ∧ Hid (StOf wq w.heap.size 90 (bs ++ 128 :: List.replicate k 0)) ∧ Hid (RowV wq (w.heap.size + 1) 66 (List.replicate 32 (.int .u8 0))) ∧ Hid (Below w.heap.size w wq)) (fun v _ => 8 - (intOf v).toNat)
      case atStart => exact ⟨0, by omega, rfl, F4, S, R, B⟩
      case round =>
        clear F4 S R B
        obtain ⟨i, hi, rfl, F, S, R, B⟩ := hrel
        by_cases hlt : i < 8
        · have hf := F.out.free i
          obtain ⟨v0, c0⟩ : ∃ v0, wr.cell? ⟨G4, i, none⟩ = some v0 := ⟨_, F.out.cell (List.getElem?_eq_getElem (by rw [frow_length _ _ hi]; exact hlt))⟩
          have F2 := hide (F.out.set i (.int .u8 ((8 * L / 256 ^ (7 - i) % 256 : Nat) : Int)))
          rw [frow_set _ _ hlt] at F2
          have S2 : Hid (StOf (wr.setCell ⟨G4, i, none⟩ (.int .u8 ((8 * L / 256 ^ (7 - i) % 256 : Nat) : Int))) w.heap.size 90 (bs ++ 128 :: List.replicate k 0)) := hide (S.out.keep (heap_setCell_other _ _ _ _ (by have := Z.out; simp; omega)))
          have R2 := hide (R.out.set_other (b := G4) (k := i) (v := .int .u8 ((8 * L / 256 ^ (7 - i) % 256 : Nat) : Int)) (by have := Z.out; omega))
          have B2 := hide (B.out.setCell (p := ⟨G4, i, none⟩) (by have := Z.out; show w.heap.size ≤ G4; omega) (.int .u8 ((8 * L / 256 ^ (7 - i) % 256 : Nat) : Int)))
          have b1 : (0 : Int) ≤ (i : Int) := by omega
          have b2 : (i : Int) < 8 := by omega
          have b3 : (0 : Int) ≤ 56 - 8 * (i : Int) := by omega
          have b4 : 56 - 8 * (i : Int) ≤ 64 := by omega
          have n4 : (56 - 8 * (i : Int)).toNat = 56 - 8 * i := by omega
          go_wp2_with fail
          go_roundw
          case rel =>
            refine ⟨i + 1, by omega, by go_num, ?_⟩
            rw [len_walk L i hlt]
            exact ⟨F2, S2, R2, B2⟩
          case measure => simp [intOf]; omega
        · have F8 : Hid (SlB wr wr.heap.size (some ⟨G4, 0, none⟩) 8 (Sha.be8 (8 * L))) := hide (SlB.of_block (rest := []) (t := 83) (fr := (0, 0)) (by
            have := F.out
            rw [show i = 8 by omega, frow_end] at this
            rw [List.append_nil]; exact this) F.out.lt (Sha.be8_length _))
          have hge : ¬ ((i : Int) < 8) := by omega
          go_wp2_with fail
          refine (pwrite_any w.heap.size 90 (bs ++ 128 :: List.replicate k 0) (Sha.be8 (8 * L)) (some ⟨G4, 0, none⟩) 8 8 _ S.out F8.out ?c3 (by omega) ?c4 (by omega)).mono ?_
          case c3 => intro _ b off e; injection e with e; injection e with e1 _ _; have := Z.out; omega
          case c4 => simp; have := HL.out; have := HK.out; omega
          rintro e w2 ⟨rfl, hs, hgr⟩
          have S2 : Hid (StOf w2 w.heap.size 90 (Sha.padded bs)) := hide (by
            rw [pad_split, ← HL.out, ← HK.out]; exact hs)
          have R2 := hide (row_grown R.out hgr (by omega))
          have B2 := hide (below_of_grown' B.out hgr B.out.size (Nat.le_refl _))
          have HSUM : Hid (Sha.sum bs = (Sha.state (Sha.padded bs)).words.flatMap Sha.be4) := hide rfl
          have z2 := R2.out.lt
          obtain ⟨V, hV⟩ : ∃ V, V = Sha.state (Sha.padded bs) := ⟨_, rfl⟩
          rw [← hV] at HSUM
          have HVV := hide hV; clear hV hs hgr S R B F F8
          go_upto_region 13 with (fail)
          refine wp_world (fun X => RowV X w2.heap.size 66 (drow V 0) ∧ RowV X (w.heap.size + 1) 66 (List.replicate 32 (.int .u8 0)) ∧ Below w.heap.size w X ∧ StOf X w.heap.size 90 (Sha.padded bs))
            ⟨by rw [drow_zero]; exact heap_alloc_new w2 _, R2.out.alloc _, B2.out.alloc B2.out.size _, S2.out.below' ((Below.refl _ _).alloc (Nat.le_refl _) _)⟩ ?_
          rintro X ⟨x1, x2, x3, x4⟩
          obtain ⟨G6, hG6⟩ : ∃ G6, G6 = w2.heap.size := ⟨_, rfl⟩
          rw [← hG6] at x1 z2 ⊢
          have D6 := hide x1; have R6 := hide x2; have B6 := hide x3; have HZ := hide z2
          have d0 : X.cell? ⟨w.heap.size, 0, none⟩ = some (.int .u32 (V.a.toNat : Int)) := x4.words 0 _ (by rw [← HVV.out]; rfl)
          have d1 : X.cell? ⟨w.heap.size, 1, none⟩ = some (.int .u32 (V.b.toNat : Int)) := x4.words 1 _ (by rw [← HVV.out]; rfl)
          have d2 : X.cell? ⟨w.heap.size, 2, none⟩ = some (.int .u32 (V.c.toNat : Int)) := x4.words 2 _ (by rw [← HVV.out]; rfl)
          have d3 : X.cell? ⟨w.heap.size, 3, none⟩ = some (.int .u32 (V.d.toNat : Int)) := x4.words 3 _ (by rw [← HVV.out]; rfl)
          have d4 : X.cell? ⟨w.heap.size, 4, none⟩ = some (.int .u32 (V.e.toNat : Int)) := x4.words 4 _ (by rw [← HVV.out]; rfl)
          have d5 : X.cell? ⟨w.heap.size, 5, none⟩ = some (.int .u32 (V.f.toNat : Int)) := x4.words 5 _ (by rw [← HVV.out]; rfl)
          have d6 : X.cell? ⟨w.heap.size, 6, none⟩ = some (.int .u32 (V.g.toNat : Int)) := x4.words 6 _ (by rw [← HVV.out]; rfl)
          have d7 : X.cell? ⟨w.heap.size, 7, none⟩ = some (.int .u32 (V.h.toNat : Int)) := x4.words 7 _ (by rw [← HVV.out]; rfl)
          clear x1 x2 x3 x4 z2 hG6 S2 R2 B2
          go_wp2_with fail
          clear d0 d1 d2 d3 d4 d5 d6 d7
          go_loopw [37] (fun v37 wq => ∃ i : Nat, i ≤ 8 ∧ v37 = .int .i64 i ∧ Hid (RowV wq G6 66 (drow V (4 * i))) ∧ Hid (RowV wq (w.heap.size + 1) 66 (List.replicate 32 (.int .u8 0))) ∧ Hid (Below w.heap.size w wq)) (fun v _ => 8 - (intOf v).toNat)
          case atStart => exact ⟨0, by omega, rfl, D6, R6, B6⟩
          case round =>
            clear D6 R6 B6
            obtain ⟨i, hi, rfl, D, R, B⟩ := hrel
            by_cases hlt : i < 8
            · have hix := index8 75 V i hlt (fun j w hj => index8_run V j w hj)
              obtain ⟨x, hx⟩ : ∃ x, x = V.words.getD i 0 := ⟨_, rfl⟩
              rw [← hx] at hix
              have f0 := D.out.free (4 * i); have f1 := D.out.free (4 * i + 1); have f2 := D.out.free (4 * i + 2); have f3 := D.out.free (4 * i + 3)
              have hdl := drow_length V (4 * i) (by omega)
              obtain ⟨u0, c0⟩ : ∃ u, wr.cell? ⟨G6, 4 * i, none⟩ = some u := ⟨_, D.out.cell (List.getElem?_eq_getElem (by rw [hdl]; omega))⟩
              obtain ⟨u1, c1⟩ : ∃ u, wr.cell? ⟨G6, 4 * i + 1, none⟩ = some u := ⟨_, D.out.cell (List.getElem?_eq_getElem (by rw [hdl]; omega))⟩
              obtain ⟨u2, c2⟩ : ∃ u, wr.cell? ⟨G6, 4 * i + 2, none⟩ = some u := ⟨_, D.out.cell (List.getElem?_eq_getElem (by rw [hdl]; omega))⟩
              obtain ⟨u3, c3⟩ : ∃ u, wr.cell? ⟨G6, 4 * i + 3, none⟩ = some u := ⟨_, D.out.cell (List.getElem?_eq_getElem (by rw [hdl]; omega))⟩
              have D4 := hide ((((D.out.set (4 * i) (.int .u8 (dat V (4 * i) : Int))).set (4 * i + 1) (.int .u8 (dat V (4 * i + 1) : Int))).set (4 * i + 2) (.int .u8 (dat V (4 * i + 2) : Int))).set (4 * i + 3) (.int .u8 (dat V (4 * i + 3) : Int)))
              rw [drow_set V _ (by omega), drow_set V _ (by omega), drow_set V _ (by omega), drow_set V _ (by omega)] at D4
              have E0 : Hid ((x.toNat : Int) / 16777216 % 256 = (dat V (4 * i) : Int)) := hide (by unfold dat; rw [show 4 * i / 4 = i by omega, show 4 * i % 4 = 0 by omega, ← hx]; simp)
              have E1 : Hid ((x.toNat : Int) / 65536 % 256 = (dat V (4 * i + 1) : Int)) := hide (by unfold dat; rw [show (4 * i + 1) / 4 = i by omega, show (4 * i + 1) % 4 = 1 by omega, ← hx]; simp)
              have E2 : Hid ((x.toNat : Int) / 256 % 256 = (dat V (4 * i + 2) : Int)) := hide (by unfold dat; rw [show (4 * i + 2) / 4 = i by omega, show (4 * i + 2) % 4 = 2 by omega, ← hx]; simp)
              have E3 : Hid ((x.toNat : Int) % 256 = (dat V (4 * i + 3) : Int)) := hide (by unfold dat; rw [show (4 * i + 3) / 4 = i by omega, show (4 * i + 3) % 4 = 3 by omega, ← hx]; simp)
              have b1 : (0 : Int) ≤ (i : Int) := by omega
              have b2 : (i : Int) < 8 := by omega
              have n0 : (4 * (i : Int)).toNat = 4 * i := by omega
              have n1 : (4 * (i : Int) + 1).toNat = 4 * i + 1 := by omega
              have n2 : (4 * (i : Int) + 2).toNat = 4 * i + 2 := by omega
              have n3 : (4 * (i : Int) + 3).toNat = 4 * i + 3 := by omega
              clear hx hdl
              go_wp2_with fail
              go_roundw
              case rel =>
                refine ⟨i + 1, by omega, by go_num, ?_⟩
                rw [E0.out, E1.out, E2.out, E3.out]
                have n6 : w.heap.size + 1 ≠ G6 := by have := HZ.out; omega
                have nle : w.heap.size ≤ G6 := by have := HZ.out; omega
                exact ⟨D4, hide ((((R.out.set_other n6).set_other n6).set_other n6).set_other n6),
                  hide ((((B.out.setCell (p := ⟨G6, _, none⟩) nle _).setCell (p := ⟨G6, _, none⟩) nle _).setCell (p := ⟨G6, _, none⟩) nle _).setCell (p := ⟨G6, _, none⟩) nle _)⟩
              case measure => simp [intOf]; omega
            · have HR : Hid (wr.heap[G6]? = some (.cells ((Sha.sum bs).map bv).toArray 66 (0, 0))) := hide (by
                have := D.out
                rw [show 4 * i = 32 by omega, drow_end, ← HSUM.out] at this
                exact this)
              have R2x : Hid (wr.heap[w.heap.size + 1]? = some (.cells (List.replicate 32 (Value.int .u8 0)).toArray 66 (0, 0))) := hide R.out
              have hs : ((Sha.sum bs).map bv).toArray.size = 32 := by simp [Sha.sum_length]
              obtain ⟨C, hC⟩ : ∃ C, C = ((Sha.sum bs).map bv).toArray := ⟨_, rfl⟩
              have h1 : C.all (·.oneCell') = true := by rw [hC]; exact bytes_one _
              rw [← hC] at HR hs
              have HC := hide hC; have HSZ := hide hs; have H1 := hide h1
              have hge2 : ¬ ((i : Int) < 8) := by omega
              clear hC hs h1 D R
              go_upto_region 18 with (fail)
              apply wp_region_lit
              refine wpList_load_row rfl 66 (.tmp 6) rfl G6 rfl 66 _ (0, 0) _ HR.out Tryd.underlying66 rfl (by rw [HSZ.out]; kernel_rfl) ?_
              refine wpList_store_row rfl 66 (.tmp 2) (.tmp 68) rfl (w.heap.size + 1) _ rfl rfl 66 _ R2x.out (by rw [HSZ.out]; kernel_rfl) (by rw [HSZ.out]; rfl) H1.out ?_
              have HF := hide (row_set (cs := C) R2x.out)
              have HG2 := hide (below_setRow (g := w.heap.size + 1) B.out (by omega) C)
              generalize wr.setRow (w.heap.size + 1) C = X at HF HG2 ⊢
              go_wp2
              exact bodyPost_ret (v := .agg C) (results_cell_row rfl _ _ (w.heap.size + 1) 66 C (0, 0) _ rfl HF.out Tryd.underlying66 rfl (by rw [HSZ.out]; kernel_rfl)) rfl ⟨by rw [HC.out], HG2.out⟩
    · have hlt := pad_mid L k (by rw [← hM]; exact hm) (by omega)
      have ht : ((M : Int) % 64 != 56) = true := by rw [bne_iff_ne]; omega
      have HM := hide hM; have HML := hide hml; clear hM hm hml
      go_wp2_with fail
      refine (pwrite_any w.heap.size 90 (bs ++ 128 :: List.replicate k 0) [0] (some ⟨wr.heap.size, 0, none⟩) 1 1 _ ?b1 ?b2 ?b3 (by omega) (by rw [HML.out]; omega) (by omega)).mono ?_
      case b1 => exact S.out.below' ((Below.refl _ _).alloc (Nat.le_refl _) _)
      case b2 => exact SlB.lit [0] rfl rfl
      case b3 => intro _ b off e; injection e with e; injection e with e1 _ _; have := Z.out; omega
      rintro e w2 ⟨rfl, hs, hgr⟩
      have S2 : Hid (StOf w2 w.heap.size 90 (bs ++ 128 :: List.replicate (k + 1) 0)) := hide (by
        have e : bs ++ 128 :: List.replicate (k + 1) 0 = (bs ++ 128 :: List.replicate k 0) ++ [(0 : UInt8)] := by simp [List.replicate_succ']
        rw [e]; exact hs)
      have R2 := hide (row_grown (R.out.alloc (.cells #[.int .u8 0] 5)) hgr (by omega))
      have B2 := hide (below_of_grown' (B.out.alloc B.out.size (.cells #[.int .u8 0] 5)) hgr (by have := B.out.size; rw [World.size_alloc]; omega) (Nat.le_refl _))
      have Z2 : Hid (w.heap.size + 2 ≤ w2.heap.size) := hide (by have := hgr.size; have := Z.out; rw [World.size_alloc] at *; omega)
      clear hs hgr S R B Z cn
      go_wp2_with fail
      go_roundg (gk - 1)
      case measure => omega
      case rel => exact ⟨k + 1, by omega, S2, R2, B2, Z2⟩
end Go.Proofs.YtokdliapkolngaaDoor
