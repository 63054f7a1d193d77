/-
  The walk of the document's Read.
-/
import Derived.Test.YtnlfnjadadfhkaaWireQ
import Derived.Test.YtnlfnjadadfhkaaWireF
import Derived.Deep.DeepCutAuto
import Derived.Deep.CutBlock
namespace Go.Proofs.Ytnlfnjadadfhkaa
open Go.RowKit
set_option linter.unusedVariables false

/-- what stands next, as one of a kind: it, the error, what is left -/
def Rd.read (kind b : Int) (rest : List UInt8) : Put × Int × List UInt8 :=
  if kind = 0 then (⟨0, Rd.unzig (Rd.numB b 18446744073709551615 rest).1, ByteArray.empty, []⟩, (Rd.numB b 18446744073709551615 rest).2)
  else if kind = 1 then (⟨1, 0, strB (Rd.wordB b rest).1, []⟩, (Rd.wordB b rest).2)
  else if kind = 2 then (⟨2, ((Rd.numB b 1 rest).1 : Int), ByteArray.empty, []⟩, (Rd.numB b 1 rest).2)
  else if kind = 3 then (⟨3, ((Rd.numB b 4096 rest).1 : Int), ByteArray.empty, []⟩, (Rd.numB b 4096 rest).2)
  else if kind = 4 then (⟨4, 0, ByteArray.empty, (Rd.textsB b rest).1⟩, (Rd.textsB b rest).2)
  else (⟨kind, 0, ByteArray.empty, []⟩, b, rest)
theorem Rd.read_0 (b : Int) (rest : List UInt8) : Rd.read 0 b rest = (⟨0, Rd.unzig (Rd.numB b 18446744073709551615 rest).1, ByteArray.empty, []⟩, (Rd.numB b 18446744073709551615 rest).2) := by unfold Rd.read; rw [if_pos rfl]
theorem Rd.read_1 (b : Int) (rest : List UInt8) : Rd.read 1 b rest = (⟨1, 0, strB (Rd.wordB b rest).1, []⟩, (Rd.wordB b rest).2) := by unfold Rd.read; rw [if_neg (by decide), if_pos rfl]
theorem Rd.read_2 (b : Int) (rest : List UInt8) : Rd.read 2 b rest = (⟨2, ((Rd.numB b 1 rest).1 : Int), ByteArray.empty, []⟩, (Rd.numB b 1 rest).2) := by unfold Rd.read; rw [if_neg (by decide), if_neg (by decide), if_pos rfl]
theorem Rd.read_3 (b : Int) (rest : List UInt8) : Rd.read 3 b rest = (⟨3, ((Rd.numB b 4096 rest).1 : Int), ByteArray.empty, []⟩, (Rd.numB b 4096 rest).2) := by unfold Rd.read; rw [if_neg (by decide), if_neg (by decide), if_neg (by decide), if_pos rfl]
theorem Rd.read_4 (b : Int) (rest : List UInt8) : Rd.read 4 b rest = (⟨4, 0, ByteArray.empty, (Rd.textsB b rest).1⟩, (Rd.textsB b rest).2) := by unfold Rd.read; rw [if_neg (by decide), if_neg (by decide), if_neg (by decide), if_neg (by decide), if_pos rfl]
theorem Rd.read_5 (kind b : Int) (rest : List UInt8) (h0 : ¬ kind = 0) (h1 : ¬ kind = 1) (h2 : ¬ kind = 2) (h3 : ¬ kind = 3) (h4 : ¬ kind = 4) : Rd.read kind b rest = (⟨kind, 0, ByteArray.empty, []⟩, b, rest) := by unfold Rd.read; rw [if_neg h0, if_neg h1, if_neg h2, if_neg h3, if_neg h4]
theorem results_row_row {P : Program} {fn : Func} {p q : Tmp} {ty uy : TypeId} (h : fn.results = #[.cell p ty, .cell q uy]) (tmps : Array Value) (w : World) (g g' : Nat) (t t' : TypeId) (cs ds : List Value) (fr fr' : Nat × Nat) (d d' : TypeDesc)
    (hp : tmps.getD p undef = .pointer (some ⟨g, 0, none⟩)) (hg : w.heap[g]? = some (.cells cs.toArray t fr)) (hq : tmps.getD q undef = .pointer (some ⟨g', 0, none⟩)) (hg' : w.heap[g']? = some (.cells ds.toArray t' fr'))
    (hu : P.underlying ty = some d) (hd : (match d with | .struct _ | .array _ _ => true | _ => false) = true) (hi : (P.info? ty).map (·.size) = some cs.length)
    (hu' : P.underlying uy = some d') (hd' : (match d' with | .struct _ | .array _ _ => true | _ => false) = true) (hi' : (P.info? uy).map (·.size) = some ds.length) :
    (results fn tmps).run P w = .ok (.tuple #[.agg cs.toArray, .agg ds.toArray]) w := by
  have hp' : tmps[p]?.getD undef = .pointer (some ⟨g, 0, none⟩) := by simpa using hp
  have hq' : tmps[q]?.getD undef = .pointer (some ⟨g', 0, none⟩) := by simpa using hq
  simp [results, h, hp', hq', asAddr, run_loadVar_row w g t ty cs.toArray fr d hg hu hd (by simpa using hi), run_loadVar_row w g' t' uy ds.toArray fr' d' hg' hu' hd' (by simpa using hi'), Result.andThen]
theorem unzig_val (num : Nat) (h : num ≤ 18446744073709551615) : (num % 2 = 1 → Rd.unzig num = -((num : Int) / 2) - 1) ∧ (¬ num % 2 = 1 → Rd.unzig num = (num : Int) / 2) := by
  unfold Rd.unzig
  exact ⟨fun h => by rw [if_pos h]; omega, fun h => by rw [if_neg h]; omega⟩
/-- the four rows of Read -/
def RdRows (w X : World) (A : Option Addr) (n c a : Nat) (b : Int) (xs : List Value) : Prop :=
  RowV X w.heap.size 53 [.slice A n c, .int .i64 (a : Int), .int .i64 b] ∧ RowV X (w.heap.size + 1) 43 [.int .i64 0, .int .i64 0, .string ByteArray.empty, .slice none 0 0] ∧ RowV X (w.heap.size + 2) 53 [.slice none 0 0, .int .i64 0, .int .i64 0] ∧ RowV X (w.heap.size + 3) 43 xs ∧ Below w.heap.size w X
theorem RdRows.up {w X Y : World} {A : Option Addr} {n c a : Nat} {b : Int} {xs : List Value} (h : RdRows w X A n c a b xs) (hb : Below X.heap.size X Y) : RdRows w Y A n c a b xs := by
  obtain ⟨h1, h2, h3, h4, h5⟩ := h
  exact ⟨h1.below' hb, h2.below' hb, h3.below' hb, h4.below' hb, h5.trans (hb.mono h5.size)⟩
theorem RdRows.setR {w X : World} {A : Option Addr} {n c a : Nat} {b : Int} {xs : List Value} (h : RdRows w X A n c a b xs) (a' : Nat) (b' : Int) : RdRows w (((X.setCell ⟨w.heap.size, 0, none⟩ (.slice A n c)).setCell ⟨w.heap.size, 1, none⟩ (.int .i64 (a' : Int))).setCell ⟨w.heap.size, 2, none⟩ (.int .i64 b')) A n c a' b' xs := by
  obtain ⟨h1, h2, h3, h4, h5⟩ := h
  exact ⟨((h1.set 0 _).set 1 _).set 2 _, ((h2.set_other (by omega)).set_other (by omega)).set_other (by omega), ((h3.set_other (by omega)).set_other (by omega)).set_other (by omega), ((h4.set_other (by omega)).set_other (by omega)).set_other (by omega), ((h5.setCell (by simp) _).setCell (by simp) _).setCell (by simp) _⟩
theorem RdRows.setP {w X : World} {A : Option Addr} {n c a : Nat} {b : Int} {xs : List Value} (h : RdRows w X A n c a b xs) (k : Nat) (v : Value) : RdRows w (X.setCell ⟨w.heap.size + 3, k, none⟩ v) A n c a b (xs.set k v) := by
  obtain ⟨h1, h2, h3, h4, h5⟩ := h
  exact ⟨h1.set_other (by omega), h2.set_other (by omega), h3.set_other (by omega), h4.set k v, h5.setCell (by simp) _⟩
def ReadPost (A : Option Addr) (n c : Nat) (bs : List UInt8) (res : Put × Int × List UInt8) (w : World) (e : Ending) (w' : World) : Prop :=
  ∃ (a' cL : Nat) (AL : Option Addr), a' ≤ n ∧ bs.drop a' = res.2.2 ∧ e = .returned (.tuple #[res.1.val AL cL, RdVal A n c a' res.2.1]) ∧ SlT w' 9 AL res.1.l.length (res.1.l.map Value.string) ∧ Below w.heap.size w w'
theorem SlT.set {w : World} {e : TypeId} {A : Option Addr} {n G T k : Nat} {xs ys : List Value} {v : Value} (h : SlT w e A n xs) (hR : RowV w G T ys) (hT : T ≠ e) : SlT (w.setCell ⟨G, k, none⟩ v) e A n xs := by
  refine h.keep (only_set (only_refl w G)) ?_
  intro k cur fr e
  injection e with e; subst e
  rw [hR]; intro e; injection e with e; injection e with _ e _; exact hT e
theorem SlT.drew {w : World} {e : TypeId} {A : Option Addr} {n : Nat} {xs : List Value} (h : SlT w e A n xs) : SlT w.drew e A n xs := h
theorem RdRows.app {w X Y : World} {A AL : Option Addr} {n c a base q cL : Nat} {b : Int} {xs ys : List Value} (h : RdRows w X A n c a b xs) (ho : Own X base 9 AL q cL ys) (hg : X.grownBy Y (Value.slice AL q cL).ownBlock) (hbase : w.heap.size ≤ base := by exact Nat.le_refl _) : RdRows w Y A n c a b xs := by
  obtain ⟨h1, h2, h3, h4, h5⟩ := h
  exact ⟨(hg.block _ h1.lt (fun h => own_ne' ho h1 (by decide) h.symm)).trans h1, (hg.block _ h2.lt (fun h => own_ne' ho h2 (by decide) h.symm)).trans h2, (hg.block _ h3.lt (fun h => own_ne' ho h3 (by decide) h.symm)).trans h3, (hg.block _ h4.lt (fun h => own_ne' ho h4 (by decide) h.symm)).trans h4, below_of_grown h5 hg h5.size (fun k hk => Nat.le_trans hbase (ho.row_ge k hk))⟩
set_option maxHeartbeats 16000000 in
set_option maxRecDepth 100000 in
theorem dread_any (A : Option Addr) (n c a : Nat) (b : Int) (kind : Int) (bs : List UInt8) (w : World) (hb : SlB w w.heap.size A n bs) (hA : Spot A n c) (hnc : n ≤ c) (ha : a ≤ n) (hn : n ≤ 9223372036854700000) (hcc : c ≤ 9223372036854775807) :
    Calls Try.prog 24 #[RdVal A n c a b, .int .i64 kind] w (ReadPost A n c bs (Rd.read kind b (bs.drop a)) w) := by
  have HB := hide hb; have HL := hide hb.len; clear hb
  obtain ⟨res, hres⟩ : ∃ res, res = Rd.read kind b (bs.drop a) := ⟨_, rfl⟩
  rw [← hres]
  have HRES := hide hres; clear hres
  unfold RdVal
  go_enter Try.func24, Try.ntmps24
  go_upto_block 0 with (fail)
  refine wp_world (fun X => Hid (RdRows w X A n c a b [.int .i64 kind, .int .i64 0, .string ByteArray.empty, .slice none 0 0])) (hide ⟨((((RowV.new w _ _).alloc _).alloc _).alloc _), ?h2, ?h3, ?h4, (((((Below.refl _ _).alloc (Nat.le_refl _) _).alloc (by simp) _).alloc (by simp; omega) _).alloc (by simp; omega) _)⟩) ?_
  case h2 =>
    have := ((RowV.new (w.alloc (.cells #[.slice A n c, .int .i64 (a : Int), .int .i64 b] 53)) 43 [.int .i64 0, .int .i64 0, .string ByteArray.empty, .slice none 0 0]).alloc (.cells #[.slice none 0 0, .int .i64 0, .int .i64 0] 53)).alloc (.cells #[.int .i64 kind, .int .i64 0, .string ByteArray.empty, .slice none 0 0] 43)
    rwa [World.size_alloc] at this
  case h3 =>
    have := (RowV.new ((w.alloc (.cells #[.slice A n c, .int .i64 (a : Int), .int .i64 b] 53)).alloc (.cells #[.int .i64 0, .int .i64 0, .string ByteArray.empty, .slice none 0 0] 43)) 53 [.slice none 0 0, .int .i64 0, .int .i64 0]).alloc (.cells #[.int .i64 kind, .int .i64 0, .string ByteArray.empty, .slice none 0 0] 43)
    rwa [World.size_alloc, World.size_alloc] at this
  case h4 =>
    have := RowV.new (((w.alloc (.cells #[.slice A n c, .int .i64 (a : Int), .int .i64 b] 53)).alloc (.cells #[.int .i64 0, .int .i64 0, .string ByteArray.empty, .slice none 0 0] 43)).alloc (.cells #[.slice none 0 0, .int .i64 0, .int .i64 0] 53)) 43 [.int .i64 kind, .int .i64 0, .string ByteArray.empty, .slice none 0 0]
    rwa [World.size_alloc, World.size_alloc, World.size_alloc] at this
  intro X RX
  have c0 := RX.out.1.cell (k := 0) rfl
  have c1 := RX.out.1.cell (k := 1) rfl
  have c2 := RX.out.1.cell (k := 2) rfl
  rw [show w.heap.size + 1 + 1 = w.heap.size + 2 from rfl, show w.heap.size + 2 + 1 = w.heap.size + 3 from rfl]
  go_cut [] (fun wx => ∃ (a' cL : Nat) (AL : Option Addr), a' ≤ n ∧ Hid (bs.drop a' = res.2.2) ∧ Hid (RdRows w wx A n c a' res.2.1 [.int .i64 res.1.kind, .int .i64 res.1.n, .string res.1.s, .slice AL res.1.l.length cL]) ∧ Hid (SlT wx 9 AL res.1.l.length (res.1.l.map Value.string)))
  case rest =>
    obtain ⟨a', cL, AL, ha', HD, RY, HSL⟩ := hcut
    clear c0 c1 c2 RX HRES
    obtain ⟨⟨k9, n9, s9, l9⟩, e9, r9⟩ := res
    have HR := hide RY.out.1; have HP := hide RY.out.2.1; have HZ := hide RY.out.2.2.1; have HXP := hide RY.out.2.2.2.1; have HBL := hide RY.out.2.2.2.2
    simp only at HR HP HZ HXP HBL HSL HD
    clear RY
    have c0 := HR.out.cell (k := 0) rfl
    have c1 := HR.out.cell (k := 1) rfl
    have c2 := HR.out.cell (k := 2) rfl
    have x0 := HXP.out.cell (k := 0) rfl
    have x1 := HXP.out.cell (k := 1) rfl
    have x2 := HXP.out.cell (k := 2) rfl
    have x3 := HXP.out.cell (k := 3) rfl
    have p0 := HP.out.cell (k := 0) rfl
    have p1 := HP.out.cell (k := 1) rfl
    have p2 := HP.out.cell (k := 2) rfl
    have p3 := HP.out.cell (k := 3) rfl
    have z0 := HZ.out.cell (k := 0) rfl
    have z1 := HZ.out.cell (k := 1) rfl
    have z2 := HZ.out.cell (k := 2) rfl
    have f0 := HZ.out.free 0
    have f1 := HZ.out.free 1
    have f2 := HZ.out.free 2
    have q0 := HP.out.free 0
    have q1 := HP.out.free 1
    have q2 := HP.out.free 2
    have q3 := HP.out.free 3
    go_upto_region 27 with (fail)
    go_region
    all_goals go_wp2_with fail
    all_goals
      have HF1 := hide ((((HP.out.set 0 (.int .i64 k9)).set 1 (.int .i64 n9)).set 2 (.string s9)).set 3 (.slice AL l9.length cL))
      have HT1 := hide ((((HSL.out.set HP.out (by decide) (k := 0) (v := .int .i64 k9)).set (HP.out.set 0 (.int .i64 k9)) (by decide) (k := 1) (v := .int .i64 n9)).set ((HP.out.set 0 (.int .i64 k9)).set 1 (.int .i64 n9)) (by decide) (k := 2) (v := .string s9)).set (((HP.out.set 0 (.int .i64 k9)).set 1 (.int .i64 n9)).set 2 (.string s9)) (by decide) (k := 3) (v := .slice AL l9.length cL))
      have HZ1 : Hid (RowV ((((wc.setCell ⟨w.heap.size + 1, 0, none⟩ (.int .i64 k9)).setCell ⟨w.heap.size + 1, 1, none⟩ (.int .i64 n9)).setCell ⟨w.heap.size + 1, 2, none⟩ (.string s9)).setCell ⟨w.heap.size + 1, 3, none⟩ (.slice AL l9.length cL)) (w.heap.size + 2) 53 [.slice none 0 0, .int .i64 0, .int .i64 0]) := hide ((((HZ.out.set_other (by omega)).set_other (by omega)).set_other (by omega)).set_other (by omega))
      have HF2 := hide (((HZ1.out.set 0 (.slice A n c)).set 1 (.int .i64 (a' : Int))).set 2 (.int .i64 e9)).drew
      have HT2 := hide (((HT1.out.set HZ1.out (by decide) (k := 0) (v := .slice A n c)).set (HZ1.out.set 0 (.slice A n c)) (by decide) (k := 1) (v := .int .i64 (a' : Int))).set ((HZ1.out.set 0 (.slice A n c)).set 1 (.int .i64 (a' : Int))) (by decide) (k := 2) (v := .int .i64 e9)).drew
      have HF3 := hide (((HF1.out.set_other (b := w.heap.size + 2) (k := 0) (v := .slice A n c) (by omega)).set_other (b := w.heap.size + 2) (k := 1) (v := .int .i64 (a' : Int)) (by omega)).set_other (b := w.heap.size + 2) (k := 2) (v := .int .i64 e9) (by omega)).drew
      refine bodyPost_ret (results_row_row rfl _ _ (w.heap.size + 1) (w.heap.size + 2) 43 53 _ _ (0, 0) (0, 0) _ _ rfl HF3.out rfl HF2.out Try.underlying43 rfl (by kernel_rfl) Try.underlying53 rfl (by kernel_rfl)) rfl ?_
      refine ⟨a', cL, AL, ha', HD.out, rfl, HT2.out, ?_⟩
      exact (((((((HBL.out.setCell (by simp) _).setCell (by simp) _).setCell (by simp) _).setCell (by simp) _).setCell (by simp) _).setCell (by simp) _).setCell (by simp) _).drew
  case first =>
    have HRB := hide RX.out.2.2.2.2
    by_cases h0 : kind = 0
    · subst h0
      have hnum := dnum_any A n c a b 18446744073709551615 bs X (HB.out.up HRB.out) ha (by omega) (by omega)
      rw [show ((18446744073709551615 : Nat) : Int) = 18446744073709551615 from rfl] at hnum
      have hle := Rd.numB_le b 18446744073709551615 (bs.drop a)
      have hres := HRES.out
      rw [Rd.read_0] at hres
      obtain ⟨r, hr⟩ : ∃ r, r = Rd.numB b 18446744073709551615 (bs.drop a) := ⟨_, rfl⟩
      rw [← hr] at hnum hle hres
      clear hr HRES
      obtain ⟨num, e, rs⟩ := r
      simp only at hnum hle hres
      have HNUM := hide hnum; have HE := hide hres; clear hnum hres
      go_wp2_with fail
      refine HNUM.out.mono ?_
      rintro e' w1 ⟨a1, ha1, hd1, rfl, hb1⟩
      have R1 := hide (RX.out.up hb1); have HD := hide hd1
      clear RX hb1 hd1 HNUM c0 c1 c2 HRB
      have d0 := R1.out.1.cell (k := 0) rfl
      have d1 := R1.out.1.cell (k := 1) rfl
      have d2 := R1.out.1.cell (k := 2) rfl
      have f0 := R1.out.1.free 0
      have f1 := R1.out.1.free 1
      have f2 := R1.out.1.free 2
      have x1 := R1.out.2.2.2.1.cell (k := 1) rfl
      have x2 := R1.out.2.2.2.1.cell (k := 2) rfl
      have x3 := R1.out.2.2.2.1.cell (k := 3) rfl
      have y1 := R1.out.2.2.2.1.free 1
      have y2 := R1.out.2.2.2.1.free 2
      have y3 := R1.out.2.2.2.1.free 3
      unfold RdVal
      have nle : (num : Int) ≤ 18446744073709551615 := by omega
      obtain ⟨u1, u2⟩ := unzig_val num hle
      have HU1 := hide u1; have HU2 := hide u2
      clear u1 u2 hle
      by_cases hodd : num % 2 = 1
      · have ho : ((num : Int) % 2 == 1) = true := by rw [beq_iff_eq]; omega
        have HV := hide (HU1.out hodd)
        clear hodd
        go_wp2_with fail
        go_meet
        case rel => exact ⟨a1, 0, none, ha1, hide (by rw [HE.out]; exact HD.out), hide (by rw [HE.out]; exact (by rw [HV.out]; exact (R1.out.setR a1 e).setP 1 _)), hide (by rw [HE.out]; exact SlT.nil_)⟩
      · have ho : ((num : Int) % 2 == 1) = false := by rw [beq_eq_false_iff_ne]; omega
        have HV := hide (HU2.out hodd)
        clear hodd
        go_wp2_with fail
        go_meet
        case rel => exact ⟨a1, 0, none, ha1, hide (by rw [HE.out]; exact HD.out), hide (by rw [HE.out]; exact (by rw [HV.out]; exact (R1.out.setR a1 e).setP 1 _)), hide (by rw [HE.out]; exact SlT.nil_)⟩
    have b0 : (kind == 0) = false := by simpa using h0
    by_cases h1 : kind = 1
    · subst h1
      clear h0 b0
      have hnum := dword_any A n c a b bs X (HB.out.up HRB.out) hA hnc ha hn hcc
      have hres := HRES.out
      rw [Rd.read_1] at hres
      obtain ⟨r, hr⟩ : ∃ r, r = Rd.wordB b (bs.drop a) := ⟨_, rfl⟩
      rw [← hr] at hnum hres
      clear hr HRES
      obtain ⟨sx, e, rs⟩ := r
      simp only at hnum hres
      have HNUM := hide hnum; have HE := hide hres; clear hnum hres
      go_wp2_with fail
      refine HNUM.out.mono ?_
      rintro e' w1 ⟨a1, ha1, hd1, rfl, hb1⟩
      have R1 := hide (RX.out.up hb1); have HD := hide hd1
      clear RX hb1 hd1 HNUM c0 c1 c2 HRB
      have d0 := R1.out.1.cell (k := 0) rfl
      have d1 := R1.out.1.cell (k := 1) rfl
      have d2 := R1.out.1.cell (k := 2) rfl
      have f0 := R1.out.1.free 0
      have f1 := R1.out.1.free 1
      have f2 := R1.out.1.free 2
      have x1 := R1.out.2.2.2.1.cell (k := 1) rfl
      have x2 := R1.out.2.2.2.1.cell (k := 2) rfl
      have x3 := R1.out.2.2.2.1.cell (k := 3) rfl
      have y1 := R1.out.2.2.2.1.free 1
      have y2 := R1.out.2.2.2.1.free 2
      have y3 := R1.out.2.2.2.1.free 3
      unfold RdVal
      go_wp2_with fail
      go_meet
      case rel => exact ⟨a1, 0, none, ha1, hide (by rw [HE.out]; exact HD.out), hide (by rw [HE.out]; exact (R1.out.setP 2 (.string (strB sx))).setR a1 e), hide (by rw [HE.out]; exact SlT.nil_)⟩
    have b1 : (kind == 1) = false := by simpa using h1
    by_cases h2 : kind = 2
    · subst h2
      clear h0 b0 h1 b1
      have hnum := dnum_any A n c a b 1 bs X (HB.out.up HRB.out) ha (by omega) (by omega)
      have hle := Rd.numB_le b 1 (bs.drop a)
      have hres := HRES.out
      rw [Rd.read_2] at hres
      obtain ⟨r, hr⟩ : ∃ r, r = Rd.numB b 1 (bs.drop a) := ⟨_, rfl⟩
      rw [← hr] at hnum hle hres
      clear hr HRES
      obtain ⟨num, e, rs⟩ := r
      simp only at hnum hle hres
      have HNUM := hide hnum; have HE := hide hres; clear hnum hres
      go_wp2_with fail
      refine HNUM.out.mono ?_
      rintro e' w1 ⟨a1, ha1, hd1, rfl, hb1⟩
      have R1 := hide (RX.out.up hb1); have HD := hide hd1
      clear RX hb1 hd1 HNUM c0 c1 c2 HRB
      have d0 := R1.out.1.cell (k := 0) rfl
      have d1 := R1.out.1.cell (k := 1) rfl
      have d2 := R1.out.1.cell (k := 2) rfl
      have f0 := R1.out.1.free 0
      have f1 := R1.out.1.free 1
      have f2 := R1.out.1.free 2
      have x1 := R1.out.2.2.2.1.cell (k := 1) rfl
      have x2 := R1.out.2.2.2.1.cell (k := 2) rfl
      have x3 := R1.out.2.2.2.1.cell (k := 3) rfl
      have y1 := R1.out.2.2.2.1.free 1
      have y2 := R1.out.2.2.2.1.free 2
      have y3 := R1.out.2.2.2.1.free 3
      unfold RdVal
      have nle : (num : Int) ≤ 1 := by omega
      go_wp2_with fail
      go_meet
      case rel => exact ⟨a1, 0, none, ha1, hide (by rw [HE.out]; exact HD.out), hide (by rw [HE.out]; exact (R1.out.setR a1 e).setP 1 (.int .i64 (num : Int))), hide (by rw [HE.out]; exact SlT.nil_)⟩
    have b2 : (kind == 2) = false := by simpa using h2
    by_cases h3 : kind = 3
    · subst h3
      clear h0 b0 h1 b1 h2 b2
      have hnum := dnum_any A n c a b 4096 bs X (HB.out.up HRB.out) ha (by omega) (by omega)
      have hle := Rd.numB_le b 4096 (bs.drop a)
      have hres := HRES.out
      rw [Rd.read_3] at hres
      obtain ⟨r, hr⟩ : ∃ r, r = Rd.numB b 4096 (bs.drop a) := ⟨_, rfl⟩
      rw [← hr] at hnum hle hres
      clear hr HRES
      obtain ⟨num, e, rs⟩ := r
      simp only at hnum hle hres
      have HNUM := hide hnum; have HE := hide hres; clear hnum hres
      go_wp2_with fail
      refine HNUM.out.mono ?_
      rintro e' w1 ⟨a1, ha1, hd1, rfl, hb1⟩
      have R1 := hide (RX.out.up hb1); have HD := hide hd1
      clear RX hb1 hd1 HNUM c0 c1 c2 HRB
      have d0 := R1.out.1.cell (k := 0) rfl
      have d1 := R1.out.1.cell (k := 1) rfl
      have d2 := R1.out.1.cell (k := 2) rfl
      have f0 := R1.out.1.free 0
      have f1 := R1.out.1.free 1
      have f2 := R1.out.1.free 2
      have x1 := R1.out.2.2.2.1.cell (k := 1) rfl
      have x2 := R1.out.2.2.2.1.cell (k := 2) rfl
      have x3 := R1.out.2.2.2.1.cell (k := 3) rfl
      have y1 := R1.out.2.2.2.1.free 1
      have y2 := R1.out.2.2.2.1.free 2
      have y3 := R1.out.2.2.2.1.free 3
      unfold RdVal
      have nle : (num : Int) ≤ 4096 := by omega
      go_wp2_with fail
      go_meet
      case rel => exact ⟨a1, 0, none, ha1, hide (by rw [HE.out]; exact HD.out), hide (by rw [HE.out]; exact (R1.out.setR a1 e).setP 1 (.int .i64 (num : Int))), hide (by rw [HE.out]; exact SlT.nil_)⟩
    have b3 : (kind == 3) = false := by simpa using h3
    by_cases h4 : kind = 4
    · subst h4
      clear h0 b0 h1 b1 h2 b2 h3 b3
      have hnum := dnum_any A n c a b 4096 bs X (HB.out.up HRB.out) ha (by omega) (by omega)
      have hle := Rd.numB_le b 4096 (bs.drop a)
      have her := Rd.numB_err b 4096 (bs.drop a)
      have hres := HRES.out
      rw [Rd.read_4] at hres
      obtain ⟨fin, hfin⟩ : ∃ fin, fin = Rd.textsB b (bs.drop a) := ⟨_, rfl⟩
      rw [← hfin] at hres
      unfold Rd.textsB at hfin
      obtain ⟨r, hr⟩ : ∃ r, r = Rd.numB b 4096 (bs.drop a) := ⟨_, rfl⟩
      rw [← hr] at hnum hle her hfin
      clear hr HRES
      obtain ⟨num, e, rs⟩ := r
      simp only at hnum hle her hfin
      have HNUM := hide hnum; have HE := hide hres; clear hnum hres
      have HI : Hid ((e = 0 ∧ fin = Rd.comb [] (Rd.wordsB num rs)) ∨ (e ≠ 0 ∧ num = 0 ∧ fin = ([], e, rs))) := hide (by
        by_cases he : e = 0
        · rw [if_neg (by omega)] at hfin
          exact .inl ⟨he, by rw [Rd.comb_nil _ (Rd.wordsB_err num rs)]; exact hfin⟩
        · rw [if_pos he] at hfin
          exact .inr ⟨he, her he, hfin⟩)
      clear hfin her
      go_wp2_with fail
      refine HNUM.out.mono ?_
      rintro e' w1 ⟨a1, ha1, hd1, rfl, hb1⟩
      have R1 := hide (RX.out.up hb1); have HD := hide hd1
      clear RX hb1 hd1 HNUM c0 c1 c2 HRB
      have d0 := R1.out.1.cell (k := 0) rfl
      have d1 := R1.out.1.cell (k := 1) rfl
      have d2 := R1.out.1.cell (k := 2) rfl
      have f0 := R1.out.1.free 0
      have f1 := R1.out.1.free 1
      have f2 := R1.out.1.free 2
      have x1 := R1.out.2.2.2.1.cell (k := 1) rfl
      have x2 := R1.out.2.2.2.1.cell (k := 2) rfl
      have x3 := R1.out.2.2.2.1.cell (k := 3) rfl
      have y1 := R1.out.2.2.2.1.free 1
      have y2 := R1.out.2.2.2.1.free 2
      have y3 := R1.out.2.2.2.1.free 3
      unfold RdVal
      have nle : (num : Int) ≤ 4096 := by omega
      have HRR := hide (R1.out.setR a1 e)
      go_upto_block 1 with (fail)
      refine wp_world (fun Y => Hid (RdRows w Y A n c a1 e [.int .i64 4, .int .i64 0, .string ByteArray.empty, .slice none 0 0])) HRR ?_
      clear d0 d1 d2 f0 f1 f2 x1 x2 x3 y1 y2 y3 R1 HRR
      intro Y RY
      go_cut [] (fun wx => ∃ (a' q cL : Nat) (AL : Option Addr) (acc : List ByteArray) (b1 : Int), a' ≤ n ∧ Hid (acc.length = q) ∧ Hid (bs.drop a' = fin.2.2) ∧ b1 = fin.2.1 ∧ Hid (b1 = 0 → acc = fin.1) ∧ Hid (b1 ≠ 0 → fin.1 = []) ∧ Hid (RdRows w wx A n c a' b1 [.int .i64 4, .int .i64 0, .string ByteArray.empty, .slice AL q cL]) ∧ Hid (Own wx w.heap.size 9 AL q cL (acc.map Value.string)))
      case first =>
        go_wp2_with fail
        go_loopw [8] (fun v8 wq => ∃ (i k a' q cL : Nat) (AL : Option Addr) (acc : List ByteArray) (b1 : Int), i + k = num ∧ q ≤ i ∧ a' ≤ n ∧ v8 = .int .i64 (i : Int) ∧ Hid (acc.length = q) ∧ Hid (RdRows w wq A n c a' b1 [.int .i64 4, .int .i64 0, .string ByteArray.empty, .slice AL q cL]) ∧ Hid (Own wq w.heap.size 9 AL q cL (acc.map Value.string)) ∧ Hid ((b1 = 0 ∧ fin = Rd.comb acc (Rd.wordsB k (bs.drop a'))) ∨ (b1 ≠ 0 ∧ fin = ([], b1, bs.drop a')))) (fun v _ => num - (intOf v).toNat)
        case atStart => exact ⟨0, num, a1, 0, 0, none, [], e, by omega, by omega, ha1, rfl, hide rfl, RY, hide Own.nil_, hide (by rw [HD.out]; rcases HI.out with h | ⟨h1, _, h2⟩; exact .inl h; exact .inr ⟨h1, h2⟩)⟩
        case round =>
          clear HI RY HD ha1
          obtain ⟨i, k, a', q, cL, AL, acc, b1, hik, hqi, ha', rfl, HQ, RY, HO, HI⟩ := hrel
          have c0 := RY.out.1.cell (k := 0) rfl
          have c1 := RY.out.1.cell (k := 1) rfl
          have c2 := RY.out.1.cell (k := 2) rfl
          have i0 : (0 : Int) ≤ (i : Int) := by omega
          rcases HI.out with ⟨h1, h2⟩ | ⟨h1, h2⟩
          · subst h1
            have HF := hide h2
            clear h2 HI
            by_cases hk : k = 0
            · subst hk
              have hii : ¬ ((i : Int) < (num : Int)) := by omega
              have HFE : Hid (fin = (acc, 0, bs.drop a')) := hide (by rw [HF.out, Rd.comb_end])
              clear HF
              go_wp2_with fail
              go_meet
              case rel => exact ⟨a', q, cL, AL, acc, 0, ha', HQ, hide (by rw [HFE.out]), by rw [HFE.out], hide (fun _ => by rw [HFE.out]), hide (fun h => absurd rfl h), RY, HO⟩
            · obtain ⟨k', rfl⟩ : ∃ k', k = k' + 1 := ⟨k - 1, by omega⟩
              have hii : (i : Int) < (num : Int) := by omega
              clear hk
              have hw := dword_any A n c a' 0 bs wr (HB.out.up RY.out.2.2.2.2) hA hnc ha' hn hcc
              have hcs := Rd.comb_step acc k' (bs.drop a')
              have hcf := Rd.comb_fail acc k' (bs.drop a')
              rw [← HF.out] at hcs hcf
              obtain ⟨x, hx⟩ : ∃ x, x = Rd.wordB 0 (bs.drop a') := ⟨_, rfl⟩
              rw [← hx] at hw hcs hcf
              clear hx
              obtain ⟨sx, e2, r2⟩ := x
              simp only at hcs hcf hw
              have HW := hide hw; have HCS := hide hcs; have HCF := hide hcf
              clear hw hcs hcf HF
              go_wp2_with fail
              refine HW.out.mono ?_
              rintro e' w3 ⟨a3, ha3, hd3, rfl, hb3⟩
              have R3 := hide (RY.out.up hb3); have HD3 := hide hd3; have O3 := hide (HO.out.below hb3)
              clear RY HO hb3 hd3 HW c0 c1 c2
              have d0 := R3.out.1.cell (k := 0) rfl
              have d1 := R3.out.1.cell (k := 1) rfl
              have d2 := R3.out.1.cell (k := 2) rfl
              have f0 := R3.out.1.free 0
              have f1 := R3.out.1.free 1
              have f2 := R3.out.1.free 2
              unfold RdVal
              have HRR := hide (R3.out.setR a3 e2)
              have HO3 : Hid (Own (((w3.setCell ⟨w.heap.size, 0, none⟩ (.slice A n c)).setCell ⟨w.heap.size, 1, none⟩ (.int .i64 (a3 : Int))).setCell ⟨w.heap.size, 2, none⟩ (.int .i64 e2)) w.heap.size 9 AL q cL (acc.map Value.string)) := hide (ownsRow_setCell_other (a := ⟨w.heap.size, 2, none⟩) (ownsRow_setCell_other (a := ⟨w.heap.size, 1, none⟩) (ownsRow_setCell_other O3.out (a := ⟨w.heap.size, 0, none⟩) (own_ne' O3.out R3.out.1 (by decide)) _) (own_ne' O3.out R3.out.1 (by decide)) _) (own_ne' O3.out R3.out.1 (by decide)) _)
              go_upto_region 24 with (fail)
              refine wp_world (fun Z => Hid (RdRows w Z A n c a3 e2 [.int .i64 4, .int .i64 0, .string ByteArray.empty, .slice AL q cL]) ∧ Hid (Own Z w.heap.size 9 AL q cL (acc.map Value.string))) ⟨HRR, HO3⟩ ?_
              clear d0 d1 d2 f0 f1 f2 R3 O3 HRR HO3
              rintro Z ⟨R3, O3⟩
              have x3 := R3.out.2.2.2.1.cell (k := 3) rfl
              have OA := hide (O3.out.alloc (.cells #[.string (strB sx)] 9))
              have RA := hide (R3.out.up ((Below.refl _ _).alloc (Nat.le_refl _) (.cells #[.string (strB sx)] 9)))
              have HSZ : Hid (w.heap.size ≤ (Z.alloc (.cells #[.string (strB sx)] 9)).heap.size) := hide RA.out.2.2.2.2.size
              go_wp2_with (at_builtin; go_must (with_reducible refine wpList_app rfl (.tmp 85) (.tmp 87) 41 rfl (.string ByteArray.empty) 16 Try.underlying41 info_string (cells_string _) rfl OA.out rfl Sl.one (one_string _) (by unfold maxLen; omega) (by omega) HSZ.out ?_))
              intro A4 c4 w4 ho hgr hor
              have R4 := hide (RA.out.app OA.out hgr)
              have O4 := hide ho
              have y3 := R4.out.2.2.2.1.cell (k := 3) rfl
              have g3 := R4.out.2.2.2.1.free 3
              have R5 := hide (R4.out.setP 3 (.slice A4 (q + 1) c4))
              have O5 := hide (ownsRow_setCell_other O4.out (a := ⟨w.heap.size + 3, 3, none⟩) (own_ne' O4.out R4.out.2.2.2.1 (by decide)) (.slice A4 (q + 1) c4))
              clear ho hgr hor R3 O3 OA RA R4 O4 x3
              go_wp2_with fail
              go_roundw
              case rel =>
                refine ⟨i + 1, k', a3, q + 1, c4, A4, acc ++ [strB sx], e2, by omega, by omega, ha3, by go_num, hide (by rw [List.length_append, HQ.out]; rfl), R5, hide (by rw [List.map_append]; exact O5.out), hide ?_⟩
                rw [HD3.out]
                by_cases he2 : e2 = 0
                · exact .inl ⟨he2, HCS.out he2⟩
                · exact .inr ⟨he2, HCF.out he2⟩
              case measure => simp [intOf]; omega
          · have HFE := hide h2
            have hbc : (b1 == 0) = false := by simpa using h1
            have HB1 := hide h1
            clear h1 h2 HI
            by_cases hk : k = 0
            · have hii : ¬ ((i : Int) < (num : Int)) := by omega
              clear hk
              go_wp2_with fail
              go_meet
              case rel => exact ⟨a', q, cL, AL, acc, b1, ha', HQ, hide (by rw [HFE.out]), by rw [HFE.out], hide (fun h => absurd h HB1.out), hide (fun _ => by rw [HFE.out]), RY, HO⟩
            · have hii : (i : Int) < (num : Int) := by omega
              clear hk
              go_wp2_with fail
              go_meet
              case rel => exact ⟨a', q, cL, AL, acc, b1, ha', HQ, hide (by rw [HFE.out]), by rw [HFE.out], hide (fun h => absurd h HB1.out), hide (fun _ => by rw [HFE.out]), RY, HO⟩
      case rest =>
        obtain ⟨a', q, cL, AL, acc, b1, ha', HQ, HDD, hb1, HA0, HA1, RZ, HO⟩ := hcut
        have HBE := hide hb1
        clear hb1 HI HD RY
        have c2 := RZ.out.1.cell (k := 2) rfl
        have x3 := RZ.out.2.2.2.1.cell (k := 3) rfl
        have y3 := RZ.out.2.2.2.1.free 3
        by_cases h0 : b1 = 0
        · have hbb : (b1 != 0) = false := by simp [h0]
          have HAC := hide (HA0.out h0)
          clear h0
          go_wp2_with fail
          go_meet
          case rel => exact ⟨a', cL, AL, ha', hide (by rw [HE.out]; exact HDD.out), hide (by rw [HE.out, ← HAC.out, HQ.out, ← HBE.out]; exact RZ.out), hide (by rw [HE.out, ← HAC.out, HQ.out]; exact SlT.of_own HO.out)⟩
        · have hbb : (b1 != 0) = true := by simpa using h0
          have HAC := hide (HA1.out h0)
          clear h0
          go_wp2_with fail
          go_meet
          case rel => exact ⟨a', 0, none, ha', hide (by rw [HE.out]; exact HDD.out), hide (by rw [HE.out, HAC.out, ← HBE.out]; exact RZ.out.setP 3 (.slice none 0 0)), hide (by rw [HE.out, HAC.out]; exact SlT.nil_)⟩
    have b4 : (kind == 4) = false := by simpa using h4
    have hres := HRES.out
    rw [Rd.read_5 kind b _ h0 h1 h2 h3 h4] at hres
    have HE := hide hres
    clear hres HRES h0 h1 h2 h3 h4
    go_wp2_with fail
    go_meet
    case rel => exact ⟨a, 0, none, ha, hide (by rw [HE.out]), hide (by rw [HE.out]; exact RX.out), hide (by rw [HE.out]; exact SlT.nil_)⟩
end Go.Proofs.Ytnlfnjadadfhkaa
