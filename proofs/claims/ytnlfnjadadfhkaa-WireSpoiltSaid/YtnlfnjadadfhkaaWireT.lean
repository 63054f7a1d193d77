/-
  The walks of the law's read, of a reader and of none; of the document's Same.
-/
import Derived.Test.YtnlfnjadadfhkaaWireS
namespace Go.Proofs.Ytnlfnjadadfhkaa
open Go.RowKit
set_option linter.unusedVariables false

theorem RSt.set_other {w : World} {G G' T T' k : Nat} {rest : List UInt8} {bad : Int} {v : Value} {ys : List Value} (h : RSt w G T rest bad) (hR : RowV w G' T' ys) (hne : G ≠ G') (hT : T' ≠ 5) : RSt (w.setCell ⟨G', k, none⟩ v) G T rest bad := by
  obtain ⟨A, c, h1, h2, h3, h4⟩ := h
  exact ⟨A, c, h1.set_other hne, h2, h3.set hR hT, h4⟩
theorem RowV.only {w w' : World} {g t G : Nat} {xs : List Value} (h : RowV w g t xs) (hg : w.grownBy w' (some G)) (hne : g ≠ G) : RowV w' g t xs := (hg.block g h.lt (by intro e; injection e with e; exact hne e)).trans h
theorem only_alloc {w X : World} {G : Nat} (h : w.grownBy X (some G)) (o : Obj) : w.grownBy (X.alloc o) (some G) := h.trans (World.grownBy_alloc X o (some G))
theorem only_new {w X : World} {G g k : Nat} {v : Value} (h : w.grownBy X (some G)) (hg : w.heap.size ≤ g) : w.grownBy (X.setCell ⟨g, k, none⟩ v) (some G) :=
  h.andThen (row' := some g) (only_set (only_refl X g)) (fun j hj => by injection hj with hj; subst hj; exact .inl hg)
/-- the rows of the law's read -/
def LRows (w X : World) (G : Nat) (rest : List UInt8) (b : Int) (xs : List Value) : Prop :=
  RowV X w.heap.size 43 [.int .i64 0, .int .i64 0, .string ByteArray.empty, .slice none 0 0] ∧ RowV X (w.heap.size + 1) 43 xs ∧ RSt X G 71 rest b ∧ w.grownBy X (some G) ∧ G < w.heap.size
theorem LRows.call {w X Y : World} {G : Nat} {rest rest' : List UInt8} {b b' : Int} {xs : List Value} (h : LRows w X G rest b xs) (hs : RSt Y G 71 rest' b') (hg : X.grownBy Y (some G)) : LRows w Y G rest' b' xs := by
  obtain ⟨h1, h2, h3, h4, h5⟩ := h
  exact ⟨h1.only hg (by omega), h2.only hg (by omega), hs, h4.trans hg, h5⟩
theorem LRows.set {w X : World} {G : Nat} {rest : List UInt8} {b : Int} {xs : List Value} (h : LRows w X G rest b xs) (k : Nat) (v : Value) : LRows w (X.setCell ⟨w.heap.size + 1, k, none⟩ v) G rest b (xs.set k v) := by
  obtain ⟨h1, h2, h3, h4, h5⟩ := h
  exact ⟨h1.set_other (by omega), h2.set k v, h3.set_other h2 (by omega) (by decide), only_new h4 (by omega), h5⟩
/-- what read hands back -/
def LPost (G : Nat) (res : Put × Int × List UInt8) (w : World) (e : Ending) (w' : World) : Prop :=
  ∃ (cL : Nat) (AL : Option Addr), e = .returned (res.1.val AL cL) ∧ SlT w' 9 AL res.1.l.length (res.1.l.map Value.string) ∧ RSt w' G 71 res.2.2 res.2.1 ∧ w.grownBy w' (some G)
set_option maxHeartbeats 16000000 in
set_option maxRecDepth 100000 in
theorem lread_any (G : Nat) (kind : Int) (rest : List UInt8) (b : Int) (w : World) (hS : RSt w G 71 rest b) (hlen : rest.length ≤ 9223372036854775807) :
    Calls Try.prog 21 #[.pointer (some ⟨G, 0, none⟩), .int .i64 kind] w (LPost G (Rd.read kind b rest) w) := by
  have HS := hide hS; clear hS
  obtain ⟨res, hres⟩ : ∃ res, res = Rd.read kind b rest := ⟨_, rfl⟩
  rw [← hres]
  have HRES := hide hres; clear hres
  go_enter Try.func21, Try.ntmps21
  go_upto_block 0 with (fail)
  refine wp_world (fun X => Hid (LRows w X G rest b [.int .i64 kind, .int .i64 0, .string ByteArray.empty, .slice none 0 0])) (hide ⟨(RowV.new w _ _).alloc _, ?h2, ?h3, only_alloc (only_alloc (only_refl w G) _) _, HS.out.lt⟩) ?_
  case h2 =>
    have := RowV.new (w.alloc (.cells #[.int .i64 0, .int .i64 0, .string ByteArray.empty, .slice none 0 0] 43)) 43 [.int .i64 kind, .int .i64 0, .string ByteArray.empty, .slice none 0 0]
    rwa [World.size_alloc] at this
  case h3 => exact HS.out.below (((Below.refl _ _).alloc (Nat.le_refl _) _).alloc (by simp) _)
  intro X RX
  clear HS
  go_cut [] (fun wx => ∃ (cL : Nat) (AL : Option Addr), Hid (LRows w wx G res.2.2 res.2.1 [.int .i64 res.1.kind, .int .i64 res.1.n, .string res.1.s, .slice AL res.1.l.length cL]) ∧ Hid (SlT wx 9 AL res.1.l.length (res.1.l.map Value.string)))
  case rest =>
    obtain ⟨cL, AL, RY, HT⟩ := hcut
    clear HRES RX
    obtain ⟨⟨k9, n9, s9, l9⟩, e9, r9⟩ := res
    have HP := hide RY.out.1; have HX := hide RY.out.2.1; have HS := hide RY.out.2.2.1; have HG := hide RY.out.2.2.2.1; have HGL := hide RY.out.2.2.2.2
    simp only at HP HX HS HG HT
    clear RY
    have x0 := HX.out.cell (k := 0) rfl
    have x1 := HX.out.cell (k := 1) rfl
    have x2 := HX.out.cell (k := 2) rfl
    have x3 := HX.out.cell (k := 3) rfl
    have p0 := HP.out.cell (k := 0) rfl
    have p1 := HP.out.cell (k := 1) rfl
    have p2 := HP.out.cell (k := 2) rfl
    have p3 := HP.out.cell (k := 3) rfl
    have q0 := HP.out.free 0
    have q1 := HP.out.free 1
    have q2 := HP.out.free 2
    have q3 := HP.out.free 3
    have HF1 := hide ((((HP.out.set 0 (.int .i64 k9)).set 1 (.int .i64 n9)).set 2 (.string s9)).set 3 (.slice AL l9.length cL))
    have HT1 := hide ((((HT.out.set HP.out (by decide) (k := 0) (v := .int .i64 k9)).set (HP.out.set 0 (.int .i64 k9)) (by decide) (k := 1) (v := .int .i64 n9)).set ((HP.out.set 0 (.int .i64 k9)).set 1 (.int .i64 n9)) (by decide) (k := 2) (v := .string s9)).set (((HP.out.set 0 (.int .i64 k9)).set 1 (.int .i64 n9)).set 2 (.string s9)) (by decide) (k := 3) (v := .slice AL l9.length cL))
    have hGne : G ≠ w.heap.size := by have := HGL.out; omega
    have HS1 := hide ((((HS.out.set_other HP.out hGne (by decide) (k := 0) (v := .int .i64 k9)).set_other (HP.out.set 0 (.int .i64 k9)) hGne (by decide) (k := 1) (v := .int .i64 n9)).set_other ((HP.out.set 0 (.int .i64 k9)).set 1 (.int .i64 n9)) hGne (by decide) (k := 2) (v := .string s9)).set_other (((HP.out.set 0 (.int .i64 k9)).set 1 (.int .i64 n9)).set 2 (.string s9)) hGne (by decide) (k := 3) (v := .slice AL l9.length cL))
    have HG1 := hide (only_new (k := 3) (v := .slice AL l9.length cL) (only_new (k := 2) (v := .string s9) (only_new (k := 1) (v := .int .i64 n9) (only_new (k := 0) (v := .int .i64 k9) HG.out (Nat.le_refl _)) (Nat.le_refl _)) (Nat.le_refl _)) (Nat.le_refl _))
    clear hGne
    go_wp2_with fail
    refine bodyPost_ret (results_cell_row rfl _ _ w.heap.size 43 _ (0, 0) _ rfl HF1.out Try.underlying43 rfl (by kernel_rfl)) rfl ?_
    exact ⟨cL, AL, rfl, HT1.out, HS1.out, HG1.out⟩
  case first =>
    -- KINDS
    by_cases h0 : kind = 0
    · subst h0
      have hnum := rint_any G rest b X RX.out.2.2.1 hlen
      have hle := Rd.numB_le b 18446744073709551615 rest
      have hres := HRES.out
      rw [Rd.read_0] at hres
      obtain ⟨r, hr⟩ : ∃ r, r = Rd.numB b 18446744073709551615 rest := ⟨_, rfl⟩
      rw [← hr] at hnum hle hres
      clear hr HRES
      obtain ⟨num, e, rs⟩ := r
      simp only at hnum hle hres
      have HNUM := hide hnum; have HE := hide hres; clear hnum hres
      go_wp2_with fail
      refine HNUM.out.mono ?_
      rintro e' w1 ⟨rfl, hs1, hg1⟩
      have R1 := hide (RX.out.call hs1 hg1)
      clear RX hs1 hg1 HNUM
      have x1 := R1.out.2.1.cell (k := 1) rfl
      have x2 := R1.out.2.1.cell (k := 2) rfl
      have x3 := R1.out.2.1.cell (k := 3) rfl
      have y1 := R1.out.2.1.free 1
      have y2 := R1.out.2.1.free 2
      have y3 := R1.out.2.1.free 3
      go_wp2_with fail
      go_meet
      case rel => exact ⟨0, none, hide (by rw [HE.out]; exact R1.out.set 1 (.int .i64 (Rd.unzig num))), hide (by rw [HE.out]; exact SlT.nil_)⟩
    have b0 : (kind == 0) = false := by simpa using h0
    by_cases h1 : kind = 1
    · subst h1
      clear h0 b0
      have hnum := rtextr_any G rest b X RX.out.2.2.1 hlen
      have hres := HRES.out
      rw [Rd.read_1] at hres
      obtain ⟨r, hr⟩ : ∃ r, r = Rd.wordB b rest := ⟨_, rfl⟩
      rw [← hr] at hnum hres
      clear hr HRES
      obtain ⟨sx, e, rs⟩ := r
      simp only at hnum hres
      have HNUM := hide hnum; have HE := hide hres; clear hnum hres
      go_wp2_with fail
      refine HNUM.out.mono ?_
      rintro e' w1 ⟨rfl, hs1, hg1⟩
      have R1 := hide (RX.out.call hs1 hg1)
      clear RX hs1 hg1 HNUM
      have x1 := R1.out.2.1.cell (k := 1) rfl
      have x2 := R1.out.2.1.cell (k := 2) rfl
      have x3 := R1.out.2.1.cell (k := 3) rfl
      have y1 := R1.out.2.1.free 1
      have y2 := R1.out.2.1.free 2
      have y3 := R1.out.2.1.free 3
      go_wp2_with fail
      go_meet
      case rel => exact ⟨0, none, hide (by rw [HE.out]; exact R1.out.set 2 (.string (strB sx))), hide (by rw [HE.out]; exact SlT.nil_)⟩
    have b1 : (kind == 1) = false := by simpa using h1
    by_cases h2 : kind = 2
    · subst h2
      clear h0 b0 h1 b1
      have hnum := rbool_any G rest b X RX.out.2.2.1 hlen
      have hle := Rd.numB_le b 1 rest
      have hres := HRES.out
      rw [Rd.read_2] at hres
      obtain ⟨r, hr⟩ : ∃ r, r = Rd.numB b 1 rest := ⟨_, rfl⟩
      rw [← hr] at hnum hle hres
      clear hr HRES
      obtain ⟨num, e, rs⟩ := r
      simp only at hnum hle hres
      have HNUM := hide hnum; have HE := hide hres; clear hnum hres
      by_cases h1 : num = 1
      · subst h1
        rw [decide_eq_true rfl] at HNUM
        go_wp2_with fail
        refine HNUM.out.mono ?_
        rintro e' w1 ⟨rfl, hs1, hg1⟩
        have R1 := hide (RX.out.call hs1 hg1)
        clear RX hs1 hg1 HNUM
        have x1 := R1.out.2.1.cell (k := 1) rfl
        have x2 := R1.out.2.1.cell (k := 2) rfl
        have x3 := R1.out.2.1.cell (k := 3) rfl
        have y1 := R1.out.2.1.free 1
        have y2 := R1.out.2.1.free 2
        have y3 := R1.out.2.1.free 3
        go_wp2_with fail
        go_meet
        case rel => exact ⟨0, none, hide (by rw [HE.out]; exact R1.out.set 1 (.int .i64 1)), hide (by rw [HE.out]; exact SlT.nil_)⟩
      · have h0 : num = 0 := by omega
        subst h0
        rw [decide_eq_false (by omega)] at HNUM
        go_wp2_with fail
        refine HNUM.out.mono ?_
        rintro e' w1 ⟨rfl, hs1, hg1⟩
        have R1 := hide (RX.out.call hs1 hg1)
        clear RX hs1 hg1 HNUM
        have x1 := R1.out.2.1.cell (k := 1) rfl
        have x2 := R1.out.2.1.cell (k := 2) rfl
        have x3 := R1.out.2.1.cell (k := 3) rfl
        have y1 := R1.out.2.1.free 1
        have y2 := R1.out.2.1.free 2
        have y3 := R1.out.2.1.free 3
        go_wp2_with fail
        go_meet
        case rel => exact ⟨0, none, hide (by rw [HE.out]; exact R1.out), hide (by rw [HE.out]; exact SlT.nil_)⟩
    have b2 : (kind == 2) = false := by simpa using h2
    by_cases h3 : kind = 3
    · subst h3
      clear h0 b0 h1 b1 h2 b2
      have hnum := rcount_any G rest b X RX.out.2.2.1 hlen
      have hle := Rd.numB_le b 4096 rest
      have hres := HRES.out
      rw [Rd.read_3] at hres
      obtain ⟨r, hr⟩ : ∃ r, r = Rd.numB b 4096 rest := ⟨_, rfl⟩
      rw [← hr] at hnum hle hres
      clear hr HRES
      obtain ⟨num, e, rs⟩ := r
      simp only at hnum hle hres
      have HNUM := hide hnum; have HE := hide hres; clear hnum hres
      go_wp2_with fail
      refine HNUM.out.mono ?_
      rintro e' w1 ⟨rfl, hs1, hg1⟩
      have R1 := hide (RX.out.call hs1 hg1)
      clear RX hs1 hg1 HNUM
      have x1 := R1.out.2.1.cell (k := 1) rfl
      have x2 := R1.out.2.1.cell (k := 2) rfl
      have x3 := R1.out.2.1.cell (k := 3) rfl
      have y1 := R1.out.2.1.free 1
      have y2 := R1.out.2.1.free 2
      have y3 := R1.out.2.1.free 3
      go_wp2_with fail
      go_meet
      case rel => exact ⟨0, none, hide (by rw [HE.out]; exact R1.out.set 1 (.int .i64 (num : Int))), hide (by rw [HE.out]; exact SlT.nil_)⟩
    have b3 : (kind == 3) = false := by simpa using h3
    by_cases h4 : kind = 4
    · subst h4
      clear h0 b0 h1 b1 h2 b2 h3 b3
      have hnum := rtextsr_any G rest b X RX.out.2.2.1 hlen
      have hres := HRES.out
      rw [Rd.read_4] at hres
      obtain ⟨r, hr⟩ : ∃ r, r = Rd.textsB b rest := ⟨_, rfl⟩
      rw [← hr] at hnum hres
      clear hr HRES
      obtain ⟨l, e, rs⟩ := r
      simp only at hnum hres
      have HNUM := hide hnum; have HE := hide hres; clear hnum hres
      go_wp2_with fail
      refine HNUM.out.mono ?_
      rintro e' w1 ⟨AL, cL, rfl, ho1, hs1, hg1⟩
      have R1 := hide (RX.out.call hs1 hg1)
      have T1 := hide (SlT.of_own ho1)
      clear RX hs1 hg1 ho1 HNUM
      have x3 := R1.out.2.1.cell (k := 3) rfl
      have y3 := R1.out.2.1.free 3
      go_wp2_with fail
      go_meet
      case rel => exact ⟨cL, AL, hide (by rw [HE.out]; exact R1.out.set 3 (.slice AL l.length cL)), hide (by rw [HE.out]; exact T1.out.set R1.out.2.1 (by decide))⟩
    have b4 : (kind == 4) = false := by simpa using h4
    have hres := HRES.out
    rw [Rd.read_5 kind b _ h0 h1 h2 h3 h4] at hres
    have HE := hide hres
    clear hres HRES h0 h1 h2 h3 h4
    go_wp2_with fail
    go_meet
    case rel => exact ⟨0, none, hide (by rw [HE.out]; exact RX.out), hide (by rw [HE.out]; exact SlT.nil_)⟩
/-- .. of no reader -/
def Rd.zero (kind : Int) : Put := ⟨kind, 0, ByteArray.empty, []⟩
set_option maxHeartbeats 4000000 in
set_option maxRecDepth 100000 in
theorem lread_nil (kind : Int) (w : World) :
    Calls Try.prog 21 #[.pointer none, .int .i64 kind] w fun e w' => e = .returned ((Rd.zero kind).val none 0) ∧ Below w.heap.size w w' := by
  have HB : Hid (Below w.heap.size w ((w.alloc (.cells #[.int .i64 kind, .int .i64 0, .string ByteArray.empty, .slice none 0 0] 43)).alloc (.cells #[.int .i64 kind, .int .i64 0, .string ByteArray.empty, .slice none 0 0] 43))) := hide (((Below.refl _ _).alloc (Nat.le_refl _) _).alloc (by simp) _)
  have HR : Hid (RowV ((w.alloc (.cells #[.int .i64 kind, .int .i64 0, .string ByteArray.empty, .slice none 0 0] 43)).alloc (.cells #[.int .i64 kind, .int .i64 0, .string ByteArray.empty, .slice none 0 0] 43)) w.heap.size 43 [.int .i64 kind, .int .i64 0, .string ByteArray.empty, .slice none 0 0]) := hide ((RowV.new w _ _).alloc _)
  by_cases h0 : kind = 0
  · subst h0
    go_enter Try.func21, Try.ntmps21
    go_wp2_with fail
    refine (rint_nil _).mono ?_
    rintro e w1 ⟨rfl, rfl⟩
    go_wp2_with fail
    refine bodyPost_ret (results_cell_row rfl _ _ w.heap.size 43 _ (0, 0) _ rfl HR.out Try.underlying43 rfl (by kernel_rfl)) rfl ?_
    exact ⟨rfl, HB.out⟩
  have b0 : (kind == 0) = false := by simpa using h0
  by_cases h1 : kind = 1
  · subst h1
    clear h0 b0
    go_enter Try.func21, Try.ntmps21
    go_wp2_with fail
    refine (rtextr_nil _).mono ?_
    rintro e w1 ⟨rfl, rfl⟩
    go_wp2_with fail
    refine bodyPost_ret (results_cell_row rfl _ _ w.heap.size 43 _ (0, 0) _ rfl HR.out Try.underlying43 rfl (by kernel_rfl)) rfl ?_
    exact ⟨rfl, HB.out⟩
  have b1 : (kind == 1) = false := by simpa using h1
  by_cases h2 : kind = 2
  · subst h2
    clear h0 b0 h1 b1
    go_enter Try.func21, Try.ntmps21
    go_wp2_with fail
    refine (rbool_nil _).mono ?_
    rintro e w1 ⟨rfl, rfl⟩
    go_wp2_with fail
    refine bodyPost_ret (results_cell_row rfl _ _ w.heap.size 43 _ (0, 0) _ rfl HR.out Try.underlying43 rfl (by kernel_rfl)) rfl ?_
    exact ⟨rfl, HB.out⟩
  have b2 : (kind == 2) = false := by simpa using h2
  by_cases h3 : kind = 3
  · subst h3
    clear h0 b0 h1 b1 h2 b2
    go_enter Try.func21, Try.ntmps21
    go_wp2_with fail
    refine (rcount_nil _).mono ?_
    rintro e w1 ⟨rfl, rfl⟩
    go_wp2_with fail
    refine bodyPost_ret (results_cell_row rfl _ _ w.heap.size 43 _ (0, 0) _ rfl HR.out Try.underlying43 rfl (by kernel_rfl)) rfl ?_
    exact ⟨rfl, HB.out⟩
  have b3 : (kind == 3) = false := by simpa using h3
  by_cases h4 : kind = 4
  · subst h4
    clear h0 b0 h1 b1 h2 b2 h3 b3
    go_enter Try.func21, Try.ntmps21
    go_wp2_with fail
    refine (rtextsr_nil _).mono ?_
    rintro e w1 ⟨rfl, rfl⟩
    go_wp2_with fail
    refine bodyPost_ret (results_cell_row rfl _ _ w.heap.size 43 _ (0, 0) _ rfl HR.out Try.underlying43 rfl (by kernel_rfl)) rfl ?_
    exact ⟨rfl, HB.out⟩
  have b4 : (kind == 4) = false := by simpa using h4
  clear h0 h1 h2 h3 h4
  go_enter Try.func21, Try.ntmps21
  go_wp2_with fail
  refine bodyPost_ret (results_cell_row rfl _ _ w.heap.size 43 _ (0, 0) _ rfl HR.out Try.underlying43 rfl (by kernel_rfl)) rfl ?_
  exact ⟨rfl, HB.out⟩
set_option maxHeartbeats 4000000 in
set_option maxRecDepth 100000 in
/-- the same, wherever the texts lie -/
theorem psame_any (p : Put) (A B : Option Addr) (c d : Nat) (w : World) (ha : Sl w w.heap.size A p.l.length (p.l.map Value.string)) (hb : Sl w w.heap.size B p.l.length (p.l.map Value.string)) (hl : p.l.length ≤ 9223372036854775807) :
    Calls Try.prog 20 #[p.val A c, p.val B d] w fun e w' => e = .returned (.bool true) ∧ Below w.heap.size w w' := by
  obtain ⟨kind, n, s, l⟩ := p
  simp only at ha hb hl
  have HA := hide ha; have HB := hide hb
  clear ha hb
  obtain ⟨m, hm⟩ : ∃ m, m = l.length := ⟨_, rfl⟩
  have HM := hide hm
  unfold Put.val
  simp only
  rw [← hm] at HA HB hl ⊢
  clear hm
  have e0 : ((kind : Int) != kind) = false := by simp
  have e1 : ((n : Int) != n) = false := by simp
  have e2 : (s.toList != s.toList) = false := by simp
  have e3 : ((m : Int) != (m : Int)) = false := by simp
  have HR : Hid (RowV ((w.alloc (.cells #[.int .i64 kind, .int .i64 n, .string s, .slice A m c] 43)).alloc (.cells #[.int .i64 kind, .int .i64 n, .string s, .slice B m d] 43)) w.heap.size 43 [.int .i64 kind, .int .i64 n, .string s, .slice A m c]) := hide ((RowV.new w _ _).alloc _)
  have HZ : Hid (RowV ((w.alloc (.cells #[.int .i64 kind, .int .i64 n, .string s, .slice A m c] 43)).alloc (.cells #[.int .i64 kind, .int .i64 n, .string s, .slice B m d] 43)) (w.heap.size + 1) 43 [.int .i64 kind, .int .i64 n, .string s, .slice B m d]) := hide (by have := RowV.new (w.alloc (.cells #[.int .i64 kind, .int .i64 n, .string s, .slice A m c] 43)) 43 [.int .i64 kind, .int .i64 n, .string s, .slice B m d]; rwa [World.size_alloc] at this)
  have HW : Hid (Below w.heap.size w ((w.alloc (.cells #[.int .i64 kind, .int .i64 n, .string s, .slice A m c] 43)).alloc (.cells #[.int .i64 kind, .int .i64 n, .string s, .slice B m d] 43))) := hide (((Below.refl _ _).alloc (Nat.le_refl _) _).alloc (by simp) _)
  go_enter Try.func20, Try.ntmps20
  go_wp2_with fail
  go_loopw [5] (fun v5 wq => ∃ i : Nat, i ≤ m ∧ v5 = .int .i64 i ∧ Hid (RowV wq w.heap.size 43 [.int .i64 kind, .int .i64 n, .string s, .slice A m c]) ∧ Hid (RowV wq (w.heap.size + 1) 43 [.int .i64 kind, .int .i64 n, .string s, .slice B m d]) ∧ Hid (Below w.heap.size w wq)) (fun v _ => m - (intOf v).toNat)
  case atStart => exact ⟨0, by omega, rfl, HR, HZ, HW⟩
  case round =>
    clear HR HZ HW e0 e1 e2 e3
    obtain ⟨i, hi, rfl, HR, HZ, HW⟩ := hrel
    have q3 : ∀ p : Ext wr, (extW wr p).cell? ⟨w.heap.size, 3, none⟩ = some (.slice A m c) := fun p => (HR.out.below' (extW_below wr p)).cell (k := 3) rfl
    have t3 : ∀ p : Ext wr, (extW wr p).cell? ⟨w.heap.size + 1, 3, none⟩ = some (.slice B m d) := fun p => (HZ.out.below' (extW_below wr p)).cell (k := 3) rfl
    have x3 := HR.out.cell (k := 3) rfl
    by_cases hlt : i < m
    · obtain ⟨s1, hs1⟩ : ∃ s1, l[i]? = some s1 := ⟨l[i]'(by rw [← HM.out]; exact hlt), List.getElem?_eq_getElem _⟩
      obtain ⟨ba, oa, ua, rfl, hba, hua, ca⟩ := HA.out.at_ hlt
      obtain ⟨bb, ob, ub, rfl, hbb, hub, cb⟩ := HB.out.at_ hlt
      rw [List.getElem?_map, hs1] at hua hub
      injection hua with hua; injection hub with hub
      subst hua; subst hub
      have ca' : ∀ p : Ext wr, (extW wr p).cell? ⟨ba, oa + i, none⟩ = some (.string s1) := fun p => (((HW.out.trans ((extW_below wr p).mono HW.out.size)).cell (p := ⟨ba, oa + i, none⟩) hba)).trans ca
      have cb' : ∀ p : Ext wr, (extW wr p).cell? ⟨bb, ob + i, none⟩ = some (.string s1) := fun p => (((HW.out.trans ((extW_below wr p).mono HW.out.size)).cell (p := ⟨bb, ob + i, none⟩) hbb)).trans cb
      have b1 : (0 : Int) ≤ (i : Int) := by omega
      have b2 : (i : Int) < (m : Int) := by omega
      have e2 : (s1.toList != s1.toList) = false := by simp
      clear hs1 ca cb
      go_wp2_with fail
      refine wp_region_ext (by kernel_rfl) (by kernel_rfl) ?_
      repeat (go_big_quiet_step (fail))
      refine wpQuiet_nil ?_
      intro _ hw'
      obtain ⟨p, hw''⟩ := hw'
      subst hw''
      have R2 := hide (HR.out.below' (extW_below wr p)); have Z2 := hide (HZ.out.below' (extW_below wr p)); have W2 := hide (HW.out.trans ((extW_below wr p).mono HW.out.size))
      generalize extW wr p = Y at R2 Z2 W2 ⊢
      clear q3 t3 ca' cb'
      go_wp2_with fail
      go_roundw
      case rel => exact ⟨i + 1, by omega, by go_num, R2, Z2, W2⟩
      case measure => simp [intOf]; omega
    · have hge : ¬ ((i : Int) < (m : Int)) := by omega
      clear q3 t3
      go_wp2_with fail
      go_ret
      exact ⟨rfl, HW.out⟩
end Go.Proofs.Ytnlfnjadadfhkaa
