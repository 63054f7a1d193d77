/-
  Lease: Note.
-/
import Derived.Test.YtigeccflfdekiaaLeaseB
import Derived.Deep.CutBlock
namespace Go.Proofs.Ytigeccflfdekiaa
open Go.RowKit Go.Maps
set_option linter.unusedVariables false

/-- what is noted -/
def setN (N : ByteArray → Int → Option Int) (s : ByteArray) (e now : Int) : ByteArray → Int → Option Int := fun s' e' => if s' = s ∧ e' = e then some now else N s' e'
def noteN (N : ByteArray → Int → Option Int) (s : ByteArray) (e now : Int) : ByteArray → Int → Option Int :=
  match N s e with
  | none => setN N s e now
  | some a => if a < now then setN N s e now else N
/-- what a desk's call turns -/
def DB (b1 b2 : Nat) : Nat → Prop := fun k => k = b1 ∨ k = b2
theorem NoteM.look {w : World} {b n : Nat} {N : ByteArray → Int → Option Int} (h : NoteM w b n N) {s : ByteArray} {e : Int} (hk : KOk s e) :
    (Instr.lookup 72 (.map (some b)) (.agg #[.string s, .int .i64 e]) true).run Try.prog w = .ok (.tuple #[.agg #[.int .i64 ((N s e).getD 0)], .bool (N s e).isSome]) w ∧
    (Instr.lookup 72 (.map (some b)) (.agg #[.string s, .int .i64 e]) false).run Try.prog w = .ok (.agg #[.int .i64 ((N s e).getD 0)]) w := by
  obtain ⟨f, h1, h2⟩ := h
  have hz : (zeroValue 81).run Try.prog w = .ok (noteV 0) w := by kernel_rfl
  have e1 := h1.look_ok pair_law Try.underlying72 hz ⟨0, rfl⟩ (pair_key hk)
  have e2 := h1.look pair_law Try.underlying72 hz ⟨0, rfl⟩ (pair_key hk)
  rw [h2 s e hk] at e1 e2
  unfold pairV at e1 e2
  rw [e1, e2]
  cases N s e <;> exact ⟨rfl, rfl⟩
theorem GoneM.look {w : World} {b n : Nat} {G : ByteArray → Int → Bool} (h : GoneM w b n G) {s : ByteArray} {e : Int} (hk : KOk s e) :
    (Instr.lookup 73 (.map (some b)) (.agg #[.string s, .int .i64 e]) false).run Try.prog w = .ok (.bool (G s e)) w := by
  obtain ⟨f, h1, h2⟩ := h
  have hz : (zeroValue 4).run Try.prog w = .ok (.bool false) w := by kernel_rfl
  have e2 := h1.look pair_law Try.underlying73 hz ⟨false, rfl⟩ (pair_key hk)
  rw [h2 s e hk] at e2
  unfold pairV at e2
  rw [e2]
  cases G s e <;> rfl
theorem NoteM.store {w : World} {b n : Nat} {N : ByteArray → Int → Option Int} (h : NoteM w b n N) {s : ByteArray} {e : Int} (hk : KOk s e) (hn : n < maxLen) (now : Int) :
    ∃ w', (Instr.mapUpdate 72 (.map (some b)) (.agg #[.string s, .int .i64 e]) (.agg #[.int .i64 now])).run Try.prog w = .ok () w' ∧ NoteM w' b (n + 1) (setN N s e now) ∧ w.grownBy w' (some b) := by
  obtain ⟨f, h1, h2⟩ := h
  obtain ⟨w', hr, hp, hg⟩ := h1.store pair_law Try.underlying72 hn (val := .agg #[.int .i64 now]) ⟨now, rfl⟩ (pair_key hk)
  refine ⟨w', hr, ⟨_, hp, fun s' e' hk' => ?_⟩, hg⟩
  unfold setN
  by_cases hc : s' = s ∧ e' = e
  · obtain ⟨rfl, rfl⟩ := hc
    rw [upd_same, if_pos ⟨rfl, rfl⟩]; rfl
  · rw [upd_other _ _ (fun he => hc (plit_inj hk' hk he)), if_neg hc]
    exact h2 s' e' hk'
theorem GoneM.store {w : World} {b n : Nat} {G : ByteArray → Int → Bool} (h : GoneM w b n G) {s : ByteArray} {e : Int} (hk : KOk s e) (hn : n < maxLen) :
    ∃ w', (Instr.mapUpdate 73 (.map (some b)) (.agg #[.string s, .int .i64 e]) (.bool true)).run Try.prog w = .ok () w' ∧ GoneM w' b (n + 1) (fun s' e' => decide (s' = s ∧ e' = e) || G s' e') ∧ w.grownBy w' (some b) := by
  obtain ⟨f, h1, h2⟩ := h
  obtain ⟨w', hr, hp, hg⟩ := h1.store pair_law Try.underlying73 hn (val := .bool true) ⟨true, rfl⟩ (pair_key hk)
  refine ⟨w', hr, ⟨_, hp, fun s' e' hk' => ?_⟩, hg⟩
  by_cases hc : s' = s ∧ e' = e
  · obtain ⟨rfl, rfl⟩ := hc
    rw [upd_same]; simp
  · rw [upd_other _ _ (fun he => hc (plit_inj hk' hk he)), h2 s' e' hk']
    simp [hc]
set_option maxHeartbeats 2000000 in
theorem note_any (g b1 b2 n : Nat) (N : ByteArray → Int → Option Int) (G : ByteArray → Int → Bool) (term short : Int) (s : ByteArray) (e now : Int) (w : World) (hd : DeskSt w g b1 b2 n N G term short) (hk : KOk s e) (hn : n < maxLen) :
    Calls Try.prog 17 #[.pointer (some ⟨g, 0, none⟩), .string s, .int .i64 e, .int .i64 now] w fun en w' => en = .returned (.tuple #[]) ∧ DeskSt w' g b1 b2 (n + 1) (noteN N s e now) G term short ∧ But (DB b1 b2) w w' := by
  have c0 := hd.row.cell (k := 0) rfl
  have HD := hide hd; have HK := hide hk
  clear hd hk
  go_enter Try.func17, Try.ntmps17
  go_upto_region 2 with (fail)
  have hDX := hide (HD.out.below ((Below.refl w.heap.size w).alloc (Nat.le_refl _) (.cells #[.string s, .int .i64 e] 79)))
  have hBX := hide ((Below.refl w.heap.size w).alloc (Nat.le_refl _) (.cells #[.string s, .int .i64 e] 79))
  have hRX : Hid (RowV (w.alloc (.cells #[.string s, .int .i64 e] 79)) w.heap.size 79 [.string s, .int .i64 e]) := hide (RowV.new w _ _)
  refine wp_world (fun X => Hid (DeskSt X g b1 b2 n N G term short) ∧ Hid (Below w.heap.size w X) ∧ Hid (RowV X w.heap.size 79 [.string s, .int .i64 e])) ⟨hDX, hBX, hRX⟩ ?_
  clear hDX hBX hRX c0
  rintro X ⟨DX, BX, RX⟩
  have c0 := DX.out.row.cell (k := 0) rfl
  have c0' := fun o => (DX.out.row.alloc o).cell (k := 0) rfl
  have p0 := RX.out.cell (k := 0) rfl
  have p1 := RX.out.cell (k := 1) rfl
  have p0' := fun o => (RX.out.alloc o).cell (k := 0) rfl
  have p1' := fun o => (RX.out.alloc o).cell (k := 1) rfl
  have l0 := (DX.out.notes.look HK.out).1
  have l1 := fun o => ((DX.out.notes.but (But.of_below (S := fun _ => False) ((Below.refl X.heap.size X).alloc (Nat.le_refl _) o)) id).look HK.out).1
  have l0d : (Instr.lookup 72 (.map (some b1)) (.agg #[.string s, .int .i64 e]) true).run Try.prog X.drew = .ok (.tuple #[.agg #[.int .i64 ((N s e).getD 0)], .bool (N s e).isSome]) X.drew := ((show NoteM X.drew b1 n N from DX.out.notes).look HK.out).1
  have l1d : ∀ o, (Instr.lookup 72 (.map (some b1)) (.agg #[.string s, .int .i64 e]) true).run Try.prog (X.alloc o).drew = .ok (.tuple #[.agg #[.int .i64 ((N s e).getD 0)], .bool (N s e).isSome]) (X.alloc o).drew := fun o => ((show NoteM (X.alloc o).drew b1 n N from DX.out.notes.but (But.of_below (S := fun _ => False) ((Below.refl X.heap.size X).alloc (Nat.le_refl _) o).drew) id).look HK.out).1
  obtain ⟨r, hr⟩ : ∃ r, r = N s e := ⟨_, rfl⟩
  rw [← hr] at l0 l0d
  simp only [← hr] at l1 l1d
  have HR := hide hr; clear hr
  cases r with
  | none =>
    simp only [Option.getD, Option.isSome] at l0 l1 l0d l1d
    go_region
    go_upto_region 4 with (fail)
    have HNN : Hid (setN N s e now = noteN N s e now) := hide (by unfold noteN; rw [← HR.out])
    refine wp_world (fun Y => Hid (DeskSt Y g b1 b2 n N G term short) ∧ Hid (Below w.heap.size w Y) ∧ Hid (RowV Y w.heap.size 79 [.string s, .int .i64 e])) ⟨hide (DX.out.below ((Below.refl X.heap.size X).alloc (Nat.le_refl _) (.cells #[.int .i64 0] 81)).drew), hide (BX.out.alloc BX.out.size (.cells #[.int .i64 0] 81)).drew, hide (RX.out.alloc (.cells #[.int .i64 0] 81))⟩ ?_
    clear DX BX RX c0 c0' p0 p1 p0' p1' l0 l1 l0d l1d
    rintro Y ⟨DY, BY, RY⟩
    have c0 := DY.out.row.cell (k := 0) rfl
    have p0 := RY.out.cell (k := 0) rfl
    have p1 := RY.out.cell (k := 1) rfl
    obtain ⟨wf, hrun, hst, hgr⟩ := (show NoteM Y.drew b1 n N from DY.out.notes).store HK.out hn now
    have HST := hide hst
    have HBF : Hid (But (fun k => k = b1) Y wf) := hide (But.of_grown (S := fun k => k = b1) hgr rfl).undrew
    clear hst hgr
    go_region
    go_wp2_with fail
    go_end0
    refine ⟨rfl, ⟨?_, ?_, ?_, DY.out.ne12, DY.out.ne1, DY.out.ne2⟩, (But.of_below BY.out).trans (HBF.out.mono fun k hk => .inl hk)⟩
    · exact HBF.out.row DY.out.row DY.out.ne1
    · exact HNN.out ▸ HST.out
    · exact (DY.out.gone.but HBF.out (fun h => DY.out.ne12 h.symm)).mono (Nat.le_succ _)
  | some a =>
    simp only [Option.getD, Option.isSome] at l0 l1 l0d l1d
    go_region
    by_cases hlt : a < now
    · go_upto_region 4 with (fail)
      have HNN : Hid (setN N s e now = noteN N s e now) := hide (by unfold noteN; rw [← HR.out]; simp only; rw [if_pos hlt])
      refine wp_world (fun Y => Hid (DeskSt Y g b1 b2 n N G term short) ∧ Hid (Below w.heap.size w Y) ∧ Hid (RowV Y w.heap.size 79 [.string s, .int .i64 e])) ⟨hide (DX.out.below ((Below.refl X.heap.size X).alloc (Nat.le_refl _) (.cells #[.int .i64 a] 81)).drew), hide (BX.out.alloc BX.out.size (.cells #[.int .i64 a] 81)).drew, hide (RX.out.alloc (.cells #[.int .i64 a] 81))⟩ ?_
      clear DX BX RX c0 c0' p0 p1 p0' p1' l0 l1 l0d l1d
      rintro Y ⟨DY, BY, RY⟩
      have c0 := DY.out.row.cell (k := 0) rfl
      have p0 := RY.out.cell (k := 0) rfl
      have p1 := RY.out.cell (k := 1) rfl
      obtain ⟨wf, hrun, hst, hgr⟩ := (show NoteM Y.drew b1 n N from DY.out.notes).store HK.out hn now
      have HST := hide hst
      have HBF : Hid (But (fun k => k = b1) Y wf) := hide (But.of_grown (S := fun k => k = b1) hgr rfl).undrew
      clear hst hgr
      go_region
      go_wp2_with fail
      go_end0
      refine ⟨rfl, ⟨?_, ?_, ?_, DY.out.ne12, DY.out.ne1, DY.out.ne2⟩, (But.of_below BY.out).trans (HBF.out.mono fun k hk => .inl hk)⟩
      · exact HBF.out.row DY.out.row DY.out.ne1
      · exact HNN.out ▸ HST.out
      · exact (DY.out.gone.but HBF.out (fun h => DY.out.ne12 h.symm)).mono (Nat.le_succ _)
    · go_wp2_with fail
      go_end0
      have HNN : noteN N s e now = N := by unfold noteN; rw [← HR.out]; simp only; rw [if_neg (by omega)]
      have hb := (Below.refl X.heap.size X).alloc (Nat.le_refl _) (.cells #[.int .i64 a] 81)
      refine ⟨rfl, ?_, (But.of_below BX.out).trans (But.of_below hb.drew)⟩
      have h1 := DX.out.below hb.drew
      rw [HNN]
      exact ⟨h1.row, h1.notes.mono (Nat.le_succ _), h1.gone.mono (Nat.le_succ _), h1.ne12, h1.ne1, h1.ne2⟩
end Go.Proofs.Ytigeccflfdekiaa
