/-
  The walk of the law WireNil.
-/
import Derived.Test.YtnlfnjadadfhkaaWireU
namespace Go.Proofs.Ytnlfnjadadfhkaa
open Go.RowKit
set_option linter.unusedVariables false

theorem wtexts_nil (A : Option Addr) (n c : Nat) (ss : List ByteArray) (w : World) (hl : Sl w w.heap.size A n (ss.map Value.string)) (hn : n ≤ 9223372036854775807) :
    Calls Try.prog 38 #[.pointer none, .slice A n c] w fun e w' => e = .returned (.tuple #[]) ∧ w = w' := by
  have HL := hide hl; have HN := hide (show ss.length = n by have := hl.1; simpa using this)
  clear hl
  by_cases h4 : n ≤ 4096
  · have hi : ¬ ((4096 : Int) < (n : Int)) := by omega
    go_enter Try.func38, Try.ntmps38
    go_wp2_with fail
    refine (wcount_nil _ _).mono ?_
    rintro e w1 ⟨rfl, rfl⟩
    go_wp2_with fail
    go_loop [15] (fun v15 => ∃ i : Nat, i ≤ n ∧ v15 = .int .i64 i) (fun v => n - (intOf v).toNat)
    case atStart => exact ⟨0, by omega, rfl⟩
    case round =>
      obtain ⟨i, hi2, rfl⟩ := hrel
      by_cases hlt : i < n
      · obtain ⟨s, hs⟩ : ∃ s, ss[i]? = some s := ⟨ss[i]'(by rw [HN.out]; exact hlt), List.getElem?_eq_getElem _⟩
        obtain ⟨b, off, u, rfl, hbb, hu, cc⟩ := HL.out.at_ hlt
        rw [List.getElem?_map, hs] at hu
        injection hu with hu; subst hu
        have b1 : (0 : Int) ≤ (i : Int) := by omega
        have b2 : (i : Int) < (n : Int) := by omega
        clear hs
        go_wp2_with fail
        refine (wtext_nil _ _).mono ?_
        rintro e w2 ⟨rfl, rfl⟩
        go_wp2_with fail
        go_round
        case rel => exact ⟨i + 1, by omega, by go_num⟩
        case measure => simp [intOf]; omega
      · have hge : ¬ ((i : Int) < (n : Int)) := by omega
        go_wp2_with fail
        go_end0
        exact ⟨rfl, rfl⟩
  · have hi : (4096 : Int) < (n : Int) := by omega
    go_enter Try.func38, Try.ntmps38
    go_wp2_with fail
    refine (wcount_nil _ _).mono ?_
    rintro e w1 ⟨rfl, rfl⟩
    go_wp2_with fail
    first
      | exact bodyPost_ret (results_none rfl _ _ _) rfl ⟨rfl, rfl⟩
      | (go_end0; exact ⟨rfl, rfl⟩)
set_option maxHeartbeats 2000000 in
theorem put_nil (p : Put) (A : Option Addr) (c : Nat) (w : World) (hp : p.Ok) (hl : Sl w w.heap.size A p.l.length (p.l.map Value.string)) :
    Calls Try.prog 18 #[.pointer none, p.val A c] w fun e w' => e = .returned (.tuple #[]) ∧ Below w.heap.size w w' := by
  obtain ⟨⟨k1, k2⟩, ⟨n1, n2⟩, hs, hls, hll⟩ := hp
  obtain ⟨kind, n, s, l⟩ := p
  simp only at k1 k2 n1 n2 hs hls hll hl
  have HB : Hid (Below w.heap.size w (w.alloc (.cells #[.int .i64 kind, .int .i64 n, .string s, .slice A l.length c] 43))) := hide ((Below.refl _ _).alloc (Nat.le_refl _) _)
  have HL := hide ((hl.below HB.out (Nat.le_refl _)).more HB.out.size)
  clear hls hl
  unfold Put.val
  by_cases h0 : kind = 0
  · subst h0
    go_enter Try.func18, Try.ntmps18
    go_wp2_with fail
    refine (wint_nil _ _).mono ?_
    rintro e w1 ⟨rfl, rfl⟩
    go_wp2_with fail
    go_end0
    exact ⟨rfl, HB.out⟩
  by_cases h1 : kind = 1
  · subst h1
    clear h0
    go_enter Try.func18, Try.ntmps18
    go_wp2_with fail
    refine (wtext_nil _ _).mono ?_
    rintro e w1 ⟨rfl, rfl⟩
    go_wp2_with fail
    go_end0
    exact ⟨rfl, HB.out⟩
  by_cases h2 : kind = 2
  · subst h2
    clear h0 h1
    go_enter Try.func18, Try.ntmps18
    go_wp2_with fail
    refine (wbool_nil _ _).mono ?_
    rintro e w1 ⟨rfl, rfl⟩
    go_wp2_with fail
    go_end0
    exact ⟨rfl, HB.out⟩
  by_cases h3 : kind = 3
  · subst h3
    clear h0 h1 h2
    go_enter Try.func18, Try.ntmps18
    go_wp2_with fail
    refine (wcount_nil _ _).mono ?_
    rintro e w1 ⟨rfl, rfl⟩
    go_wp2_with fail
    go_end0
    exact ⟨rfl, HB.out⟩
  by_cases h4 : kind = 4
  · subst h4
    clear h0 h1 h2 h3
    go_enter Try.func18, Try.ntmps18
    go_wp2_with fail
    refine (wtexts_nil A l.length c l _ HL.out hll).mono ?_
    rintro e w1 ⟨rfl, rfl⟩
    go_wp2_with fail
    go_end0
    exact ⟨rfl, HB.out⟩
  · have b0 : (kind == 0) = false := by simpa using h0
    have b1 : (kind == 1) = false := by simpa using h1
    have b2 : (kind == 2) = false := by simpa using h2
    have b3 : (kind == 3) = false := by simpa using h3
    have b4 : (kind == 4) = false := by simpa using h4
    clear h0 h1 h2 h3 h4
    go_enter Try.func18, Try.ntmps18
    go_wp2_with fail
    go_end0
    exact ⟨rfl, HB.out⟩
set_option maxHeartbeats 2000000 in
set_option maxRecDepth 100000 in
theorem nil_walk (p : Put) (A : Option Addr) (c : Nat) (w : World) (hp : p.Ok) (hl : Sl w w.heap.size A p.l.length (p.l.map Value.string)) :
    Calls Try.prog 5 #[p.val A c] w fun e w' => e = .returned (.bool true) ∧ Below w.heap.size w w' := by
  have HB : Hid (Below w.heap.size w (w.alloc (.cells #[.int .i64 p.kind, .int .i64 p.n, .string p.s, .slice A p.l.length c] 43))) := hide ((Below.refl _ _).alloc (Nat.le_refl _) _)
  have HP := hide (put_nil p A c _ hp ((hl.below HB.out (Nat.le_refl _)).more HB.out.size))
  have HR : Hid (RowV (w.alloc (.cells #[.int .i64 p.kind, .int .i64 p.n, .string p.s, .slice A p.l.length c] 43)) w.heap.size 43 [.int .i64 p.kind, .int .i64 p.n, .string p.s, .slice A p.l.length c]) := hide (RowV.new w _ _)
  clear hl hp
  unfold Put.val at HP ⊢
  obtain ⟨kind, n, s, l⟩ := p
  simp only at HB HP HR ⊢
  go_enter Try.func5, Try.ntmps5
  go_wp2_with fail
  refine HP.out.mono ?_
  rintro e w1 ⟨rfl, hb1⟩
  have R1 := hide (HR.out.below' hb1); have B1 := hide (HB.out.trans (hb1.mono HB.out.size)); clear hb1 HP HR HB
  go_wp2_with fail
  refine (frame_nil _).mono ?_
  rintro e w2 ⟨rfl, rfl⟩
  have x0 : ∀ p : Ext w1, (extW w1 p).cell? ⟨w.heap.size, 0, none⟩ = some (.int .i64 kind) := fun p => (R1.out.below' (extW_below w1 p)).cell (k := 0) rfl
  have KZ := hide (fun (X : World) => lread_nil kind X)
  have KS : Hid (∀ X : World, Calls Try.prog 20 #[.agg #[.int .i64 kind, .int .i64 0, .string ByteArray.empty, .slice none 0 0], .agg #[.int .i64 kind, .int .i64 0, .string ⟨#[]⟩, .slice none 0 0]] X fun e w' => e = .returned (.bool true) ∧ Below X.heap.size X w') := hide (fun (X : World) => psame_any (Rd.zero kind) none none 0 0 X Sl.nil_ Sl.nil_ (by show 0 ≤ _; omega))
  simp only [Put.val, Rd.zero, List.length_nil] at KZ
  go_wp2_with fail
  refine wp_region_ext (by kernel_rfl) (by kernel_rfl) ?_
  repeat (go_big_quiet_step (with_reducible first
    | exact ext_call _ (known_any _)
    | exact ext_call _ (KZ.out _)
    | exact ext_call _ (KS.out _)
    | exact ext_call_same _ (rend_nil _)))
  refine wpQuiet_nil ?_
  intro _ hw'
  obtain ⟨p, hw''⟩ := hw'
  subst hw''
  go_wp2_with fail
  go_ret
  exact ⟨rfl, B1.out.trans ((extW_below w1 p).mono B1.out.size)⟩
end Go.Proofs.Ytnlfnjadadfhkaa
