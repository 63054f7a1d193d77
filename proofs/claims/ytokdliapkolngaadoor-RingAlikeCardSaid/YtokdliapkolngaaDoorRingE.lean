/-
  Ring: the library's stable sort, walked.
-/
import Derived.Test.YtokdliapkolngaaDoorRingD
import Derived.Shelf.SlSortCmp.PdqK
namespace Go.Proofs.YtokdliapkolngaaDoor
open Go.RowKit Go.Sort Go.Shelf
set_option linter.unusedVariables false

def Tryd.insP_ren : Go.Shelf.Ren := ⟨fun | 20 => 50 | n => n, fun | 24 => 39 | 22 => 36 | 3 => 3 | 25 => 59 | 4 => 4 | 0 => 0 | n => n, fun | n => n⟩
theorem Tryd.insP : Go.Proofs.SlLaysF0.n20 Tryd.prog Tryd.insP_ren := {
  mixed := by kernel_rfl
  f20 := ⟨Tryd.f50.name, by decide, Tryd.func50.trans (congrArg some (by kernel_rfl))⟩
  t0 := Tryd.underlying0
  a0 := Tryd.isAgg0
  z0 := Tryd.sizeOf0
  v0 := Tryd.zeroValue0
  t3 := Tryd.underlying3
  a3 := Tryd.isAgg3
  z3 := Tryd.sizeOf3
  v3 := Tryd.zeroValue3
  t4 := Tryd.underlying4
  a4 := Tryd.isAgg4
  z4 := Tryd.sizeOf4
  v4 := Tryd.zeroValue4
  t22 := Tryd.underlying36
  a22 := Tryd.isAgg36
  z22 := Tryd.sizeOf36
  v22 := Tryd.zeroValue36
  t25 := Tryd.underlying59
  a25 := Tryd.isAgg59
  z25 := Tryd.sizeOf59
  v25 := Tryd.zeroValue59 }

section
variable {α : Type} [Inhabited α] {lt : α → α → Bool}
/-- sorted runs of sz, up to a -/
inductive PRuns (lt : α → α → Bool) (sz : Nat) (d : Array α) : Nat → Prop
  | zero : PRuns lt sz d 0
  | step {a : Nat} : PRuns lt sz d a → SortedIn lt a (a + sz) d → PRuns lt sz d (a + sz)
/-- .. from a to the end -/
inductive Runs (lt : α → α → Bool) (sz n : Nat) (d : Array α) : Nat → Prop
  | last {a : Nat} : n ≤ a + sz → SortedIn lt a n d → Runs lt sz n d a
  | next {a : Nat} : a + sz < n → SortedIn lt a (a + sz) d → Runs lt sz n d (a + sz) → Runs lt sz n d a
theorem sorted_same {a b : Nat} {d d' : Array α} (h : SortedIn lt a b d) (he : ∀ i, a ≤ i → i < b → d'[i]! = d[i]!) : SortedIn lt a b d' := fun i j h1 h2 h3 => by
  rw [he i h1 (by omega), he j (by omega) h3]; exact h i j h1 h2 h3
theorem PRuns.same {sz a : Nat} {d d' : Array α} (h : PRuns lt sz d a) : (∀ i, i < a → d'[i]! = d[i]!) → PRuns lt sz d' a := by
  induction h with
  | zero => intro _; exact .zero
  | step h1 h2 ih => intro he; exact .step (ih fun i hi => he i (by omega)) (sorted_same h2 fun i _ hi => he i hi)
theorem Runs.same {sz n a : Nat} {d d' : Array α} (h : Runs lt sz n d a) : (∀ i, a ≤ i → d'[i]! = d[i]!) → Runs lt sz n d' a := by
  induction h with
  | last h1 h2 => intro he; exact .last h1 (sorted_same h2 fun i hi _ => he i hi)
  | next h1 h2 h3 ih => intro he; exact .next h1 (sorted_same h2 fun i hi _ => he i hi) (ih fun i hi => he i (by omega))
theorem PRuns.runs {sz n a : Nat} {d : Array α} (h : PRuns lt sz d a) : a < n ∨ a = 0 → Runs lt sz n d a → Runs lt sz n d 0 := by
  induction h with
  | zero => intro _ h; exact h
  | step h1 h2 ih =>
    intro ha hr
    rename_i a
    by_cases hs : sz = 0
    · subst hs; exact ih (by omega) (by simpa using hr)
    · exact ih (by omega) (.next (by omega) h2 hr)
theorem PRuns.whole {sz n a : Nat} {d : Array α} (h : PRuns lt sz d a) (hz : 0 < sz) (ha : a = n) (hn : 0 < n) : Runs lt sz n d 0 := by
  cases h with
  | zero => omega
  | step h1 h2 => exact h1.runs (.inl (by omega)) (.last (by omega) (by rwa [← ha]))
theorem Runs.two {sz n a : Nat} {d : Array α} (h : Runs lt sz n d a) (hz : 0 < sz) (hn : a + 2 * sz ≤ n) : SortedIn lt a (a + sz) d ∧ SortedIn lt (a + sz) (a + 2 * sz) d ∧ (a + 2 * sz < n → Runs lt sz n d (a + 2 * sz)) := by
  cases h with
  | last h1 h2 => omega
  | next h1 h2 h3 =>
    cases h3 with
    | last h4 h5 => exact ⟨h2, by rwa [show a + 2 * sz = n by omega], fun h => by omega⟩
    | next h4 h5 h6 => rw [show a + sz + sz = a + 2 * sz by omega] at h4 h5 h6; exact ⟨h2, h5, fun _ => h6⟩
theorem Runs.end_ {sz n a : Nat} {d : Array α} (h : Runs lt sz n d a) (hn : n < a + 2 * sz) (hm : a + sz < n) : SortedIn lt a (a + sz) d ∧ SortedIn lt (a + sz) n d := by
  cases h with
  | last h1 h2 => omega
  | next h1 h2 h3 =>
    cases h3 with
    | last h4 h5 => exact ⟨h2, h5⟩
    | next h4 h5 h6 => omega
theorem Runs.one {sz n a : Nat} {d : Array α} (h : Runs lt sz n d a) (hm : n ≤ a + sz) : SortedIn lt a n d := by
  cases h with
  | last h1 h2 => exact h2
  | next h1 h2 h3 => omega
theorem sorted_none {a b : Nat} {d : Array α} (h : b ≤ a) : SortedIn lt a b d := fun i j h1 h2 h3 => by omega
end
set_option maxHeartbeats 16000000 in
set_option maxRecDepth 100000 in
theorem stable_any {n : Nat} (cf : PtN n → PtN n → Int) (hO : SWO (ltOf cf)) (g : Nat) (cv : Value) (eg : ∀ args w, (callFunc g args).run Tryd.prog w = .ok (.enter g args) w) (blk off cap : Nat) (d0 : Array (PtN n)) (w0 : World) (R : RowK encP 2 w0 blk off d0) (hC : CmpP g cv cf blk off d0.size w0) (hsz : d0.size ≤ 100000) (hpos : 0 < d0.size) :
    Calls Tryd.prog 39 #[.slice (some ⟨blk, off, none⟩) d0.size cap, .int .i64 d0.size, .func (.func g) #[] #[cv]] w0 fun e w' => e = .returned (.tuple #[]) ∧ ∃ d', PermIn 0 d0.size d0 d' ∧ SortedIn (ltOf cf) 0 d0.size d' ∧ SWP w0 blk off d' w' := by
  have HR := hide R; have HC := hide hC; have HO := hide hO
  have INS : Hid (∀ (a b : Nat) (d : Array (PtN n)) (w : World), d.size = d0.size → SWP w0 blk off d w → a ≤ b → b ≤ d0.size → Calls Tryd.prog 50 #[.slice (some ⟨blk, off, none⟩) d0.size cap, .int .i64 a, .int .i64 b, .func (.func g) #[] #[cv]] w fun e w' => e = .returned (.tuple #[]) ∧ ∃ d', PermIn a b d d' ∧ SortedIn (ltOf cf) a b d' ∧ SWP w0 blk off d' w') := hide (fun a b d w hd S hab hb => by
    have h := AnyQ.insertionSortCmpFunc_w Tryd.insP 2 Tryd.isAgg39 Tryd.sizeOf39 encP cf g #[cv] blk off cap a b d0 d w0 w eg hC R hd.symm S hO hab (by omega) (by omega)
    rw [hd] at h
    refine h.mono ?_
    rintro e w' ⟨he, hs⟩
    have hi := insertionSort_holds (lt := ltOf cf) hO d a b hab (by omega)
    exact ⟨he, _, hi.1, hi.2, hs⟩)
  have MRG := hide (symMerge_any cf hO g cv eg blk off cap d0 w0 R hC (by omega))
  unfold MergesP at MRG
  have S0 : Hid (SWP w0 blk off d0 w0) := hide (SWK.start R.hH)
  clear R hC hO
  obtain ⟨N, hN⟩ : ∃ N, N = d0.size := ⟨_, rfl⟩
  have HN := hide hN
  rw [← hN] at hsz hpos INS MRG ⊢
  clear hN
  go_enter Tryd.func39, Tryd.ntmps39
  go_wp2_with fail
  go_loopw [7, 8] (fun v7 v8 wq => ∃ (a : Nat) (d : Array (PtN n)), a ≤ N ∧ v7 = .int .i64 a ∧ v8 = .int .i64 ((a + 20 : Nat) : Int) ∧ Hid (d.size = N ∧ PRuns (ltOf cf) 20 d a ∧ PermIn 0 N d0 d) ∧ Hid (SWP w0 blk off d wq)) (fun v7 _ _ => N - (intOf v7).toNat)
  case atStart => exact ⟨0, d0, by omega, rfl, by go_num, hide ⟨HN.out.symm, .zero, permIn_refl d0 0 N⟩, S0⟩
  case round => as_aux_lemma =>
    clear S0
    obtain ⟨a, d, ha, rfl, rfl, HP, S1⟩ := hrel
    by_cases hlt : a + 20 ≤ N
    · have K := hide (INS.out a (a + 20) d wr HP.out.1 S1.out (by omega) hlt)
      have z1 : ((a + 20 : Nat) : Int) ≤ (N : Int) := by omega
      go_wp2_with fail
      refine K.out.mono ?_
      rintro e w1 ⟨rfl, d1, hp, hs, hw⟩
      have S2 := hide hw
      have HP2 : Hid (d1.size = N ∧ PRuns (ltOf cf) 20 d1 (a + 20) ∧ PermIn 0 N d0 d1) := hide ⟨by rw [hp.1]; exact HP.out.1, .step (HP.out.2.1.same fun i hi => hp.2.1 i (.inl hi)) hs, permIn_trans _ _ _ 0 N HP.out.2.2 (permIn_mono _ _ a (a + 20) 0 N (by omega) hlt (by rw [HP.out.1]; exact Nat.le_refl _) hp)⟩
      clear hp hs hw K S1
      go_wp2_with fail
      go_roundw
      case rel => exact ⟨a + 20, d1, hlt, by go_num, by go_num, HP2, S2⟩
      case measure => simp [intOf]; omega
    · have K := hide (INS.out a N d wr HP.out.1 S1.out ha (Nat.le_refl _))
      have z1 : ¬ (((a + 20 : Nat) : Int) ≤ (N : Int)) := by omega
      go_wp2_with fail
      refine K.out.mono ?_
      rintro e w1 ⟨rfl, d1, hp, hs, hw⟩
      have S2 := hide hw
      have HP2 : Hid (d1.size = N ∧ Runs (ltOf cf) 20 N d1 0 ∧ PermIn 0 N d0 d1) := hide ⟨by rw [hp.1]; exact HP.out.1, (by
        have h1 := HP.out.2.1.same (d' := d1) fun i hi => hp.2.1 i (.inl hi)
        by_cases h : a < N
        · exact h1.runs (.inl h) (.last (by omega) hs)
        · exact h1.whole (by omega) (by omega) hpos), permIn_trans _ _ _ 0 N HP.out.2.2 (permIn_mono _ _ a N 0 N (by omega) (Nat.le_refl _) (by rw [HP.out.1]; exact Nat.le_refl _) hp)⟩
      clear hp hs hw K S1 HP INS
      go_wp2_with fail
      go_loopw [6] (fun v6 wq => ∃ (sz : Nat) (d : Array (PtN n)), 20 ≤ sz ∧ sz ≤ 2 * N + 20 ∧ v6 = .int .i64 sz ∧ Hid (d.size = N ∧ Runs (ltOf cf) sz N d 0 ∧ PermIn 0 N d0 d) ∧ Hid (SWP w0 blk off d wq)) (fun v6 _ => N - (intOf v6).toNat)
      case atStart => exact ⟨20, d1, by omega, by omega, rfl, HP2, S2⟩
      case round => as_aux_lemma =>
        clear HP2 S2
        obtain ⟨sz, d, hz1, hz2, rfl, HP, S1⟩ := hrel
        by_cases hlt : sz < N
        · have z1 : (sz : Int) < (N : Int) := by omega
          have z2 : IntKind.i64.wrap (2 * (sz : Int)) = 2 * (sz : Int) := by rw [IntKind.wrap_i64]; omega
          have z3 : IntKind.i64.wrap ((sz : Int) * 2) = (sz : Int) * 2 := by rw [IntKind.wrap_i64]; omega
          have HPS : Hid (d.size = N ∧ PRuns (ltOf cf) (2 * sz) d 0 ∧ (0 < N → Runs (ltOf cf) sz N d 0) ∧ PermIn 0 N d0 d) := hide ⟨HP.out.1, .zero, fun _ => HP.out.2.1, HP.out.2.2⟩
          clear HP
          go_wp2_with fail
          go_loopw [7, 8] (fun v7 v8 wq => ∃ (a : Nat) (d : Array (PtN n)), a ≤ N ∧ v7 = .int .i64 a ∧ v8 = .int .i64 ((a : Int) + 2 * (sz : Int)) ∧ Hid (d.size = N ∧ PRuns (ltOf cf) (2 * sz) d a ∧ (a < N → Runs (ltOf cf) sz N d a) ∧ PermIn 0 N d0 d) ∧ Hid (SWP w0 blk off d wq)) (fun v7 _ _ => N - (intOf v7).toNat)
          case atStart => exact ⟨0, d, by omega, rfl, by simp, HPS, S1⟩
          case round => as_aux_lemma =>
            clear HPS S1
            obtain ⟨a, d, ha, rfl, rfl, HP, S1⟩ := hrel
            by_cases hab : a + 2 * sz ≤ N
            · have h2 := (HP.out.2.2.1 (by omega)).two (by omega) hab
              have K0 := MRG.out (2 * sz) a (a + sz) (a + 2 * sz) d wr (by omega) (by omega) (by omega) hab HP.out.1 S1.out h2.1 h2.2.1
              rw [show ((a + sz : Nat) : Int) = (a : Int) + (sz : Int) by omega, show ((a + 2 * sz : Nat) : Int) = (a : Int) + 2 * (sz : Int) by omega] at K0
              have K := hide K0; have H2 := hide h2
              clear K0 h2
              have y1 : (a : Int) + 2 * (sz : Int) ≤ (N : Int) := by omega
              go_wp2_with fail
              refine K.out.mono ?_
              rintro e w1 ⟨rfl, d1, hp, hs, hw⟩
              have S2 := hide hw
              have HP2 : Hid (d1.size = N ∧ PRuns (ltOf cf) (2 * sz) d1 (a + 2 * sz) ∧ (a + 2 * sz < N → Runs (ltOf cf) sz N d1 (a + 2 * sz)) ∧ PermIn 0 N d0 d1) := hide ⟨by rw [hp.1]; exact HP.out.1, .step (HP.out.2.1.same fun i hi => hp.2.1 i (.inl hi)) hs, fun h => (H2.out.2.2 h).same fun i hi => hp.2.1 i (.inr hi), permIn_trans _ _ _ 0 N HP.out.2.2.2 (permIn_mono _ _ a (a + 2 * sz) 0 N (by omega) hab (by rw [HP.out.1]; exact Nat.le_refl _) hp)⟩
              clear hp hs hw K S1 HP H2
              go_wp2_with fail
              go_roundw
              case rel => exact ⟨a + 2 * sz, d1, hab, by go_num, by first | go_num | (congr 1; omega), HP2, S2⟩
              case measure => simp [intOf]; omega
            · have y1 : ¬ ((a : Int) + 2 * (sz : Int) ≤ (N : Int)) := by omega
              by_cases hm : a + sz < N
              · have h2 := (HP.out.2.2.1 (by omega)).end_ (by omega) hm
                have K0 := MRG.out (2 * sz) a (a + sz) N d wr (by omega) (by omega) hm (Nat.le_refl _) HP.out.1 S1.out h2.1 h2.2
                rw [show ((a + sz : Nat) : Int) = (a : Int) + (sz : Int) by omega] at K0
                have K := hide K0
                clear K0 h2
                have y2 : (a : Int) + (sz : Int) < (N : Int) := by omega
                go_wp2_with fail
                refine K.out.mono ?_
                rintro e w1 ⟨rfl, d1, hp, hs, hw⟩
                have S2 := hide hw
                have HP2 : Hid (d1.size = N ∧ Runs (ltOf cf) (2 * sz) N d1 0 ∧ PermIn 0 N d0 d1) := hide ⟨by rw [hp.1]; exact HP.out.1, (HP.out.2.1.same (d' := d1) fun i hi => hp.2.1 i (.inl hi)).runs (.inl (by omega)) (.last (by omega) hs), permIn_trans _ _ _ 0 N HP.out.2.2.2 (permIn_mono _ _ a N 0 N (by omega) (Nat.le_refl _) (by rw [HP.out.1]; exact Nat.le_refl _) hp)⟩
                clear hp hs hw K S1 HP
                go_wp2_with fail
                refine ⟨⟨2 * sz, d1, by omega, by omega, by first | go_num | (congr 1; omega), HP2, S2⟩, by simp [intOf]; omega⟩
              · have y2 : ¬ ((a : Int) + (sz : Int) < (N : Int)) := by omega
                have HP2 : Hid (d.size = N ∧ Runs (ltOf cf) (2 * sz) N d 0 ∧ PermIn 0 N d0 d) := hide ⟨HP.out.1, (by
                  by_cases h : a < N
                  · exact HP.out.2.1.runs (.inl h) (.last (by omega) ((HP.out.2.2.1 h).one (by omega)))
                  · exact HP.out.2.1.whole (by omega) (by omega) hpos), HP.out.2.2.2⟩
                clear HP
                go_wp2_with fail
                refine ⟨⟨2 * sz, d, by omega, by omega, by first | go_num | (congr 1; omega), HP2, S1⟩, by simp [intOf]; omega⟩
        · have z1 : ¬ ((sz : Int) < (N : Int)) := by omega
          go_wp2_with fail
          go_end0
          exact ⟨rfl, d, HP.out.2.2, HP.out.2.1.one (by omega), S1.out⟩
set_option maxHeartbeats 4000000 in
theorem sortStable_any {n : Nat} (cf : PtN n → PtN n → Int) (hO : SWO (ltOf cf)) (g : Nat) (cv : Value) (eg : ∀ args w, (callFunc g args).run Tryd.prog w = .ok (.enter g args) w) (blk off cap : Nat) (d0 : Array (PtN n)) (w0 : World) (R : RowK encP 2 w0 blk off d0) (hC : CmpP g cv cf blk off d0.size w0) (hsz : d0.size ≤ 100000) (hpos : 0 < d0.size) :
    Calls Tryd.prog 27 #[.slice (some ⟨blk, off, none⟩) d0.size cap, .func (.func g) #[] #[cv]] w0 fun e w' => e = .returned (.tuple #[]) ∧ ∃ d', PermIn 0 d0.size d0 d' ∧ SortedIn (ltOf cf) 0 d0.size d' ∧ SWP w0 blk off d' w' := by
  have K := hide (stable_any cf hO g cv eg blk off cap d0 w0 R hC hsz hpos)
  clear R hC
  go_enter Tryd.func27, Tryd.ntmps27
  go_wp2_with fail
  refine K.out.mono ?_
  rintro e w1 ⟨rfl, h⟩
  have H := hide h
  clear h
  go_wp2_with fail
  go_end0
  exact ⟨rfl, H.out⟩
end Go.Proofs.YtokdliapkolngaaDoor
