/-
  The walks of the methods' functions, of May, Challenge, Check: the program's.
-/
import Derived.Test.YtnjpgcfkplchkaaPkB
import Derived.Laws.IdiomStrings
namespace Go.Proofs.Ytnjpgcfkplchkaa
open Go.RowKit Go.Great

/-- '[]byte(s)' -/
theorem conv_sb (s : ByteArray) (w : World) (hs : s.size ≤ 9223372036854775807) : ∃ c X, s.size ≤ c ∧ c ≤ 9223372036854775807 ∧ (convert 9 37 (.string s)).run Try.prog w = .ok (.slice (some ⟨w.heap.size, 0, none⟩) s.size c) X ∧
    SlB X X.heap.size (some ⟨w.heap.size, 0, none⟩) s.size s.data.toList ∧ Below w.heap.size w X := by
  refine ⟨grownCap w s.size 0 5, _, grownCap_ge _ _ _ _, by have := grownCap_le_maxLen w s.size 0 5 (by unfold maxLen; exact hs); unfold maxLen at this; exact this,
    run_bytes_of_string w 9 37 5 s Try.underlying9 Try.underlying37 Try.underlying5, ?_, ((Below.refl _ _).drew).alloc (Nat.le_refl _) _⟩
  have hb : bytesRow s (grownCap w s.size 0 5) = (s.data.toList.map bv ++ List.replicate (grownCap w s.size 0 5 - s.size) (Value.int .u8 0)).toArray := by
    apply Array.toList_inj.1
    unfold bytesRow
    simp
    intro a _; rfl
  rw [hb]
  exact SlB.of_block (heap_alloc_new w.drew _) (by simp) rfl

theorem of1_any (s : ByteArray) (w : World) : Calls Try.prog 23 #[.string s] w fun e w' => e = .returned (.string s) ∧ w = w' := by
  go_enter Try.func23, Try.ntmps23
  go_wp2_with fail
  go_ret
  exact ⟨rfl, rfl⟩

set_option maxHeartbeats 1000000 in
theorem of2_any (s : ByteArray) (w : World) (hs : s.size ≤ 900000000000000000) : Calls Try.prog 24 #[.string s] w fun e w' => e = .returned (.string (strB (Oct.webL Oct.webS (Sha.sum s.data.toList)))) ∧ Below w.heap.size w w' := by
  obtain ⟨c, X, h1, h2, kc, hsl, hb⟩ := conv_sb s w (by omega)
  have HS := hide hsl; have HB := hide hb; clear hsl hb
  go_enter Try.func24, Try.ntmps24
  go_wp2_with fail
  refine (psumf_any _ s.size c s.data.toList _ HS.out h1 h2 (by omega)).mono ?_
  rintro e w1 ⟨rfl, hb⟩
  have B1 := hide (HB.out.trans (hb.mono HB.out.size)); clear hb HS HB kc
  obtain ⟨C, hC⟩ : ∃ C, C = ((Sha.sum s.data.toList).map bv).toArray := ⟨_, rfl⟩
  have h1 : C.all (·.oneCell') = true := by rw [hC]; exact bytes_one _
  have hs : C.size = 32 := by rw [hC]; simp [Sha.sum_length]
  rw [← hC]
  have HC := hide hC; have HSC := hide hs; have H1 := hide h1
  clear hC hs h1
  go_upto_region 2 with ((with_reducible refine wpList_store_row rfl 45 (.tmp 3) (.tmp 6) rfl w1.heap.size C rfl rfl 45 _ (heap_alloc_new w1 _) ?r1 ?r2 H1.out ?_))
  case r1 => rw [HSC.out]; kernel_rfl
  case r2 => rw [HSC.out]; rfl
  refine wp_world (fun Y => SlB Y Y.heap.size (some ⟨w1.heap.size, 0, none⟩) 32 (Sha.sum s.data.toList) ∧ Below w.heap.size w Y)
    ⟨SlB.of_block (rest := []) (by rw [List.append_nil, ← HC.out]; exact row_set (heap_alloc_new w1 _)) (by simp) (Sha.sum_length _), below_setRow (B1.out.alloc B1.out.size _) B1.out.size _⟩ ?_
  rintro Y ⟨y1, y2⟩
  have Y1 := hide y1; have Y2 := hide y2
  clear y1 y2
  go_wp2_with fail
  refine (web_any _ 32 32 _ _ Y1.out (by omega)).mono ?_
  rintro e w2 ⟨rfl, hb⟩
  have B2 := hide (Y2.out.trans (hb.mono Y2.out.size)); clear hb
  go_wp2_with fail
  go_ret
  exact ⟨rfl, B2.out⟩

set_option maxHeartbeats 1000000 in
theorem may3_any (s : ByteArray) (w : World) (hs : s.size ≤ 1073741824) : Calls Try.prog 27 #[.string s] w fun e w' => e = .returned (.bool (decide ((Oct.unwebL Oct.webS s.data.toList).map List.length = some 32))) ∧ Below w.heap.size w w' := by
  obtain ⟨r, hr⟩ : ∃ r, r = Oct.unwebL Oct.webS s.data.toList := ⟨_, rfl⟩
  have R := hide hr.symm; clear hr
  go_enter Try.func27, Try.ntmps27
  go_wp2_with fail
  refine (unweb_any s _ hs).mono ?_
  rintro e w1 ⟨A, m, c, rfl, ho, hb⟩
  rw [R.out] at ho ⊢
  have B1 := hide hb; clear hb
  have hl := ho.slb.len
  cases r with
  | none =>
    rw [show errI none = 3 from rfl]
    clear ho hl
    go_wp2_with fail
    go_ret
    exact ⟨ret_boolE (by rw [R.out]; rfl), B1.out⟩
  | some b =>
    rw [show errI (some b) = 0 from rfl]
    have hl2 : b.length = m := hl
    have HV : Hid (decide ((some b).map List.length = some 32) = ((m : Int) == 32)) := hide (by
      rw [← hl2]
      by_cases h : b.length = 32
      · simp [h]
      · have : ¬ ((b.length : Int) = 32) := by omega
        simp [h, this])
    clear ho hl hl2
    go_wp2_with fail
    go_ret
    exact ⟨ret_boolE (by rw [R.out]; exact HV.out.symm), B1.out⟩

set_option maxHeartbeats 2000000 in
theorem pmay_any (s method : ByteArray) (w : World) (hs : s.size ≤ 9223372036854775807) (hs2 : method.data.toList ≠ Pk.plain → method.data.toList = Pk.s256 → s.size ≤ 1073741824) :
    Calls Try.prog 10 #[.string s, .string method] w fun e w' => e = .returned (.bool (Pk.may s.data.toList method.data.toList)) ∧ Below w.heap.size w w' := by
  by_cases h1 : method.data.toList = Pk.plain
  · have HM : Pk.meth method = #[.string ⟨#[112, 108, 97, 105, 110]⟩, .func (.func 23) #[] #[], .func (.func 8) #[] #[]] := by unfold Pk.meth; rw [if_pos h1]
    have hk : Pk.knows method = true := by unfold Pk.knows; simp [h1]
    have hm : Pk.meth method = #[.string ⟨#[112, 108, 97, 105, 110]⟩, .func (.func 23) #[] #[], .func (.func 8) #[] #[]] := HM
    go_enter Try.func10, Try.ntmps10
    go_wp2_with fail
    refine (find_any method _).mono ?_
    rintro e w1 ⟨rfl, hb⟩
    rw [hm, hk]
    have B1 := hide hb; clear hb
    go_upto_region 2 with ((with_reducible refine wpList_store_row rfl 34 (.tmp 5) (.tmp 10) rfl w1.heap.size #[.string ⟨#[112, 108, 97, 105, 110]⟩, .func (.func 23) #[] #[], .func (.func 8) #[] #[]] rfl rfl 34 _ (heap_alloc_new w1 _) ?r1 ?r2 ?r3 ?_))
    case r1 => kernel_rfl
    case r2 => rfl
    case r3 => simp [Value.oneCell']
    refine wp_world (fun Y => RowV Y w1.heap.size 34 (#[.string ⟨#[112, 108, 97, 105, 110]⟩, .func (.func 23) #[] #[], .func (.func 8) #[] #[]] : Array Value).toList ∧ Below w.heap.size w Y) ⟨row_set (heap_alloc_new w1 _), below_setRow (B1.out.alloc B1.out.size _) B1.out.size _⟩ ?_
    rintro Y ⟨y1, y2⟩
    have d1 := y1.cell (k := 1) rfl
    have d2 := y1.cell (k := 2) rfl
    have Y2 := hide y2; clear y1 y2
    go_wp2_with fail
    refine (isver_any s _ hs).mono ?_
    rintro e w2 ⟨rfl, rfl⟩
    go_wp2_with fail
    go_ret
    exact ⟨ret_boolE (by unfold Pk.may; rw [if_pos h1]), Y2.out⟩
  · by_cases h2 : method.data.toList = Pk.s256
    · have HM : Pk.meth method = #[.string ⟨#[83, 50, 53, 54]⟩, .func (.func 24) #[] #[], .func (.func 27) #[] #[]] := by unfold Pk.meth; rw [if_neg h1, if_pos h2]
      have hk : Pk.knows method = true := by unfold Pk.knows; simp [h2]
      have hm : Pk.meth method = #[.string ⟨#[83, 50, 53, 54]⟩, .func (.func 24) #[] #[], .func (.func 27) #[] #[]] := HM
      go_enter Try.func10, Try.ntmps10
      go_wp2_with fail
      refine (find_any method _).mono ?_
      rintro e w1 ⟨rfl, hb⟩
      rw [hm, hk]
      have B1 := hide hb; clear hb
      go_upto_region 2 with ((with_reducible refine wpList_store_row rfl 34 (.tmp 5) (.tmp 10) rfl w1.heap.size #[.string ⟨#[83, 50, 53, 54]⟩, .func (.func 24) #[] #[], .func (.func 27) #[] #[]] rfl rfl 34 _ (heap_alloc_new w1 _) ?r1 ?r2 ?r3 ?_))
      case r1 => kernel_rfl
      case r2 => rfl
      case r3 => simp [Value.oneCell']
      refine wp_world (fun Y => RowV Y w1.heap.size 34 (#[.string ⟨#[83, 50, 53, 54]⟩, .func (.func 24) #[] #[], .func (.func 27) #[] #[]] : Array Value).toList ∧ Below w.heap.size w Y) ⟨row_set (heap_alloc_new w1 _), below_setRow (B1.out.alloc B1.out.size _) B1.out.size _⟩ ?_
      rintro Y ⟨y1, y2⟩
      have d1 := y1.cell (k := 1) rfl
      have d2 := y1.cell (k := 2) rfl
      have Y2 := hide y2; clear y1 y2
      go_wp2_with fail
      refine (may3_any s _ (hs2 h1 h2)).mono ?_
      rintro e w2 ⟨rfl, hb⟩
      have B3 := hide (Y2.out.trans (hb.mono Y2.out.size)); clear hb
      go_wp2_with fail
      go_ret
      exact ⟨ret_boolE (by unfold Pk.may; rw [if_neg h1, decide_eq_true h2]; simp), B3.out⟩
    · have HM : Pk.meth method = #[.string ⟨#[]⟩, .nilFunc, .nilFunc] := by unfold Pk.meth; rw [if_neg h1, if_neg h2]
      have hk : Pk.knows method = false := by unfold Pk.knows; simp [h1, h2]
      have hm : Pk.meth method = #[.string ⟨#[]⟩, .nilFunc, .nilFunc] := HM
      go_enter Try.func10, Try.ntmps10
      go_wp2_with fail
      refine (find_any method _).mono ?_
      rintro e w1 ⟨rfl, hb⟩
      rw [hm, hk]
      have B1 := hide hb; clear hb
      go_upto_region 2 with ((with_reducible refine wpList_store_row rfl 34 (.tmp 5) (.tmp 10) rfl w1.heap.size #[.string ⟨#[]⟩, .nilFunc, .nilFunc] rfl rfl 34 _ (heap_alloc_new w1 _) ?r1 ?r2 ?r3 ?_))
      case r1 => kernel_rfl
      case r2 => rfl
      case r3 => simp [Value.oneCell']
      refine wp_world (fun Y => RowV Y w1.heap.size 34 (#[.string ⟨#[]⟩, .nilFunc, .nilFunc] : Array Value).toList ∧ Below w.heap.size w Y) ⟨row_set (heap_alloc_new w1 _), below_setRow (B1.out.alloc B1.out.size _) B1.out.size _⟩ ?_
      rintro Y ⟨y1, y2⟩
      have d1 := y1.cell (k := 1) rfl
      have d2 := y1.cell (k := 2) rfl
      have Y2 := hide y2; clear y1 y2
      go_wp2_with fail
      go_ret
      exact ⟨ret_boolE (by unfold Pk.may; rw [if_neg h1, decide_eq_false h2]; rfl), Y2.out⟩

/-- a text and an error's number -/
def Pk.two (r : List UInt8 × Nat) : Value := .tuple #[.string (strB r.1), .int .i64 (r.2 : Int)]
theorem ret_chal {l : List UInt8} {k : Nat} {r : List UInt8 × Nat} (h : r = (l, k)) : Ending.returned (.tuple #[.string (strB l), .int .i64 (k : Int)]) = .returned (Pk.two r) := by rw [h]; rfl
theorem strB_back (s : ByteArray) : strB s.data.toList = s := by obtain ⟨⟨l⟩⟩ := s; rfl
theorem ret_chal2 {s : ByteArray} {r : List UInt8 × Nat} (h : r = (s.data.toList, 0)) : Ending.returned (.tuple #[.string s, .int .i64 0]) = .returned (Pk.two r) := by
  rw [h]; unfold Pk.two; rw [strB_back]; rfl
set_option maxHeartbeats 2000000 in
theorem pchal_any (s method : ByteArray) (w : World) (hs : s.size ≤ 900000000000000000) :
    Calls Try.prog 12 #[.string s, .string method] w fun e w' => e = .returned (Pk.two (Pk.chal s.data.toList method.data.toList)) ∧ Below w.heap.size w w' := by
  have hs9 : s.size ≤ 9223372036854775807 := by omega
  by_cases h1 : method.data.toList = Pk.plain
  · have HM : Pk.meth method = #[.string ⟨#[112, 108, 97, 105, 110]⟩, .func (.func 23) #[] #[], .func (.func 8) #[] #[]] := by unfold Pk.meth; rw [if_pos h1]
    have hk : Pk.knows method = true := by unfold Pk.knows; simp [h1]
    have hm : Pk.meth method = #[.string ⟨#[112, 108, 97, 105, 110]⟩, .func (.func 23) #[] #[], .func (.func 8) #[] #[]] := HM
    go_enter Try.func12, Try.ntmps12
    go_wp2_with fail
    refine (find_any method _).mono ?_
    rintro e w1 ⟨rfl, hb⟩
    rw [hm, hk]
    have B1 := hide hb; clear hb
    go_upto_region 2 with ((with_reducible refine wpList_store_row rfl 34 (.tmp 6) (.tmp 11) rfl w1.heap.size #[.string ⟨#[112, 108, 97, 105, 110]⟩, .func (.func 23) #[] #[], .func (.func 8) #[] #[]] rfl rfl 34 _ (heap_alloc_new w1 _) ?r1 ?r2 ?r3 ?_))
    case r1 => kernel_rfl
    case r2 => rfl
    case r3 => simp [Value.oneCell']
    refine wp_world (fun Y => RowV Y w1.heap.size 34 (#[.string ⟨#[112, 108, 97, 105, 110]⟩, .func (.func 23) #[] #[], .func (.func 8) #[] #[]] : Array Value).toList ∧ Below w.heap.size w Y) ⟨row_set (heap_alloc_new w1 _), below_setRow (B1.out.alloc B1.out.size _) B1.out.size _⟩ ?_
    rintro Y ⟨y1, y2⟩
    have d1 := y1.cell (k := 1) rfl
    have d2 := y1.cell (k := 2) rfl
    have Y2 := hide y2; clear y1 y2
    by_cases hv : Pk.ver s.data.toList = true
    · go_wp2_with fail
      refine (isver_any s _ hs9).mono ?_
      rintro e w2 ⟨rfl, rfl⟩
      rw [hv]
      go_wp2_with fail
      refine (of1_any s _).mono ?_
      rintro e w3 ⟨rfl, rfl⟩
      go_wp2_with fail
      go_ret2
      exact ⟨ret_chal2 (by unfold Pk.chal; rw [if_pos h1]; simp [hv]), Y2.out⟩
    · have hv' : Pk.ver s.data.toList = false := by simpa using hv
      go_wp2_with fail
      refine (isver_any s _ hs9).mono ?_
      rintro e w2 ⟨rfl, rfl⟩
      rw [hv']
      go_wp2_with fail
      go_ret2
      exact ⟨ret_chal (by unfold Pk.chal; rw [if_pos h1]; simp [hv']), Y2.out⟩
  · by_cases h2 : method.data.toList = Pk.s256
    · have HM : Pk.meth method = #[.string ⟨#[83, 50, 53, 54]⟩, .func (.func 24) #[] #[], .func (.func 27) #[] #[]] := by unfold Pk.meth; rw [if_neg h1, if_pos h2]
      have hk : Pk.knows method = true := by unfold Pk.knows; simp [h2]
      have hm : Pk.meth method = #[.string ⟨#[83, 50, 53, 54]⟩, .func (.func 24) #[] #[], .func (.func 27) #[] #[]] := HM
      go_enter Try.func12, Try.ntmps12
      go_wp2_with fail
      refine (find_any method _).mono ?_
      rintro e w1 ⟨rfl, hb⟩
      rw [hm, hk]
      have B1 := hide hb; clear hb
      go_upto_region 2 with ((with_reducible refine wpList_store_row rfl 34 (.tmp 6) (.tmp 11) rfl w1.heap.size #[.string ⟨#[83, 50, 53, 54]⟩, .func (.func 24) #[] #[], .func (.func 27) #[] #[]] rfl rfl 34 _ (heap_alloc_new w1 _) ?r1 ?r2 ?r3 ?_))
      case r1 => kernel_rfl
      case r2 => rfl
      case r3 => simp [Value.oneCell']
      refine wp_world (fun Y => RowV Y w1.heap.size 34 (#[.string ⟨#[83, 50, 53, 54]⟩, .func (.func 24) #[] #[], .func (.func 27) #[] #[]] : Array Value).toList ∧ Below w.heap.size w Y) ⟨row_set (heap_alloc_new w1 _), below_setRow (B1.out.alloc B1.out.size _) B1.out.size _⟩ ?_
      rintro Y ⟨y1, y2⟩
      have d1 := y1.cell (k := 1) rfl
      have d2 := y1.cell (k := 2) rfl
      have Y2 := hide y2; clear y1 y2
      by_cases hv : Pk.ver s.data.toList = true
      · go_wp2_with fail
        refine (isver_any s _ hs9).mono ?_
        rintro e w2 ⟨rfl, rfl⟩
        rw [hv]
        go_wp2_with fail
        refine (of2_any s _ (by omega)).mono ?_
        rintro e w3 ⟨rfl, hb⟩
        have B3 := hide (Y2.out.trans (hb.mono Y2.out.size)); clear hb
        go_wp2_with fail
        go_ret2
        exact ⟨ret_chal (by unfold Pk.chal; rw [if_neg h1, if_pos h2]; simp [hv]), B3.out⟩
      · have hv' : Pk.ver s.data.toList = false := by simpa using hv
        go_wp2_with fail
        refine (isver_any s _ hs9).mono ?_
        rintro e w2 ⟨rfl, rfl⟩
        rw [hv']
        go_wp2_with fail
        go_ret2
        exact ⟨ret_chal (by unfold Pk.chal; rw [if_neg h1, if_pos h2]; simp [hv']), Y2.out⟩
    · have HM : Pk.meth method = #[.string ⟨#[]⟩, .nilFunc, .nilFunc] := by unfold Pk.meth; rw [if_neg h1, if_neg h2]
      have hk : Pk.knows method = false := by unfold Pk.knows; simp [h1, h2]
      have hm : Pk.meth method = #[.string ⟨#[]⟩, .nilFunc, .nilFunc] := HM
      go_enter Try.func12, Try.ntmps12
      go_wp2_with fail
      refine (find_any method _).mono ?_
      rintro e w1 ⟨rfl, hb⟩
      rw [hm, hk]
      have B1 := hide hb; clear hb
      go_upto_region 2 with ((with_reducible refine wpList_store_row rfl 34 (.tmp 6) (.tmp 11) rfl w1.heap.size #[.string ⟨#[]⟩, .nilFunc, .nilFunc] rfl rfl 34 _ (heap_alloc_new w1 _) ?r1 ?r2 ?r3 ?_))
      case r1 => kernel_rfl
      case r2 => rfl
      case r3 => simp [Value.oneCell']
      refine wp_world (fun Y => RowV Y w1.heap.size 34 (#[.string ⟨#[]⟩, .nilFunc, .nilFunc] : Array Value).toList ∧ Below w.heap.size w Y) ⟨row_set (heap_alloc_new w1 _), below_setRow (B1.out.alloc B1.out.size _) B1.out.size _⟩ ?_
      rintro Y ⟨y1, y2⟩
      have d1 := y1.cell (k := 1) rfl
      have d2 := y1.cell (k := 2) rfl
      have Y2 := hide y2; clear y1 y2
      go_wp2_with fail
      go_ret2
      exact ⟨ret_chal (by unfold Pk.chal; rw [if_neg h1, if_neg h2]), Y2.out⟩
end Go.Proofs.Ytnjpgcfkplchkaa
