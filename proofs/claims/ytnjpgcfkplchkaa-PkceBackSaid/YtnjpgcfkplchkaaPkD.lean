/-
  The walks of Check; of the document's May, Challenge, Check.
-/
import Derived.Test.YtnjpgcfkplchkaaPkC
namespace Go.Proofs.Ytnjpgcfkplchkaa
open Go.RowKit Go.Great

theorem Pk.chal_length (s method : List UInt8) : (Pk.chal s method).1.length ≤ s.length + 43 := by
  unfold Pk.chal
  split
  · split
    · simp
    · simp
  · split
    · split
      · simp only [Oct.webL_length, Sha.sum_length]; omega
      · simp
    · simp
theorem strB_data_eq (l : List UInt8) (c : ByteArray) : decide ((strB l).data = c.data) = decide (l = c.data.toList) := by
  have h : (strB l).data = c.data ↔ l = c.data.toList := ⟨fun h => by rw [← h]; rfl, fun h => by rw [h]; rfl⟩
  simp only [h]
set_option maxHeartbeats 2000000 in
theorem pcheck_any (c method v : ByteArray) (w : World) (hc : c.size ≤ 900000000000000000) (hv : v.size ≤ 900000000000000000) :
    Calls Try.prog 14 #[.string c, .string method, .string v] w fun e w' => e = .returned (.bool (Pk.check c.data.toList method.data.toList v.data.toList)) ∧ Below w.heap.size w w' := by
  obtain ⟨l, k, hr⟩ : ∃ l k, Pk.chal v.data.toList method.data.toList = (l, k) := ⟨_, _, rfl⟩
  have hl : l.length ≤ 900000000000000043 := by
    have := Pk.chal_length v.data.toList method.data.toList
    rw [hr] at this
    have e : v.data.toList.length = v.size := rfl
    simp only at this
    omega
  have R := hide hr; have HL := hide hl
  clear hr hl
  go_enter Try.func14, Try.ntmps14
  go_wp2_with fail
  refine (pchal_any v method _ hv).mono ?_
  rintro e w1 ⟨rfl, hb⟩
  rw [R.out, show Pk.two (l, k) = .tuple #[.string (strB l), .int .i64 (k : Int)] from rfl]
  have B1 := hide hb; clear hb
  by_cases hk : k = 0
  · subst hk
    obtain ⟨c1, X1, a1, a2, k1, s1, b1⟩ := conv_sb (strB l) w1 (by rw [strB_size]; have := HL.out; omega)
    obtain ⟨c2, X2, a3, a4, k2, s2, b2⟩ := conv_sb c X1 (by omega)
    have S1 := hide (s1.up b2); have S2 := hide s2
    have B2 := hide ((B1.out.trans (b1.mono B1.out.size)).trans (b2.mono (B1.out.trans (b1.mono B1.out.size)).size))
    clear s1 s2 b1 b2
    go_wp2_with fail
    refine (osame_any _ _ (strB l).size c.size c1 c2 _ _ _ S1.out S2.out (by rw [strB_size]; have := HL.out; omega) (by omega)).mono ?_
    rintro e w2 ⟨rfl, hb⟩
    have B3 := hide (B2.out.trans (hb.mono B2.out.size)); clear hb
    go_wp2_with fail
    go_ret
    exact ⟨ret_boolE (by unfold Pk.check; rw [R.out, strB_data_eq]; simp), B3.out⟩
  · have hkb : ((k : Int) == 0) = false := by rw [beq_eq_false_iff_ne]; omega
    go_wp2_with fail
    go_ret
    exact ⟨ret_boolE (by unfold Pk.check; rw [R.out]; simp [hk]), B1.out⟩

set_option maxHeartbeats 2000000 in
theorem rmay_any (s method : ByteArray) (w : World) (hs : s.size ≤ 1048576) :
    Calls Try.prog 11 #[.string s, .string method] w fun e w' => e = .returned (.bool (Pk.may s.data.toList method.data.toList)) ∧ Below w.heap.size w w' := by
  by_cases h1 : method.data.toList = Pk.plain
  · have HV : Hid (Pk.may s.data.toList method.data.toList = Pk.ver s.data.toList) := hide (by unfold Pk.may; rw [if_pos h1])
    have p1 : (method.toList == ([112, 108, 97, 105, 110] : List UInt8)) = true := by rw [ByteArray.toList_eq, h1]; rfl
    have p2 : (method.toList != ([112, 108, 97, 105, 110] : List UInt8)) = false := by rw [ByteArray.toList_eq, h1]; rfl
    clear h1
    go_enter Try.func11, Try.ntmps11
    go_wp2_with fail
    refine (rver_any s _ (by omega)).mono ?_
    rintro e w1 ⟨rfl, rfl⟩
    go_wp2_with fail
    go_ret
    exact ⟨ret_boolE HV.out.symm, Below.refl _ _⟩
  · obtain ⟨r, hr⟩ : ∃ r, r = Oct.unwebL Oct.webS s.data.toList := ⟨_, rfl⟩
    have R := hide hr.symm
    by_cases h2 : method.data.toList = Pk.s256
    · have HV : Hid (Pk.may s.data.toList method.data.toList = decide (r.map List.length = some 32)) := hide (by unfold Pk.may; rw [if_neg h1, decide_eq_true h2, hr]; simp)
      have p1 : (method.toList == ([112, 108, 97, 105, 110] : List UInt8)) = false := by rw [ByteArray.toList_eq, beq_eq_false_iff_ne]; exact h1
      have p2 : (method.toList != ([112, 108, 97, 105, 110] : List UInt8)) = true := by rw [ByteArray.toList_eq, bne_iff_ne]; exact h1
      have q1 : (method.toList == ([83, 50, 53, 54] : List UInt8)) = true := by rw [ByteArray.toList_eq, h2]; rfl
      have q2 : (method.toList != ([83, 50, 53, 54] : List UInt8)) = false := by rw [ByteArray.toList_eq, h2]; rfl
      clear h1 h2 hr
      go_enter Try.func11, Try.ntmps11
      go_wp2_with fail
      refine (runweb_any s _ hs).mono ?_
      rintro e w1 ⟨A, m, c, rfl, ho, hb⟩
      rw [R.out] at ho ⊢
      have B1 := hide hb; clear hb
      have hl := ho.slb.len
      cases r with
      | none =>
        rw [show errI none = 3 from rfl]
        clear ho hl
        go_wp2_with fail
        go_ret
        exact ⟨ret_boolE (by rw [HV.out]; rfl), B1.out⟩
      | some b =>
        rw [show errI (some b) = 0 from rfl]
        have hl2 : b.length = m := hl
        have HW : Hid (decide ((some b).map List.length = some 32) = ((m : Int) == 32)) := hide (by
          rw [← hl2]
          by_cases h : b.length = 32
          · simp [h]
          · have : ¬ ((b.length : Int) = 32) := by omega
            simp [h, this])
        clear ho hl hl2
        go_wp2_with fail
        go_ret
        exact ⟨ret_boolE (by rw [HV.out, HW.out]), B1.out⟩
    · have HV : Hid (Pk.may s.data.toList method.data.toList = false) := hide (by unfold Pk.may; rw [if_neg h1, decide_eq_false h2]; rfl)
      have p1 : (method.toList == ([112, 108, 97, 105, 110] : List UInt8)) = false := by rw [ByteArray.toList_eq, beq_eq_false_iff_ne]; exact h1
      have p2 : (method.toList != ([112, 108, 97, 105, 110] : List UInt8)) = true := by rw [ByteArray.toList_eq, bne_iff_ne]; exact h1
      have q1 : (method.toList == ([83, 50, 53, 54] : List UInt8)) = false := by rw [ByteArray.toList_eq, beq_eq_false_iff_ne]; exact h2
      have q2 : (method.toList != ([83, 50, 53, 54] : List UInt8)) = true := by rw [ByteArray.toList_eq, bne_iff_ne]; exact h2
      clear h1 h2 hr
      go_enter Try.func11, Try.ntmps11
      go_wp2_with fail
      refine (runweb_any s _ hs).mono ?_
      rintro e w1 ⟨A, m, c, rfl, ho, hb⟩
      have B1 := hide hb; clear hb ho
      go_wp2_with fail
      go_ret
      exact ⟨ret_boolE HV.out.symm, B1.out⟩

set_option maxHeartbeats 2000000 in
theorem rchal_any (s method : ByteArray) (w : World) (hs : s.size ≤ 900000000000000000) :
    Calls Try.prog 13 #[.string s, .string method] w fun e w' => e = .returned (Pk.two (Pk.chal s.data.toList method.data.toList)) ∧ Below w.heap.size w w' := by
  have hs9 : s.size ≤ 9223372036854775807 := by omega
  by_cases h1 : method.data.toList = Pk.plain
  · have hE : Pk.chal s.data.toList method.data.toList = if Pk.ver s.data.toList then (s.data.toList, 0) else ([], 3) := by unfold Pk.chal; rw [if_pos h1]
    have HE := hide hE; clear hE
    have p1 : (method.toList == ([112, 108, 97, 105, 110] : List UInt8)) = true := by rw [ByteArray.toList_eq, h1]; rfl
    have p2 : (method.toList != ([112, 108, 97, 105, 110] : List UInt8)) = false := by rw [ByteArray.toList_eq, h1]; rfl
    clear h1
    by_cases hv : Pk.ver s.data.toList = true
    · go_enter Try.func13, Try.ntmps13
      go_wp2_with fail
      refine (rver_any s _ hs9).mono ?_
      rintro e w1 ⟨rfl, rfl⟩
      rw [hv]
      go_wp2_with fail
      go_ret2
      exact ⟨ret_chal2 (by rw [HE.out]; simp [hv]), Below.refl _ _⟩
    · have hv' : Pk.ver s.data.toList = false := by simpa using hv
      go_enter Try.func13, Try.ntmps13
      go_wp2_with fail
      refine (rver_any s _ hs9).mono ?_
      rintro e w1 ⟨rfl, rfl⟩
      rw [hv']
      go_wp2_with fail
      go_ret2
      exact ⟨ret_chal (by rw [HE.out]; simp [hv']), Below.refl _ _⟩
  · by_cases h2 : method.data.toList = Pk.s256
    · have hE : Pk.chal s.data.toList method.data.toList = if Pk.ver s.data.toList then (Oct.webL Oct.webS (Sha.sum s.data.toList), 0) else ([], 3) := by unfold Pk.chal; rw [if_neg h1, if_pos h2]
      have HE := hide hE; clear hE
      have p1 : (method.toList == ([112, 108, 97, 105, 110] : List UInt8)) = false := by rw [ByteArray.toList_eq, beq_eq_false_iff_ne]; exact h1
      have p2 : (method.toList != ([112, 108, 97, 105, 110] : List UInt8)) = true := by rw [ByteArray.toList_eq, bne_iff_ne]; exact h1
      have q1 : (method.toList == ([83, 50, 53, 54] : List UInt8)) = true := by rw [ByteArray.toList_eq, h2]; rfl
      have q2 : (method.toList != ([83, 50, 53, 54] : List UInt8)) = false := by rw [ByteArray.toList_eq, h2]; rfl
      clear h1 h2
      by_cases hv : Pk.ver s.data.toList = true
      · have hsz : s.size ≤ 128 := by
          have := hv; unfold Pk.ver at this
          simp only [Bool.and_eq_true, decide_eq_true_eq] at this
          exact this.2
        obtain ⟨c, X, a1, a2, kc, hsl, hb⟩ := conv_sb s w (by omega)
        have HS := hide hsl; have HB := hide hb; clear hsl hb
        go_enter Try.func13, Try.ntmps13
        go_wp2_with fail
        refine (rver_any s _ hs9).mono ?_
        rintro e w1 ⟨rfl, rfl⟩
        rw [hv]
        go_wp2_with fail
        refine (rdig_any _ s.size c s.data.toList _ HS.out (by omega)).mono ?_
        rintro e w1 ⟨rfl, hb⟩
        have B1 := hide (HB.out.trans (hb.mono HB.out.size)); clear hb HS HB kc
        obtain ⟨C, hC⟩ : ∃ C, C = ((Sha.sum s.data.toList).map bv).toArray := ⟨_, rfl⟩
        have h1 : C.all (·.oneCell') = true := by rw [hC]; exact bytes_one _
        have hs : C.size = 32 := by rw [hC]; simp [Sha.sum_length]
        rw [← hC]
        have HC := hide hC; have HSC := hide hs; have H1 := hide h1
        clear hC hs h1
        go_upto_region 8 with ((with_reducible refine wpList_store_row rfl 41 (.tmp 6) (.tmp 21) rfl w1.heap.size C rfl rfl 41 _ (heap_alloc_new w1 _) ?r1 ?r2 H1.out ?_))
        case r1 => rw [HSC.out]; kernel_rfl
        case r2 => rw [HSC.out]; rfl
        refine wp_world (fun Y => SlB Y Y.heap.size (some ⟨w1.heap.size, 0, none⟩) 32 (Sha.sum s.data.toList) ∧ Below w.heap.size w Y)
          ⟨SlB.of_block (rest := []) (by rw [List.append_nil, ← HC.out]; exact row_set (heap_alloc_new w1 _)) (by simp) (Sha.sum_length _), below_setRow (B1.out.alloc B1.out.size _) B1.out.size _⟩ ?_
        rintro Y ⟨y1, y2⟩
        have Y1 := hide y1; have Y2 := hide y2
        clear y1 y2
        go_wp2_with fail
        refine (rweb_any _ 32 32 _ _ Y1.out (by omega)).mono ?_
        rintro e w2 ⟨rfl, hb⟩
        have B2 := hide (Y2.out.trans (hb.mono Y2.out.size)); clear hb
        go_wp2_with fail
        go_ret2
        exact ⟨ret_chal (by rw [HE.out]; simp [hv]), B2.out⟩
      · have hv' : Pk.ver s.data.toList = false := by simpa using hv
        go_enter Try.func13, Try.ntmps13
        go_wp2_with fail
        refine (rver_any s _ hs9).mono ?_
        rintro e w1 ⟨rfl, rfl⟩
        rw [hv']
        go_wp2_with fail
        go_ret2
        exact ⟨ret_chal (by rw [HE.out]; simp [hv']), Below.refl _ _⟩
    · have HE : Hid (Pk.chal s.data.toList method.data.toList = ([], 1)) := hide (by unfold Pk.chal; rw [if_neg h1, if_neg h2])
      have p1 : (method.toList == ([112, 108, 97, 105, 110] : List UInt8)) = false := by rw [ByteArray.toList_eq, beq_eq_false_iff_ne]; exact h1
      have p2 : (method.toList != ([112, 108, 97, 105, 110] : List UInt8)) = true := by rw [ByteArray.toList_eq, bne_iff_ne]; exact h1
      have q1 : (method.toList == ([83, 50, 53, 54] : List UInt8)) = false := by rw [ByteArray.toList_eq, beq_eq_false_iff_ne]; exact h2
      have q2 : (method.toList != ([83, 50, 53, 54] : List UInt8)) = true := by rw [ByteArray.toList_eq, bne_iff_ne]; exact h2
      clear h1 h2
      go_enter Try.func13, Try.ntmps13
      go_wp2_with fail
      go_ret2
      exact ⟨ret_chal HE.out, Below.refl _ _⟩

set_option maxHeartbeats 2000000 in
theorem rcheck_any (c method v : ByteArray) (w : World) (hv : v.size ≤ 900000000000000000) :
    Calls Try.prog 15 #[.string c, .string method, .string v] w fun e w' => e = .returned (.bool (Pk.check c.data.toList method.data.toList v.data.toList)) ∧ Below w.heap.size w w' := by
  obtain ⟨l, k, hr⟩ : ∃ l k, Pk.chal v.data.toList method.data.toList = (l, k) := ⟨_, _, rfl⟩
  have R := hide hr
  clear hr
  go_enter Try.func15, Try.ntmps15
  go_wp2_with fail
  refine (rchal_any v method _ hv).mono ?_
  rintro e w1 ⟨rfl, hb⟩
  rw [R.out, show Pk.two (l, k) = .tuple #[.string (strB l), .int .i64 (k : Int)] from rfl]
  have B1 := hide hb; clear hb
  by_cases hk : k = 0
  · subst hk
    have HB : Hid (((strB l).toList == c.toList) = decide (l = c.data.toList)) := hide (by
      rw [ByteArray.toList_eq, ByteArray.toList_eq, strB_data]
      by_cases h : l = c.data.toList <;> simp [h])
    go_wp2_with fail
    go_ret
    exact ⟨ret_boolE (by unfold Pk.check; rw [R.out, HB.out]; rfl), B1.out⟩
  · have hkb : ((k : Int) == 0) = false := by rw [beq_eq_false_iff_ne]; omega
    go_wp2_with fail
    go_ret
    exact ⟨ret_boolE (by unfold Pk.check; rw [R.out]; simp [hk]), B1.out⟩
end Go.Proofs.Ytnjpgcfkplchkaa
