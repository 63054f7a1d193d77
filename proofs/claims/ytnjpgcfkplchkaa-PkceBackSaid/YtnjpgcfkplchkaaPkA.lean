/-
  The walks of IsVerifier, the program's and the document's.
-/
import Derived.Test.YtnjpgcfkplchkaaProg
import Derived.Test.YtnjpgcfkplchkaaPkMath
import Derived.Test.YtnjpgcfkplchkaaOwn
import Derived.Lib.IndexAny
namespace Go.Proofs.Ytnjpgcfkplchkaa
open Go.RowKit

set_option maxHeartbeats 1000000 in
theorem slite_index (s : ByteArray) (c : Int) (w : World) : Calls Try.prog 22 #[.string s, .int .u8 c] w fun e w' => e = .returned (.int .i64 (Lib.indexByte s.data.toList c.toNat.toUInt8)) ∧ w = w' := by
  go_enter Try.func22, Try.ntmps22
  go_wp2_with fail
  rw [run_callFunc_extern Try.func34 (by kernel_rfl) (by kernel_rfl) (by kernel_rfl) (e := Extern.BytealgIndexByte.indexByte) (by kernel_rfl), Lib.run_indexByteString]
  simp only [Result.andThen]
  rw [Oper.upon_value]
  go_wp2
  go_ret
  exact ⟨rfl, rfl⟩
theorem index_byte (s : ByteArray) (c : Int) (w : World) : Calls Try.prog 16 #[.string s, .int .u8 c] w fun e w' => e = .returned (.int .i64 (Lib.indexByte s.data.toList c.toNat.toUInt8)) ∧ w = w' := by
  go_enter Try.func16, Try.ntmps16
  go_wp2_with fail
  refine (slite_index _ _ _).mono ?_
  rintro e w1 ⟨rfl, rfl⟩
  go_wp2_with fail
  go_ret
  exact ⟨rfl, rfl⟩

theorem four_signs (c : UInt8) : (0 ≤ Lib.indexByte [45, 46, 95, 126] c) ↔ c.toNat = 45 ∨ c.toNat = 46 ∨ c.toNat = 95 ∨ c.toNat = 126 := by
  have h := Lib.contains_iff_indexByte [45, 46, 95, 126] c
  have h2 : ([45, 46, 95, 126] : List UInt8).contains c = true ↔ c.toNat = 45 ∨ c.toNat = 46 ∨ c.toNat = 95 ∨ c.toNat = 126 := by
    simp [← UInt8.toNat_inj]
  rw [← h2, h]
  simp
theorem idx4 (c : UInt8) (r : Int) (hr : r = Lib.indexByte [45, 46, 95, 126] c) (w : World) : Calls Try.prog 16 #[.string ⟨#[45, 46, 95, 126]⟩, .int .u8 (c.toNat : Int)] w fun e w' => e = .returned (.int .i64 r) ∧ w = w' := by
  have h := index_byte ⟨#[45, 46, 95, 126]⟩ (c.toNat : Int) w
  have e : ((c.toNat : Int).toNat.toUInt8) = c := by rw [Int.toNat_natCast]; simp
  rw [e] at h
  rw [hr]; exact h
theorem bne_t {z l : Int} (h : z ≠ l) : (z != l) = true := by simpa using h
theorem bne_f {z l : Int} (h : z = l) : (z != l) = false := by simpa using h
theorem ret_boolE {a b : Bool} (h : a = b) : Ending.returned (.bool a) = .returned (.bool b) := by rw [h]

set_option maxHeartbeats 2000000 in
theorem isver_any (s : ByteArray) (w : World) (hs : s.size ≤ 9223372036854775807) :
    Calls Try.prog 8 #[.string s] w fun e w' => e = .returned (.bool (Pk.ver s.data.toList)) ∧ w = w' := by
  go_enter Try.func8, Try.ntmps8
  go_wp2_with fail
  go_loop [3] (fun v3 => ∃ i : Nat, i ≤ s.size ∧ v3 = .int .i64 i ∧ Hid ((s.data.toList.take i).all Pk.ok = true)) (fun v => s.size - (intOf v).toNat)
  case atStart => exact ⟨0, by omega, rfl, hide (by simp)⟩
  case round =>
    obtain ⟨i, hi, rfl, HA⟩ := hrel
    by_cases hlt : i < s.size
    · obtain ⟨x, hx⟩ : ∃ x, x = s[i] := ⟨_, rfl⟩
      have hx' : s.data.toList[i]? = some x := by rw [hx, List.getElem?_eq_getElem (by simpa using hlt)]; rfl
      have HX := hide hx'; clear hx'
      have hxs : s[i] = x := hx.symm
      clear hx
      obtain ⟨r, hr⟩ : ∃ r, r = Lib.indexByte [45, 46, 95, 126] x := ⟨_, rfl⟩
      have h4 := four_signs x
      rw [← hr] at h4
      have K4 : Hid (∀ w : World, Calls Try.prog 16 #[.string ⟨#[45, 46, 95, 126]⟩, .int .u8 (x.toNat : Int)] w fun e w' => e = .returned (.int .i64 r) ∧ w = w') := hide (fun w => idx4 x r hr w)
      clear hr
      have hub := UInt8.toNat_lt x
      by_cases hok : Pk.ok x = true
      · have hd := (Pk.ok_iff x).1 hok
        have hd' : (97 ≤ x.toNat ∧ x.toNat ≤ 122) ∨ (65 ≤ x.toNat ∧ x.toNat ≤ 90) ∨ (48 ≤ x.toNat ∧ x.toNat ≤ 57) ∨ 0 ≤ r := by
          rcases hd with h | h | h | h
          · exact .inl h
          · exact .inr (.inl h)
          · exact .inr (.inr (.inl h))
          · exact .inr (.inr (.inr (h4.2 h)))
        have HOK := hide hok
        clear h4 hd hok
        go_wp2_with (go_at_call 16; with_reducible refine (K4.out _).mono ?_; rintro e w1 ⟨rfl, rfl⟩)
        all_goals go_round
        all_goals first
          | exact ⟨i + 1, by omega, by go_num, hide (by rw [Pk.all_step HX.out, HA.out, HOK.out]; rfl)⟩
          | (simp [intOf]; omega)
      · have hf : Pk.ok x = false := by simpa using hok
        have hn : ¬ ((97 ≤ x.toNat ∧ x.toNat ≤ 122) ∨ (65 ≤ x.toNat ∧ x.toNat ≤ 90) ∨ (48 ≤ x.toNat ∧ x.toNat ≤ 57) ∨ x.toNat = 45 ∨ x.toNat = 46 ∨ x.toNat = 95 ∨ x.toNat = 126) := fun h => hok ((Pk.ok_iff x).2 h)
        have n1 : x.toNat < 97 ∨ 122 < x.toNat := by omega
        have n2 : x.toNat < 65 ∨ 90 < x.toNat := by omega
        have n3 : x.toNat < 48 ∨ 57 < x.toNat := by omega
        have n4 : r < 0 := by
          by_cases h : 0 ≤ r
          · have := h4.1 h; omega
          · omega
        have HOK := hide hf
        clear h4 hok hf hn
        go_wp2_with (go_at_call 16; with_reducible refine (K4.out _).mono ?_; rintro e w1 ⟨rfl, rfl⟩)
        all_goals go_ret
        all_goals exact ⟨ret_boolE (Pk.ver_all (Pk.all_false HX.out HOK.out)).symm, rfl⟩
    · have hall : s.data.toList.all Pk.ok = true := by have := HA.out; rwa [List.take_of_length_le (by simp; omega)] at this
      have HV : Hid (Pk.ver s.data.toList = (decide (43 ≤ s.size) && decide (s.size ≤ 128))) := hide (by unfold Pk.ver; rw [hall]; rfl)
      clear hall HA
      by_cases g1 : 43 ≤ s.size <;> by_cases g2 : s.size ≤ 128
      all_goals go_wp2_with fail
      all_goals go_ret
      all_goals exact ⟨ret_boolE (by rw [HV.out]; simp [g1, g2] <;> omega), rfl⟩

set_option maxHeartbeats 2000000 in
theorem rver_any (s : ByteArray) (w : World) (hs : s.size ≤ 9223372036854775807) :
    Calls Try.prog 9 #[.string s] w fun e w' => e = .returned (.bool (Pk.ver s.data.toList)) ∧ w = w' := by
  by_cases hsz : 43 ≤ s.size ∧ s.size ≤ 128
  · obtain ⟨g1, g2⟩ := hsz
    have g3 : (43 : Int) ≤ (s.size : Int) := by omega
    have g4 : (s.size : Int) ≤ 128 := by omega
    go_enter Try.func9, Try.ntmps9
    go_wp2_with fail
    go_loop [3] (fun v3 => ∃ i : Nat, i ≤ s.size ∧ v3 = .int .i64 i ∧ Hid ((s.data.toList.take i).all Pk.ok = true)) (fun v => s.size - (intOf v).toNat)
    case atStart => exact ⟨0, by omega, rfl, hide (by simp)⟩
    case round =>
      obtain ⟨i, hi, rfl, HA⟩ := hrel
      by_cases hlt : i < s.size
      · obtain ⟨x, hx⟩ : ∃ x, x = s[i] := ⟨_, rfl⟩
        have hx' : s.data.toList[i]? = some x := by rw [hx, List.getElem?_eq_getElem (by simpa using hlt)]; rfl
        have HX := hide hx'; clear hx'
        have hxs : s[i] = x := hx.symm
        clear hx
        have hub := UInt8.toNat_lt x
        by_cases hok : Pk.ok x = true
        · have hd := (Pk.ok_iff x).1 hok
          have HOK := hide hok
          clear hok
          have hd2 : (65 ≤ x.toNat ∧ x.toNat ≤ 90) ∨ (97 ≤ x.toNat ∧ x.toNat ≤ 122) ∨ (48 ≤ x.toNat ∧ x.toNat ≤ 57) ∨ x.toNat = 45 ∨ x.toNat = 46 ∨ x.toNat = 95 ∨ x.toNat = 126 := by omega
          clear hd
          rcases hd2 with hd | hd | hd | hd | hd | hd | hd
          · have m45 : (((x.toNat : Nat) : Int) != 45) = true := bne_t (by omega); have m46 : (((x.toNat : Nat) : Int) != 46) = true := bne_t (by omega); have m95 : (((x.toNat : Nat) : Int) != 95) = true := bne_t (by omega); have m126 : (((x.toNat : Nat) : Int) != 126) = true := bne_t (by omega)
            go_wp2_with fail
            go_round
            case rel => exact ⟨i + 1, by omega, by go_num, hide (by rw [Pk.all_step HX.out, HA.out, HOK.out]; rfl)⟩
            case measure => simp [intOf]; omega
          · have m45 : (((x.toNat : Nat) : Int) != 45) = true := bne_t (by omega); have m46 : (((x.toNat : Nat) : Int) != 46) = true := bne_t (by omega); have m95 : (((x.toNat : Nat) : Int) != 95) = true := bne_t (by omega); have m126 : (((x.toNat : Nat) : Int) != 126) = true := bne_t (by omega)
            go_wp2_with fail
            go_round
            case rel => exact ⟨i + 1, by omega, by go_num, hide (by rw [Pk.all_step HX.out, HA.out, HOK.out]; rfl)⟩
            case measure => simp [intOf]; omega
          · have m45 : (((x.toNat : Nat) : Int) != 45) = true := bne_t (by omega); have m46 : (((x.toNat : Nat) : Int) != 46) = true := bne_t (by omega); have m95 : (((x.toNat : Nat) : Int) != 95) = true := bne_t (by omega); have m126 : (((x.toNat : Nat) : Int) != 126) = true := bne_t (by omega)
            go_wp2_with fail
            go_round
            case rel => exact ⟨i + 1, by omega, by go_num, hide (by rw [Pk.all_step HX.out, HA.out, HOK.out]; rfl)⟩
            case measure => simp [intOf]; omega
          · have m45 : (((x.toNat : Nat) : Int) != 45) = false := bne_f (by omega); have m46 : (((x.toNat : Nat) : Int) != 46) = true := bne_t (by omega); have m95 : (((x.toNat : Nat) : Int) != 95) = true := bne_t (by omega); have m126 : (((x.toNat : Nat) : Int) != 126) = true := bne_t (by omega)
            go_wp2_with fail
            go_round
            case rel => exact ⟨i + 1, by omega, by go_num, hide (by rw [Pk.all_step HX.out, HA.out, HOK.out]; rfl)⟩
            case measure => simp [intOf]; omega
          · have m45 : (((x.toNat : Nat) : Int) != 45) = true := bne_t (by omega); have m46 : (((x.toNat : Nat) : Int) != 46) = false := bne_f (by omega); have m95 : (((x.toNat : Nat) : Int) != 95) = true := bne_t (by omega); have m126 : (((x.toNat : Nat) : Int) != 126) = true := bne_t (by omega)
            go_wp2_with fail
            go_round
            case rel => exact ⟨i + 1, by omega, by go_num, hide (by rw [Pk.all_step HX.out, HA.out, HOK.out]; rfl)⟩
            case measure => simp [intOf]; omega
          · have m45 : (((x.toNat : Nat) : Int) != 45) = true := bne_t (by omega); have m46 : (((x.toNat : Nat) : Int) != 46) = true := bne_t (by omega); have m95 : (((x.toNat : Nat) : Int) != 95) = false := bne_f (by omega); have m126 : (((x.toNat : Nat) : Int) != 126) = true := bne_t (by omega)
            go_wp2_with fail
            go_round
            case rel => exact ⟨i + 1, by omega, by go_num, hide (by rw [Pk.all_step HX.out, HA.out, HOK.out]; rfl)⟩
            case measure => simp [intOf]; omega
          · have m45 : (((x.toNat : Nat) : Int) != 45) = true := bne_t (by omega); have m46 : (((x.toNat : Nat) : Int) != 46) = true := bne_t (by omega); have m95 : (((x.toNat : Nat) : Int) != 95) = true := bne_t (by omega); have m126 : (((x.toNat : Nat) : Int) != 126) = false := bne_f (by omega)
            go_wp2_with fail
            go_round
            case rel => exact ⟨i + 1, by omega, by go_num, hide (by rw [Pk.all_step HX.out, HA.out, HOK.out]; rfl)⟩
            case measure => simp [intOf]; omega
        · have hf : Pk.ok x = false := by simpa using hok
          have hn : ¬ ((97 ≤ x.toNat ∧ x.toNat ≤ 122) ∨ (65 ≤ x.toNat ∧ x.toNat ≤ 90) ∨ (48 ≤ x.toNat ∧ x.toNat ≤ 57) ∨ x.toNat = 45 ∨ x.toNat = 46 ∨ x.toNat = 95 ∨ x.toNat = 126) := fun h => hok ((Pk.ok_iff x).2 h)
          have n1 : x.toNat < 97 ∨ 122 < x.toNat := by omega
          have n2 : x.toNat < 65 ∨ 90 < x.toNat := by omega
          have n3 : x.toNat < 48 ∨ 57 < x.toNat := by omega
          have m45 : (((x.toNat : Nat) : Int) != 45) = true := bne_t (by omega); have m46 : (((x.toNat : Nat) : Int) != 46) = true := bne_t (by omega); have m95 : (((x.toNat : Nat) : Int) != 95) = true := bne_t (by omega); have m126 : (((x.toNat : Nat) : Int) != 126) = true := bne_t (by omega)
          have HOK := hide hf
          clear hok hf hn
          go_wp2_with fail
          all_goals first
            | (go_ret; exact ⟨ret_boolE (Pk.ver_all (Pk.all_false HX.out HOK.out)).symm, rfl⟩)
            | (exfalso; rename_i h; simp at h; omega)
      · have hall : s.data.toList.all Pk.ok = true := by have := HA.out; rwa [List.take_of_length_le (by simp; omega)] at this
        have HV : Hid (Pk.ver s.data.toList = true) := hide (by unfold Pk.ver; rw [hall]; simp [g1, g2])
        clear hall HA
        go_wp2_with fail
        go_ret
        exact ⟨ret_boolE HV.out.symm, rfl⟩
  · have HV : Hid (Pk.ver s.data.toList = false) := hide (by
      unfold Pk.ver
      by_cases g1 : 43 ≤ s.data.toList.length
      · have g2 : ¬ s.data.toList.length ≤ 128 := fun h => hsz ⟨g1, h⟩
        simp only [decide_eq_false g2, Bool.and_false]
      · simp only [decide_eq_false g1, Bool.and_false, Bool.false_and])
    have g : s.size < 43 ∨ 128 < s.size := by omega
    go_enter Try.func9, Try.ntmps9
    rcases g with g | g
    all_goals go_wp2_with fail
    all_goals go_ret
    all_goals exact ⟨ret_boolE HV.out.symm, rfl⟩
end Go.Proofs.Ytnjpgcfkplchkaa
