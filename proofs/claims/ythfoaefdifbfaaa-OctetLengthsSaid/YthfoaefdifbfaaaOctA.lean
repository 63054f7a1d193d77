/-
  The walks of octet.worth and octet.sixes.
-/
import Derived.Test.YthfoaefdifbfaaaProg
import Derived.Test.YthfoaefdifbfaaaOwn
import Derived.Test.YthfoaefdifbfaaaSame
import Derived.Test.YthfoaefdifbfaaaOctMath
import Derived.Deep.DeepMust
namespace Go.Proofs.Ythfoaefdifbfaaa
open Go.RowKit

theorem ret_int {k : IntKind} {a b : Int} (h : a = b) : Ending.returned (.int k a) = .returned (.int k b) := by rw [h]

/-- a sign's place, or -1 -/
def worthI (signs : List UInt8) (c : UInt8) : Int := match Oct.place signs c with | some i => (i : Int) | none => -1
theorem worthI_hit {signs : List UInt8} {c : UInt8} {i : Nat} (h : signs[i]? = some c) (hb : ∀ j, j < i → signs[j]? ≠ some c) : worthI signs c = i := by
  unfold worthI
  cases hp : Oct.place signs c with
  | none => exact absurd (List.mem_of_getElem? h) (Oct.place_none.1 hp)
  | some k =>
    have hk := (Oct.place_some hp).1
    simp only
    rcases Nat.lt_trichotomy k i with hlt | heq | hgt
    · exact absurd hk (hb k hlt)
    · omega
    · unfold Oct.place at hp
      rw [List.idxOf?_eq_some_iff] at hp
      obtain ⟨hl, he, hno⟩ := hp
      obtain ⟨hi, hie⟩ := List.getElem?_eq_some_iff.1 h
      exact absurd hie (hno i hgt)
theorem worthI_miss {signs : List UInt8} {c : UInt8} (h : ∀ j, j < signs.length → signs[j]? ≠ some c) : worthI signs c = -1 := by
  unfold worthI
  rw [Oct.place_none.2]
  intro hm
  obtain ⟨j, hj, he⟩ := List.mem_iff_getElem.1 hm
  exact h j hj (by rw [List.getElem?_eq_getElem hj, he])

set_option maxHeartbeats 400000 in
theorem worth_any (s : ByteArray) (c : UInt8) (w : World) (hs : s.size ≤ 9223372036854775807) :
    Calls Try.prog 39 #[.string s, .int .u8 (c.toNat : Int)] w fun e w' => e = .returned (.int .i64 (worthI s.data.toList c)) ∧ w = w' := by
  go_enter Try.func39, Try.ntmps39
  go_wp2_with fail
  go_loop [5] (fun v5 => ∃ i : Nat, i ≤ s.size ∧ v5 = .int .i64 i ∧ Hid (∀ j, j < i → s.data.toList[j]? ≠ some c)) (fun y => s.size - (intOf y).toNat)
  case atStart => exact ⟨0, by omega, rfl, hide (fun j hj => absurd hj (by omega))⟩
  case round =>
    obtain ⟨i, hi, rfl, HN⟩ := hrel
    by_cases hlt : i < s.size
    · obtain ⟨x, hx⟩ : ∃ x, x = s[i] := ⟨_, rfl⟩
      have hx' : s.data.toList[i]? = some x := by rw [hx, List.getElem?_eq_getElem (by simpa using hlt)]; rfl
      have HX := hide hx'; clear hx'
      have hxs : s[i] = x := hx.symm
      clear hx
      by_cases he : x = c
      · have hb : (((x.toNat : Nat) : Int) == ((c.toNat : Nat) : Int)) = true := by rw [he]; simp
        have HE := hide he; clear he
        go_wp2_with fail
        go_ret
        exact ⟨ret_int (worthI_hit (by rw [HX.out, HE.out]) HN.out).symm, rfl⟩
      · have hb : (((x.toNat : Nat) : Int) == ((c.toNat : Nat) : Int)) = false := by
          rw [beq_eq_false_iff_ne]; intro h; exact he (UInt8.toNat_inj.1 (by omega))
        have HE := hide he; clear he
        go_wp2_with fail
        go_round
        case rel =>
          refine ⟨i + 1, by omega, by go_num, hide fun j hj => ?_⟩
          rcases Nat.lt_or_ge j i with h | h
          · exact HN.out j h
          · obtain rfl : j = i := by omega
            rw [HX.out]; intro e; injection e with e; exact HE.out e
        case measure => simp [intOf]; omega
    · go_wp2_with fail
      go_ret
      exact ⟨ret_int (worthI_miss (fun j hj => HN.out j (by simp at hj; omega))).symm, rfl⟩
end Go.Proofs.Ythfoaefdifbfaaa
