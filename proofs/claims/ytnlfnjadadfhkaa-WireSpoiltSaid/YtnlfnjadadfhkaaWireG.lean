/-
  The walk of the law's write: the frame of puts.
-/
import Derived.Test.YtnlfnjadadfhkaaWireF
import Derived.Test.YtnlfnjadadfhkaaWireE
namespace Go.Proofs.Ytnlfnjadadfhkaa
open Go.RowKit
set_option linter.unusedVariables false

def Wire.bytesOf (ps : List Put) : List UInt8 := (ps.map Wire.putB).flatten
def Wire.badOf (ps : List Put) : Int := ps.foldl (fun b p => Wire.putBad p b) 0
def Wire.out (ps : List Put) : List UInt8 × Int := Wire.said (Wire.bytesOf ps) (Wire.badOf ps)
theorem Wire.bytesOf_step {ps : List Put} {i : Nat} {p : Put} (h : ps[i]? = some p) : Wire.bytesOf (ps.take (i + 1)) = Wire.bytesOf (ps.take i) ++ Wire.putB p := by
  unfold Wire.bytesOf
  rw [List.take_add_one, h]; simp
theorem Wire.badOf_step {ps : List Put} {i : Nat} {p : Put} (h : ps[i]? = some p) : Wire.badOf (ps.take (i + 1)) = Wire.putBad p (Wire.badOf (ps.take i)) := by
  unfold Wire.badOf
  rw [List.take_add_one, h]; simp
theorem Wire.bytesOf_length (ps : List Put) : (Wire.bytesOf ps).length ≤ 268476500 * ps.length := by
  induction ps with
  | nil => simp [bytesOf]
  | cons p t ih =>
    have := Wire.putB_length p
    unfold Wire.bytesOf at ih ⊢
    simp only [List.map_cons, List.flatten_cons, List.length_append, List.length_cons]
    omega
/-- bytes of the call's own and an error -/
def GivesE (r : List UInt8 × Int) (w : World) (e : Ending) (w' : World) : Prop :=
  ∃ A c, e = .returned (.tuple #[.slice A r.1.length c, .int .i64 r.2]) ∧ Own w' w.heap.size 5 A r.1.length c (r.1.map bv) ∧ Below w.heap.size w w'
set_option maxHeartbeats 1000000 in
theorem write_any (A : Option Addr) (n c : Nat) (ps : List Put) (w : World) (hp : SlPut w w.heap.size A n ps) (hn : n ≤ 400) :
    Calls Try.prog 12 #[.slice A n c] w (GivesE (Wire.out ps) w) := by
  have HP := hide hp; have HN := hide hp.1; clear hp
  go_enter Try.func12, Try.ntmps12
  go_wp2_with fail
  refine (newwriter_any _).mono ?_
  rintro e w1 ⟨rfl, h1, hb⟩
  have S1 : Hid (WSt w1 w.heap.size w.heap.size 76 (Wire.bytesOf (ps.take 0)) (Wire.badOf (ps.take 0))) := hide h1
  have B1 := hide hb; clear h1 hb
  go_wp2_with fail
  go_loopw [5] (fun v5 wq => ∃ i : Nat, i ≤ n ∧ v5 = .int .i64 i ∧ Hid (WSt wq w.heap.size w.heap.size 76 (Wire.bytesOf (ps.take i)) (Wire.badOf (ps.take i))) ∧ Hid (Below w.heap.size w wq)) (fun v _ => n - (intOf v).toNat)
  case atStart => exact ⟨0, by omega, rfl, S1, B1⟩
  case round =>
    clear S1 B1
    obtain ⟨i, hi2, rfl, S, B⟩ := hrel
    by_cases hlt : i < n
    · obtain ⟨b, off, p, rfl, hbb, hpi, hok, c0, c1, c2, A2, d2, c3, hl2⟩ := (HP.out.below B.out (Nat.le_refl _)).at_ hlt
      have HPI := hide hpi; have HL2 := hide hl2; have HOK := hide hok
      have HLEN : Hid ((Wire.bytesOf (ps.take i)).length + 10 + 65546 * 4096 + 65546 ≤ 140737488355328) := hide (by
        have h1 := Wire.bytesOf_length (ps.take i)
        have h2 : (ps.take i).length ≤ 400 := by rw [List.length_take]; omega
        have h3 := Nat.mul_le_mul_left 268476500 h2
        omega)
      have b1 : (0 : Int) ≤ (i : Int) := by omega
      have b2 : (i : Int) < (n : Int) := by omega
      clear hpi hl2 hok
      go_wp2_with fail
      refine (put_any w.heap.size w.heap.size p A2 d2 _ _ _ HOK.out S.out (Nat.le_refl _) HL2.out HLEN.out).mono ?_
      rintro e w2 ⟨rfl, h1, hb⟩
      rw [← Wire.bytesOf_step HPI.out, ← Wire.badOf_step HPI.out] at h1
      have S2 := hide h1; have B2 := hide (B.out.trans hb); clear h1 hb S B
      go_wp2_with fail
      go_roundw
      case rel => exact ⟨i + 1, by omega, by go_num, S2, B2⟩
      case measure => simp [intOf]; omega
    · have HF : Hid (ps.take i = ps) := hide (List.take_of_length_le (by rw [HN.out]; omega))
      have HLEN : Hid ((Wire.bytesOf ps).length ≤ 140737488355000) := hide (by
        have h1 := Wire.bytesOf_length ps
        have h2 : ps.length ≤ 400 := by rw [HN.out]; omega
        have h3 := Nat.mul_le_mul_left 268476500 h2
        omega)
      have hge : ¬ ((i : Int) < (n : Int)) := by omega
      rw [HF.out] at S
      go_wp2_with fail
      refine (frame_any w.heap.size w.heap.size (Wire.bytesOf ps) (Wire.badOf ps) _ S.out (Nat.le_refl _) HLEN.out).mono ?_
      rintro e w2 ⟨A3, c3, rfl, ho, hb⟩
      have O2 := hide (ho.base B.out.size); have B2 := hide (B.out.trans (hb.mono B.out.size)); clear ho hb S B
      go_wp2_with fail
      go_ret2
      exact ⟨A3, c3, rfl, O2.out, B2.out⟩
end Go.Proofs.Ytnlfnjadadfhkaa
