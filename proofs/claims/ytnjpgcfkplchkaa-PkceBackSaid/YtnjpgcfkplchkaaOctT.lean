/-
  The walks of signetref01: sign, number, bits.
-/
import Derived.Test.YtnjpgcfkplchkaaOctR
namespace Go.Proofs.Ytnjpgcfkplchkaa
open Go.RowKit

def signsOf (web : Bool) : List UInt8 := if web then Oct.webS else Oct.basicS
theorem sg_a : ∀ n, n < 26 → (Oct.webS.getD n 0).toNat = 65 + n ∧ (Oct.basicS.getD n 0).toNat = 65 + n := by decide +kernel
theorem sg_b : ∀ n, n < 52 → ¬ n < 26 → (Oct.webS.getD n 0).toNat = 71 + n ∧ (Oct.basicS.getD n 0).toNat = 71 + n := by decide +kernel
theorem sg_c : ∀ n, n < 62 → ¬ n < 52 → (Oct.webS.getD n 0).toNat = n - 4 ∧ (Oct.basicS.getD n 0).toNat = n - 4 := by decide +kernel
set_option maxHeartbeats 400000 in
theorem sign_any (n : Nat) (hn : n < 64) (web : Bool) (w : World) :
    Calls Try.prog 38 #[.int .i64 (n : Int), .bool web] w fun e w' => e = .returned (.int .u8 (((signsOf web).getD n 0).toNat : Int)) ∧ w' = w := by
  obtain ⟨v, hv⟩ : ∃ v, v = ((signsOf web).getD n 0).toNat := ⟨_, rfl⟩
  rw [← hv]
  by_cases h1 : n < 26
  · have e : v = 65 + n := by rw [hv]; cases web; exact (sg_a n h1).2; exact (sg_a n h1).1
    have HE := hide e; clear e hv
    go_enter Try.func38, Try.ntmps38
    go_wp2_with fail
    go_ret
    exact ⟨ret_u8 (by rw [HE.out]; omega), rfl⟩
  by_cases h2 : n < 52
  · have e : v = 71 + n := by rw [hv]; cases web; exact (sg_b n h2 h1).2; exact (sg_b n h2 h1).1
    have HE := hide e; clear e hv
    go_enter Try.func38, Try.ntmps38
    go_wp2_with fail
    go_ret
    exact ⟨ret_u8 (by rw [HE.out]; omega), rfl⟩
  by_cases h3 : n < 62
  · have e : v = n - 4 := by rw [hv]; cases web; exact (sg_c n h3 h2).2; exact (sg_c n h3 h2).1
    have HE := hide e; clear e hv
    go_enter Try.func38, Try.ntmps38
    go_wp2_with fail
    go_ret
    exact ⟨ret_u8 (by rw [HE.out]; omega), rfl⟩
  have h4 : n = 62 ∨ n = 63 := by omega
  rcases h4 with rfl | rfl
  · cases web
    · have HE : Hid (v = 43) := hide (by rw [hv]; decide +kernel)
      clear hv h1 h2 h3
      go_enter Try.func38, Try.ntmps38
      go_wp2_with fail
      go_ret
      exact ⟨ret_u8 (by rw [HE.out]; rfl), rfl⟩
    · have HE : Hid (v = 45) := hide (by rw [hv]; decide +kernel)
      clear hv h1 h2 h3
      go_enter Try.func38, Try.ntmps38
      go_wp2_with fail
      go_ret
      exact ⟨ret_u8 (by rw [HE.out]; rfl), rfl⟩
  · cases web
    · have HE : Hid (v = 47) := hide (by rw [hv]; decide +kernel)
      clear hv h1 h2 h3
      go_enter Try.func38, Try.ntmps38
      go_wp2_with fail
      go_ret
      exact ⟨ret_u8 (by rw [HE.out]; rfl), rfl⟩
    · have HE : Hid (v = 95) := hide (by rw [hv]; decide +kernel)
      clear hv h1 h2 h3
      go_enter Try.func38, Try.ntmps38
      go_wp2_with fail
      go_ret
      exact ⟨ret_u8 (by rw [HE.out]; rfl), rfl⟩

/-- bits as cells -/
def tv (b : Bool) : Value := .bool b
theorem bit_at {w : World} {B n : Nat} {A : Option Addr} {l : List Bool} (h : Sl w B A n (l.map tv)) {k : Nat} (hk : k < n) : ∃ b off x, A = some ⟨b, off, none⟩ ∧ b < B ∧ w.cell? ⟨b, off + k, none⟩ = some (.bool x) ∧ Hid (l[k]? = some x) := by
  obtain ⟨b, off, u, e, hb, hu, hc⟩ := h.at_ hk
  rw [List.getElem?_map] at hu
  cases hx : l[k]? with
  | none => rw [hx] at hu; cases hu
  | some x => rw [hx] at hu; injection hu with hu; subst hu; exact ⟨b, off, x, e, hb, hc, rfl⟩

set_option maxHeartbeats 400000 in
theorem number_any (A : Option Addr) (n c : Nat) (l : List Bool) (w : World) (hb : Sl w w.heap.size A n (l.map tv)) (hn : n ≤ 8) :
    Calls Try.prog 39 #[.slice A n c] w fun e w' => e = .returned (.int .i64 (Oct.num l : Int)) ∧ w' = w := by
  have hl := hide (show l.length = n by have := hb.1; simpa using this)
  have HB := hide hb; clear hb
  go_enter Try.func39, Try.ntmps39
  go_wp2_with fail
  go_loop [3, 4] (fun v3 v4 => ∃ (i v : Nat), i ≤ n ∧ v4 = .int .i64 i ∧ v3 = .int .i64 v ∧ v < 256 ∧ Hid (v = Oct.num (l.take i))) (fun _ y => n - (intOf y).toNat)
  case atStart => exact ⟨0, 0, by omega, rfl, rfl, by omega, hide rfl⟩
  case round =>
    obtain ⟨i, v, hi, rfl, rfl, hv, HV⟩ := hrel
    by_cases hlt : i < n
    · obtain ⟨b, off, x, rfl, hbb, e1, X1⟩ := bit_at HB.out (show i < n by omega)
      have hv2 : v < 128 := by
        have := Oct.num_lt (l.take i)
        rw [← HV.out, List.length_take, Nat.min_eq_left (by have := hl.out; omega)] at this
        have h2 : 2 ^ i ≤ 2 ^ 7 := Nat.pow_le_pow_right (by omega) (by omega)
        omega
      have HN : Hid (2 * v + x.toNat = Oct.num (l.take (i + 1))) := hide (by rw [take_snoc X1.out, Oct.num_snoc, HV.out])
      cases x
      · go_wp2_with fail
        go_round
        case rel => exact ⟨i + 1, 2 * v, by omega, by go_num, by go_num, by omega, hide (by have := HN.out; simpa using this)⟩
        case measure => simp [intOf]; omega
      · go_wp2_with fail
        go_round
        case rel => exact ⟨i + 1, 2 * v + 1, by omega, by go_num, by go_num, by omega, hide (by have := HN.out; simpa using this)⟩
        case measure => simp [intOf]; omega
    · have HE : Hid (Oct.num l = v) := hide (by rw [HV.out, List.take_of_length_le (by have := hl.out; omega)])
      go_wp2_with fail
      go_ret
      exact ⟨ret_int (by rw [HE.out]), rfl⟩
end Go.Proofs.Ytnjpgcfkplchkaa
