/-
  Lease: Ack, and the nil desk's calls; Term, Short.
-/
import Derived.Test.YtigeccflfdekiaaLeaseC
namespace Go.Proofs.Ytigeccflfdekiaa
open Go.RowKit Go.Maps
set_option linter.unusedVariables false

def setG (G : ByteArray → Int → Bool) (s : ByteArray) (e : Int) : ByteArray → Int → Bool := fun s' e' => decide (s' = s ∧ e' = e) || G s' e'
set_option maxHeartbeats 2000000 in
theorem ack_any (g b1 b2 n : Nat) (N : ByteArray → Int → Option Int) (G : ByteArray → Int → Bool) (term short : Int) (s : ByteArray) (e : Int) (w : World) (hd : DeskSt w g b1 b2 n N G term short) (hk : KOk s e) (hn : n < maxLen) :
    Calls Try.prog 19 #[.pointer (some ⟨g, 0, none⟩), .string s, .int .i64 e] w fun en w' => en = .returned (.tuple #[]) ∧ DeskSt w' g b1 b2 (n + 1) N (setG G s e) term short ∧ But (DB b1 b2) w w' := by
  have c1 := hd.row.cell (k := 1) rfl
  obtain ⟨wf, hrun, hst, hgr⟩ := hd.gone.store hk hn
  have HD := hide hd; have HST := hide hst
  have HBF : Hid (But (fun k => k = b2) w wf) := hide (But.of_grown (S := fun k => k = b2) hgr rfl)
  clear hd hk hst hgr
  go_enter Try.func19, Try.ntmps19
  go_wp2_with fail
  go_end0
  refine ⟨rfl, ⟨?_, ?_, ?_, HD.out.ne12, HD.out.ne1, HD.out.ne2⟩, HBF.out.mono fun k hk => .inr hk⟩
  · exact HBF.out.row HD.out.row HD.out.ne2
  · exact (HD.out.notes.but HBF.out HD.out.ne12).mono (Nat.le_succ _)
  · exact HST.out
theorem note_nil (s : ByteArray) (e now : Int) (w : World) : Calls Try.prog 17 #[.pointer none, .string s, .int .i64 e, .int .i64 now] w fun en w' => en = .returned (.tuple #[]) ∧ w = w' := by
  go_enter Try.func17, Try.ntmps17
  go_wp2_with fail
  (try simp only [Exit.inBlock, Exit.then])
  refine bodyPost_ret (results_none rfl _ _ _) rfl ?_
  exact ⟨rfl, rfl⟩
theorem ack_nil (s : ByteArray) (e : Int) (w : World) : Calls Try.prog 19 #[.pointer none, .string s, .int .i64 e] w fun en w' => en = .returned (.tuple #[]) ∧ w = w' := by
  go_enter Try.func19, Try.ntmps19
  go_wp2_with fail
  go_end0
  exact ⟨rfl, rfl⟩
theorem holders_nil (s : ByteArray) (A : Option Addr) (n c : Nat) (now : Int) (w : World) : Calls Try.prog 10 #[.pointer none, .string s, .slice A n c, .int .i64 now] w fun en w' => en = .returned (.slice none 0 0) ∧ w = w' := by
  go_enter Try.func10, Try.ntmps10
  go_wp2_with fail
  go_ret
  exact ⟨rfl, rfl⟩
end Go.Proofs.Ytigeccflfdekiaa
