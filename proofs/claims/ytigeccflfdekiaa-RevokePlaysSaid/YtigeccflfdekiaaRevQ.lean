/-
  Revoke: the document's Turn, walked.
-/
import Derived.Test.YtigeccflfdekiaaRevP
import Derived.StillTailTactics
import Derived.BigQuiet
import Derived.Deep.RegionHeld3
namespace Go.Proofs.Ytigeccflfdekiaa
open Go.RowKit Go.Maps
set_option linter.unusedVariables false

/-- the memory of a turn of the document's, under way -/
structure RTW (w wq : World) (q : Nat) (A : Option Addr) (n c : Nat) (A' : Option Addr) (n' c' : Nat) (L' : List RN) (term : Int) (N : ByteArray → Int → Option Int) (G : ByteArray → Int → Bool) (At : Option Addr) (ct : Nat) (tell : List Inv) (Ao : Option Addr) (co : Nat) (done : List ByteArray) (An : Option Addr) (cn : Nat) (next : List Bg) : Prop where
  ot : OwnS 2 wq w.heap.size 41 At tell.length ct (tell.flatMap Inv.cells)
  od : Own wq w.heap.size 9 Ao done.length co (done.map Value.string)
  on : OwnS 2 wq w.heap.size 93 An next.length cn (next.flatMap Bg.cells)
  d1 : ∀ k, (Value.slice At tell.length ct).ownBlock = some k → (Value.slice Ao done.length co).ownBlock ≠ some k
  d2 : ∀ k, (Value.slice At tell.length ct).ownBlock = some k → (Value.slice An next.length cn).ownBlock ≠ some k
  d3 : ∀ k, (Value.slice Ao done.length co).ownBlock = some k → (Value.slice An next.length cn).ownBlock ≠ some k
  desk : RTurn w wq q A n c A' n' c' L' term N G
  far : ∀ k, RB q A' n' c' k → (Value.slice At tell.length ct).ownBlock ≠ some k ∧ (Value.slice Ao done.length co).ownBlock ≠ some k ∧ (Value.slice An next.length cn).ownBlock ≠ some k
section
variable {w wq w' : World} {q n c n' c' : Nat} {A A' : Option Addr} {L' : List RN} {term : Int} {N : ByteArray → Int → Option Int} {G : ByteArray → Int → Bool} {At : Option Addr} {ct : Nat} {tell : List Inv} {Ao : Option Addr} {co : Nat} {done : List ByteArray} {An : Option Addr} {cn : Nat} {next : List Bg}
theorem RTW.below (h : RTW w wq q A n c A' n' c' L' term N G At ct tell Ao co done An cn next) (hb : Below wq.heap.size wq w') : RTW w w' q A n c A' n' c' L' term N G At ct tell Ao co done An cn next :=
  ⟨h.ot.below hb, h.od.below hb, h.on.below hb, h.d1, h.d2, h.d3, h.desk.below hb, h.far⟩
theorem RTW.size (h : RTW w wq q A n c A' n' c' L' term N G At ct tell Ao co done An cn next) : w.heap.size ≤ wq.heap.size := h.desk.but.size
/-- a row of its own grows: the others stay -/
theorem RTW.grew {row : Option Nat} {o : Obj} (h : RTW w wq q A n c A' n' c' L' term N G At ct tell Ao co done An cn next) (hg : (wq.alloc o).grownBy w' row) (hr : ∀ k, row = some k → w.heap.size ≤ k ∧ ¬ RB q A' n' c' k) :
    But (fun j => row = some j) wq w' ∧ RTurn w w' q A n c A' n' c' L' term N G :=
  ⟨(But.of_below ((Below.refl wq.heap.size wq).alloc (Nat.le_refl _) o)).trans (But.of_row hg fun k hk => hk), (h.desk.below ((Below.refl wq.heap.size wq).alloc (Nat.le_refl _) o)).grown hg hr⟩
theorem RTW.told {o : Obj} {At' : Option Addr} {ct' : Nat} {tell' : List Inv} (h : RTW w wq q A n c A' n' c' L' term N G At ct tell Ao co done An cn next) (ho : OwnS 2 w' w.heap.size 41 At' tell'.length ct' (tell'.flatMap Inv.cells)) (hg : (wq.alloc o).grownBy w' (Value.slice At tell.length ct).ownBlock)
    (hat : (Value.slice At' tell'.length ct').ownBlock = (Value.slice At tell.length ct).ownBlock ∨ (Value.slice At' tell'.length ct').ownBlock = some (wq.heap.size + 1)) : RTW w w' q A n c A' n' c' L' term N G At' ct' tell' Ao co done An cn next ∧ But (fun j => (Value.slice At tell.length ct).ownBlock = some j) wq w' := by
  obtain ⟨hB, hT⟩ := h.grew hg (fun k hk => ⟨h.ot.row_ge k hk, fun hh => (h.far k hh).1 hk⟩)
  have hnew : ∀ k, (Value.slice At' tell'.length ct').ownBlock = some k → (Value.slice At tell.length ct).ownBlock = some k ∨ wq.heap.size < k := fun k hk => by
    rcases hat with h2 | h2
    · exact .inl (h2 ▸ hk)
    · rw [hk] at h2; injection h2 with h2; exact .inr (by omega)
  refine ⟨⟨ho, Own.but_rowR h.od hB (fun j hj hj' => h.d1 j hj' hj), h.on.but_row hB (fun j hj hj' => h.d2 j hj' hj), fun k hk => ?_, fun k hk => ?_, h.d3, hT, fun k hk => ⟨fun hh => ?_, (h.far k hk).2⟩⟩, hB⟩
  · rcases hnew k hk with h2 | h2
    · exact h.d1 k h2
    · exact fun hh => by have := h.od.row_lt k hh; omega
  · rcases hnew k hk with h2 | h2
    · exact h.d2 k h2
    · exact fun hh => by have := h.on.row_lt k hh; omega
  · rcases hnew k hh with h2 | h2
    · exact (h.far k hk).1 h2
    · have := h.desk.desk.lt k hk; omega
theorem RTW.ended {o : Obj} {Ao' : Option Addr} {co' : Nat} {done' : List ByteArray} (h : RTW w wq q A n c A' n' c' L' term N G At ct tell Ao co done An cn next) (ho : Own w' w.heap.size 9 Ao' done'.length co' (done'.map Value.string)) (hg : (wq.alloc o).grownBy w' (Value.slice Ao done.length co).ownBlock)
    (hat : (Value.slice Ao' done'.length co').ownBlock = (Value.slice Ao done.length co).ownBlock ∨ (Value.slice Ao' done'.length co').ownBlock = some (wq.heap.size + 1)) : RTW w w' q A n c A' n' c' L' term N G At ct tell Ao' co' done' An cn next ∧ But (fun j => (Value.slice Ao done.length co).ownBlock = some j) wq w' := by
  obtain ⟨hB, hT⟩ := h.grew hg (fun k hk => ⟨h.od.row_ge k hk, fun hh => (h.far k hh).2.1 hk⟩)
  have hnew : ∀ k, (Value.slice Ao' done'.length co').ownBlock = some k → (Value.slice Ao done.length co).ownBlock = some k ∨ wq.heap.size < k := fun k hk => by
    rcases hat with h2 | h2
    · exact .inl (h2 ▸ hk)
    · rw [hk] at h2; injection h2 with h2; exact .inr (by omega)
  refine ⟨⟨h.ot.but_row hB (fun j hj hj' => h.d1 j hj hj'), ho, h.on.but_row hB (fun j hj hj' => h.d3 j hj' hj), fun k hk hh => ?_, h.d2, fun k hk => ?_, hT, fun k hk => ⟨(h.far k hk).1, fun hh => ?_, (h.far k hk).2.2⟩⟩, hB⟩
  · rcases hnew k hh with h2 | h2
    · exact h.d1 k hk h2
    · have := h.ot.row_lt k hk; omega
  · rcases hnew k hk with h2 | h2
    · exact h.d3 k h2
    · exact fun hh => by have := h.on.row_lt k hh; omega
  · rcases hnew k hh with h2 | h2
    · exact (h.far k hk).2.1 h2
    · have := h.desk.desk.lt k hk; omega
theorem RTW.begun {o : Obj} {An' : Option Addr} {cn' : Nat} {next' : List Bg} (h : RTW w wq q A n c A' n' c' L' term N G At ct tell Ao co done An cn next) (ho : OwnS 2 w' w.heap.size 93 An' next'.length cn' (next'.flatMap Bg.cells)) (hg : (wq.alloc o).grownBy w' (Value.slice An next.length cn).ownBlock)
    (hat : (Value.slice An' next'.length cn').ownBlock = (Value.slice An next.length cn).ownBlock ∨ (Value.slice An' next'.length cn').ownBlock = some (wq.heap.size + 1)) : RTW w w' q A n c A' n' c' L' term N G At ct tell Ao co done An' cn' next' ∧ But (fun j => (Value.slice An next.length cn).ownBlock = some j) wq w' := by
  obtain ⟨hB, hT⟩ := h.grew hg (fun k hk => ⟨h.on.row_ge k hk, fun hh => (h.far k hh).2.2 hk⟩)
  have hnew : ∀ k, (Value.slice An' next'.length cn').ownBlock = some k → (Value.slice An next.length cn).ownBlock = some k ∨ wq.heap.size < k := fun k hk => by
    rcases hat with h2 | h2
    · exact .inl (h2 ▸ hk)
    · rw [hk] at h2; injection h2 with h2; exact .inr (by omega)
  refine ⟨⟨h.ot.but_row hB (fun j hj hj' => h.d2 j hj hj'), Own.but_rowR h.od hB (fun j hj hj' => h.d3 j hj hj'), ho, h.d1, fun k hk hh => ?_, fun k hk hh => ?_, hT, fun k hk => ⟨(h.far k hk).1, (h.far k hk).2.1, fun hh => ?_⟩⟩, hB⟩
  · rcases hnew k hh with h2 | h2
    · exact h.d2 k hk h2
    · have := h.ot.row_lt k hk; omega
  · rcases hnew k hh with h2 | h2
    · exact h.d3 k hk h2
    · have := h.od.row_lt k hk; omega
  · rcases hnew k hh with h2 | h2
    · exact (h.far k hk).2.2 h2
    · have := h.desk.desk.lt k hk; omega
/-- the desk is asked -/
theorem RTW.asked {A'' : Option Addr} {n'' c'' : Nat} {L'' : List RN} {N' : ByteArray → Int → Option Int} (h : RTW w wq q A n c A' n' c' L' term N G At ct tell Ao co done An cn next) (hT : RTurn wq w' q A' n' c' A'' n'' c'' L'' term N' G) : RTW w w' q A n c A'' n'' c'' L'' term N' G At ct tell Ao co done An cn next :=
  ⟨h.ot.but_row hT.but (fun k hk hh => (h.far k hh).1 hk), Own.but_rowR h.od hT.but (fun k hk hh => (h.far k hh).2.1 hk), h.on.but_row hT.but (fun k hk hh => (h.far k hh).2.2 hk), h.d1, h.d2, h.d3, h.desk.trans hT, fun k hk => by
    rcases hT.new k hk with h2 | h2
    · exact h.far k h2
    · exact ⟨fun hh => by have := h.ot.row_lt k hh; omega, fun hh => by have := h.od.row_lt k hh; omega, fun hh => by have := h.on.row_lt k hh; omega⟩⟩
end
/-- what a turn of the document's crew gives -/
def GivesRT (q n c : Nat) (A : Option Addr) (m p : Nat) (A1 : Option Addr) (n1 c1 : Nat) (A2 : Option Addr) (n2 c2 : Nat) (W : List Rw) (K : Int) (G : ByteArray → Int → Bool) (term pace : Int) (r : TS) (w : World) (e : Ending) (w' : World) : Prop :=
  ∃ At ct Ao co, e = .returned (.tuple #[.slice At r.tell.length ct, .slice Ao r.done.length co]) ∧ Hid (OwnS 2 w' w.heap.size 41 At r.tell.length ct (r.tell.flatMap Inv.cells)) ∧ Hid (Own w' w.heap.size 9 Ao r.done.length co (r.done.map Value.string)) ∧
    ∃ A' n' c' L' An nn cn next, Hid (n' ≤ n + 100 * m ∧ nn ≤ m) ∧ Hid (RDesk w' q A' n' c' L' term) ∧ Hid ((∀ s e, getN L' s e = r.N s e) ∧ (∀ s e, getG L' s e = G s e)) ∧ Hid (RCrew w' p An nn cn next A2 n2 c2 W pace) ∧ Hid (∀ s, getT next s = (r.T s).getD 0) ∧ Hid (FewL (K + 1) next) ∧
      Hid (But (fun k => k = p ∨ RB q A n c k) w w') ∧ Hid (∀ k, RB q A' n' c' k → RB q A n c k ∨ w.heap.size ≤ k) ∧ Hid (∀ k, RC p An nn cn A2 n2 c2 k → RC p A1 n1 c1 A2 n2 c2 k ∨ w.heap.size ≤ k) ∧ Hid (∀ k, RB q A' n' c' k → ¬ RC p An nn cn A2 n2 c2 k)
set_option maxHeartbeats 8000000 in
set_option maxRecDepth 100000 in
theorem rturnc_any (q n c : Nat) (A : Option Addr) (L : List RN) (p n1 c1 : Nat) (A1 : Option Addr) (LB : List Bg) (n2 c2 : Nat) (A2 : Option Addr) (W : List Rw) (K : Int) (N : ByteArray → Int → Option Int) (G : ByteArray → Int → Bool) (T : ByteArray → Option Int) (term pace : Int) (AP : Option Addr) (m cp : Nat) (Q : Nat → Prop) (fs : List Fam) (now : Int) (w : World)
    (hd : RDesk w q A n c L term) (hN : ∀ s e, getN L s e = N s e) (hG : ∀ s e, getG L s e = G s e) (hc : RCrew w p A1 n1 c1 LB A2 n2 c2 W pace) (hT : ∀ s, getT LB s = (T s).getD 0) (hF : FewL K LB) (hK : 0 ≤ K ∧ K ≤ 1000000) (hne : ∀ k, RC p A1 n1 c1 A2 n2 c2 k → ¬ RB q A n c k)
    (hsl : SlFam w Q AP m fs) (hQ : ∀ k, Q k → k < w.heap.size ∧ ¬ RB q A n c k) (hfl : ∀ f ∈ fs, f.ls.length ≤ 100) (hm : m ≤ 100) (hn : n ≤ 700000) (hn1 : n1 ≤ 1000000) (hnow : I64 now) (hterm : I64 term) (hpace : 1 ≤ pace ∧ pace ≤ 4096) (r : TS) (hr : tellI G now term pace T N fs = r) :
    Calls Try.prog 15 #[.pointer (some ⟨p, 0, none⟩), .pointer (some ⟨q, 0, none⟩), .slice AP m cp, .int .i64 now] w (GivesRT q n c A m p A1 n1 c1 A2 n2 c2 W K G term pace r w) := by
  have hfm : fs.length = m := hsl.1
  have HFM := hide hfm; have HFL := hide hfl; have HC := hide hc; have HT := hide hT; have HF := hide hF; have HNE := hide hne; have HPACE := hide hpace; have HK := hide hK
  have HSL := hide hsl; have HBD := hide hQ
  have T0 := hide (RTurn.refl hd hN hG)
  have HLQ : Hid (∀ k, RB q A n c k → k < w.heap.size) := hide hd.lt
  obtain ⟨sti, hsti⟩ : ∃ sti : Nat → TS, sti = fun i => tellI G now term pace T N (fs.take i) := ⟨_, rfl⟩
  have HI : Hid (∀ i f, fs[i]? = some f → sti (i + 1) = turnStep G now term pace T (sti i) f) := hide (fun i f hf => by
    rw [hsti]; simp only
    rw [List.take_add_one, hf]
    exact tellI_snoc ..)
  have H0 : Hid (sti 0 = ⟨N, fun _ => none, [], []⟩) := hide (by rw [hsti]; rfl)
  have HE : Hid (sti m = r) := hide (by rw [hsti, ← hr]; simp only; rw [List.take_of_length_le (by omega)])
  have HIL : Hid (∀ i, (sti i).tell.length ≤ 10000 ∧ (sti i).done.length ≤ 100) := hide (fun i => by
    rw [hsti]
    have := tellI_len (G := G) (now := now) (term := term) (pace := pace) (T := T) (K := 100) (fs.take i) (fun f hf => hfl f (List.mem_of_mem_take hf)) ⟨N, fun _ => none, [], []⟩
    have h2 : (fs.take i).length ≤ 100 := by rw [List.length_take]; omega
    simp only [List.length_nil] at this
    show (tellI G now term pace T N (fs.take i)).tell.length ≤ 10000 ∧ (tellI G now term pace T N (fs.take i)).done.length ≤ 100
    unfold tellI
    omega)
  have HIS : Hid (∀ i s, ((sti i).T s).isSome = true ↔ ∃ f ∈ fs.take i, f.id = s) := hide (fun i s => by rw [hsti]; exact tellI_some N _ s)
  clear hsti hd hc hne hsl hfl hfm hN hG hT hF hQ hpace hr hK
  go_enter Try.func15, Try.ntmps15
  go_wp2_with fail
  go_loopw [10, 11, 12, 13] (fun v10 v11 v12 v13 wq => ∃ (i : Nat) (At : Option Addr) (ct : Nat) (Ao : Option Addr) (co : Nat) (An : Option Addr) (cn : Nat) (next : List Bg) (A' : Option Addr) (n' c' : Nat) (L' : List RN), i ≤ m ∧ v13 = .int .i64 i ∧ v10 = .slice At (sti i).tell.length ct ∧ v11 = .slice Ao (sti i).done.length co ∧ v12 = .slice An next.length cn ∧ n' ≤ n + 100 * i ∧ next.length ≤ i ∧ Hid (RTW w wq q A n c A' n' c' L' term (sti i).N G At ct (sti i).tell Ao co (sti i).done An cn next) ∧ Hid (∀ s, getT next s = ((sti i).T s).getD 0) ∧ Hid (FewL (K + 1) next)) (fun _ _ _ v _ => m - (intOf v).toNat)
  case atStart => exact ⟨0, none, 0, none, 0, none, 0, [], A, n, c, L, by omega, rfl, by rw [H0.out]; rfl, by rw [H0.out]; rfl, rfl, by omega, by simp, by rw [H0.out]; exact hide ⟨OwnS.nil_, Own.nil_, OwnS.nil_, fun k hk => (by cases hk), fun k hk => (by cases hk), fun k hk => (by cases hk), T0.out, fun k _ => ⟨fun h => (by cases h), fun h => (by cases h), fun h => (by cases h)⟩⟩, by rw [H0.out]; exact hide fun s => rfl, hide (fun x hx => by cases hx)⟩
  case round =>
    clear T0 H0
    obtain ⟨i, At, ct, Ao, co, An, cn, next, A', n', c', L', hi, rfl, rfl, rfl, rfl, hn', hnx, W1, GT, FW⟩ := hrel
    by_cases hlt : i < m
    · obtain ⟨pb, po, f, rfl, hpb, hpi, hid, hls, A4, ca, k0, hca, hslf⟩ := HSL.out.at_ hlt
      have HST := hide (HI.out i f hpi)
      have hfl : f.ls.length ≤ 100 := HFL.out f (List.mem_of_getElem? hpi)
      have HLS := hide hls; have HSF := hide hslf
      have kk : ∀ j v, (f.cells A4 f.ls.length ca)[j]? = some v → wr.cell? ⟨pb, po + i * 11 + j, none⟩ = some v := fun j v hv => (W1.out.desk.but.cell (p := ⟨pb, po + i * 11 + j, none⟩) (HBD.out pb hpb).1 (HBD.out pb hpb).2).trans (k0 j v hv)
      have k0' : wr.cell? ⟨pb, po + i * 11, none⟩ = some (.string f.id) := kk 0 _ rfl
      have k1 := kk 1 _ rfl; have k2 := kk 2 _ rfl; have k3 := kk 3 _ rfl; have k4 := kk 4 _ rfl; have k5 := kk 5 _ rfl; have k6 := kk 6 _ rfl; have k7 := kk 7 _ rfl; have k8 := kk 8 _ rfl; have k9 := kk 9 _ rfl; have k10 := kk 10 _ rfl
      have HLT := hide (HIL.out i)
      have HISI := hide (HIS.out i f.id)
      obtain ⟨st, hst⟩ : ∃ st, st = sti i := ⟨_, rfl⟩
      rw [← hst] at W1 GT HST HLT HISI ⊢
      clear hst kk k0 hls hslf
      have HPI := hide hpi
      clear hpi
      have hi1 : (i : Int) < (m : Int) := by omega
      have hi0 : (0 : Int) ≤ (i : Int) := by omega
      go_upto_region 8 with (fail)
      obtain ⟨Tb, hTb⟩ : ∃ Tb, Tb = wr.heap.size := ⟨_, rfl⟩
      have HTB : Hid (w.heap.size ≤ Tb) := hide (by have := W1.out.size; omega)
      have HTO : Hid (∀ k, (Value.slice At st.tell.length ct).ownBlock = some k → k < Tb) := hide (fun k hk => hTb ▸ W1.out.ot.row_lt k hk)
      have HDO : Hid (∀ k, (Value.slice Ao st.done.length co).ownBlock = some k → k < Tb) := hide (fun k hk => hTb ▸ W1.out.od.row_lt k hk)
      have HNO : Hid (∀ k, (Value.slice An next.length cn).ownBlock = some k → k < Tb) := hide (fun k hk => hTb ▸ W1.out.on.row_lt k hk)
      have HRO : Hid (∀ k, RB q A' n' c' k → k < Tb) := hide (fun k hk => hTb ▸ W1.out.desk.desk.lt k hk)
      rw [← hTb]
      refine wp_world (fun X => Hid (RTW w X q A n c A' n' c' L' term st.N G At ct st.tell Ao co st.done An cn next) ∧ Hid (RowV X Tb 34 (f.cells A4 f.ls.length ca))) ⟨hide (W1.out.below ((Below.refl _ _).alloc (Nat.le_refl _) _)), hide (hTb ▸ RowV.new wr _ (f.cells A4 f.ls.length ca))⟩ ?_
      clear W1 k0' k1 k2 k3 k4 k5 k6 k7 k8 k9 k10 hTb
      rintro X ⟨W1, R⟩
      go_wp2_with fail
      go_loopw [15, 16] (fun v15 v16 wq => ∃ (k : Nat) (tw : Bool), k ≤ i ∧ v16 = .int .i64 k ∧ v15 = .bool tw ∧ Hid (tw = true ↔ ∃ g ∈ fs.take k, g.id = f.id) ∧ Hid (RTW w wq q A n c A' n' c' L' term st.N G At ct st.tell Ao co st.done An cn next) ∧ Hid (RowV wq Tb 34 (f.cells A4 f.ls.length ca))) (fun _ v _ => i - (intOf v).toNat)
      case atStart => exact ⟨0, false, by omega, rfl, rfl, hide (by simp), W1, R⟩
      case round =>
        clear W1 R
        obtain ⟨k, tw, hk, rfl, rfl, HTW, W1, R⟩ := hrel
        by_cases hk2 : k < i
        · obtain ⟨pb2, po2, g, e2, hpb2, hpg, _, _, _, _, kg, _, _⟩ := HSL.out.at_ (k := k) (by omega)
          injection e2 with e2; injection e2 with e2 e3 _
          subst e2; subst e3
          have cg : wr.cell? ⟨pb, po + k * 11, none⟩ = some (.string g.id) := (W1.out.desk.but.cell (p := ⟨pb, po + k * 11, none⟩) (HBD.out pb hpb).1 (HBD.out pb hpb).2).trans (kg 0 _ rfl)
          have q0 := R.out.cell (k := 0) rfl
          have HTS : Hid (∀ t, (t = true ↔ (tw = true ∨ g.id = f.id)) → (t = true ↔ ∃ g ∈ fs.take (k + 1), g.id = f.id)) := hide (fun t ht => by
            rw [ht, HTW.out, take_snoc hpg]
            constructor
            · rintro (⟨x, hx, h1⟩ | h1)
              · exact ⟨x, by simp [hx], h1⟩
              · exact ⟨g, by simp, h1⟩
            · rintro ⟨x, hx, h1⟩
              rw [List.mem_append, List.mem_singleton] at hx
              rcases hx with hx | rfl
              · exact .inl ⟨x, hx, h1⟩
              · exact .inr h1)
          have hki : (k : Int) < (i : Int) := by omega
          have hk0 : (0 : Int) ≤ (k : Int) := by omega
          have hkm : (k : Int) < (m : Int) := by omega
          clear kg hpg HTW
          cases tw with
          | true =>
            go_wp2_with fail
            go_quiet (fail)
            go_wp2_with fail
            go_roundw
            case rel => exact ⟨k + 1, true, by omega, by go_num, rfl, hide (HTS.out true (by simp)), hide (W1.out.below (below_drewN (Below.refl _ _) _)), R⟩
            case measure => simp [intOf]; omega
          | false =>
            obtain ⟨cc, hcc⟩ : ∃ cc, (g.id.toList == f.id.toList) = cc := ⟨_, rfl⟩
            have HCC : Hid (cc = true ↔ g.id = f.id) := hide (by rw [← hcc, text_eq]; simp)
            go_wp2_with fail
            go_quiet (fail)
            go_wp2_with fail
            go_roundw
            case rel => exact ⟨k + 1, cc, by omega, by go_num, by simp, hide (HTS.out cc (by simp [HCC.out])), hide (W1.out.below (below_drewN (Below.refl _ _) _)), R⟩
            case measure => simp [intOf]; omega
        · have hki : ¬ ((k : Int) < (i : Int)) := by omega
          obtain rfl : k = i := by omega
          have HTW2 : Hid (tw = true ↔ (st.T f.id).isSome = true) := hide (HTW.out.trans HISI.out.symm)
          clear HTW hk hk2
          cases tw with
          | true =>
            have HS2 : Hid (sti (k + 1) = st) := hide (by rw [HST.out]; unfold turnStep; rw [if_pos (HTW2.out.1 rfl)])
            clear HTW2 HST
            go_wp2_with fail
            refine ⟨⟨k + 1, At, ct, Ao, co, An, cn, next, A', n', c', L', by omega, by go_num, ?_⟩, by simp [intOf]; omega⟩
            rw [HS2.out]
            exact ⟨rfl, rfl, rfl, by omega, by omega, W1, GT, FW⟩
          | false =>
            obtain ⟨h, hr⟩ : ∃ h, holdI G f.id now term st.N f.ls = h := ⟨_, rfl⟩
            have HR := hide hr
            have HRL : Hid (h.out.length ≤ 100) := hide (by have := holdI_len G f.id now term st.N f.ls; rw [hr] at this; omega)
            have HS2 : Hid (sti (k + 1) = turnOf G now term pace T st f h) := hide (by rw [HST.out]; unfold turnStep; rw [if_neg (fun hh => by have := HTW2.out.2 hh; cases this), hr])
            clear HTW2 HST hr
            obtain ⟨tv, htv⟩ : ∃ tv, tv = getT LB f.id := ⟨_, rfl⟩
            have HTV : Hid (tv = (T f.id).getD 0) := hide (htv.trans (HT.out f.id))
            have htb := HF.out.getT HK.out.1 f.id
            rw [← htv] at htb
            obtain ⟨ht0, ht1⟩ := htb
            have HTL : Hid (tv = getT (LB.take n1) f.id) := hide (by rw [List.take_of_length_le (by rw [HC.out.len1]; omega)]; exact htv)
            clear htv
            go_wp2_with fail
            go_loopw [17, 18] (fun v17 v18 wq => ∃ (j : Nat), j ≤ n1 ∧ v18 = .int .i64 j ∧ v17 = .int .i64 (getT (LB.take j) f.id) ∧ Hid (RTW w wq q A n c A' n' c' L' term st.N G At ct st.tell Ao co st.done An cn next) ∧ Hid (RowV wq Tb 34 (f.cells A4 f.ls.length ca))) (fun _ v _ => n1 - (intOf v).toNat)
            case atStart => exact ⟨0, by omega, rfl, rfl, W1, R⟩
            case round =>
              clear W1 R
              obtain ⟨j, hj, rfl, rfl, W1, R⟩ := hrel
              have RCW := hide (HC.out.but W1.out.desk.but HNE.out)
              have rc := RCW.out.row.cell (k := 0) rfl
              by_cases hjl : j < n1
              · obtain ⟨gb, ob, x, rfl, _, _, hx, kx, kn⟩ := RCW.out.at1 hjl
                have hj1 : (j : Int) < (n1 : Int) := by omega
                have hj0 : (0 : Int) ≤ (j : Int) := by omega
                have q0 := R.out.cell (k := 0) rfl
                have HGS : Hid (getT (LB.take (j + 1)) f.id = if x.f = f.id then x.n else getT (LB.take j) f.id) := hide (by rw [take_snoc hx, getT_snoc])
                obtain ⟨xf, xn⟩ := x
                simp only at kx kn HGS
                obtain ⟨gv, hgv⟩ : ∃ gv, gv = getT (LB.take j) f.id := ⟨_, rfl⟩
                rw [← hgv] at HGS ⊢
                have hte := text_eq xf f.id
                clear hx hgv
                by_cases hxf : xf = f.id
                · rw [decide_eq_true hxf] at hte
                  have HG2 : Hid (getT (LB.take (j + 1)) f.id = xn) := hide (by rw [HGS.out, if_pos hxf])
                  clear hxf HGS
                  go_wp2_with fail
                  go_quiet (fail)
                  clear kx rc q0
                  obtain ⟨Z, hZ⟩ : ∃ Z, Z = wr.drewN nq := ⟨_, rfl⟩
                  have WZ : Hid (RTW w Z q A n c A' n' c' L' term st.N G (At) ct st.tell Ao co st.done An cn next) := hide (hZ ▸ W1.out.below (below_drewN (Below.refl _ _) _))
                  have RZ : Hid (RowV Z Tb 34 (f.cells A4 f.ls.length ca)) := hide (hZ ▸ R.out)
                  have rc : Z.cell? ⟨p, 0, none⟩ = some (.slice (some ⟨gb, ob, none⟩) n1 c1) := hZ ▸ RCW.out.row.cell (k := 0) rfl
                  have kn2 : Z.cell? ⟨gb, ob + j * 2 + 1, none⟩ = some (.int .i64 xn) := hZ ▸ kn
                  rw [← hZ]
                  clear kn hZ RCW W1 R
                  go_wp2_with fail
                  go_roundw
                  case rel => exact ⟨j + 1, by omega, by go_num, by rw [HG2.out], WZ, RZ⟩
                  case measure => simp [intOf]; omega
                · rw [decide_eq_false hxf] at hte
                  have HG2 : Hid (getT (LB.take (j + 1)) f.id = gv) := hide (by rw [HGS.out, if_neg hxf])
                  clear hxf HGS
                  go_wp2_with fail
                  go_quiet (fail)
                  go_wp2_with fail
                  go_roundw
                  case rel => exact ⟨j + 1, by omega, by go_num, by rw [HG2.out], hide (W1.out.below (below_drewN (Below.refl _ _) _)), R⟩
                  case measure => simp [intOf]; omega
              · have hjn : ¬ ((j : Int) < (n1 : Int)) := by omega
                obtain rfl : j = n1 := by omega
                rw [← HTL.out]
                have q0 := R.out.cell (k := 0) rfl
                have ht2 : tv + 1 ≤ 9223372036854775807 := by have := HK.out; omega
                have HONE : Hid (∀ u ∈ [Value.string f.id, .int .i64 (tv + 1)], u.oneCell' = true) := hide (Bg.cells_one ⟨f.id, tv + 1⟩)
                have HWS := hide W1.out.size
                clear RCW
                go_wp2_with (at_builtin; go_must (with_reducible refine wpList_appS1 rfl (.tmp 76) (.tmp 82) 53 rfl _ 24 Try.underlying53 info_bg rfl (by omega) [.string f.id, .int .i64 (tv + 1)] 93 rfl W1.out.on rfl rfl HONE.out (by unfold maxLen; omega) (by omega) HWS.out ?_))
                intro A5 c5 w5 ho hg hat
                have hlen : (next ++ [(⟨f.id, tv + 1⟩ : Bg)]).length = next.length + 1 := by simp
                have ho2 : OwnS 2 w5 w.heap.size 93 A5 (next ++ [(⟨f.id, tv + 1⟩ : Bg)]).length c5 ((next ++ [(⟨f.id, tv + 1⟩ : Bg)]).flatMap Bg.cells) := by rw [hlen, List.flatMap_append, List.flatMap_cons, List.flatMap_nil, List.append_nil]; exact ho
                have hE := W1.out.begun (next' := next ++ [⟨f.id, tv + 1⟩]) ho2 hg (by rw [hlen]; exact hat)
                have R5 := hide (hE.2.row R.out (fun hh => by have := HNO.out _ hh; omega))
                obtain ⟨nx, hnxe⟩ : ∃ nx, nx = next ++ [(⟨f.id, tv + 1⟩ : Bg)] := ⟨_, rfl⟩
                have W5 := hide hE.1
                have HX1 : Hid (next.length + 1 = nx.length) := hide (by rw [hnxe, hlen])
                rw [← hnxe] at W5
                have hnx2 : nx.length ≤ k + 1 := by rw [hnxe, hlen]; omega
                have FW5 : Hid (FewL (K + 1) nx) := hide (fun y hy => by
                  rw [hnxe] at hy
                  rcases List.mem_append.1 hy with hy | hy
                  · exact FW.out y hy
                  · simp at hy; subst hy; exact ⟨by show 0 ≤ tv + 1; omega, by show tv + 1 ≤ K + 1; omega⟩)
                obtain ⟨T', hT'⟩ : ∃ T' : ByteArray → Option Int, T' = fun s' => if s' = f.id then some (tv + 1) else st.T s' := ⟨_, rfl⟩
                have GT5 : Hid (∀ s, getT nx s = (T' s).getD 0) := hide (fun s => by
                  rw [hnxe, getT_snoc, hT']
                  simp only
                  by_cases hs : s = f.id
                  · rw [if_pos hs.symm, if_pos hs]; rfl
                  · rw [if_neg (fun e => hs e.symm), if_neg hs]; exact GT.out s)
                have HTN := hide hT'
                have HW15 : Hid (wr.heap.size < w5.heap.size) := hide (by have := hg.size; rw [World.size_alloc] at this; omega)
                clear ho hg hat ho2 hE hlen W1 R GT FW hT' q0 hnxe HWS
                rw [HX1.out]
                have q0 := R5.out.cell (k := 0) rfl
                have q10 := R5.out.cell (k := 10) rfl
                have S5 : Hid (Sl w5 w5.heap.size A4 f.ls.length (f.ls.map (Value.int .i64))) := hide ((HSF.out.but W5.out.desk.but HBD.out).sl (fun k hk => Nat.lt_of_lt_of_le (HBD.out k hk).1 W5.out.size))
                have hfar5 : Hid (∀ b o, 0 < f.ls.length → A4 = some ⟨b, o, none⟩ → ¬ RB q A' n' c' b) := hide (fun b o hb hA hrb => by
                  obtain ⟨b', o', e1, hq1, _⟩ := HSF.out.2 hb
                  rw [hA] at e1; injection e1 with e1; injection e1 with e1 _ _
                  subst e1
                  rcases W5.out.desk.new b hrb with h2 | h2
                  · exact (HBD.out b hq1).2 h2
                  · have := (HBD.out b hq1).1; omega)
                have KH := hide (rholders_any q n' c' A' L' term f.id A4 f.ls.length ca f.ls now w5 W5.out.desk.desk S5.out hfar5.out HLS.out (by omega) (by omega) hnow hterm st.N G W5.out.desk.N W5.out.desk.G)
                rw [HR.out] at KH
                go_wp2_with fail
                refine KH.out.mono ?_
                rintro e w6 ⟨A6, c6, rfl, O6, A'', n'', c'', L'', hn'', hT6⟩
                have W6 := hide (W5.out.asked hT6.out)
                have R6 := hide (hT6.out.but.row R5.out (fun hh => by have := HRO.out _ hh; omega))
                have HW5 : Hid (Tb < w5.heap.size) := hide R5.out.lt
                have HO6 : Hid (∀ k, (Value.slice A6 h.out.length c6).ownBlock = some k → w5.heap.size ≤ k ∧ k < w6.heap.size) := hide (fun k hk => ⟨O6.out.row_ge k hk, O6.out.row_lt k hk⟩)
                have hn2 : n'' ≤ n + 100 * (k + 1) := by omega
                clear W5 R5 S5 hT6 hfar5 KH q0 q10 hn''
                obtain ⟨dn, hdn⟩ : ∃ dn, dn = st.done ++ (if h.out = [] then [f.id] else []) := ⟨_, rfl⟩
                have HDN := hide hdn
                clear hdn
                go_upto_if 93 with (fail)
                go_cut [11] (fun v11 wx => ∃ (Ad' : Option Addr) (cd' : Nat), v11 = .slice Ad' dn.length cd' ∧ Hid (RTW w wx q A n c A'' n'' c'' L'' term h.N G At ct st.tell Ad' cd' dn A5 c5 nx) ∧ Hid (RowV wx Tb 34 (f.cells A4 f.ls.length ca)) ∧ Hid (Own wx w5.heap.size 3 A6 h.out.length c6 (h.out.map (Value.int .i64))))
                case first =>
                  by_cases hz : h.out = []
                  · have hl0 : ((h.out.length : Int) == 0) = true := by rw [hz]; rfl
                    have HD2 : Hid (dn = st.done ++ [f.id]) := hide (by rw [HDN.out, if_pos hz])
                    have q0 := R6.out.cell (k := 0) rfl
                    have HWS := hide W6.out.size
                    clear hz
                    go_wp2_with (at_builtin; go_must (with_reducible refine wpList_app rfl (.tmp 94) (.tmp 97) 31 rfl (.string ByteArray.empty) 16 Try.underlying31 info_str (cells_string _) rfl (W6.out.od.alloc _) rfl Sl.one (one_str _) (by have := HLT.out; unfold maxLen; omega) (by have := HLT.out; omega) (by have := HWS.out; rw [World.size_alloc]; omega) ?_))
                    intro A7 c7 w7 hown hgr hat
                    have hlen : dn.length = st.done.length + 1 := by rw [HD2.out]; simp
                    have hown2 : Own w7 w.heap.size 9 A7 dn.length c7 (dn.map Value.string) := by rw [HD2.out]; simpa using hown
                    have hE := W6.out.ended hown2 hgr (by rw [hlen]; simpa using hat)
                    have W7 := hide hE.1
                    have R7 := hide (hE.2.row R6.out (fun hh => by have := HDO.out _ hh; omega))
                    have O7 : Hid (Own w7 w5.heap.size 3 A6 h.out.length c6 (h.out.map (Value.int .i64))) := hide (Own.but_rowR O6.out hE.2 (fun k hk hh => by have := HDO.out _ hh; have := HO6.out k hk; have := HW5.out; omega))
                    have HLN := hide hlen
                    clear hown hgr hat hown2 hE q0 hlen
                    go_wp2_with fail
                    go_meet
                    exact ⟨A7, c7, by rw [HLN.out], W7, R7, O7⟩
                  · have hl0 : ((h.out.length : Int) == 0) = false := by
                      rw [beq_eq_false_iff_ne]
                      intro hh
                      exact hz (List.eq_nil_of_length_eq_zero (by omega))
                    have HD2 : Hid (dn = st.done) := hide (by rw [HDN.out, if_neg hz, List.append_nil])
                    clear hz
                    go_wp2_with fail
                    go_meet
                    rw [HD2.out]
                    exact ⟨Ao, co, rfl, W6, R6, O6⟩
                case rest =>
                  clear W6 R6 O6
                  obtain ⟨Ad', cd', rfl, W7, R7, O7⟩ := hcut
                  obtain ⟨hp1, hp2⟩ := HPACE.out
                  have HTO2 : Hid (∀ k, (Value.slice At st.tell.length ct).ownBlock = some k → k ≠ Tb ∧ (Value.slice A6 h.out.length c6).ownBlock ≠ some k) := hide (fun k hk => ⟨by have := HTO.out k hk; omega, fun h => by have := HTO.out k hk; have := HO6.out k h; have := HW5.out; omega⟩)
                  obtain ⟨LL, hL⟩ : ∃ LL, LL = h.out.length := ⟨_, rfl⟩
                  have HLL := hide hL
                  have hL100 : LL ≤ 100 := by have := HRL.out; omega
                  rw [← hL] at O7 HTO2 ⊢
                  clear hL
                  go_wp2_with fail
                  go_loopw [10, 20] (fun v10 v20 wq => ∃ (b : Nat) (At' : Option Addr) (ct' : Nat) (tj : List Inv), b ≤ LL ∧ v20 = .int .i64 b ∧ v10 = .slice At' tj.length ct' ∧ Hid (tj = st.tell ++ (if tv % pace = 0 then (h.out.take b).map (Inv.mk f.id) else [])) ∧ Hid (RTW w wq q A n c A'' n'' c'' L'' term h.N G At' ct' tj Ad' cd' dn A5 c5 nx) ∧ Hid (RowV wq Tb 34 (f.cells A4 f.ls.length ca)) ∧ Hid (Own wq w5.heap.size 3 A6 LL c6 (h.out.map (Value.int .i64))) ∧ Hid (∀ k, (Value.slice At' tj.length ct').ownBlock = some k → k ≠ Tb ∧ (Value.slice A6 LL c6).ownBlock ≠ some k)) (fun _ v _ => LL - (intOf v).toNat)
                  case atStart => exact ⟨0, At, ct, st.tell, by omega, rfl, rfl, hide (by split <;> simp), W7, R7, O7, HTO2⟩
                  case round =>
                    clear W7 R7 O7 HTO2
                    obtain ⟨b, At', ct', tj, hb, rfl, rfl, HTJ, W8, R8, O8, H8⟩ := hrel
                    have HEND : Hid ((b = LL ∨ tv % pace ≠ 0) → sti (k + 1) = ⟨h.N, T', tj, dn⟩) := hide (fun hbl => by
                      rw [HS2.out, HTJ.out, HDN.out, HTN.out, HTV.out]
                      unfold turnOf
                      congr 2
                      rcases hbl with hbl | hbl
                      · rw [List.take_of_length_le (by have := HLL.out; omega)]
                      · rw [HTV.out] at hbl
                        rw [if_neg hbl, if_neg hbl])
                    by_cases hbl : b < LL
                    · have hb1 : (b : Int) < (LL : Int) := by omega
                      have hb0 : (0 : Int) ≤ (b : Int) := by omega
                      have RC := hide (HC.out.but W8.out.desk.but HNE.out)
                      have rc2 := RC.out.row.cell (k := 2) rfl
                      by_cases hz : tv % pace = 0
                      · obtain ⟨e, he⟩ : ∃ e, h.out[b]? = some e := ⟨_, List.getElem?_eq_getElem (by have := HLL.out; omega)⟩
                        obtain ⟨gl, ol, ul, rfl, _, hul, cl⟩ := O8.out.sl.at_ hbl
                        rw [List.getElem?_map, he] at hul
                        injection hul with hul; subst hul
                        have HEJ := hide he
                        have q0 := R8.out.cell (k := 0) rfl
                        have HTLL : Hid (tj.length ≤ 20000) := hide (by
                          rw [HTJ.out, List.length_append]
                          have h1 := HLT.out; have h2 := HRL.out
                          split
                          · rw [List.length_map, List.length_take]; omega
                          · simp; omega)
                        clear he
                        have hzb : (tv % pace == 0) = true := by rw [hz]; rfl
                        have HTJ2 : Hid (tj ++ [⟨f.id, e⟩] = st.tell ++ (if tv % pace = 0 then (h.out.take (b + 1)).map (Inv.mk f.id) else [])) := hide (by rw [HTJ.out, if_pos hz, if_pos hz, List.take_add_one, HEJ.out]; simp)
                        have HONE : Hid (∀ u ∈ [Value.string f.id, .int .i64 e], u.oneCell' = true) := hide (Inv.cells_one ⟨f.id, e⟩)
                        have HWS := hide W8.out.size
                        go_upto_region 27 with (fail)
                        have HOa := hide (W8.out.ot.alloc (.cells #[.string f.id, .int .i64 e] 41)).drew
                        have HNa : Hid (∀ j u, [Value.string f.id, .int .i64 e][j]? = some u → ((wr.alloc (.cells #[.string f.id, .int .i64 e] 41)).drew).cell? ((⟨wr.heap.size, 0, none⟩ : Addr).add j) = some u) := hide (new_cells wr _ [.string f.id, .int .i64 e])
                        have hq1 : tj.length + 1 ≤ maxLen := by have := HTLL.out; unfold maxLen; omega
                        have hq2 : (tj.length + 1) * 24 ≤ 140737488355328 := by have := HTLL.out; omega
                        have HqB : Hid (w.heap.size ≤ ((wr.alloc (.cells #[.string f.id, .int .i64 e] 41)).drew).heap.size) := hide (by have := HWS.out; rw [World.size_drew, World.size_alloc]; omega)
                        have HOB : Hid ((Value.slice (some ⟨gl, ol, none⟩) LL c6).ownBlock = some gl) := hide (by obtain ⟨g', e1, e2, _⟩ := OwnS.spot (OwnS.of_own O8.out) (by omega); injection e1 with e1; injection e1 with e1 _ _; subst e1; exact e2)
                        have HR8L : Hid (Tb < wr.heap.size ∧ gl < wr.heap.size) := hide ⟨R8.out.lt, O8.out.row_lt gl HOB.out⟩
                        go_region_held3 (fun w' => w'.cell? ⟨Tb, 0, none⟩ = some (.string f.id) ∧ w'.cell? ⟨gl, ol + b, none⟩ = some (.int .i64 e))
                          (go_keep)
                          ((
                            refine step_appM (c' := 1) ?_ (.tmp 114) (.tmp 122) 36 ?_ (.agg #[.string ByteArray.empty, .int .i64 0]) 24 Try.underlying36 info_inv ?_ (by omega) [.string f.id, .int .i64 e] ?_ HOa.out ?_ ?_ HNa.out HONE.out hq1 hq2 HqB.out ?_
                            · rfl
                            · rfl
                            · rfl
                            · rfl
                            · rfl
                            · rfl
                            intro A9 c9 w9 ho hg hat
                            have hg' : (wr.alloc (.cells [Value.string f.id, .int .i64 e].toArray 41)).grownBy w9 (Value.slice At' tj.length ct').ownBlock := ⟨hg.os, hg.tape, hg.output, hg.size, hg.block⟩
                            have hB := (W8.out.grew hg' (fun k hk => ⟨W8.out.ot.row_ge k hk, fun hh => (W8.out.far k hh).1 hk⟩)).1
                            have g1 : w9.cell? ⟨Tb, 0, none⟩ = some (.string f.id) := (hB.cell (p := ⟨Tb, 0, none⟩) HR8L.out.1 (fun hh => (H8.out _ hh).1 rfl)).trans q0
                            have g2 : w9.cell? ⟨gl, ol + b, none⟩ = some (.int .i64 e) := (hB.cell (p := ⟨gl, ol + b, none⟩) HR8L.out.2 (fun hh => (H8.out _ hh).2 HOB.out)).trans cl))
                        have hlen : (tj ++ [(⟨f.id, e⟩ : Inv)]).length = tj.length + 1 := by simp
                        have ho2 : OwnS 2 w9 w.heap.size 41 A9 (tj ++ [(⟨f.id, e⟩ : Inv)]).length c9 ((tj ++ [(⟨f.id, e⟩ : Inv)]).flatMap Inv.cells) := by rw [hlen, List.flatMap_append, List.flatMap_cons, List.flatMap_nil, List.append_nil]; exact ho
                        have hE := W8.out.told (tell' := tj ++ [⟨f.id, e⟩]) ho2 hg' (by rw [hlen]; rcases hat with h2 | h2; exact .inl h2; exact .inr (by rw [h2, World.size_drew, World.size_alloc]))
                        have W9 := hide hE.1
                        have R9 := hide (hE.2.row R8.out (fun hh => (H8.out _ hh).1 rfl))
                        have O9 : Hid (Own w9 w5.heap.size 3 (some ⟨gl, ol, none⟩) LL c6 (h.out.map (Value.int .i64))) := hide (Own.but_rowR O8.out hE.2 (fun k hk hh => (H8.out k hh).2 hk))
                        have H9 : Hid (∀ k, (Value.slice A9 (tj ++ [(⟨f.id, e⟩ : Inv)]).length c9).ownBlock = some k → k ≠ Tb ∧ (Value.slice (some ⟨gl, ol, none⟩) LL c6).ownBlock ≠ some k) := hide (fun k hk => by
                          rw [hlen] at hk
                          rcases hat with h2 | h2
                          · exact H8.out k (h2 ▸ hk)
                          · rw [hk, World.size_drew, World.size_alloc] at h2; injection h2 with h2
                            exact ⟨by have := R8.out.lt; omega, fun hh => by have := O8.out.row_lt k hh; omega⟩)
                        have HLN := hide hlen
                        clear ho hg hg' hB hat ho2 hE W8 R8 O8 H8 cl rc2 q0 RC hlen g1 g2 HEND
                        go_wp2_with fail
                        go_roundw
                        case rel => exact ⟨b + 1, A9, c9, tj ++ [⟨f.id, e⟩], by omega, by go_num, by rw [HLN.out], HTJ2, W9, R9, O9, H9⟩
                        case measure => simp [intOf]; omega
                      · have hzb : (tv % pace == 0) = false := by rw [beq_eq_false_iff_ne]; exact hz
                        have HS3 := hide (HEND.out (.inr hz))
                        clear HTJ hz HEND
                        go_wp2_with fail
                        refine ⟨⟨k + 1, At', ct', Ad', cd', A5, c5, nx, A'', n'', c'', L'', by omega, by go_num, ?_⟩, by simp [intOf]; omega⟩
                        rw [HS3.out]
                        exact ⟨rfl, rfl, rfl, hn2, hnx2, W8, GT5, FW5⟩
                    · have hbn : ¬ ((b : Int) < (LL : Int)) := by omega
                      have HS3 := hide (HEND.out (.inl (by omega)))
                      clear HTJ HEND
                      go_wp2_with fail
                      refine ⟨⟨k + 1, At', ct', Ad', cd', A5, c5, nx, A'', n'', c'', L'', by omega, by go_num, ?_⟩, by simp [intOf]; omega⟩
                      rw [HS3.out]
                      exact ⟨rfl, rfl, rfl, hn2, hnx2, W8, GT5, FW5⟩
    · have him : i = m := by omega
      subst him
      rw [HE.out] at W1 GT ⊢
      have RCW := hide (HC.out.but W1.out.desk.but HNE.out)
      have rf := RCW.out.row.free 0
      have rc := RCW.out.row.cell (k := 0) rfl
      have hge : ¬ ((i : Int) < (i : Int)) := by omega
      have HPL : Hid (p < w.heap.size ∧ ¬ RB q A' n' c' p) := hide ⟨HC.out.row.lt, fun hh => by
        rcases W1.out.desk.new p hh with h2 | h2
        · exact HNE.out p (.inl rfl) h2
        · have := HC.out.row.lt; omega⟩
      go_wp2_with fail
      go_ret2
      have BC : But (fun k => k = p) wr (wr.setCell ⟨p, 0, none⟩ (.slice An next.length cn)) := (But.refl (fun k => k = p) wr).setC rfl
      refine ⟨At, ct, Ao, co, rfl, hide (W1.out.ot.but_row BC (fun k hk hh => by have := W1.out.ot.row_ge k hk; have := HPL.out; omega)), hide (Own.but_rowR W1.out.od BC (fun k hk hh => by have := W1.out.od.row_ge k hk; have := HPL.out; omega)), A', n', c', L', An, next.length, cn, next, hide ⟨by omega, by omega⟩, hide (W1.out.desk.desk.but BC (fun k hk hh => by have hh : k = p := hh; subst hh; exact HPL.out.2 hk)), hide ⟨W1.out.desk.N, W1.out.desk.G⟩, hide ⟨RCW.out.row.set 0 _, (W1.out.on.but_row BC (fun k hk hh => by have := W1.out.on.row_ge k hk; have := HPL.out; omega)).base_ HPL.out.1, RCW.out.o2.but_row BC (fun k hk hh => by have := RCW.out.o2.row_ge k hk; have hh : k = p := hh; omega), rfl, RCW.out.len2, fun k hk hk2 => ?_⟩, GT, FW, hide ((W1.out.desk.but.mono (fun k hk => .inr hk)).trans (BC.mono (fun k hk => .inl hk))), hide W1.out.desk.new, hide (fun k hk => ?_), hide (fun k hk hk2 => ?_)⟩
      · have := W1.out.on.row_ge k hk; have := HC.out.o2.row_lt k hk2; omega
      · rcases hk with rfl | hk | hk
        · exact .inl (.inl rfl)
        · exact .inr (W1.out.on.row_ge k hk)
        · exact .inl (.inr (.inr hk))
      · rcases hk2 with rfl | hk2 | hk2
        · exact HPL.out.2 hk
        · exact (W1.out.far k hk).2.2 hk2
        · rcases W1.out.desk.new k hk with h2 | h2
          · exact HNE.out k (.inr (.inr hk2)) h2
          · have := HC.out.o2.row_lt k hk2; omega
end Go.Proofs.Ytigeccflfdekiaa
