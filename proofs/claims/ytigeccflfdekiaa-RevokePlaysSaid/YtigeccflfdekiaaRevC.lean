/-
  Revoke: the crew's Turn, walked.
-/
import Derived.Test.YtigeccflfdekiaaRevB
import Derived.RegionTactic
import Derived.BigRegion
namespace Go.Proofs.Ytigeccflfdekiaa
open Go.RowKit Go.Maps
set_option linter.unusedVariables false

theorem holders_hR (g b1 b2 n : Nat) (N : ByteArray → Int → Option Int) (G : ByteArray → Int → Bool) (term short : Int) (fam : ByteArray) (A : Option Addr) (m c B : Nat) (ls : List Int) (now : Int) (w : World)
    (hd : DeskSt w g b1 b2 n N G term short) (hsl : Sl w B A m (ls.map (Value.int .i64))) (hB : B ≤ w.heap.size) (hls : ∀ z ∈ ls, I64 z) (hmm : m ≤ 1000000) (hn : n ≤ 1000000) (hf : fam.size ≤ maxLen) (hnow : I64 now) (hterm : I64 term) (hN : ∀ s e a, N s e = some a → I64 a)
    (r : Hold) (hr : holdI G fam now term N ls = r) :
    Calls Try.prog 10 #[.pointer (some ⟨g, 0, none⟩), .string fam, .slice A m c, .int .i64 now] w fun en w' => ∃ A2 c2, en = .returned (.slice A2 r.out.length c2) ∧ Hid (Own w' w.heap.size 3 A2 r.out.length c2 (r.out.map (Value.int .i64))) ∧ Hid (DeskSt w' g b1 b2 (n + m) r.N G term short) ∧ Hid (But (DB b1 b2) w w') := by
  refine (holders_any g b1 b2 n N G term short fam A m c ls now w hd (hsl.more hB) hls hmm hn hf hnow hterm hN).mono ?_
  rintro e w' ⟨A2, c2, he, ho, hd', hb⟩
  rw [hr] at he ho hd'
  exact ⟨A2, c2, he, hide ho, hide hd', hide hb⟩
theorem Own.but_rowR {S : Nat → Prop} {w w' : World} {base e n c : Nat} {A : Option Addr} {xs : List Value} (h : Own w base e A n c xs) (hb : But S w w') (hs : ∀ k, (Value.slice A n c).ownBlock = some k → ¬ S k) : Own w' base e A n c xs := OwnS.but_row (OwnS.of_own h) hb hs
theorem Sl.butR {S : Nat → Prop} {w w' : World} {B n : Nat} {A : Option Addr} {xs : List Value} (h : Sl w B A n xs) (hb : But S w w') (hB : B ≤ w.heap.size) (hs : ∀ k, k < B → ¬ S k) : Sl w' B A n xs :=
  h.keep fun b off hlt => hb.cell (p := ⟨b, off, none⟩) (Nat.lt_of_lt_of_le hlt hB) (hs b hlt)
/-- the memory of a turn under way -/
structure TurnW (w wq : World) (g b1 b2 k : Nat) (N : ByteArray → Int → Option Int) (G : ByteArray → Int → Bool) (term x : Int) (i : Nat) (T : ByteArray → Option Int) (At : Option Addr) (ct : Nat) (tell : List Inv) (Ad : Option Addr) (cd : Nat) (done : List ByteArray) : Prop where
  ot : OwnS 2 wq (w.heap.size + 1) 41 At tell.length ct (tell.flatMap Inv.cells)
  od : Own wq (w.heap.size + 1) 9 Ad done.length cd (done.map Value.string)
  dis : ∀ k, (Value.slice At tell.length ct).ownBlock = some k → (Value.slice Ad done.length cd).ownBlock ≠ some k
  m : TurnM wq w.heap.size i T
  d : DeskSt wq g b1 b2 k N G term x
  bw : But (DB b1 b2) w wq
theorem TurnW.below {w wq wq' : World} {g b1 b2 k : Nat} {N : ByteArray → Int → Option Int} {G : ByteArray → Int → Bool} {term x : Int} {i : Nat} {T : ByteArray → Option Int} {At : Option Addr} {ct : Nat} {tell : List Inv} {Ad : Option Addr} {cd : Nat} {done : List ByteArray}
    (h : TurnW w wq g b1 b2 k N G term x i T At ct tell Ad cd done) (hb : Below wq.heap.size wq wq') : TurnW w wq' g b1 b2 k N G term x i T At ct tell Ad cd done :=
  ⟨h.ot.below hb, h.od.below hb, h.dis, h.m.but (But.of_below (S := fun _ => False) hb) id, h.d.below hb, h.bw.trans (But.of_below hb)⟩
theorem TurnW.mono {w wq : World} {g b1 b2 k k' : Nat} {N : ByteArray → Int → Option Int} {G : ByteArray → Int → Bool} {term x : Int} {i i' : Nat} {T : ByteArray → Option Int} {At : Option Addr} {ct : Nat} {tell : List Inv} {Ad : Option Addr} {cd : Nat} {done : List ByteArray}
    (h : TurnW w wq g b1 b2 k N G term x i T At ct tell Ad cd done) (hi : i ≤ i') (hk : k ≤ k') : TurnW w wq g b1 b2 k' N G term x i' T At ct tell Ad cd done := ⟨h.ot, h.od, h.dis, h.m.mono hi, h.d.mono hk, h.bw⟩
/-- what is told, or done with, grows -/
theorem TurnW.told {w wq w' : World} {g b1 b2 k : Nat} {N : ByteArray → Int → Option Int} {G : ByteArray → Int → Bool} {term x : Int} {i : Nat} {T : ByteArray → Option Int} {At At' : Option Addr} {ct ct' : Nat} {tell tell' : List Inv} {Ad : Option Addr} {cd : Nat} {done : List ByteArray} {e' : Nat} {news : List Value}
    (h : TurnW w wq g b1 b2 k N G term x i T At ct tell Ad cd done) (hl : b1 < w.heap.size ∧ b2 < w.heap.size ∧ g < w.heap.size) (ho : OwnS 2 w' (w.heap.size + 1) 41 At' tell'.length ct' (tell'.flatMap Inv.cells)) (hg : (wq.alloc (.cells news.toArray e')).grownBy w' (Value.slice At tell.length ct).ownBlock)
    (hat : (Value.slice At' tell'.length ct').ownBlock = (Value.slice At tell.length ct).ownBlock ∨ (Value.slice At' tell'.length ct').ownBlock = some (wq.heap.size + 1)) : TurnW w w' g b1 b2 k N G term x i T At' ct' tell' Ad cd done ∧ But (fun j => (Value.slice At tell.length ct).ownBlock = some j) wq w' := by
  have hB : But (fun j => (Value.slice At tell.length ct).ownBlock = some j) wq w' := (But.of_below ((Below.refl wq.heap.size wq).alloc (Nat.le_refl _) (.cells news.toArray e'))).trans (But.of_row hg fun k hk => hk)
  refine ⟨⟨ho, Own.but_rowR h.od hB (fun j hj hj' => h.dis j hj' hj), fun j hj => ?_, h.m.but hB (fun hh => by have := h.ot.row_ge _ hh; omega), h.d.but hB (fun hh => by have := h.ot.row_ge _ hh; omega) (fun hh => by have := h.ot.row_ge _ hh; omega) (fun hh => by have := h.ot.row_ge _ hh; omega), h.bw.after hB (fun j hj => .inr (by have := h.ot.row_ge j hj; omega))⟩, hB⟩
  rcases hat with h2 | h2
  · exact h.dis j (h2 ▸ hj)
  · rw [hj] at h2; injection h2 with h2
    exact fun hh => by have := h.od.row_lt j hh; omega
theorem TurnW.ended {w wq w' : World} {g b1 b2 k : Nat} {N : ByteArray → Int → Option Int} {G : ByteArray → Int → Bool} {term x : Int} {i : Nat} {T : ByteArray → Option Int} {At : Option Addr} {ct : Nat} {tell : List Inv} {Ad Ad' : Option Addr} {cd cd' : Nat} {done done' : List ByteArray} {o : Obj}
    (h : TurnW w wq g b1 b2 k N G term x i T At ct tell Ad cd done) (hl : b1 < w.heap.size ∧ b2 < w.heap.size ∧ g < w.heap.size) (ho : Own w' (w.heap.size + 1) 9 Ad' done'.length cd' (done'.map Value.string)) (hg : (wq.alloc o).grownBy w' (Value.slice Ad done.length cd).ownBlock)
    (hat : (Value.slice Ad' done'.length cd').ownBlock = (Value.slice Ad done.length cd).ownBlock ∨ (Value.slice Ad' done'.length cd').ownBlock = some (wq.heap.size + 1)) : TurnW w w' g b1 b2 k N G term x i T At ct tell Ad' cd' done' ∧ But (fun j => (Value.slice Ad done.length cd).ownBlock = some j) wq w' := by
  have hB : But (fun j => (Value.slice Ad done.length cd).ownBlock = some j) wq w' := (But.of_below ((Below.refl wq.heap.size wq).alloc (Nat.le_refl _) o)).trans (But.of_row hg fun k hk => hk)
  refine ⟨⟨h.ot.but_row hB (fun j hj hj' => h.dis j hj hj'), ho, fun j hj => ?_, h.m.but hB (fun hh => by have := h.od.row_ge _ hh; omega), h.d.but hB (fun hh => by have := h.od.row_ge _ hh; omega) (fun hh => by have := h.od.row_ge _ hh; omega) (fun hh => by have := h.od.row_ge _ hh; omega), h.bw.after hB (fun j hj => .inr (by have := h.od.row_ge j hj; omega))⟩, hB⟩
  rcases hat with h2 | h2
  · rw [h2]; exact h.dis j hj
  · rw [h2]; intro hh; injection hh with hh; have := h.ot.row_lt j hj; omega
/-- what a turn of the crew gives -/
def GivesT (g b1 b2 n m cg bw : Nat) (G : ByteArray → Int → Bool) (term x pace : Int) (r : TS) (w : World) (e : Ending) (w' : World) : Prop :=
  ∃ A1 c1 A2 c2, e = .returned (.tuple #[.slice A1 r.tell.length c1, .slice A2 r.done.length c2]) ∧ Hid (OwnS 2 w' w.heap.size 41 A1 r.tell.length c1 (r.tell.flatMap Inv.cells)) ∧ Hid (Own w' w.heap.size 9 A2 r.done.length c2 (r.done.map Value.string)) ∧
    Hid (CrewSt w' cg w.heap.size bw m r.T pace) ∧ Hid (DeskSt w' g b1 b2 (n + 100 * m) r.N G term x) ∧ Hid (But (fun k => k = cg ∨ DB b1 b2 k) w w')
set_option maxHeartbeats 8000000 in
set_option maxRecDepth 100000 in
theorem turnc_any (g b1 b2 n cg bt bw nt : Nat) (N : ByteArray → Int → Option Int) (G : ByteArray → Int → Bool) (T : ByteArray → Option Int) (term x pace : Int) (A : Option Addr) (m c : Nat) (Q : Nat → Prop) (fs : List Fam) (now : Int) (w : World)
    (hd : DeskSt w g b1 b2 n N G term x) (hc : CrewSt w cg bt bw nt T pace) (hne : cg ≠ g ∧ cg ≠ b1 ∧ cg ≠ b2 ∧ bt ≠ b1 ∧ bt ≠ b2) (hsl : SlFam w Q A m fs) (hQ : ∀ k, Q k → k < w.heap.size ∧ ¬ DB b1 b2 k)
    (hfl : ∀ f ∈ fs, f.ls.length ≤ 100) (hm : m ≤ 100) (hn : n ≤ 800000) (hnow : I64 now) (hterm : I64 term) (hN : ∀ s e a, N s e = some a → I64 a) (hpace : 1 ≤ pace ∧ pace ≤ 4096) (hT : Few 1000000 T) :
    Calls Try.prog 9 #[.pointer (some ⟨cg, 0, none⟩), .pointer (some ⟨g, 0, none⟩), .slice A m c, .int .i64 now] w (GivesT g b1 b2 n m cg bw G term x pace (tellI G now term pace T N fs) w) := by
  have hmm := @run_makeMap Try.prog
  have hfm : fs.length = m := hsl.1
  have HFM := hide hfm; have HFL := hide hfl; have HC := hide hc; have HT := hide hT; have HNE := hide hne; have HPACE := hide hpace
  have HSL := hide hsl; have HBD := hide hQ
  have M0 := hide (TurnM.made w)
  have D0 := hide (hd.but (But.of_alloc (S := fun _ => False) w (.map #[] 0)) id id id)
  have B0 : Hid (But (DB b1 b2) w (w.alloc (.map #[] 0))) := hide (But.of_alloc w _)
  have HL : Hid (cg < w.heap.size ∧ bt < w.heap.size ∧ b1 < w.heap.size ∧ b2 < w.heap.size ∧ g < w.heap.size) := hide ⟨hc.row.lt, hc.turns.lt, hd.notes.lt, hd.gone.lt, hd.row.lt⟩
  have I0 := hide hN
  obtain ⟨sti, hsti⟩ : ∃ sti : Nat → TS, sti = fun i => tellI G now term pace T N (fs.take i) := ⟨_, rfl⟩
  have HI : Hid (∀ i f, fs[i]? = some f → sti (i + 1) = turnStep G now term pace T (sti i) f) := hide (fun i f hf => by
    rw [hsti]; simp only
    rw [List.take_add_one, hf]
    exact tellI_snoc ..)
  have H0 : Hid (sti 0 = ⟨N, fun _ => none, [], []⟩) := hide (by rw [hsti]; rfl)
  have HE : Hid (sti m = tellI G now term pace T N fs) := hide (by rw [hsti]; simp only; rw [List.take_of_length_le (by omega)])
  have HIL : Hid (∀ i, (sti i).tell.length ≤ 10000 ∧ (sti i).done.length ≤ 100) := hide (fun i => by
    rw [hsti]
    have := tellI_len (G := G) (now := now) (term := term) (pace := pace) (T := T) (K := 100) (fs.take i) (fun f hf => hfl f (List.mem_of_mem_take hf)) ⟨N, fun _ => none, [], []⟩
    have h2 : (fs.take i).length ≤ 100 := by rw [List.length_take]; omega
    simp only [List.length_nil] at this
    show (tellI G now term pace T N (fs.take i)).tell.length ≤ 10000 ∧ (tellI G now term pace T N (fs.take i)).done.length ≤ 100
    unfold tellI
    omega)
  have HII : Hid (∀ i s e a, (sti i).N s e = some a → I64 a) := hide (fun i => by rw [hsti]; exact tellI_i64 hnow _ hN)
  clear hsti hd hc hne hsl hfl hfm hN hT hQ hpace
  rw [← HE.out]
  go_enter Try.func9, Try.ntmps9
  go_wp2_with fail
  go_loopw [10, 11, 26] (fun v10 v11 v26 wq => ∃ (i : Nat) (At : Option Addr) (ct : Nat) (Ad : Option Addr) (cd : Nat), i ≤ m ∧ v26 = .int .i64 i ∧ v10 = .slice At (sti i).tell.length ct ∧ v11 = .slice Ad (sti i).done.length cd ∧ Hid (TurnW w wq g b1 b2 (n + 100 * i) (sti i).N G term x i (sti i).T At ct (sti i).tell Ad cd (sti i).done)) (fun _ _ v _ => m - (intOf v).toNat)
  case atStart => exact ⟨0, none, 0, none, 0, by omega, rfl, by rw [H0.out]; rfl, by rw [H0.out]; rfl, by rw [H0.out]; exact hide ⟨OwnS.nil_, Own.nil_, fun k hk => (by cases hk), M0.out, D0.out, B0.out⟩⟩
  case round =>
    clear M0 D0 B0 H0
    obtain ⟨i, At, ct, Ad, cd, hi, rfl, rfl, rfl, W1⟩ := hrel
    by_cases hlt : i < m
    · obtain ⟨pb, po, f, rfl, hpb, hpi, hid, hls, A4, ca, k0, hca, hslf⟩ := HSL.out.at_ hlt
      have HST := hide (HI.out i f hpi)
      have hfl : f.ls.length ≤ 100 := HFL.out f (List.mem_of_getElem? hpi)
      have HLS := hide hls; have HSF := hide hslf
      have kk : ∀ j v, (f.cells A4 f.ls.length ca)[j]? = some v → wr.cell? ⟨pb, po + i * 11 + j, none⟩ = some v := fun j v hv => (W1.out.bw.cell (p := ⟨pb, po + i * 11 + j, none⟩) (HBD.out pb hpb).1 (HBD.out pb hpb).2).trans (k0 j v hv)
      have k0' : wr.cell? ⟨pb, po + i * 11, none⟩ = some (.string f.id) := kk 0 _ rfl
      have k1 := kk 1 _ rfl; have k2 := kk 2 _ rfl; have k3 := kk 3 _ rfl; have k4 := kk 4 _ rfl; have k5 := kk 5 _ rfl; have k6 := kk 6 _ rfl; have k7 := kk 7 _ rfl; have k8 := kk 8 _ rfl; have k9 := kk 9 _ rfl; have k10 := kk 10 _ rfl
      have HLT := hide (HIL.out i)
      have HNI := hide (HII.out i)
      obtain ⟨st, hst⟩ : ∃ st, st = sti i := ⟨_, rfl⟩
      rw [← hst] at W1 HST HLT HNI ⊢
      clear hst kk k0 hpi hls hslf
      have hi1 : (i : Int) < (m : Int) := by omega
      have hi0 : (0 : Int) ≤ (i : Int) := by omega
      go_upto_region 9 with (fail)
      obtain ⟨Tb, hTb⟩ : ∃ Tb, Tb = wr.heap.size := ⟨_, rfl⟩
      have HTB : Hid (w.heap.size < Tb) := hide (by have := W1.out.m.lt; omega)
      have HTO : Hid (∀ k, (Value.slice At st.tell.length ct).ownBlock = some k → k < Tb) := hide (fun k hk => hTb ▸ W1.out.ot.row_lt k hk)
      have HDO : Hid (∀ k, (Value.slice Ad st.done.length cd).ownBlock = some k → k < Tb) := hide (fun k hk => hTb ▸ W1.out.od.row_lt k hk)
      rw [← hTb]
      refine wp_world (fun X => Hid (TurnW w X g b1 b2 (n + 100 * i) st.N G term x i st.T At ct st.tell Ad cd st.done) ∧ Hid (RowV X Tb 34 (f.cells A4 f.ls.length ca))) ⟨hide (W1.out.below ((Below.refl _ _).alloc (Nat.le_refl _) _)), hide (hTb ▸ RowV.new wr _ (f.cells A4 f.ls.length ca))⟩ ?_
      clear W1 k0' k1 k2 k3 k4 k5 k6 k7 k8 k9 k10 hTb
      rintro X ⟨W1, R⟩
      have p0 := R.out.cell (k := 0) rfl
      have l1 := (W1.out.m.look hid).2
      obtain ⟨v0, hv0⟩ : ∃ v, v = (st.T f.id).getD 0 := ⟨_, rfl⟩
      by_cases hdup : (st.T f.id).isSome = true
      · have HS2 : Hid (sti (i + 1) = st) := hide (by rw [HST.out]; unfold turnStep; rw [if_pos hdup])
        rw [← hv0, hdup] at l1
        clear hdup HST hv0
        go_wp2_with fail
        go_roundw
        case rel =>
          refine ⟨i + 1, At, ct, Ad, cd, by omega, by go_num, ?_⟩
          rw [HS2.out]
          exact ⟨rfl, rfl, hide (W1.out.mono (by omega) (by omega))⟩
        case measure => simp [intOf]; omega
      · have hdf : (st.T f.id).isSome = false := by simpa using hdup
        obtain ⟨r, hr⟩ : ∃ r, holdI G f.id now term st.N f.ls = r := ⟨_, rfl⟩
        have HR := hide hr
        have HRL : Hid (r.out.length ≤ 100) := hide (by have := holdI_len G f.id now term st.N f.ls; rw [hr] at this; omega)
        have HS2 : Hid (sti (i + 1) = turnOf G now term pace T st f r) := hide (by rw [HST.out]; unfold turnStep; rw [if_neg hdup, hr])
        rw [← hv0, hdf] at l1
        clear hdup hdf HST hv0 hr
        obtain ⟨tv, htv⟩ : ∃ tv, tv = (T f.id).getD 0 := ⟨_, rfl⟩
        have htb := HT.out.getD (by omega) f.id
        rw [← htv] at htb
        obtain ⟨ht0, ht1⟩ := htb
        have RC := hide (W1.out.bw.row HC.out.row (fun h => by have := HNE.out; rcases h with h | h <;> omega))
        have rc := RC.out.cell (k := 1) rfl
        have TT := hide (HC.out.turns.but W1.out.bw (fun h => by have := HNE.out; rcases h with h | h <;> omega))
        have l2 := ((show TurnM X.drew bt nt T from TT.out).look hid).1
        have l2' := (TT.out.look hid).1
        rw [← htv] at l2 l2'
        have HTV := hide htv
        clear htv
        go_upto_region 11 with (fail)
        go_region
        go_upto_region 12 with (fail)
        obtain ⟨w5, hrun5, hst5, hgr5⟩ := (show TurnM X.drew w.heap.size i st.T from W1.out.m).store hid (by unfold maxLen; omega) (tv + 1)
        have B5 : Hid (But (fun k => k = w.heap.size) X w5) := hide (But.of_grown (S := fun k => k = w.heap.size) hgr5 rfl).undrew
        obtain ⟨T', hT'⟩ : ∃ T', T' = fun s' => if s' = f.id then some (tv + 1) else st.T s' := ⟨_, rfl⟩
        rw [← hT'] at hst5
        have W5 : Hid (TurnW w w5 g b1 b2 (n + 100 * i) st.N G term x (i + 1) T' At ct st.tell Ad cd st.done) := hide ⟨W1.out.ot.but_row B5.out (fun k hk h => by have := W1.out.ot.row_ge k hk; omega), Own.but_rowR W1.out.od B5.out (fun k hk h => by have := W1.out.od.row_ge k hk; omega), W1.out.dis, hst5, W1.out.d.but B5.out (fun h => by have := HL.out; omega) (fun h => by have := HL.out; omega) (fun h => by have := HL.out; omega), W1.out.bw.after B5.out (fun k hk => .inr (by omega))⟩
        have R5 := hide (B5.out.row R.out (fun h => by have := HTB.out; omega))
        have HTN := hide hT'
        clear hst5 hgr5 hT' W1 R RC TT rc l1 l2 l2' B5
        have ht2 : tv + 1 ≤ 9223372036854775807 := by omega
        have q0 := R5.out.cell (k := 0) rfl
        have q10 := R5.out.cell (k := 10) rfl
        have S5 : Hid (Sl w5 w5.heap.size A4 f.ls.length (f.ls.map (Value.int .i64))) := hide ((HSF.out.but W5.out.bw HBD.out).sl (fun k hk => Nat.lt_of_lt_of_le (HBD.out k hk).1 W5.out.bw.size))
        go_wp2_with fail
        refine (holders_hR g b1 b2 (n + 100 * i) st.N G term x f.id A4 f.ls.length ca w5.heap.size f.ls now w5 W5.out.d S5.out (Nat.le_refl _) HLS.out (by omega) (by omega) hid hnow hterm HNI.out r HR.out).mono ?_
        rintro e w6 ⟨A6, c6, rfl, O6, D6, hb6⟩
        have hDB : Hid (∀ k, w.heap.size ≤ k → ¬ DB b1 b2 k) := hide (fun k hk h => by have := HL.out; rcases h with h | h <;> omega)
        have W6 : Hid (TurnW w w6 g b1 b2 (n + 100 * (i + 1)) r.N G term x (i + 1) T' At ct st.tell Ad cd st.done) := hide ⟨W5.out.ot.but_row hb6.out (fun k hk => hDB.out k (by have := W5.out.ot.row_ge k hk; omega)), Own.but_rowR W5.out.od hb6.out (fun k hk => hDB.out k (by have := W5.out.od.row_ge k hk; omega)), W5.out.dis, W5.out.m.but hb6.out (hDB.out _ (Nat.le_refl _)), D6.out.mono (by omega), W5.out.bw.trans hb6.out⟩
        have R6 := hide (hb6.out.row R5.out (hDB.out _ (by have := HTB.out; omega)))
        have HW5 : Hid (Tb < w5.heap.size) := hide R5.out.lt
        have HO6 : Hid (∀ k, (Value.slice A6 r.out.length c6).ownBlock = some k → w5.heap.size ≤ k ∧ k < w6.heap.size) := hide (fun k hk => ⟨O6.out.row_ge k hk, O6.out.row_lt k hk⟩)
        clear W5 R5 S5 D6 hb6 q0 q10 hrun5 p0
        obtain ⟨dn, hdn⟩ : ∃ dn, dn = st.done ++ (if r.out = [] then [f.id] else []) := ⟨_, rfl⟩
        have HDN := hide hdn
        clear hdn
        go_upto_if 59 with (fail)
        go_cut [11] (fun v11 wx => ∃ (Ad' : Option Addr) (cd' : Nat), v11 = .slice Ad' dn.length cd' ∧ Hid (TurnW w wx g b1 b2 (n + 100 * (i + 1)) r.N G term x (i + 1) T' At ct st.tell Ad' cd' dn) ∧ Hid (RowV wx Tb 34 (f.cells A4 f.ls.length ca)) ∧ Hid (Own wx w5.heap.size 3 A6 r.out.length c6 (r.out.map (Value.int .i64))))
        case first =>
          by_cases hz : r.out = []
          · have hl0 : ((r.out.length : Int) == 0) = true := by rw [hz]; rfl
            have HD2 : Hid (dn = st.done ++ [f.id]) := hide (by rw [HDN.out, if_pos hz])
            have q0 := R6.out.cell (k := 0) rfl
            clear hz
            go_wp2_with (at_builtin; go_must (with_reducible refine wpList_app rfl (.tmp 60) (.tmp 63) 31 rfl (.string ByteArray.empty) 16 Try.underlying31 info_str (cells_string _) rfl (W6.out.od.alloc _) rfl Sl.one (one_str _) (by have := HLT.out; unfold maxLen; omega) (by have := HLT.out; omega) (by have := W6.out.m.lt; rw [World.size_alloc]; omega) ?_))
            intro A7 c7 w7 hown hgr hat
            have hlen : dn.length = st.done.length + 1 := by rw [HD2.out]; simp
            have hown2 : Own w7 (w.heap.size + 1) 9 A7 dn.length c7 (dn.map Value.string) := by rw [HD2.out]; simpa using hown
            have hE := W6.out.ended (by have := HL.out; omega) hown2 hgr (by rw [hlen]; simpa using hat)
            have W7 := hide hE.1
            have R7 := hide (hE.2.row R6.out (fun hh => by have := HDO.out _ hh; omega))
            have O7 : Hid (Own w7 w5.heap.size 3 A6 r.out.length c6 (r.out.map (Value.int .i64))) := hide (Own.but_rowR O6.out hE.2 (fun k hk hh => by have := HDO.out _ hh; have := HO6.out k hk; have := HW5.out; omega))
            have HLN := hide hlen
            clear hown hgr hat hown2 hE q0 hlen
            go_wp2_with fail
            go_meet
            exact ⟨A7, c7, by rw [HLN.out], W7, R7, O7⟩
          · have hl0 : ((r.out.length : Int) == 0) = false := by
              rw [beq_eq_false_iff_ne]
              intro h
              exact hz (List.eq_nil_of_length_eq_zero (by omega))
            have HD2 : Hid (dn = st.done) := hide (by rw [HDN.out, if_neg hz, List.append_nil])
            clear hz
            go_wp2_with fail
            go_meet
            rw [HD2.out]
            exact ⟨Ad, cd, rfl, W6, R6, O6⟩
        case rest =>
          clear W6 R6 O6
          obtain ⟨Ad', cd', rfl, W7, R7, O7⟩ := hcut
          obtain ⟨wo, rfl⟩ : ∃ wo : World, wo = wc := ⟨_, rfl⟩
          obtain ⟨hp1, hp2⟩ := HPACE.out
          have HTO2 : Hid (∀ k, (Value.slice At st.tell.length ct).ownBlock = some k → k ≠ Tb ∧ (Value.slice A6 r.out.length c6).ownBlock ≠ some k) := hide (fun k hk => ⟨by have := HTO.out k hk; omega, fun h => by have := HTO.out k hk; have := HO6.out k h; have := HW5.out; omega⟩)
          have HLTB : Hid (Tb < wo.heap.size) := hide R7.out.lt
          obtain ⟨L, hL⟩ : ∃ L, L = r.out.length := ⟨_, rfl⟩
          have HLL := hide hL
          have hL100 : L ≤ 100 := by have := HRL.out; omega
          rw [← hL] at O7 HTO2 ⊢
          clear hL
          go_wp2_with fail
          go_loopw [10, 67] (fun v10 v67 wq => ∃ (j : Nat) (At' : Option Addr) (ct' : Nat) (tj : List Inv), j ≤ L ∧ v67 = .int .i64 j ∧ v10 = .slice At' tj.length ct' ∧ Hid (tj = st.tell ++ (if tv % pace = 0 then (r.out.take j).map (Inv.mk f.id) else [])) ∧ Hid (TurnW w wq g b1 b2 (n + 100 * (i + 1)) r.N G term x (i + 1) T' At' ct' tj Ad' cd' dn) ∧ Hid (RowV wq Tb 34 (f.cells A4 f.ls.length ca)) ∧ Hid (Own wq w5.heap.size 3 A6 L c6 (r.out.map (Value.int .i64))) ∧ Hid (∀ k, (Value.slice At' tj.length ct').ownBlock = some k → k ≠ Tb ∧ (Value.slice A6 L c6).ownBlock ≠ some k)) (fun _ v _ => L - (intOf v).toNat)
          case atStart => exact ⟨0, At, ct, st.tell, by omega, rfl, rfl, hide (by split <;> simp), W7, R7, O7, HTO2⟩
          case round =>
            clear W7 R7 O7 HTO2
            obtain ⟨j, At', ct', tj, hj, rfl, rfl, HTJ, W8, R8, O8, H8⟩ := hrel
            by_cases hjl : j < L
            · obtain ⟨e, he⟩ : ∃ e, r.out[j]? = some e := ⟨_, List.getElem?_eq_getElem (by have := HLL.out; omega)⟩
              obtain ⟨gl, ol, ul, rfl, _, hul, cl⟩ := O8.out.sl.at_ hjl
              rw [List.getElem?_map, he] at hul
              injection hul with hul; subst hul
              have hj1 : (j : Int) < (L : Int) := by omega
              have hj0 : (0 : Int) ≤ (j : Int) := by omega
              have HEJ := hide he
              have RC := hide (W8.out.bw.row HC.out.row (fun h => by have := HNE.out; rcases h with h | h <;> omega))
              have rc0 := RC.out.cell (k := 0) rfl
              have q0 := R8.out.cell (k := 0) rfl
              have HTL : Hid (tj.length ≤ 20000) := hide (by
                rw [HTJ.out, List.length_append]
                have h1 := HLT.out; have h2 := HRL.out
                split
                · rw [List.length_map, List.length_take]; omega
                · simp; omega)
              clear he
              by_cases hz : tv % pace = 0
              · have hzb : (tv % pace == 0) = true := by rw [hz]; rfl
                have HTJ2 : Hid (tj ++ [⟨f.id, e⟩] = st.tell ++ (if tv % pace = 0 then (r.out.take (j + 1)).map (Inv.mk f.id) else [])) := hide (by rw [HTJ.out, if_pos hz, if_pos hz, List.take_add_one, HEJ.out]; simp)
                have HONE : Hid (∀ u ∈ [Value.string f.id, .int .i64 e], u.oneCell' = true) := hide (Inv.cells_one ⟨f.id, e⟩)
                go_wp2_with (at_builtin; go_must (with_reducible refine wpList_appS1 rfl (.tmp 78) (.tmp 83) 36 rfl _ 24 Try.underlying36 info_inv rfl (by omega) [.string f.id, .int .i64 e] 41 rfl W8.out.ot rfl rfl HONE.out (by have := HTL.out; unfold maxLen; omega) (by have := HTL.out; omega) (by have := W8.out.m.lt; omega) ?_))
                intro A9 c9 w9 ho hg hat
                have hlen : (tj ++ [(⟨f.id, e⟩ : Inv)]).length = tj.length + 1 := by simp
                have ho2 : OwnS 2 w9 (w.heap.size + 1) 41 A9 (tj ++ [(⟨f.id, e⟩ : Inv)]).length c9 ((tj ++ [(⟨f.id, e⟩ : Inv)]).flatMap Inv.cells) := by rw [hlen, List.flatMap_append, List.flatMap_cons, List.flatMap_nil, List.append_nil]; exact ho
                have hE := W8.out.told (tell' := tj ++ [⟨f.id, e⟩]) (by have := HL.out; omega) ho2 hg (by rw [hlen]; exact hat)
                have W9 := hide hE.1
                have R9 := hide (hE.2.row R8.out (fun hh => (H8.out _ hh).1 rfl))
                have O9 : Hid (Own w9 w5.heap.size 3 (some ⟨gl, ol, none⟩) L c6 (r.out.map (Value.int .i64))) := hide (Own.but_rowR O8.out hE.2 (fun k hk hh => (H8.out k hh).2 hk))
                have H9 : Hid (∀ k, (Value.slice A9 (tj ++ [(⟨f.id, e⟩ : Inv)]).length c9).ownBlock = some k → k ≠ Tb ∧ (Value.slice (some ⟨gl, ol, none⟩) L c6).ownBlock ≠ some k) := hide (fun k hk => by
                  rw [hlen] at hk
                  rcases hat with h2 | h2
                  · exact H8.out k (h2 ▸ hk)
                  · rw [hk] at h2; injection h2 with h2
                    exact ⟨by have := R8.out.lt; omega, fun hh => by have := O8.out.row_lt k hh; omega⟩)
                have HLN := hide hlen
                clear ho hg hat ho2 hE W8 R8 O8 H8 cl rc0 q0 RC hlen
                go_wp2_with fail
                go_roundw
                case rel => exact ⟨j + 1, A9, c9, tj ++ [⟨f.id, e⟩], by omega, by go_num, by rw [HLN.out], HTJ2, W9, R9, O9, H9⟩
                case measure => simp [intOf]; omega
              · have hzb : (tv % pace == 0) = false := by rw [beq_eq_false_iff_ne]; exact hz
                have HTJ2 : Hid (tj = st.tell ++ (if tv % pace = 0 then (r.out.take (j + 1)).map (Inv.mk f.id) else [])) := hide (by rw [HTJ.out, if_neg hz, if_neg hz])
                clear hz
                go_wp2_with fail
                go_roundw
                case rel => exact ⟨j + 1, At', ct', tj, by omega, by go_num, rfl, HTJ2, W8, R8, O8, H8⟩
                case measure => simp [intOf]; omega
            · have hjn : ¬ ((j : Int) < (L : Int)) := by omega
              have HS3 : Hid (sti (i + 1) = ⟨r.N, T', tj, dn⟩) := hide (by
                rw [HS2.out, HTJ.out, HDN.out, HTN.out, HTV.out]
                have htk : r.out.take j = r.out := List.take_of_length_le (by have := HLL.out; omega)
                rw [htk]
                rfl)
              clear HTJ
              go_wp2_with fail
              refine ⟨⟨i + 1, At', ct', Ad', cd', by omega, by go_num, ?_⟩, by simp [intOf]; omega⟩
              rw [HS3.out]
              exact ⟨rfl, rfl, W8⟩
    · have him : i = m := by omega
      subst him
      have hge : ¬ ((i : Int) < (i : Int)) := by omega
      have RC := hide (W1.out.bw.row HC.out.row (fun h => by have := HNE.out; rcases h with h | h <;> omega))
      have rf := RC.out.free 1
      have rc := RC.out.cell (k := 1) rfl
      go_wp2_with fail
      go_ret2
      have BC : But (fun k => k = cg) wr (wr.setCell ⟨cg, 1, none⟩ (.map (some w.heap.size))) := (But.refl (fun k => k = cg) wr).setC rfl
      have hl := HL.out
      refine ⟨At, ct, Ad, cd, rfl, hide ((W1.out.ot.base_ (Nat.le_succ _)).but_row BC (fun k hk h => by have := W1.out.ot.row_ge k hk; omega)), hide (Own.but_rowR (Own.base W1.out.od (Nat.le_succ _)) BC (fun k hk h => by have := W1.out.od.row_ge k hk; omega)), hide ⟨RC.out.set 1 _, W1.out.m.but BC (by omega), by omega⟩, hide (W1.out.d.but BC (fun h => HNE.out.1 h.symm) (fun h => HNE.out.2.1 h.symm) (fun h => HNE.out.2.2.1 h.symm)), hide ((W1.out.bw.mono (fun k hk => .inr hk)).trans (BC.mono (fun k hk => .inl hk)))⟩
end Go.Proofs.Ytigeccflfdekiaa
