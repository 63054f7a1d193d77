/-
  Lease: Holders, walked.
-/
import Derived.Test.YtigeccflfdekiaaLeaseG
import Derived.Deep.CutBlock
import Derived.Deep.DeepMust
namespace Go.Proofs.Ytigeccflfdekiaa
open Go.RowKit Go.Maps
set_option linter.unusedVariables false

theorem But.after {S S' : Nat → Prop} {w w' w'' : World} (h : But S w w') (h' : But S' w' w'') (hs : ∀ k, S' k → S k ∨ w.heap.size ≤ k) : But S w w'' :=
  ⟨h'.os.trans h.os, h'.tape.trans h.tape, h'.output.trans h.output, Nat.le_trans h.size h'.size, fun k hk hS => (h'.block k (Nat.lt_of_lt_of_le hk h.size) (fun hk' => (hs k hk').elim hS (fun hle => by omega))).trans (h.block k hk hS)⟩
theorem NoteM.ne_cell {w : World} {b n kb k : Nat} {N : ByteArray → Int → Option Int} {v : Value} (h : NoteM w b n N) (hc : w.cell? ⟨kb, k, none⟩ = some v) : kb ≠ b := by
  obtain ⟨f, ⟨D, ⟨es, cl, hb, _⟩, _⟩, _⟩ := h
  intro e; subst e
  simp [World.cell?, hb] at hc
theorem GoneM.ne_cell {w : World} {b n kb k : Nat} {G : ByteArray → Int → Bool} {v : Value} (h : GoneM w b n G) (hc : w.cell? ⟨kb, k, none⟩ = some v) : kb ≠ b := by
  obtain ⟨f, ⟨D, ⟨es, cl, hb, _⟩, _⟩, _⟩ := h
  intro e; subst e
  simp [World.cell?, hb] at hc
theorem DeskSt.mono {w : World} {g b1 b2 n n' : Nat} {N : ByteArray → Int → Option Int} {G : ByteArray → Int → Bool} {term short : Int} (h : DeskSt w g b1 b2 n N G term short) (hn : n ≤ n') : DeskSt w g b1 b2 n' N G term short := ⟨h.row, h.notes.mono hn, h.gone.mono hn, h.ne12, h.ne1, h.ne2⟩
theorem DeskSt.drew {w : World} {g b1 b2 n : Nat} {N : ByteArray → Int → Option Int} {G : ByteArray → Int → Bool} {term short : Int} (h : DeskSt w g b1 b2 n N G term short) : DeskSt w.drew g b1 b2 n N G term short := ⟨h.row, h.notes, h.gone, h.ne12, h.ne1, h.ne2⟩
theorem But.drew {S : Nat → Prop} {w w' : World} (h : But S w w') : But S w w'.drew := ⟨h.os, h.tape, h.output, h.size, h.block⟩
theorem Own.base {w : World} {base base' e n c : Nat} {A : Option Addr} {xs : List Value} (h : Own w base e A n c xs) (hb : base' ≤ base) : Own w base' e A n c xs := by
  rcases h.2 with ⟨h1, h2⟩ | ⟨g, cap, cur, h1, h2, h3⟩
  · exact ⟨h.1, .inl ⟨h1, h2⟩⟩
  · exact ⟨h.1, .inr ⟨g, cap, cur, h1, Nat.le_trans hb h2, h3⟩⟩
theorem info_i64 : (Try.prog.info? 3).map (fun i => (i.zero, i.size, i.bytes)) = some (some (.int .i64 0), 1, 8) := by kernel_rfl
theorem But.of_row {S : Nat → Prop} {w w' : World} {row : Option Nat} (h : w.grownBy w' row) (hb : ∀ k, row = some k → S k) : But S w w' := ⟨h.os, h.tape, h.output, h.size, fun k hk hn => h.block k hk (fun e => hn (hb k e.symm))⟩
theorem lookN_i64 {N : ByteArray → Int → Option Int} {fam : ByteArray} {e now : Int} (h : ∀ s e a, N s e = some a → I64 a) (hn : I64 now) : ∀ s' e' a, lookN N fam e now s' e' = some a → I64 a := by
  intro s' e' a ha
  unfold lookN at ha
  cases hc : N fam e with
  | none =>
    rw [hc] at ha
    simp only [setN] at ha
    split at ha
    · injection ha with ha; subst ha; exact hn
    · exact h _ _ _ ha
  | some b => rw [hc] at ha; exact h _ _ _ ha
set_option maxHeartbeats 8000000 in
set_option maxRecDepth 100000 in
theorem holders_any (g b1 b2 n : Nat) (N : ByteArray → Int → Option Int) (G : ByteArray → Int → Bool) (term short : Int) (fam : ByteArray) (A : Option Addr) (m c : Nat) (ls : List Int) (now : Int) (w : World)
    (hd : DeskSt w g b1 b2 n N G term short) (hsl : Sl w w.heap.size A m (ls.map (Value.int .i64))) (hls : ∀ z ∈ ls, I64 z) (hmm : m ≤ 1000000) (hn : n ≤ 1000000) (hf : fam.size ≤ maxLen) (hnow : I64 now) (hterm : I64 term) (hN : ∀ s e a, N s e = some a → I64 a) :
    Calls Try.prog 10 #[.pointer (some ⟨g, 0, none⟩), .string fam, .slice A m c, .int .i64 now] w fun en w' => ∃ A2 c2, en = .returned (.slice A2 (holdI G fam now term N ls).out.length c2) ∧ Own w' w.heap.size 3 A2 (holdI G fam now term N ls).out.length c2 ((holdI G fam now term N ls).out.map (Value.int .i64)) ∧ DeskSt w' g b1 b2 (n + m) (holdI G fam now term N ls).N G term short ∧ But (DB b1 b2) w w' := by
  have hml : ls.length = m := by simpa using hsl.1
  have hmm0 := @run_makeMap Try.prog
  have D0 := hide (hd.but (But.of_alloc (S := fun _ => False) w (.map #[] 0)) id id id)
  have S0 := hide (SeenM.made w)
  have B0 : Hid (But (DB b1 b2) w (w.alloc (.map #[] 0))) := hide (But.of_alloc w _)
  have HKN : Hid (∀ kb k v, w.cell? ⟨kb, k, none⟩ = some v → ¬ DB b1 b2 kb) := hide (fun kb k v hc h => h.elim (hd.notes.ne_cell hc) (hd.gone.ne_cell hc))
  have HSL := hide hsl; have HLS := hide hls; have HNN := hide hN; have HML := hide hml
  have l1 := hd.notes.lt; have l2 := hd.gone.lt; have l3 := hd.row.lt
  have n1 : w.heap.size ≠ b1 := by omega
  have n2 : w.heap.size ≠ b2 := by omega
  have n3 : w.heap.size ≠ g := by omega
  have HL := hide (And.intro l1 l2); have HG3 := hide l3
  clear hd hsl hls hN hml l1 l2 l3
  go_enter Try.func10, Try.ntmps10
  go_wp2_with fail
  go_loopw [9, 21] (fun v9 v21 wq => ∃ (i : Nat) (A2 : Option Addr) (c2 : Nat), i ≤ m ∧ v21 = .int .i64 i ∧ v9 = .slice A2 (holdI G fam now term N (ls.take i)).out.length c2 ∧ Hid (Own wq (w.heap.size + 1) 3 A2 (holdI G fam now term N (ls.take i)).out.length c2 ((holdI G fam now term N (ls.take i)).out.map (Value.int .i64))) ∧ Hid (DeskSt wq g b1 b2 (n + i) (holdI G fam now term N (ls.take i)).N G term short) ∧ Hid (SeenM wq w.heap.size i (holdI G fam now term N (ls.take i)).S) ∧ Hid (∀ s e a, (holdI G fam now term N (ls.take i)).N s e = some a → I64 a) ∧ Hid (But (DB b1 b2) w wq)) (fun _ v _ => m - (intOf v).toNat)
  case atStart => exact ⟨0, none, 0, by omega, rfl, rfl, hide Own.nil_, D0, S0, HNN, B0⟩
  case round =>
    clear D0 S0 B0
    obtain ⟨i, A2, c2, hi, rfl, rfl, O, D, S, NI, B⟩ := hrel
    by_cases hlt : i < m
    · obtain ⟨e, he⟩ : ∃ e, ls[i]? = some e := ⟨_, List.getElem?_eq_getElem (by rw [HML.out]; exact hlt)⟩
      have hsnoc : ls.take (i + 1) = ls.take i ++ [e] := by rw [List.take_add_one, he]; rfl
      have HEI : Hid (I64 e) := hide (HLS.out e (List.mem_of_getElem? he))
      obtain ⟨kb, ko, ku, rfl, hkb, hku, kc0⟩ := HSL.out.at_ hlt
      rw [List.getElem?_map, he] at hku
      injection hku with hku; subst hku
      have b1' : (0 : Int) ≤ (i : Int) := by omega
      have b2' : (i : Int) < (m : Int) := by omega
      have kc : wr.cell? ⟨kb, ko + i, none⟩ = some (.int .i64 e) := (B.out.cell (p := ⟨kb, ko + i, none⟩) hkb (HKN.out _ _ _ kc0)).trans kc0
      have HK : Hid (KOk fam e) := hide ⟨hf, HEI.out⟩
      have HSTEP : Hid (holdI G fam now term N (ls.take (i + 1)) = holdStep G fam now term (holdI G fam now term N (ls.take i)) e) := hide (by rw [hsnoc, holdI_snoc])
      clear hsnoc he
      obtain ⟨hh, hhe⟩ : ∃ hh, hh = holdI G fam now term N (ls.take i) := ⟨_, rfl⟩
      have HLEN : Hid (hh.out.length ≤ 1000000) := hide (by rw [hhe]; have := holdI_len G fam now term N (ls.take i); rw [List.length_take] at this; omega)
      rw [← hhe] at O D S NI HSTEP ⊢
      clear hhe
      go_upto_region 9 with (fail)
      refine wp_world (fun X => Hid (Own X (w.heap.size + 1) 3 A2 hh.out.length c2 (hh.out.map (Value.int .i64))) ∧ Hid (DeskSt X g b1 b2 (n + i) hh.N G term short) ∧ Hid (SeenM X w.heap.size i hh.S) ∧ Hid (But (DB b1 b2) w X) ∧ Hid (RowV X wr.heap.size 79 [.string fam, .int .i64 e]) ∧ Hid (w.heap.size < wr.heap.size ∧ wr.heap.size < X.heap.size)) ⟨hide (O.out.alloc (.cells #[.string fam, .int .i64 e] 79)), hide (D.out.but (But.of_alloc (S := fun _ => False) wr (.cells #[.string fam, .int .i64 e] 79)) id id id), hide (S.out.but (But.of_alloc (S := fun _ => False) wr (.cells #[.string fam, .int .i64 e] 79)) id), hide (B.out.trans (But.of_alloc wr (.cells #[.string fam, .int .i64 e] 79))), hide (RowV.new wr _ _), hide ⟨S.out.lt, by rw [World.size_alloc]; omega⟩⟩ ?_
      clear O D S B kc
      rintro X ⟨O, D, S, B, R, HZ⟩
      have HW : Hid (w.heap.size < wr.heap.size) := hide HZ.out.1
      have d1 := D.out.row.cell (k := 1) rfl
      have p0 := R.out.cell (k := 0) rfl
      have p1 := R.out.cell (k := 1) rfl
      have s1 := S.out.look HEI.out
      have s1d := (show SeenM X.drew w.heap.size i hh.S from S.out).look HEI.out
      have g1 := D.out.gone.look HK.out
      have g1d := (show GoneM X.drew b2 (n + i) G from D.out.gone).look HK.out
      by_cases hsk : hh.S e = true ∨ G fam e = true
      · have HST : Hid (holdI G fam now term N (ls.take (i + 1)) = hh) := hide (by rw [HSTEP.out]; unfold holdStep; rw [if_pos hsk])
        cases hS : hh.S e
        · have hG : G fam e = true := hsk.elim (fun h => absurd (hS ▸ h) (by simp)) id
          rw [hS] at s1 s1d
          rw [hG] at g1 g1d
          clear hsk hS hG
          go_region
          go_wp2_with fail
          go_roundw
          case rel =>
            refine ⟨i + 1, A2, c2, by omega, by go_num, ?_⟩
            rw [HST.out]
            exact ⟨rfl, hide O.out.drew, hide (D.out.mono (by omega)).drew, hide (show SeenM X.drew w.heap.size (i + 1) hh.S from S.out.mono (by omega)), NI, hide B.out.drew⟩
          case measure => simp [intOf]; omega
        · rw [hS] at s1 s1d
          clear hsk hS
          go_region
          go_wp2_with fail
          go_roundw
          case rel =>
            refine ⟨i + 1, A2, c2, by omega, by go_num, ?_⟩
            rw [HST.out]
            exact ⟨rfl, hide O.out.drew, hide (D.out.mono (by omega)).drew, hide (show SeenM X.drew w.heap.size (i + 1) hh.S from S.out.mono (by omega)), NI, hide B.out.drew⟩
          case measure => simp [intOf]; omega
      · have hS : hh.S e = false := by cases h : hh.S e; rfl; exact absurd (Or.inl h) hsk
        have hG : G fam e = false := by cases h : G fam e; rfl; exact absurd (Or.inr h) hsk
        have HST : Hid (holdI G fam now term N (ls.take (i + 1)) = ⟨lookN hh.N fam e now, fun e' => decide (e' = e) || hh.S e', if overB ((lookN hh.N fam e now fam e).getD 0) now term = true then hh.out else hh.out ++ [e]⟩) := hide (by rw [HSTEP.out]; unfold holdStep; rw [if_neg hsk])
        rw [hS] at s1 s1d
        rw [hG] at g1 g1d
        clear hsk hS hG HSTEP
        obtain ⟨wf, hrun, hst, hgr⟩ := (show SeenM X.drew w.heap.size i hh.S from S.out).store HEI.out (by unfold maxLen; omega)
        have SF := hide hst
        have OF := hide (O.out.drew.kept hgr (by
          cases h : (Value.slice A2 hh.out.length c2).ownBlock with
          | none => exact .inl rfl
          | some k => exact .inr (fun e => by injection e with e; have := O.out.row_ge k h; omega)))
        have BF : Hid (But (fun k => k = w.heap.size) X wf) := hide (But.of_grown (S := fun k => k = w.heap.size) hgr rfl).undrew
        clear hst hgr
        go_region
        go_upto_region 11 with (fail)
        have DF := hide (D.out.but BF.out n3.symm n1.symm n2.symm)
        have RF := hide (BF.out.row R.out (by have := HZ.out; omega))
        have BB := hide (B.out.after BF.out (fun k hk => .inr (by omega)))
        clear O D S B R d1 p0 p1 s1 s1d g1 g1d hrun
        have c0 := DF.out.row.cell (k := 0) rfl
        have c0' := fun o => (DF.out.row.alloc o).cell (k := 0) rfl
        have p0 := RF.out.cell (k := 0) rfl
        have p1 := RF.out.cell (k := 1) rfl
        have p0' := fun o => (RF.out.alloc o).cell (k := 0) rfl
        have p1' := fun o => (RF.out.alloc o).cell (k := 1) rfl
        obtain ⟨a, HA, hia⟩ : ∃ a, Hid (lookN hh.N fam e now fam e = some a) ∧ I64 a := by
          cases h : hh.N fam e with
          | none => exact ⟨now, hide (by unfold lookN; rw [h]; unfold setN; simp), hnow⟩
          | some a => exact ⟨a, hide (by unfold lookN; rw [h]; exact h), NI.out _ _ _ h⟩
        obtain ⟨x, hx⟩ : ∃ x, x = (hh.N fam e).getD 0 := ⟨_, rfl⟩
        obtain ⟨ok, hok⟩ : ∃ ok, ok = (hh.N fam e).isSome := ⟨_, rfl⟩
        have l0 := (DF.out.notes.look HK.out).1
        have l1 := fun o => ((DF.out.notes.but (But.of_alloc (S := fun _ => False) wf o) id).look HK.out).1
        have l0d := ((show NoteM wf.drew b1 (n + i) hh.N from DF.out.notes).look HK.out).1
        have l1d := fun o => ((show NoteM (wf.alloc o).drew b1 (n + i) hh.N from DF.out.notes.but (But.of_alloc (S := fun _ => False) wf o).drew id).look HK.out).1
        rw [← hx, ← hok] at l0 l0d
        simp only [← hx, ← hok] at l1 l1d
        have HOK := hide hok
        clear hx hok
        go_region
        go_upto_if 51 with (fail)
        go_cut [] (fun V => Hid (Own V (w.heap.size + 1) 3 A2 hh.out.length c2 (hh.out.map (Value.int .i64))) ∧ Hid (DeskSt V g b1 b2 (n + i + 1) (lookN hh.N fam e now) G term short) ∧ Hid (SeenM V w.heap.size (i + 1) (fun e' => decide (e' = e) || hh.S e')) ∧ Hid (But (DB b1 b2) w V ∧ RowV V wr.heap.size 79 [.string fam, .int .i64 e]))
        case first =>
          have OF2 := hide (OF.out.alloc (.cells #[.int .i64 x] 81)).drew
          have DF2 := hide (DF.out.but (But.of_alloc (S := fun _ => False) wf (.cells #[.int .i64 x] 81)).drew id id id)
          have SF2 := hide (SF.out.but (But.of_alloc (S := fun _ => False) wf (.cells #[.int .i64 x] 81)).drew id)
          have BF2 := hide (BB.out.trans (But.of_alloc wf (.cells #[.int .i64 x] 81)).drew)
          have RF2 := hide (RF.out.alloc (.cells #[.int .i64 x] 81))
          clear OF DF SF BB RF c0 c0' p0 p1 p0' p1' l0 l1 l0d l1d BF
          cases ok
          · have HLK : Hid (setN hh.N fam e now = lookN hh.N fam e now) := hide (by
              have := HOK.out
              unfold lookN
              cases h : hh.N fam e with
              | none => rfl
              | some a => rw [h] at this; cases this)
            clear HOK
            go_upto_region 13 with (fail)
            refine wp_world (fun Y => Hid (Own Y (w.heap.size + 1) 3 A2 hh.out.length c2 (hh.out.map (Value.int .i64))) ∧ Hid (DeskSt Y g b1 b2 (n + i) hh.N G term short) ∧ Hid (SeenM Y w.heap.size (i + 1) (fun e' => decide (e' = e) || hh.S e')) ∧ Hid (But (DB b1 b2) w Y) ∧ Hid (RowV Y wr.heap.size 79 [.string fam, .int .i64 e])) ⟨OF2, DF2, SF2, BF2, RF2⟩ ?_
            clear OF2 DF2 SF2 BF2 RF2
            rintro Y ⟨OF, DF, SF, BB, RF⟩
            have c0 := DF.out.row.cell (k := 0) rfl
            have p0 := RF.out.cell (k := 0) rfl
            have p1 := RF.out.cell (k := 1) rfl
            obtain ⟨w5, hrun5, hst5, hgr5⟩ := (show NoteM Y.drew b1 (n + i) hh.N from DF.out.notes).store HK.out (by unfold maxLen; omega) now
            have B5 : Hid (But (fun k => k = b1) Y w5) := hide (But.of_grown (S := fun k => k = b1) hgr5 rfl).undrew
            have O5 : Hid (Own w5 (w.heap.size + 1) 3 A2 hh.out.length c2 (hh.out.map (Value.int .i64))) := hide (OF.out.drew.kept hgr5 (by
              cases h : (Value.slice A2 hh.out.length c2).ownBlock with
              | none => exact .inl rfl
              | some k => exact .inr (fun e => by injection e with e; have := OF.out.row_ge k h; have := HL.out; omega)))
            have D5 : Hid (DeskSt w5 g b1 b2 (n + i + 1) (lookN hh.N fam e now) G term short) := hide ⟨B5.out.row DF.out.row DF.out.ne1, HLK.out ▸ hst5, (DF.out.gone.but B5.out (fun h => DF.out.ne12 h.symm)).mono (Nat.le_succ _), DF.out.ne12, DF.out.ne1, DF.out.ne2⟩
            have S5 : Hid (SeenM w5 w.heap.size (i + 1) (fun e' => decide (e' = e) || hh.S e')) := hide (SF.out.but B5.out n1)
            have BR5 : Hid (But (DB b1 b2) w w5 ∧ RowV w5 wr.heap.size 79 [.string fam, .int .i64 e]) := hide ⟨BB.out.trans (B5.out.mono fun k hk => .inl hk), B5.out.row RF.out (by have := HL.out; have := HW.out; omega)⟩
            clear hst5 hgr5
            go_region
            go_wp2_with fail
            go_meet
            exact ⟨O5, D5, S5, BR5⟩
          · have HLK : Hid (hh.N = lookN hh.N fam e now) := hide (by
              have := HOK.out
              unfold lookN
              cases h : hh.N fam e with
              | none => rw [h] at this; cases this
              | some a => rfl)
            clear HOK
            go_wp2_with fail
            go_meet
            exact ⟨OF2, hide (HLK.out ▸ DF2.out.mono (Nat.le_succ _)), SF2, hide ⟨BF2.out, RF2.out⟩⟩
        case rest =>
          clear OF DF SF BB RF c0 c0' p0 p1 p0' p1' l0 l1 l0d l1d BF HOK
          obtain ⟨OW, DW, SW, BW⟩ := hcut
          go_upto_region 14 with (fail)
          have KO : Hid (∀ p : Ext wc, Calls Try.prog 24 #[.int .i64 a, .int .i64 now, .int .i64 term] (extW wc p) fun en w' => en = .returned (.bool (overB a now term)) ∧ Below (extW wc p).heap.size (extW wc p) w') := hide (fun p => (over_any a now term hia hnow hterm _).mono fun _ _ ⟨h1, h2⟩ => ⟨h1, h2 ▸ Below.refl _ _⟩)
          have c0 := fun p : Ext wc => (DW.out.row.below' (extW_below wc p)).cell (k := 0) rfl
          have c2' := fun p : Ext wc => (DW.out.row.below' (extW_below wc p)).cell (k := 2) rfl
          have p0 := fun p : Ext wc => (BW.out.2.below' (extW_below wc p)).cell (k := 0) rfl
          have p1 := fun p : Ext wc => (BW.out.2.below' (extW_below wc p)).cell (k := 1) rfl
          have lk : ∀ p : Ext wc, (Instr.lookup 72 (.map (some b1)) (.agg #[.string fam, .int .i64 e]) false).run Try.prog (extW wc p) = .ok (.agg #[.int .i64 a]) (extW wc p) := fun p => by
            have := ((DW.out.notes.but (But.of_below (S := fun _ => False) (extW_below wc p)) id).look HK.out).2
            rw [HA.out] at this; exact this
          have hfld : ∀ W, (Instr.field 81 (.agg #[.int .i64 a]) 0).run Try.prog W = .ok (.int .i64 a) W := fun W => by kernel_rfl
          refine wp_region_ext (by kernel_rfl) (by kernel_rfl) ?_
          repeat (go_big_quiet_step (with_reducible first | exact ext_call _ (KO.out _)))
          refine wpQuiet_nil ?_
          intro _ hw'
          obtain ⟨p, hw''⟩ := hw'
          subst hw''
          have OZ := hide (OW.out.below (extW_below wc p)); have DZ := hide (DW.out.below (extW_below wc p))
          have SZ := hide (SW.out.but (But.of_below (S := fun _ => False) (extW_below wc p)) id); have BZ := hide (BW.out.1.trans (But.of_below (extW_below wc p)))
          have HSZ : Hid (w.heap.size + 1 ≤ (extW wc p).heap.size) := hide SZ.out.lt
          clear OW DW SW BW c0 c2' p0 p1 lk KO hfld
          generalize extW wc p = Z at OZ DZ SZ BZ HSZ ⊢
          have HGET : Hid ((lookN hh.N fam e now fam e).getD 0 = a) := hide (by rw [HA.out]; rfl)
          cases hov : overB a now term
          · have HST2 : Hid (holdI G fam now term N (ls.take (i + 1)) = ⟨lookN hh.N fam e now, fun e' => decide (e' = e) || hh.S e', hh.out ++ [e]⟩) := hide (by rw [HST.out, HGET.out, hov]; simp)
            clear HST hov
            go_wp2_with (at_builtin; go_must (with_reducible refine wpList_app rfl (.tmp 73) (.tmp 75) 22 rfl (.int .i64 0) 8 Try.underlying22 info_i64 (cells_int _ _) rfl (OZ.out.alloc _) rfl Sl.one (one_int _ _) (by have := HLEN.out; unfold maxLen; omega) (by have := HLEN.out; omega) (by have := HSZ.out; rw [World.size_alloc]; omega) ?_))
            intro A3 c3 w6 hown hgr hat
            have B6 : Hid (But (fun k => w.heap.size + 1 ≤ k) Z w6) := hide ((But.of_alloc Z _).trans (But.of_row hgr (fun k hk => OZ.out.row_ge k hk)))
            have O6 := hide hown
            clear hown hgr hat
            go_wp2_with fail
            go_roundw
            case rel =>
              refine ⟨i + 1, A3, c3, by omega, by go_num, ?_⟩
              rw [HST2.out]
              refine ⟨?_, ?_, ?_, ?_, hide (lookN_i64 NI.out hnow), ?_⟩
              · simp
              · exact hide (by simpa using O6.out)
              · have := HL.out; have := HG3.out
                exact hide ((DZ.out.but B6.out (by omega) (by omega) (by omega)).mono (by omega))
              · exact hide (SZ.out.but B6.out (by omega))
              · exact hide (BZ.out.after B6.out (fun k hk => .inr (by omega)))
            case measure => simp [intOf]; omega
          · have HST2 : Hid (holdI G fam now term N (ls.take (i + 1)) = ⟨lookN hh.N fam e now, fun e' => decide (e' = e) || hh.S e', hh.out⟩) := hide (by rw [HST.out, HGET.out, hov]; simp)
            clear HST hov
            go_wp2_with fail
            go_roundw
            case rel =>
              refine ⟨i + 1, A2, c2, by omega, by go_num, ?_⟩
              rw [HST2.out]
              exact ⟨rfl, OZ, hide (DZ.out.mono (by omega)), SZ, hide (lookN_i64 NI.out hnow), BZ⟩
            case measure => simp [intOf]; omega
    · have hall : ls.take i = ls := List.take_of_length_le (by rw [HML.out]; omega)
      rw [hall] at O D S NI ⊢
      have hge : ¬ ((i : Int) < (m : Int)) := by omega
      have him : i = m := by omega
      subst him
      go_wp2_with fail
      go_ret
      exact ⟨_, _, rfl, O.out.base (Nat.le_succ _), D.out, B.out⟩
end Go.Proofs.Ytigeccflfdekiaa
