/-
  Revoke: few, walked.
-/
import Derived.Test.YtigeccflfdekiaaRevK
import Derived.Deep.DeepMust
namespace Go.Proofs.Ytigeccflfdekiaa
open Go.RowKit Go.Maps
set_option linter.unusedVariables false

/-- a family, cut short -/
def Fam.cut (f : Fam) : Fam := ⟨f.id, f.client, f.user, f.sA, f.sn, f.sc, f.redirect, f.challenge, f.method, f.code, f.tA, f.tn, f.tc, f.rev, f.ls.take 20⟩
def fewI (fs : List Fam) : List Fam := (fs.take 10).map Fam.cut
/-- a family with its leases' slice -/
structure FA where
  f : Fam
  A : Option Addr
  c : Nat
def FA.cells (x : FA) : List Value := x.f.cells x.A x.f.ls.length x.c
theorem FA.cells_len (x : FA) : x.cells.length = 11 := rfl
theorem FA.cells_one' (f : Fam) (A4 : Option Addr) (m ca : Nat) : ∀ u ∈ [Value.string f.id, .string f.client, .string f.user, .slice f.sA f.sn f.sc, .string f.redirect, .string f.challenge, .string f.method, .int .i64 f.code, .slice f.tA f.tn f.tc, .bool f.rev, .slice A4 m ca], u.oneCell' = true := by
  intro u hu
  simp at hu
  rcases hu with rfl | rfl | rfl | rfl | rfl | rfl | rfl | rfl | rfl | rfl | rfl <;> rfl
theorem FA.cells_one (x : FA) : ∀ u ∈ x.cells, u.oneCell' = true := by
  intro u hu
  simp [FA.cells, Fam.cells] at hu
  rcases hu with rfl | rfl | rfl | rfl | rfl | rfl | rfl | rfl | rfl | rfl | rfl <;> rfl
def FA.Ok (w : World) (Q : Nat → Prop) (x : FA) : Prop := x.f.id.size ≤ maxLen ∧ (∀ z ∈ x.f.ls, I64 z) ∧ x.f.ls.length ≤ x.c ∧ SlP Q w x.A x.f.ls.length (x.f.ls.map (Value.int .i64))
theorem info_fam : (Try.prog.info? 34).map (fun i => (i.zero, i.size, i.bytes)) = some (some (.agg #[.string ByteArray.empty, .string ByteArray.empty, .string ByteArray.empty, .slice none 0 0, .string ByteArray.empty, .string ByteArray.empty, .string ByteArray.empty, .int .i64 0, .slice none 0 0, .bool false, .slice none 0 0]), 11, 184) := by kernel_rfl
theorem SlFam.of_own {w' : World} {base n c : Nat} {A : Option Addr} {Q : Nat → Prop} {xs : List FA} (h : OwnS 11 w' base 34 A n c (xs.flatMap FA.cells)) (hl : xs.length = n) (hok : ∀ x ∈ xs, x.Ok w' Q) : SlFam w' (fun k => Q k ∨ (Value.slice A n c).ownBlock = some k) A n (xs.map FA.f) := by
  refine ⟨by rw [List.length_map]; exact hl, fun hn => ?_⟩
  obtain ⟨g, rfl, hg, hc, _⟩ := h.spot hn
  refine ⟨g, 0, rfl, .inr hg, fun k f hf => ?_⟩
  rw [List.getElem?_map] at hf
  cases hx : xs[k]? with
  | none => rw [hx] at hf; cases hf
  | some x =>
    rw [hx] at hf
    injection hf with hf; subst hf
    obtain ⟨o1, o2, o3, o4⟩ := hok x (List.mem_of_getElem? hx)
    refine ⟨o1, o2, x.A, x.c, fun j v hv => ?_, o3, o4.mono fun k hk => .inl hk⟩
    rw [Nat.zero_add]
    exact hc _ _ (flat_get FA.cells_len hx hv)
theorem fam_at {w0 w : World} {Q : Nat → Prop} {n : Nat} {A : Option Addr} {fs : List Fam} (h : SlFam w0 Q A n fs) (hb : Below w0.heap.size w0 w) (hQ : ∀ k, Q k → k < w0.heap.size) {i : Nat} (hi : i < n) :
    ∃ b o f A4 ca, A = some ⟨b, o, none⟩ ∧ fs[i]? = some f ∧ (∀ j v, (f.cells A4 f.ls.length ca)[j]? = some v → w.cell? ⟨b, o + i * 11 + j, none⟩ = some v) ∧ (⟨f, A4, ca⟩ : FA).Ok w0 Q := by
  obtain ⟨b, o, f, rfl, hq, hf, h0, h1, A4, ca, hc, hle, hs⟩ := h.at_ hi
  exact ⟨b, o, f, A4, ca, rfl, hf, fun j v hv => (hb.cell (p := ⟨b, o + i * 11 + j, none⟩) (hQ b hq)).trans (hc j v hv), h0, h1, hle, hs⟩
theorem FA.Ok.cut {w : World} {Q : Nat → Prop} {f : Fam} {A : Option Addr} {c k : Nat} (h : (⟨f, A, c⟩ : FA).Ok w Q) (hk : k = f.cut.ls.length) : (⟨f.cut, A, c⟩ : FA).Ok w Q := by
  obtain ⟨h1, h2, h3, h4⟩ := h
  have hl : f.cut.ls.length ≤ f.ls.length := by simp [Fam.cut]; omega
  refine ⟨h1, fun z hz => h2 z (List.mem_of_mem_take hz), Nat.le_trans hl h3, ?_⟩
  have := h4.take f.cut.ls.length hl
  have he : (f.ls.map (Value.int .i64)).take f.cut.ls.length = f.cut.ls.map (Value.int .i64) := by
    simp only [Fam.cut, ← List.map_take, List.length_take]
    congr 1
    rw [← List.take_eq_take_min]
  rw [he] at this
  exact this
theorem FA.Ok.below {w w' : World} {Q : Nat → Prop} {x : FA} (h : x.Ok w Q) (hb : Below w.heap.size w w') (hQ : ∀ k, Q k → k < w.heap.size) : x.Ok w' Q :=
  ⟨h.1, h.2.1, h.2.2.1, h.2.2.2.but (S := fun _ => False) (But.of_below hb) fun k hk => ⟨hQ k hk, id⟩⟩
/-- what few gives -/
def GivesFw (Q : Nat → Prop) (fs : List Fam) (w : World) (e : Ending) (w' : World) : Prop :=
  ∃ A2 c2, e = .returned (.slice A2 (fewI fs).length c2) ∧ Hid (SlFam w' (fun k => Q k ∨ (w.heap.size ≤ k ∧ k < w'.heap.size)) A2 (fewI fs).length (fewI fs)) ∧ Hid (Below w.heap.size w w')
set_option maxHeartbeats 8000000 in
set_option maxRecDepth 100000 in
theorem few_any (A : Option Addr) (n c : Nat) (Q : Nat → Prop) (fs : List Fam) (w : World) (hsl : SlFam w Q A n fs) (hQ : ∀ k, Q k → k < w.heap.size) (hn : n ≤ maxLen) :
    Calls Try.prog 14 #[.slice A n c] w (GivesFw Q fs w) := by
  have HSL := hide hsl; have HQ := hide hQ
  have HFL := hide hsl.1
  have hn9 : n ≤ 9223372036854775807 := hn
  clear hsl hQ hn
  go_enter Try.func14, Try.ntmps14
  go_wp2_with fail
  go_loopw [3, 4] (fun v3 v4 wq => ∃ (i : Nat) (xs : List FA) (At : Option Addr) (ct : Nat), i ≤ n ∧ i ≤ 10 ∧ v4 = .int .i64 i ∧ v3 = .slice At i ct ∧ Hid (OwnS 11 wq w.heap.size 34 At i ct (xs.flatMap FA.cells)) ∧ Hid (xs.map FA.f = (fs.take i).map Fam.cut) ∧ Hid (∀ x ∈ xs, x.Ok w Q) ∧ Hid (Below w.heap.size w wq)) (fun _ v _ => n - (intOf v).toNat)
  case atStart => exact ⟨0, [], none, 0, by omega, by omega, rfl, rfl, hide OwnS.nil_, hide rfl, hide (fun _ h => by cases h), hide (Below.refl _ _)⟩
  case round =>
    obtain ⟨i, xs, At, ct, hi, hi10, rfl, rfl, HO, HX, HK, HB⟩ := hrel
    by_cases hlt : i < n ∧ i < 10
    · obtain ⟨hlt, hlt2⟩ := hlt
      obtain ⟨pb, po, f, A4, ca, rfl, hpi, kk, hok⟩ := fam_at HSL.out HB.out HQ.out hlt
      have HPI := hide hpi; have HOK := hide hok
      have hca : f.ls.length ≤ ca := hok.2.2.1
      have k0' : wr.cell? ⟨pb, po + i * 11, none⟩ = some (.string f.id) := kk 0 _ rfl
      have k1 := kk 1 _ rfl; have k2 := kk 2 _ rfl; have k3 := kk 3 _ rfl; have k4 := kk 4 _ rfl; have k5 := kk 5 _ rfl; have k6 := kk 6 _ rfl; have k7 := kk 7 _ rfl; have k8 := kk 8 _ rfl; have k9 := kk 9 _ rfl; have k10 := kk 10 _ rfl
      clear kk hpi hok
      have hi1 : (i : Int) < (n : Int) := by omega
      have hi2 : (i : Int) < 10 := by omega
      have hi0 : (0 : Int) ≤ (i : Int) := by omega
      go_upto_region 6 with (fail)
      obtain ⟨Tb, hTb⟩ : ∃ Tb, Tb = wr.heap.size := ⟨_, rfl⟩
      have HTW : Hid (w.heap.size ≤ Tb) := hide (by have := HB.out.size; omega)
      have HTO : Hid (∀ k, (Value.slice At i ct).ownBlock = some k → k ≠ Tb) := hide (fun k hk => by have := HO.out.row_lt k hk; omega)
      rw [← hTb]
      refine wp_world (fun X => Hid (OwnS 11 X w.heap.size 34 At i ct (xs.flatMap FA.cells)) ∧ Hid (Below w.heap.size w X) ∧ Hid (RowV X Tb 34 (f.cells A4 f.ls.length ca))) ⟨hide (HO.out.alloc _), hide (HB.out.alloc HB.out.size _), hide (hTb ▸ RowV.new wr _ (f.cells A4 f.ls.length ca))⟩ ?_
      clear HO HB k0' k1 k2 k3 k4 k5 k6 k7 k8 k9 k10 hTb
      rintro X ⟨HO, HB, R⟩
      have r10 := R.out.cell (k := 10) rfl
      have fr := R.out.free 10
      obtain ⟨m, hm⟩ : ∃ m, m = f.cut.ls.length := ⟨_, rfl⟩
      have HM := hide hm
      have hm2 : m = f.ls.length ∧ f.ls.length ≤ 20 ∨ m = 20 ∧ 20 < f.ls.length := by simp [Fam.cut] at hm; omega
      have hmin : (if (20 : Int) < (f.ls.length : Int) then (20 : Int) else (f.ls.length : Int)) = (m : Int) := by
        split <;> omega
      have hmc : (m : Int) ≤ (ca : Int) := by omega
      have hm0 : (0 : Int) ≤ (m : Int) := by omega
      clear hm hm2 hca
      go_upto_region 7 with (fail)
      refine wp_world (fun Y => Hid (OwnS 11 Y w.heap.size 34 At i ct (xs.flatMap FA.cells)) ∧ Hid (Below w.heap.size w Y) ∧ Hid (RowV Y Tb 34 (f.cells A4 m ca))) ⟨hide (HO.out.but_row ((But.refl (fun k => k = Tb) X).setC rfl) (fun k hk => HTO.out k hk)), hide (HB.out.trans (((But.refl (fun k => k = Tb) X).setC rfl).below (fun k hk => by have := HTW.out; omega) HB.out.size)), hide (R.out.set 10 _)⟩ ?_
      clear HO HB R r10 fr
      rintro Y ⟨HO, HB, R⟩
      have HLT := hide R.out.lt
      have kk : ∀ j v, (f.cells A4 m ca)[j]? = some v → Y.cell? ⟨Tb, j, none⟩ = some v := fun j v hv => R.out.cell hv
      have k0 := kk 0 _ rfl; have k1 := kk 1 _ rfl; have k2 := kk 2 _ rfl; have k3 := kk 3 _ rfl; have k4 := kk 4 _ rfl; have k5 := kk 5 _ rfl; have k6 := kk 6 _ rfl; have k7 := kk 7 _ rfl; have k8 := kk 8 _ rfl; have k9 := kk 9 _ rfl; have k10 := kk 10 _ rfl
      clear kk R
      have HONE : Hid (∀ u ∈ [Value.string f.id, .string f.client, .string f.user, .slice f.sA f.sn f.sc, .string f.redirect, .string f.challenge, .string f.method, .int .i64 f.code, .slice f.tA f.tn f.tc, .bool f.rev, .slice A4 m ca], u.oneCell' = true) := hide (FA.cells_one' f A4 m ca)
      have HEQ : Hid (f.cells A4 m ca = (⟨f.cut, A4, ca⟩ : FA).cells) := hide (by rw [HM.out]; rfl)
      go_wp2_with (at_builtin; go_must (with_reducible refine wpList_appS1 rfl (.tmp 28) (.tmp 30) 35 rfl _ 184 Try.underlying35 info_fam rfl (by omega) [.string f.id, .string f.client, .string f.user, .slice f.sA f.sn f.sc, .string f.redirect, .string f.challenge, .string f.method, .int .i64 f.code, .slice f.tA f.tn f.tc, .bool f.rev, .slice A4 m ca] 34 rfl HO.out rfl rfl HONE.out (by unfold maxLen; omega) (by omega) (by exact HB.out.size) ?_))
      intro A2 c2 w2 ho hg hat
      change OwnS 11 w2 w.heap.size 34 A2 (i + 1) c2 (xs.flatMap FA.cells ++ f.cells A4 m ca) at ho
      rw [HEQ.out] at ho
      have HO2 := hide ho
      have HG2 := hide hg
      clear ho hg hat k0 k1 k2 k3 k4 k5 k6 k7 k8 k9 k10
      go_wp2_with fail
      go_roundw
      case rel =>
        refine ⟨i + 1, xs ++ [⟨f.cut, A4, ca⟩], A2, c2, by omega, by omega, by go_num, rfl, hide ?_, hide ?_, hide ?_, hide ?_⟩
        · rw [List.flatMap_append]; simpa using HO2.out
        · rw [take_snoc HPI.out, List.map_append, List.map_append, HX.out]; rfl
        · intro x hx
          rcases List.mem_append.1 hx with hx | hx
          · exact HK.out x hx
          · simp at hx; subst hx; exact HOK.out.cut HM.out
        · exact (HB.out.alloc HB.out.size _).grown HG2.out (by rw [World.size_alloc]; have := HB.out.size; omega) (fun k hk => HO.out.row_ge k hk)
      case measure => simp [intOf]; omega
    · have hor : ¬ ((i : Int) < (n : Int)) ∨ ((i : Int) < (n : Int) ∧ ¬ ((i : Int) < 10)) := by omega
      have HFW : Hid (fewI fs = xs.map FA.f ∧ (fewI fs).length = i) := hide (by
        have hle := HFL.out
        have h1 : fewI fs = xs.map FA.f := by
          unfold fewI
          rw [HX.out]
          congr 1
          by_cases h : i < n
          · rw [show i = 10 by omega]
          · rw [List.take_of_length_le (by omega : fs.length ≤ i), List.take_of_length_le (by omega)]
        refine ⟨h1, ?_⟩
        unfold fewI
        rw [List.length_map, List.length_take]; omega)
      clear hlt
      have HR : Hid (GivesFw Q fs w (.returned (.slice At i ct)) wr) := hide (by
        obtain ⟨h1, h2⟩ := HFW.out
        have hl : xs.length = i := by rw [← h2, h1, List.length_map]
        refine ⟨At, ct, by rw [h2], hide ?_, HB⟩
        rw [h2, h1]
        exact (SlFam.of_own HO.out hl (fun x hx => (HK.out x hx).below HB.out HQ.out)).mono (fun k hk => hk.elim .inl fun hk => .inr ⟨HO.out.row_ge k hk, HO.out.row_lt k hk⟩))
      clear HO HX HK HFW
      rcases hor with h | ⟨h, h2⟩
      all_goals
        go_wp2_with fail
        go_ret
        exact HR.out
end Go.Proofs.Ytigeccflfdekiaa
