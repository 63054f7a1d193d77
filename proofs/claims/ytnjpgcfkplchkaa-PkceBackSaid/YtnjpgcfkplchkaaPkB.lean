/-
  The walks of find, May, Challenge, Check, the program's and the document's.
-/
import Derived.Test.YtnjpgcfkplchkaaPkA
import Derived.Test.YtnjpgcfkplchkaaOctX
import Derived.Test.YtnjpgcfkplchkaaOctV
import Derived.Test.YtnjpgcfkplchkaaShaE
import Derived.Test.YtnjpgcfkplchkaaShaJ
import Derived.Deep.LoopGhost
namespace Go.Proofs.Ytnjpgcfkplchkaa
open Go.RowKit

def Pk.plainB : ByteArray := ⟨#[112, 108, 97, 105, 110]⟩
def Pk.s256B : ByteArray := ⟨#[83, 50, 53, 54]⟩
/-- what find tells of a name -/
def Pk.meth (s : ByteArray) : Array Value := if s.data.toList = Pk.plain then #[.string ⟨#[112, 108, 97, 105, 110]⟩, .func (.func 23) #[] #[], .func (.func 8) #[] #[]]
  else if s.data.toList = Pk.s256 then #[.string ⟨#[83, 50, 53, 54]⟩, .func (.func 24) #[] #[], .func (.func 27) #[] #[]] else #[.string ⟨#[]⟩, .nilFunc, .nilFunc]
def Pk.knows (s : ByteArray) : Bool := decide (s.data.toList = Pk.plain) || decide (s.data.toList = Pk.s256)
def Pk.lit : List Value := [.string ⟨#[112, 108, 97, 105, 110]⟩, .func (.func 23) #[] #[], .func (.func 8) #[] #[], .string ⟨#[83, 50, 53, 54]⟩, .func (.func 24) #[] #[], .func (.func 27) #[] #[]]
def Pk.zero : List Value := [.string ⟨#[]⟩, .nilFunc, .nilFunc]

theorem results_row_tmp {P : Program} {fn : Func} {p u : Tmp} {ty : TypeId} (h : fn.results = #[.cell p ty, .tmp u]) (tmps : Array Value) (w : World) (g : Nat) (t : TypeId) (cs : Array Value) (fr : Nat × Nat) (d : TypeDesc)
    (hp : tmps.getD p undef = .pointer (some ⟨g, 0, none⟩)) (hg : w.heap[g]? = some (.cells cs t fr))
    (hu : P.underlying ty = some d) (hd : (match d with | .struct _ | .array _ _ => true | _ => false) = true) (hi : (P.info? ty).map (·.size) = some cs.size) (x : Value) (hx : tmps.getD u undef = x) :
    (results fn tmps).run P w = .ok (.tuple #[.agg cs, x]) w := by
  rw [results_cell_tmp h, hp, hx]
  simp [asAddr, run_loadVar_row w g t ty cs fr d hg hu hd hi, Result.andThen]
theorem info_meth : (Try.prog.info? 34).map (·.size) = some 3 := by kernel_rfl
theorem ret_two {a b : Array Value} {x y : Bool} (h : a = b) (h2 : x = y) : Ending.returned (.tuple #[.agg a, .bool x]) = .returned (.tuple #[.agg b, .bool y]) := by rw [h, h2]
set_option maxHeartbeats 1000000 in
theorem find_any (s : ByteArray) (w : World) :
    Calls Try.prog 17 #[.string s] w fun e w' => e = .returned (.tuple #[.agg (Pk.meth s), .bool (Pk.knows s)]) ∧ Below w.heap.size w w' := by
  go_enter Try.func17, Try.ntmps17
  go_wp2_with fail
  refine wp_world (fun X => RowV X w.heap.size 34 Pk.zero ∧ RowV X (w.heap.size + 1) 34 Pk.lit ∧ Below w.heap.size w X)
    ⟨(heap_alloc2_old w _ _).trans rfl, (heap_alloc2_new w _ _).trans rfl, ((Below.refl _ _).alloc (Nat.le_refl _) _).alloc (by simp) _⟩ ?_
  rintro X ⟨x1, x2, x3⟩
  have X1 := hide x1; have X2 := hide x2; have X3 := hide x3
  clear x1 x2 x3
  go_loopw [10] (fun v10 wq => ∃ i : Nat, i ≤ 2 ∧ v10 = .int .i64 i ∧ Hid (RowV wq w.heap.size 34 Pk.zero) ∧ Hid (RowV wq (w.heap.size + 1) 34 Pk.lit) ∧ Hid (Below w.heap.size w wq) ∧ Hid (1 ≤ i → s.data.toList ≠ Pk.plain) ∧ Hid (2 ≤ i → s.data.toList ≠ Pk.s256)) (fun v _ => 2 - (intOf v).toNat)
  case atStart => exact ⟨0, by omega, rfl, X1, X2, X3, hide (fun h => by omega), hide (fun h => by omega)⟩
  case round =>
    clear X1 X2 X3
    obtain ⟨i, hi, rfl, R0, RL, BW, N1, N2⟩ := hrel
    match i, hi with
    | 0, _ =>
      have c0 := RL.out.cell (k := 0) rfl
      have c1 := RL.out.cell (k := 1) rfl
      have c2 := RL.out.cell (k := 2) rfl
      go_upto_region 4 with ((with_reducible refine wpList_store_row rfl 34 (.tmp 5) (.tmp 13) rfl wr.heap.size #[.string ⟨#[112, 108, 97, 105, 110]⟩, .func (.func 23) #[] #[], .func (.func 8) #[] #[]] rfl rfl 34 _ (heap_alloc_new wr _) ?r1 ?r2 ?r3 ?_))
      case r1 => kernel_rfl
      case r2 => rfl
      case r3 => simp [Value.oneCell']
      refine wp_world (fun Y => RowV Y wr.heap.size 34 #[.string ⟨#[112, 108, 97, 105, 110]⟩, .func (.func 23) #[] #[], .func (.func 8) #[] #[]].toList ∧ RowV Y w.heap.size 34 Pk.zero ∧ RowV Y (w.heap.size + 1) 34 Pk.lit ∧ Below w.heap.size w Y)
        ⟨row_set (heap_alloc_new wr _), (R0.out.alloc _).setRow (by have := R0.out.lt; omega), (RL.out.alloc _).setRow (by have := RL.out.lt; omega), below_setRow (BW.out.alloc BW.out.size _) BW.out.size _⟩ ?_
      rintro Y ⟨y1, y2, y3, y4⟩
      obtain ⟨gv, hgv⟩ : ∃ gv, gv = wr.heap.size := ⟨_, rfl⟩
      rw [← hgv] at y1 ⊢
      clear hgv R0 RL BW c0 c1 c2
      have d0 := y1.cell (k := 0) rfl
      have d1 := y1.cell (k := 1) rfl
      have d2 := y1.cell (k := 2) rfl
      have Y2 : Hid (Y.heap[w.heap.size]? = some (.cells Pk.zero.toArray 34 (0, 0))) := hide y2; have Y3 := hide y3; have Y4 := hide y4
      clear y1 y2 y3 y4
      by_cases he : s.data.toList = Pk.plain
      · have hs : s = ⟨#[112, 108, 97, 105, 110]⟩ := by
          obtain ⟨⟨l⟩⟩ := s
          have : l = Pk.plain := he
          subst this; rfl
        subst hs
        go_upto_region 7 with ((with_reducible refine wpList_store_row rfl 34 (.tmp 2) (.tmp 18) rfl w.heap.size #[.string ⟨#[112, 108, 97, 105, 110]⟩, .func (.func 23) #[] #[], .func (.func 8) #[] #[]] rfl rfl 34 _ Y2.out ?r4 ?r5 ?r6 ?_))
        case r4 => simpa using (show (Try.prog.info? 34).map (·.size) = some 3 by kernel_rfl)
        case r5 => rfl
        case r6 => simp [Value.oneCell']
        have e0 : RowV (Y.setRow w.heap.size #[.string ⟨#[112, 108, 97, 105, 110]⟩, .func (.func 23) #[] #[], .func (.func 8) #[] #[]]) w.heap.size 34 #[.string ⟨#[112, 108, 97, 105, 110]⟩, .func (.func 23) #[] #[], .func (.func 8) #[] #[]].toList := row_set Y2.out
        have B5 := below_setRow (g := w.heap.size) Y4.out (Nat.le_refl _) #[.string ⟨#[112, 108, 97, 105, 110]⟩, .func (.func 23) #[] #[], .func (.func 8) #[] #[]]
        exact bodyPost_ret (v := .tuple #[.agg #[.string ⟨#[112, 108, 97, 105, 110]⟩, .func (.func 23) #[] #[], .func (.func 8) #[] #[]], .bool true]) (results_row_tmp rfl _ _ w.heap.size 34 #[.string ⟨#[112, 108, 97, 105, 110]⟩, .func (.func 23) #[] #[], .func (.func 8) #[] #[]] (0, 0) _ rfl e0 Try.underlying34 rfl info_meth _ rfl) rfl ⟨ret_two (by unfold Pk.meth; rw [if_pos rfl]) (by unfold Pk.knows; simp [he]), B5⟩
      · have hne : s.data.toList ≠ Pk.plain := he
        have hb : (([112, 108, 97, 105, 110] : List UInt8) == s.toList) = false := by
          rw [beq_eq_false_iff_ne]; intro h
          rw [ByteArray.toList_eq] at h
          exact hne h.symm
        go_wp2_with fail
        go_roundw
        case rel => exact ⟨1, by omega, by go_num, Y2, Y3, Y4, hide (fun _ => hne), hide (fun h => by omega)⟩
        case measure => simp [intOf]
    | 1, _ =>
      have c3 := RL.out.cell (k := 3) rfl
      have c4 := RL.out.cell (k := 4) rfl
      have c5 := RL.out.cell (k := 5) rfl
      go_upto_region 4 with ((with_reducible refine wpList_store_row rfl 34 (.tmp 5) (.tmp 13) rfl wr.heap.size #[.string ⟨#[83, 50, 53, 54]⟩, .func (.func 24) #[] #[], .func (.func 27) #[] #[]] rfl rfl 34 _ (heap_alloc_new wr _) ?r1 ?r2 ?r3 ?_))
      case r1 => kernel_rfl
      case r2 => rfl
      case r3 => simp [Value.oneCell']
      refine wp_world (fun Y => RowV Y wr.heap.size 34 #[.string ⟨#[83, 50, 53, 54]⟩, .func (.func 24) #[] #[], .func (.func 27) #[] #[]].toList ∧ RowV Y w.heap.size 34 Pk.zero ∧ RowV Y (w.heap.size + 1) 34 Pk.lit ∧ Below w.heap.size w Y)
        ⟨row_set (heap_alloc_new wr _), (R0.out.alloc _).setRow (by have := R0.out.lt; omega), (RL.out.alloc _).setRow (by have := RL.out.lt; omega), below_setRow (BW.out.alloc BW.out.size _) BW.out.size _⟩ ?_
      rintro Y ⟨y1, y2, y3, y4⟩
      obtain ⟨gv, hgv⟩ : ∃ gv, gv = wr.heap.size := ⟨_, rfl⟩
      rw [← hgv] at y1 ⊢
      clear hgv R0 RL BW c3 c4 c5
      have d0 := y1.cell (k := 0) rfl
      have d1 := y1.cell (k := 1) rfl
      have d2 := y1.cell (k := 2) rfl
      have Y2 : Hid (Y.heap[w.heap.size]? = some (.cells Pk.zero.toArray 34 (0, 0))) := hide y2; have Y3 := hide y3; have Y4 := hide y4
      clear y1 y2 y3 y4
      by_cases he : s.data.toList = Pk.s256
      · have hs : s = ⟨#[83, 50, 53, 54]⟩ := by
          obtain ⟨⟨l⟩⟩ := s
          have : l = Pk.s256 := he
          subst this; rfl
        subst hs
        go_upto_region 7 with ((with_reducible refine wpList_store_row rfl 34 (.tmp 2) (.tmp 18) rfl w.heap.size #[.string ⟨#[83, 50, 53, 54]⟩, .func (.func 24) #[] #[], .func (.func 27) #[] #[]] rfl rfl 34 _ Y2.out ?r4 ?r5 ?r6 ?_))
        case r4 => simpa using (show (Try.prog.info? 34).map (·.size) = some 3 by kernel_rfl)
        case r5 => rfl
        case r6 => simp [Value.oneCell']
        have e0 : RowV (Y.setRow w.heap.size #[.string ⟨#[83, 50, 53, 54]⟩, .func (.func 24) #[] #[], .func (.func 27) #[] #[]]) w.heap.size 34 #[.string ⟨#[83, 50, 53, 54]⟩, .func (.func 24) #[] #[], .func (.func 27) #[] #[]].toList := row_set Y2.out
        have B5 := below_setRow (g := w.heap.size) Y4.out (Nat.le_refl _) #[.string ⟨#[83, 50, 53, 54]⟩, .func (.func 24) #[] #[], .func (.func 27) #[] #[]]
        exact bodyPost_ret (v := .tuple #[.agg #[.string ⟨#[83, 50, 53, 54]⟩, .func (.func 24) #[] #[], .func (.func 27) #[] #[]], .bool true]) (results_row_tmp rfl _ _ w.heap.size 34 #[.string ⟨#[83, 50, 53, 54]⟩, .func (.func 24) #[] #[], .func (.func 27) #[] #[]] (0, 0) _ rfl e0 Try.underlying34 rfl info_meth _ rfl) rfl ⟨ret_two (by unfold Pk.meth; rw [if_neg (by decide), if_pos rfl]) (by unfold Pk.knows; simp [he]), B5⟩
      · have hne : s.data.toList ≠ Pk.s256 := he
        have hb : (([83, 50, 53, 54] : List UInt8) == s.toList) = false := by
          rw [beq_eq_false_iff_ne]; intro h
          rw [ByteArray.toList_eq] at h
          exact hne h.symm
        go_wp2_with fail
        go_roundw
        case rel => exact ⟨2, by omega, by go_num, Y2, Y3, Y4, hide (fun _ => N1.out (by omega)), hide (fun _ => hne)⟩
        case measure => simp [intOf]
    | 2, _ =>
      have hk : Pk.meth s = #[.string ⟨#[]⟩, .nilFunc, .nilFunc] := by unfold Pk.meth; rw [if_neg (N1.out (by omega)), if_neg (N2.out (by omega))]
      have hk2 : Pk.knows s = false := by unfold Pk.knows; simp [N1.out (by omega), N2.out (by omega)]
      have HK := hide hk; have HK2 := hide hk2
      clear hk hk2
      have R0x : Hid (wr.heap[w.heap.size]? = some (.cells Pk.zero.toArray 34 (0, 0))) := hide R0.out
      go_wp2_with ((with_reducible refine wpList_store_row rfl 34 (.tmp 2) (.tmp 20) rfl w.heap.size #[.string ⟨#[]⟩, .nilFunc, .nilFunc] rfl rfl 34 _ R0x.out ?r4 ?r5 ?r6 ?_))
      case r4 => simpa using (show (Try.prog.info? 34).map (·.size) = some 3 by kernel_rfl)
      case r5 => rfl
      case r6 => simp [Value.oneCell']
      have e0 : RowV (wr.setRow w.heap.size #[.string ⟨#[]⟩, .nilFunc, .nilFunc]) w.heap.size 34 (#[.string ⟨#[]⟩, .nilFunc, .nilFunc] : Array Value).toList := row_set R0x.out
      have B5 := below_setRow (g := w.heap.size) BW.out (Nat.le_refl _) #[.string ⟨#[]⟩, .nilFunc, .nilFunc]
      exact bodyPost_ret (v := .tuple #[.agg #[.string ⟨#[]⟩, .nilFunc, .nilFunc], .bool false]) (results_row_tmp rfl _ _ w.heap.size 34 #[.string ⟨#[]⟩, .nilFunc, .nilFunc] (0, 0) _ rfl e0 Try.underlying34 rfl info_meth _ rfl) rfl ⟨ret_two HK.out.symm HK2.out.symm, B5⟩
end Go.Proofs.Ytnjpgcfkplchkaa
