/-
  StoreNone: whatever the input, the law returns true, and the input reads as it did. Conditions: those of the given card.
-/
import Derived.Test.YtdeabkkgmlimfaaGreatDoorStore
import Derived.Test.YtdeabkkgmlimfaaGreatDoorCards
import Derived.Test.YtdeabkkgmlimfaaGreatDoorTie
import Derived.WalkKit
import Derived.ProofKit
import Derived.OpenShut
import Derived.Deep.DeepHandedRow
import Derived.Deep.DeepWitnessRowRef
import Derived.Lib.LaidTab
import Derived.Lib.LaidIn
import Derived.Stop.LaidErr

set_option linter.unusedVariables false
set_option linter.unusedSimpArgs false

namespace Go.AM
open Go Go.Proofs Go.RowKit
set_option maxRecDepth 20000

/-- The abstract heap of a first world: the table of powers. -/
def h3 : H := ⟨fun b => if b = 3 then some (.cells 183 (Lib.pow10Tab.map fun z => .int .u64 z)) else none, fun _ => none⟩
def g3 (W : World) : Gh := ⟨fun b i => if b = 3 then none else W.cell? ⟨b, i, none⟩, fun _ => none⟩
theorem h3_t : T3 h3 := rfl

theorem ints_vrs {g : Gh} {k : IntKind} : ∀ (zs : List Int), VRs g (zs.map fun z => AV.int k z) (zs.map fun z => Value.int k z)
  | [] => .nil
  | _ :: zs => .cons (.int _ _) (ints_vrs zs)

theorem rel3 {W : World} (ht : W.heap[3]? = some (.cells (Lib.pow10Tab.map fun z => Value.int .u64 z).toArray 183 (0, 0))) : Rel (g3 W) h3 W where
  im := fun b i v hv => by
    simp only [g3] at hv
    split at hv
    · cases hv
    · exact hv
  lim := fun b l hl => by cases hl
  mm := fun b o ho => by
    simp only [h3] at ho
    split at ho
    · rename_i e
      subst e
      cases ho
      refine ⟨⟨_, ht, rfl, ?_, rfl⟩, fun i => by simp [g3], rfl⟩
      exact ints_vrs _
    · cases ho
  tt := fun b e he => by cases he

theorem gl3 {W : World} {mx : Int} (hm : W.cell? ⟨0, 0, none⟩ = some (.int .i64 mx)) : GlOK (gl0 mx) (g3 W) := fun k => by
  cases k with
  | zero =>
    have := VR.ept (g := g3 W) [.int .i64 mx] 0 [.int .i64 mx] 0 0 (.cons (.int _ _) .nil) (fun i v hv => by
      cases i with
      | zero => simp at hv; subst hv; simpa [g3] using hm
      | succ i => simp at hv)
    exact this
  | succ k => exact .junk _

/-- What a contract says at a first world. -/
theorem calls_of_ac {mx : Int} {f : FuncId} {args : List AV} {W : World} {vs : List Value} (hent : ∀ args w, (callFunc f args).run Tryz.prog w = .ok (.enter f args) w) (hm : W.cell? ⟨0, 0, none⟩ = some (.int .i64 mx))
    (ht : W.heap[3]? = some (.cells (Lib.pow10Tab.map fun z => Value.int .u64 z).toArray 183 (0, 0))) (hv : VRs (g3 W) args vs)
    (hc : AC mx f args h3 fun v h => v = .bool true ∧ h = h3) : Calls Tryz.prog f vs.toArray W fun e W' => e = .returned (.bool true) ∧ Below W.heap.size W W' := by
  have key := hc (g3 W) W vs (gl3 hm) (rel3 ht) hv
  unfold CallsX at key
  rw [hent] at key
  refine key.mono ?_
  intro e W' he
  cases e with
  | returned v =>
    obtain ⟨g', h', av, ⟨rfl, rfl⟩, hi, hvr⟩ := he
    cases hvr
    refine ⟨rfl, hi.os, hi.tape, hi.output, hi.size, fun k hk => ?_⟩
    by_cases h3' : k = 3
    · subst h3'
      obtain ⟨⟨x, hx, ho⟩, _, _⟩ := hi.rel.mm 3 _ (show h3.m 3 = _ from rfl)
      cases x <;> simp only [OR] at ho
      obtain ⟨rfl, ho, rfl⟩ := ho
      rw [hx, ht]
      have := vrs_ints ho
      congr 2
      exact Array.ext' (by rw [this])
    · exact (hi.keep k hk (by simp [h3, h3']) rfl).1
  | _ => exact he.elim
end Go.AM

namespace Go.Proofs.YtdeabkkgmlimfaaGreatDoor
open Go.ChangeShapes Go.WideShapes Go.ChangeAt Go.RowKit Go.Lib
open Go.ChangeMaps (open_string shut_string)
set_option maxRecDepth 20000

theorem own : ownKnob Tryz.prog.godebug = none := by kernel_rfl

/-- What a first world that meets the row's list holds. -/
theorem first_world {W : World} (hL : laidMetH Tryz.prog Rows.storeNoneRow.laid W) (hsh : W.ShapedOpen Tryz.prog) :
    (∃ m, W.cell? ⟨0, 0, none⟩ = some (.int .i64 m)) ∧ W.heap[3]? = some (.cells (Lib.pow10Tab.map fun z => Value.int .u64 z).toArray 183 (0, 0)) := by
  refine ⟨Tryz.laysM219.s1_3 W hsh, ?_⟩
  have hL' : laidMet Tryz.prog Rows.storeNoneRow.laid W := hL
  have htab : Lib.TabIs Tryz.prog W "internal/strconv.uint64pow10" .u64 Lib.pow10Tab :=
    Lib.tabIs_of_head (rest := [("strconv.ErrRange", Rows.laid_strconv_ErrRange), ("strconv.ErrSyntax", Rows.laid_strconv_ErrSyntax)]) (g := 3) (t := 183) (e := 44) (n := 20) (by kernel_rfl) (by kernel_rfl) (by kernel_rfl) (by kernel_rfl) (by kernel_rfl) (by kernel_rfl) hL'.tail.tail
  obtain ⟨cs, h1, _, _⟩ := hsh.1 3 (Array.replicate 20 (.int .u64 0)) 183 (of_decide_eq_true (by kernel_rfl)) (by kernel_rfl)
  unfold Lib.TabIs World.var? at htab
  have hg : Tryz.prog.globalNamed "internal/strconv.uint64pow10" = some 3 := by kernel_rfl
  rw [hg] at htab
  simp only [Option.bind_some, h1] at htab
  rw [h1]
  congr 2
  exact Option.some.inj htab
end Go.Proofs.YtdeabkkgmlimfaaGreatDoor

namespace Go.Proofs.YtdeabkkgmlimfaaGreatDoor
open Go.AM
open Go.ChangeShapes Go.WideShapes Go.ChangeAt Go.RowKit Go.Lib
open Go.ChangeMaps (open_string shut_string)
set_option maxRecDepth 20000

noncomputable abbrev N0 : Nat := (World.settled Tryz.prog default).heap.size
/-- The settled world with two blocks more (the two errors' structs), the five variables holding what their initialisers lay. -/
noncomputable def laidWorld (os : Os) : World :=
  let N := (World.settled Tryz.prog os).heap.size
  let w0 := World.holding Tryz.prog os ⟨#[.cells #[.string ⟨#[118, 97, 108, 117, 101, 32, 111, 117, 116, 32, 111, 102, 32, 114, 97, 110, 103, 101]⟩] 181, .cells #[.string ⟨#[105, 110, 118, 97, 108, 105, 100, 32, 115, 121, 110, 116, 97, 120]⟩] 181], #[], []⟩
  let put (h : Array Obj) (g : Nat) (cs : Array Value) : Array Obj := h.modify g fun
    | .cells _ t frozen => .cells cs t frozen
    | o => o
  let h1 := put (put w0.heap 2 #[.iface 179 (.pointer (some ⟨N, 0, none⟩))]) 1 #[.iface 179 (.pointer (some ⟨N + 1, 0, none⟩))]
  let h2 := put h1 3 (Lib.pow10Tab.map fun z => Value.int .u64 z).toArray
  let h3 := put h2 4 #[.int .u8 0, .int .u8 1, .int .u8 28, .int .u8 2, .int .u8 29, .int .u8 14, .int .u8 24, .int .u8 3, .int .u8 30, .int .u8 22, .int .u8 20, .int .u8 15, .int .u8 25, .int .u8 17, .int .u8 4, .int .u8 8, .int .u8 31, .int .u8 27, .int .u8 13, .int .u8 23, .int .u8 21, .int .u8 19, .int .u8 16, .int .u8 7, .int .u8 26, .int .u8 12, .int .u8 18, .int .u8 6, .int .u8 11, .int .u8 5, .int .u8 10, .int .u8 9]
  let h4 := put h3 5 (([0, 1, 56, 2, 57, 49, 28, 3, 61, 58, 42, 50, 38, 29, 17, 4, 62, 47, 59, 36, 45, 43, 51, 22, 53, 39, 33, 30, 24, 18, 12, 5, 63, 55, 48, 27, 60, 41, 37, 16, 46, 35, 44, 21, 52, 32, 23, 11, 54, 26, 40, 15, 34, 20, 31, 10, 25, 14, 19, 9, 13, 8, 7, 6] : List Int).map fun z => Value.int .u8 z).toArray
  { w0 with heap := h4 }

theorem laid_met (os : Os) (args : Array Value) : laidMet Tryz.prog Rows.storeNoneRow.laid ((laidWorld os).forCall (fun _ _ => 0) ⟨#[], args, []⟩).memory :=
  (LaidIn.of_run (l := Rows.storeNoneRow.laid) [4, 5, 3, 2, N0, 1, N0 + 1] 8 (by kernel_rfl) (by kernel_rfl) (by kernel_rfl) (by kernel_rfl)).met

theorem witness_none (os : Os) {H : Type} (enc : TypeId × Value → H) :
    (OpenSpec.ofChange Rows.storeNoneSpec).preRow enc Tryz.prog Tryz.f3 Rows.storeNoneRow.domain false Rows.storeNoneRow.laid ((laidWorld os).forCall (fun _ _ => 0) ⟨#[], #[.string ⟨#[]⟩], []⟩).memory #[.string ⟨#[]⟩] := by
  have hw : (DataW.whole enc Tryz.prog ((laidWorld os).forCall (fun _ _ => 0) ⟨#[], #[.string ⟨#[]⟩], []⟩).memory Tryz.f3.params.toList Rows.storeNoneSpec.vars false #[Value.string ⟨#[]⟩].toList 8).map (fun x => (x.1, x.2.1)) =
      some ([.lit (.string [])], []) := by kernel_rfl
  obtain ⟨⟨x1, x2, x3⟩, hx, hx1⟩ := Option.map_eq_some_iff.1 hw
  simp only [Prod.mk.injEq] at hx1
  obtain ⟨rfl, rfl⟩ := hx1
  exact OpenSpec.preRow_of_cond 8 hx (by kernel_rfl) (fun k hk => by cases hk) (by kernel_rfl) (laid_met os _)

theorem none_lifted (os : Os) (started : os.Started) (H : Type) (enc : TypeId × Value → H) (F : Stop.Interp) :
    ReturnsInHanded {} Tryz.checked os 3 .any ((OpenSpec.ofChange Rows.storeNoneSpec).preRow enc Tryz.prog Tryz.f3 Rows.storeNoneRow.domain false Rows.storeNoneRow.laid) (((OpenSpec.ofChange Rows.storeNoneSpec).at F).post enc Tryz.prog Tryz.f3 false true false false) := by
  refine returnsInHanded_of_row (C := Tryz.checked) (s := OpenSpec.ofChange Rows.storeNoneSpec) own started (by kernel_rfl) Tryz.func3
    (witness_row_atRef (enc := enc) (C := Tryz.checked) false (laidWorld os) #[.string ⟨#[]⟩] rfl (by kernel_rfl) (by kernel_rfl) (by kernel_rfl) (witness_none os enc)) ?_
  intro W base args ds gs before hval0 hW _ _ _ hL hsh _
  have hval : ∀ (j : Nat) t v, Tryz.f3.params[j]? = some t → args[j]? = some v → Value.okWide Tryz.prog W .any base t v := hval0
  have hW' := hW
  obtain ⟨p, q, hA0, hV0, rfl, _, _⟩ := hW
  have hA : DataW.TrodAll enc Tryz.prog W 0 (fun _ => true) true Tryz.f3.params.toList args.toList ds p := hA0
  rw [Tryz.params3] at hA hval
  obtain ⟨v0, d0, rfl, rfl, h0⟩ := trodAll_one hA
  obtain ⟨rfl, rfl⟩ := trodVars_none hV0
  obtain ⟨s, rfl, rfl, rfl, ws⟩ := open_string Tryz.underlying9 (hval 0 9 v0 rfl rfl) h0
  clear hA0 hV0 hval0
  obtain ⟨⟨m, hm⟩, ht⟩ := first_world hL hsh
  have run := calls_of_ac (f := 3) (vs := [.string s]) (args := [.str s.data.toList]) (enters_of Tryz.func3 (by kernel_rfl) rfl) hm ht (.cons (.str s.data.toList) .nil) (c3 m h3_t ⟨rfl, rfl⟩)
  refine run.mono ?_
  rintro e W' ⟨rfl, bel⟩
  have e1 : ((OpenSpec.ofChange Rows.storeNoneSpec).at F).fn H ([.lit (.string s.data.toList)] ++ []) = { results := [.lit (.bool true)], args := [.lit (.string s.data.toList)] } := rfl
  refine ⟨_, rfl, _, _, _, [], [], [], hW', ?_, ?_, ?_, bel.frame _, fun h => by cases h⟩
  · rw [e1]; exact trodAll_mk1 (shut_bool Tryz.underlying4 _)
  · rw [e1]; exact trodAll_mk1 (shut_string Tryz.underlying9 ws)
  · rw [e1]; rfl

theorem none_said : Rows.StoreNoneSaid :=
  OpenClaim.holds_of_cond 3 Tryz.f3 rfl rfl rfl rfl rfl rfl rfl ⟨rfl, rfl, rfl, rfl, rfl⟩ rfl rfl rfl rfl rfl (by kernel_rfl) Tryz.func3 (by kernel_rfl)
    (of_decide_eq_true (by kernel_rfl)) (by unfold Func.isWrapper; first | (rw [if_pos (by decide +kernel)]; kernel_rfl) | (rw [if_neg (by decide +kernel)]; exact ⟨rfl, rfl⟩))
    (fun os started H enc _ F => by rw [OpenClaim.pre_eq_preRow]; exact none_lifted os started H enc F)

theorem none_plain (f : FuncId) (fn : Func) (hf : Tryz.pinned.checked.prog.funcNamed "interregnum/interregnumlaw22.StoreNone" = some f) (hfn : Tryz.pinned.checked.prog.funcs[f]? = some fn) :
    true = Tryz.pinned.checked.prog.looks [] ∧ ∀ (j : Nat) t, fn.params[j]? = some t → Tryz.pinned.checked.prog.wantsStandIn t = false := by
  obtain rfl : f = 3 := Option.some.inj ((show Tryz.prog.funcNamed "interregnum/interregnumlaw22.StoreNone" = some 3 by kernel_rfl).symm.trans hf) |>.symm
  obtain rfl : fn = Tryz.f3 := (Option.some.inj (Tryz.func3.symm.trans hfn)).symm
  refine ⟨by kernel_rfl, fun j t ht => ?_⟩
  rw [Tryz.params3] at ht
  obtain rfl : t = 9 := by simpa using Array.mem_of_getElem? ht
  exact (show Tryz.prog.wantsStandIn 9 = false by kernel_rfl)

theorem none_card : Rows.StoreNoneCardSaid :=
  Claim7.holds_tied_plain_at .later [] _ _ _ _ none_said (fun _ h => by cases h) (by kernel_rfl) (fun _ h => by cases h) storeNone_row_tie rfl ⟨rfl, rfl⟩ (by kernel_rfl) rfl none_plain (by kernel_rfl)
end Go.Proofs.YtdeabkkgmlimfaaGreatDoor
