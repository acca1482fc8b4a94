/-
  StoreNone: whatever the input, the law returns true, and the input reads as it did. Conditions: those of the given card.
-/
import Derived.Test.YtdeabkkgmlimfaaGreatDoorStore
import Derived.Test.YtdeabkkgmlimfaaGreatDoorCards
import Derived.Test.YtdeabkkgmlimfaaGreatDoorTie
import Derived.WalkKit
import Derived.ProofKit
import Derived.OpenShut
import Derived.Deep.DeepHandedRow
import Derived.Deep.DeepWitnessRowRef
import Derived.Lib.LaidTab
import Derived.Lib.LaidIn
import Derived.Stop.LaidErr

set_option linter.unusedVariables false
set_option linter.unusedSimpArgs false

namespace Go.AM
open Go Go.Proofs
set_option maxRecDepth 100000
variable (mx : Int)

def Dk.dry (D : Dk) : Dk := { D with loose := [], fuse := -1, down := false }

theorem c17e {p : Nat} {D : Dk} {h : H} {ids : List Nat} {keep torn at_ : Int} {Q : QQ} (hd : DAt p D h ids) (hl : D.loose = [])
    (hq : ∀ h' ids', DAt p D.dry h' ids' → Stay h h' ids ids' → Q (.tup []) h') : AC mx 17 [.ptr (some (p, 0)), .int .u64 keep, .int .i64 torn, .int .i64 at_] h Q := by
  refine k17 mx _ _ _ _ ?_
  unfold sh17
  have hok := dat_ok hd
  rw [nilPtr_ptr]
  refine ifB_f rfl ?_
  obtain ⟨bl, t, rfl, hd⟩ := hd
  refine nn <| ld1_ptr hd.hp (c := .lst t 65 (D.loose.map wAV)) rfl ?_
  rw [lenL_lst, List.length_map, hl]
  intro I hI
  refine hI _ _ (ifB_f rfl ?_)
  refine nn <| st_one hd.hp rfl (by show 1 < 4; omega) ?_
  refine nn <| st_one put_same rfl (by show 2 < 4; omega) ?_
  refine nn <| st_one put_same rfl (by show 3 < 4; omega) ?_
  have hnd := hd.nd
  simp only [List.cons_append, List.nil_append, List.nodup_cons, List.mem_cons, not_or] at hnd
  refine hq _ ([p, bl] ++ tids .full) ⟨bl, .full, rfl, ⟨put_same, ?_, trivial, ⟨hok.n, hok.c, by simp [Dk.dry], by simp [Dk.dry], by simp [Dk.dry], by simp [Dk.dry]⟩, ?_⟩⟩ ?_
  · rw [put_other (fun e => hnd.1.1 e.symm), put_other (fun e => hnd.1.1 e.symm), put_other (fun e => hnd.1.1 e.symm), hd.hb]; rfl
  · simp only [tids, List.append_nil, List.nodup_cons, List.mem_singleton, List.not_mem_nil, not_false_eq_true, List.nodup_nil, and_true]; exact hnd.1.1
  · refine ⟨fun c o hc ho => ?_, fun c e hc he => he, fun c hc => ?_⟩
    · have hcp : c ≠ p := by rintro rfl; exact hc (by simp)
      rw [put_other hcp, put_other hcp, put_other hcp]; exact ho
    · simp only [tids, List.append_nil] at hc; exact .inl (by simp only [List.mem_append]; exact .inl hc)

theorem stay_le {h h' : H} {ids : List Nat} (s : Stay h h' [] ids) : h.le h' := ⟨fun b o hb => s.m b o (by simp) hb, fun b e hb => s.t b e (by simp) hb⟩
/-- What only a part of the made things knows of. -/
theorem Stay.more {h h3 h4 : H} {A B B' : List Nat} (s : Stay h h3 [] A) (s4 : Stay h3 h4 B B') (hs : ∀ b ∈ B, b ∈ A) : Stay h h4 [] B' := by
  have hA : ∀ b ∈ A, h.free b := fun b hb => (s.new b hb).elim (fun h => by cases h) id
  refine ⟨fun b o _ ho => s4.m b o (fun hb => ?_) (s.m b o (by simp) ho), fun b e _ he => s4.t b e (fun hb => ?_) (s.t b e (by simp) he), fun b hb => .inr ?_⟩
  · have := (hA b (hs b hb)).1; rw [ho] at this; cases this
  · have := (hA b (hs b hb)).2; rw [he] at this; cases this
  · rcases s4.new b hb with h1 | h1
    · exact hA b (hs b h1)
    · refine ⟨?_, ?_⟩
      · cases hc : h.m b with
        | none => rfl
        | some o => have := s.m b o (by simp) hc; rw [h1.1] at this; cases this
      · cases hc : h.t b with
        | none => rfl
        | some o => have := s.t b o (by simp) hc; rw [h1.2] at this; cases this

theorem k8 {h : H} {Q : QQ} (hx : sh8 (AC mx) h Q) : AC mx 8 [] h Q :=
  @call_of (lc8) (lo8) (jo8) mx 8 Tryz.f8 [] h Q _ Tryz.func8 (by kernel_rfl) (w8 mx (AC mx) h Q) hx

def ansC : Chg := ([97], [49], false)
def ansR : List UInt8 := [49, 58, 97, 50, 58, 43, 49]
theorem ans_rec : recOf [ansC] = ansR := by decide +kernel
noncomputable def ansE : Dk := (openE (newDk 60)).1
noncomputable def ansA : Lg × Dk × Int := appL ⟨1, 31, false⟩ ansE ansR
theorem an1 : (openD (newDk 60)).2 = false := by kernel_rfl
theorem an2 : (openE (newDk 60)).2 = false := by kernel_rfl
theorem an3 : openS (newDk 60) = ([], 31) := by kernel_rfl
theorem an4 : openG (newDk 60) = 1 := by kernel_rfl
theorem an5 : ansA.2.2 = 0 := by kernel_rfl
theorem an6 : ansA.2.1.loose = [] := by kernel_rfl
theorem an6e : ansE.loose = [] := by kernel_rfl
theorem an7 : openS ansA.2.1.dry = ([ansR], 33) := by kernel_rfl
theorem an8 : openG ansA.2.1.dry = 1 := by kernel_rfl
theorem an9 : (openD ansA.2.1.dry).2 = false := by kernel_rfl
theorem an10 : (openE ansA.2.1.dry).2 = false := by kernel_rfl
theorem an11 : ansA.2.1.dry.lasts.length = 60 := by kernel_rfl
theorem an_com : comS ⟨1, 31, false⟩ ansE ([], 0) [ansC] = (ansA.1, ansA.2.1, smChgs ([], 0) [ansC], 0) := by
  have e : fullE (appL ⟨1, 31, false⟩ ansE ansR).2.2 = 0 := by have := an5; unfold ansA at this; rw [this]; rfl
  have ea : apdS ⟨1, 31, false⟩ ansE [] ansR = (ansA.1, ansA.2.1, 0) := by
    unfold apdS
    rw [if_pos (by rw [e]; decide), e]; rfl
  unfold comS
  rw [if_neg (by simp), if_neg (by rw [ans_rec]; decide), ans_rec, ea, if_neg (by simp)]
theorem an_ok : ∀ n, SmOK ((([[ansC]] : List (List Chg)).take n).foldl smChgs ([], 0)) := by
  intro n
  have ok0 : SmOK (([], 0) : SMap × Nat) := ⟨by simp, by simp, by simp, by simp, by simp⟩
  have ok1 : SmOK (smChgs ([], 0) [ansC]) := ⟨by decide, by decide, by decide, by decide, by
    intro e he
    have : e = ([97], [49], 0) := by simpa [smChgs, smChg, ansC, smPut, smFind] using he
    subst this; simp⟩
  cases n with
  | zero => exact ok0
  | succ n => rw [List.take_of_length_le (by simp)]; exact ok1

theorem c8 {h : H} {Q : QQ} (ht : T3 h) (hq : Q (.bool true) h) : AC mx 8 [] h Q := by
  refine ACall.weaken (Q := fun v h' => h.le h' ∧ v = .bool true) ?_ (by rintro v h' ⟨h1, rfl⟩; exact ⟨h, h1, hq⟩)
  refine k8 mx ?_
  unfold sh8
  refine c13 mx (by omega) fun h1 p ids1 hd1 s1 => ?_
  have e60 : newDk (min ((60 : Int)).toNat 1024) = newDk 60 := rfl
  rw [e60] at hd1
  obtain ⟨t1, n1⟩ := s1.keep (by simp) ht
  refine c6 mx (css := []) hd1 t1 n1 (by rw [show (newDk 60).lasts.length = 60 from rfl]; omega) (by rw [show (newDk 60).loose = [] from rfl]; simp) an1 an2 (by rw [an3]; rfl) (by simp) (by simp) (fun n => by simp; exact an_ok 0) fun h2 s q r ids2 x2 s2 => ?_
  rw [onT_OI, an3, an4] at *
  refine ⟨rfl, ?_⟩
  change STat h2 s q r p ⟨1, 31, false⟩ ansE ([], 0) ids2 at x2
  refine c9 mx (cs := [ansC]) x2 (by rw [an6e]; simp) (by simp) (fun c hc => by simp at hc; subst hc; simp [ansC]) (an_ok 1) fun h3 ids3 x3 s3 => ?_
  rw [an_com] at x3 ⊢
  rw [onC_I]
  obtain ⟨js, rfl, w3⟩ := x3.w
  have n3 := x3.n3
  simp only [List.mem_cons, not_or] at n3
  refine c17e mx w3.hd an6 fun h4 js4 hd4 s4 => ?_
  obtain ⟨t4, n4⟩ := s4.keep n3.2 x3.t3
  refine c6 mx (css := [[ansC]]) hd4 t4 n4 (by rw [an11]; omega) (by simp [Dk.dry]) an9 an10 (by rw [an7, List.map_cons, List.map_nil, ans_rec]) (by simp) (fun cs hcs => by simp at hcs; subst hcs; rw [ans_rec]; refine ⟨by simp [ansR], fun c hc => by simp at hc; subst hc; simp [ansC]⟩) an_ok fun h5 s' q' r' ids5 x5 s5 => ?_
  rw [onT_OI]
  have hm : ([[ansC]] : List (List Chg)).foldl smChgs ([], 0) = ([([97], [49], 0)], 1) := by decide
  rw [hm, an7, an8] at x5
  have sall : Stay h h5 [] (s' :: r' :: ids5) := (((s1.trans s2).trans s3).more s4 (by intro b hb; simp [hb])).trans s5
  refine c7 mx x5.st ?_
  have g1 : smGetB [([97], [49], 0)] [97] = [49] := by decide
  have g2 : (smGet [([97], [49], 0)] [97]).isSome = true := by decide
  rw [onT_SB, g1, g2]
  refine ifB_t rfl (ifB_t rfl (ifB_t rfl (ifB_t rfl (ifB_t (by decide) ?_))))
  refine c10 mx x5.st fun t => ?_
  have hk : sortedKeys [(([97] : List UInt8), ([49] : List UInt8), 0)] = [[97]] := by simp [sortedKeys]
  rw [hk, lenL_lst]
  refine ifB_t rfl ?_
  refine c11 mx x5.st x5.w ?_
  rw [onC_I]
  exact ⟨stay_le sall, rfl⟩

theorem c3 {k : List UInt8} {h : H} {Q : QQ} (ht : T3 h) (hq : Q (.bool true) h) : AC mx 3 [.str k] h Q := by
  refine k3 mx _ ?_
  unfold sh3
  refine c6n mx ?_
  rw [onT_OI]
  refine c7n mx ?_
  rw [onT_SB]
  refine c8 mx ht ?_
  rw [onC_B]
  refine ifB_t rfl ?_
  rw [nilPtr_nil]
  refine ifB_t rfl (ifB_t rfl (ifB_t rfl ⟨rfl, ?_⟩))
  refine c9n mx ?_
  rw [onC_I]
  refine ifB_t rfl ?_
  refine c10n mx ?_
  rw [lenL_lst]
  refine ifB_t rfl ?_
  refine c11n mx ?_
  rw [onC_I]
  exact hq
end Go.AM

namespace Go.AM
open Go Go.Proofs Go.RowKit
set_option maxRecDepth 20000

/-- The abstract heap of a first world: the table of powers. -/
def h3 : H := ⟨fun b => if b = 3 then some (.cells 183 (Lib.pow10Tab.map fun z => .int .u64 z)) else none, fun _ => none⟩
def g3 (W : World) : Gh := ⟨fun b i => if b = 3 then none else W.cell? ⟨b, i, none⟩, fun _ => none⟩
theorem h3_t : T3 h3 := rfl

theorem ints_vrs {g : Gh} {k : IntKind} : ∀ (zs : List Int), VRs g (zs.map fun z => AV.int k z) (zs.map fun z => Value.int k z)
  | [] => .nil
  | _ :: zs => .cons (.int _ _) (ints_vrs zs)

theorem rel3 {W : World} (ht : W.heap[3]? = some (.cells (Lib.pow10Tab.map fun z => Value.int .u64 z).toArray 183 (0, 0))) : Rel (g3 W) h3 W where
  im := fun b i v hv => by
    simp only [g3] at hv
    split at hv
    · cases hv
    · exact hv
  lim := fun b l hl => by cases hl
  mm := fun b o ho => by
    simp only [h3] at ho
    split at ho
    · rename_i e
      subst e
      cases ho
      refine ⟨⟨_, ht, rfl, ?_, rfl⟩, fun i => by simp [g3], rfl⟩
      exact ints_vrs _
    · cases ho
  tt := fun b e he => by cases he

theorem gl3 {W : World} {mx : Int} (hm : W.cell? ⟨0, 0, none⟩ = some (.int .i64 mx)) : GlOK (gl0 mx) (g3 W) := fun k => by
  cases k with
  | zero =>
    have := VR.ept (g := g3 W) [.int .i64 mx] 0 [.int .i64 mx] 0 0 (.cons (.int _ _) .nil) (fun i v hv => by
      cases i with
      | zero => simp at hv; subst hv; simpa [g3] using hm
      | succ i => simp at hv)
    exact this
  | succ k => exact .junk _

/-- What a contract says at a first world. -/
theorem calls_of_ac {mx : Int} {f : FuncId} {args : List AV} {W : World} {vs : List Value} (hent : ∀ args w, (callFunc f args).run Tryz.prog w = .ok (.enter f args) w) (hm : W.cell? ⟨0, 0, none⟩ = some (.int .i64 mx))
    (ht : W.heap[3]? = some (.cells (Lib.pow10Tab.map fun z => Value.int .u64 z).toArray 183 (0, 0))) (hv : VRs (g3 W) args vs)
    (hc : AC mx f args h3 fun v h => v = .bool true ∧ h = h3) : Calls Tryz.prog f vs.toArray W fun e W' => e = .returned (.bool true) ∧ Below W.heap.size W W' := by
  have key := hc (g3 W) W vs (gl3 hm) (rel3 ht) hv
  unfold CallsX at key
  rw [hent] at key
  refine key.mono ?_
  intro e W' he
  cases e with
  | returned v =>
    obtain ⟨g', h', av, ⟨rfl, rfl⟩, hi, hvr⟩ := he
    cases hvr
    refine ⟨rfl, hi.os, hi.tape, hi.output, hi.size, fun k hk => ?_⟩
    by_cases h3' : k = 3
    · subst h3'
      obtain ⟨⟨x, hx, ho⟩, _, _⟩ := hi.rel.mm 3 _ (show h3.m 3 = _ from rfl)
      cases x <;> simp only [OR] at ho
      obtain ⟨rfl, ho, rfl⟩ := ho
      rw [hx, ht]
      have := vrs_ints ho
      congr 2
      exact Array.ext' (by rw [this])
    · exact (hi.keep k hk (by simp [h3, h3']) rfl).1
  | _ => exact he.elim
end Go.AM

namespace Go.Proofs.YtdeabkkgmlimfaaGreatDoor
open Go.ChangeShapes Go.WideShapes Go.ChangeAt Go.RowKit Go.Lib
open Go.ChangeMaps (open_string shut_string)
set_option maxRecDepth 20000

theorem own : ownKnob Tryz.prog.godebug = none := by kernel_rfl

/-- What a first world that meets the row's list holds. -/
theorem first_world {W : World} (hL : laidMetH Tryz.prog Rows.storeNoneRow.laid W) (hsh : W.ShapedOpen Tryz.prog) :
    (∃ m, W.cell? ⟨0, 0, none⟩ = some (.int .i64 m)) ∧ W.heap[3]? = some (.cells (Lib.pow10Tab.map fun z => Value.int .u64 z).toArray 183 (0, 0)) := by
  refine ⟨Tryz.laysM219.s1_3 W hsh, ?_⟩
  have hL' : laidMet Tryz.prog Rows.storeNoneRow.laid W := hL
  have htab : Lib.TabIs Tryz.prog W "internal/strconv.uint64pow10" .u64 Lib.pow10Tab :=
    Lib.tabIs_of_head (rest := [("strconv.ErrRange", Rows.laid_strconv_ErrRange), ("strconv.ErrSyntax", Rows.laid_strconv_ErrSyntax)]) (g := 3) (t := 183) (e := 44) (n := 20) (by kernel_rfl) (by kernel_rfl) (by kernel_rfl) (by kernel_rfl) (by kernel_rfl) (by kernel_rfl) hL'.tail.tail
  obtain ⟨cs, h1, _, _⟩ := hsh.1 3 (Array.replicate 20 (.int .u64 0)) 183 (of_decide_eq_true (by kernel_rfl)) (by kernel_rfl)
  unfold Lib.TabIs World.var? at htab
  have hg : Tryz.prog.globalNamed "internal/strconv.uint64pow10" = some 3 := by kernel_rfl
  rw [hg] at htab
  simp only [Option.bind_some, h1] at htab
  rw [h1]
  congr 2
  exact Option.some.inj htab
end Go.Proofs.YtdeabkkgmlimfaaGreatDoor

namespace Go.Proofs.YtdeabkkgmlimfaaGreatDoor
open Go.AM
open Go.ChangeShapes Go.WideShapes Go.ChangeAt Go.RowKit Go.Lib
open Go.ChangeMaps (open_string shut_string)
set_option maxRecDepth 20000

noncomputable abbrev N0 : Nat := (World.settled Tryz.prog default).heap.size
/-- The settled world with two blocks more (the two errors' structs), the five variables holding what their initialisers lay. -/
noncomputable def laidWorld (os : Os) : World :=
  let N := (World.settled Tryz.prog os).heap.size
  let w0 := World.holding Tryz.prog os ⟨#[.cells #[.string ⟨#[118, 97, 108, 117, 101, 32, 111, 117, 116, 32, 111, 102, 32, 114, 97, 110, 103, 101]⟩] 181, .cells #[.string ⟨#[105, 110, 118, 97, 108, 105, 100, 32, 115, 121, 110, 116, 97, 120]⟩] 181], #[], []⟩
  let put (h : Array Obj) (g : Nat) (cs : Array Value) : Array Obj := h.modify g fun
    | .cells _ t frozen => .cells cs t frozen
    | o => o
  let h1 := put (put w0.heap 2 #[.iface 179 (.pointer (some ⟨N, 0, none⟩))]) 1 #[.iface 179 (.pointer (some ⟨N + 1, 0, none⟩))]
  let h2 := put h1 3 (Lib.pow10Tab.map fun z => Value.int .u64 z).toArray
  let h3 := put h2 4 #[.int .u8 0, .int .u8 1, .int .u8 28, .int .u8 2, .int .u8 29, .int .u8 14, .int .u8 24, .int .u8 3, .int .u8 30, .int .u8 22, .int .u8 20, .int .u8 15, .int .u8 25, .int .u8 17, .int .u8 4, .int .u8 8, .int .u8 31, .int .u8 27, .int .u8 13, .int .u8 23, .int .u8 21, .int .u8 19, .int .u8 16, .int .u8 7, .int .u8 26, .int .u8 12, .int .u8 18, .int .u8 6, .int .u8 11, .int .u8 5, .int .u8 10, .int .u8 9]
  let h4 := put h3 5 (([0, 1, 56, 2, 57, 49, 28, 3, 61, 58, 42, 50, 38, 29, 17, 4, 62, 47, 59, 36, 45, 43, 51, 22, 53, 39, 33, 30, 24, 18, 12, 5, 63, 55, 48, 27, 60, 41, 37, 16, 46, 35, 44, 21, 52, 32, 23, 11, 54, 26, 40, 15, 34, 20, 31, 10, 25, 14, 19, 9, 13, 8, 7, 6] : List Int).map fun z => Value.int .u8 z).toArray
  { w0 with heap := h4 }

theorem laid_met (os : Os) (args : Array Value) : laidMet Tryz.prog Rows.storeNoneRow.laid ((laidWorld os).forCall (fun _ _ => 0) ⟨#[], args, []⟩).memory :=
  (LaidIn.of_run (l := Rows.storeNoneRow.laid) [4, 5, 3, 2, N0, 1, N0 + 1] 8 (by kernel_rfl) (by kernel_rfl) (by kernel_rfl) (by kernel_rfl)).met

theorem witness_none (os : Os) {H : Type} (enc : TypeId × Value → H) :
    (OpenSpec.ofChange Rows.storeNoneSpec).preRow enc Tryz.prog Tryz.f3 Rows.storeNoneRow.domain false Rows.storeNoneRow.laid ((laidWorld os).forCall (fun _ _ => 0) ⟨#[], #[.string ⟨#[]⟩], []⟩).memory #[.string ⟨#[]⟩] := by
  have hw : (DataW.whole enc Tryz.prog ((laidWorld os).forCall (fun _ _ => 0) ⟨#[], #[.string ⟨#[]⟩], []⟩).memory Tryz.f3.params.toList Rows.storeNoneSpec.vars false #[Value.string ⟨#[]⟩].toList 8).map (fun x => (x.1, x.2.1)) =
      some ([.lit (.string [])], []) := by kernel_rfl
  obtain ⟨⟨x1, x2, x3⟩, hx, hx1⟩ := Option.map_eq_some_iff.1 hw
  simp only [Prod.mk.injEq] at hx1
  obtain ⟨rfl, rfl⟩ := hx1
  exact OpenSpec.preRow_of_cond 8 hx (by kernel_rfl) (fun k hk => by cases hk) (by kernel_rfl) (laid_met os _)

theorem none_lifted (os : Os) (started : os.Started) (H : Type) (enc : TypeId × Value → H) (F : Stop.Interp) :
    ReturnsInHanded {} Tryz.checked os 3 .any ((OpenSpec.ofChange Rows.storeNoneSpec).preRow enc Tryz.prog Tryz.f3 Rows.storeNoneRow.domain false Rows.storeNoneRow.laid) (((OpenSpec.ofChange Rows.storeNoneSpec).at F).post enc Tryz.prog Tryz.f3 false true false false) := by
  refine returnsInHanded_of_row (C := Tryz.checked) (s := OpenSpec.ofChange Rows.storeNoneSpec) own started (by kernel_rfl) Tryz.func3
    (witness_row_atRef (enc := enc) (C := Tryz.checked) false (laidWorld os) #[.string ⟨#[]⟩] rfl (by kernel_rfl) (by kernel_rfl) (by kernel_rfl) (witness_none os enc)) ?_
  intro W base args ds gs before hval0 hW _ _ _ hL hsh _
  have hval : ∀ (j : Nat) t v, Tryz.f3.params[j]? = some t → args[j]? = some v → Value.okWide Tryz.prog W .any base t v := hval0
  have hW' := hW
  obtain ⟨p, q, hA0, hV0, rfl, _, _⟩ := hW
  have hA : DataW.TrodAll enc Tryz.prog W 0 (fun _ => true) true Tryz.f3.params.toList args.toList ds p := hA0
  rw [Tryz.params3] at hA hval
  obtain ⟨v0, d0, rfl, rfl, h0⟩ := trodAll_one hA
  obtain ⟨rfl, rfl⟩ := trodVars_none hV0
  obtain ⟨s, rfl, rfl, rfl, ws⟩ := open_string Tryz.underlying9 (hval 0 9 v0 rfl rfl) h0
  clear hA0 hV0 hval0
  obtain ⟨⟨m, hm⟩, ht⟩ := first_world hL hsh
  have run := calls_of_ac (f := 3) (vs := [.string s]) (args := [.str s.data.toList]) (enters_of Tryz.func3 (by kernel_rfl) rfl) hm ht (.cons (.str s.data.toList) .nil) (c3 m h3_t ⟨rfl, rfl⟩)
  refine run.mono ?_
  rintro e W' ⟨rfl, bel⟩
  have e1 : ((OpenSpec.ofChange Rows.storeNoneSpec).at F).fn H ([.lit (.string s.data.toList)] ++ []) = { results := [.lit (.bool true)], args := [.lit (.string s.data.toList)] } := rfl
  refine ⟨_, rfl, _, _, _, [], [], [], hW', ?_, ?_, ?_, bel.frame _, fun h => by cases h⟩
  · rw [e1]; exact trodAll_mk1 (shut_bool Tryz.underlying4 _)
  · rw [e1]; exact trodAll_mk1 (shut_string Tryz.underlying9 ws)
  · rw [e1]; rfl

theorem none_said : Rows.StoreNoneSaid :=
  OpenClaim.holds_of_cond 3 Tryz.f3 rfl rfl rfl rfl rfl rfl rfl ⟨rfl, rfl, rfl, rfl, rfl⟩ rfl rfl rfl rfl rfl (by kernel_rfl) Tryz.func3 (by kernel_rfl)
    (of_decide_eq_true (by kernel_rfl)) (by unfold Func.isWrapper; first | (rw [if_pos (by decide +kernel)]; kernel_rfl) | (rw [if_neg (by decide +kernel)]; exact ⟨rfl, rfl⟩))
    (fun os started H enc _ F => by rw [OpenClaim.pre_eq_preRow]; exact none_lifted os started H enc F)

theorem none_plain (f : FuncId) (fn : Func) (hf : Tryz.pinned.checked.prog.funcNamed "interregnum/interregnumlaw22.StoreNone" = some f) (hfn : Tryz.pinned.checked.prog.funcs[f]? = some fn) :
    true = Tryz.pinned.checked.prog.looks [] ∧ ∀ (j : Nat) t, fn.params[j]? = some t → Tryz.pinned.checked.prog.wantsStandIn t = false := by
  obtain rfl : f = 3 := Option.some.inj ((show Tryz.prog.funcNamed "interregnum/interregnumlaw22.StoreNone" = some 3 by kernel_rfl).symm.trans hf) |>.symm
  obtain rfl : fn = Tryz.f3 := (Option.some.inj (Tryz.func3.symm.trans hfn)).symm
  refine ⟨by kernel_rfl, fun j t ht => ?_⟩
  rw [Tryz.params3] at ht
  obtain rfl : t = 9 := by simpa using Array.mem_of_getElem? ht
  exact (show Tryz.prog.wantsStandIn 9 = false by kernel_rfl)

theorem none_card : Rows.StoreNoneCardSaid :=
  Claim7.holds_tied_plain_at .later [] _ _ _ _ none_said (fun _ h => by cases h) (by kernel_rfl) (fun _ h => by cases h) storeNone_row_tie rfl ⟨rfl, rfl⟩ (by kernel_rfl) rfl none_plain (by kernel_rfl)
end Go.Proofs.YtdeabkkgmlimfaaGreatDoor
